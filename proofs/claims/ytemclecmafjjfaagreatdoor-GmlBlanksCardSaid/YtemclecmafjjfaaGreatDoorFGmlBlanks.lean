/- GmlBlanks returns true whatever the input, and what stood in memory is as it was; the tables are as the program's text lays them. Conditions: none. -/
import Derived.Test.YtemclecmafjjfaaGreatDoorCards
import Derived.Test.YtemclecmafjjfaaGreatDoorTie
import Derived.Test.YtemclecmafjjfaaGreatDoorKBl2
import Derived.Test.YtemclecmafjjfaaGreatDoorWDoc
import Derived.WalkKit
import Derived.ProofKit
import Derived.OpenShut
import Derived.ShutString
import Derived.SevenTiedAt
set_option linter.unusedVariables false
set_option linter.unusedSimpArgs false
namespace Go.Proofs.YtemclecmafjjfaaGreatDoor.gmlBlanks
open Go.ChangeShapes Go.WideShapes Go.ChangeAt Go.RowKit
theorem own : ownKnob Tryz.prog.godebug = none := by kernel_rfl
theorem laidOut : laidOutB Tryz.prog = true := by kernel_rfl
set_option maxRecDepth 100000 in
theorem lifted (os : Os) (started : os.Started) (H : Type) (enc : TypeId × Value -> H) :
  ReturnsInHanded {} Tryz.checked os 4 .any (fun w args => (Rows.gmlBlanksSpec.pre enc Tryz.prog Tryz.f4 [] false w args /\ laidMetH Tryz.prog Rows.gmlBlanksRow.laid w) /\ sizedMet enc Tryz.prog Tryz.f4 (OpenSpec.ofChange Rows.gmlBlanksSpec) false w args)
   (Rows.gmlBlanksSpec.post enc Tryz.prog Tryz.f4 false true false false) := by
 refine Go.X.iW (C := Tryz.checked) (X := fun w _ => laidMetH Tryz.prog Rows.gmlBlanksRow.laid w) (fun _ _ _ hh h => h.of_heap hh) own started (by kernel_rfl) Tryz.func4
  (ChangeSpec.witness_shaped (enc := enc) (C := Tryz.checked) (os := os) (X := fun w _ => laidMetH Tryz.prog Rows.gmlBlanksRow.laid w) false (World.laidAll Tryz.prog os Rows.gmlBackRow.laid) #[.agg #[.int .i64 0, .slice none 0 0, .bool false, .slice none 0 0, .slice none 0 0, .slice none 0 0], .slice none 0 0] 8 (World.laidAll_os _ _ _)
   (World.shaped_of_ZipB (by kernel_rfl) (by kernel_rfl)) (by kernel_rfl) (by kernel_rfl) (by kernel_rfl) (N.met os _)) ?_
 intro W base args ds gs before hval0 hW hL hS
 have hval : ∀ (j : Nat) t v, Tryz.f4.params[j]? = some t -> args[j]? = some v -> Value.okWide Tryz.prog W .any base t v := hval0
 have hW' := hW
 obtain ⟨p, q, hA0, hV, rfl, hfz, hnd⟩ := hW
 have hA : DataW.TrodAll enc Tryz.prog W 0 (fun _ => true) true Tryz.f4.params.toList args.toList ds p := hA0
 rw [Tryz.params4] at hA hval
 obtain ⟨v0, vs0, d0, ds0, p0, q0, hargs, rfl, rfl, h0, r0⟩ := trodAll_cons hA
 obtain ⟨v1, vs1, d1, ds1, p1, q1, rfl, rfl, rfl, h1, r1⟩ := trodAll_cons r0
 obtain ⟨rfl, rfl, rfl⟩ := trodAll_nil r1
 obtain rfl : args = #[v0, v1] := by cases args; simp_all
 obtain ⟨rfl, rfl⟩ := trodVars_none hV
 have lt0 : ∀ x ∈ p0, x.block < W.heap.size := by obtain ⟨m, hm⟩ := h0; exact DataW.trod_lt m _ _ _ hm
 have lt1 : ∀ x ∈ p1, x.block < W.heap.size := by obtain ⟨m, hm⟩ := h1; exact DataW.trod_lt m _ _ _ hm
 obtain ⟨m0, u0, D0⟩ := N.Cg (enc := enc) (hval 0 29 v0 rfl rfl) h0
 obtain rfl := D0.v
 obtain ⟨a1, l1, c1, rfl⟩ := okWide_slice Tryz.underlying25 (hval 1 25 v1 rfl rfl)
 obtain ⟨z1, g1, y1⟩ := Go.X.pd (enc := enc) Tryz.underlying25 Tryz.underlying9 (by kernel_rfl) (fun x e => Go.X.zL Tryz.underlying25 (e ▸ hval 1 25 _ rfl rfl)) h1
 obtain ⟨gl, hG⟩ := N.NB hL hS
 clear hA0 hval0
 refine (Go.X.vm (v := Value.bool true) ((N.AF (Go.X.Hp.vw (c := Go.X.Ck.glob gl) hG rfl (Go.X.Hp.vw D0.eE rfl (Go.X.Hp.vw D0.eL rfl (Go.X.Hp.vw D0.eS rfl (Go.X.Hp.vw D0.eW rfl (Go.X.Hp.vw g1 rfl (Go.X.Hp.nil _) rfl) rfl) rfl) rfl) rfl) rfl) D0.ls D0.ss D0.ws).mono fun v' h' r => ⟨r.2, r.1⟩)).mono fun e W' ⟨he, bel⟩ => ?_
 subst he
 exact ⟨_, rfl, _, _, _, [], _, [], hW', trodAll_mk1 (shut_bool Tryz.underlying4 _), (trodAll_cons_mk (Below.trod laidOut (by kernel_rfl) (of_decide_eq_true (by kernel_rfl)) h0 bel lt0) (trodAll_cons_mk (Below.trod laidOut (by kernel_rfl) (of_decide_eq_true (by kernel_rfl)) h1 bel lt1) trodAll_mk0)), rfl, bel.frame _, fun h => by cases h⟩
set_option maxRecDepth 100000
theorem fact0 : (Rows.gmlBlanksRow.wf (OpenSpec.ofChange Rows.gmlBlanksSpec)) = true := by kernel_rfl
theorem fact3 : (Tryz.f4.params.all (Tryz.pinned.checked.prog.readableRec ·)) = true := by kernel_rfl
theorem fact4 : (namedTie Tryz.pinned.checked.prog Rows.gmlBlanksRow.named Rows.gmlBlanksSpec.vars) = true := by kernel_rfl
theorem fact5 : ((Rows.gmlBlanksRow.stops == [])) = true := by kernel_rfl
theorem fact7 : ((Rows.gmlBlanksRow.knobs == [])) = true := by kernel_rfl
theorem fact9 : ((Rows.gmlBlanksRow.inPlace == Tryz.pinned.checked.prog.inPlace 4)) = true := by kernel_rfl
theorem fact10 : ((Rows.gmlBlanksRow.unfollowed == Tryz.pinned.checked.prog.unfollowed 4)) = true := by kernel_rfl
theorem fact11 : ((Rows.gmlBlanksRow.recurses == Tryz.pinned.checked.prog.recurses 4)) = true := by kernel_rfl
theorem fact12 : ((Rows.gmlBlanksRow.named == Tryz.pinned.checked.prog.varsNamed 4)) = true := by kernel_rfl
theorem fact13 : ((Rows.gmlBlanksRow.maps == (Tryz.f4.params.toList ++ Rows.gmlBlanksSpec.plain.varTypes Tryz.pinned.checked.prog).any (Tryz.pinned.checked.prog.mapsRec ·))) = true := by kernel_rfl
theorem fact14 : ((Rows.gmlBlanksRow.ifaces == (Tryz.f4.params.toList ++ Rows.gmlBlanksSpec.plain.varTypes Tryz.pinned.checked.prog).any (Tryz.pinned.checked.prog.ifacesRec ·))) = true := by kernel_rfl
theorem fact15 : ((Rows.gmlBlanksRow.mapsOut == Tryz.pinned.checked.prog.mapsAmong Tryz.f4.resultTypes.toList)) = true := by kernel_rfl
theorem fact16 : ((Rows.gmlBlanksRow.loops == (Tryz.f4.params.toList ++ Rows.gmlBlanksSpec.plain.varTypes Tryz.pinned.checked.prog).any (Tryz.pinned.checked.prog.loopsFrom ·))) = true := by kernel_rfl
theorem fact17 : ((Rows.gmlBlanksRow.wideKeys == (Tryz.f4.params.toList ++ Rows.gmlBlanksSpec.plain.varTypes Tryz.pinned.checked.prog ++ Tryz.f4.resultTypes.toList).any (Tryz.pinned.checked.prog.wideKeysFrom ·))) = true := by kernel_rfl
theorem fact18 : (Rows.gmlBlanksSpec.vars.all (Tryz.pinned.checked.prog.varReadable ·)) = true := by kernel_rfl
theorem fact19 : (Tryz.f4.resultTypes.all (fun t => Tryz.pinned.checked.prog.readableRec t && decide (t < Tryz.pinned.checked.prog.types.size))) = true := by kernel_rfl
theorem fact20 : ((Rows.gmlBlanksRow.ifacesOut == Tryz.f4.resultTypes.toList.any (Tryz.pinned.checked.prog.ifacesRec ·))) = true := by kernel_rfl
theorem fact21 : ((Rows.gmlBlanksRow.loopsOut == Tryz.f4.resultTypes.toList.any (Tryz.pinned.checked.prog.loopsFrom ·))) = true := by kernel_rfl
theorem fact22 : ((Rows.gmlBlanksRow.plainKeys == Tryz.pinned.checked.prog.plainKeys)) = true := by kernel_rfl
theorem fact23 : (Rows.gmlBlanksRow.shortTexts.isNone) = true := by kernel_rfl
theorem fact28 : ((Rows.gmlBlanksRow.kinds == (if Rows.gmlBlanksRow.domain.isEmpty then [] else Tryz.f4.params.toList.map fun t => match Tryz.pinned.checked.prog.underlying t with | some (.int k) => some k | _ => none))) = true := by kernel_rfl
theorem fact29 : ((Rows.gmlBlanksRow.pinned == Rows.gmlBlanksRow.pinnedBy)) = true := by kernel_rfl
theorem fact30 : ((Rows.gmlBlanksRow.veiled == (Tryz.f4.params.toList ++ Rows.gmlBlanksSpec.plain.varTypes Tryz.pinned.checked.prog ++ Tryz.f4.resultTypes.toList).any (Tryz.pinned.checked.prog.veiledRec ·))) = true := by kernel_rfl
theorem fact31 : (Rows.gmlBlanksRow.veiledFits Tryz.pinned.checked.prog Tryz.f4.params.toList (Tryz.f4.params.toList ++ Rows.gmlBlanksSpec.plain.varTypes Tryz.pinned.checked.prog ++ Tryz.f4.resultTypes.toList)) = true := by kernel_rfl
theorem facts : joinedFacts Tryz.pinned.checked.prog 4 Tryz.f4 Rows.gmlBlanksSpec Rows.gmlBlanksRow = true :=
 Go.X.oA fact0 LR LU fact3 fact4 fact5 LV fact7 LW fact9 fact10 fact11 fact12 fact13 fact14 fact15 fact16 fact17 fact18 fact19 fact20 fact21 fact22 fact23 IG zg zh rfl FK rfl fact28 fact29 fact30 fact31
theorem over : Rows.gmlBlanksRow.holds Tryz.pinned (OpenSpec.ofChange Rows.gmlBlanksSpec) :=
 OpenClaim.holds_of_wide 4 Tryz.f4 rfl rfl rfl rfl rfl rfl rfl ⟨rfl, rfl, rfl, rfl, rfl⟩ rfl rfl rfl rfl rfl (by kernel_rfl) Tryz.func4 facts
  (of_decide_eq_true (by kernel_rfl)) (by unfold Func.isWrapper; first | (rw [if_pos (by decide +kernel)]; kernel_rfl) | (rw [if_neg (by decide +kernel)]; exact ⟨rfl, rfl⟩))
  (fun os started H enc _ => lifted os started H enc)
theorem goes_is : false = Rows.gmlBlanksRow.goesBy Tryz.pinned.checked.prog := by kernel_rfl
theorem wfText_is : Rows.gmlBlanksRow.wfByText (OpenSpec.ofChange Rows.gmlBlanksSpec) = true := by kernel_rfl
theorem card_holds : Claim7.holds Tryz.pinned (.plain (OpenSpec.ofChange Rows.gmlBlanksSpec)) Rows.gmlBlanksCard :=
 Claim7.holds_tied_plain_at .later [] [.data, .data, .widerDeep, .widerDeep, .data, .data, .data, .data, .data, .data, .sentinel, .sentinel, .pinned, .pinned, .pinned] true (true, "28fa3ce493b9e7033f3d521e5950e8ab21fefd709d40817d7b93e5768c22cff1") true
  over (fun _ h => by cases h) wfText_is (fun _ h => by cases h) gmlBlanks_row_tie rfl ⟨rfl, rfl⟩ FC rfl
  (fun f fn hf hfn => by
   obtain rfl : f = 4 := Option.some.inj ((show Tryz.prog.funcNamed "tracery/tracerylaw30.GmlBlanks" = some 4 by kernel_rfl).symm.trans hf) |>.symm
   obtain rfl : fn = Tryz.f4 := (Option.some.inj (Tryz.func4.symm.trans hfn)).symm
   exact ⟨Ce, fun j t ht => by
    rw [Tryz.params4] at ht
    have hm : t ∈ [29, 25] := by simpa using Array.mem_of_getElem? ht
    have hall : ([29, 25].all fun u => !Tryz.prog.wantsStandIn u) = true := by kernel_rfl
    exact (show Tryz.prog.wantsStandIn t = false by simpa using List.all_eq_true.1 hall t hm)⟩)
  goes_is
end Go.Proofs.YtemclecmafjjfaaGreatDoor.gmlBlanks
namespace Go.Proofs.YtemclecmafjjfaaGreatDoor
theorem gmlBlanks_said : Rows.GmlBlanksCardSaid := gmlBlanks.card_holds
end Go.Proofs.YtemclecmafjjfaaGreatDoor
