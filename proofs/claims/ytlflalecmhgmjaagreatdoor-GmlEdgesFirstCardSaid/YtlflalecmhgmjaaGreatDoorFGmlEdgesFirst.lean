/- GmlEdgesFirst returns true whatever the input, and what stood in memory is as it was; the tables are as the program's text lays them. Conditions: none. -/
import Derived.Test.YtlflalecmhgmjaaGreatDoorCards
import Derived.Test.YtlflalecmhgmjaaGreatDoorTie
import Derived.Test.YtlflalecmhgmjaaGreatDoorWUp
import Derived.Test.YtlflalecmhgmjaaGreatDoorXNet
import Derived.WalkKit
import Derived.ProofKit
import Derived.OpenShut
import Derived.ShutString
import Derived.SevenTiedAt
set_option linter.unusedVariables false
set_option linter.unusedSimpArgs false
namespace Go.Proofs.YtlflalecmhgmjaaGreatDoor.gmlEdgesFirst
open Go.ChangeShapes Go.WideShapes Go.ChangeAt Go.RowKit
theorem own : ownKnob Tryz.prog.godebug = none := by kernel_rfl
theorem laidOut : laidOutB Tryz.prog = true := by kernel_rfl
set_option maxRecDepth 100000 in
theorem lifted (os : Os) (started : os.Started) (H : Type) (enc : TypeId × Value -> H) :
  ReturnsInHanded {} Tryz.checked os 11 .any (fun w args => (Rows.gmlEdgesFirstSpec.pre enc Tryz.prog Tryz.f11 [] false w args /\ laidMetH Tryz.prog Rows.gmlEdgesFirstRow.laid w) /\ sizedMet enc Tryz.prog Tryz.f11 (OpenSpec.ofChange Rows.gmlEdgesFirstSpec) false w args)
   (Rows.gmlEdgesFirstSpec.post enc Tryz.prog Tryz.f11 false true false false) := by
 refine Go.X.returns_change_shaped (C := Tryz.checked) (X := fun w _ => laidMetH Tryz.prog Rows.gmlEdgesFirstRow.laid w) (fun _ _ _ hh h => h.of_heap hh) own started (by kernel_rfl) Tryz.func11
  (ChangeSpec.witness_shaped (enc := enc) (C := Tryz.checked) (os := os) (X := fun w _ => laidMetH Tryz.prog Rows.gmlEdgesFirstRow.laid w) false (World.laidAll Tryz.prog os Rows.gmlLabelsRow.laid) #[.agg #[.int .i64 0, .slice none 0 0], .int .i32 0, .bool false] 8 (World.laidAll_os _ _ _)
   (World.shaped_of_ZipB (by kernel_rfl) (by kernel_rfl)) (by kernel_rfl) (by kernel_rfl) (by kernel_rfl) (N.met os _)) ?_
 intro W base args ds gs before hval0 hW hL hS
 have hval : ∀ (j : Nat) t v, Tryz.f11.params[j]? = some t -> args[j]? = some v -> Value.okWide Tryz.prog W .any base t v := hval0
 have hW' := hW
 obtain ⟨p, q, hA0, hV, rfl, hfz, hnd⟩ := hW
 have hA : DataW.TrodAll enc Tryz.prog W 0 (fun _ => true) true Tryz.f11.params.toList args.toList ds p := hA0
 rw [Tryz.params11] at hA hval
 obtain ⟨v0, vs0, d0, ds0, p0, q0, hargs, rfl, rfl, h0, r0⟩ := trodAll_cons hA
 obtain ⟨v1, vs1, d1, ds1, p1, q1, rfl, rfl, rfl, h1, r1⟩ := trodAll_cons r0
 obtain ⟨v2, vs2, d2, ds2, p2, q2, rfl, rfl, rfl, h2, r2⟩ := trodAll_cons r1
 obtain ⟨rfl, rfl, rfl⟩ := trodAll_nil r2
 obtain rfl : args = #[v0, v1, v2] := by cases args; simp_all
 obtain ⟨rfl, rfl⟩ := trodVars_none hV
 have lt0 : ∀ x ∈ p0, x.block < W.heap.size := by obtain ⟨m, hm⟩ := h0; exact DataW.trod_lt m _ _ _ hm
 have lt1 : ∀ x ∈ p1, x.block < W.heap.size := by obtain ⟨m, hm⟩ := h1; exact DataW.trod_lt m _ _ _ hm
 have lt2 : ∀ x ∈ p2, x.block < W.heap.size := by obtain ⟨m, hm⟩ := h2; exact DataW.trod_lt m _ _ _ hm
 obtain ⟨n0, a0, l0, c0, z0, rfl, g0, b0⟩ := Go.X.net_open (enc := enc) Tryz.underlying24 rfl rfl rfl rfl Tryz.underlying3 Tryz.underlying22 Tryz.underlying48 (by kernel_rfl) (by kernel_rfl) (by kernel_rfl) (by kernel_rfl) (by kernel_rfl) (hval 0 24 v0 rfl rfl) h0
 have L0 : z0.length <= 9223372036854775807 := Nat.le_trans (Nat.le_of_eq g0.2.1) (Go.X.net_len (ti := 3) Tryz.underlying24 Tryz.underlying22 (by kernel_rfl) (hval 0 24 _ rfl rfl))
 obtain ⟨a1, rfl, e1, w1⟩ : ∃ x : Int, v1 = .int .i32 x /\ d1 = .lit (.int .i32 x) /\ (Lit.int .i32 x).wf = true := by
  obtain ⟨x, hx1, hx2, hx3, hx4⟩ := open_int Tryz.underlying21 (hval 1 21 v1 rfl rfl) h1
  exact ⟨x, hx1, hx2, hx4⟩
 obtain ⟨a2, rfl⟩ := okWide_bool Tryz.underlying4 (hval 2 4 v2 rfl rfl)
 obtain ⟨gl, hG⟩ := N.glOf hL hS
 clear hA0 hval0
 refine (Go.X.calls_below (v := Value.bool true) ((N.okEdgesFirst (Go.X.Hp.vw (c := Go.X.Ck.glob gl) hG rfl (Go.X.Hp.vw g0 rfl (Go.X.Hp.nil _) rfl) rfl) L0).mono fun v' h' r => ⟨r.2, r.1⟩)).mono fun e W' ⟨he, bel⟩ => ?_
 subst he
 exact ⟨_, rfl, _, _, _, [], _, [], hW', trodAll_mk1 (shut_bool Tryz.underlying4 _), (trodAll_cons_mk (Below.trod laidOut (by kernel_rfl) (of_decide_eq_true (by kernel_rfl)) h0 bel lt0) (trodAll_cons_mk (Below.trod laidOut (by kernel_rfl) (of_decide_eq_true (by kernel_rfl)) h1 bel lt1) (trodAll_cons_mk (Below.trod laidOut (by kernel_rfl) (of_decide_eq_true (by kernel_rfl)) h2 bel lt2) trodAll_mk0))), rfl, bel.frame _, fun h => by cases h⟩
set_option maxRecDepth 100000
theorem fact0 : (Rows.gmlEdgesFirstRow.wf (OpenSpec.ofChange Rows.gmlEdgesFirstSpec)) = true := by kernel_rfl
theorem fact3 : (Tryz.f11.params.all (Tryz.pinned.checked.prog.readableRec ·)) = true := by kernel_rfl
theorem fact4 : (namedTie Tryz.pinned.checked.prog Rows.gmlEdgesFirstRow.named Rows.gmlEdgesFirstSpec.vars) = true := by kernel_rfl
theorem fact5 : ((Rows.gmlEdgesFirstRow.stops == [])) = true := by kernel_rfl
theorem fact7 : ((Rows.gmlEdgesFirstRow.knobs == [])) = true := by kernel_rfl
theorem fact9 : ((Rows.gmlEdgesFirstRow.inPlace == Tryz.pinned.checked.prog.inPlace 11)) = true := by kernel_rfl
theorem fact10 : ((Rows.gmlEdgesFirstRow.unfollowed == Tryz.pinned.checked.prog.unfollowed 11)) = true := by kernel_rfl
theorem fact11 : ((Rows.gmlEdgesFirstRow.recurses == Tryz.pinned.checked.prog.recurses 11)) = true := by kernel_rfl
theorem fact12 : ((Rows.gmlEdgesFirstRow.named == Tryz.pinned.checked.prog.varsNamed 11)) = true := by kernel_rfl
theorem fact13 : ((Rows.gmlEdgesFirstRow.maps == (Tryz.f11.params.toList ++ Rows.gmlEdgesFirstSpec.plain.varTypes Tryz.pinned.checked.prog).any (Tryz.pinned.checked.prog.mapsRec ·))) = true := by kernel_rfl
theorem fact14 : ((Rows.gmlEdgesFirstRow.ifaces == (Tryz.f11.params.toList ++ Rows.gmlEdgesFirstSpec.plain.varTypes Tryz.pinned.checked.prog).any (Tryz.pinned.checked.prog.ifacesRec ·))) = true := by kernel_rfl
theorem fact15 : ((Rows.gmlEdgesFirstRow.mapsOut == Tryz.pinned.checked.prog.mapsAmong Tryz.f11.resultTypes.toList)) = true := by kernel_rfl
theorem fact16 : ((Rows.gmlEdgesFirstRow.loops == (Tryz.f11.params.toList ++ Rows.gmlEdgesFirstSpec.plain.varTypes Tryz.pinned.checked.prog).any (Tryz.pinned.checked.prog.loopsFrom ·))) = true := by kernel_rfl
theorem fact17 : ((Rows.gmlEdgesFirstRow.wideKeys == (Tryz.f11.params.toList ++ Rows.gmlEdgesFirstSpec.plain.varTypes Tryz.pinned.checked.prog ++ Tryz.f11.resultTypes.toList).any (Tryz.pinned.checked.prog.wideKeysFrom ·))) = true := by kernel_rfl
theorem fact18 : (Rows.gmlEdgesFirstSpec.vars.all (Tryz.pinned.checked.prog.varReadable ·)) = true := by kernel_rfl
theorem fact19 : (Tryz.f11.resultTypes.all (fun t => Tryz.pinned.checked.prog.readableRec t && decide (t < Tryz.pinned.checked.prog.types.size))) = true := by kernel_rfl
theorem fact20 : ((Rows.gmlEdgesFirstRow.ifacesOut == Tryz.f11.resultTypes.toList.any (Tryz.pinned.checked.prog.ifacesRec ·))) = true := by kernel_rfl
theorem fact21 : ((Rows.gmlEdgesFirstRow.loopsOut == Tryz.f11.resultTypes.toList.any (Tryz.pinned.checked.prog.loopsFrom ·))) = true := by kernel_rfl
theorem fact22 : ((Rows.gmlEdgesFirstRow.plainKeys == Tryz.pinned.checked.prog.plainKeys)) = true := by kernel_rfl
theorem fact23 : (Rows.gmlEdgesFirstRow.shortTexts.isNone) = true := by kernel_rfl
theorem fact28 : ((Rows.gmlEdgesFirstRow.kinds == (if Rows.gmlEdgesFirstRow.domain.isEmpty then [] else Tryz.f11.params.toList.map fun t => match Tryz.pinned.checked.prog.underlying t with | some (.int k) => some k | _ => none))) = true := by kernel_rfl
theorem fact29 : ((Rows.gmlEdgesFirstRow.pinned == Rows.gmlEdgesFirstRow.pinnedBy)) = true := by kernel_rfl
theorem fact30 : ((Rows.gmlEdgesFirstRow.veiled == (Tryz.f11.params.toList ++ Rows.gmlEdgesFirstSpec.plain.varTypes Tryz.pinned.checked.prog ++ Tryz.f11.resultTypes.toList).any (Tryz.pinned.checked.prog.veiledRec ·))) = true := by kernel_rfl
theorem fact31 : (Rows.gmlEdgesFirstRow.veiledFits Tryz.pinned.checked.prog Tryz.f11.params.toList (Tryz.f11.params.toList ++ Rows.gmlEdgesFirstSpec.plain.varTypes Tryz.pinned.checked.prog ++ Tryz.f11.resultTypes.toList)) = true := by kernel_rfl
theorem facts : joinedFacts Tryz.pinned.checked.prog 11 Tryz.f11 Rows.gmlEdgesFirstSpec Rows.gmlEdgesFirstRow = true :=
 Go.X.joinedFacts_of fact0 wide1 wide2 fact3 fact4 fact5 wide6 fact7 wide8 fact9 fact10 fact11 fact12 fact13 fact14 fact15 fact16 fact17 fact18 fact19 fact20 fact21 fact22 fact23 wide24 may_enter lifts_not rfl make_is rfl fact28 fact29 fact30 fact31
theorem over : Rows.gmlEdgesFirstRow.holds Tryz.pinned (OpenSpec.ofChange Rows.gmlEdgesFirstSpec) :=
 OpenClaim.holds_of_wide 11 Tryz.f11 rfl rfl rfl rfl rfl rfl rfl ⟨rfl, rfl, rfl, rfl, rfl⟩ rfl rfl rfl rfl rfl (by kernel_rfl) Tryz.func11 facts
  (of_decide_eq_true (by kernel_rfl)) (by unfold Func.isWrapper; first | (rw [if_pos (by decide +kernel)]; kernel_rfl) | (rw [if_neg (by decide +kernel)]; exact ⟨rfl, rfl⟩))
  (fun os started H enc _ => lifted os started H enc)
theorem goes_is : false = Rows.gmlEdgesFirstRow.goesBy Tryz.pinned.checked.prog := by kernel_rfl
theorem wfText_is : Rows.gmlEdgesFirstRow.wfByText (OpenSpec.ofChange Rows.gmlEdgesFirstSpec) = true := by kernel_rfl
theorem card_holds : Claim7.holds Tryz.pinned (.plain (OpenSpec.ofChange Rows.gmlEdgesFirstSpec)) Rows.gmlEdgesFirstCard :=
 Claim7.holds_tied_plain_at .later [] [.data, .data, .widerDeep, .widerDeep, .data, .data, .data, .data, .data, .data, .sentinel, .sentinel, .pinned, .pinned, .pinned] true (true, "d922b2127d093973f6e6fbd7a9555f957fa87eb9f160689ab833719c0eaf783b") true
  over (fun _ h => by cases h) wfText_is (fun _ h => by cases h) gmlEdgesFirst_row_tie rfl ⟨rfl, rfl⟩ main_is rfl
  (fun f fn hf hfn => by
   obtain rfl : f = 11 := Option.some.inj ((show Tryz.prog.funcNamed "tracery/tracerylaw30.GmlEdgesFirst" = some 11 by kernel_rfl).symm.trans hf) |>.symm
   obtain rfl : fn = Tryz.f11 := (Option.some.inj (Tryz.func11.symm.trans hfn)).symm
   exact ⟨looks_is, fun j t ht => by
    rw [Tryz.params11] at ht
    have hm : t ∈ [24, 21, 4] := by simpa using Array.mem_of_getElem? ht
    have hall : ([24, 21, 4].all fun u => !Tryz.prog.wantsStandIn u) = true := by kernel_rfl
    exact (show Tryz.prog.wantsStandIn t = false by simpa using List.all_eq_true.1 hall t hm)⟩)
  goes_is
end Go.Proofs.YtlflalecmhgmjaaGreatDoor.gmlEdgesFirst
namespace Go.Proofs.YtlflalecmhgmjaaGreatDoor
theorem gmlEdgesFirst_said : Rows.GmlEdgesFirstCardSaid := gmlEdgesFirst.card_holds
end Go.Proofs.YtlflalecmhgmjaaGreatDoor
