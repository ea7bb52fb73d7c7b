/- GmlLabels returns true whatever the input, and what stood in memory is as it was; the tables are as the program's text lays them. Conditions: none. -/
import Derived.Test.YtlflalecmhgmjaaGreatDoorCards
import Derived.Test.YtlflalecmhgmjaaGreatDoorTie
import Derived.Test.YtlflalecmhgmjaaGreatDoorKLab
import Derived.Test.YtlflalecmhgmjaaGreatDoorWCard
import Derived.WalkKit
import Derived.ProofKit
import Derived.OpenShut
import Derived.ShutString
import Derived.SevenTiedAt
set_option linter.unusedVariables false
set_option linter.unusedSimpArgs false
namespace Go.Proofs.YtlflalecmhgmjaaGreatDoor.gmlLabels
open Go.ChangeShapes Go.WideShapes Go.ChangeAt Go.RowKit
theorem own : ownKnob Tryz.prog.godebug = none := by kernel_rfl
theorem laidOut : laidOutB Tryz.prog = true := by kernel_rfl
set_option maxRecDepth 100000 in
theorem lifted (os : Os) (started : os.Started) (H : Type) (enc : TypeId × Value -> H) :
  ReturnsInHanded {} Tryz.checked os 10 .any (fun w args => (Rows.gmlLabelsSpec.pre enc Tryz.prog Tryz.f10 [] false w args /\ laidMetH Tryz.prog Rows.gmlLabelsRow.laid w) /\ sizedMet enc Tryz.prog Tryz.f10 (OpenSpec.ofChange Rows.gmlLabelsSpec) false w args)
   (Rows.gmlLabelsSpec.post enc Tryz.prog Tryz.f10 false true false false) := by
 refine Go.X.returns_change_shaped (C := Tryz.checked) (X := fun w _ => laidMetH Tryz.prog Rows.gmlLabelsRow.laid w) (fun _ _ _ hh h => h.of_heap hh) own started (by kernel_rfl) Tryz.func10
  (ChangeSpec.witness_shaped (enc := enc) (C := Tryz.checked) (os := os) (X := fun w _ => laidMetH Tryz.prog Rows.gmlLabelsRow.laid w) false (World.laidAll Tryz.prog os Rows.gmlLabelsRow.laid) #[.slice none 0 0] 8 (World.laidAll_os _ _ _)
   (World.shaped_of_ZipB (by kernel_rfl) (by kernel_rfl)) (by kernel_rfl) (by kernel_rfl) (by kernel_rfl) (N.met os _)) ?_
 intro W base args ds gs before hval0 hW hL hS
 have hval : ∀ (j : Nat) t v, Tryz.f10.params[j]? = some t -> args[j]? = some v -> Value.okWide Tryz.prog W .any base t v := hval0
 have hW' := hW
 obtain ⟨p, q, hA0, hV, rfl, hfz, hnd⟩ := hW
 have hA : DataW.TrodAll enc Tryz.prog W 0 (fun _ => true) true Tryz.f10.params.toList args.toList ds p := hA0
 rw [Tryz.params10] at hA hval
 obtain ⟨v0, vs0, d0, ds0, p0, q0, hargs, rfl, rfl, h0, r0⟩ := trodAll_cons hA
 obtain ⟨rfl, rfl, rfl⟩ := trodAll_nil r0
 obtain rfl : args = #[v0] := by cases args; simp_all
 obtain ⟨rfl, rfl⟩ := trodVars_none hV
 have lt0 : ∀ x ∈ p0, x.block < W.heap.size := by obtain ⟨m, hm⟩ := h0; exact DataW.trod_lt m _ _ _ hm
 obtain ⟨a0, l0, c0, rfl⟩ := okWide_slice Tryz.underlying25 (hval 0 25 v0 rfl rfl)
 obtain ⟨z0, g0, y0⟩ := Go.X.strs_openS (enc := enc) Tryz.underlying25 Tryz.underlying9 (by kernel_rfl) (fun x e => Go.X.spot_wide Tryz.underlying25 (e ▸ hval 0 25 _ rfl rfl)) h0
 obtain ⟨gl, hG⟩ := N.glOf hL hS
 clear hA0 hval0
 refine (Go.X.calls_below (v := Value.bool true) ((N.okLabels (Go.X.Hp.vw (c := Go.X.Ck.glob gl) hG rfl (Go.X.Hp.vw g0 rfl (Go.X.Hp.nil _) rfl) rfl) y0).mono fun v' h' r => ⟨r.2, r.1⟩)).mono fun e W' ⟨he, bel⟩ => ?_
 subst he
 exact ⟨_, rfl, _, _, _, [], _, [], hW', trodAll_mk1 (shut_bool Tryz.underlying4 _), (trodAll_cons_mk (Below.trod laidOut (by kernel_rfl) (of_decide_eq_true (by kernel_rfl)) h0 bel lt0) trodAll_mk0), rfl, bel.frame _, fun h => by cases h⟩
set_option maxRecDepth 100000
theorem fact0 : (Rows.gmlLabelsRow.wf (OpenSpec.ofChange Rows.gmlLabelsSpec)) = true := by kernel_rfl
theorem fact3 : (Tryz.f10.params.all (Tryz.pinned.checked.prog.readableRec ·)) = true := by kernel_rfl
theorem fact4 : (namedTie Tryz.pinned.checked.prog Rows.gmlLabelsRow.named Rows.gmlLabelsSpec.vars) = true := by kernel_rfl
theorem fact5 : ((Rows.gmlLabelsRow.stops == [])) = true := by kernel_rfl
theorem fact7 : ((Rows.gmlLabelsRow.knobs == [])) = true := by kernel_rfl
theorem fact9 : ((Rows.gmlLabelsRow.inPlace == Tryz.pinned.checked.prog.inPlace 10)) = true := by kernel_rfl
theorem fact10 : ((Rows.gmlLabelsRow.unfollowed == Tryz.pinned.checked.prog.unfollowed 10)) = true := by kernel_rfl
theorem fact11 : ((Rows.gmlLabelsRow.recurses == Tryz.pinned.checked.prog.recurses 10)) = true := by kernel_rfl
theorem fact12 : ((Rows.gmlLabelsRow.named == Tryz.pinned.checked.prog.varsNamed 10)) = true := by kernel_rfl
theorem fact13 : ((Rows.gmlLabelsRow.maps == (Tryz.f10.params.toList ++ Rows.gmlLabelsSpec.plain.varTypes Tryz.pinned.checked.prog).any (Tryz.pinned.checked.prog.mapsRec ·))) = true := by kernel_rfl
theorem fact14 : ((Rows.gmlLabelsRow.ifaces == (Tryz.f10.params.toList ++ Rows.gmlLabelsSpec.plain.varTypes Tryz.pinned.checked.prog).any (Tryz.pinned.checked.prog.ifacesRec ·))) = true := by kernel_rfl
theorem fact15 : ((Rows.gmlLabelsRow.mapsOut == Tryz.pinned.checked.prog.mapsAmong Tryz.f10.resultTypes.toList)) = true := by kernel_rfl
theorem fact16 : ((Rows.gmlLabelsRow.loops == (Tryz.f10.params.toList ++ Rows.gmlLabelsSpec.plain.varTypes Tryz.pinned.checked.prog).any (Tryz.pinned.checked.prog.loopsFrom ·))) = true := by kernel_rfl
theorem fact17 : ((Rows.gmlLabelsRow.wideKeys == (Tryz.f10.params.toList ++ Rows.gmlLabelsSpec.plain.varTypes Tryz.pinned.checked.prog ++ Tryz.f10.resultTypes.toList).any (Tryz.pinned.checked.prog.wideKeysFrom ·))) = true := by kernel_rfl
theorem fact18 : (Rows.gmlLabelsSpec.vars.all (Tryz.pinned.checked.prog.varReadable ·)) = true := by kernel_rfl
theorem fact19 : (Tryz.f10.resultTypes.all (fun t => Tryz.pinned.checked.prog.readableRec t && decide (t < Tryz.pinned.checked.prog.types.size))) = true := by kernel_rfl
theorem fact20 : ((Rows.gmlLabelsRow.ifacesOut == Tryz.f10.resultTypes.toList.any (Tryz.pinned.checked.prog.ifacesRec ·))) = true := by kernel_rfl
theorem fact21 : ((Rows.gmlLabelsRow.loopsOut == Tryz.f10.resultTypes.toList.any (Tryz.pinned.checked.prog.loopsFrom ·))) = true := by kernel_rfl
theorem fact22 : ((Rows.gmlLabelsRow.plainKeys == Tryz.pinned.checked.prog.plainKeys)) = true := by kernel_rfl
theorem fact23 : (Rows.gmlLabelsRow.shortTexts.isNone) = true := by kernel_rfl
theorem fact28 : ((Rows.gmlLabelsRow.kinds == (if Rows.gmlLabelsRow.domain.isEmpty then [] else Tryz.f10.params.toList.map fun t => match Tryz.pinned.checked.prog.underlying t with | some (.int k) => some k | _ => none))) = true := by kernel_rfl
theorem fact29 : ((Rows.gmlLabelsRow.pinned == Rows.gmlLabelsRow.pinnedBy)) = true := by kernel_rfl
theorem fact30 : ((Rows.gmlLabelsRow.veiled == (Tryz.f10.params.toList ++ Rows.gmlLabelsSpec.plain.varTypes Tryz.pinned.checked.prog ++ Tryz.f10.resultTypes.toList).any (Tryz.pinned.checked.prog.veiledRec ·))) = true := by kernel_rfl
theorem fact31 : (Rows.gmlLabelsRow.veiledFits Tryz.pinned.checked.prog Tryz.f10.params.toList (Tryz.f10.params.toList ++ Rows.gmlLabelsSpec.plain.varTypes Tryz.pinned.checked.prog ++ Tryz.f10.resultTypes.toList)) = true := by kernel_rfl
theorem facts : joinedFacts Tryz.pinned.checked.prog 10 Tryz.f10 Rows.gmlLabelsSpec Rows.gmlLabelsRow = true :=
 Go.X.joinedFacts_of fact0 wide1 wide2 fact3 fact4 fact5 wide6 fact7 wide8 fact9 fact10 fact11 fact12 fact13 fact14 fact15 fact16 fact17 fact18 fact19 fact20 fact21 fact22 fact23 wide24 may_enter lifts_not rfl make_is rfl fact28 fact29 fact30 fact31
theorem over : Rows.gmlLabelsRow.holds Tryz.pinned (OpenSpec.ofChange Rows.gmlLabelsSpec) :=
 OpenClaim.holds_of_wide 10 Tryz.f10 rfl rfl rfl rfl rfl rfl rfl ⟨rfl, rfl, rfl, rfl, rfl⟩ rfl rfl rfl rfl rfl (by kernel_rfl) Tryz.func10 facts
  (of_decide_eq_true (by kernel_rfl)) (by unfold Func.isWrapper; first | (rw [if_pos (by decide +kernel)]; kernel_rfl) | (rw [if_neg (by decide +kernel)]; exact ⟨rfl, rfl⟩))
  (fun os started H enc _ => lifted os started H enc)
theorem goes_is : false = Rows.gmlLabelsRow.goesBy Tryz.pinned.checked.prog := by kernel_rfl
theorem wfText_is : Rows.gmlLabelsRow.wfByText (OpenSpec.ofChange Rows.gmlLabelsSpec) = true := by kernel_rfl
theorem card_holds : Claim7.holds Tryz.pinned (.plain (OpenSpec.ofChange Rows.gmlLabelsSpec)) Rows.gmlLabelsCard :=
 Claim7.holds_tied_plain_at .later [] [.data, .data, .widerDeep, .widerDeep, .data, .data, .data, .data, .data, .data, .sentinel, .sentinel, .pinned, .pinned, .pinned] true (true, "d922b2127d093973f6e6fbd7a9555f957fa87eb9f160689ab833719c0eaf783b") true
  over (fun _ h => by cases h) wfText_is (fun _ h => by cases h) gmlLabels_row_tie rfl ⟨rfl, rfl⟩ main_is rfl
  (fun f fn hf hfn => by
   obtain rfl : f = 10 := Option.some.inj ((show Tryz.prog.funcNamed "tracery/tracerylaw30.GmlLabels" = some 10 by kernel_rfl).symm.trans hf) |>.symm
   obtain rfl : fn = Tryz.f10 := (Option.some.inj (Tryz.func10.symm.trans hfn)).symm
   exact ⟨looks_is, fun j t ht => by
    rw [Tryz.params10] at ht
    have hm : t ∈ [25] := by simpa using Array.mem_of_getElem? ht
    have hall : ([25].all fun u => !Tryz.prog.wantsStandIn u) = true := by kernel_rfl
    exact (show Tryz.prog.wantsStandIn t = false by simpa using List.all_eq_true.1 hall t hm)⟩)
  goes_is
end Go.Proofs.YtlflalecmhgmjaaGreatDoor.gmlLabels
namespace Go.Proofs.YtlflalecmhgmjaaGreatDoor
theorem gmlLabels_said : Rows.GmlLabelsCardSaid := gmlLabels.card_holds
end Go.Proofs.YtlflalecmhgmjaaGreatDoor
