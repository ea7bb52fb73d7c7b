/- WeighWhole returns true whatever the input, and what stood in memory is as it was; the tables are as the program's text lays them. Conditions: none. -/
import Derived.Test.YtfjflbapojgbhaaGreatDoorCards
import Derived.Test.YtfjflbapojgbhaaGreatDoorTie
import Derived.Test.YtfjflbapojgbhaaGreatDoorWLaw3
import Derived.Test.YtfjflbapojgbhaaGreatDoorWGlOf
import Derived.Test.YtfjflbapojgbhaaGreatDoorWUp
import Derived.Test.YtfjflbapojgbhaaGreatDoorWFacts
import Derived.WalkKit
import Derived.ProofKit
import Derived.OpenShut
import Derived.ShutString
import Derived.SevenTiedAt
namespace Go.Proofs.YtfjflbapojgbhaaGreatDoor.weighWhole
open Go.ChangeShapes Go.WideShapes Go.ChangeAt Go.RowKit
set_option linter.unusedVariables false

theorem own : ownKnob Tryz.prog.godebug = none := by kernel_rfl
theorem laidOut : laidOutB Tryz.prog = true := by kernel_rfl
set_option maxRecDepth 100000 in
theorem lifted (os : Os) (started : os.Started) (H : Type) (enc : TypeId × Value → H) :
    ReturnsInHanded {} Tryz.checked os 4 .any (fun w args => (Rows.weighWholeSpec.pre enc Tryz.prog Tryz.f4 [] false w args ∧ laidMetH Tryz.prog Rows.weighWholeRow.laid w) ∧ sizedMet enc Tryz.prog Tryz.f4 (OpenSpec.ofChange Rows.weighWholeSpec) false w args)
      (Rows.weighWholeSpec.post enc Tryz.prog Tryz.f4 false true false false) := by
  refine returnsInHanded_of_change_and (C := Tryz.checked) (X := fun w _ => laidMetH Tryz.prog Rows.weighWholeRow.laid w) (fun _ _ _ hh h => h.of_heap hh) own started (by kernel_rfl) Tryz.func4
    (ChangeSpec.witness_shaped (enc := enc) (C := Tryz.checked) (os := os) (X := fun w _ => laidMetH Tryz.prog Rows.weighWholeRow.laid w) false (World.laidAll Tryz.prog os Rows.weighOrderRow.laid) #[.int .u32 0, .int .u8 0, .int .u8 0, .bool false] 8 (World.laidAll_os _ _ _)
      (World.shaped_of_ZipB (by kernel_rfl) (by kernel_rfl)) (by kernel_rfl) (by kernel_rfl) (by kernel_rfl) (N.met os _)) ?_
  intro W base args ds gs before hval0 hW _ _ hL _
  have hval : ∀ (j : Nat) t v, Tryz.f4.params[j]? = some t → args[j]? = some v → Value.okWide Tryz.prog W .any base t v := hval0
  have hW' := hW
  obtain ⟨p, q, hA0, hV, rfl, hfz, hnd⟩ := hW
  have hA : DataW.TrodAll enc Tryz.prog W 0 (fun _ => true) true Tryz.f4.params.toList args.toList ds p := hA0
  rw [Tryz.params4] at hA hval
  obtain ⟨v0, vs0, d0, ds0, p0, q0, hargs, rfl, rfl, h0, r0⟩ := trodAll_cons hA
  obtain ⟨v1, vs1, d1, ds1, p1, q1, rfl, rfl, rfl, h1, r1⟩ := trodAll_cons r0
  obtain ⟨v2, vs2, d2, ds2, p2, q2, rfl, rfl, rfl, h2, r2⟩ := trodAll_cons r1
  obtain ⟨v3, vs3, d3, ds3, p3, q3, rfl, rfl, rfl, h3, r3⟩ := trodAll_cons r2
  obtain ⟨rfl, rfl, rfl⟩ := trodAll_nil r3
  obtain rfl : args = #[v0, v1, v2, v3] := by cases args; simp_all
  obtain ⟨rfl, rfl⟩ := trodVars_none hV
  have lt0 : ∀ x ∈ p0, x.block < W.heap.size := by obtain ⟨m, hm⟩ := h0; exact DataW.trod_lt m _ _ _ hm
  have lt1 : ∀ x ∈ p1, x.block < W.heap.size := by obtain ⟨m, hm⟩ := h1; exact DataW.trod_lt m _ _ _ hm
  have lt2 : ∀ x ∈ p2, x.block < W.heap.size := by obtain ⟨m, hm⟩ := h2; exact DataW.trod_lt m _ _ _ hm
  have lt3 : ∀ x ∈ p3, x.block < W.heap.size := by obtain ⟨m, hm⟩ := h3; exact DataW.trod_lt m _ _ _ hm
  obtain ⟨a0, rfl, e0, w0⟩ : ∃ x : Int, v0 = .int .u32 x ∧ d0 = .lit (.int .u32 x) ∧ (Lit.int .u32 x).wf = true := by
    obtain ⟨x, hx1, hx2, hx3, hx4⟩ := open_int Tryz.underlying30 (hval 0 30 v0 rfl rfl) h0
    exact ⟨x, hx1, hx2, hx4⟩
  obtain ⟨a1, rfl, e1, w1⟩ : ∃ x : Int, v1 = .int .u8 x ∧ d1 = .lit (.int .u8 x) ∧ (Lit.int .u8 x).wf = true := by
    obtain ⟨x, hx1, hx2, hx3, hx4⟩ := open_int Tryz.underlying5 (hval 1 5 v1 rfl rfl) h1
    exact ⟨x, hx1, hx2, hx4⟩
  obtain ⟨a2, rfl, e2, w2⟩ : ∃ x : Int, v2 = .int .u8 x ∧ d2 = .lit (.int .u8 x) ∧ (Lit.int .u8 x).wf = true := by
    obtain ⟨x, hx1, hx2, hx3, hx4⟩ := open_int Tryz.underlying5 (hval 2 5 v2 rfl rfl) h2
    exact ⟨x, hx1, hx2, hx4⟩
  obtain ⟨a3, rfl⟩ := okWide_bool Tryz.underlying4 (hval 3 4 v3 rfl rfl)
  obtain ⟨gl, hG⟩ := N.glOf hL
  clear hA0 hval0
  refine (Go.X.calls_below (v := Value.bool true) ((N.okWhole (Go.X.wf_u32 w0) (Go.X.wf_b8 w1) (Go.X.wf_b8 w2) (R := fun r => r = true) rfl W.heap gl (Go.X.Hp.vw (c := Go.X.Ck.glob gl) hG rfl (Go.X.Hp.nil _) rfl)).mono fun v' h' ⟨rV, P, e, q⟩ => ⟨P.fr, by rw [e, q]⟩)).mono fun e W' ⟨he, bel⟩ => ?_
  subst he
  exact ⟨_, rfl, _, _, _, [], _, [], hW', trodAll_mk1 (shut_bool Tryz.underlying4 _), (trodAll_cons_mk (Below.trod laidOut (by kernel_rfl) (of_decide_eq_true (by kernel_rfl)) h0 bel lt0) (trodAll_cons_mk (Below.trod laidOut (by kernel_rfl) (of_decide_eq_true (by kernel_rfl)) h1 bel lt1) (trodAll_cons_mk (Below.trod laidOut (by kernel_rfl) (of_decide_eq_true (by kernel_rfl)) h2 bel lt2) (trodAll_cons_mk (Below.trod laidOut (by kernel_rfl) (of_decide_eq_true (by kernel_rfl)) h3 bel lt3) trodAll_mk0)))), rfl, bel.frame _, fun h => by cases h⟩
set_option maxRecDepth 100000
theorem fact0 : (Rows.weighWholeRow.wf (OpenSpec.ofChange Rows.weighWholeSpec)) = true := by kernel_rfl
theorem fact3 : (Tryz.f4.params.all (Tryz.pinned.checked.prog.readableRec ·)) = true := by kernel_rfl
theorem fact4 : (namedTie Tryz.pinned.checked.prog Rows.weighWholeRow.named Rows.weighWholeSpec.vars) = true := by kernel_rfl
theorem fact5 : ((Rows.weighWholeRow.stops == [])) = true := by kernel_rfl
theorem fact7 : ((Rows.weighWholeRow.knobs == [])) = true := by kernel_rfl
theorem fact9 : ((Rows.weighWholeRow.inPlace == Tryz.pinned.checked.prog.inPlace 4)) = true := by kernel_rfl
theorem fact10 : ((Rows.weighWholeRow.unfollowed == Tryz.pinned.checked.prog.unfollowed 4)) = true := by kernel_rfl
theorem fact11 : ((Rows.weighWholeRow.recurses == Tryz.pinned.checked.prog.recurses 4)) = true := by kernel_rfl
theorem fact12 : ((Rows.weighWholeRow.named == Tryz.pinned.checked.prog.varsNamed 4)) = true := by kernel_rfl
theorem fact13 : ((Rows.weighWholeRow.maps == (Tryz.f4.params.toList ++ Rows.weighWholeSpec.plain.varTypes Tryz.pinned.checked.prog).any (Tryz.pinned.checked.prog.mapsRec ·))) = true := by kernel_rfl
theorem fact14 : ((Rows.weighWholeRow.ifaces == (Tryz.f4.params.toList ++ Rows.weighWholeSpec.plain.varTypes Tryz.pinned.checked.prog).any (Tryz.pinned.checked.prog.ifacesRec ·))) = true := by kernel_rfl
theorem fact15 : ((Rows.weighWholeRow.mapsOut == Tryz.pinned.checked.prog.mapsAmong Tryz.f4.resultTypes.toList)) = true := by kernel_rfl
theorem fact16 : ((Rows.weighWholeRow.loops == (Tryz.f4.params.toList ++ Rows.weighWholeSpec.plain.varTypes Tryz.pinned.checked.prog).any (Tryz.pinned.checked.prog.loopsFrom ·))) = true := by kernel_rfl
theorem fact17 : ((Rows.weighWholeRow.wideKeys == (Tryz.f4.params.toList ++ Rows.weighWholeSpec.plain.varTypes Tryz.pinned.checked.prog ++ Tryz.f4.resultTypes.toList).any (Tryz.pinned.checked.prog.wideKeysFrom ·))) = true := by kernel_rfl
theorem fact18 : (Rows.weighWholeSpec.vars.all (Tryz.pinned.checked.prog.varReadable ·)) = true := by kernel_rfl
theorem fact19 : (Tryz.f4.resultTypes.all (fun t => Tryz.pinned.checked.prog.readableRec t && decide (t < Tryz.pinned.checked.prog.types.size))) = true := by kernel_rfl
theorem fact20 : ((Rows.weighWholeRow.ifacesOut == Tryz.f4.resultTypes.toList.any (Tryz.pinned.checked.prog.ifacesRec ·))) = true := by kernel_rfl
theorem fact21 : ((Rows.weighWholeRow.loopsOut == Tryz.f4.resultTypes.toList.any (Tryz.pinned.checked.prog.loopsFrom ·))) = true := by kernel_rfl
theorem fact22 : ((Rows.weighWholeRow.plainKeys == Tryz.pinned.checked.prog.plainKeys)) = true := by kernel_rfl
theorem fact23 : (Rows.weighWholeRow.shortTexts.isNone) = true := by kernel_rfl
theorem fact28 : ((Rows.weighWholeRow.kinds == (if Rows.weighWholeRow.domain.isEmpty then [] else Tryz.f4.params.toList.map fun t => match Tryz.pinned.checked.prog.underlying t with | some (.int k) => some k | _ => none))) = true := by kernel_rfl
theorem fact29 : ((Rows.weighWholeRow.pinned == Rows.weighWholeRow.pinnedBy)) = true := by kernel_rfl
theorem fact30 : ((Rows.weighWholeRow.veiled == (Tryz.f4.params.toList ++ Rows.weighWholeSpec.plain.varTypes Tryz.pinned.checked.prog ++ Tryz.f4.resultTypes.toList).any (Tryz.pinned.checked.prog.veiledRec ·))) = true := by kernel_rfl
theorem fact31 : (Rows.weighWholeRow.veiledFits Tryz.pinned.checked.prog Tryz.f4.params.toList (Tryz.f4.params.toList ++ Rows.weighWholeSpec.plain.varTypes Tryz.pinned.checked.prog ++ Tryz.f4.resultTypes.toList)) = true := by kernel_rfl
theorem facts : joinedFacts Tryz.pinned.checked.prog 4 Tryz.f4 Rows.weighWholeSpec Rows.weighWholeRow = true :=
  Go.X.joinedFacts_of fact0 wide1 wide2 fact3 fact4 fact5 wide6 fact7 wide8 fact9 fact10 fact11 fact12 fact13 fact14 fact15 fact16 fact17 fact18 fact19 fact20 fact21 fact22 fact23 wide24 may_enter lifts_not rfl make_is rfl fact28 fact29 fact30 fact31
theorem over : Rows.weighWholeRow.holds Tryz.pinned (OpenSpec.ofChange Rows.weighWholeSpec) :=
  OpenClaim.holds_of_wide 4 Tryz.f4 rfl rfl rfl rfl rfl rfl rfl ⟨rfl, rfl, rfl, rfl, rfl⟩ rfl rfl rfl rfl rfl (by kernel_rfl) Tryz.func4 facts
    (of_decide_eq_true (by kernel_rfl)) (by unfold Func.isWrapper; first | (rw [if_pos (by decide +kernel)]; kernel_rfl) | (rw [if_neg (by decide +kernel)]; exact ⟨rfl, rfl⟩))
    (fun os started H enc _ => lifted os started H enc)
theorem card_holds : Claim7.holds Tryz.pinned (.plain (OpenSpec.ofChange Rows.weighWholeSpec)) Rows.weighWholeCard :=
  Claim7.holds_tied_plain_at .later [] [.data, .data, .widerDeep, .widerDeep, .data, .data, .data, .data, .data, .sentinel, .sentinel, .pinned, .pinned] true (true, "9475a1fc84b0de83fe2518ab31dd53ff3abef4abbd43678ff833d2e423a284c2") true
    over (fun _ h => by cases h) (by kernel_rfl) (fun _ h => by cases h) weighWhole_row_tie rfl ⟨rfl, rfl⟩ (by kernel_rfl) rfl
    (fun f fn hf hfn => by
      obtain rfl : f = 4 := Option.some.inj ((show Tryz.prog.funcNamed "tracery/tracerylaw1.WeighWhole" = some 4 by kernel_rfl).symm.trans hf) |>.symm
      obtain rfl : fn = Tryz.f4 := (Option.some.inj (Tryz.func4.symm.trans hfn)).symm
      exact ⟨by kernel_rfl, fun j t ht => by
        rw [Tryz.params4] at ht
        have hm : t ∈ [30, 5, 5, 4] := by simpa using Array.mem_of_getElem? ht
        have hall : ([30, 5, 5, 4].all fun u => !Tryz.prog.wantsStandIn u) = true := by kernel_rfl
        exact (show Tryz.prog.wantsStandIn t = false by simpa using List.all_eq_true.1 hall t hm)⟩)
    (by kernel_rfl)
end Go.Proofs.YtfjflbapojgbhaaGreatDoor.weighWhole

namespace Go.Proofs.YtfjflbapojgbhaaGreatDoor
/-- The given statement. -/
theorem weighWhole_said : Rows.WeighWholeCardSaid := weighWhole.card_holds
end Go.Proofs.YtfjflbapojgbhaaGreatDoor
