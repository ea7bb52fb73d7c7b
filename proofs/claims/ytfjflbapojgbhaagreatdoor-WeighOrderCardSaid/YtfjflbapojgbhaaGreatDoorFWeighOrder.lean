/- WeighOrder returns true whatever the input, and what stood in memory is as it was; the tables are as the program's text lays them. Conditions: none. -/
import Derived.Test.YtfjflbapojgbhaaGreatDoorCards
import Derived.Test.YtfjflbapojgbhaaGreatDoorTie
import Derived.Test.YtfjflbapojgbhaaGreatDoorWLaw1
import Derived.Test.YtfjflbapojgbhaaGreatDoorWGlOf
import Derived.Test.YtfjflbapojgbhaaGreatDoorXOpen3
import Derived.Test.YtfjflbapojgbhaaGreatDoorWFacts
import Derived.WalkKit
import Derived.ProofKit
import Derived.OpenShut
import Derived.ShutString
import Derived.SevenTiedAt
namespace Go.Proofs.YtfjflbapojgbhaaGreatDoor.weighOrder
open Go.ChangeShapes Go.WideShapes Go.ChangeAt Go.RowKit
set_option linter.unusedVariables false

theorem own : ownKnob Tryz.prog.godebug = none := by kernel_rfl
theorem laidOut : laidOutB Tryz.prog = true := by kernel_rfl
set_option maxRecDepth 100000 in
theorem lifted (os : Os) (started : os.Started) (H : Type) (enc : TypeId × Value → H) :
    ReturnsInHanded {} Tryz.checked os 5 .any (fun w args => (Rows.weighOrderSpec.pre enc Tryz.prog Tryz.f5 [] false w args ∧ laidMetH Tryz.prog Rows.weighOrderRow.laid w) ∧ sizedMet enc Tryz.prog Tryz.f5 (OpenSpec.ofChange Rows.weighOrderSpec) false w args)
      (Rows.weighOrderSpec.post enc Tryz.prog Tryz.f5 false true false false) := by
  refine returnsInHanded_of_change_and (C := Tryz.checked) (X := fun w _ => laidMetH Tryz.prog Rows.weighOrderRow.laid w) (fun _ _ _ hh h => h.of_heap hh) own started (by kernel_rfl) Tryz.func5
    (ChangeSpec.witness_shaped (enc := enc) (C := Tryz.checked) (os := os) (X := fun w _ => laidMetH Tryz.prog Rows.weighOrderRow.laid w) false (World.laidAll Tryz.prog os Rows.weighOrderRow.laid) #[.int .u64 0, .int .u64 0, .int .u64 0] 8 (World.laidAll_os _ _ _)
      (World.shaped_of_ZipB (by kernel_rfl) (by kernel_rfl)) (by kernel_rfl) (by kernel_rfl) (by kernel_rfl) (N.met os _)) ?_
  intro W base args ds gs before hval0 hW _ _ hL _
  have hval : ∀ (j : Nat) t v, Tryz.f5.params[j]? = some t → args[j]? = some v → Value.okWide Tryz.prog W .any base t v := hval0
  have hW' := hW
  obtain ⟨p, q, hA0, hV, rfl, hfz, hnd⟩ := hW
  have hA : DataW.TrodAll enc Tryz.prog W 0 (fun _ => true) true Tryz.f5.params.toList args.toList ds p := hA0
  rw [Tryz.params5] at hA hval
  obtain ⟨v0, vs0, d0, ds0, p0, q0, hargs, rfl, rfl, h0, r0⟩ := trodAll_cons hA
  obtain ⟨v1, vs1, d1, ds1, p1, q1, rfl, rfl, rfl, h1, r1⟩ := trodAll_cons r0
  obtain ⟨v2, vs2, d2, ds2, p2, q2, rfl, rfl, rfl, h2, r2⟩ := trodAll_cons r1
  obtain ⟨rfl, rfl, rfl⟩ := trodAll_nil r2
  obtain rfl : args = #[v0, v1, v2] := by cases args; simp_all
  obtain ⟨rfl, rfl⟩ := trodVars_none hV
  have lt0 : ∀ x ∈ p0, x.block < W.heap.size := by obtain ⟨m, hm⟩ := h0; exact DataW.trod_lt m _ _ _ hm
  have lt1 : ∀ x ∈ p1, x.block < W.heap.size := by obtain ⟨m, hm⟩ := h1; exact DataW.trod_lt m _ _ _ hm
  have lt2 : ∀ x ∈ p2, x.block < W.heap.size := by obtain ⟨m, hm⟩ := h2; exact DataW.trod_lt m _ _ _ hm
  obtain ⟨a0, rfl, e0, w0⟩ : ∃ x : Int, v0 = .int .u64 x ∧ d0 = .lit (.int .u64 x) ∧ (Lit.int .u64 x).wf = true := by
    obtain ⟨x, hx1, hx2, hx3, hx4⟩ := open_int Tryz.underlying33 (hval 0 33 v0 rfl rfl) h0
    exact ⟨x, hx1, hx2, hx4⟩
  obtain ⟨a1, rfl, e1, w1⟩ : ∃ x : Int, v1 = .int .u64 x ∧ d1 = .lit (.int .u64 x) ∧ (Lit.int .u64 x).wf = true := by
    obtain ⟨x, hx1, hx2, hx3, hx4⟩ := open_int Tryz.underlying33 (hval 1 33 v1 rfl rfl) h1
    exact ⟨x, hx1, hx2, hx4⟩
  obtain ⟨a2, rfl, e2, w2⟩ : ∃ x : Int, v2 = .int .u64 x ∧ d2 = .lit (.int .u64 x) ∧ (Lit.int .u64 x).wf = true := by
    obtain ⟨x, hx1, hx2, hx3, hx4⟩ := open_int Tryz.underlying33 (hval 2 33 v2 rfl rfl) h2
    exact ⟨x, hx1, hx2, hx4⟩
  obtain ⟨gl, hG⟩ := N.glOf hL
  clear hA0 hval0
  refine (Go.X.calls_below (v := Value.bool true) ((N.okOrder (R := fun r => r = true) rfl W.heap gl (Go.X.Hp.vw (c := Go.X.Ck.glob gl) hG rfl (Go.X.Hp.nil _) rfl)).mono fun v' h' ⟨rV, P, e, q⟩ => ⟨P.fr, by rw [e, q]⟩)).mono fun e W' ⟨he, bel⟩ => ?_
  subst he
  exact ⟨_, rfl, _, _, _, [], _, [], hW', trodAll_mk1 (shut_bool Tryz.underlying4 _), (trodAll_cons_mk (Below.trod laidOut (by kernel_rfl) (of_decide_eq_true (by kernel_rfl)) h0 bel lt0) (trodAll_cons_mk (Below.trod laidOut (by kernel_rfl) (of_decide_eq_true (by kernel_rfl)) h1 bel lt1) (trodAll_cons_mk (Below.trod laidOut (by kernel_rfl) (of_decide_eq_true (by kernel_rfl)) h2 bel lt2) trodAll_mk0))), rfl, bel.frame _, fun h => by cases h⟩
set_option maxRecDepth 100000
theorem fact0 : (Rows.weighOrderRow.wf (OpenSpec.ofChange Rows.weighOrderSpec)) = true := by kernel_rfl
theorem fact3 : (Tryz.f5.params.all (Tryz.pinned.checked.prog.readableRec ·)) = true := by kernel_rfl
theorem fact4 : (namedTie Tryz.pinned.checked.prog Rows.weighOrderRow.named Rows.weighOrderSpec.vars) = true := by kernel_rfl
theorem fact5 : ((Rows.weighOrderRow.stops == [])) = true := by kernel_rfl
theorem fact7 : ((Rows.weighOrderRow.knobs == [])) = true := by kernel_rfl
theorem fact9 : ((Rows.weighOrderRow.inPlace == Tryz.pinned.checked.prog.inPlace 5)) = true := by kernel_rfl
theorem fact10 : ((Rows.weighOrderRow.unfollowed == Tryz.pinned.checked.prog.unfollowed 5)) = true := by kernel_rfl
theorem fact11 : ((Rows.weighOrderRow.recurses == Tryz.pinned.checked.prog.recurses 5)) = true := by kernel_rfl
theorem fact12 : ((Rows.weighOrderRow.named == Tryz.pinned.checked.prog.varsNamed 5)) = true := by kernel_rfl
theorem fact13 : ((Rows.weighOrderRow.maps == (Tryz.f5.params.toList ++ Rows.weighOrderSpec.plain.varTypes Tryz.pinned.checked.prog).any (Tryz.pinned.checked.prog.mapsRec ·))) = true := by kernel_rfl
theorem fact14 : ((Rows.weighOrderRow.ifaces == (Tryz.f5.params.toList ++ Rows.weighOrderSpec.plain.varTypes Tryz.pinned.checked.prog).any (Tryz.pinned.checked.prog.ifacesRec ·))) = true := by kernel_rfl
theorem fact15 : ((Rows.weighOrderRow.mapsOut == Tryz.pinned.checked.prog.mapsAmong Tryz.f5.resultTypes.toList)) = true := by kernel_rfl
theorem fact16 : ((Rows.weighOrderRow.loops == (Tryz.f5.params.toList ++ Rows.weighOrderSpec.plain.varTypes Tryz.pinned.checked.prog).any (Tryz.pinned.checked.prog.loopsFrom ·))) = true := by kernel_rfl
theorem fact17 : ((Rows.weighOrderRow.wideKeys == (Tryz.f5.params.toList ++ Rows.weighOrderSpec.plain.varTypes Tryz.pinned.checked.prog ++ Tryz.f5.resultTypes.toList).any (Tryz.pinned.checked.prog.wideKeysFrom ·))) = true := by kernel_rfl
theorem fact18 : (Rows.weighOrderSpec.vars.all (Tryz.pinned.checked.prog.varReadable ·)) = true := by kernel_rfl
theorem fact19 : (Tryz.f5.resultTypes.all (fun t => Tryz.pinned.checked.prog.readableRec t && decide (t < Tryz.pinned.checked.prog.types.size))) = true := by kernel_rfl
theorem fact20 : ((Rows.weighOrderRow.ifacesOut == Tryz.f5.resultTypes.toList.any (Tryz.pinned.checked.prog.ifacesRec ·))) = true := by kernel_rfl
theorem fact21 : ((Rows.weighOrderRow.loopsOut == Tryz.f5.resultTypes.toList.any (Tryz.pinned.checked.prog.loopsFrom ·))) = true := by kernel_rfl
theorem fact22 : ((Rows.weighOrderRow.plainKeys == Tryz.pinned.checked.prog.plainKeys)) = true := by kernel_rfl
theorem fact23 : (Rows.weighOrderRow.shortTexts.isNone) = true := by kernel_rfl
theorem fact28 : ((Rows.weighOrderRow.kinds == (if Rows.weighOrderRow.domain.isEmpty then [] else Tryz.f5.params.toList.map fun t => match Tryz.pinned.checked.prog.underlying t with | some (.int k) => some k | _ => none))) = true := by kernel_rfl
theorem fact29 : ((Rows.weighOrderRow.pinned == Rows.weighOrderRow.pinnedBy)) = true := by kernel_rfl
theorem fact30 : ((Rows.weighOrderRow.veiled == (Tryz.f5.params.toList ++ Rows.weighOrderSpec.plain.varTypes Tryz.pinned.checked.prog ++ Tryz.f5.resultTypes.toList).any (Tryz.pinned.checked.prog.veiledRec ·))) = true := by kernel_rfl
theorem fact31 : (Rows.weighOrderRow.veiledFits Tryz.pinned.checked.prog Tryz.f5.params.toList (Tryz.f5.params.toList ++ Rows.weighOrderSpec.plain.varTypes Tryz.pinned.checked.prog ++ Tryz.f5.resultTypes.toList)) = true := by kernel_rfl
theorem facts : joinedFacts Tryz.pinned.checked.prog 5 Tryz.f5 Rows.weighOrderSpec Rows.weighOrderRow = true :=
  Go.X.joinedFacts_of fact0 wide1 wide2 fact3 fact4 fact5 wide6 fact7 wide8 fact9 fact10 fact11 fact12 fact13 fact14 fact15 fact16 fact17 fact18 fact19 fact20 fact21 fact22 fact23 wide24 may_enter lifts_not rfl make_is rfl fact28 fact29 fact30 fact31
theorem over : Rows.weighOrderRow.holds Tryz.pinned (OpenSpec.ofChange Rows.weighOrderSpec) :=
  OpenClaim.holds_of_wide 5 Tryz.f5 rfl rfl rfl rfl rfl rfl rfl ⟨rfl, rfl, rfl, rfl, rfl⟩ rfl rfl rfl rfl rfl (by kernel_rfl) Tryz.func5 facts
    (of_decide_eq_true (by kernel_rfl)) (by unfold Func.isWrapper; first | (rw [if_pos (by decide +kernel)]; kernel_rfl) | (rw [if_neg (by decide +kernel)]; exact ⟨rfl, rfl⟩))
    (fun os started H enc _ => lifted os started H enc)
theorem card_holds : Claim7.holds Tryz.pinned (.plain (OpenSpec.ofChange Rows.weighOrderSpec)) Rows.weighOrderCard :=
  Claim7.holds_tied_plain_at .later [] [.data, .data, .widerDeep, .widerDeep, .data, .data, .data, .data, .data, .sentinel, .sentinel, .pinned, .pinned] true (true, "9475a1fc84b0de83fe2518ab31dd53ff3abef4abbd43678ff833d2e423a284c2") true
    over (fun _ h => by cases h) (by kernel_rfl) (fun _ h => by cases h) weighOrder_row_tie rfl ⟨rfl, rfl⟩ (by kernel_rfl) rfl
    (fun f fn hf hfn => by
      obtain rfl : f = 5 := Option.some.inj ((show Tryz.prog.funcNamed "tracery/tracerylaw1.WeighOrder" = some 5 by kernel_rfl).symm.trans hf) |>.symm
      obtain rfl : fn = Tryz.f5 := (Option.some.inj (Tryz.func5.symm.trans hfn)).symm
      exact ⟨by kernel_rfl, fun j t ht => by
        rw [Tryz.params5] at ht
        have hm : t ∈ [33, 33, 33] := by simpa using Array.mem_of_getElem? ht
        have hall : ([33, 33, 33].all fun u => !Tryz.prog.wantsStandIn u) = true := by kernel_rfl
        exact (show Tryz.prog.wantsStandIn t = false by simpa using List.all_eq_true.1 hall t hm)⟩)
    (by kernel_rfl)
end Go.Proofs.YtfjflbapojgbhaaGreatDoor.weighOrder

namespace Go.Proofs.YtfjflbapojgbhaaGreatDoor
/-- The given statement. -/
theorem weighOrder_said : Rows.WeighOrderCardSaid := weighOrder.card_holds
end Go.Proofs.YtfjflbapojgbhaaGreatDoor
