/- WeighBack returns true whatever the input, and what stood in memory is as it was; the tables are as the program's text lays them. Conditions: none. -/
import Derived.Test.YtfjflbapojgbhaaGreatDoorCards
import Derived.Test.YtfjflbapojgbhaaGreatDoorTie
import Derived.Test.YtfjflbapojgbhaaGreatDoorWBack2
import Derived.Test.YtfjflbapojgbhaaGreatDoorWGlOf
import Derived.Test.YtfjflbapojgbhaaGreatDoorWUp
import Derived.Test.YtfjflbapojgbhaaGreatDoorWFacts
import Derived.WalkKit
import Derived.ProofKit
import Derived.OpenShut
import Derived.ShutString
import Derived.SevenTiedAt
namespace Go.Proofs.YtfjflbapojgbhaaGreatDoor.weighBack
open Go.ChangeShapes Go.WideShapes Go.ChangeAt Go.RowKit
set_option linter.unusedVariables false

theorem own : ownKnob Tryz.prog.godebug = none := by kernel_rfl
theorem laidOut : laidOutB Tryz.prog = true := by kernel_rfl
set_option maxRecDepth 100000 in
theorem lifted (os : Os) (started : os.Started) (H : Type) (enc : TypeId × Value → H) :
    ReturnsInHanded {} Tryz.checked os 6 .any (fun w args => (Rows.weighBackSpec.pre enc Tryz.prog Tryz.f6 [] false w args ∧ laidMetH Tryz.prog Rows.weighBackRow.laid w) ∧ sizedMet enc Tryz.prog Tryz.f6 (OpenSpec.ofChange Rows.weighBackSpec) false w args)
      (Rows.weighBackSpec.post enc Tryz.prog Tryz.f6 false true false false) := by
  refine returnsInHanded_of_change_and (C := Tryz.checked) (X := fun w _ => laidMetH Tryz.prog Rows.weighBackRow.laid w) (fun _ _ _ hh h => h.of_heap hh) own started (by kernel_rfl) Tryz.func6
    (ChangeSpec.witness_shaped (enc := enc) (C := Tryz.checked) (os := os) (X := fun w _ => laidMetH Tryz.prog Rows.weighBackRow.laid w) false (World.laidAll Tryz.prog os Rows.weighOrderRow.laid) #[.int .u64 0] 8 (World.laidAll_os _ _ _)
      (World.shaped_of_ZipB (by kernel_rfl) (by kernel_rfl)) (by kernel_rfl) (by kernel_rfl) (by kernel_rfl) (N.met os _)) ?_
  intro W base args ds gs before hval0 hW _ _ hL _
  have hval : ∀ (j : Nat) t v, Tryz.f6.params[j]? = some t → args[j]? = some v → Value.okWide Tryz.prog W .any base t v := hval0
  have hW' := hW
  obtain ⟨p, q, hA0, hV, rfl, hfz, hnd⟩ := hW
  have hA : DataW.TrodAll enc Tryz.prog W 0 (fun _ => true) true Tryz.f6.params.toList args.toList ds p := hA0
  rw [Tryz.params6] at hA hval
  obtain ⟨v0, vs0, d0, ds0, p0, q0, hargs, rfl, rfl, h0, r0⟩ := trodAll_cons hA
  obtain ⟨rfl, rfl, rfl⟩ := trodAll_nil r0
  obtain rfl : args = #[v0] := by cases args; simp_all
  obtain ⟨rfl, rfl⟩ := trodVars_none hV
  have lt0 : ∀ x ∈ p0, x.block < W.heap.size := by obtain ⟨m, hm⟩ := h0; exact DataW.trod_lt m _ _ _ hm
  obtain ⟨a0, rfl, e0, w0⟩ : ∃ x : Int, v0 = .int .u64 x ∧ d0 = .lit (.int .u64 x) ∧ (Lit.int .u64 x).wf = true := by
    obtain ⟨x, hx1, hx2, hx3, hx4⟩ := open_int Tryz.underlying33 (hval 0 33 v0 rfl rfl) h0
    exact ⟨x, hx1, hx2, hx4⟩
  obtain ⟨gl, hG⟩ := N.glOf hL
  clear hA0 hval0
  refine (Go.X.calls_below (v := Value.bool true) ((N.okBack (Go.X.wf_u64 w0) (R := fun r => r = true) rfl W.heap gl (Go.X.Hp.vw (c := Go.X.Ck.glob gl) hG rfl (Go.X.Hp.nil _) rfl)).mono fun v' h' ⟨rV, P, e, q⟩ => ⟨P.fr, by rw [e, q]⟩)).mono fun e W' ⟨he, bel⟩ => ?_
  subst he
  exact ⟨_, rfl, _, _, _, [], _, [], hW', trodAll_mk1 (shut_bool Tryz.underlying4 _), (trodAll_cons_mk (Below.trod laidOut (by kernel_rfl) (of_decide_eq_true (by kernel_rfl)) h0 bel lt0) trodAll_mk0), rfl, bel.frame _, fun h => by cases h⟩
set_option maxRecDepth 100000
theorem fact0 : (Rows.weighBackRow.wf (OpenSpec.ofChange Rows.weighBackSpec)) = true := by kernel_rfl
theorem fact3 : (Tryz.f6.params.all (Tryz.pinned.checked.prog.readableRec ·)) = true := by kernel_rfl
theorem fact4 : (namedTie Tryz.pinned.checked.prog Rows.weighBackRow.named Rows.weighBackSpec.vars) = true := by kernel_rfl
theorem fact5 : ((Rows.weighBackRow.stops == [])) = true := by kernel_rfl
theorem fact7 : ((Rows.weighBackRow.knobs == [])) = true := by kernel_rfl
theorem fact9 : ((Rows.weighBackRow.inPlace == Tryz.pinned.checked.prog.inPlace 6)) = true := by kernel_rfl
theorem fact10 : ((Rows.weighBackRow.unfollowed == Tryz.pinned.checked.prog.unfollowed 6)) = true := by kernel_rfl
theorem fact11 : ((Rows.weighBackRow.recurses == Tryz.pinned.checked.prog.recurses 6)) = true := by kernel_rfl
theorem fact12 : ((Rows.weighBackRow.named == Tryz.pinned.checked.prog.varsNamed 6)) = true := by kernel_rfl
theorem fact13 : ((Rows.weighBackRow.maps == (Tryz.f6.params.toList ++ Rows.weighBackSpec.plain.varTypes Tryz.pinned.checked.prog).any (Tryz.pinned.checked.prog.mapsRec ·))) = true := by kernel_rfl
theorem fact14 : ((Rows.weighBackRow.ifaces == (Tryz.f6.params.toList ++ Rows.weighBackSpec.plain.varTypes Tryz.pinned.checked.prog).any (Tryz.pinned.checked.prog.ifacesRec ·))) = true := by kernel_rfl
theorem fact15 : ((Rows.weighBackRow.mapsOut == Tryz.pinned.checked.prog.mapsAmong Tryz.f6.resultTypes.toList)) = true := by kernel_rfl
theorem fact16 : ((Rows.weighBackRow.loops == (Tryz.f6.params.toList ++ Rows.weighBackSpec.plain.varTypes Tryz.pinned.checked.prog).any (Tryz.pinned.checked.prog.loopsFrom ·))) = true := by kernel_rfl
theorem fact17 : ((Rows.weighBackRow.wideKeys == (Tryz.f6.params.toList ++ Rows.weighBackSpec.plain.varTypes Tryz.pinned.checked.prog ++ Tryz.f6.resultTypes.toList).any (Tryz.pinned.checked.prog.wideKeysFrom ·))) = true := by kernel_rfl
theorem fact18 : (Rows.weighBackSpec.vars.all (Tryz.pinned.checked.prog.varReadable ·)) = true := by kernel_rfl
theorem fact19 : (Tryz.f6.resultTypes.all (fun t => Tryz.pinned.checked.prog.readableRec t && decide (t < Tryz.pinned.checked.prog.types.size))) = true := by kernel_rfl
theorem fact20 : ((Rows.weighBackRow.ifacesOut == Tryz.f6.resultTypes.toList.any (Tryz.pinned.checked.prog.ifacesRec ·))) = true := by kernel_rfl
theorem fact21 : ((Rows.weighBackRow.loopsOut == Tryz.f6.resultTypes.toList.any (Tryz.pinned.checked.prog.loopsFrom ·))) = true := by kernel_rfl
theorem fact22 : ((Rows.weighBackRow.plainKeys == Tryz.pinned.checked.prog.plainKeys)) = true := by kernel_rfl
theorem fact23 : (Rows.weighBackRow.shortTexts.isNone) = true := by kernel_rfl
theorem fact28 : ((Rows.weighBackRow.kinds == (if Rows.weighBackRow.domain.isEmpty then [] else Tryz.f6.params.toList.map fun t => match Tryz.pinned.checked.prog.underlying t with | some (.int k) => some k | _ => none))) = true := by kernel_rfl
theorem fact29 : ((Rows.weighBackRow.pinned == Rows.weighBackRow.pinnedBy)) = true := by kernel_rfl
theorem fact30 : ((Rows.weighBackRow.veiled == (Tryz.f6.params.toList ++ Rows.weighBackSpec.plain.varTypes Tryz.pinned.checked.prog ++ Tryz.f6.resultTypes.toList).any (Tryz.pinned.checked.prog.veiledRec ·))) = true := by kernel_rfl
theorem fact31 : (Rows.weighBackRow.veiledFits Tryz.pinned.checked.prog Tryz.f6.params.toList (Tryz.f6.params.toList ++ Rows.weighBackSpec.plain.varTypes Tryz.pinned.checked.prog ++ Tryz.f6.resultTypes.toList)) = true := by kernel_rfl
theorem facts : joinedFacts Tryz.pinned.checked.prog 6 Tryz.f6 Rows.weighBackSpec Rows.weighBackRow = true :=
  Go.X.joinedFacts_of fact0 wide1 wide2 fact3 fact4 fact5 wide6 fact7 wide8 fact9 fact10 fact11 fact12 fact13 fact14 fact15 fact16 fact17 fact18 fact19 fact20 fact21 fact22 fact23 wide24 may_enter lifts_not rfl make_is rfl fact28 fact29 fact30 fact31
theorem over : Rows.weighBackRow.holds Tryz.pinned (OpenSpec.ofChange Rows.weighBackSpec) :=
  OpenClaim.holds_of_wide 6 Tryz.f6 rfl rfl rfl rfl rfl rfl rfl ⟨rfl, rfl, rfl, rfl, rfl⟩ rfl rfl rfl rfl rfl (by kernel_rfl) Tryz.func6 facts
    (of_decide_eq_true (by kernel_rfl)) (by unfold Func.isWrapper; first | (rw [if_pos (by decide +kernel)]; kernel_rfl) | (rw [if_neg (by decide +kernel)]; exact ⟨rfl, rfl⟩))
    (fun os started H enc _ => lifted os started H enc)
theorem card_holds : Claim7.holds Tryz.pinned (.plain (OpenSpec.ofChange Rows.weighBackSpec)) Rows.weighBackCard :=
  Claim7.holds_tied_plain_at .later [] [.data, .data, .widerDeep, .widerDeep, .data, .data, .data, .data, .data, .sentinel, .sentinel, .pinned, .pinned] true (true, "9475a1fc84b0de83fe2518ab31dd53ff3abef4abbd43678ff833d2e423a284c2") true
    over (fun _ h => by cases h) (by kernel_rfl) (fun _ h => by cases h) weighBack_row_tie rfl ⟨rfl, rfl⟩ (by kernel_rfl) rfl
    (fun f fn hf hfn => by
      obtain rfl : f = 6 := Option.some.inj ((show Tryz.prog.funcNamed "tracery/tracerylaw1.WeighBack" = some 6 by kernel_rfl).symm.trans hf) |>.symm
      obtain rfl : fn = Tryz.f6 := (Option.some.inj (Tryz.func6.symm.trans hfn)).symm
      exact ⟨by kernel_rfl, fun j t ht => by
        rw [Tryz.params6] at ht
        have hm : t ∈ [33] := by simpa using Array.mem_of_getElem? ht
        have hall : ([33].all fun u => !Tryz.prog.wantsStandIn u) = true := by kernel_rfl
        exact (show Tryz.prog.wantsStandIn t = false by simpa using List.all_eq_true.1 hall t hm)⟩)
    (by kernel_rfl)
end Go.Proofs.YtfjflbapojgbhaaGreatDoor.weighBack

namespace Go.Proofs.YtfjflbapojgbhaaGreatDoor
/-- The given statement. -/
theorem weighBack_said : Rows.WeighBackCardSaid := weighBack.card_holds
end Go.Proofs.YtfjflbapojgbhaaGreatDoor
