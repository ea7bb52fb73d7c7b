/- GraphNone returns true whatever the input, and what stood in memory is as it was. Conditions: none. -/
import Derived.Test.YtmcloipjlihhlaaRows
import Derived.Test.YtmcloipjlihhlaaNGrNone
import Derived.Test.YtmcloipjlihhlaaXOpen2
import Derived.Test.YtmcloipjlihhlaaXFacts
import Derived.WalkKit
import Derived.ProofKit
import Derived.OpenShut
import Derived.ShutString
import Derived.Test.YtmcloipjlihhlaaXOpen4
namespace Go.Proofs.Ytmcloipjlihhlaa.graphNone
open Go.ChangeShapes Go.WideShapes Go.ChangeAt Go.RowKit
set_option linter.unusedVariables false

theorem own : ownKnob Try.prog.godebug = none := by kernel_rfl
theorem laidOut : laidOutB Try.prog = true := by kernel_rfl
set_option maxRecDepth 100000 in
theorem lifted (os : Os) (started : os.Started) (H : Type) (enc : TypeId × Value → H) :
    ReturnsInHanded {} Try.checked os 22 .any (Rows.graphNoneSpec.pre6 enc Try.prog Try.f22 Rows.graphNoneRow.domain false) (Rows.graphNoneSpec.post enc Try.prog Try.f22 false true false false) := by
  refine returnsInHanded_of_change (C := Try.checked) own started (by kernel_rfl) Try.func22
    (ChangeSpec.witness6 (enc := enc) (C := Try.checked) false ⟨#[], #[.agg #[.int .i64 0, .int .i64 0, .int .i64 0, .int .i64 0]], []⟩ 8 (by kernel_rfl) (by kernel_rfl) (by kernel_rfl) (by kernel_rfl)) ?_
  intro W base args ds gs before hval0 hW hcnd _
  have hval : ∀ (j : Nat) t v, Try.f22.params[j]? = some t → args[j]? = some v → Value.okWide Try.prog W .any base t v := hval0
  have hW' := hW
  obtain ⟨p, q, hA0, hV, rfl, hfz, hnd⟩ := hW
  have hA : DataW.TrodAll enc Try.prog W 0 (fun _ => true) true Try.f22.params.toList args.toList ds p := hA0
  rw [Try.params22] at hA hval
  obtain ⟨v0, vs0, d0, ds0, p0, q0, hargs, rfl, rfl, h0, r0⟩ := trodAll_cons hA
  obtain ⟨rfl, rfl, rfl⟩ := trodAll_nil r0
  obtain rfl : args = #[v0] := by cases args; simp_all
  obtain ⟨rfl, rfl⟩ := trodVars_none hV
  obtain ⟨x0a, x0b, x0c, x0d, rfl⟩ := Go.X.op4_open (enc := enc) Try.underlying130 (by kernel_rfl) (by kernel_rfl) rfl rfl rfl rfl Try.underlying3 (hval 0 130 v0 rfl rfl) h0
  have lt0 : ∀ x ∈ p0, x.block < W.heap.size := by obtain ⟨m, hm⟩ := h0; exact DataW.trod_lt m _ _ _ hm
  clear hA0 hval0
  refine (Go.X.calls_below (N.GraphNone_ok )).mono fun e W' ⟨he, bel⟩ => ?_
  subst he
  exact ⟨_, rfl, _, _, _, [], _, [], hW', trodAll_mk1 (shut_bool Try.underlying4 _), (trodAll_cons_mk (Below.trod laidOut (by kernel_rfl) (of_decide_eq_true (by kernel_rfl)) h0 bel lt0) trodAll_mk0), rfl, bel.frame _, fun h => by cases h⟩
set_option maxRecDepth 100000
theorem fact0 : (Rows.graphNoneRow.wf (OpenSpec.ofChange Rows.graphNoneSpec)) = true := by kernel_rfl
theorem fact3 : (Try.f22.params.all (Try.pinned.checked.prog.readableRec ·)) = true := by kernel_rfl
theorem fact4 : (namedTie Try.pinned.checked.prog Rows.graphNoneRow.named Rows.graphNoneSpec.vars) = true := by kernel_rfl
theorem fact5 : ((Rows.graphNoneRow.stops == [])) = true := by kernel_rfl
theorem fact7 : ((Rows.graphNoneRow.knobs == [])) = true := by kernel_rfl
theorem fact9 : ((Rows.graphNoneRow.inPlace == Try.pinned.checked.prog.inPlace 22)) = true := by kernel_rfl
theorem fact10 : ((Rows.graphNoneRow.unfollowed == Try.pinned.checked.prog.unfollowed 22)) = true := by kernel_rfl
theorem fact11 : ((Rows.graphNoneRow.recurses == Try.pinned.checked.prog.recurses 22)) = true := by kernel_rfl
theorem fact12 : ((Rows.graphNoneRow.named == Try.pinned.checked.prog.varsNamed 22)) = true := by kernel_rfl
theorem fact13 : ((Rows.graphNoneRow.maps == (Try.f22.params.toList ++ Rows.graphNoneSpec.plain.varTypes Try.pinned.checked.prog).any (Try.pinned.checked.prog.mapsRec ·))) = true := by kernel_rfl
theorem fact14 : ((Rows.graphNoneRow.ifaces == (Try.f22.params.toList ++ Rows.graphNoneSpec.plain.varTypes Try.pinned.checked.prog).any (Try.pinned.checked.prog.ifacesRec ·))) = true := by kernel_rfl
theorem fact15 : ((Rows.graphNoneRow.mapsOut == Try.pinned.checked.prog.mapsAmong Try.f22.resultTypes.toList)) = true := by kernel_rfl
theorem fact16 : ((Rows.graphNoneRow.loops == (Try.f22.params.toList ++ Rows.graphNoneSpec.plain.varTypes Try.pinned.checked.prog).any (Try.pinned.checked.prog.loopsFrom ·))) = true := by kernel_rfl
theorem fact17 : ((Rows.graphNoneRow.wideKeys == (Try.f22.params.toList ++ Rows.graphNoneSpec.plain.varTypes Try.pinned.checked.prog ++ Try.f22.resultTypes.toList).any (Try.pinned.checked.prog.wideKeysFrom ·))) = true := by kernel_rfl
theorem fact18 : (Rows.graphNoneSpec.vars.all (Try.pinned.checked.prog.varReadable ·)) = true := by kernel_rfl
theorem fact19 : (Try.f22.resultTypes.all (fun t => Try.pinned.checked.prog.readableRec t && decide (t < Try.pinned.checked.prog.types.size))) = true := by kernel_rfl
theorem fact20 : ((Rows.graphNoneRow.ifacesOut == Try.f22.resultTypes.toList.any (Try.pinned.checked.prog.ifacesRec ·))) = true := by kernel_rfl
theorem fact21 : ((Rows.graphNoneRow.loopsOut == Try.f22.resultTypes.toList.any (Try.pinned.checked.prog.loopsFrom ·))) = true := by kernel_rfl
theorem fact22 : ((Rows.graphNoneRow.plainKeys == Try.pinned.checked.prog.plainKeys)) = true := by kernel_rfl
theorem fact23 : (Rows.graphNoneRow.shortTexts.isNone) = true := by kernel_rfl
theorem fact28 : ((Rows.graphNoneRow.kinds == (if Rows.graphNoneRow.domain.isEmpty then [] else Try.f22.params.toList.map fun t => match Try.pinned.checked.prog.underlying t with | some (.int k) => some k | _ => none))) = true := by kernel_rfl
theorem fact29 : ((Rows.graphNoneRow.pinned == Rows.graphNoneRow.pinnedBy)) = true := by kernel_rfl
theorem fact30 : ((Rows.graphNoneRow.veiled == (Try.f22.params.toList ++ Rows.graphNoneSpec.plain.varTypes Try.pinned.checked.prog ++ Try.f22.resultTypes.toList).any (Try.pinned.checked.prog.veiledRec ·))) = true := by kernel_rfl
theorem fact31 : (Rows.graphNoneRow.veiledFits Try.pinned.checked.prog Try.f22.params.toList (Try.f22.params.toList ++ Rows.graphNoneSpec.plain.varTypes Try.pinned.checked.prog ++ Try.f22.resultTypes.toList)) = true := by kernel_rfl
theorem facts : joinedFacts Try.pinned.checked.prog 22 Try.f22 Rows.graphNoneSpec Rows.graphNoneRow = true :=
  Go.X.joinedFacts_of fact0 wide1 wide2 fact3 fact4 fact5 wide6 fact7 wide8 fact9 fact10 fact11 fact12 fact13 fact14 fact15 fact16 fact17 fact18 fact19 fact20 fact21 fact22 fact23 wide24 may_enter lifts_not rfl make_is rfl fact28 fact29 fact30 fact31
theorem over : Rows.graphNoneRow.holds Try.pinned (OpenSpec.ofChange Rows.graphNoneSpec) :=
  OpenClaim.holds_of_wide 22 Try.f22 rfl rfl rfl rfl rfl rfl rfl ⟨rfl, rfl, rfl, rfl, rfl⟩ rfl rfl rfl rfl rfl (by kernel_rfl) Try.func22 facts
    (of_decide_eq_true (by kernel_rfl)) (by unfold Func.isWrapper; first | (rw [if_pos (by decide +kernel)]; kernel_rfl) | (rw [if_neg (by decide +kernel)]; exact ⟨rfl, rfl⟩))
    (fun os started H enc _ => lifted os started H enc)
end Go.Proofs.Ytmcloipjlihhlaa.graphNone

namespace Go.Proofs.Ytmcloipjlihhlaa
/-- The given statement. -/
theorem graphNone_said : Rows.GraphNoneSaid := graphNone.over
end Go.Proofs.Ytmcloipjlihhlaa
