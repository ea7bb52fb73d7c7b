/- WalkSides returns true whatever the input, and what stood in memory is as it was. Conditions: none. -/
import Derived.Test.YtmcloipjlihhlaaRows
import Derived.Test.YtmcloipjlihhlaaNPartsR
import Derived.Test.YtmcloipjlihhlaaXOpen2
import Derived.Test.YtmcloipjlihhlaaXFacts
import Derived.WalkKit
import Derived.ProofKit
import Derived.OpenShut
import Derived.ShutString
namespace Go.Proofs.Ytmcloipjlihhlaa.walkSides
open Go.ChangeShapes Go.WideShapes Go.ChangeAt Go.RowKit
set_option linter.unusedVariables false

theorem own : ownKnob Try.prog.godebug = none := by kernel_rfl
theorem laidOut : laidOutB Try.prog = true := by kernel_rfl

set_option maxRecDepth 100000 in
theorem lifted (os : Os) (started : os.Started) (H : Type) (enc : TypeId × Value → H) :
    ReturnsInHanded {} Try.checked os 18 .any (Rows.walkSidesSpec.pre6 enc Try.prog Try.f18 Rows.walkSidesRow.domain false) (Rows.walkSidesSpec.post enc Try.prog Try.f18 false true false false) := by
  refine returnsInHanded_of_change (C := Try.checked) own started (by kernel_rfl) Try.func18
    (ChangeSpec.witness6 (enc := enc) (C := Try.checked) false ⟨#[], #[.agg #[.int .i64 0, .slice none 0 0]], []⟩ 8 (by kernel_rfl) (by kernel_rfl) (by kernel_rfl) (by kernel_rfl)) ?_
  intro W base args ds gs before hval0 hW hcnd _
  have hval : ∀ (j : Nat) t v, Try.f18.params[j]? = some t → args[j]? = some v → Value.okWide Try.prog W .any base t v := hval0
  have hW' := hW
  obtain ⟨p, q, hA0, hV, rfl, hfz, hnd⟩ := hW
  have hA : DataW.TrodAll enc Try.prog W 0 (fun _ => true) true Try.f18.params.toList args.toList ds p := hA0
  rw [Try.params18] at hA hval
  obtain ⟨v0, vs0, d0, ds0, p0, q0, hargs, rfl, rfl, h0, r0⟩ := trodAll_cons hA
  obtain ⟨rfl, rfl, rfl⟩ := trodAll_nil r0
  obtain rfl : args = #[v0] := by cases args; simp_all
  obtain ⟨rfl, rfl⟩ := trodVars_none hV
  obtain ⟨n0, a0, l0, c0, z0, rfl, w0, b0⟩ := Go.X.net_open (enc := enc) Try.underlying26 rfl rfl rfl rfl Try.underlying3 Try.underlying24 Try.underlying35 (by kernel_rfl) (by kernel_rfl) (by kernel_rfl) (by kernel_rfl) (by kernel_rfl) (hval 0 26 v0 rfl rfl) h0
  have lt0 : ∀ x ∈ p0, x.block < W.heap.size := by obtain ⟨m, hm⟩ := h0; exact DataW.trod_lt m _ _ _ hm
  clear hA0 hval0
  refine (Go.X.calls_below (WalkSides_ok (Go.X.Hp.vw w0 rfl (Go.X.Hp.nil _) rfl))).mono fun e W' ⟨he, bel⟩ => ?_
  subst he
  exact ⟨_, rfl, _, _, _, [], _, [], hW', trodAll_mk1 (shut_bool Try.underlying4 _), (trodAll_cons_mk (Below.trod laidOut (by kernel_rfl) (of_decide_eq_true (by kernel_rfl)) h0 bel lt0) trodAll_mk0), rfl, bel.frame _, fun h => by cases h⟩

set_option maxRecDepth 100000
theorem fact0 : (Rows.walkSidesRow.wf (OpenSpec.ofChange Rows.walkSidesSpec)) = true := by kernel_rfl
theorem fact3 : (Try.f18.params.all (Try.pinned.checked.prog.readableRec ·)) = true := by kernel_rfl
theorem fact4 : (namedTie Try.pinned.checked.prog Rows.walkSidesRow.named Rows.walkSidesSpec.vars) = true := by kernel_rfl
theorem fact5 : ((Rows.walkSidesRow.stops == [])) = true := by kernel_rfl
theorem fact7 : ((Rows.walkSidesRow.knobs == [])) = true := by kernel_rfl
theorem fact9 : ((Rows.walkSidesRow.inPlace == Try.pinned.checked.prog.inPlace 18)) = true := by kernel_rfl
theorem fact10 : ((Rows.walkSidesRow.unfollowed == Try.pinned.checked.prog.unfollowed 18)) = true := by kernel_rfl
theorem fact11 : ((Rows.walkSidesRow.recurses == Try.pinned.checked.prog.recurses 18)) = true := by kernel_rfl
theorem fact12 : ((Rows.walkSidesRow.named == Try.pinned.checked.prog.varsNamed 18)) = true := by kernel_rfl
theorem fact13 : ((Rows.walkSidesRow.maps == (Try.f18.params.toList ++ Rows.walkSidesSpec.plain.varTypes Try.pinned.checked.prog).any (Try.pinned.checked.prog.mapsRec ·))) = true := by kernel_rfl
theorem fact14 : ((Rows.walkSidesRow.ifaces == (Try.f18.params.toList ++ Rows.walkSidesSpec.plain.varTypes Try.pinned.checked.prog).any (Try.pinned.checked.prog.ifacesRec ·))) = true := by kernel_rfl
theorem fact15 : ((Rows.walkSidesRow.mapsOut == Try.pinned.checked.prog.mapsAmong Try.f18.resultTypes.toList)) = true := by kernel_rfl
theorem fact16 : ((Rows.walkSidesRow.loops == (Try.f18.params.toList ++ Rows.walkSidesSpec.plain.varTypes Try.pinned.checked.prog).any (Try.pinned.checked.prog.loopsFrom ·))) = true := by kernel_rfl
theorem fact17 : ((Rows.walkSidesRow.wideKeys == (Try.f18.params.toList ++ Rows.walkSidesSpec.plain.varTypes Try.pinned.checked.prog ++ Try.f18.resultTypes.toList).any (Try.pinned.checked.prog.wideKeysFrom ·))) = true := by kernel_rfl
theorem fact18 : (Rows.walkSidesSpec.vars.all (Try.pinned.checked.prog.varReadable ·)) = true := by kernel_rfl
theorem fact19 : (Try.f18.resultTypes.all (fun t => Try.pinned.checked.prog.readableRec t && decide (t < Try.pinned.checked.prog.types.size))) = true := by kernel_rfl
theorem fact20 : ((Rows.walkSidesRow.ifacesOut == Try.f18.resultTypes.toList.any (Try.pinned.checked.prog.ifacesRec ·))) = true := by kernel_rfl
theorem fact21 : ((Rows.walkSidesRow.loopsOut == Try.f18.resultTypes.toList.any (Try.pinned.checked.prog.loopsFrom ·))) = true := by kernel_rfl
theorem fact22 : ((Rows.walkSidesRow.plainKeys == Try.pinned.checked.prog.plainKeys)) = true := by kernel_rfl
theorem fact23 : (Rows.walkSidesRow.shortTexts.isNone) = true := by kernel_rfl
theorem fact28 : ((Rows.walkSidesRow.kinds == (if Rows.walkSidesRow.domain.isEmpty then [] else Try.f18.params.toList.map fun t => match Try.pinned.checked.prog.underlying t with | some (.int k) => some k | _ => none))) = true := by kernel_rfl
theorem fact29 : ((Rows.walkSidesRow.pinned == Rows.walkSidesRow.pinnedBy)) = true := by kernel_rfl
theorem fact30 : ((Rows.walkSidesRow.veiled == (Try.f18.params.toList ++ Rows.walkSidesSpec.plain.varTypes Try.pinned.checked.prog ++ Try.f18.resultTypes.toList).any (Try.pinned.checked.prog.veiledRec ·))) = true := by kernel_rfl
theorem fact31 : (Rows.walkSidesRow.veiledFits Try.pinned.checked.prog Try.f18.params.toList (Try.f18.params.toList ++ Rows.walkSidesSpec.plain.varTypes Try.pinned.checked.prog ++ Try.f18.resultTypes.toList)) = true := by kernel_rfl
theorem facts : joinedFacts Try.pinned.checked.prog 18 Try.f18 Rows.walkSidesSpec Rows.walkSidesRow = true :=
  Go.X.joinedFacts_of fact0 wide1 wide2 fact3 fact4 fact5 wide6 fact7 wide8 fact9 fact10 fact11 fact12 fact13 fact14 fact15 fact16 fact17 fact18 fact19 fact20 fact21 fact22 fact23 wide24 may_enter lifts_not rfl make_is rfl fact28 fact29 fact30 fact31

theorem over : Rows.walkSidesRow.holds Try.pinned (OpenSpec.ofChange Rows.walkSidesSpec) :=
  OpenClaim.holds_of_wide 18 Try.f18 rfl rfl rfl rfl rfl rfl rfl ⟨rfl, rfl, rfl, rfl, rfl⟩ rfl rfl rfl rfl rfl (by kernel_rfl) Try.func18 facts
    (of_decide_eq_true (by kernel_rfl)) (by unfold Func.isWrapper; first | (rw [if_pos (by decide +kernel)]; kernel_rfl) | (rw [if_neg (by decide +kernel)]; exact ⟨rfl, rfl⟩))
    (fun os started H enc _ => lifted os started H enc)

end Go.Proofs.Ytmcloipjlihhlaa.walkSides

namespace Go.Proofs.Ytmcloipjlihhlaa
/-- The given statement. -/
theorem walkSides_said : Rows.WalkSidesSaid := walkSides.over
end Go.Proofs.Ytmcloipjlihhlaa
