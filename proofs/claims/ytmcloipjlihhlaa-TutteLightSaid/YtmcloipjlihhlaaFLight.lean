/- TutteLight returns true whatever the input, and what stood in memory is as it was. Conditions: none. -/
import Derived.Test.YtmcloipjlihhlaaRows
import Derived.Test.YtmcloipjlihhlaaNLight
import Derived.Test.YtmcloipjlihhlaaXPost
import Derived.Test.YtmcloipjlihhlaaXFacts
import Derived.WalkKit
import Derived.ProofKit
import Derived.OpenShut
import Derived.ShutString
namespace Go.Proofs.Ytmcloipjlihhlaa.tutteLight
open Go.ChangeShapes Go.WideShapes Go.ChangeAt Go.RowKit
open Go.ChangeMaps (open_string shut_string)
set_option linter.unusedVariables false      -- a walk need not use every 'w<i>' (that an integer argument fits its kind)

theorem own : ownKnob Try.prog.godebug = none := by kernel_rfl

theorem walk (a0 : Int) (a1 : Int) (w0 : (Lit.int .i64 a0).wf = true) (w1 : (Lit.int .i64 a1).wf = true) (w : World) :
    Calls Try.prog 10 #[.int .i64 a0, .int .i64 a1] w fun e w' => e = .returned (.bool true) ∧ Go.X.Stood w w' :=
  Go.X.calls_stood (TutteLight_ok a0 a1 w.heap)

set_option maxRecDepth 100000 in
theorem lifted (os : Os) (started : os.Started) (H : Type) (enc : TypeId × Value → H) :
    ReturnsInHanded {} Try.checked os 10 .any (Rows.tutteLightSpec.pre6 enc Try.prog Try.f10 Rows.tutteLightRow.domain false) (Rows.tutteLightSpec.post enc Try.prog Try.f10 false true false false) := by
  refine returnsInHanded_of_change (C := Try.checked) own started (by kernel_rfl) Try.func10
    (ChangeSpec.witness6 (enc := enc) (C := Try.checked) false ⟨#[], #[.int .i64 0, .int .i64 0], []⟩ 8 (by kernel_rfl) (by kernel_rfl) (by kernel_rfl) (by kernel_rfl)) ?_
  intro W base args ds gs before hval0 hW hcnd _
  have hval : ∀ (j : Nat) t v, Try.f10.params[j]? = some t → args[j]? = some v → Value.okWide Try.prog W .any base t v := hval0
  have hW' := hW
  obtain ⟨p, q, hA0, hV, rfl, hfz, hnd⟩ := hW
  have hA : DataW.TrodAll enc Try.prog W 0 (fun _ => true) true Try.f10.params.toList args.toList ds p := hA0
  rw [Try.params10] at hA hval
  obtain ⟨v0, vs0, d0, ds0, p0, q0, hargs, rfl, rfl, h0, r0⟩ := trodAll_cons hA
  obtain ⟨v1, vs1, d1, ds1, p1, q1, rfl, rfl, rfl, h1, r1⟩ := trodAll_cons r0
  obtain ⟨rfl, rfl, rfl⟩ := trodAll_nil r1
  obtain rfl : args = #[v0, v1] := by cases args; simp_all
  obtain ⟨rfl, rfl⟩ := trodVars_none hV
  obtain ⟨a0, rfl, rfl, rfl, w0⟩ := open_int Try.underlying3 (hval 0 3 v0 rfl rfl) h0
  obtain ⟨a1, rfl, rfl, rfl, w1⟩ := open_int Try.underlying3 (hval 1 3 v1 rfl rfl) h1
  clear hA0 hval0
  simp only [List.append_nil] at hW'
  refine (walk a0 a1 w0 w1 W).mono fun e W' ⟨he, hg⟩ => ?_
  subst he
  exact ⟨_, rfl, Go.X.postOld (pa := []) (pv := []) hW' hg (fun _ _ _ => (trodAll_cons_mk (shut_bool Try.underlying4 _) trodAll_mk0)) (fun sp _ => (trodAll_cons_mk (shut_int Try.underlying3 w0) (trodAll_cons_mk (shut_int Try.underlying3 w1) trodAll_mk0))) (fun _ _ => rfl) rfl (ok_one (by kernel_rfl) rfl (okWide_bool_mk Try.underlying4 _))⟩

set_option maxRecDepth 100000
theorem fact0 : (Rows.tutteLightRow.wf (OpenSpec.ofChange Rows.tutteLightSpec)) = true := by kernel_rfl
theorem fact3 : (Try.f10.params.all (Try.pinned.checked.prog.readableRec ·)) = true := by kernel_rfl
theorem fact4 : (namedTie Try.pinned.checked.prog Rows.tutteLightRow.named Rows.tutteLightSpec.vars) = true := by kernel_rfl
theorem fact5 : ((Rows.tutteLightRow.stops == [])) = true := by kernel_rfl
theorem fact7 : ((Rows.tutteLightRow.knobs == [])) = true := by kernel_rfl
theorem fact9 : ((Rows.tutteLightRow.inPlace == Try.pinned.checked.prog.inPlace 10)) = true := by kernel_rfl
theorem fact10 : ((Rows.tutteLightRow.unfollowed == Try.pinned.checked.prog.unfollowed 10)) = true := by kernel_rfl
theorem fact11 : ((Rows.tutteLightRow.recurses == Try.pinned.checked.prog.recurses 10)) = true := by kernel_rfl
theorem fact12 : ((Rows.tutteLightRow.named == Try.pinned.checked.prog.varsNamed 10)) = true := by kernel_rfl
theorem fact13 : ((Rows.tutteLightRow.maps == (Try.f10.params.toList ++ Rows.tutteLightSpec.plain.varTypes Try.pinned.checked.prog).any (Try.pinned.checked.prog.mapsRec ·))) = true := by kernel_rfl
theorem fact14 : ((Rows.tutteLightRow.ifaces == (Try.f10.params.toList ++ Rows.tutteLightSpec.plain.varTypes Try.pinned.checked.prog).any (Try.pinned.checked.prog.ifacesRec ·))) = true := by kernel_rfl
theorem fact15 : ((Rows.tutteLightRow.mapsOut == Try.pinned.checked.prog.mapsAmong Try.f10.resultTypes.toList)) = true := by kernel_rfl
theorem fact16 : ((Rows.tutteLightRow.loops == (Try.f10.params.toList ++ Rows.tutteLightSpec.plain.varTypes Try.pinned.checked.prog).any (Try.pinned.checked.prog.loopsFrom ·))) = true := by kernel_rfl
theorem fact17 : ((Rows.tutteLightRow.wideKeys == (Try.f10.params.toList ++ Rows.tutteLightSpec.plain.varTypes Try.pinned.checked.prog ++ Try.f10.resultTypes.toList).any (Try.pinned.checked.prog.wideKeysFrom ·))) = true := by kernel_rfl
theorem fact18 : (Rows.tutteLightSpec.vars.all (Try.pinned.checked.prog.varReadable ·)) = true := by kernel_rfl
theorem fact19 : (Try.f10.resultTypes.all (fun t => Try.pinned.checked.prog.readableRec t && decide (t < Try.pinned.checked.prog.types.size))) = true := by kernel_rfl
theorem fact20 : ((Rows.tutteLightRow.ifacesOut == Try.f10.resultTypes.toList.any (Try.pinned.checked.prog.ifacesRec ·))) = true := by kernel_rfl
theorem fact21 : ((Rows.tutteLightRow.loopsOut == Try.f10.resultTypes.toList.any (Try.pinned.checked.prog.loopsFrom ·))) = true := by kernel_rfl
theorem fact22 : ((Rows.tutteLightRow.plainKeys == Try.pinned.checked.prog.plainKeys)) = true := by kernel_rfl
theorem fact23 : (Rows.tutteLightRow.shortTexts.isNone) = true := by kernel_rfl
theorem fact28 : ((Rows.tutteLightRow.kinds == (if Rows.tutteLightRow.domain.isEmpty then [] else Try.f10.params.toList.map fun t => match Try.pinned.checked.prog.underlying t with | some (.int k) => some k | _ => none))) = true := by kernel_rfl
theorem fact29 : ((Rows.tutteLightRow.pinned == Rows.tutteLightRow.pinnedBy)) = true := by kernel_rfl
theorem fact30 : ((Rows.tutteLightRow.veiled == (Try.f10.params.toList ++ Rows.tutteLightSpec.plain.varTypes Try.pinned.checked.prog ++ Try.f10.resultTypes.toList).any (Try.pinned.checked.prog.veiledRec ·))) = true := by kernel_rfl
theorem fact31 : (Rows.tutteLightRow.veiledFits Try.pinned.checked.prog Try.f10.params.toList (Try.f10.params.toList ++ Rows.tutteLightSpec.plain.varTypes Try.pinned.checked.prog ++ Try.f10.resultTypes.toList)) = true := by kernel_rfl
theorem facts : joinedFacts Try.pinned.checked.prog 10 Try.f10 Rows.tutteLightSpec Rows.tutteLightRow = true :=
  Go.X.joinedFacts_of fact0 wide1 wide2 fact3 fact4 fact5 wide6 fact7 wide8 fact9 fact10 fact11 fact12 fact13 fact14 fact15 fact16 fact17 fact18 fact19 fact20 fact21 fact22 fact23 wide24 may_enter lifts_not rfl make_is rfl fact28 fact29 fact30 fact31

theorem over : Rows.tutteLightRow.holds Try.pinned (OpenSpec.ofChange Rows.tutteLightSpec) :=
  OpenClaim.holds_of_wide 10 Try.f10 rfl rfl rfl rfl rfl rfl rfl ⟨rfl, rfl, rfl, rfl, rfl⟩ rfl rfl rfl rfl rfl (by kernel_rfl) Try.func10 facts
    (of_decide_eq_true (by kernel_rfl)) (by unfold Func.isWrapper; first | (rw [if_pos (by decide +kernel)]; kernel_rfl) | (rw [if_neg (by decide +kernel)]; exact ⟨rfl, rfl⟩))
    (fun os started H enc _ => lifted os started H enc)

end Go.Proofs.Ytmcloipjlihhlaa.tutteLight

namespace Go.Proofs.Ytmcloipjlihhlaa
/-- The given statement. -/
theorem tutteLight_said : Rows.TutteLightSaid := tutteLight.over
end Go.Proofs.Ytmcloipjlihhlaa

