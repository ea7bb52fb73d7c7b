/- TutteMoved returns true whatever the input of such a size, and what stood in memory is as it was. Conditions: none. -/
import Derived.Test.YtmcloipjlihhlaaRows
import Derived.Test.YtmcloipjlihhlaaNMovedL
import Derived.Test.YtmcloipjlihhlaaXOpen2
import Derived.Test.YtmcloipjlihhlaaXFacts
import Derived.WalkKit
import Derived.ProofKit
import Derived.OpenShut
import Derived.ShutString
import Derived.Test.YtmcloipjlihhlaaXBulk
namespace Go.Proofs.Ytmcloipjlihhlaa.tutteMoved
open Go.ChangeShapes Go.WideShapes Go.ChangeAt Go.RowKit
set_option linter.unusedVariables false

theorem own : ownKnob Try.prog.godebug = none := by kernel_rfl
theorem laidOut : laidOutB Try.prog = true := by kernel_rfl

set_option maxRecDepth 100000 in
theorem lifted (os : Os) (started : os.Started) (H : Type) (enc : TypeId × Value → H) (F0 : Stop.Interp) :
    ReturnsInHanded {} Try.checked os 11 .any ((Rows.OpenSpec.upto Rows.tutteMovedSpec).pre6 enc Try.prog Try.f11 Rows.tutteMovedUptoRow.domain false) (((Rows.OpenSpec.upto Rows.tutteMovedSpec).at F0).post enc Try.prog Try.f11 false true false false) := by
  refine returnsInHanded_of_cond (C := Try.checked) (s := (Rows.OpenSpec.upto Rows.tutteMovedSpec)) (k := Rows.uptoSmall) rfl own started (by kernel_rfl) Try.func11
    (OpenSpec.witness (enc := enc) (C := Try.checked) (s := (Rows.OpenSpec.upto Rows.tutteMovedSpec)) (k := Rows.uptoSmall) rfl false ⟨#[], #[.slice none 0 0, .slice none 0 0], []⟩ 8 (by kernel_rfl) (by kernel_rfl) (by kernel_rfl) (x := ([.nil, .nil], [], [])) (by kernel_rfl) (by kernel_rfl) (by kernel_rfl)) ?_
  intro W base args ds gs before hval0 hW _ hk _
  have hval : ∀ (j : Nat) t v, Try.f11.params[j]? = some t → args[j]? = some v → Value.okWide Try.prog W .any base t v := hval0
  have hW' := hW
  obtain ⟨p, q, hA0, hV, rfl, hfz, hnd⟩ := hW
  have hA : DataW.TrodAll enc Try.prog W 0 (fun _ => true) true Try.f11.params.toList args.toList ds p := hA0
  rw [Try.params11] at hA hval
  obtain ⟨v0, vs0, d0, ds0, p0, q0, hargs, rfl, rfl, h0, r0⟩ := trodAll_cons hA
  obtain ⟨v1, vs1, d1, ds1, p1, q1, rfl, rfl, rfl, h1, r1⟩ := trodAll_cons r0
  obtain ⟨rfl, rfl, rfl⟩ := trodAll_nil r1
  obtain rfl : args = #[v0, v1] := by cases args; simp_all
  obtain ⟨rfl, rfl⟩ := trodVars_none hV
  obtain ⟨a0, l0, c0, rfl⟩ := okWide_slice Try.underlying50 (hval 0 50 v0 rfl rfl)
  obtain ⟨z0, w0, b0⟩ := Go.X.vw_open (Go.X.eK .u64) (enc := enc) Try.underlying50 (by kernel_rfl) (fun x e => Go.X.spot_wide Try.underlying50 (e ▸ hval 0 50 _ rfl rfl)) (fun n cs y => Go.X.el_int Try.underlying22) h0
  have lt0 : ∀ x ∈ p0, x.block < W.heap.size := by obtain ⟨m, hm⟩ := h0; exact DataW.trod_lt m _ _ _ hm
  obtain ⟨a1, l1, c1, rfl⟩ := okWide_slice Try.underlying50 (hval 1 50 v1 rfl rfl)
  obtain ⟨z1, w1, b1⟩ := Go.X.vw_open (Go.X.eK .u64) (enc := enc) Try.underlying50 (by kernel_rfl) (fun x e => Go.X.spot_wide Try.underlying50 (e ▸ hval 1 50 _ rfl rfl)) (fun n cs y => Go.X.el_int Try.underlying22) h1
  have lt1 : ∀ x ∈ p1, x.block < W.heap.size := by obtain ⟨m, hm⟩ := h1; exact DataW.trod_lt m _ _ _ hm
  clear hA0 hval0
  have e0 := bulk_slice b0
  have e1 := bulk_slice b1
  simp only [Rows.uptoSmall, decide_eq_true_eq, List.append_nil, Rows.uptoBulkAll] at hk
  refine (Go.X.calls_below (TutteMoved_ok (by omega) (by omega) (Go.X.Hp.vw w0 rfl (Go.X.Hp.vw w1 rfl (Go.X.Hp.nil _) rfl) rfl))).mono fun e W' ⟨he, bel⟩ => ?_
  subst he
  exact ⟨_, rfl, _, _, _, [], _, [], hW', trodAll_mk1 (shut_bool Try.underlying4 _), (trodAll_cons_mk (Below.trod laidOut (by kernel_rfl) (of_decide_eq_true (by kernel_rfl)) h0 bel lt0) (trodAll_cons_mk (Below.trod laidOut (by kernel_rfl) (of_decide_eq_true (by kernel_rfl)) h1 bel lt1) trodAll_mk0)), rfl, bel.frame _, fun h => by cases h⟩

set_option maxRecDepth 100000
theorem fact0 : (Rows.tutteMovedUptoRow.wf (OpenSpec.ofChange ((Rows.OpenSpec.upto Rows.tutteMovedSpec).bare))) = true := by kernel_rfl
theorem fact3 : (Try.f11.params.all (Try.pinned.checked.prog.readableRec ·)) = true := by kernel_rfl
theorem fact4 : (namedTie Try.pinned.checked.prog Rows.tutteMovedUptoRow.named ((Rows.OpenSpec.upto Rows.tutteMovedSpec).bare).vars) = true := by kernel_rfl
theorem fact5 : ((Rows.tutteMovedUptoRow.stops == [])) = true := by kernel_rfl
theorem fact7 : ((Rows.tutteMovedUptoRow.knobs == [])) = true := by kernel_rfl
theorem fact9 : ((Rows.tutteMovedUptoRow.inPlace == Try.pinned.checked.prog.inPlace 11)) = true := by kernel_rfl
theorem fact10 : ((Rows.tutteMovedUptoRow.unfollowed == Try.pinned.checked.prog.unfollowed 11)) = true := by kernel_rfl
theorem fact11 : ((Rows.tutteMovedUptoRow.recurses == Try.pinned.checked.prog.recurses 11)) = true := by kernel_rfl
theorem fact12 : ((Rows.tutteMovedUptoRow.named == Try.pinned.checked.prog.varsNamed 11)) = true := by kernel_rfl
theorem fact13 : ((Rows.tutteMovedUptoRow.maps == (Try.f11.params.toList ++ ((Rows.OpenSpec.upto Rows.tutteMovedSpec).bare).plain.varTypes Try.pinned.checked.prog).any (Try.pinned.checked.prog.mapsRec ·))) = true := by kernel_rfl
theorem fact14 : ((Rows.tutteMovedUptoRow.ifaces == (Try.f11.params.toList ++ ((Rows.OpenSpec.upto Rows.tutteMovedSpec).bare).plain.varTypes Try.pinned.checked.prog).any (Try.pinned.checked.prog.ifacesRec ·))) = true := by kernel_rfl
theorem fact15 : ((Rows.tutteMovedUptoRow.mapsOut == Try.pinned.checked.prog.mapsAmong Try.f11.resultTypes.toList)) = true := by kernel_rfl
theorem fact16 : ((Rows.tutteMovedUptoRow.loops == (Try.f11.params.toList ++ ((Rows.OpenSpec.upto Rows.tutteMovedSpec).bare).plain.varTypes Try.pinned.checked.prog).any (Try.pinned.checked.prog.loopsFrom ·))) = true := by kernel_rfl
theorem fact17 : ((Rows.tutteMovedUptoRow.wideKeys == (Try.f11.params.toList ++ ((Rows.OpenSpec.upto Rows.tutteMovedSpec).bare).plain.varTypes Try.pinned.checked.prog ++ Try.f11.resultTypes.toList).any (Try.pinned.checked.prog.wideKeysFrom ·))) = true := by kernel_rfl
theorem fact18 : (((Rows.OpenSpec.upto Rows.tutteMovedSpec).bare).vars.all (Try.pinned.checked.prog.varReadable ·)) = true := by kernel_rfl
theorem fact19 : (Try.f11.resultTypes.all (fun t => Try.pinned.checked.prog.readableRec t && decide (t < Try.pinned.checked.prog.types.size))) = true := by kernel_rfl
theorem fact20 : ((Rows.tutteMovedUptoRow.ifacesOut == Try.f11.resultTypes.toList.any (Try.pinned.checked.prog.ifacesRec ·))) = true := by kernel_rfl
theorem fact21 : ((Rows.tutteMovedUptoRow.loopsOut == Try.f11.resultTypes.toList.any (Try.pinned.checked.prog.loopsFrom ·))) = true := by kernel_rfl
theorem fact22 : ((Rows.tutteMovedUptoRow.plainKeys == Try.pinned.checked.prog.plainKeys)) = true := by kernel_rfl
theorem fact23 : (Rows.tutteMovedUptoRow.shortTexts.isNone) = true := by kernel_rfl
theorem fact28 : ((Rows.tutteMovedUptoRow.kinds == (if Rows.tutteMovedUptoRow.domain.isEmpty then [] else Try.f11.params.toList.map fun t => match Try.pinned.checked.prog.underlying t with | some (.int k) => some k | _ => none))) = true := by kernel_rfl
theorem fact29 : ((Rows.tutteMovedUptoRow.pinned == Rows.tutteMovedUptoRow.pinnedBy)) = true := by kernel_rfl
theorem fact30 : ((Rows.tutteMovedUptoRow.veiled == (Try.f11.params.toList ++ ((Rows.OpenSpec.upto Rows.tutteMovedSpec).bare).plain.varTypes Try.pinned.checked.prog ++ Try.f11.resultTypes.toList).any (Try.pinned.checked.prog.veiledRec ·))) = true := by kernel_rfl
theorem fact31 : (Rows.tutteMovedUptoRow.veiledFits Try.pinned.checked.prog Try.f11.params.toList (Try.f11.params.toList ++ ((Rows.OpenSpec.upto Rows.tutteMovedSpec).bare).plain.varTypes Try.pinned.checked.prog ++ Try.f11.resultTypes.toList)) = true := by kernel_rfl
theorem facts : joinedFacts Try.pinned.checked.prog 11 Try.f11 ((Rows.OpenSpec.upto Rows.tutteMovedSpec).bare) Rows.tutteMovedUptoRow = true :=
  Go.X.joinedFacts_of fact0 wide1 wide2 fact3 fact4 fact5 wide6 fact7 wide8 fact9 fact10 fact11 fact12 fact13 fact14 fact15 fact16 fact17 fact18 fact19 fact20 fact21 fact22 fact23 wide24 may_enter lifts_not rfl make_is rfl fact28 fact29 fact30 fact31

theorem over : Rows.tutteMovedUptoRow.holds Try.pinned (Rows.OpenSpec.upto Rows.tutteMovedSpec) :=
  OpenClaim.holds_of_cond 11 Try.f11 rfl rfl rfl rfl rfl rfl rfl ⟨rfl, rfl, rfl, rfl, rfl⟩ rfl rfl rfl rfl rfl (by kernel_rfl) Try.func11 facts
    (of_decide_eq_true (by kernel_rfl)) (by unfold Func.isWrapper; first | (rw [if_pos (by decide +kernel)]; kernel_rfl) | (rw [if_neg (by decide +kernel)]; exact ⟨rfl, rfl⟩))
    (fun os started H enc _ F0 => lifted os started H enc F0)

end Go.Proofs.Ytmcloipjlihhlaa.tutteMoved

namespace Go.Proofs.Ytmcloipjlihhlaa
/-- The given statement. -/
theorem tutteMoved_said : Rows.TutteMovedUptoSaid := tutteMoved.over
end Go.Proofs.Ytmcloipjlihhlaa
