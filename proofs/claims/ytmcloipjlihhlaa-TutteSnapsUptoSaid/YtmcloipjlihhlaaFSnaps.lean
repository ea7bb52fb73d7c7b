/- TutteSnaps returns true whatever the input of such a size, and what stood in memory is as it was. Conditions: none. -/
import Derived.Test.YtmcloipjlihhlaaRows
import Derived.Test.YtmcloipjlihhlaaNSnaps
import Derived.Test.YtmcloipjlihhlaaXOpen2
import Derived.Test.YtmcloipjlihhlaaXFacts
import Derived.WalkKit
import Derived.ProofKit
import Derived.OpenShut
import Derived.ShutString
import Derived.Test.YtmcloipjlihhlaaXBulk
import Derived.Test.YtmcloipjlihhlaaXOpen3
namespace Go.Proofs.Ytmcloipjlihhlaa.tutteSnaps
open Go.ChangeShapes Go.WideShapes Go.ChangeAt Go.RowKit
set_option linter.unusedVariables false

theorem own : ownKnob Try.prog.godebug = none := by kernel_rfl
theorem laidOut : laidOutB Try.prog = true := by kernel_rfl

set_option maxRecDepth 100000 in
theorem lifted (os : Os) (started : os.Started) (H : Type) (enc : TypeId × Value → H) (F0 : Stop.Interp) :
    ReturnsInHanded {} Try.checked os 9 .any ((Rows.OpenSpec.upto Rows.tutteSnapsSpec).pre6 enc Try.prog Try.f9 Rows.tutteSnapsUptoRow.domain false) (((Rows.OpenSpec.upto Rows.tutteSnapsSpec).at F0).post enc Try.prog Try.f9 false true false false) := by
  refine returnsInHanded_of_cond (C := Try.checked) (s := (Rows.OpenSpec.upto Rows.tutteSnapsSpec)) (k := Rows.uptoSmall) rfl own started (by kernel_rfl) Try.func9
    (OpenSpec.witness (enc := enc) (C := Try.checked) (s := (Rows.OpenSpec.upto Rows.tutteSnapsSpec)) (k := Rows.uptoSmall) rfl false ⟨#[], #[.slice none 0 0, .slice none 0 0], []⟩ 8 (by kernel_rfl) (by kernel_rfl) (by kernel_rfl) (x := ([.nil, .nil], [], [])) (by kernel_rfl) (by kernel_rfl) (by kernel_rfl)) ?_
  intro W base args ds gs before hval0 hW _ hk _
  have hval : ∀ (j : Nat) t v, Try.f9.params[j]? = some t → args[j]? = some v → Value.okWide Try.prog W .any base t v := hval0
  have hW' := hW
  obtain ⟨p, q, hA0, hV, rfl, hfz, hnd⟩ := hW
  have hA : DataW.TrodAll enc Try.prog W 0 (fun _ => true) true Try.f9.params.toList args.toList ds p := hA0
  rw [Try.params9] at hA hval
  obtain ⟨v0, vs0, d0, ds0, p0, q0, hargs, rfl, rfl, h0, r0⟩ := trodAll_cons hA
  obtain ⟨v1, vs1, d1, ds1, p1, q1, rfl, rfl, rfl, h1, r1⟩ := trodAll_cons r0
  obtain ⟨rfl, rfl, rfl⟩ := trodAll_nil r1
  obtain rfl : args = #[v0, v1] := by cases args; simp_all
  obtain ⟨rfl, rfl⟩ := trodVars_none hV
  obtain ⟨a0, l0, c0, rfl⟩ := okWide_slice Try.underlying50 (hval 0 50 v0 rfl rfl)
  obtain ⟨z0, w0, b0⟩ := Go.X.vw_open (Go.X.eK .u64) (enc := enc) Try.underlying50 (by kernel_rfl) (fun x e => Go.X.spot_wide Try.underlying50 (e ▸ hval 0 50 _ rfl rfl)) (fun n cs y => Go.X.el_int Try.underlying22) h0
  have lt0 : ∀ x ∈ p0, x.block < W.heap.size := by obtain ⟨m, hm⟩ := h0; exact DataW.trod_lt m _ _ _ hm
  obtain ⟨a1, l1, c1, rfl⟩ := okWide_slice Try.underlying77 (hval 1 77 v1 rfl rfl)
  obtain ⟨z1, w1, b1, g1⟩ := Go.X.ints_open .i16 (enc := enc) Try.underlying77 Try.underlying79 (by kernel_rfl) (fun x e => Go.X.spot_wide Try.underlying77 (e ▸ hval 1 77 _ rfl rfl)) h1
  have lt1 : ∀ x ∈ p1, x.block < W.heap.size := by obtain ⟨m, hm⟩ := h1; exact DataW.trod_lt m _ _ _ hm
  clear hA0 hval0
  have e0 := bulk_slice b0
  have e1 := bulk_slice b1
  simp only [Rows.uptoSmall, decide_eq_true_eq, List.append_nil, Rows.uptoBulkAll] at hk
  refine (Go.X.calls_below (TutteSnaps_ok (by omega) (by omega) (fun x hx => Go.X.wf_i16 (g1 x hx)) (Go.X.Hp.vw w0 rfl (Go.X.Hp.vw w1 rfl (Go.X.Hp.nil _) rfl) rfl))).mono fun e W' ⟨he, bel⟩ => ?_
  subst he
  exact ⟨_, rfl, _, _, _, [], _, [], hW', trodAll_mk1 (shut_bool Try.underlying4 _), (trodAll_cons_mk (Below.trod laidOut (by kernel_rfl) (of_decide_eq_true (by kernel_rfl)) h0 bel lt0) (trodAll_cons_mk (Below.trod laidOut (by kernel_rfl) (of_decide_eq_true (by kernel_rfl)) h1 bel lt1) trodAll_mk0)), rfl, bel.frame _, fun h => by cases h⟩

set_option maxRecDepth 100000
theorem fact0 : (Rows.tutteSnapsUptoRow.wf (OpenSpec.ofChange ((Rows.OpenSpec.upto Rows.tutteSnapsSpec).bare))) = true := by kernel_rfl
theorem fact3 : (Try.f9.params.all (Try.pinned.checked.prog.readableRec ·)) = true := by kernel_rfl
theorem fact4 : (namedTie Try.pinned.checked.prog Rows.tutteSnapsUptoRow.named ((Rows.OpenSpec.upto Rows.tutteSnapsSpec).bare).vars) = true := by kernel_rfl
theorem fact5 : ((Rows.tutteSnapsUptoRow.stops == [])) = true := by kernel_rfl
theorem fact7 : ((Rows.tutteSnapsUptoRow.knobs == [])) = true := by kernel_rfl
theorem fact9 : ((Rows.tutteSnapsUptoRow.inPlace == Try.pinned.checked.prog.inPlace 9)) = true := by kernel_rfl
theorem fact10 : ((Rows.tutteSnapsUptoRow.unfollowed == Try.pinned.checked.prog.unfollowed 9)) = true := by kernel_rfl
theorem fact11 : ((Rows.tutteSnapsUptoRow.recurses == Try.pinned.checked.prog.recurses 9)) = true := by kernel_rfl
theorem fact12 : ((Rows.tutteSnapsUptoRow.named == Try.pinned.checked.prog.varsNamed 9)) = true := by kernel_rfl
theorem fact13 : ((Rows.tutteSnapsUptoRow.maps == (Try.f9.params.toList ++ ((Rows.OpenSpec.upto Rows.tutteSnapsSpec).bare).plain.varTypes Try.pinned.checked.prog).any (Try.pinned.checked.prog.mapsRec ·))) = true := by kernel_rfl
theorem fact14 : ((Rows.tutteSnapsUptoRow.ifaces == (Try.f9.params.toList ++ ((Rows.OpenSpec.upto Rows.tutteSnapsSpec).bare).plain.varTypes Try.pinned.checked.prog).any (Try.pinned.checked.prog.ifacesRec ·))) = true := by kernel_rfl
theorem fact15 : ((Rows.tutteSnapsUptoRow.mapsOut == Try.pinned.checked.prog.mapsAmong Try.f9.resultTypes.toList)) = true := by kernel_rfl
theorem fact16 : ((Rows.tutteSnapsUptoRow.loops == (Try.f9.params.toList ++ ((Rows.OpenSpec.upto Rows.tutteSnapsSpec).bare).plain.varTypes Try.pinned.checked.prog).any (Try.pinned.checked.prog.loopsFrom ·))) = true := by kernel_rfl
theorem fact17 : ((Rows.tutteSnapsUptoRow.wideKeys == (Try.f9.params.toList ++ ((Rows.OpenSpec.upto Rows.tutteSnapsSpec).bare).plain.varTypes Try.pinned.checked.prog ++ Try.f9.resultTypes.toList).any (Try.pinned.checked.prog.wideKeysFrom ·))) = true := by kernel_rfl
theorem fact18 : (((Rows.OpenSpec.upto Rows.tutteSnapsSpec).bare).vars.all (Try.pinned.checked.prog.varReadable ·)) = true := by kernel_rfl
theorem fact19 : (Try.f9.resultTypes.all (fun t => Try.pinned.checked.prog.readableRec t && decide (t < Try.pinned.checked.prog.types.size))) = true := by kernel_rfl
theorem fact20 : ((Rows.tutteSnapsUptoRow.ifacesOut == Try.f9.resultTypes.toList.any (Try.pinned.checked.prog.ifacesRec ·))) = true := by kernel_rfl
theorem fact21 : ((Rows.tutteSnapsUptoRow.loopsOut == Try.f9.resultTypes.toList.any (Try.pinned.checked.prog.loopsFrom ·))) = true := by kernel_rfl
theorem fact22 : ((Rows.tutteSnapsUptoRow.plainKeys == Try.pinned.checked.prog.plainKeys)) = true := by kernel_rfl
theorem fact23 : (Rows.tutteSnapsUptoRow.shortTexts.isNone) = true := by kernel_rfl
theorem fact28 : ((Rows.tutteSnapsUptoRow.kinds == (if Rows.tutteSnapsUptoRow.domain.isEmpty then [] else Try.f9.params.toList.map fun t => match Try.pinned.checked.prog.underlying t with | some (.int k) => some k | _ => none))) = true := by kernel_rfl
theorem fact29 : ((Rows.tutteSnapsUptoRow.pinned == Rows.tutteSnapsUptoRow.pinnedBy)) = true := by kernel_rfl
theorem fact30 : ((Rows.tutteSnapsUptoRow.veiled == (Try.f9.params.toList ++ ((Rows.OpenSpec.upto Rows.tutteSnapsSpec).bare).plain.varTypes Try.pinned.checked.prog ++ Try.f9.resultTypes.toList).any (Try.pinned.checked.prog.veiledRec ·))) = true := by kernel_rfl
theorem fact31 : (Rows.tutteSnapsUptoRow.veiledFits Try.pinned.checked.prog Try.f9.params.toList (Try.f9.params.toList ++ ((Rows.OpenSpec.upto Rows.tutteSnapsSpec).bare).plain.varTypes Try.pinned.checked.prog ++ Try.f9.resultTypes.toList)) = true := by kernel_rfl
theorem facts : joinedFacts Try.pinned.checked.prog 9 Try.f9 ((Rows.OpenSpec.upto Rows.tutteSnapsSpec).bare) Rows.tutteSnapsUptoRow = true :=
  Go.X.joinedFacts_of fact0 wide1 wide2 fact3 fact4 fact5 wide6 fact7 wide8 fact9 fact10 fact11 fact12 fact13 fact14 fact15 fact16 fact17 fact18 fact19 fact20 fact21 fact22 fact23 wide24 may_enter lifts_not rfl make_is rfl fact28 fact29 fact30 fact31

theorem over : Rows.tutteSnapsUptoRow.holds Try.pinned (Rows.OpenSpec.upto Rows.tutteSnapsSpec) :=
  OpenClaim.holds_of_cond 9 Try.f9 rfl rfl rfl rfl rfl rfl rfl ⟨rfl, rfl, rfl, rfl, rfl⟩ rfl rfl rfl rfl rfl (by kernel_rfl) Try.func9 facts
    (of_decide_eq_true (by kernel_rfl)) (by unfold Func.isWrapper; first | (rw [if_pos (by decide +kernel)]; kernel_rfl) | (rw [if_neg (by decide +kernel)]; exact ⟨rfl, rfl⟩))
    (fun os started H enc _ F0 => lifted os started H enc F0)

end Go.Proofs.Ytmcloipjlihhlaa.tutteSnaps

namespace Go.Proofs.Ytmcloipjlihhlaa
/-- The given statement. -/
theorem tutteSnaps_said : Rows.TutteSnapsUptoSaid := tutteSnaps.over
end Go.Proofs.Ytmcloipjlihhlaa
