/- WalkJoins returns true whatever the input of such a size, and what stood in memory is as it was. Conditions: none. -/
import Derived.Test.YtmcloipjlihhlaaRows
import Derived.Test.YtmcloipjlihhlaaNJoins
import Derived.Test.YtmcloipjlihhlaaXOpen2
import Derived.Test.YtmcloipjlihhlaaXFacts
import Derived.WalkKit
import Derived.ProofKit
import Derived.OpenShut
import Derived.ShutString
import Derived.Test.YtmcloipjlihhlaaXBulk
namespace Go.Proofs.Ytmcloipjlihhlaa.walkJoins
open Go.ChangeShapes Go.WideShapes Go.ChangeAt Go.RowKit
set_option linter.unusedVariables false

theorem own : ownKnob Try.prog.godebug = none := by kernel_rfl
theorem laidOut : laidOutB Try.prog = true := by kernel_rfl

set_option maxRecDepth 100000 in
theorem lifted (os : Os) (started : os.Started) (H : Type) (enc : TypeId × Value → H) (F0 : Stop.Interp) :
    ReturnsInHanded {} Try.checked os 20 .any ((Rows.OpenSpec.upto Rows.walkJoinsSpec).pre6 enc Try.prog Try.f20 Rows.walkJoinsUptoRow.domain false) (((Rows.OpenSpec.upto Rows.walkJoinsSpec).at F0).post enc Try.prog Try.f20 false true false false) := by
  refine returnsInHanded_of_cond (C := Try.checked) (s := (Rows.OpenSpec.upto Rows.walkJoinsSpec)) (k := Rows.uptoSmall) rfl own started (by kernel_rfl) Try.func20
    (OpenSpec.witness (enc := enc) (C := Try.checked) (s := (Rows.OpenSpec.upto Rows.walkJoinsSpec)) (k := Rows.uptoSmall) rfl false ⟨#[], #[.agg #[.int .i64 0, .slice none 0 0], .int .i64 0, .int .i64 0], []⟩ 8 (by kernel_rfl) (by kernel_rfl) (by kernel_rfl) (x := ([.agg [.lit (.int .i64 0), .nil], .lit (.int .i64 0), .lit (.int .i64 0)], [], [])) (by kernel_rfl) (by kernel_rfl) (by kernel_rfl)) ?_
  intro W base args ds gs before hval0 hW _ hk _
  have hval : ∀ (j : Nat) t v, Try.f20.params[j]? = some t → args[j]? = some v → Value.okWide Try.prog W .any base t v := hval0
  have hW' := hW
  obtain ⟨p, q, hA0, hV, rfl, hfz, hnd⟩ := hW
  have hA : DataW.TrodAll enc Try.prog W 0 (fun _ => true) true Try.f20.params.toList args.toList ds p := hA0
  rw [Try.params20] at hA hval
  obtain ⟨v0, vs0, d0, ds0, p0, q0, hargs, rfl, rfl, h0, r0⟩ := trodAll_cons hA
  obtain ⟨v1, vs1, d1, ds1, p1, q1, rfl, rfl, rfl, h1, r1⟩ := trodAll_cons r0
  obtain ⟨v2, vs2, d2, ds2, p2, q2, rfl, rfl, rfl, h2, r2⟩ := trodAll_cons r1
  obtain ⟨rfl, rfl, rfl⟩ := trodAll_nil r2
  obtain rfl : args = #[v0, v1, v2] := by cases args; simp_all
  obtain ⟨rfl, rfl⟩ := trodVars_none hV
  obtain ⟨n0, a0, l0, c0, z0, rfl, w0, b0⟩ := Go.X.net_open (enc := enc) Try.underlying26 rfl rfl rfl rfl Try.underlying3 Try.underlying24 Try.underlying35 (by kernel_rfl) (by kernel_rfl) (by kernel_rfl) (by kernel_rfl) (by kernel_rfl) (hval 0 26 v0 rfl rfl) h0
  have lt0 : ∀ x ∈ p0, x.block < W.heap.size := by obtain ⟨m, hm⟩ := h0; exact DataW.trod_lt m _ _ _ hm
  obtain ⟨a1, rfl⟩ := okWide_int Try.underlying3 (hval 1 3 v1 rfl rfl)
  have lt1 : ∀ x ∈ p1, x.block < W.heap.size := by obtain ⟨m, hm⟩ := h1; exact DataW.trod_lt m _ _ _ hm
  obtain ⟨a2, rfl⟩ := okWide_int Try.underlying3 (hval 2 3 v2 rfl rfl)
  have lt2 : ∀ x ∈ p2, x.block < W.heap.size := by obtain ⟨m, hm⟩ := h2; exact DataW.trod_lt m _ _ _ hm
  clear hA0 hval0
  have e0 := bulk_net b0
  simp only [Rows.uptoSmall, decide_eq_true_eq, List.append_nil, Rows.uptoBulkAll] at hk
  refine (Go.X.calls_below (WalkJoins_ok (by omega) (Go.X.Hp.vw w0 rfl (Go.X.Hp.nil _) rfl))).mono fun e W' ⟨he, bel⟩ => ?_
  subst he
  exact ⟨_, rfl, _, _, _, [], _, [], hW', trodAll_mk1 (shut_bool Try.underlying4 _), (trodAll_cons_mk (Below.trod laidOut (by kernel_rfl) (of_decide_eq_true (by kernel_rfl)) h0 bel lt0) (trodAll_cons_mk (Below.trod laidOut (by kernel_rfl) (of_decide_eq_true (by kernel_rfl)) h1 bel lt1) (trodAll_cons_mk (Below.trod laidOut (by kernel_rfl) (of_decide_eq_true (by kernel_rfl)) h2 bel lt2) trodAll_mk0))), rfl, bel.frame _, fun h => by cases h⟩

set_option maxRecDepth 100000
theorem fact0 : (Rows.walkJoinsUptoRow.wf (OpenSpec.ofChange ((Rows.OpenSpec.upto Rows.walkJoinsSpec).bare))) = true := by kernel_rfl
theorem fact3 : (Try.f20.params.all (Try.pinned.checked.prog.readableRec ·)) = true := by kernel_rfl
theorem fact4 : (namedTie Try.pinned.checked.prog Rows.walkJoinsUptoRow.named ((Rows.OpenSpec.upto Rows.walkJoinsSpec).bare).vars) = true := by kernel_rfl
theorem fact5 : ((Rows.walkJoinsUptoRow.stops == [])) = true := by kernel_rfl
theorem fact7 : ((Rows.walkJoinsUptoRow.knobs == [])) = true := by kernel_rfl
theorem fact9 : ((Rows.walkJoinsUptoRow.inPlace == Try.pinned.checked.prog.inPlace 20)) = true := by kernel_rfl
theorem fact10 : ((Rows.walkJoinsUptoRow.unfollowed == Try.pinned.checked.prog.unfollowed 20)) = true := by kernel_rfl
theorem fact11 : ((Rows.walkJoinsUptoRow.recurses == Try.pinned.checked.prog.recurses 20)) = true := by kernel_rfl
theorem fact12 : ((Rows.walkJoinsUptoRow.named == Try.pinned.checked.prog.varsNamed 20)) = true := by kernel_rfl
theorem fact13 : ((Rows.walkJoinsUptoRow.maps == (Try.f20.params.toList ++ ((Rows.OpenSpec.upto Rows.walkJoinsSpec).bare).plain.varTypes Try.pinned.checked.prog).any (Try.pinned.checked.prog.mapsRec ·))) = true := by kernel_rfl
theorem fact14 : ((Rows.walkJoinsUptoRow.ifaces == (Try.f20.params.toList ++ ((Rows.OpenSpec.upto Rows.walkJoinsSpec).bare).plain.varTypes Try.pinned.checked.prog).any (Try.pinned.checked.prog.ifacesRec ·))) = true := by kernel_rfl
theorem fact15 : ((Rows.walkJoinsUptoRow.mapsOut == Try.pinned.checked.prog.mapsAmong Try.f20.resultTypes.toList)) = true := by kernel_rfl
theorem fact16 : ((Rows.walkJoinsUptoRow.loops == (Try.f20.params.toList ++ ((Rows.OpenSpec.upto Rows.walkJoinsSpec).bare).plain.varTypes Try.pinned.checked.prog).any (Try.pinned.checked.prog.loopsFrom ·))) = true := by kernel_rfl
theorem fact17 : ((Rows.walkJoinsUptoRow.wideKeys == (Try.f20.params.toList ++ ((Rows.OpenSpec.upto Rows.walkJoinsSpec).bare).plain.varTypes Try.pinned.checked.prog ++ Try.f20.resultTypes.toList).any (Try.pinned.checked.prog.wideKeysFrom ·))) = true := by kernel_rfl
theorem fact18 : (((Rows.OpenSpec.upto Rows.walkJoinsSpec).bare).vars.all (Try.pinned.checked.prog.varReadable ·)) = true := by kernel_rfl
theorem fact19 : (Try.f20.resultTypes.all (fun t => Try.pinned.checked.prog.readableRec t && decide (t < Try.pinned.checked.prog.types.size))) = true := by kernel_rfl
theorem fact20 : ((Rows.walkJoinsUptoRow.ifacesOut == Try.f20.resultTypes.toList.any (Try.pinned.checked.prog.ifacesRec ·))) = true := by kernel_rfl
theorem fact21 : ((Rows.walkJoinsUptoRow.loopsOut == Try.f20.resultTypes.toList.any (Try.pinned.checked.prog.loopsFrom ·))) = true := by kernel_rfl
theorem fact22 : ((Rows.walkJoinsUptoRow.plainKeys == Try.pinned.checked.prog.plainKeys)) = true := by kernel_rfl
theorem fact23 : (Rows.walkJoinsUptoRow.shortTexts.isNone) = true := by kernel_rfl
theorem fact28 : ((Rows.walkJoinsUptoRow.kinds == (if Rows.walkJoinsUptoRow.domain.isEmpty then [] else Try.f20.params.toList.map fun t => match Try.pinned.checked.prog.underlying t with | some (.int k) => some k | _ => none))) = true := by kernel_rfl
theorem fact29 : ((Rows.walkJoinsUptoRow.pinned == Rows.walkJoinsUptoRow.pinnedBy)) = true := by kernel_rfl
theorem fact30 : ((Rows.walkJoinsUptoRow.veiled == (Try.f20.params.toList ++ ((Rows.OpenSpec.upto Rows.walkJoinsSpec).bare).plain.varTypes Try.pinned.checked.prog ++ Try.f20.resultTypes.toList).any (Try.pinned.checked.prog.veiledRec ·))) = true := by kernel_rfl
theorem fact31 : (Rows.walkJoinsUptoRow.veiledFits Try.pinned.checked.prog Try.f20.params.toList (Try.f20.params.toList ++ ((Rows.OpenSpec.upto Rows.walkJoinsSpec).bare).plain.varTypes Try.pinned.checked.prog ++ Try.f20.resultTypes.toList)) = true := by kernel_rfl
theorem facts : joinedFacts Try.pinned.checked.prog 20 Try.f20 ((Rows.OpenSpec.upto Rows.walkJoinsSpec).bare) Rows.walkJoinsUptoRow = true :=
  Go.X.joinedFacts_of fact0 wide1 wide2 fact3 fact4 fact5 wide6 fact7 wide8 fact9 fact10 fact11 fact12 fact13 fact14 fact15 fact16 fact17 fact18 fact19 fact20 fact21 fact22 fact23 wide24 may_enter lifts_not rfl make_is rfl fact28 fact29 fact30 fact31

theorem over : Rows.walkJoinsUptoRow.holds Try.pinned (Rows.OpenSpec.upto Rows.walkJoinsSpec) :=
  OpenClaim.holds_of_cond 20 Try.f20 rfl rfl rfl rfl rfl rfl rfl ⟨rfl, rfl, rfl, rfl, rfl⟩ rfl rfl rfl rfl rfl (by kernel_rfl) Try.func20 facts
    (of_decide_eq_true (by kernel_rfl)) (by unfold Func.isWrapper; first | (rw [if_pos (by decide +kernel)]; kernel_rfl) | (rw [if_neg (by decide +kernel)]; exact ⟨rfl, rfl⟩))
    (fun os started H enc _ F0 => lifted os started H enc F0)

end Go.Proofs.Ytmcloipjlihhlaa.walkJoins

namespace Go.Proofs.Ytmcloipjlihhlaa
/-- The given statement. -/
theorem walkJoins_said : Rows.WalkJoinsUptoSaid := walkJoins.over
end Go.Proofs.Ytmcloipjlihhlaa
