/- KuraAll returns true whatever the input, and what stood in memory is as it was. Conditions: none. -/
import Derived.Test.YtmcloipjlihhlaaRows
import Derived.Test.YtmcloipjlihhlaaNKuraZ
import Derived.Test.YtmcloipjlihhlaaXOpen2
import Derived.Test.YtmcloipjlihhlaaXFacts
import Derived.WalkKit
import Derived.ProofKit
import Derived.OpenShut
import Derived.ShutString
namespace Go.Proofs.Ytmcloipjlihhlaa.kuraAll
open Go.ChangeShapes Go.WideShapes Go.ChangeAt Go.RowKit
set_option linter.unusedVariables false

theorem own : ownKnob Try.prog.godebug = none := by kernel_rfl
theorem laidOut : laidOutB Try.prog = true := by kernel_rfl
set_option maxRecDepth 100000 in
theorem lifted (os : Os) (started : os.Started) (H : Type) (enc : TypeId × Value → H) :
    ReturnsInHanded {} Try.checked os 12 .any (Rows.kuraAllSpec.pre6 enc Try.prog Try.f12 Rows.kuraAllRow.domain false) (Rows.kuraAllSpec.post enc Try.prog Try.f12 false true false false) := by
  refine returnsInHanded_of_change (C := Try.checked) own started (by kernel_rfl) Try.func12
    (ChangeSpec.witness6 (enc := enc) (C := Try.checked) false ⟨#[], #[.agg #[.int .i64 0, .slice none 0 0], .slice none 0 0], []⟩ 8 (by kernel_rfl) (by kernel_rfl) (by kernel_rfl) (by kernel_rfl)) ?_
  intro W base args ds gs before hval0 hW hcnd _
  have hval : ∀ (j : Nat) t v, Try.f12.params[j]? = some t → args[j]? = some v → Value.okWide Try.prog W .any base t v := hval0
  have hW' := hW
  obtain ⟨p, q, hA0, hV, rfl, hfz, hnd⟩ := hW
  have hA : DataW.TrodAll enc Try.prog W 0 (fun _ => true) true Try.f12.params.toList args.toList ds p := hA0
  rw [Try.params12] at hA hval
  obtain ⟨v0, vs0, d0, ds0, p0, q0, hargs, rfl, rfl, h0, r0⟩ := trodAll_cons hA
  obtain ⟨v1, vs1, d1, ds1, p1, q1, rfl, rfl, rfl, h1, r1⟩ := trodAll_cons r0
  obtain ⟨rfl, rfl, rfl⟩ := trodAll_nil r1
  obtain rfl : args = #[v0, v1] := by cases args; simp_all
  obtain ⟨rfl, rfl⟩ := trodVars_none hV
  obtain ⟨n0, a0, l0, c0, z0, rfl, w0, b0⟩ := Go.X.net_open (enc := enc) Try.underlying26 rfl rfl rfl rfl Try.underlying3 Try.underlying24 Try.underlying35 (by kernel_rfl) (by kernel_rfl) (by kernel_rfl) (by kernel_rfl) (by kernel_rfl) (hval 0 26 v0 rfl rfl) h0
  have lt0 : ∀ x ∈ p0, x.block < W.heap.size := by obtain ⟨m, hm⟩ := h0; exact DataW.trod_lt m _ _ _ hm
  obtain ⟨a1, l1, c1, rfl⟩ := okWide_slice Try.underlying40 (hval 1 40 v1 rfl rfl)
  obtain ⟨z1, w1, b1⟩ := Go.X.vw_open Go.X.eI (enc := enc) Try.underlying40 (by kernel_rfl) (fun x e => Go.X.spot_wide Try.underlying40 (e ▸ hval 1 40 _ rfl rfl)) (fun n cs y => Go.X.el_int Try.underlying3) h1
  have lt1 : ∀ x ∈ p1, x.block < W.heap.size := by obtain ⟨m, hm⟩ := h1; exact DataW.trod_lt m _ _ _ hm
  clear hA0 hval0
  refine (Go.X.calls_below (KuraAll_ok (Go.X.Hp.vw w0 rfl (Go.X.Hp.vw w1 rfl (Go.X.Hp.nil _) rfl) rfl))).mono fun e W' ⟨he, bel⟩ => ?_
  subst he
  exact ⟨_, rfl, _, _, _, [], _, [], hW', trodAll_mk1 (shut_bool Try.underlying4 _), (trodAll_cons_mk (Below.trod laidOut (by kernel_rfl) (of_decide_eq_true (by kernel_rfl)) h0 bel lt0) (trodAll_cons_mk (Below.trod laidOut (by kernel_rfl) (of_decide_eq_true (by kernel_rfl)) h1 bel lt1) trodAll_mk0)), rfl, bel.frame _, fun h => by cases h⟩
set_option maxRecDepth 100000
theorem fact0 : (Rows.kuraAllRow.wf (OpenSpec.ofChange Rows.kuraAllSpec)) = true := by kernel_rfl
theorem fact3 : (Try.f12.params.all (Try.pinned.checked.prog.readableRec ·)) = true := by kernel_rfl
theorem fact4 : (namedTie Try.pinned.checked.prog Rows.kuraAllRow.named Rows.kuraAllSpec.vars) = true := by kernel_rfl
theorem fact5 : ((Rows.kuraAllRow.stops == [])) = true := by kernel_rfl
theorem fact7 : ((Rows.kuraAllRow.knobs == [])) = true := by kernel_rfl
theorem fact9 : ((Rows.kuraAllRow.inPlace == Try.pinned.checked.prog.inPlace 12)) = true := by kernel_rfl
theorem fact10 : ((Rows.kuraAllRow.unfollowed == Try.pinned.checked.prog.unfollowed 12)) = true := by kernel_rfl
theorem fact11 : ((Rows.kuraAllRow.recurses == Try.pinned.checked.prog.recurses 12)) = true := by kernel_rfl
theorem fact12 : ((Rows.kuraAllRow.named == Try.pinned.checked.prog.varsNamed 12)) = true := by kernel_rfl
theorem fact13 : ((Rows.kuraAllRow.maps == (Try.f12.params.toList ++ Rows.kuraAllSpec.plain.varTypes Try.pinned.checked.prog).any (Try.pinned.checked.prog.mapsRec ·))) = true := by kernel_rfl
theorem fact14 : ((Rows.kuraAllRow.ifaces == (Try.f12.params.toList ++ Rows.kuraAllSpec.plain.varTypes Try.pinned.checked.prog).any (Try.pinned.checked.prog.ifacesRec ·))) = true := by kernel_rfl
theorem fact15 : ((Rows.kuraAllRow.mapsOut == Try.pinned.checked.prog.mapsAmong Try.f12.resultTypes.toList)) = true := by kernel_rfl
theorem fact16 : ((Rows.kuraAllRow.loops == (Try.f12.params.toList ++ Rows.kuraAllSpec.plain.varTypes Try.pinned.checked.prog).any (Try.pinned.checked.prog.loopsFrom ·))) = true := by kernel_rfl
theorem fact17 : ((Rows.kuraAllRow.wideKeys == (Try.f12.params.toList ++ Rows.kuraAllSpec.plain.varTypes Try.pinned.checked.prog ++ Try.f12.resultTypes.toList).any (Try.pinned.checked.prog.wideKeysFrom ·))) = true := by kernel_rfl
theorem fact18 : (Rows.kuraAllSpec.vars.all (Try.pinned.checked.prog.varReadable ·)) = true := by kernel_rfl
theorem fact19 : (Try.f12.resultTypes.all (fun t => Try.pinned.checked.prog.readableRec t && decide (t < Try.pinned.checked.prog.types.size))) = true := by kernel_rfl
theorem fact20 : ((Rows.kuraAllRow.ifacesOut == Try.f12.resultTypes.toList.any (Try.pinned.checked.prog.ifacesRec ·))) = true := by kernel_rfl
theorem fact21 : ((Rows.kuraAllRow.loopsOut == Try.f12.resultTypes.toList.any (Try.pinned.checked.prog.loopsFrom ·))) = true := by kernel_rfl
theorem fact22 : ((Rows.kuraAllRow.plainKeys == Try.pinned.checked.prog.plainKeys)) = true := by kernel_rfl
theorem fact23 : (Rows.kuraAllRow.shortTexts.isNone) = true := by kernel_rfl
theorem fact28 : ((Rows.kuraAllRow.kinds == (if Rows.kuraAllRow.domain.isEmpty then [] else Try.f12.params.toList.map fun t => match Try.pinned.checked.prog.underlying t with | some (.int k) => some k | _ => none))) = true := by kernel_rfl
theorem fact29 : ((Rows.kuraAllRow.pinned == Rows.kuraAllRow.pinnedBy)) = true := by kernel_rfl
theorem fact30 : ((Rows.kuraAllRow.veiled == (Try.f12.params.toList ++ Rows.kuraAllSpec.plain.varTypes Try.pinned.checked.prog ++ Try.f12.resultTypes.toList).any (Try.pinned.checked.prog.veiledRec ·))) = true := by kernel_rfl
theorem fact31 : (Rows.kuraAllRow.veiledFits Try.pinned.checked.prog Try.f12.params.toList (Try.f12.params.toList ++ Rows.kuraAllSpec.plain.varTypes Try.pinned.checked.prog ++ Try.f12.resultTypes.toList)) = true := by kernel_rfl
theorem facts : joinedFacts Try.pinned.checked.prog 12 Try.f12 Rows.kuraAllSpec Rows.kuraAllRow = true :=
  Go.X.joinedFacts_of fact0 wide1 wide2 fact3 fact4 fact5 wide6 fact7 wide8 fact9 fact10 fact11 fact12 fact13 fact14 fact15 fact16 fact17 fact18 fact19 fact20 fact21 fact22 fact23 wide24 may_enter lifts_not rfl make_is rfl fact28 fact29 fact30 fact31
theorem over : Rows.kuraAllRow.holds Try.pinned (OpenSpec.ofChange Rows.kuraAllSpec) :=
  OpenClaim.holds_of_wide 12 Try.f12 rfl rfl rfl rfl rfl rfl rfl ⟨rfl, rfl, rfl, rfl, rfl⟩ rfl rfl rfl rfl rfl (by kernel_rfl) Try.func12 facts
    (of_decide_eq_true (by kernel_rfl)) (by unfold Func.isWrapper; first | (rw [if_pos (by decide +kernel)]; kernel_rfl) | (rw [if_neg (by decide +kernel)]; exact ⟨rfl, rfl⟩))
    (fun os started H enc _ => lifted os started H enc)
end Go.Proofs.Ytmcloipjlihhlaa.kuraAll

namespace Go.Proofs.Ytmcloipjlihhlaa
/-- The given statement. -/
theorem kuraAll_said : Rows.KuraAllSaid := kuraAll.over
end Go.Proofs.Ytmcloipjlihhlaa
