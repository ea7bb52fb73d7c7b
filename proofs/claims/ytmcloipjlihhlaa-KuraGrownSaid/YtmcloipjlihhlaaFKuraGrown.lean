/- KuraGrown returns true whatever the input, and what stood in memory is as it was. Conditions: none. -/
import Derived.Test.YtmcloipjlihhlaaRows
import Derived.Test.YtmcloipjlihhlaaNKuraN
import Derived.Test.YtmcloipjlihhlaaXOpen2
import Derived.Test.YtmcloipjlihhlaaXFacts
import Derived.WalkKit
import Derived.ProofKit
import Derived.OpenShut
import Derived.ShutString
import Derived.Test.YtmcloipjlihhlaaXOpen3
namespace Go.Proofs.Ytmcloipjlihhlaa.kuraGrown
open Go.ChangeShapes Go.WideShapes Go.ChangeAt Go.RowKit
set_option linter.unusedVariables false

theorem own : ownKnob Try.prog.godebug = none := by kernel_rfl
theorem laidOut : laidOutB Try.prog = true := by kernel_rfl
set_option maxRecDepth 100000 in
theorem lifted (os : Os) (started : os.Started) (H : Type) (enc : TypeId × Value → H) :
    ReturnsInHanded {} Try.checked os 26 .any (Rows.kuraGrownSpec.pre6 enc Try.prog Try.f26 Rows.kuraGrownRow.domain false) (Rows.kuraGrownSpec.post enc Try.prog Try.f26 false true false false) := by
  refine returnsInHanded_of_change (C := Try.checked) own started (by kernel_rfl) Try.func26
    (ChangeSpec.witness6 (enc := enc) (C := Try.checked) false ⟨#[], #[.bool false, .slice none 0 0, .agg #[.int .i64 0, .slice none 0 0], .int .i64 0], []⟩ 8 (by kernel_rfl) (by kernel_rfl) (by kernel_rfl) (by kernel_rfl)) ?_
  intro W base args ds gs before hval0 hW hcnd _
  have hval : ∀ (j : Nat) t v, Try.f26.params[j]? = some t → args[j]? = some v → Value.okWide Try.prog W .any base t v := hval0
  have hW' := hW
  obtain ⟨p, q, hA0, hV, rfl, hfz, hnd⟩ := hW
  have hA : DataW.TrodAll enc Try.prog W 0 (fun _ => true) true Try.f26.params.toList args.toList ds p := hA0
  rw [Try.params26] at hA hval
  obtain ⟨v0, vs0, d0, ds0, p0, q0, hargs, rfl, rfl, h0, r0⟩ := trodAll_cons hA
  obtain ⟨v1, vs1, d1, ds1, p1, q1, rfl, rfl, rfl, h1, r1⟩ := trodAll_cons r0
  obtain ⟨v2, vs2, d2, ds2, p2, q2, rfl, rfl, rfl, h2, r2⟩ := trodAll_cons r1
  obtain ⟨v3, vs3, d3, ds3, p3, q3, rfl, rfl, rfl, h3, r3⟩ := trodAll_cons r2
  obtain ⟨rfl, rfl, rfl⟩ := trodAll_nil r3
  obtain rfl : args = #[v0, v1, v2, v3] := by cases args; simp_all
  obtain ⟨rfl, rfl⟩ := trodVars_none hV
  obtain ⟨a0, rfl⟩ := okWide_bool Try.underlying4 (hval 0 4 v0 rfl rfl)
  have lt0 : ∀ x ∈ p0, x.block < W.heap.size := by obtain ⟨m, hm⟩ := h0; exact DataW.trod_lt m _ _ _ hm
  obtain ⟨a1, l1, c1, rfl⟩ := okWide_slice Try.underlying156 (hval 1 156 v1 rfl rfl)
  obtain ⟨z1, w1, b1, g1⟩ := Go.X.ints_open .u8 (enc := enc) Try.underlying156 Try.underlying5 (by kernel_rfl) (fun x e => Go.X.spot_wide Try.underlying156 (e ▸ hval 1 156 _ rfl rfl)) h1
  have lt1 : ∀ x ∈ p1, x.block < W.heap.size := by obtain ⟨m, hm⟩ := h1; exact DataW.trod_lt m _ _ _ hm
  obtain ⟨n2, a2, l2, c2, z2, rfl, w2, b2⟩ := Go.X.net_open (enc := enc) Try.underlying26 rfl rfl rfl rfl Try.underlying3 Try.underlying24 Try.underlying35 (by kernel_rfl) (by kernel_rfl) (by kernel_rfl) (by kernel_rfl) (by kernel_rfl) (hval 2 26 v2 rfl rfl) h2
  have lt2 : ∀ x ∈ p2, x.block < W.heap.size := by obtain ⟨m, hm⟩ := h2; exact DataW.trod_lt m _ _ _ hm
  obtain ⟨a3, rfl⟩ := okWide_int Try.underlying3 (hval 3 3 v3 rfl rfl)
  have lt3 : ∀ x ∈ p3, x.block < W.heap.size := by obtain ⟨m, hm⟩ := h3; exact DataW.trod_lt m _ _ _ hm
  clear hA0 hval0
  refine (Go.X.calls_below (KuraGrown_ok (fun x hx => Go.X.wf_u8 (g1 x hx)) (Go.X.Hp.vw w1 rfl (Go.X.Hp.vw w2 rfl (Go.X.Hp.nil _) rfl) rfl))).mono fun e W' ⟨he, bel⟩ => ?_
  subst he
  exact ⟨_, rfl, _, _, _, [], _, [], hW', trodAll_mk1 (shut_bool Try.underlying4 _), (trodAll_cons_mk (Below.trod laidOut (by kernel_rfl) (of_decide_eq_true (by kernel_rfl)) h0 bel lt0) (trodAll_cons_mk (Below.trod laidOut (by kernel_rfl) (of_decide_eq_true (by kernel_rfl)) h1 bel lt1) (trodAll_cons_mk (Below.trod laidOut (by kernel_rfl) (of_decide_eq_true (by kernel_rfl)) h2 bel lt2) (trodAll_cons_mk (Below.trod laidOut (by kernel_rfl) (of_decide_eq_true (by kernel_rfl)) h3 bel lt3) trodAll_mk0)))), rfl, bel.frame _, fun h => by cases h⟩
set_option maxRecDepth 100000
theorem fact0 : (Rows.kuraGrownRow.wf (OpenSpec.ofChange Rows.kuraGrownSpec)) = true := by kernel_rfl
theorem fact3 : (Try.f26.params.all (Try.pinned.checked.prog.readableRec ·)) = true := by kernel_rfl
theorem fact4 : (namedTie Try.pinned.checked.prog Rows.kuraGrownRow.named Rows.kuraGrownSpec.vars) = true := by kernel_rfl
theorem fact5 : ((Rows.kuraGrownRow.stops == [])) = true := by kernel_rfl
theorem fact7 : ((Rows.kuraGrownRow.knobs == [])) = true := by kernel_rfl
theorem fact9 : ((Rows.kuraGrownRow.inPlace == Try.pinned.checked.prog.inPlace 26)) = true := by kernel_rfl
theorem fact10 : ((Rows.kuraGrownRow.unfollowed == Try.pinned.checked.prog.unfollowed 26)) = true := by kernel_rfl
theorem fact11 : ((Rows.kuraGrownRow.recurses == Try.pinned.checked.prog.recurses 26)) = true := by kernel_rfl
theorem fact12 : ((Rows.kuraGrownRow.named == Try.pinned.checked.prog.varsNamed 26)) = true := by kernel_rfl
theorem fact13 : ((Rows.kuraGrownRow.maps == (Try.f26.params.toList ++ Rows.kuraGrownSpec.plain.varTypes Try.pinned.checked.prog).any (Try.pinned.checked.prog.mapsRec ·))) = true := by kernel_rfl
theorem fact14 : ((Rows.kuraGrownRow.ifaces == (Try.f26.params.toList ++ Rows.kuraGrownSpec.plain.varTypes Try.pinned.checked.prog).any (Try.pinned.checked.prog.ifacesRec ·))) = true := by kernel_rfl
theorem fact15 : ((Rows.kuraGrownRow.mapsOut == Try.pinned.checked.prog.mapsAmong Try.f26.resultTypes.toList)) = true := by kernel_rfl
theorem fact16 : ((Rows.kuraGrownRow.loops == (Try.f26.params.toList ++ Rows.kuraGrownSpec.plain.varTypes Try.pinned.checked.prog).any (Try.pinned.checked.prog.loopsFrom ·))) = true := by kernel_rfl
theorem fact17 : ((Rows.kuraGrownRow.wideKeys == (Try.f26.params.toList ++ Rows.kuraGrownSpec.plain.varTypes Try.pinned.checked.prog ++ Try.f26.resultTypes.toList).any (Try.pinned.checked.prog.wideKeysFrom ·))) = true := by kernel_rfl
theorem fact18 : (Rows.kuraGrownSpec.vars.all (Try.pinned.checked.prog.varReadable ·)) = true := by kernel_rfl
theorem fact19 : (Try.f26.resultTypes.all (fun t => Try.pinned.checked.prog.readableRec t && decide (t < Try.pinned.checked.prog.types.size))) = true := by kernel_rfl
theorem fact20 : ((Rows.kuraGrownRow.ifacesOut == Try.f26.resultTypes.toList.any (Try.pinned.checked.prog.ifacesRec ·))) = true := by kernel_rfl
theorem fact21 : ((Rows.kuraGrownRow.loopsOut == Try.f26.resultTypes.toList.any (Try.pinned.checked.prog.loopsFrom ·))) = true := by kernel_rfl
theorem fact22 : ((Rows.kuraGrownRow.plainKeys == Try.pinned.checked.prog.plainKeys)) = true := by kernel_rfl
theorem fact23 : (Rows.kuraGrownRow.shortTexts.isNone) = true := by kernel_rfl
theorem fact28 : ((Rows.kuraGrownRow.kinds == (if Rows.kuraGrownRow.domain.isEmpty then [] else Try.f26.params.toList.map fun t => match Try.pinned.checked.prog.underlying t with | some (.int k) => some k | _ => none))) = true := by kernel_rfl
theorem fact29 : ((Rows.kuraGrownRow.pinned == Rows.kuraGrownRow.pinnedBy)) = true := by kernel_rfl
theorem fact30 : ((Rows.kuraGrownRow.veiled == (Try.f26.params.toList ++ Rows.kuraGrownSpec.plain.varTypes Try.pinned.checked.prog ++ Try.f26.resultTypes.toList).any (Try.pinned.checked.prog.veiledRec ·))) = true := by kernel_rfl
theorem fact31 : (Rows.kuraGrownRow.veiledFits Try.pinned.checked.prog Try.f26.params.toList (Try.f26.params.toList ++ Rows.kuraGrownSpec.plain.varTypes Try.pinned.checked.prog ++ Try.f26.resultTypes.toList)) = true := by kernel_rfl
theorem facts : joinedFacts Try.pinned.checked.prog 26 Try.f26 Rows.kuraGrownSpec Rows.kuraGrownRow = true :=
  Go.X.joinedFacts_of fact0 wide1 wide2 fact3 fact4 fact5 wide6 fact7 wide8 fact9 fact10 fact11 fact12 fact13 fact14 fact15 fact16 fact17 fact18 fact19 fact20 fact21 fact22 fact23 wide24 may_enter lifts_not rfl make_is rfl fact28 fact29 fact30 fact31
theorem over : Rows.kuraGrownRow.holds Try.pinned (OpenSpec.ofChange Rows.kuraGrownSpec) :=
  OpenClaim.holds_of_wide 26 Try.f26 rfl rfl rfl rfl rfl rfl rfl ⟨rfl, rfl, rfl, rfl, rfl⟩ rfl rfl rfl rfl rfl (by kernel_rfl) Try.func26 facts
    (of_decide_eq_true (by kernel_rfl)) (by unfold Func.isWrapper; first | (rw [if_pos (by decide +kernel)]; kernel_rfl) | (rw [if_neg (by decide +kernel)]; exact ⟨rfl, rfl⟩))
    (fun os started H enc _ => lifted os started H enc)
end Go.Proofs.Ytmcloipjlihhlaa.kuraGrown

namespace Go.Proofs.Ytmcloipjlihhlaa
/-- The given statement. -/
theorem kuraGrown_said : Rows.KuraGrownSaid := kuraGrown.over
end Go.Proofs.Ytmcloipjlihhlaa
