/- The closure that walk.Each hands back goes over the nodes that were found, with how far each is. Conditions: none. -/
import Derived.Test.YtmcloipjlihhlaaSEnv
import Derived.Test.YtmcloipjlihhlaaYKeep
import Derived.RangeFuncBox
import Derived.RangeFuncLeaves
import Derived.Shelf.Abstract
import Derived.WalkKit
import Derived.OwnWalkIn
import Derived.TacticsInMore
import Derived.LoopNIn
import Derived.LoopIn
namespace Go.Proofs.Ytmcloipjlihhlaa.N
open Go.X Go.Proofs.Ytmcloipjlihhlaa Go.RowKit Go.Shelf
set_option linter.unusedVariables false
set_option linter.unusedSimpArgs false

attribute [local go_sem] Oper.semAt_some
def handE (ord far : List Int) : List (List Value) := ord.map fun v => [.int .i64 v, .int .i64 (far.getD v.toNat 0)]
theorem handE_len (ord far : List Int) : (handE ord far).length = ord.length := by simp [handE]
theorem mem_rd {b o n : Nat} (h : 0 < n) : b ∈ rdOf (some ⟨b, o, none⟩) n := by
  cases n with
  | zero => omega
  | succ n => simp [rdOf, blkOf]
theorem kcell {M : List Nat} {B : Nat} {W W' : World} (h : KpM M B W W') {b o : Nat} (hb : b < B) (hM : b ∉ M) : W'.cell? ⟨b, o, none⟩ = W.cell? ⟨b, o, none⟩ := by
  simp [World.cell?, h.2 b hb hM]
theorem take_fin {N k : Nat} (hk : k < N) : (List.finRange N).take (k + 1) = (List.finRange N).take k ++ [⟨k, hk⟩] := by
  rw [List.take_add_one, List.getElem?_eq_getElem (by simpa using hk), List.getElem_finRange]
  rfl
set_option maxRecDepth 100000 in
set_option maxHeartbeats 2000000 in
theorem iter217 {h : Heap} {b : Nat} {oA fA : Option Addr} {oC fC : Nat} {ord far : List Int} {M : List Nat} (hb : b < h.size) (hbM : b ∉ M) (c0 : hcell h b 0 = some (.slice oA ord.length oC)) (c2 : hcell h b 2 = some (.slice fA far.length fC))
    (ro : Reads h 1 oA ord.length (eI.l ord)) (rf : Reads h 1 fA far.length (eI.l far)) (lo : ∀ x ∈ rdOf oA ord.length, x < h.size ∧ x ∉ M) (lf : ∀ x ∈ rdOf fA far.length, x < h.size ∧ x ∉ M) (hin : ∀ v ∈ ord, 0 ≤ v ∧ v < (far.length : Int)) (hl : ord.length ≤ 1000000) (hl2 : far.length ≤ 1000000) :
    IterH Try.prog 217 #[.pointer (some ⟨b, 0, none⟩)] (handE ord far) M h := by
  intro n w hw l J Jx W hW _ _ hY h0
  subst hw
  have cb : ∀ {c o v}, c < w.heap.size → hcell w.heap c o = some v → W.cell? ⟨c, o, none⟩ = some v := fun {c o v} hc hv => (hW.cell (p := ⟨c, o, none⟩) hc).trans (by rw [cell_hcell]; exact hv)
  have k0 := cb hb c0
  refine callsIn_of_wp Try.func217 rfl trivial ?_ rfl
  simp only [Try.ntmps217, List.size_toArray, List.length_cons, List.length_nil, Nat.reduceAdd, Nat.reduceSub, Array.replicate_succ, Array.replicate_zero, List.push_toArray, List.append_toArray, List.nil_append, List.cons_append]
  gi_wp2
  gi_loopw [8] (fun i wr => ∃ k : Nat, k ≤ ord.length ∧ i = .int .i64 k ∧ J ((List.finRange (handE ord far).length).take k) wr ∧ KpM M w.heap.size W wr)
    (fun i _ => ord.length - (intOf i).toNat)
  case atStart => exact ⟨0, Nat.zero_le _, rfl, h0, Nat.le_refl _, fun _ _ _ => rfl⟩
  case round =>
    obtain ⟨k, hk, rfl, hJs, hnx⟩ := hrel
    by_cases hlt : k < ord.length
    · obtain ⟨v, hv⟩ : ∃ v, ord[k]? = some v := ⟨_, List.getElem?_eq_getElem hlt⟩
      have hvr := hin v (List.mem_of_getElem? hv)
      obtain ⟨ob, oo, hob, X, hX, hXc⟩ := readsAt (E := eI) ro (i := (k : Int)) (by omega) (by omega)
      obtain ⟨fb, fo, hfb, Z, hZ, hZc⟩ := readsAt (E := eI) rf (i := v) hvr.1 hvr.2
      rw [Int.toNat_natCast] at hX hXc
      rw [hv] at hX
      obtain rfl := Option.some.inj hX
      subst hob hfb
      have lob := lo ob (mem_rd (by omega))
      have lfb := lf fb (mem_rd (by omega))
      have w1 : wr.cell? ⟨ob, oo + k, none⟩ = some (.int .i64 v) := (kcell hnx lob.1 lob.2).trans (cb lob.1 (by have := hXc 0 _ rfl; simpa [show eI.sz = 1 from rfl] using this))
      have w2 : wr.cell? ⟨fb, fo + v.toNat, none⟩ = some (.int .i64 Z) := (kcell hnx lfb.1 lfb.2).trans (cb lfb.1 (by have := hZc 0 _ rfl; simpa [show eI.sz = 1 from rfl] using this))
      have w3 : wr.cell? ⟨b, 2, none⟩ = some (.slice (some ⟨fb, fo, none⟩) far.length fC) := (kcell hnx hb hbM).trans (cb hb c2)
      have hkx : k < (handE ord far).length := by rw [handE_len]; exact hlt
      have he : ((handE ord far)[(⟨k, hkx⟩ : Fin (handE ord far).length)]).toArray = #[.int .i64 v, .int .i64 Z] := by
        have e1 : (handE ord far)[k]? = some [.int .i64 v, .int .i64 (far.getD v.toNat 0)] := by unfold handE; rw [List.getElem?_map, hv]; rfl
        have e2 : far.getD v.toNat 0 = Z := by rw [List.getD_eq_getElem?_getD, hZ]; rfl
        rw [e2, List.getElem?_eq_getElem hkx] at e1
        have := Option.some.inj e1
        show ((handE ord far)[k]).toArray = _
        rw [this]
      obtain ⟨fn, tmps, assign, body, hy, hR⟩ := hY _ (⟨k, hkx⟩ : Fin (handE ord far).length) wr hJs (by rw [List.length_take, List.length_finRange]; omega)
      rw [he] at hy
      gi_wp2
      refine ⟨fun z => (by cases z), hR.mono ?_⟩
      rintro e W3 (⟨rfl, hJ3, hk3⟩ | ⟨rfl, hJx3⟩)
      · gi_wp2
        go_roundw
        case rel => exact ⟨k + 1, by omega, by simp, by rw [← take_fin hkx] at hJ3; exact hJ3, Nat.le_trans hnx.1 hk3.1, fun c hc hM => (hk3.2 c hc hM).trans (hnx.2 c hc hM)⟩
        case measure => simp [intOf]; omega
      · gi_wp2
        refine bodyPost_ret (results_none rfl _ _ _) rfl ?_
        exact ⟨⟨_, rfl⟩, .inr ⟨_, by rw [← take_fin hkx]; exact List.take_prefix _ _, hJx3⟩⟩
    · obtain rfl : k = ord.length := by omega
      gi_wp2
      go_end0
      exact ⟨⟨_, rfl⟩, .inl ⟨_, List.take_of_length_le (by rw [List.length_finRange, handE_len]; exact Nat.le_refl _), hJs⟩⟩
end Go.Proofs.Ytmcloipjlihhlaa.N
