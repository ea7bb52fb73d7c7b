/- The closure that Graph.Edges hands back goes over the edges that it was handed. Conditions: none. -/
import Derived.Test.YtmcloipjlihhlaaSEnv
import Derived.Test.YtmcloipjlihhlaaYKeep
import Derived.RangeFuncBox
import Derived.RangeFuncLeaves
import Derived.Shelf.Abstract
import Derived.WalkKit
import Derived.OwnWalkIn
import Derived.TacticsInMore
import Derived.LoopNIn
import Derived.LoopIn
namespace Go.Proofs.Ytmcloipjlihhlaa.N
open Go.X Go.Proofs.Ytmcloipjlihhlaa Go.RowKit Go.Shelf
set_option linter.unusedVariables false
set_option linter.unusedSimpArgs false

attribute [local go_sem] Oper.semAt_some
def handL (l : List Int) : List (List Value) := l.map fun v => [.int .i64 v]
theorem handL_len (l : List Int) : (handL l).length = l.length := by simp [handL]
theorem mem_rdG {b o n : Nat} (h : 0 < n) : b ∈ rdOf (some ⟨b, o, none⟩) n := by
  cases n with
  | zero => omega
  | succ n => simp [rdOf, blkOf]
theorem kcellG {M : List Nat} {B : Nat} {W W' : World} (h : KpM M B W W') {b o : Nat} (hb : b < B) (hM : b ∉ M) : W'.cell? ⟨b, o, none⟩ = W.cell? ⟨b, o, none⟩ := by
  simp [World.cell?, h.2 b hb hM]
theorem take_finG {N k : Nat} (hk : k < N) : (List.finRange N).take (k + 1) = (List.finRange N).take k ++ [⟨k, hk⟩] := by
  rw [List.take_add_one, List.getElem?_eq_getElem (by simpa using hk), List.getElem_finRange]
  rfl
set_option maxRecDepth 100000 in
set_option maxHeartbeats 2000000 in
theorem iter185 {h : Heap} {b : Nat} {oA : Option Addr} {oC : Nat} {ord : List Int} {M : List Nat} (hb : b < h.size) (hbM : b ∉ M) (c0 : hcell h b 0 = some (.slice oA ord.length oC))
    (ro : Reads h 1 oA ord.length (eI.l ord)) (lo : ∀ x ∈ rdOf oA ord.length, x < h.size ∧ x ∉ M) (hl : ord.length ≤ 1000000) :
    IterH Try.prog 185 #[.pointer (some ⟨b, 0, none⟩)] (handL ord) M h := by
  intro n w hw l J Jx W hW _ _ hY h0
  subst hw
  have cb : ∀ {c o v}, c < w.heap.size → hcell w.heap c o = some v → W.cell? ⟨c, o, none⟩ = some v := fun {c o v} hc hv => (hW.cell (p := ⟨c, o, none⟩) hc).trans (by rw [cell_hcell]; exact hv)
  have k0 := cb hb c0
  refine callsIn_of_wp Try.func185 rfl trivial ?_ rfl
  simp only [Try.ntmps185, List.size_toArray, List.length_cons, List.length_nil, Nat.reduceAdd, Nat.reduceSub, Array.replicate_succ, Array.replicate_zero, List.push_toArray, List.append_toArray, List.nil_append, List.cons_append]
  gi_wp2
  gi_loopw [7] (fun i wr => ∃ k : Nat, k ≤ ord.length ∧ i = .int .i64 k ∧ J ((List.finRange (handL ord).length).take k) wr ∧ KpM M w.heap.size W wr)
    (fun i _ => ord.length - (intOf i).toNat)
  case atStart => exact ⟨0, Nat.zero_le _, rfl, h0, Nat.le_refl _, fun _ _ _ => rfl⟩
  case round =>
    obtain ⟨k, hk, rfl, hJs, hnx⟩ := hrel
    by_cases hlt : k < ord.length
    · obtain ⟨v, hv⟩ : ∃ v, ord[k]? = some v := ⟨_, List.getElem?_eq_getElem hlt⟩
      obtain ⟨ob, oo, hob, X, hX, hXc⟩ := readsAt (E := eI) ro (i := (k : Int)) (by omega) (by omega)
      rw [Int.toNat_natCast] at hX hXc
      rw [hv] at hX
      obtain rfl := Option.some.inj hX
      subst hob
      have lob := lo ob (mem_rdG (by omega))
      have w1 : wr.cell? ⟨ob, oo + k, none⟩ = some (.int .i64 v) := (kcellG hnx lob.1 lob.2).trans (cb lob.1 (by have := hXc 0 _ rfl; simpa [show eI.sz = 1 from rfl] using this))
      have hkx : k < (handL ord).length := by rw [handL_len]; exact hlt
      have he : ((handL ord)[(⟨k, hkx⟩ : Fin (handL ord).length)]).toArray = #[.int .i64 v] := by
        have e1 : (handL ord)[k]? = some [.int .i64 v] := by unfold handL; rw [List.getElem?_map, hv]; rfl
        rw [List.getElem?_eq_getElem hkx] at e1
        have := Option.some.inj e1
        show ((handL ord)[k]).toArray = _
        rw [this]
      obtain ⟨fn, tmps, assign, body, hy, hR⟩ := hY _ (⟨k, hkx⟩ : Fin (handL ord).length) wr hJs (by rw [List.length_take, List.length_finRange]; omega)
      rw [he] at hy
      gi_wp2
      refine ⟨fun z => (by cases z), hR.mono ?_⟩
      rintro e W3 (⟨rfl, hJ3, hk3⟩ | ⟨rfl, hJx3⟩)
      · gi_wp2
        go_roundw
        case rel => exact ⟨k + 1, by omega, by simp, by rw [← take_finG hkx] at hJ3; exact hJ3, Nat.le_trans hnx.1 hk3.1, fun c hc hM => (hk3.2 c hc hM).trans (hnx.2 c hc hM)⟩
        case measure => simp [intOf]; omega
      · gi_wp2
        refine bodyPost_ret (results_none rfl _ _ _) rfl ?_
        exact ⟨⟨_, rfl⟩, .inr ⟨_, by rw [← take_finG hkx]; exact List.take_prefix _ _, hJx3⟩⟩
    · obtain rfl : k = ord.length := by omega
      gi_wp2
      go_end0
      exact ⟨⟨_, rfl⟩, .inl ⟨_, List.take_of_length_le (by rw [List.length_finRange, handL_len]; exact Nat.le_refl _), hJs⟩⟩
end Go.Proofs.Ytmcloipjlihhlaa.N
