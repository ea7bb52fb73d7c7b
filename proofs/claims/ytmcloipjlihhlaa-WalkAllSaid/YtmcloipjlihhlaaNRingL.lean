/- The law of the shortest cycle. Conditions: none. -/
import Derived.Test.YtmcloipjlihhlaaNShort
namespace Go.Proofs.Ytmcloipjlihhlaa.N
open Go.X Go.Proofs.Ytmcloipjlihhlaa
set_option maxRecDepth 100000

theorem okBreadthR {g s : Int} {es : Es} {R : List Int → List Int → List Int → List Int → Prop} (m : MayN g es) (h0 : 0 ≤ s) (h1 : s < g) (h : R (bfs g es s).ord (bfs g es s).by' (bfs g es s).far []) : Ok84 g es s R := by
  apply ok84
  unfold T84
  have m0 := m.g0
  have m2 := m.g1
  have m3 := m.m
  refine ⟨fun a b c => a = [s] ∧ b = List.replicate g.toNat (-1) ∧ c = List.replicate g.toNat (-1), okBlank m0 (by omega) (okBlank m0 (by omega) ⟨rfl, rfl, rfl⟩), ?_⟩
  rintro _ _ _ ⟨rfl, rfl, rfl⟩
  refine ⟨h0, by simp; omega, okOutsR m ?_⟩
  have eo : outsM g.toNat es (2 * es.length) = outsA g es := rfl
  rw [eo]
  refine ⟨fun i a b c d => ∃ k : Nat, i = k ∧ k ≤ (bK g es s k).ord.length ∧ a = (bK g es s k).ord ∧ b = (bK g es s k).by' ∧ c = (bK g es s k).far ∧ d = [], fun i _ _ _ _ => (g - i).toNat, ⟨0, rfl, Nat.zero_le _, rfl, rfl, rfl, rfl⟩, ?_⟩
  rintro _ _ _ _ _ ⟨k, rfl, hk, rfl, rfl, rfl, rfl⟩
  have i := bK_BI m h0 h1 k
  have il := i.len
  refine cnd_dec (fun hlt => ⟨by omega, hlt, fun v hv => ?_⟩) fun hlt => ?_
  · rw [Int.toNat_natCast] at hv
    have hvm : v ∈ (bK g es s k).ord := List.mem_of_getElem? hv
    have hvr := i.rng v hvm
    refine ⟨fun x a b c d => ∃ j : Nat, x = j ∧ j ≤ (outV es v).length ∧ a = (bJ es v (bK g es s k) j).ord ∧ b = (bJ es v (bK g es s k) j).by' ∧ c = (bJ es v (bK g es s k) j).far ∧ d = [], fun x _ _ _ _ => ((outV es v).length - x).toNat, ⟨0, rfl, Nat.zero_le _, rfl, rfl, rfl, rfl⟩, ?_⟩
    have hol : (outV es v).length ≤ 2 * es.length := outL_len _ _ _
    rintro _ _ _ _ _ ⟨j, rfl, hj, rfl, rfl, rfl, rfl⟩
    obtain ⟨ij, hvj⟩ := i.stepJ m hvm j hj
    refine ⟨hvr.1, by rw [outsA_len]; omega, fun l hl => ?_⟩
    obtain rfl := outsA_get hvr.2 hvr.1 hl
    refine cnd_dec (fun hlt2 => ⟨hvr.1, by rw [outsA_len]; omega, fun l hl => ?_⟩) fun hlt2 => ?_
    · obtain rfl := outsA_get hvr.2 hvr.1 hl
      refine ⟨by omega, hlt2, fun x hx => ?_⟩
      rw [Int.toNat_natCast] at hx
      obtain ⟨n, rfl, hn, hf⟩ := outV_mem hvr.1 (List.mem_of_getElem? hx)
      have hw := toH_in m hn
      have es1 := bJ_succ (t := bK g es s k) hx
      generalize hB : bJ es v (bK g es s k) j = B at *
      have iln := ij.len
      refine okTo hn (by omega) ⟨hw.1, by rw [ij.lf]; omega, fun y hy => ?_⟩
      have hy := getD_of hy
      refine ⟨fun a b c d => a = (bH es v B n).ord ∧ b = (bH es v B n).by' ∧ c = (bH es v B n).far ∧ d = [], cnd_dec (fun q => ⟨hvr.1, by rw [ij.lf]; omega, fun z hz => ?_⟩) (fun q => ?_), ?_⟩
      · have hz := getD_of hz
        have hbv := ij.bnd v hvr.1 hvr.2
        rw [wr (by omega) (by omega)]
        refine ⟨hw.1, by rw [ij.lf]; omega, hw.1, by rw [ij.lb]; omega, by omega, ?_⟩
        unfold bH
        rw [Int.toNat_natCast, if_pos (by rw [hy]; exact q), hz]
        exact ⟨rfl, rfl, rfl, rfl⟩
      · unfold bH
        rw [Int.toNat_natCast, if_neg (by rw [hy]; exact q)]
        exact ⟨rfl, rfl, rfl, rfl⟩
      · rintro _ _ _ _ ⟨rfl, rfl, rfl, rfl⟩
        rw [wr (by omega) (by omega)]
        exact ⟨⟨j + 1, by simp, by omega, by rw [es1], by rw [es1], by rw [es1], rfl⟩, by dsimp only; omega⟩
    · have : j = (outV es v).length := by omega
      subst this
      rw [wr (by omega) (by omega)]
      have e := bK_succ hv
      rw [bJ_all, ← e]
      have hl : k + 1 ≤ (bK g es s (k + 1)).ord.length := by
        have := bJ_le es v (bK g es s k) (outV es v).length
        rw [bJ_all, ← e] at this
        omega
      exact ⟨⟨k + 1, by simp, hl, rfl, rfl, rfl, rfl⟩, by dsimp only; omega⟩
  · have hk2 : k = (bK g es s k).ord.length := by omega
    have e := bK_done m h0 h1 hk2
    rw [e]; exact h
end Go.Proofs.Ytmcloipjlihhlaa.N
namespace Go.Proofs.Ytmcloipjlihhlaa
end Go.Proofs.Ytmcloipjlihhlaa
