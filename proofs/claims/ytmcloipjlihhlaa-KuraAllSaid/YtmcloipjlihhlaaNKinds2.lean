/- The kinds that need sums and products: complete, two sides, grid. Conditions: none. -/
import Derived.Test.YtmcloipjlihhlaaNKinds
set_option linter.unusedSimpArgs false
set_option linter.unusedVariables false
namespace Go.Proofs.Ytmcloipjlihhlaa.N
open Go.X Go.Proofs.Ytmcloipjlihhlaa
set_option maxRecDepth 100000

def sumL (f : Nat → Nat) : Nat → Nat
  | 0 => 0
  | k + 1 => sumL f k + f k
theorem rowsE_sum (f : Nat → List (Int × Int)) : ∀ n, (rowsE f n).length = sumL (fun i => (f i).length) n
  | 0 => rfl
  | n + 1 => by rw [rowsE, List.length_append, rowsE_sum f n]; rfl
theorem compE_sum (n : Nat) : (compE n).length = sumL (fun i => n - 1 - i) n := by
  unfold compE
  rw [rowsE_sum]
  simp only [rangeE_len]
theorem compE_le {n : Nat} (h : n ≤ 78) : (compE n).length ≤ 3072 := by
  rw [compE_sum]
  exact (by decide +kernel : ∀ n, n < 79 → sumL (fun i => n - 1 - i) n ≤ 3072) n (by omega)
theorem compE_79 : 3072 < (compE 79).length := by rw [compE_sum]; decide +kernel
def kComplete (a : Int) : K3 := if a < 1 then (0, [], 1) else if 78 < a then (0, [], 3) else (a, compE a.toNat, 0)
theorem refComplete {n : Int} {R : Int → Es → Int → Prop} (h1 : ¬ n < 1) (h2 : n ≤ 4096) (h : R (if 78 < n then (0, [], 3) else (n, compE n.toNat, 0) : K3).1 (if 78 < n then (0, [], 3) else (n, compE n.toNat, 0) : K3).2.1 (if 78 < n then (0, [], 3) else (n, compE n.toNat, 0) : K3).2.2) : Ok131 n R := by
  apply ok131
  unfold T131
  refine cnd_dec (fun q => by rw [if_pos (by omega)] at h; exact h) fun q => ?_
  have rl : ∀ k, (rowsE (fun i => rangeE (fun k => ((i : Int), (i : Int) + 1 + k)) (n.toNat - 1 - i)) k).length ≤ k * 3072 := rowsE_len fun i => by rw [rangeE_len]; omega
  refine ⟨fun es i => ∃ j : Nat, i = j ∧ (j : Int) ≤ n ∧ es = rowsE (fun i => rangeE (fun k => ((i : Int), (i : Int) + 1 + k)) (n.toNat - 1 - i)) j, fun _ i => (n - i).toNat, ⟨0, rfl, by omega, rfl⟩, ?_⟩
  rintro _ _ ⟨j, rfl, hj, rfl⟩
  refine cnd_dec (fun hlt => ?_) fun hlt => ?_
  · rw [wr (x := (j : Int) + 1) (by omega) (by omega)]
    refine ⟨fun es k => ∃ x : Nat, k = (j : Int) + 1 + x ∧ (x : Int) ≤ n - 1 - j ∧ es = rowsE (fun i => rangeE (fun k => ((i : Int), (i : Int) + 1 + k)) (n.toNat - 1 - i)) j ++ rangeE (fun k => ((j : Int), (j : Int) + 1 + k)) x, fun _ k => (n - k).toNat, ⟨0, by omega, by omega, by simp [rangeE]⟩, ?_⟩
    rintro _ _ ⟨x, rfl, hx, rfl⟩
    refine cnd_dec (fun hlt2 => ⟨by have := rl j; rw [List.length_append, rangeE_len]; omega, ?_⟩) fun hlt2 => ?_
    · rw [wr (by omega) (by omega)]
      refine ⟨⟨x + 1, by omega, by omega, ?_⟩, by dsimp only; omega⟩
      rw [rangeE_succ, List.append_assoc]
    · have hx2 : x = n.toNat - 1 - j := by omega
      subst hx2
      exact ⟨⟨j + 1, by simp, by omega, rfl⟩, by dsimp only; omega⟩
  · have hj2 : j = n.toNat := by omega
    subst hj2
    have ec : rowsE (fun i => rangeE (fun k => ((i : Int), (i : Int) + 1 + k)) (n.toNat - 1 - i)) n.toNat = compE n.toNat := rfl
    rw [ec]
    refine okMadeR (fun q => ?_) fun q => ?_
    · by_cases z : 78 < n
      · rw [if_pos z] at h; exact h
      · exfalso
        rw [may_yes (by omega) (by omega) (compE_le (by omega)) fun x hx => by
          rw [← ec] at hx
          obtain ⟨i, hi, hx⟩ := memRows hx
          obtain ⟨k, hk, rfl⟩ := memR hx
          dsimp only; omega] at q
        cases q
    · by_cases z : 78 < n
      · obtain rfl : n = 79 := by omega
        rw [may_long (show 3072 < (compE (Int.toNat 79)).length from compE_79)] at q; cases q
      · rw [if_neg z] at h; exact h
theorem kindComplete {a b seed : Int} {R : Int → Es → Int → Prop} (h : sayK R (kComplete a)) : Ok38 (⟨#[99, 111, 109, 112, 108, 101, 116, 101]⟩ : ByteArray) a b seed R := by
  apply ok38
  unfold T38
  simp only [cndT, cndF, nm_complete_path, nm_complete_cycle, nm_complete_complete, nm_complete_two, nm_complete_grid, nm_complete_wheel, nm_complete_prism, nm_complete_bond, nm_complete_random, nm_complete_stack, Bool.not_true, Bool.not_false]
  unfold kComplete at h
  refine pre 1 (fun J j => cndT ▸ j) ⟨¬ a < 1, cnd_dec (fun q => by rw [if_pos q] at h; exact h) (fun q => q), fun h1 => ⟨a ≤ 4096, okToo1 (cnd_dec (fun q => by rw [if_neg h1, if_pos (by omega)] at h; exact h) fun q => by omega), fun h2 => ?_⟩⟩
  rw [if_neg h1] at h
  exact refComplete h1 h2 h
theorem mul_lim {a b : Int} (A B : Int) (a0 : 0 ≤ a) (a1 : a ≤ A) (b0 : 0 ≤ b) (b1 : b ≤ B) : 0 ≤ a * b ∧ a * b ≤ A * B :=
  ⟨Int.mul_nonneg a0 b0, Int.mul_le_mul a1 b1 b0 (by omega)⟩
def kTwo (a b : Int) : K3 := if a < 1 ∨ b < 1 then (0, [], 1) else if 1024 < a + b ∨ 3072 < a * b then (0, [], 3) else (a + b, twoE a.toNat b.toNat, 0)
theorem rowsE_const {f : Nat → List (Int × Int)} {c : Nat} (h : ∀ i, (f i).length = c) : ∀ n, (rowsE f n).length = n * c
  | 0 => by simp [rowsE]
  | n + 1 => by rw [rowsE, List.length_append, rowsE_const h n, h, Nat.add_mul, Nat.one_mul]
theorem refTwo {a b : Int} {R : Int → Es → Int → Prop} (h1 : ¬ (a < 1 ∨ b < 1)) (ha : a ≤ 4096) (hb : b ≤ 4096) (h : sayK R (if 1024 < a + b ∨ 3072 < a * b then (0, [], 3) else (a + b, twoE a.toNat b.toNat, 0))) : Ok132 a b R := by
  apply ok132
  unfold T132
  have pm := mul_lim 4096 4096 (a := a) (b := b) (by omega) ha (by omega) hb
  rw [wr (x := a * b) (by omega) (by omega)]
  refine cnd_dec (fun q => by rw [if_pos (.inr q)] at h; exact h) fun q => ?_
  have rl : ∀ k, (rowsE (fun i => rangeE (fun k => ((i : Int), (a.toNat : Int) + k)) b.toNat) k).length ≤ k * 4096 := rowsE_len fun i => by rw [rangeE_len]; omega
  refine ⟨fun es i => ∃ j : Nat, i = j ∧ (j : Int) ≤ a ∧ es = rowsE (fun i => rangeE (fun k => ((i : Int), (a.toNat : Int) + k)) b.toNat) j, fun _ i => (a - i).toNat, ⟨0, rfl, by omega, rfl⟩, ?_⟩
  rintro _ _ ⟨j, rfl, hj, rfl⟩
  refine cnd_dec (fun hlt => ?_) fun hlt => ?_
  · refine ⟨fun es k => ∃ x : Nat, k = x ∧ (x : Int) ≤ b ∧ es = rowsE (fun i => rangeE (fun k => ((i : Int), (a.toNat : Int) + k)) b.toNat) j ++ rangeE (fun k => ((j : Int), (a.toNat : Int) + k)) x, fun _ k => (b - k).toNat, ⟨0, rfl, by omega, by simp [rangeE]⟩, ?_⟩
    rintro _ _ ⟨x, rfl, hx, rfl⟩
    refine cnd_dec (fun hlt2 => ⟨by have := rl j; rw [List.length_append, rangeE_len]; omega, ?_⟩) fun hlt2 => ?_
    · rw [wr (x := a + (x : Int)) (by omega) (by omega), wr (by omega) (by omega)]
      refine ⟨⟨x + 1, by simp, by omega, ?_⟩, by dsimp only; omega⟩
      rw [rangeE_succ, List.append_assoc, Int.toNat_of_nonneg (by omega)]
    · have hx2 : x = b.toNat := by omega
      subst hx2
      rw [wr (by omega) (by omega)]
      exact ⟨⟨j + 1, by simp, by omega, rfl⟩, by dsimp only; omega⟩
  · have hj2 : j = a.toNat := by omega
    subst hj2
    have ec : rowsE (fun i => rangeE (fun k => ((i : Int), (a.toNat : Int) + k)) b.toNat) a.toNat = twoE a.toNat b.toNat := rfl
    have el : ((twoE a.toNat b.toNat).length : Int) = a * b := by
      unfold twoE
      rw [rowsE_const (c := b.toNat) fun i => rangeE_len _ _]
      rw [Int.natCast_mul, Int.toNat_of_nonneg (by omega), Int.toNat_of_nonneg (by omega)]
    rw [ec, wr (by omega) (by omega)]
    refine okMadeR (fun q => ?_) fun q => ?_
    · by_cases z : 1024 < a + b
      · rw [if_pos (.inl z)] at h; exact h
      · exfalso
        rw [may_yes (by omega) (by omega) (by omega) fun x hx => by
          rw [← ec] at hx
          obtain ⟨i, hi, hx⟩ := memRows hx
          obtain ⟨k, hk, rfl⟩ := memR hx
          dsimp only; omega] at q
        cases q
    · by_cases z : 1024 < a + b
      · rw [may_big z] at q; cases q
      · rw [if_neg (by omega)] at h; exact h
theorem kindTwo {a b seed : Int} {R : Int → Es → Int → Prop} (h : sayK R (kTwo a b)) : Ok38 (⟨#[116, 119, 111]⟩ : ByteArray) a b seed R := by
  apply ok38
  unfold T38
  simp only [cndT, cndF, nm_two_path, nm_two_cycle, nm_two_complete, nm_two_two, nm_two_grid, nm_two_wheel, nm_two_prism, nm_two_bond, nm_two_random, nm_two_stack, Bool.not_true, Bool.not_false]
  unfold kTwo at h
  refine pre 1 (fun J j => cndT ▸ j) ⟨¬ (a < 1 ∨ b < 1), cnd_dec (fun q => by rw [if_pos (.inl q)] at h; exact h) (fun q => cnd_dec (fun q2 => by rw [if_pos (.inr q2)] at h; exact h) fun q2 => by omega), fun h1 => ?_⟩
  rw [if_neg h1] at h
  refine okToo1 (cnd_dec (fun q => ?_) fun q => okToo1 (cnd_dec (fun q2 => ?_) fun q2 => refTwo h1 (by omega) (by omega) h))
  · rw [if_pos (by omega)] at h; exact h
  · rw [if_pos (by omega)] at h; exact h
end Go.Proofs.Ytmcloipjlihhlaa.N
