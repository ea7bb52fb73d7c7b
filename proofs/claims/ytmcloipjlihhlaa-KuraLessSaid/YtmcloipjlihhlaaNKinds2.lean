/- The kinds that need sums and products: complete, two sides, grid. Conditions: none. -/
import Derived.Test.YtmcloipjlihhlaaNKinds
set_option linter.unusedSimpArgs false
set_option linter.unusedVariables false
namespace Go.Proofs.Ytmcloipjlihhlaa.N
open Go.X Go.Proofs.Ytmcloipjlihhlaa
set_option maxRecDepth 100000

/-! ### Complete -/
def sumL (f : Nat → Nat) : Nat → Nat
  | 0 => 0
  | k + 1 => sumL f k + f k
theorem rowsE_sum (f : Nat → List (Int × Int)) : ∀ n, (rowsE f n).length = sumL (fun i => (f i).length) n
  | 0 => rfl
  | n + 1 => by rw [rowsE, List.length_append, rowsE_sum f n]; rfl
theorem compE_sum (n : Nat) : (compE n).length = sumL (fun i => n - 1 - i) n := by
  unfold compE
  rw [rowsE_sum]
  simp only [rangeE_len]
theorem compE_le {n : Nat} (h : n ≤ 78) : (compE n).length ≤ 3072 := by
  rw [compE_sum]
  exact (by decide +kernel : ∀ n, n < 79 → sumL (fun i => n - 1 - i) n ≤ 3072) n (by omega)
theorem compE_79 : 3072 < (compE 79).length := by rw [compE_sum]; decide +kernel
def kComplete (a : Int) : K3 := if a < 1 then (0, [], 1) else if 78 < a then (0, [], 3) else (a, compE a.toNat, 0)
theorem makeComplete {a : Int} {R : Int → Es → Int → Prop} (h : sayK R (kComplete a)) : Ok33 a R := by
  unfold kComplete at h
  by_cases h1 : a < 1
  · rw [if_pos h1] at h
    have e := size_l (least := 1) (n := a) (m := compM a) h1
    exact okComplete (fun _ => by rw [e]; exact h) fun q => by rw [e] at q; cases q
  · rw [if_neg h1] at h
    by_cases h2 : 78 < a
    · rw [if_pos h2] at h
      have e : sizeE 1 [a] a (compM a) = 3 := by
        refine size_g h1 ?_
        by_cases z : 1024 < a
        · exact .inr (.inl z)
        · right; right
          have p1 : 79 * 78 ≤ a * (a - 1) := Int.mul_le_mul (by omega) (by omega) (by omega) (by omega)
          have p2 : a * (a - 1) ≤ 1024 * 1023 := Int.mul_le_mul (by omega) (by omega) (by omega) (by omega)
          unfold compM
          rw [if_pos (by omega), wr (x := a - 1) (by omega) (by omega), wr (x := a * (a - 1)) (by omega) (by omega), Int.tdiv_eq_ediv_of_nonneg (by omega), wr (by omega) (by omega)]
          omega
      exact okComplete (fun _ => by rw [e]; exact h) fun q => by rw [e] at q; cases q
    · rw [if_neg h2] at h
      have e : sizeE 1 [a] a (compM a) = 0 := by
        have p1 : 0 ≤ a * (a - 1) := Int.mul_nonneg (by omega) (by omega)
        have p2 : a * (a - 1) ≤ 78 * 77 := Int.mul_le_mul (by omega) (by omega) (by omega) (by omega)
        refine size_k h1 (by omega) (by omega) ?_
        unfold compM
        rw [if_pos (by omega), wr (x := a - 1) (by omega) (by omega), wr (x := a * (a - 1)) (by omega) (by omega), Int.tdiv_eq_ediv_of_nonneg (by omega), wr (by omega) (by omega)]
        omega
      exact okComplete (fun q => absurd e q) fun _ => h
theorem refComplete {n : Int} {R : Int → Es → Int → Prop} (h1 : ¬ n < 1) (h2 : n ≤ 4096) (h : R (if 78 < n then (0, [], 3) else (n, compE n.toNat, 0) : K3).1 (if 78 < n then (0, [], 3) else (n, compE n.toNat, 0) : K3).2.1 (if 78 < n then (0, [], 3) else (n, compE n.toNat, 0) : K3).2.2) : Ok131 n R := by
  apply ok131
  unfold T131
  refine cnd_dec (fun q => by rw [if_pos (by omega)] at h; exact h) fun q => ?_
  have rl : ∀ k, (rowsE (fun i => rangeE (fun k => ((i : Int), (i : Int) + 1 + k)) (n.toNat - 1 - i)) k).length ≤ k * 3072 := rowsE_len fun i => by rw [rangeE_len]; omega
  refine ⟨fun es i => ∃ j : Nat, i = j ∧ (j : Int) ≤ n ∧ es = rowsE (fun i => rangeE (fun k => ((i : Int), (i : Int) + 1 + k)) (n.toNat - 1 - i)) j, fun _ i => (n - i).toNat, ⟨0, rfl, by omega, rfl⟩, ?_⟩
  rintro _ _ ⟨j, rfl, hj, rfl⟩
  refine cnd_dec (fun hlt => ?_) fun hlt => ?_
  · rw [wr (x := (j : Int) + 1) (by omega) (by omega)]
    refine ⟨fun es k => ∃ x : Nat, k = (j : Int) + 1 + x ∧ (x : Int) ≤ n - 1 - j ∧ es = rowsE (fun i => rangeE (fun k => ((i : Int), (i : Int) + 1 + k)) (n.toNat - 1 - i)) j ++ rangeE (fun k => ((j : Int), (j : Int) + 1 + k)) x, fun _ k => (n - k).toNat, ⟨0, by omega, by omega, by simp [rangeE]⟩, ?_⟩
    rintro _ _ ⟨x, rfl, hx, rfl⟩
    refine cnd_dec (fun hlt2 => ⟨by have := rl j; rw [List.length_append, rangeE_len]; omega, ?_⟩) fun hlt2 => ?_
    · rw [wr (by omega) (by omega)]
      refine ⟨⟨x + 1, by omega, by omega, ?_⟩, by dsimp only; omega⟩
      rw [rangeE_succ, List.append_assoc]
    · have hx2 : x = n.toNat - 1 - j := by omega
      subst hx2
      exact ⟨⟨j + 1, by simp, by omega, rfl⟩, by dsimp only; omega⟩
  · have hj2 : j = n.toNat := by omega
    subst hj2
    have ec : rowsE (fun i => rangeE (fun k => ((i : Int), (i : Int) + 1 + k)) (n.toNat - 1 - i)) n.toNat = compE n.toNat := rfl
    rw [ec]
    refine okMadeR (fun q => ?_) fun q => ?_
    · by_cases z : 78 < n
      · rw [if_pos z] at h; exact h
      · exfalso
        rw [may_yes (by omega) (by omega) (compE_le (by omega)) fun x hx => by
          rw [← ec] at hx
          obtain ⟨i, hi, hx⟩ := memRows hx
          obtain ⟨k, hk, rfl⟩ := memR hx
          dsimp only; omega] at q
        cases q
    · by_cases z : 78 < n
      · obtain rfl : n = 79 := by omega
        rw [may_long (show 3072 < (compE (Int.toNat 79)).length from compE_79)] at q; cases q
      · rw [if_neg z] at h; exact h
theorem kindComplete {a b seed : Int} {R : Int → Es → Int → Prop} (h : sayK R (kComplete a)) : Ok38 (⟨#[99, 111, 109, 112, 108, 101, 116, 101]⟩ : ByteArray) a b seed R := by
  apply ok38
  unfold T38
  simp only [cndT, cndF, nm_complete_path, nm_complete_cycle, nm_complete_complete, nm_complete_two, nm_complete_grid, nm_complete_wheel, nm_complete_prism, nm_complete_bond, nm_complete_random, nm_complete_stack, Bool.not_true, Bool.not_false]
  unfold kComplete at h
  refine pre 1 (fun J j => cndT ▸ j) ⟨¬ a < 1, cnd_dec (fun q => by rw [if_pos q] at h; exact h) (fun q => q), fun h1 => ⟨a ≤ 4096, okToo1 (cnd_dec (fun q => by rw [if_neg h1, if_pos (by omega)] at h; exact h) fun q => by omega), fun h2 => ?_⟩⟩
  rw [if_neg h1] at h
  exact refComplete h1 h2 h

/-! ### Two sides -/
theorem size2_l {least x y n m : Int} (h : x < least ∨ y < least) : sizeE least [x, y] n m = 1 := by
  unfold sizeE
  rw [if_pos (by simpa using h)]
theorem size2_g {least x y n m : Int} (h : ¬ (x < least ∨ y < least)) (h2 : 3072 < x ∨ 3072 < y ∨ 1024 < n ∨ 3072 < m) : sizeE least [x, y] n m = 3 := by
  unfold sizeE
  rw [if_neg (by simpa using h)]
  by_cases q : 3072 < x ∨ 3072 < y
  · rw [if_pos (by simpa using q)]
  · rw [if_neg (by simp; omega)]
    by_cases q2 : 1024 < n
    · rw [if_pos q2]
    · rw [if_neg q2, if_pos (by omega)]
theorem size2_k {least x y n m : Int} (h1 : ¬ (x < least ∨ y < least)) (h2 : x ≤ 3072) (h5 : y ≤ 3072) (h3 : n ≤ 1024) (h4 : m ≤ 3072) : sizeE least [x, y] n m = 0 := by
  unfold sizeE
  rw [if_neg (by simpa using h1), if_neg (by simp; omega), if_neg (by omega), if_neg (by omega)]
theorem mul_lim {a b : Int} (A B : Int) (a0 : 0 ≤ a) (a1 : a ≤ A) (b0 : 0 ≤ b) (b1 : b ≤ B) : 0 ≤ a * b ∧ a * b ≤ A * B :=
  ⟨Int.mul_nonneg a0 b0, Int.mul_le_mul a1 b1 b0 (by omega)⟩
def kTwo (a b : Int) : K3 := if a < 1 ∨ b < 1 then (0, [], 1) else if 1024 < a + b ∨ 3072 < a * b then (0, [], 3) else (a + b, twoE a.toNat b.toNat, 0)
theorem makeTwo {a b : Int} {R : Int → Es → Int → Prop} (h : sayK R (kTwo a b)) : Ok34 a b R := by
  unfold kTwo at h
  by_cases h1 : a < 1 ∨ b < 1
  · rw [if_pos h1] at h
    have e := size2_l (least := 1) (n := twoN a b) (m := prodM a b) h1
    exact okTwo (fun _ => by rw [e]; exact h) fun q => by rw [e] at q; cases q
  · rw [if_neg h1] at h
    have eP : a ≤ 3072 → b ≤ 3072 → prodM a b = a * b := fun p q => by
      have := mul_lim 3072 3072 (a := a) (b := b) (by omega) p (by omega) q
      unfold prodM; rw [if_neg (by omega), wr (by omega) (by omega)]
    have eN : a ≤ 3072 → b ≤ 3072 → twoN a b = a + b := fun p q => by unfold twoN; rw [if_pos ⟨p, q⟩, wr (by omega) (by omega)]
    by_cases h2 : 1024 < a + b ∨ 3072 < a * b
    · rw [if_pos h2] at h
      have e : sizeE 1 [a, b] (twoN a b) (prodM a b) = 3 := by
        refine size2_g h1 ?_
        by_cases z : 3072 < a ∨ 3072 < b
        · rcases z with z | z
          · exact .inl z
          · exact .inr (.inl z)
        · rw [eP (by omega) (by omega), eN (by omega) (by omega)]
          rcases h2 with h2 | h2
          · exact .inr (.inr (.inl h2))
          · exact .inr (.inr (.inr h2))
      exact okTwo (fun _ => by rw [e]; exact h) fun q => by rw [e] at q; cases q
    · rw [if_neg h2] at h
      have e : sizeE 1 [a, b] (twoN a b) (prodM a b) = 0 := by
        rw [eP (by omega) (by omega), eN (by omega) (by omega)]
        exact size2_k h1 (by omega) (by omega) (by omega) (by omega)
      exact okTwo (fun q => absurd e q) fun _ => h
theorem rowsE_const {f : Nat → List (Int × Int)} {c : Nat} (h : ∀ i, (f i).length = c) : ∀ n, (rowsE f n).length = n * c
  | 0 => by simp [rowsE]
  | n + 1 => by rw [rowsE, List.length_append, rowsE_const h n, h, Nat.add_mul, Nat.one_mul]
theorem refTwo {a b : Int} {R : Int → Es → Int → Prop} (h1 : ¬ (a < 1 ∨ b < 1)) (ha : a ≤ 4096) (hb : b ≤ 4096) (h : sayK R (if 1024 < a + b ∨ 3072 < a * b then (0, [], 3) else (a + b, twoE a.toNat b.toNat, 0))) : Ok132 a b R := by
  apply ok132
  unfold T132
  have pm := mul_lim 4096 4096 (a := a) (b := b) (by omega) ha (by omega) hb
  rw [wr (x := a * b) (by omega) (by omega)]
  refine cnd_dec (fun q => by rw [if_pos (.inr q)] at h; exact h) fun q => ?_
  have rl : ∀ k, (rowsE (fun i => rangeE (fun k => ((i : Int), (a.toNat : Int) + k)) b.toNat) k).length ≤ k * 4096 := rowsE_len fun i => by rw [rangeE_len]; omega
  refine ⟨fun es i => ∃ j : Nat, i = j ∧ (j : Int) ≤ a ∧ es = rowsE (fun i => rangeE (fun k => ((i : Int), (a.toNat : Int) + k)) b.toNat) j, fun _ i => (a - i).toNat, ⟨0, rfl, by omega, rfl⟩, ?_⟩
  rintro _ _ ⟨j, rfl, hj, rfl⟩
  refine cnd_dec (fun hlt => ?_) fun hlt => ?_
  · refine ⟨fun es k => ∃ x : Nat, k = x ∧ (x : Int) ≤ b ∧ es = rowsE (fun i => rangeE (fun k => ((i : Int), (a.toNat : Int) + k)) b.toNat) j ++ rangeE (fun k => ((j : Int), (a.toNat : Int) + k)) x, fun _ k => (b - k).toNat, ⟨0, rfl, by omega, by simp [rangeE]⟩, ?_⟩
    rintro _ _ ⟨x, rfl, hx, rfl⟩
    refine cnd_dec (fun hlt2 => ⟨by have := rl j; rw [List.length_append, rangeE_len]; omega, ?_⟩) fun hlt2 => ?_
    · rw [wr (x := a + (x : Int)) (by omega) (by omega), wr (by omega) (by omega)]
      refine ⟨⟨x + 1, by simp, by omega, ?_⟩, by dsimp only; omega⟩
      rw [rangeE_succ, List.append_assoc, Int.toNat_of_nonneg (by omega)]
    · have hx2 : x = b.toNat := by omega
      subst hx2
      rw [wr (by omega) (by omega)]
      exact ⟨⟨j + 1, by simp, by omega, rfl⟩, by dsimp only; omega⟩
  · have hj2 : j = a.toNat := by omega
    subst hj2
    have ec : rowsE (fun i => rangeE (fun k => ((i : Int), (a.toNat : Int) + k)) b.toNat) a.toNat = twoE a.toNat b.toNat := rfl
    have el : ((twoE a.toNat b.toNat).length : Int) = a * b := by
      unfold twoE
      rw [rowsE_const (c := b.toNat) fun i => rangeE_len _ _]
      rw [Int.natCast_mul, Int.toNat_of_nonneg (by omega), Int.toNat_of_nonneg (by omega)]
    rw [ec, wr (by omega) (by omega)]
    refine okMadeR (fun q => ?_) fun q => ?_
    · by_cases z : 1024 < a + b
      · rw [if_pos (.inl z)] at h; exact h
      · exfalso
        rw [may_yes (by omega) (by omega) (by omega) fun x hx => by
          rw [← ec] at hx
          obtain ⟨i, hi, hx⟩ := memRows hx
          obtain ⟨k, hk, rfl⟩ := memR hx
          dsimp only; omega] at q
        cases q
    · by_cases z : 1024 < a + b
      · rw [may_big z] at q; cases q
      · rw [if_neg (by omega)] at h; exact h
theorem kindTwo {a b seed : Int} {R : Int → Es → Int → Prop} (h : sayK R (kTwo a b)) : Ok38 (⟨#[116, 119, 111]⟩ : ByteArray) a b seed R := by
  apply ok38
  unfold T38
  simp only [cndT, cndF, nm_two_path, nm_two_cycle, nm_two_complete, nm_two_two, nm_two_grid, nm_two_wheel, nm_two_prism, nm_two_bond, nm_two_random, nm_two_stack, Bool.not_true, Bool.not_false]
  unfold kTwo at h
  refine pre 1 (fun J j => cndT ▸ j) ⟨¬ (a < 1 ∨ b < 1), cnd_dec (fun q => by rw [if_pos (.inl q)] at h; exact h) (fun q => cnd_dec (fun q2 => by rw [if_pos (.inr q2)] at h; exact h) fun q2 => by omega), fun h1 => ?_⟩
  rw [if_neg h1] at h
  refine okToo1 (cnd_dec (fun q => ?_) fun q => okToo1 (cnd_dec (fun q2 => ?_) fun q2 => refTwo h1 (by omega) (by omega) h))
  · rw [if_pos (by omega)] at h; exact h
  · rw [if_pos (by omega)] at h; exact h

/-! ### Grid -/
def kGrid (a b : Int) : K3 := if a < 1 ∨ b < 1 then (0, [], 1) else if 1024 < a * b then (0, [], 3) else (a * b, gridE a.toNat b.toNat, 0)
theorem le_mul1 {a b : Int} (a0 : 0 ≤ a) (b1 : 1 ≤ b) : a ≤ a * b := by
  have := Int.mul_le_mul_of_nonneg_left b1 a0
  omega
theorem le_mul2 {a b : Int} (a1 : 1 ≤ a) (b0 : 0 ≤ b) : b ≤ a * b := by
  have := Int.mul_le_mul_of_nonneg_right a1 b0
  omega
theorem makeGrid {a b : Int} {R : Int → Es → Int → Prop} (h : sayK R (kGrid a b)) : Ok35 a b R := by
  unfold kGrid at h
  by_cases h1 : a < 1 ∨ b < 1
  · rw [if_pos h1] at h
    have e := size2_l (least := 1) (n := prodM a b) (m := gridM a b) h1
    exact okGrid (fun _ => by rw [e]; exact h) fun q => by rw [e] at q; cases q
  · rw [if_neg h1] at h
    have eP : ∀ {a b : Int}, 0 ≤ a → 0 ≤ b → a ≤ 3072 → b ≤ 3072 → prodM a b = a * b := fun {a b} p0 q0 p q => by
      have := mul_lim 3072 3072 (a := a) (b := b) p0 p q0 q
      unfold prodM; rw [if_neg (by omega), wr (by omega) (by omega)]
    by_cases h2 : 1024 < a * b
    · rw [if_pos h2] at h
      have e : sizeE 1 [a, b] (prodM a b) (gridM a b) = 3 := by
        refine size2_g h1 ?_
        by_cases z : 3072 < a ∨ 3072 < b
        · rcases z with z | z
          · exact .inl z
          · exact .inr (.inl z)
        · rw [eP (by omega) (by omega) (by omega) (by omega)]
          exact .inr (.inr (.inl h2))
      exact okGrid (fun _ => by rw [e]; exact h) fun q => by rw [e] at q; cases q
    · rw [if_neg h2] at h
      have la := le_mul1 (a := a) (b := b) (by omega) (by omega)
      have lb := le_mul2 (a := a) (b := b) (by omega) (by omega)
      have e : sizeE 1 [a, b] (prodM a b) (gridM a b) = 0 := by
        unfold gridM
        rw [wr (x := a - 1) (by omega) (by omega), wr (x := b - 1) (by omega) (by omega), eP (by omega) (by omega) (by omega) (by omega), eP (by omega) (by omega) (by omega) (by omega), eP (by omega) (by omega) (by omega) (by omega), Int.sub_mul, Int.mul_sub, Int.one_mul, Int.mul_one, wr (by omega) (by omega)]
        exact size2_k h1 (by omega) (by omega) (by omega) (by omega)
      exact okGrid (fun q => absurd e q) fun _ => h
theorem gridV_len (W H y x : Nat) : (gridV W H y x).length ≤ 2 := by
  unfold gridV
  rw [List.length_append]
  split <;> split <;> simp
theorem gridE_len (W H : Nat) : (gridE W H).length ≤ H * (W * 2) := rowsE_len (fun y => rowsE_len (gridV_len W H y) W) H
theorem gridE_in {W H : Nat} {x : Int × Int} (h : x ∈ gridE W H) : (0 ≤ x.1 ∧ x.1 < (W : Int) * H) ∧ 0 ≤ x.2 ∧ x.2 < (W : Int) * H := by
  unfold gridE at h
  obtain ⟨y, hy, h⟩ := memRows h
  obtain ⟨k, hk, h⟩ := memRows h
  unfold gridV at h
  have m1 : (y : Int) * W + W ≤ (W : Int) * H := by
    have := Int.mul_le_mul_of_nonneg_right (show (y : Int) + 1 ≤ H by omega) (show (0 : Int) ≤ W by omega)
    rw [Int.add_mul, Int.one_mul, Int.mul_comm (H : Int)] at this
    exact this
  have m0 : 0 ≤ (y : Int) * W := Int.mul_nonneg (by omega) (by omega)
  rcases List.mem_append.1 h with h | h
  · split at h
    · rcases List.mem_singleton.1 h with rfl; dsimp only; omega
    · cases h
  · split at h
    · rcases List.mem_singleton.1 h with rfl
      have m2 : (y : Int) * W + W + W ≤ (W : Int) * H := by
        have := Int.mul_le_mul_of_nonneg_right (show (y : Int) + 1 + 1 ≤ H by omega) (show (0 : Int) ≤ W by omega)
        rw [Int.add_mul, Int.add_mul, Int.one_mul, Int.mul_comm (H : Int)] at this
        exact this
      dsimp only; omega
    · cases h
theorem refGrid {a b : Int} {R : Int → Es → Int → Prop} (h1 : ¬ (a < 1 ∨ b < 1)) (ha : a ≤ 4096) (hb : b ≤ 4096) (h : sayK R (if 1024 < a * b then (0, [], 3) else (a * b, gridE a.toNat b.toNat, 0))) : Ok133 a b R := by
  apply ok133
  unfold T133
  have pm := mul_lim 4096 4096 (a := a) (b := b) (by omega) ha (by omega) hb
  rw [wr (x := a * b) (by omega) (by omega)]
  refine cnd_dec (fun q => by rw [if_pos q] at h; exact h) fun q => ?_
  rw [if_neg q] at h
  obtain ⟨W, hW⟩ : ∃ W : Nat, a = W := ⟨a.toNat, by omega⟩
  obtain ⟨H, hH⟩ : ∃ H : Nat, b = H := ⟨b.toNat, by omega⟩
  subst hW hH
  rw [Int.toNat_natCast, Int.toNat_natCast] at h
  have rl1 : ∀ y k, (rowsE (gridV W H y) k).length ≤ k * 2 := fun y => rowsE_len (gridV_len W H y)
  have rl : ∀ k, (rowsE (fun y => rowsE (gridV W H y) W) k).length ≤ k * 8192 := rowsE_len fun y => by have := rl1 y W; omega
  refine ⟨fun es v => ∃ y x : Nat, v = (y : Int) * W + x ∧ x < W ∧ y ≤ H ∧ (y = H → x = 0) ∧ es = rowsE (fun y => rowsE (gridV W H y) W) y ++ rowsE (gridV W H y) x, fun _ v => ((W : Int) * H - v).toNat, ⟨0, 0, by omega, by omega, by omega, fun _ => rfl, rfl⟩, ?_⟩
  rintro _ _ ⟨y, x, rfl, hx, hy, hyx, rfl⟩
  have yw := mul_lim 4096 4096 (a := (y : Int)) (b := W) (by omega) (by omega) (by omega) (by omega)
  have l1 := rl y
  have l2 := rl1 y x
  refine cnd_dec (fun hlt => ?_) fun hlt => ?_
  · have hy2 : y < H := by
      rcases Nat.lt_or_ge y H with z | z
      · exact z
      · obtain rfl : y = H := by omega
        rw [hyx rfl, Int.mul_comm] at hlt
        simp at hlt
    generalize hE : rowsE (fun y => rowsE (gridV W H y) W) y ++ rowsE (gridV W H y) x = E
    have hEl : E.length ≤ 100000000 := by rw [← hE, List.length_append]; omega
    have em : Int.tmod ((y : Int) * W + x) W = x := by
      rw [Int.tmod_eq_emod_of_nonneg (by omega), Int.add_comm, Int.add_mul_emod_self_right]
      exact Int.emod_eq_of_lt (by omega) (by omega)
    have ed : Int.tdiv ((y : Int) * W + x) W = y := by
      rw [Int.tdiv_eq_ediv_of_nonneg (by omega), Int.add_comm, Int.add_mul_ediv_right _ _ (by omega), Int.ediv_eq_zero_of_lt (by omega) (by omega), Int.zero_add]
    rw [em, ed, wr (x := (x : Int) + 1) (by omega) (by omega), wr (x := (y : Int)) (by omega) (by omega), wr (x := (y : Int) + 1) (by omega) (by omega), wr (x := (y : Int) * W + x + 1) (by omega) (by omega), wr (x := (y : Int) * W + x + W) (by omega) (by omega)]
    refine ⟨by omega, fun es => es = E ++ (if x + 1 < W then [((y : Int) * W + x, (y : Int) * W + x + 1)] else []), cnd_dec (fun q1 => ⟨by omega, ?_⟩) (fun q1 => ?_), ?_⟩
    · rw [if_pos (by omega)]
    · rw [if_neg (by omega), List.append_nil]
    rintro es hes
    have hesl : es.length ≤ 100000001 := by
      rw [hes, List.length_append]
      split
      · simp; omega
      · simp; omega
    refine ⟨by omega, fun l => l = es ++ (if y + 1 < H then [((y : Int) * W + x, (y : Int) * W + x + W)] else []), cnd_dec (fun q1 => ⟨by omega, ?_⟩) (fun q1 => ?_), ?_⟩
    · rw [if_pos (by omega)]
    · rw [if_neg (by omega), List.append_nil]
    rintro l hl
    have el : l = rowsE (fun y => rowsE (gridV W H y) W) y ++ rowsE (gridV W H y) (x + 1) := by
      rw [hl, hes, ← hE, rowsE, List.append_assoc, List.append_assoc]
      rfl
    refine ⟨?_, by dsimp only; omega⟩
    by_cases z : x + 1 < W
    · exact ⟨y, x + 1, by omega, z, hy, fun e => by omega, el⟩
    · have z2 : x + 1 = W := by omega
      refine ⟨y + 1, 0, ?_, by omega, by omega, fun _ => rfl, ?_⟩
      · rw [Int.natCast_add, Int.add_mul, Int.natCast_one, Int.one_mul]; omega
      · rw [el, z2]
        exact (List.append_nil _).symm
  · have hy2 : y = H := by
      rcases Nat.lt_or_ge y H with z | z
      · exfalso
        have := Int.mul_le_mul_of_nonneg_right (show (y : Int) + 1 ≤ H by omega) (show (0 : Int) ≤ W by omega)
        rw [Int.add_mul, Int.one_mul, Int.mul_comm (H : Int)] at this
        omega
      · omega
    subst hy2
    have e0 := hyx rfl
    subst e0
    have ec : rowsE (fun z => rowsE (gridV W y z) W) y ++ rowsE (gridV W y y) 0 = gridE W y := List.append_nil _
    rw [ec]
    have gl := gridE_len W y
    have gl2 : ((y * (W * 2) : Nat) : Int) = 2 * ((W : Int) * y) := by
      rw [Int.natCast_mul, Int.natCast_mul, ← Int.mul_assoc, Int.mul_comm (y : Int)]; omega
    refine okMadeR (fun q => ?_) fun _ => h
    rw [may_yes (by omega) (by omega) (by omega) fun x hx => gridE_in hx] at q
    cases q
theorem kindGrid {a b seed : Int} {R : Int → Es → Int → Prop} (h : sayK R (kGrid a b)) : Ok38 (⟨#[103, 114, 105, 100]⟩ : ByteArray) a b seed R := by
  apply ok38
  unfold T38
  simp only [cndT, cndF, nm_grid_path, nm_grid_cycle, nm_grid_complete, nm_grid_two, nm_grid_grid, nm_grid_wheel, nm_grid_prism, nm_grid_bond, nm_grid_random, nm_grid_stack, Bool.not_true, Bool.not_false]
  unfold kGrid at h
  refine pre 1 (fun J j => cndT ▸ j) ⟨¬ (a < 1 ∨ b < 1), cnd_dec (fun q => by rw [if_pos (.inl q)] at h; exact h) (fun q => cnd_dec (fun q2 => by rw [if_pos (.inr q2)] at h; exact h) fun q2 => by omega), fun h1 => ?_⟩
  rw [if_neg h1] at h
  have la := le_mul1 (a := a) (b := b) (by omega) (by omega)
  have lb := le_mul2 (a := a) (b := b) (by omega) (by omega)
  refine okToo1 (cnd_dec (fun q => ?_) fun q => okToo1 (cnd_dec (fun q2 => ?_) fun q2 => refGrid h1 (by omega) (by omega) h))
  · rw [if_pos (by omega)] at h; exact h
  · rw [if_pos (by omega)] at h; exact h
end Go.Proofs.Ytmcloipjlihhlaa.N
