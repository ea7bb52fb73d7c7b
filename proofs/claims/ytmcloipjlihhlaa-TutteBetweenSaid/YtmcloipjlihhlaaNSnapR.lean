/- Snapped: within half a step; whole numbers stay. Conditions: none. -/
import Derived.Test.YtmcloipjlihhlaaNExact
namespace Go.Proofs.Ytmcloipjlihhlaa.N
open Go.X Go.Proofs.Ytmcloipjlihhlaa
set_option maxRecDepth 100000

/-- One, in keys. -/
def uE : Nat := 1074
def U : Nat := 2 ^ uE
theorem U_pos : 0 < U := Nat.pow_pos (by decide)
theorem U_split {a b : Nat} (h : a + b = uE) : U = 2 ^ a * 2 ^ b := by unfold U; rw [← h, Nat.pow_add]
theorem cut_val {s : Bool} {m n : Nat} {i : Int} (hi : -1074 ≤ i) (h : m * 2 ^ (i + 1074).toNat = n * U) : Ieee.Toward.zero.cut s (m <<< i.toNat) (-i).toNat = n := by
  rw [Nat.shiftLeft_eq]
  have hu : uE = 1074 := rfl
  by_cases q : 0 ≤ i
  · have e : (i + 1074).toNat = i.toNat + uE := by omega
    rw [e, Nat.pow_add, ← Nat.mul_assoc] at h
    have h2 := Nat.eq_of_mul_eq_mul_right U_pos (h : m * 2 ^ i.toNat * U = n * U)
    have := cut_exact .zero s n 0
    rw [Nat.pow_zero, Nat.mul_one] at this
    rw [h2, show (-i).toNat = 0 by omega]; exact this
  · have e : (i + 1074).toNat + (-i).toNat = uE := by omega
    rw [U_split e, Nat.mul_comm (2 ^ _), ← Nat.mul_assoc] at h
    have h2 := Nat.eq_of_mul_eq_mul_right (Nat.pow_pos (by decide)) h
    rw [show i.toNat = 0 by omega, Nat.pow_zero, Nat.mul_one, h2]
    exact cut_exact .zero s n _
theorem key_num {y : Nat} {s : Bool} {m : Nat} {i : Int} (h : F64.read y = .number s m i) : key y = if s then -((m * 2 ^ (i + 1074).toNat : Nat) : Int) else ((m * 2 ^ (i + 1074).toNat : Nat) : Int) := by
  unfold key; rw [h]; exact signed_shift _ _ _
theorem toInt_num {y : Nat} {s : Bool} {m : Nat} {i N : Int} (h : F64.read y = .number s m i) (hk : key y = N * (U : Int)) : (F64.read y).toInt .zero = some N := by
  have hi := (read_place h).1
  have hU : (0 : Int) < (U : Int) := by have := U_pos; omega
  have ek := key_num h
  rw [hk] at ek
  have e : m * 2 ^ (i + 1074).toNat = N.natAbs * U := by
    have : (N * (U : Int)).natAbs = N.natAbs * U := by rw [Int.natAbs_mul, Int.natAbs_natCast]
    rw [← this, ek]
    generalize m * 2 ^ (i + 1074).toNat = z
    cases s
    · simp
    · simp
  have ec := cut_val (s := s) hi e
  have e1 : (F64.read y).toInt .zero = some (Ieee.signed s (Ieee.Toward.zero.cut s (m <<< i.toNat) (-i).toNat) 0) := by rw [h]; rfl
  rw [e1, ec, signed_shift, Nat.pow_zero, Nat.mul_one]
  rw [e] at ek
  congr 1
  cases s
  · simp only [Bool.false_eq_true, if_false] at ek ⊢
    rw [Int.natCast_mul] at ek
    exact (Int.eq_of_mul_eq_mul_right (by omega) ek).symm
  · simp only [if_true] at ek ⊢
    rw [Int.natCast_mul, ← Int.neg_mul] at ek
    exact (Int.eq_of_mul_eq_mul_right (by omega) ek).symm
theorem num_of_key {r : Nat} (hn : isNaN r = false) (h1 : -(2 ^ bigE) < key r) (h2 : key r < 2 ^ bigE) : ∃ s m i, F64.read r = .number s m i := by
  have hn' : (F64.read r).isNaN = false := hn
  unfold key at h1 h2
  cases hr : F64.read r with
  | nan s t => rw [hr] at hn'; simp [Ieee.Datum.isNaN] at hn'
  | infinity s =>
    rw [hr] at h1 h2
    simp only [keyD] at h1 h2
    generalize (2 : Int) ^ bigE = w at *
    cases s
    · simp only [Bool.false_eq_true, if_false] at h2; omega
    · simp only [if_true] at h1; omega
  | number s m i => exact ⟨s, m, i, rfl⟩
/-- The even cut is within a half. -/
theorem cut_half (s : Bool) (m d : Nat) : 2 * (Ieee.Toward.even.cut s m d * 2 ^ d) ≤ 2 * m + 2 ^ d ∧ 2 * m ≤ 2 * (Ieee.Toward.even.cut s m d * 2 ^ d) + 2 ^ d := by
  unfold Ieee.Toward.cut
  dsimp only
  by_cases hd : d ≤ m.log2 + 2
  · rw [Nat.min_eq_left hd, Nat.shiftLeft_eq, Nat.one_mul]
    have hg : 0 < 2 ^ d := Nat.pow_pos (by decide)
    have hdm := Nat.div_add_mod m (2 ^ d)
    have hlt := Nat.mod_lt m hg
    generalize 2 ^ d = g at *
    generalize m / g = q at *
    generalize m % g = r at *
    have : (q + 1) * g = g * q + g := by rw [Nat.add_mul, Nat.one_mul, Nat.mul_comm]
    have h0 : q * g = g * q := Nat.mul_comm _ _
    cases hb : (decide (g < 2 * r) || g == 2 * r && q % 2 == 1)
    · simp only [Bool.toNat_false, Nat.add_zero]
      simp at hb
      omega
    · simp only [Bool.toNat_true]
      simp at hb
      omega
  · have hd2 : min d (m.log2 + 2) = m.log2 + 2 := by omega
    rw [hd2, Nat.shiftLeft_eq, Nat.one_mul]
    have h1 : 2 * m < 2 ^ (m.log2 + 2) := by
      have := Nat.lt_log2_self (n := m)
      rw [Nat.pow_succ]; omega
    have h2 : 2 ^ (m.log2 + 2) ≤ 2 ^ d := Nat.pow_le_pow_right (by decide) (by omega)
    generalize 2 ^ (m.log2 + 2) = g at *
    rw [Nat.div_eq_of_lt (by omega), Nat.mod_eq_of_lt (by omega)]
    have hb : (decide (g < 2 * m) || g == 2 * m && 0 % 2 == 1) = false := by simp; omega
    rw [hb]
    simp only [Bool.toNat_false, Nat.add_zero, Nat.zero_mul]
    generalize 2 ^ d = z at *
    omega
/-- Rounded to a whole number: which one. -/
theorem rte_key {y : Nat} {s : Bool} {m : Nat} {i : Int} (h : F64.read y = .number s m i) : ∃ N : Int, key (rte y) = N * (U : Int) ∧ isNaN (rte y) = false ∧ (∃ s m i, F64.read (rte y) = .number s m i) ∧ 2 * (N * (U : Int)) ≤ 2 * key y + U ∧ 2 * key y ≤ 2 * (N * (U : Int)) + U := by
  have hm := read_mag h
  have hp := read_place h
  have hu : uE = 1074 := rfl
  have hk := key_num h
  have er : rte y = F64.nearest s (Ieee.Toward.even.cut s (m <<< i.toNat) (-i).toNat) 0 := by
    unfold rte
    show F64.write ((F64.read y).integral .even) = _
    rw [h]; rfl
  rw [er, Nat.shiftLeft_eq]
  by_cases q : 0 ≤ i
  · have ec : Ieee.Toward.even.cut s (m * 2 ^ i.toNat) (-i).toNat = m * 2 ^ i.toNat := by
      have := cut_exact .even s (m * 2 ^ i.toNat) 0
      rw [Nat.pow_zero, Nat.mul_one] at this
      rw [show (-i).toNat = 0 by omega]; exact this
    rw [ec]
    have kx := key_exact (s := s) (m := m) (k := i.toNat) (i := i) hm hp.1 hp.2
    rw [show i - (i.toNat : Int) = 0 by omega] at kx
    have kb := key_bound h
    rw [← kx.1] at kb
    have e2 : m * 2 ^ (i + 1074).toNat = m * 2 ^ i.toNat * U := by
      unfold U
      rw [Nat.mul_assoc, ← Nat.pow_add, show (i + 1074).toNat = i.toNat + uE by omega]
    have e3 : key (F64.nearest s (m * 2 ^ i.toNat) 0) = key y := by rw [kx.1, signed_shift, hk]
    refine ⟨if s then -((m * 2 ^ i.toNat : Nat) : Int) else ((m * 2 ^ i.toNat : Nat) : Int), ?_, kx.2, num_of_key kx.2 kb.1 kb.2, ?_⟩
    · rw [e3, hk, e2]
      cases s
      · simp only [Bool.false_eq_true, if_false, Int.natCast_mul]
      · simp only [if_true, Int.natCast_mul, Int.neg_mul]
    · have e4 : (if s = true then -((m * 2 ^ i.toNat : Nat) : Int) else ((m * 2 ^ i.toNat : Nat) : Int)) * (U : Int) = key y := by
        rw [hk, e2]
        cases s
        · simp only [Bool.false_eq_true, if_false, Int.natCast_mul]
        · simp only [if_true, Int.natCast_mul, Int.neg_mul]
      rw [e4]
      have := U_pos
      omega
  · rw [show i.toNat = 0 by omega, Nat.pow_zero, Nat.mul_one]
    obtain ⟨d, hd⟩ : ∃ d, d = (-i).toNat := ⟨_, rfl⟩
    rw [← hd]
    have ch := cut_half s m d
    have hd1 : 1 ≤ d := by omega
    have hg : 2 ≤ 2 ^ d := by
      calc 2 = 2 ^ 1 := rfl
        _ ≤ 2 ^ d := Nat.pow_le_pow_right (by decide) hd1
    have hn0 : Ieee.Toward.even.cut s m d < 2 ^ 53 := by
      have : Ieee.Toward.even.cut s m d * 2 ≤ Ieee.Toward.even.cut s m d * 2 ^ d := Nat.mul_le_mul_left _ hg
      by_cases h0 : Ieee.Toward.even.cut s m d = 0
      · omega
      · have h1 : 2 ^ d ≤ Ieee.Toward.even.cut s m d * 2 ^ d := Nat.le_mul_of_pos_left _ (by omega)
        generalize Ieee.Toward.even.cut s m d * 2 ^ d = z at *
        omega
    generalize Ieee.Toward.even.cut s m d = n0 at *
    have kx := key_exact (s := s) (m := n0) (k := 0) (i := 0) hn0 (by omega) (by omega)
    rw [Nat.pow_zero, Nat.mul_one, show (0 : Int) - ((0 : Nat) : Int) = 0 by omega, show ((0 : Int) + 1074).toNat = uE from rfl, signed_shift] at kx
    have e5 : n0 * 2 ^ uE = n0 * U := rfl
    rw [e5] at kx
    have hsl : n0 * U < 2 ^ bigE := shift_lt hn0 (by omega)
    have hsl2 : ((n0 * U : Nat) : Int) < (2 : Int) ^ bigE := by
      have := Int.ofNat_lt.2 hsl
      rw [Int.natCast_pow] at this
      exact this
    have hnum : ∃ s' m' i', F64.read (F64.nearest s n0 0) = .number s' m' i' := by
      refine num_of_key kx.2 ?_ ?_
      · rw [kx.1]
        have := big_pos
        generalize (2 : Int) ^ bigE = w at *
        have : (0 : Int) ≤ ((n0 * U : Nat) : Int) := Int.natCast_nonneg _
        split <;> omega
      · rw [kx.1]
        have := big_pos
        generalize (2 : Int) ^ bigE = w at *
        have : (0 : Int) ≤ ((n0 * U : Nat) : Int) := Int.natCast_nonneg _
        split <;> omega
    -- the same in keys
    have eU : U = 2 ^ d * 2 ^ (i + 1074).toNat := U_split (by omega)
    have c1 : 2 * (n0 * U) ≤ 2 * (m * 2 ^ (i + 1074).toNat) + U := by
      have := Nat.mul_le_mul_right (2 ^ (i + 1074).toNat) ch.1
      rw [Nat.add_mul, Nat.mul_assoc, Nat.mul_assoc, Nat.mul_assoc, ← eU] at this
      exact this
    have c2 : 2 * (m * 2 ^ (i + 1074).toNat) ≤ 2 * (n0 * U) + U := by
      have := Nat.mul_le_mul_right (2 ^ (i + 1074).toNat) ch.2
      rw [Nat.add_mul, Nat.mul_assoc, Nat.mul_assoc, Nat.mul_assoc, ← eU] at this
      exact this
    refine ⟨if s then -(n0 : Int) else (n0 : Int), ?_, kx.2, hnum, ?_⟩
    · rw [kx.1]
      cases s
      · simp only [Bool.false_eq_true, if_false, Int.natCast_mul]
      · simp only [if_true, Int.natCast_mul, Int.neg_mul]
    · have e4 : (if s = true then -(n0 : Int) else (n0 : Int)) * (U : Int) = if s = true then -((n0 * U : Nat) : Int) else ((n0 * U : Nat) : Int) := by
        cases s
        · simp only [Bool.false_eq_true, if_false, Int.natCast_mul]
        · simp only [if_true, Int.natCast_mul, Int.neg_mul]
      rw [e4, hk]
      generalize n0 * U = a at *
      generalize m * 2 ^ (i + 1074).toNat = b at *
      cases s
      · simp only [Bool.false_eq_true, if_false]; omega
      · simp only [if_true]; omega
end Go.Proofs.Ytmcloipjlihhlaa.N
