/- Rounding: what can be written exactly is; halves stay within halves. Conditions: none. -/
import Derived.Test.YtmcloipjlihhlaaNMovedL
namespace Go.Proofs.Ytmcloipjlihhlaa.N
open Go.X Go.Proofs.Ytmcloipjlihhlaa
set_option maxRecDepth 100000

theorem signed_shift (s : Bool) (m a : Nat) : Ieee.signed s m a = if s then -((m * 2 ^ a : Nat) : Int) else ((m * 2 ^ a : Nat) : Int) := by
  unfold Ieee.signed; rw [Nat.shiftLeft_eq]
/-- What a rung stands for. -/
def rungVal (r : Nat) : Nat := if r < 2 ^ 52 then r else (2 ^ 52 + r % 2 ^ 52) * 2 ^ (r / 2 ^ 52 - 1)
theorem read_word {s : Bool} {r : Nat} (h : r < 2047 * 2 ^ 52) : F64.read (F64.word s r) = if r < 2 ^ 52 then .number s r (-1074) else .number s (2 ^ 52 + r % 2 ^ 52) (-1074 + (r / 2 ^ 52 - 1 : Nat)) := by
  have e1 : F64.word s r / 2 ^ 63 % 2 = (if s then 1 else 0) ∧ F64.word s r % 2 ^ 63 = r := by
    unfold Ieee.Format.word
    rw [f_sign]
    cases s
    · simp only [Bool.false_eq_true, if_false]; omega
    · simp only [if_true]; omega
  unfold Ieee.Format.read
  simp only [f_sign, f_binade, f_least, f_inf]
  rw [e1.1, e1.2, if_pos h]
  cases s <;> rfl
theorem key_word {s : Bool} {r : Nat} (h : r < 2047 * 2 ^ 52) : key (F64.word s r) = (if s then -((rungVal r : Nat) : Int) else ((rungVal r : Nat) : Int)) ∧ isNaN (F64.word s r) = false := by
  have hN : isNaN (F64.word s r) = (F64.read (F64.word s r)).isNaN := rfl
  unfold key
  rw [hN, read_word h]
  unfold rungVal
  split
  · refine ⟨?_, rfl⟩
    simp only [keyD, signed_shift]
    simp
  · refine ⟨?_, rfl⟩
    simp only [keyD, signed_shift]
    rw [show (-1074 + ((r / 2 ^ 52 - 1 : Nat) : Int) + 1074).toNat = r / 2 ^ 52 - 1 by omega]
theorem log2_mul_pow {m k : Nat} (h : m ≠ 0) : (m * 2 ^ k).log2 = m.log2 + k := by
  have h1 : m * 2 ^ k ≠ 0 := Nat.ne_of_gt (Nat.mul_pos (by omega) (Nat.pow_pos (by decide)))
  apply (Nat.log2_eq_iff h1).2
  have h2 := (Nat.log2_eq_iff h).1 rfl
  rw [Nat.pow_add, show m.log2 + k + 1 = (m.log2 + 1) + k by omega, Nat.pow_add]
  exact ⟨Nat.mul_le_mul_right _ h2.1, Nat.mul_lt_mul_of_pos_right h2.2 (Nat.pow_pos (by decide))⟩
/-- Nothing is cut off where nothing stands. -/
theorem cut_exact (w : Ieee.Toward) (s : Bool) (K d : Nat) : w.cut s (K * 2 ^ d) d = K := by
  unfold Ieee.Toward.cut
  by_cases hK : K = 0
  · subst hK
    simp only [Nat.zero_mul, Nat.zero_div, Nat.zero_mod]
    have hg : 0 < 1 <<< min d (Nat.log2 0 + 2) := by rw [Nat.shiftLeft_eq]; exact Nat.mul_pos (by decide) (Nat.pow_pos (by decide))
    generalize 1 <<< min d (Nat.log2 0 + 2) = g at *
    cases w <;> simp
  · rw [log2_mul_pow hK, show min d (K.log2 + d + 2) = d by omega, Nat.shiftLeft_eq, Nat.one_mul]
    have hg : 0 < 2 ^ d := Nat.pow_pos (by decide)
    dsimp only
    rw [Nat.mul_div_cancel _ hg, Nat.mul_mod_left]
    generalize 2 ^ d = g at *
    cases w <;> simp
    omega
/-- What can be written is written. -/
theorem key_exact {s : Bool} {m k : Nat} {i : Int} (hm : m < 2 ^ 53) (hi : -1074 ≤ i) (hi2 : i ≤ 971) : key (F64.nearest s (m * 2 ^ k) (i - k)) = Ieee.signed s m (i + 1074).toNat ∧ isNaN (F64.nearest s (m * 2 ^ k) (i - k)) = false := by
  rw [nearest_eq]
  by_cases hm0 : m = 0
  · subst hm0
    have e : rungOf (0 * 2 ^ k) (i - k) = 0 := by unfold rungOf; simp
    rw [e]
    have := key_word (s := s) (r := 0) (by omega)
    refine ⟨this.1.trans ?_, this.2⟩
    rw [signed_shift]; simp [rungVal]
  have hM : m * 2 ^ k ≠ 0 := Nat.ne_of_gt (Nat.mul_pos (by omega) (Nat.pow_pos (by decide)))
  have hlog := log2_mul_pow (k := k) hm0
  have hl2 := (Nat.log2_eq_iff hm0).1 rfl
  have hl53 : m.log2 < 53 := (Nat.log2_lt hm0).2 hm
  -- the last place that is kept, and what is kept there
  obtain ⟨la, hla⟩ : ∃ la : Int, la = max (i - k + ((m * 2 ^ k).log2 : Int) - F64.fractionBits) F64.leastPlace := ⟨_, rfl⟩
  have hla2 : la = max (i + (m.log2 : Int) - 52) (-1074) := by
    rw [hla, hlog, f_least, show F64.fractionBits = 52 from rfl]; omega
  have hle : la ≤ i := by omega
  have kept : Ieee.Toward.even.cut false ((m * 2 ^ k) <<< (i - k - la).toNat) (la - (i - k)).toNat = m * 2 ^ (i - la).toNat := by
    rw [Nat.shiftLeft_eq, Nat.mul_assoc, ← Nat.pow_add]
    have e : k + (i - k - la).toNat = (i - la).toNat + (la - (i - k)).toNat := by omega
    rw [e, Nat.pow_add, ← Nat.mul_assoc]
    exact cut_exact _ _ _ _
  have er : rungOf (m * 2 ^ k) (i - k) = min ((la + 1074).toNat * 2 ^ 52 + m * 2 ^ (i - la).toNat) (2047 * 2 ^ 52) := by
    unfold rungOf
    rw [if_neg hM, ← hla, kept, f_inf, f_binade, f_least]
    rw [show (la - -1074).toNat = (la + 1074).toNat by omega]
  -- bounds of what is kept
  have hK1 : m * 2 ^ (i - la).toNat < 2 ^ 53 := by
    calc m * 2 ^ (i - la).toNat < 2 ^ (m.log2 + 1) * 2 ^ (i - la).toNat := Nat.mul_lt_mul_of_pos_right hl2.2 (Nat.pow_pos (by decide))
      _ = 2 ^ (m.log2 + 1 + (i - la).toNat) := (Nat.pow_add _ _ _).symm
      _ ≤ 2 ^ 53 := Nat.pow_le_pow_right (by decide) (by omega)
  have hK2 : -1074 < la → 2 ^ 52 ≤ m * 2 ^ (i - la).toNat := fun q => by
    calc 2 ^ 52 ≤ 2 ^ (m.log2 + (i - la).toNat) := Nat.pow_le_pow_right (by decide) (by omega)
      _ = 2 ^ m.log2 * 2 ^ (i - la).toNat := Nat.pow_add _ _ _
      _ ≤ m * 2 ^ (i - la).toNat := Nat.mul_le_mul_right _ hl2.1
  have ev : m * 2 ^ (i + 1074).toNat = m * 2 ^ (i - la).toNat * 2 ^ (la + 1074).toNat := by
    rw [Nat.mul_assoc, ← Nat.pow_add, show (i - la).toNat + (la + 1074).toNat = (i + 1074).toNat by omega]
  have hl3 : (la + 1074).toNat ≤ 2045 := by omega
  have hl4 : -1074 ≤ la := by omega
  clear kept hla hla2
  generalize m * 2 ^ (i - la).toNat = K at *
  have hr : (la + 1074).toNat * 2 ^ 52 + K < 2047 * 2 ^ 52 := by omega
  rw [er, Nat.min_eq_left (by omega)]
  have hk := key_word (s := s) hr
  refine ⟨hk.1.trans ?_, hk.2⟩
  rw [signed_shift, ev]
  have hv : rungVal ((la + 1074).toNat * 2 ^ 52 + K) = K * 2 ^ (la + 1074).toNat := by
    unfold rungVal
    by_cases q : -1074 < la
    · have := hK2 q
      rw [if_neg (by omega), show ((la + 1074).toNat * 2 ^ 52 + K) % 2 ^ 52 = K - 2 ^ 52 by omega, show ((la + 1074).toNat * 2 ^ 52 + K) / 2 ^ 52 - 1 = (la + 1074).toNat by omega, show 2 ^ 52 + (K - 2 ^ 52) = K by omega]
    · rw [show (la + 1074).toNat = 0 by omega]
      simp only [Nat.zero_mul, Nat.zero_add, Nat.pow_zero, Nat.mul_one]
      split
      · rfl
      · rw [show K / 2 ^ 52 - 1 = 0 by omega, Nat.pow_zero, Nat.mul_one]; omega
  rw [hv]
end Go.Proofs.Ytmcloipjlihhlaa.N
