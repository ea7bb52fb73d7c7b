/- What is rounded is not below what could be written exactly. Conditions: none. -/
import Derived.Test.YtfjflbapojgbhaaGreatDoorWBeg
namespace Go.Proofs.YtfjflbapojgbhaaGreatDoor.N
open Go.X Go.Proofs.YtfjflbapojgbhaaGreatDoor
set_option maxRecDepth 100000
set_option maxHeartbeats 1000000

theorem cut_half (s : Bool) (m d : Nat) : 2 * (Ieee.Toward.even.cut s m d * 2 ^ d) ≤ 2 * m + 2 ^ d ∧ 2 * m ≤ 2 * (Ieee.Toward.even.cut s m d * 2 ^ d) + 2 ^ d := by
  unfold Ieee.Toward.cut
  dsimp only
  by_cases hd : d ≤ m.log2 + 2
  · rw [Nat.min_eq_left hd, Nat.shiftLeft_eq, Nat.one_mul]
    have hg : 0 < 2 ^ d := Nat.pow_pos (by decide)
    have hdm := Nat.div_add_mod m (2 ^ d)
    have hlt := Nat.mod_lt m hg
    generalize 2 ^ d = g at *
    generalize m / g = q at *
    generalize m % g = r at *
    have : (q + 1) * g = g * q + g := by rw [Nat.add_mul, Nat.one_mul, Nat.mul_comm]
    have h0 : q * g = g * q := Nat.mul_comm _ _
    cases hb : (decide (g < 2 * r) || g == 2 * r && q % 2 == 1)
    · simp only [Bool.toNat_false, Nat.add_zero]
      simp at hb
      omega
    · simp only [Bool.toNat_true]
      simp at hb
      omega
  · have hd2 : min d (m.log2 + 2) = m.log2 + 2 := by omega
    rw [hd2, Nat.shiftLeft_eq, Nat.one_mul]
    have h1 : 2 * m < 2 ^ (m.log2 + 2) := by
      have := Nat.lt_log2_self (n := m)
      rw [Nat.pow_succ]; omega
    have h2 : 2 ^ (m.log2 + 2) ≤ 2 ^ d := Nat.pow_le_pow_right (by decide) (by omega)
    generalize 2 ^ (m.log2 + 2) = g at *
    rw [Nat.div_eq_of_lt (by omega), Nat.mod_eq_of_lt (by omega)]
    have hb : (decide (g < 2 * m) || g == 2 * m && 0 % 2 == 1) = false := by simp; omega
    rw [hb]
    simp only [Bool.toNat_false, Nat.add_zero, Nat.zero_mul]
    generalize 2 ^ d = z at *
    omega
/-- The rung that is written: of K places of weight 2^a; within half a place, whole places at least. -/
theorem rung_val {M : Nat} {p : Int} (hM : M ≠ 0) (hp : -1074 ≤ p) :
    ∃ K a : Nat, rungOf M p = min (a * 2 ^ 52 + K) (2047 * 2 ^ 52) ∧ rungVal (a * 2 ^ 52 + K) = K * 2 ^ a ∧ K ≤ 2 ^ 53 ∧ (0 < a → 2 ^ 52 ≤ K) ∧ 2 * (K * 2 ^ a) ≤ 2 * (M * 2 ^ (p + 1074).toNat) + 2 ^ a ∧ 2 * (M * 2 ^ (p + 1074).toNat) ≤ 2 * (K * 2 ^ a) + 2 ^ a := by
  have hl2 := (Nat.log2_eq_iff hM).1 rfl
  obtain ⟨la, hla⟩ : ∃ la : Int, la = max (p + (M.log2 : Int) - F64.fractionBits) F64.leastPlace := ⟨_, rfl⟩
  have hla2 : la = max (p + (M.log2 : Int) - 52) (-1074) := by rw [hla, f_least, show F64.fractionBits = 52 from rfl]; omega
  obtain ⟨K, hK⟩ : ∃ K, K = Ieee.Toward.even.cut false (M <<< (p - la).toNat) (la - p).toNat := ⟨_, rfl⟩
  have er : rungOf M p = min ((la + 1074).toNat * 2 ^ 52 + K) (2047 * 2 ^ 52) := by
    unfold rungOf
    rw [if_neg hM, ← hla, ← hK, f_inf, f_binade, f_least, show (la - -1074).toNat = (la + 1074).toNat by omega]
  have ch := cut_half false (M <<< (p - la).toNat) (la - p).toNat
  rw [← hK, Nat.shiftLeft_eq] at ch
  have hg : 0 < 2 ^ (la - p).toNat := Nat.pow_pos (by decide)
  have hup : M * 2 ^ (p - la).toNat < 2 ^ 53 * 2 ^ (la - p).toNat := by
    rw [← Nat.pow_add]
    calc M * 2 ^ (p - la).toNat < 2 ^ (M.log2 + 1) * 2 ^ (p - la).toNat := Nat.mul_lt_mul_of_pos_right hl2.2 (Nat.pow_pos (by decide))
      _ = 2 ^ (M.log2 + 1 + (p - la).toNat) := (Nat.pow_add _ _ _).symm
      _ ≤ 2 ^ (53 + (la - p).toNat) := Nat.pow_le_pow_right (by decide) (by omega)
  have hdn : -1074 < la → 2 ^ 52 * 2 ^ (la - p).toNat ≤ M * 2 ^ (p - la).toNat := fun q => by
    rw [← Nat.pow_add]
    calc 2 ^ (52 + (la - p).toNat) ≤ 2 ^ (M.log2 + (p - la).toNat) := Nat.pow_le_pow_right (by decide) (by omega)
      _ = 2 ^ M.log2 * 2 ^ (p - la).toNat := Nat.pow_add _ _ _
      _ ≤ M * 2 ^ (p - la).toNat := Nat.mul_le_mul_right _ hl2.1
  have hK1 : K ≤ 2 ^ 53 := by
    generalize 2 ^ (la - p).toNat = g at *
    generalize M * 2 ^ (p - la).toNat = n at *
    rcases Nat.lt_or_ge (2 ^ 53) K with q | q
    · have := Nat.mul_le_mul_right g (show 2 ^ 53 + 1 ≤ K from q)
      rw [Nat.add_mul, Nat.one_mul] at this
      generalize K * g = kg at *
      omega
    · exact q
  have hK2 : -1074 < la → 2 ^ 52 ≤ K := fun q => by
    have := hdn q
    generalize 2 ^ (la - p).toNat = g at *
    generalize M * 2 ^ (p - la).toNat = n at *
    rcases Nat.lt_or_ge K (2 ^ 52) with q | q
    · have := Nat.mul_le_mul_right g (show K + 1 ≤ 2 ^ 52 from q)
      rw [Nat.add_mul, Nat.one_mul] at this
      generalize K * g = kg at *
      omega
    · exact q
  obtain ⟨c, hc⟩ : ∃ c : Nat, c = (min p la + 1074).toNat := ⟨_, rfl⟩
  obtain ⟨a, ha⟩ : ∃ a : Nat, a = (la + 1074).toNat := ⟨_, rfl⟩
  have e1 : (p - la).toNat + c = (p + 1074).toNat := by omega
  have e2 : (la - p).toNat + c = a := by omega
  have ha2 : 0 < a → 2 ^ 52 ≤ K := fun q => hK2 (by omega)
  rw [← ha] at er
  clear hdn hup hK2
  have hv : rungVal (a * 2 ^ 52 + K) = K * 2 ^ a := by
    unfold rungVal
    by_cases q : 0 < a
    · have := ha2 q
      rw [if_neg (by omega)]
      by_cases q2 : K = 2 ^ 53
      · rw [show (a * 2 ^ 52 + K) % 2 ^ 52 = 0 by omega, show (a * 2 ^ 52 + K) / 2 ^ 52 - 1 = a + 1 by omega, q2, Nat.add_zero, Nat.pow_succ 2 a, Nat.mul_comm (2 ^ a) 2, ← Nat.mul_assoc]
      · rw [show (a * 2 ^ 52 + K) % 2 ^ 52 = K - 2 ^ 52 by omega, show (a * 2 ^ 52 + K) / 2 ^ 52 - 1 = a by omega, show 2 ^ 52 + (K - 2 ^ 52) = K by omega]
    · rw [show a = 0 by omega]
      simp only [Nat.zero_mul, Nat.zero_add, Nat.pow_zero, Nat.mul_one]
      split
      · rfl
      · by_cases q2 : K = 2 ^ 53
        · rw [q2]
        · rw [show K / 2 ^ 52 - 1 = 0 by omega, Nat.pow_zero, Nat.mul_one]; omega
  refine ⟨K, a, er, hv, hK1, ha2, ?_, ?_⟩
  · have := Nat.mul_le_mul_right (2 ^ c) ch.1
    rw [Nat.add_mul, Nat.mul_assoc, Nat.mul_assoc, Nat.mul_assoc, Nat.mul_assoc, ← Nat.pow_add, ← Nat.pow_add, e1, e2] at this
    exact this
  · have := Nat.mul_le_mul_right (2 ^ c) ch.2
    rw [Nat.add_mul, Nat.mul_assoc, Nat.mul_assoc, Nat.mul_assoc, Nat.mul_assoc, ← Nat.pow_add, ← Nat.pow_add, e1, e2] at this
    exact this
theorem key_inf : key (F64.word false (2047 * 2 ^ 52)) = 2 ^ bigE := by
  have : F64.read (F64.word false (2047 * 2 ^ 52)) = .infinity false := by decide
  unfold key; rw [this]; rfl
/-- What could be written exactly and is not above the number is not above what is written of it. -/
theorem nearest_low {M m : Nat} {p i : Int} {x : Nat} (hM : M ≠ 0) (hp : -1074 ≤ p) (hx : F64.read x = .number false m i) (h : m * 2 ^ (i + 1074).toNat ≤ M * 2 ^ (p + 1074).toNat) : key x ≤ key (F64.nearest false M p) := by
  obtain ⟨K, a, h1, h2, h3, h4, h5, h6⟩ := rung_val hM hp
  have hm := read_mag hx
  obtain ⟨i1, i2⟩ := read_place hx
  have hkx : key x = ((m * 2 ^ (i + 1074).toNat : Nat) : Int) := by
    unfold key; rw [hx]
    show Ieee.signed false m _ = _
    rw [signed_shift]; rfl
  rw [nearest_eq, h1]
  by_cases hr : a * 2 ^ 52 + K < 2047 * 2 ^ 52
  · rw [Nat.min_eq_left (Nat.le_of_lt hr), (key_word hr).1, h2, hkx]
    have : m * 2 ^ (i + 1074).toNat ≤ K * 2 ^ a := by
      by_cases hi : a ≤ (i + 1074).toNat
      · obtain ⟨d, hd⟩ : ∃ d, (i + 1074).toNat = d + a := ⟨(i + 1074).toNat - a, by omega⟩
        rw [hd, Nat.pow_add, ← Nat.mul_assoc] at h ⊢
        have hg : 0 < 2 ^ a := Nat.two_pow_pos a
        generalize m * 2 ^ d = q at *
        generalize M * 2 ^ (p + 1074).toNat = V at *
        generalize 2 ^ a = g at *
        rcases Nat.lt_or_ge K q with hlt | hge
        · have h7 := Nat.mul_le_mul_right g hlt
          have h8 : (K + 1) * g = K * g + g := by rw [Nat.add_mul, Nat.one_mul]
          rw [show K.succ = K + 1 from rfl, h8] at h7
          generalize K * g = kg at *
          generalize q * g = qg at *
          omega
        · exact Nat.mul_le_mul_right g hge
      · have hK := h4 (by omega)
        have h7 : m * 2 ^ (i + 1074).toNat ≤ 2 ^ 53 * 2 ^ (i + 1074).toNat := Nat.mul_le_mul_right _ (Nat.le_of_lt hm)
        have h8 : 2 ^ 53 * 2 ^ (i + 1074).toNat ≤ 2 ^ 52 * 2 ^ a := by
          rw [← Nat.pow_add, ← Nat.pow_add]
          exact Nat.pow_le_pow_right (by decide) (by omega)
        exact Nat.le_trans h7 (Nat.le_trans h8 (Nat.mul_le_mul_right _ hK))
    simp only [Bool.false_eq_true, if_false]
    omega
  · rw [Nat.min_eq_right (by omega), key_inf]
    have := (key_bound hx).2
    unfold key; rw [hx]
    exact Int.le_of_lt this
end Go.Proofs.YtfjflbapojgbhaaGreatDoor.N

/- WeighOrder, WeighSums: the plain laws. Conditions: none. -/
namespace Go.Proofs.YtfjflbapojgbhaaGreatDoor.N
open Go.X Go.Proofs.YtfjflbapojgbhaaGreatDoor
set_option maxRecDepth 100000
set_option maxHeartbeats 1000000

end Go.Proofs.YtfjflbapojgbhaaGreatDoor.N

/- WeighAll: the plain law. Conditions: none. -/
namespace Go.Proofs.YtfjflbapojgbhaaGreatDoor.N
open Go.X Go.Proofs.YtfjflbapojgbhaaGreatDoor
set_option maxRecDepth 100000
set_option maxHeartbeats 1000000

end Go.Proofs.YtfjflbapojgbhaaGreatDoor.N
