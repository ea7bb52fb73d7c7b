/- Floats in order: one whole number tells where a float stands; differences. Conditions: none. -/
import Derived.Test.YtmcloipjlihhlaaNMoved
namespace Go.Proofs.Ytmcloipjlihhlaa.N
open Go.X Go.Proofs.Ytmcloipjlihhlaa
set_option maxRecDepth 100000

theorem f_least : F64.leastPlace = -1074 := by decide
theorem f_binade : F64.binade = 2 ^ 52 := by decide
theorem f_inf : F64.infRung = 2047 * 2 ^ 52 := by decide
theorem f_sign : F64.signWeight = 2 ^ 63 := by decide
theorem read_place {x : Nat} {s : Bool} {m : Nat} {i : Int} (h : F64.read x = .number s m i) : -1074 ≤ i ∧ i ≤ 971 := by
  unfold Ieee.Format.read at h
  simp only [f_binade, f_sign, f_least, f_inf] at h
  split at h
  · cases h; omega
  · split at h
    · rename_i q
      cases h
      have : x % 2 ^ 63 / 2 ^ 52 < 2047 := Nat.div_lt_of_lt_mul (by omega)
      omega
    · split at h <;> cases h
def bigE : Nat := 3000
theorem bigE_ge : 2100 ≤ bigE := by decide
def keyD : Ieee.Datum → Int
  | .number s m i => Ieee.signed s m (i + 1074).toNat
  | .infinity s => if s then -(2 ^ bigE) else 2 ^ bigE
  | .nan _ _ => 0
def key (x : Nat) : Int := keyD (F64.read x)
theorem signed_mul (s : Bool) (m a b : Nat) : Ieee.signed s m (a + b) = Ieee.signed s m a * ((2 ^ b : Nat) : Int) := by
  unfold Ieee.signed
  simp only [Nat.shiftLeft_eq, Nat.pow_add]
  cases s <;> simp [Int.mul_assoc, Int.neg_mul]
theorem compare_mul (x y : Int) (p : Nat) (hp : 0 < p) : compare (x * p) (y * p) = compare x y := by
  have hp' : (0 : Int) < p := by omega
  rcases Int.lt_trichotomy x y with h | h | h
  · rw [Std.compare_eq_lt.2 h, Std.compare_eq_lt.2 (Int.mul_lt_mul_of_pos_right h hp')]
  · rw [h, Std.compare_self, Std.compare_self]
  · rw [Std.compare_eq_gt.2 h, Std.compare_eq_gt.2 (Int.mul_lt_mul_of_pos_right h hp')]
theorem shift_lt {m a : Nat} (h1 : m < 2 ^ 53) (h2 : a ≤ 2045) : m * 2 ^ a < 2 ^ bigE := by
  have h3 : m * 2 ^ a < 2 ^ 53 * 2 ^ a := Nat.mul_lt_mul_of_pos_right h1 (Nat.pow_pos (by decide))
  rw [← Nat.pow_add] at h3
  exact Nat.lt_of_lt_of_le h3 (Nat.pow_le_pow_right (by decide) (by have := bigE_ge; omega))
theorem key_bound {x : Nat} {s : Bool} {m : Nat} {i : Int} (h : F64.read x = .number s m i) : -(2 ^ bigE) < Ieee.signed s m (i + 1074).toNat ∧ Ieee.signed s m (i + 1074).toNat < 2 ^ bigE := by
  have h1 := read_mag h
  have h2 := read_place h
  have h3 : m <<< (i + 1074).toNat < 2 ^ bigE := by
    rw [Nat.shiftLeft_eq]
    exact shift_lt h1 (Nat.le_of_lt_succ (by omega))
  have h5 : ((m <<< (i + 1074).toNat : Nat) : Int) < 2 ^ bigE := by
    have := Int.ofNat_lt.2 h3
    rw [Int.natCast_pow] at this
    exact this
  have h6 : (0 : Int) ≤ ((m <<< (i + 1074).toNat : Nat) : Int) := Int.natCast_nonneg _
  unfold Ieee.signed
  generalize ((m <<< (i + 1074).toNat : Nat) : Int) = z at *
  generalize (2 : Int) ^ bigE = w at *
  cases s
  · simp only [Bool.false_eq_true, if_false]; omega
  · simp only [if_true]; omega
theorem big_pos : (0 : Int) < 2 ^ bigE := Int.pow_pos (by decide)
theorem order_key {a b : Nat} (ha : isNaN a = false) (hb : isNaN b = false) : F64.order a b = some (compare (key a) (key b)) := by
  have ha' : (F64.read a).isNaN = false := ha
  have hb' : (F64.read b).isNaN = false := hb
  have hP := big_pos
  unfold Ieee.Format.order key
  cases hra : F64.read a with
  | nan s t => rw [hra] at ha'; simp [Ieee.Datum.isNaN] at ha'
  | infinity s =>
    cases hrb : F64.read b with
    | nan t u => rw [hrb] at hb'; simp [Ieee.Datum.isNaN] at hb'
    | infinity t =>
      simp only [Ieee.Datum.order, keyD]
      generalize (2 : Int) ^ bigE = w at *
      cases s <;> cases t
      · simp [Std.compare_self]
      · simp only [Bool.false_eq_true, if_false, if_true]; rw [Std.compare_eq_gt.2 (show -w < w by omega)]; rfl
      · simp only [Bool.false_eq_true, if_false, if_true]; rw [Std.compare_eq_lt.2 (show -w < w by omega)]; rfl
      · simp [Std.compare_self]
    | number t n j =>
      have kb := key_bound hrb
      simp only [Ieee.Datum.order, keyD]
      generalize (2 : Int) ^ bigE = w at *
      cases s
      · simp only [Bool.false_eq_true, if_false]; rw [Std.compare_eq_gt.2 kb.2]
      · simp only [if_true]; rw [Std.compare_eq_lt.2 kb.1]
  | number s m i =>
    have ka := key_bound hra
    have pa := read_place hra
    cases hrb : F64.read b with
    | nan t u => rw [hrb] at hb'; simp [Ieee.Datum.isNaN] at hb'
    | infinity t =>
      simp only [Ieee.Datum.order, keyD]
      generalize (2 : Int) ^ bigE = w at *
      cases t
      · simp only [Bool.false_eq_true, if_false]; rw [Std.compare_eq_lt.2 ka.2]
      · simp only [if_true]; rw [Std.compare_eq_gt.2 ka.1]
    | number t n j =>
      have pb := read_place hrb
      simp only [Ieee.Datum.order, keyD]
      have e1 : (i + 1074).toNat = (i - min i j).toNat + (min i j + 1074).toNat := by omega
      have e2 : (j + 1074).toNat = (j - min i j).toNat + (min i j + 1074).toNat := by omega
      rw [e1, e2, signed_mul, signed_mul, compare_mul _ _ _ (Nat.pow_pos (by decide))]
theorem order_lt {a b : Nat} (ha : isNaN a = false) (hb : isNaN b = false) : (F64.order a b == some .lt) = decide (key a < key b) := by
  rw [order_key ha hb]
  rcases Int.lt_trichotomy (key a) (key b) with h | h | h
  · rw [Std.compare_eq_lt.2 h]; simp [h]
  · rw [h, Std.compare_self]; simp
  · rw [Std.compare_eq_gt.2 h]; simp; omega
theorem order_gt {a b : Nat} (ha : isNaN a = false) (hb : isNaN b = false) : (F64.order a b == some .gt) = decide (key b < key a) := by
  rw [order_key ha hb]
  rcases Int.lt_trichotomy (key a) (key b) with h | h | h
  · rw [Std.compare_eq_lt.2 h]; simp; omega
  · rw [h, Std.compare_self]; simp
  · rw [Std.compare_eq_gt.2 h]; simp [h]
theorem order_same {a b : Nat} (ha : isNaN a = false) (hb : isNaN b = false) : (F64.order a b == some .eq) = decide (key a = key b) := by
  rw [order_key ha hb]
  rcases Int.lt_trichotomy (key a) (key b) with h | h | h
  · rw [Std.compare_eq_lt.2 h]; simp; omega
  · rw [h, Std.compare_self]; simp
  · rw [Std.compare_eq_gt.2 h]; simp; omega
theorem key_zero : key 0 = 0 := by decide
theorem nan_zero : isNaN 0 = false := by decide
theorem key_abs (x : Nat) : key (absM x) = (key x).natAbs := by
  unfold key
  rw [read_abs]
  cases F64.read x with
  | nan s t => rfl
  | infinity s =>
    have hP := big_pos
    cases s
    · simp only [keyD, Bool.false_eq_true, if_false]
      generalize (2 : Int) ^ bigE = w at *
      omega
    · simp only [keyD, if_true, Bool.false_eq_true, if_false]
      generalize (2 : Int) ^ bigE = w at *
      omega
  | number s m i =>
    cases s
    · simp only [keyD, Ieee.signed, Bool.false_eq_true, if_false, Int.natAbs_natCast]
    · simp only [keyD, Ieee.signed, Bool.false_eq_true, if_false, if_true, Int.natAbs_neg, Int.natAbs_natCast]
theorem key_clean {x : Nat} (h : isNaN x = false) : key (cleanM x) = key x := by
  unfold cleanM
  rw [h, order_same h nan_zero, key_zero]
  by_cases hk : key x = 0
  · simp [hk, key_zero]
  · simp [hk]
theorem clean_nan (x : Nat) : isNaN (cleanM x) = isNaN x := by
  unfold cleanM
  by_cases h : isNaN x = true
  · rw [h]; simp; exact nanC_nan
  · have h : isNaN x = false := by simpa using h
    rw [h]
    split
    · rename_i q; simp at q
    · split
      · exact nan_zero
      · exact h
/-- Nought alone stands at nought. -/
theorem key_rung {x : Nat} (hn : isNaN x = false) (h : key x = 0) : x % 2 ^ 63 = 0 := by
  have hn' : (F64.read x).isNaN = false := hn
  unfold key Ieee.Format.read at h
  unfold Ieee.Format.read at hn'
  simp only [f_binade, f_sign, f_least, f_inf] at h hn'
  have sh : ∀ (s : Bool) (m a : Nat), Ieee.signed s m a = 0 → m = 0 := fun s m a q => by
    unfold Ieee.signed at q
    have q2 : m <<< a = 0 := by cases s <;> simp at q <;> simpa using q
    rw [Nat.shiftLeft_eq] at q2
    have := Nat.pow_pos (n := a) (show 0 < 2 by decide)
    rcases Nat.mul_eq_zero.1 q2 with q3 | q3 <;> omega
  split at h
  · exact sh _ _ _ h
  · rename_i q
    split at h
    · have := sh _ _ _ h; omega
    · split at h
      · have hP := big_pos
        simp only [keyD] at h
        generalize (2 : Int) ^ bigE = w at *
        generalize (x / 2 ^ 63 % 2 == 1) = sg at h
        cases sg
        · simp only [Bool.false_eq_true, if_false] at h; omega
        · simp only [if_true] at h; omega
      · rename_i q2 q3
        rw [if_neg q, if_neg q2, if_neg q3] at hn'
        simp [Ieee.Datum.isNaN] at hn'
end Go.Proofs.Ytmcloipjlihhlaa.N
