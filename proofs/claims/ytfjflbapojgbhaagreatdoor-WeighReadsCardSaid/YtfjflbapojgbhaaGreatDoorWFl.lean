/- Floats, as numbers: order by keys, rounding, what can be written exactly. Conditions: none. -/
import Derived.Test.YtfjflbapojgbhaaGreatDoorWBr
namespace Go.Proofs.YtfjflbapojgbhaaGreatDoor.N
open Go.X Go.Proofs.YtfjflbapojgbhaaGreatDoor
set_option maxRecDepth 100000

def isNaN (x : Nat) : Bool := (FloatKind.f64.format.read x).isNaN
abbrev F64 : Ieee.Format := FloatKind.f64.format
theorem order_self (x : Nat) : F64.order x x = if isNaN x then none else some .eq := by
  unfold Ieee.Format.order isNaN Ieee.Datum.order Ieee.Datum.isNaN
  cases F64.read x with
  | nan s t => simp
  | infinity s => simp [Std.compare_self] <;> cases s <;> rfl
  | number s m i => simp [Std.compare_self]
theorem order_ne (x : Nat) : (F64.order x x != some .eq) = isNaN x := by
  rw [order_self]; cases isNaN x <;> rfl
theorem order_eq (x : Nat) : (F64.order x x == some .eq) = !isNaN x := by
  rw [order_self]; cases isNaN x <;> rfl
def nanC : Nat := 9221120237041090561
theorem nanC_nan : isNaN nanC = true := by decide
/-- An operation's answer, the NaN being the one. -/
def fop (r : Option Nat) : Nat := r.getD nanC
def subM (a b : Nat) : Nat := fop (F64.sub a b)
def mulM (a b : Nat) : Nat := fop (F64.mul a b)
def divM (a b : Nat) : Nat := fop (F64.div a b)
def absM (x : Nat) : Nat := (bits .andNot .u64 (x : Int) (9223372036854775808 : Int)).toNat
theorem f_least : F64.leastPlace = -1074 := by decide
theorem f_binade : F64.binade = 2 ^ 52 := by decide
theorem f_inf : F64.infRung = 2047 * 2 ^ 52 := by decide
theorem f_sign : F64.signWeight = 2 ^ 63 := by decide
theorem absM_eq (x : Nat) : absM x = x % 2 ^ 63 := by
  unfold absM bits
  have hk : IntKind.u64.bits = 64 := rfl
  have e1 : (BitVec.ofInt IntKind.u64.bits (x : Int) &&& ~~~(BitVec.ofInt IntKind.u64.bits (9223372036854775808 : Int))).toNat = x % 2 ^ 63 := by
    rw [BitVec.toNat_and]
    have h1 : (BitVec.ofInt IntKind.u64.bits (x : Int)).toNat = x % 2 ^ 64 := by
      rw [BitVec.toNat_ofInt, hk]; omega
    have h2 : (~~~(BitVec.ofInt IntKind.u64.bits (9223372036854775808 : Int))).toNat = 2 ^ 63 - 1 := by decide
    rw [h1, h2, Nat.and_two_pow_sub_one_eq_mod]
    omega
  have e2 : (BitVec.ofInt IntKind.u64.bits (x : Int) &&& ~~~(BitVec.ofInt IntKind.u64.bits (9223372036854775808 : Int))).toNat < 2 ^ 63 := by rw [e1]; exact Nat.mod_lt _ (by decide)
  simp only
  rw [e1] at *
  unfold IntKind.wrap
  have h3 : IntKind.u64.signed = false := rfl
  simp [hk, h3]
  omega
theorem read_place {x : Nat} {s : Bool} {m : Nat} {i : Int} (h : F64.read x = .number s m i) : -1074 ≤ i ∧ i ≤ 971 := by
  unfold Ieee.Format.read at h
  simp only [f_binade, f_sign, f_least, f_inf] at h
  split at h
  · cases h; omega
  · split at h
    · rename_i q
      cases h
      have : x % 2 ^ 63 / 2 ^ 52 < 2047 := Nat.div_lt_of_lt_mul (by omega)
      omega
    · split at h <;> cases h
def bigE : Nat := 3000
def keyD : Ieee.Datum → Int
  | .number s m i => Ieee.signed s m (i + 1074).toNat
  | .infinity s => if s then -(2 ^ bigE) else 2 ^ bigE
  | .nan _ _ => 0
def key (x : Nat) : Int := keyD (F64.read x)
theorem signed_mul (s : Bool) (m a b : Nat) : Ieee.signed s m (a + b) = Ieee.signed s m a * ((2 ^ b : Nat) : Int) := by
  unfold Ieee.signed
  simp only [Nat.shiftLeft_eq, Nat.pow_add]
  cases s <;> simp [Int.mul_assoc, Int.neg_mul]
theorem big_pos : (0 : Int) < 2 ^ bigE := Int.pow_pos (by decide)
/-- Nought alone stands at nought. -/
theorem key_rung {x : Nat} (hn : isNaN x = false) (h : key x = 0) : x % 2 ^ 63 = 0 := by
  have hn' : (F64.read x).isNaN = false := hn
  unfold key Ieee.Format.read at h
  unfold Ieee.Format.read at hn'
  simp only [f_binade, f_sign, f_least, f_inf] at h hn'
  have sh : ∀ (s : Bool) (m a : Nat), Ieee.signed s m a = 0 → m = 0 := fun s m a q => by
    unfold Ieee.signed at q
    have q2 : m <<< a = 0 := by cases s <;> simp at q <;> simpa using q
    rw [Nat.shiftLeft_eq] at q2
    have := Nat.pow_pos (n := a) (show 0 < 2 by decide)
    rcases Nat.mul_eq_zero.1 q2 with q3 | q3 <;> omega
  split at h
  · exact sh _ _ _ h
  · rename_i q
    split at h
    · have := sh _ _ _ h; omega
    · split at h
      · have hP := big_pos
        simp only [keyD] at h
        generalize (2 : Int) ^ bigE = w at *
        generalize (x / 2 ^ 63 % 2 == 1) = sg at h
        cases sg
        · simp only [Bool.false_eq_true, if_false] at h; omega
        · simp only [if_true] at h; omega
      · rename_i q2 q3
        rw [if_neg q, if_neg q2, if_neg q3] at hn'
        simp [Ieee.Datum.isNaN] at hn'
def absD : Ieee.Datum → Ieee.Datum
  | .number _ m i => .number false m i
  | .infinity _ => .infinity false
  | .nan _ t => .nan false t
theorem cut_even (s : Bool) (n d : Nat) : Ieee.Toward.even.cut s n d = Ieee.Toward.even.cut false n d := rfl
def rungOf (m : Nat) (i : Int) : Nat :=
  if m = 0 then 0 else
  min ((max (i + m.log2 - F64.fractionBits) F64.leastPlace - F64.leastPlace).toNat * F64.binade + Ieee.Toward.even.cut false (m <<< (i - max (i + m.log2 - F64.fractionBits) F64.leastPlace).toNat) (max (i + m.log2 - F64.fractionBits) F64.leastPlace - i).toNat) F64.infRung
theorem nearest_eq (s : Bool) (m : Nat) (i : Int) : F64.nearest s m i = F64.word s (rungOf m i) := by
  unfold Ieee.Format.nearest rungOf
  split
  · rfl
  · simp only [cut_even s]
theorem rungOf_le (m : Nat) (i : Int) : rungOf m i ≤ 2047 * 2 ^ 52 := by
  unfold rungOf
  rw [f_inf]
  split
  · exact Nat.zero_le _
  · exact Nat.min_le_right _ _
theorem word_false (r : Nat) : F64.word false r = r := by
  unfold Ieee.Format.word; simp
theorem nearest_word (s : Bool) (m : Nat) (i : Int) : ∃ r, r ≤ 2047 * 2 ^ 52 ∧ F64.nearest s m i = F64.word s r ∧ F64.nearest false m i = r :=
  ⟨_, rungOf_le m i, nearest_eq s m i, (nearest_eq false m i).trans (word_false _)⟩
theorem word_abs {s : Bool} {r : Nat} (h : r ≤ 2047 * 2 ^ 52) : absM (F64.word s r) = r := by
  rw [absM_eq]
  unfold Ieee.Format.word
  rw [f_sign]
  cases s
  · simp; omega
  · simp; omega
theorem abs_write {d : Ieee.Datum} (h : d.isNaN = false) : absM (F64.write d) = F64.write (absD d) := by
  cases d with
  | nan s t => simp [Ieee.Datum.isNaN] at h
  | infinity s =>
    show absM (F64.word s F64.infRung) = F64.word false F64.infRung
    rw [word_abs (by rw [f_inf]; omega)]; rfl
  | number s m i =>
    obtain ⟨r, h1, h2, h3⟩ := nearest_word s m i
    show absM (F64.nearest s m i) = F64.nearest false m i
    rw [h2, h3, word_abs h1]
theorem pos_mul {a b : Nat} (h : 1 ≤ a) (hb : 0 < b) : 0 < a * b := Nat.mul_pos h hb
theorem nearest_pos {m : Nat} {i : Int} (hm : m ≠ 0) (hi : -1074 ≤ i) : F64.nearest false m i ≠ 0 := by
  rw [nearest_eq, word_false]
  unfold rungOf
  rw [if_neg hm, f_least, show F64.fractionBits = 52 from rfl]
  have hI : 0 < F64.infRung := by decide
  have hB : 0 < F64.binade := by decide
  generalize F64.infRung = I at *
  generalize F64.binade = B at *
  generalize (m.log2 : Int) = lg
  by_cases hc : i + lg - ((52 : Nat) : Int) ≤ -1074
  · have e : max (i + lg - ((52 : Nat) : Int)) (-1074) = -1074 := by omega
    rw [e, show ((-1074 : Int) - i).toNat = 0 by omega]
    have ec : ∀ n, Ieee.Toward.even.cut false n 0 = n := fun n => by
      simp [Ieee.Toward.cut, Nat.mod_one]
    rw [ec]
    have h1 : 0 < m <<< (i - -1074).toNat := by
      rw [Nat.shiftLeft_eq]
      exact Nat.mul_pos (by omega) (Nat.pow_pos (by decide))
    generalize m <<< (i - -1074).toNat = z at *
    generalize ((-1074 : Int) - -1074).toNat * B = y
    omega
  · have e : max (i + lg - ((52 : Nat) : Int)) (-1074) = i + lg - ((52 : Nat) : Int) := by omega
    rw [e]
    have h1 : 0 < (i + lg - ((52 : Nat) : Int) - -1074).toNat * B := pos_mul (by omega) hB
    generalize (i + lg - ((52 : Nat) : Int) - -1074).toNat * B = z at *
    generalize Ieee.Toward.even.cut false _ _ = y
    omega
theorem sum_zero {d e a : Ieee.Datum} (h : d.sum e.opposite = some a) (hz : absM (F64.write a) = 0) (pd : ∀ s m i, d = .number s m i → -1074 ≤ i) (pe : ∀ s m i, e = .number s m i → -1074 ≤ i) : keyD d = keyD e := by
  have inf_no : ∀ s, absM (F64.write (.infinity s)) ≠ 0 := fun s => by
    rw [abs_write rfl]
    show F64.word false F64.infRung ≠ 0
    rw [word_false]; decide
  cases d with
  | nan s t => cases e <;> simp [Ieee.Datum.sum] at h
  | infinity s =>
    cases e with
    | nan t u => simp [Ieee.Datum.sum, Ieee.Datum.opposite] at h
    | infinity t =>
      simp only [Ieee.Datum.sum, Ieee.Datum.opposite] at h
      split at h
      · cases h; exact absurd hz (inf_no _)
      · cases h
    | number t n j =>
      simp only [Ieee.Datum.sum, Ieee.Datum.opposite] at h
      cases h; exact absurd hz (inf_no _)
  | number s m i =>
    cases e with
    | nan t u => simp [Ieee.Datum.sum, Ieee.Datum.opposite] at h
    | infinity t =>
      simp only [Ieee.Datum.sum, Ieee.Datum.opposite] at h
      cases h; exact absurd hz (inf_no _)
    | number t n j =>
      have pa := pd _ _ _ rfl
      have pb := pe _ _ _ rfl
      simp only [keyD]
      have e1 : (i + 1074).toNat = (i - min i j).toNat + (min i j + 1074).toNat := by omega
      have e2 : (j + 1074).toNat = (j - min i j).toNat + (min i j + 1074).toNat := by omega
      rw [e1, e2, signed_mul, signed_mul]
      simp only [Ieee.Datum.sum, Ieee.Datum.opposite] at h
      have h := (Option.some.inj h).symm
      subst h
      rw [abs_write rfl] at hz
      have hz : F64.nearest false _ _ = 0 := hz
      have so : ∀ (s : Bool) (m a : Nat), Ieee.signed (!s) m a = -Ieee.signed s m a := fun s m a => by cases s <;> simp [Ieee.signed]
      rw [so] at hz
      generalize Ieee.signed s m _ = a at *
      generalize Ieee.signed t n _ = b at *
      by_cases hab : (a + -b).natAbs = 0
      · rw [show a = b by omega]
      · exact absurd hz (nearest_pos hab (by omega))
/-- Nothing between: just the same are nought apart. -/
theorem sub_zero {x y : Nat} (hn : isNaN (subM x y) = false) (hk : key (subM x y) = 0) : key x = key y := by
  have hr := key_rung hn hk
  rw [← absM_eq] at hr
  cases hs : (F64.read x).sum (F64.read y).opposite with
  | none =>
    have e : subM x y = nanC := by unfold subM Ieee.Format.sub; rw [hs]; rfl
    rw [e, nanC_nan] at hn; cases hn
  | some a =>
    have e : subM x y = F64.write a := by unfold subM Ieee.Format.sub; rw [hs]; rfl
    rw [e] at hr
    exact sum_zero hs hr (fun s m i q => (read_place q).1) (fun s m i q => (read_place q).1)

theorem signed_shift (s : Bool) (m a : Nat) : Ieee.signed s m a = if s then -((m * 2 ^ a : Nat) : Int) else ((m * 2 ^ a : Nat) : Int) := by
  unfold Ieee.signed; rw [Nat.shiftLeft_eq]
/-- What a rung stands for. -/
def rungVal (r : Nat) : Nat := if r < 2 ^ 52 then r else (2 ^ 52 + r % 2 ^ 52) * 2 ^ (r / 2 ^ 52 - 1)
theorem read_word {s : Bool} {r : Nat} (h : r < 2047 * 2 ^ 52) : F64.read (F64.word s r) = if r < 2 ^ 52 then .number s r (-1074) else .number s (2 ^ 52 + r % 2 ^ 52) (-1074 + (r / 2 ^ 52 - 1 : Nat)) := by
  have e1 : F64.word s r / 2 ^ 63 % 2 = (if s then 1 else 0) ∧ F64.word s r % 2 ^ 63 = r := by
    unfold Ieee.Format.word
    rw [f_sign]
    cases s
    · simp only [Bool.false_eq_true, if_false]; omega
    · simp only [if_true]; omega
  unfold Ieee.Format.read
  simp only [f_sign, f_binade, f_least, f_inf]
  rw [e1.1, e1.2, if_pos h]
  cases s <;> rfl
theorem key_word {s : Bool} {r : Nat} (h : r < 2047 * 2 ^ 52) : key (F64.word s r) = (if s then -((rungVal r : Nat) : Int) else ((rungVal r : Nat) : Int)) ∧ isNaN (F64.word s r) = false := by
  have hN : isNaN (F64.word s r) = (F64.read (F64.word s r)).isNaN := rfl
  unfold key
  rw [hN, read_word h]
  unfold rungVal
  split
  · refine ⟨?_, rfl⟩
    simp only [keyD, signed_shift]
    simp
  · refine ⟨?_, rfl⟩
    simp only [keyD, signed_shift]
    rw [show (-1074 + ((r / 2 ^ 52 - 1 : Nat) : Int) + 1074).toNat = r / 2 ^ 52 - 1 by omega]
def negM (x : Nat) : Nat := Op.negFloat .f64 x
theorem xor_par (q : Nat) : ((q ^^^ 1) % 2 == 1) = !(q % 2 == 1) := by
  have := Nat.xor_mod_two_pow (a := q) (b := 1) (n := 1)
  rw [Nat.pow_one] at this
  rw [this]
  rcases Nat.mod_two_eq_zero_or_one q with h | h
  · rw [h]; rfl
  · rw [h]; rfl
theorem read_neg (x : Nat) : F64.read (negM x) = (F64.read x).opposite := by
  have e0 : negM x = x ^^^ 2 ^ 63 := rfl
  have h1 : (x ^^^ 2 ^ 63) % 2 ^ 63 = x % 2 ^ 63 := by
    rw [Nat.xor_mod_two_pow, Nat.mod_self, Nat.xor_zero]
  have h2 : (x ^^^ 2 ^ 63) / 2 ^ 63 = x / 2 ^ 63 ^^^ 1 := by
    rw [Nat.xor_div_two_pow]
  rw [e0]
  unfold Ieee.Format.read
  simp only [f_binade, f_sign, f_least, f_inf]
  rw [h1, h2, xor_par]
  split
  · rfl
  · split
    · rfl
    · split <;> rfl
theorem nan_neg (x : Nat) : isNaN (negM x) = isNaN x := by
  have a : isNaN (negM x) = (F64.read (negM x)).isNaN := rfl
  have b : isNaN x = (F64.read x).isNaN := rfl
  rw [a, b, read_neg]
  cases F64.read x <;> rfl
theorem nn_word {s : Bool} {r : Nat} (h : r ≤ 2047 * 2 ^ 52) : isNaN (F64.word s r) = false := by
  by_cases hr : r < 2047 * 2 ^ 52
  · exact (key_word hr).2
  · have : r = 2047 * 2 ^ 52 := by omega
    subst this
    cases s <;> decide
theorem nn_nearest (s : Bool) (m : Nat) (i : Int) : isNaN (F64.nearest s m i) = false := by
  obtain ⟨r, hr, e, _⟩ := nearest_word s m i
  rw [e]; exact nn_word hr
theorem nn_write {d : Ieee.Datum} (h : d.isNaN = false) : isNaN (F64.write d) = false := by
  cases d with
  | nan s t => simp [Ieee.Datum.isNaN] at h
  | infinity s => cases s <;> decide
  | number s m i => exact nn_nearest s m i
theorem read_cases {a : Nat} (h : isNaN a = false) : (∃ s, F64.read a = .infinity s) ∨ ∃ s m i, F64.read a = .number s m i := by
  unfold isNaN at h
  cases hr : F64.read a with
  | nan s t => rw [show FloatKind.f64.format.read a = .nan s t from hr] at h; simp [Ieee.Datum.isNaN] at h
  | infinity s => exact .inl ⟨s, rfl⟩
  | number s m i => exact .inr ⟨s, m, i, rfl⟩
theorem mul_some {a b n : Nat} {t : Bool} {j : Int} (ha : isNaN a = false) (hb : F64.read b = .number t n j) (hn : n ≠ 0) : F64.mul a b = some (mulM a b) ∧ isNaN (mulM a b) = false := by
  have : ∃ d, (F64.read a).product (F64.read b) = some d ∧ d.isNaN = false := by
    rcases read_cases ha with ⟨s, e⟩ | ⟨s, m, i, e⟩
    · rw [e, hb]; exact ⟨_, if_neg hn, rfl⟩
    · rw [e, hb]; exact ⟨_, rfl, rfl⟩
  obtain ⟨d, e, hd⟩ := this
  have e2 : F64.mul a b = some (F64.write d) := by unfold Ieee.Format.mul; rw [e]; rfl
  unfold mulM; rw [e2]
  exact ⟨rfl, nn_write hd⟩
theorem div_some {a b n : Nat} {t : Bool} {j : Int} (ha : isNaN a = false) (hb : F64.read b = .number t n j) (hn : n ≠ 0) : F64.div a b = some (divM a b) ∧ isNaN (divM a b) = false := by
  have : ∃ d, Ieee.Datum.quotient (F64.fractionBits + 2) (F64.read a) (F64.read b) = some d ∧ d.isNaN = false := by
    rcases read_cases ha with ⟨s, e⟩ | ⟨s, m, i, e⟩
    · rw [e, hb]; exact ⟨_, rfl, rfl⟩
    · rw [e, hb]; exact ⟨_, if_neg hn, rfl⟩
  obtain ⟨d, e, hd⟩ := this
  have e2 : F64.div a b = some (F64.write d) := by unfold Ieee.Format.div; rw [e]; rfl
  unfold divM; rw [e2]
  exact ⟨rfl, nn_write hd⟩
end Go.Proofs.YtfjflbapojgbhaaGreatDoor.N
