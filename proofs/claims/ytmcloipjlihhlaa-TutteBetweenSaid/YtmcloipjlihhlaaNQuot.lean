/- Sums of whole numbers are exact; a quotient lies between the whole numbers about it. Conditions: none. -/
import Derived.Test.YtmcloipjlihhlaaNSnaps
namespace Go.Proofs.Ytmcloipjlihhlaa.N
open Go.X Go.Proofs.Ytmcloipjlihhlaa
set_option maxRecDepth 100000

/-- What is written stands within half a place. -/
theorem nearest_val {M : Nat} {p : Int} (hM : M ≠ 0) (hp : -1074 ≤ p) (h : M.log2 + (p + 1074).toNat < 20 + uE) :
    ∃ K a : Nat, a ≤ uE ∧ (∀ s : Bool, isNaN (F64.nearest s M p) = false ∧ key (F64.nearest s M p) = if s then -((K * 2 ^ a : Nat) : Int) else ((K * 2 ^ a : Nat) : Int)) ∧ 2 * (K * 2 ^ a) ≤ 2 * (M * 2 ^ (p + 1074).toNat) + 2 ^ a ∧ 2 * (M * 2 ^ (p + 1074).toNat) ≤ 2 * (K * 2 ^ a) + 2 ^ a := by
  have hu : uE = 1074 := rfl
  have hl2 := (Nat.log2_eq_iff hM).1 rfl
  obtain ⟨la, hla⟩ : ∃ la : Int, la = max (p + (M.log2 : Int) - F64.fractionBits) F64.leastPlace := ⟨_, rfl⟩
  have hla2 : la = max (p + (M.log2 : Int) - 52) (-1074) := by rw [hla, f_least, show F64.fractionBits = 52 from rfl]; omega
  obtain ⟨K, hK⟩ : ∃ K, K = Ieee.Toward.even.cut false (M <<< (p - la).toNat) (la - p).toNat := ⟨_, rfl⟩
  have er : rungOf M p = min ((la + 1074).toNat * 2 ^ 52 + K) (2047 * 2 ^ 52) := by
    unfold rungOf
    rw [if_neg hM, ← hla, ← hK, f_inf, f_binade, f_least, show (la - -1074).toNat = (la + 1074).toNat by omega]
  have ch := cut_half false (M <<< (p - la).toNat) (la - p).toNat
  rw [← hK, Nat.shiftLeft_eq] at ch
  have hg : 0 < 2 ^ (la - p).toNat := Nat.pow_pos (by decide)
  have hup : M * 2 ^ (p - la).toNat < 2 ^ 53 * 2 ^ (la - p).toNat := by
    rw [← Nat.pow_add]
    calc M * 2 ^ (p - la).toNat < 2 ^ (M.log2 + 1) * 2 ^ (p - la).toNat := Nat.mul_lt_mul_of_pos_right hl2.2 (Nat.pow_pos (by decide))
      _ = 2 ^ (M.log2 + 1 + (p - la).toNat) := (Nat.pow_add _ _ _).symm
      _ ≤ 2 ^ (53 + (la - p).toNat) := Nat.pow_le_pow_right (by decide) (by omega)
  have hdn : -1074 < la → 2 ^ 52 * 2 ^ (la - p).toNat ≤ M * 2 ^ (p - la).toNat := fun q => by
    rw [← Nat.pow_add]
    calc 2 ^ (52 + (la - p).toNat) ≤ 2 ^ (M.log2 + (p - la).toNat) := Nat.pow_le_pow_right (by decide) (by omega)
      _ = 2 ^ M.log2 * 2 ^ (p - la).toNat := Nat.pow_add _ _ _
      _ ≤ M * 2 ^ (p - la).toNat := Nat.mul_le_mul_right _ hl2.1
  have hK1 : K ≤ 2 ^ 53 := by
    generalize 2 ^ (la - p).toNat = g at *
    generalize M * 2 ^ (p - la).toNat = n at *
    rcases Nat.lt_or_ge (2 ^ 53) K with q | q
    · have := Nat.mul_le_mul_right g (show 2 ^ 53 + 1 ≤ K from q)
      rw [Nat.add_mul, Nat.one_mul] at this
      generalize K * g = kg at *
      omega
    · exact q
  have hK2 : -1074 < la → 2 ^ 52 ≤ K := fun q => by
    have := hdn q
    generalize 2 ^ (la - p).toNat = g at *
    generalize M * 2 ^ (p - la).toNat = n at *
    rcases Nat.lt_or_ge K (2 ^ 52) with q | q
    · have := Nat.mul_le_mul_right g (show K + 1 ≤ 2 ^ 52 from q)
      rw [Nat.add_mul, Nat.one_mul] at this
      generalize K * g = kg at *
      omega
    · exact q
  obtain ⟨c, hc⟩ : ∃ c : Nat, c = (min p la + 1074).toNat := ⟨_, rfl⟩
  obtain ⟨a, ha⟩ : ∃ a : Nat, a = (la + 1074).toNat := ⟨_, rfl⟩
  have e1 : (p - la).toNat + c = (p + 1074).toNat := by omega
  have e2 : (la - p).toNat + c = a := by omega
  have ha1 : a ≤ uE := by omega
  have ha2 : 0 < a → 2 ^ 52 ≤ K := fun q => hK2 (by omega)
  rw [← ha] at er
  clear hdn hup hK2
  have hv : rungVal (a * 2 ^ 52 + K) = K * 2 ^ a := by
    unfold rungVal
    by_cases q : 0 < a
    · have := ha2 q
      rw [if_neg (by omega)]
      by_cases q2 : K = 2 ^ 53
      · rw [show (a * 2 ^ 52 + K) % 2 ^ 52 = 0 by omega, show (a * 2 ^ 52 + K) / 2 ^ 52 - 1 = a + 1 by omega, q2, Nat.add_zero, Nat.pow_succ 2 a, Nat.mul_comm (2 ^ a) 2, ← Nat.mul_assoc]
      · rw [show (a * 2 ^ 52 + K) % 2 ^ 52 = K - 2 ^ 52 by omega, show (a * 2 ^ 52 + K) / 2 ^ 52 - 1 = a by omega, show 2 ^ 52 + (K - 2 ^ 52) = K by omega]
    · rw [show a = 0 by omega]
      simp only [Nat.zero_mul, Nat.zero_add, Nat.pow_zero, Nat.mul_one]
      split
      · rfl
      · by_cases q2 : K = 2 ^ 53
        · rw [q2]
        · rw [show K / 2 ^ 52 - 1 = 0 by omega, Nat.pow_zero, Nat.mul_one]; omega
  have hr : a * 2 ^ 52 + K < 2047 * 2 ^ 52 := by rw [hu] at ha1; omega
  rw [Nat.min_eq_left (Nat.le_of_lt hr)] at er
  refine ⟨K, a, ha1, fun s => ?_, ?_, ?_⟩
  · rw [nearest_eq, er]
    have hk := key_word (s := s) hr
    rw [hv] at hk
    exact ⟨hk.2, hk.1⟩
  · have := Nat.mul_le_mul_right (2 ^ c) ch.1
    rw [Nat.add_mul, Nat.mul_assoc, Nat.mul_assoc, Nat.mul_assoc, Nat.mul_assoc, ← Nat.pow_add, ← Nat.pow_add, e1, e2] at this
    exact this
  · have := Nat.mul_le_mul_right (2 ^ c) ch.2
    rw [Nat.add_mul, Nat.mul_assoc, Nat.mul_assoc, Nat.mul_assoc, Nat.mul_assoc, ← Nat.pow_add, ← Nat.pow_add, e1, e2] at this
    exact this
theorem mult_le {K g V : Nat} (h : 2 * (K * g) ≤ 2 * (V * g) + g) (hg : 0 < g) : K ≤ V := by
  rcases Nat.lt_or_ge V K with q | q
  · have := Nat.mul_le_mul_right g (show V + 1 ≤ K from q)
    rw [Nat.add_mul, Nat.one_mul] at this
    generalize K * g = a at *
    generalize V * g = b at *
    omega
  · exact q
theorem log_up {m S c a : Nat} (h0 : m ≠ 0) (h1 : m * 2 ^ a ≤ S * U) (h2 : S < 2 ^ c) : m.log2 + a < c + uE := by
  apply (Nat.pow_lt_pow_iff_right (show 1 < 2 by decide)).1
  rw [Nat.pow_add, Nat.pow_add]
  calc 2 ^ m.log2 * 2 ^ a ≤ m * 2 ^ a := Nat.mul_le_mul_right _ ((Nat.log2_eq_iff h0).1 rfl).1
    _ ≤ S * U := h1
    _ < 2 ^ c * U := Nat.mul_lt_mul_of_pos_right h2 U_pos
/-- Whole numbers (in keys) are written as they are; what lies below one, or above, stays so. -/
theorem nearest_bound {M : Nat} {p : Int} (hp : -1074 ≤ p) {B : Nat} (hB : M * 2 ^ (p + 1074).toNat ≤ B * U) (hB2 : B < 2 ^ 20) :
    ∃ w : Nat, (∀ s : Bool, isNaN (F64.nearest s M p) = false ∧ key (F64.nearest s M p) = if s then -(w : Int) else (w : Int)) ∧ (∀ V : Nat, M * 2 ^ (p + 1074).toNat ≤ V * U → w ≤ V * U) ∧ (∀ V : Nat, V * U ≤ M * 2 ^ (p + 1074).toNat → V * U ≤ w) := by
  by_cases hM : M = 0
  · subst hM
    have e : rungOf 0 p = 0 := by unfold rungOf; simp
    refine ⟨0, fun s => ?_, fun V _ => Nat.zero_le _, fun V h => by simpa using h⟩
    rw [nearest_eq, e]
    have k := key_word (s := s) (r := 0) (by omega)
    refine ⟨k.2, k.1.trans ?_⟩
    simp [rungVal]
  have hlog : M.log2 + (p + 1074).toNat < 20 + uE := log_up hM hB hB2
  obtain ⟨K, a, h1, h2, h3, h4⟩ := nearest_val hM hp hlog
  obtain ⟨d, hd⟩ : ∃ d, a + d = uE := ⟨uE - a, by omega⟩
  have eU : ∀ V, V * U = V * 2 ^ d * 2 ^ a := fun V => by rw [U_split hd, Nat.mul_assoc, Nat.mul_comm (2 ^ a)]
  have hg : 0 < 2 ^ a := Nat.pow_pos (by decide)
  refine ⟨K * 2 ^ a, h2, fun V hV => ?_, fun V hV => ?_⟩
  · rw [eU] at hV ⊢
    exact Nat.mul_le_mul_right _ (mult_le (Nat.le_trans h3 (by omega)) hg)
  · rw [eU] at hV ⊢
    exact Nat.mul_le_mul_right _ (mult_le (Nat.le_trans (Nat.mul_le_mul_left 2 hV) h4) hg)
/-- A finite number that is whole. -/
structure Whole (x : Nat) (z : Int) : Prop where
  num : ∃ s m i, F64.read x = .number s m i
  k : key x = z * (U : Int)
theorem Whole.nan {x : Nat} {z : Int} (h : Whole x z) : isNaN x = false := by
  obtain ⟨s, m, i, e⟩ := h.num
  have : isNaN x = (F64.read x).isNaN := rfl
  rw [this, e]; rfl
theorem Whole.of {z : Int} (h1 : -(2 ^ 53) < z) (h2 : z < 2 ^ 53) : Whole (FloatKind.f64.nearest z) z := ⟨nearest_num h1 h2, (nearest_int h1 h2).1⟩
theorem whole_mag {s : Bool} {m : Nat} {i z : Int} {x : Nat} (h : F64.read x = .number s m i) (hk : key x = z * (U : Int)) : m * 2 ^ (i + 1074).toNat = z.natAbs * U := by
  have ek := key_num h
  rw [hk] at ek
  have : (z * (U : Int)).natAbs = z.natAbs * U := by rw [Int.natAbs_mul, Int.natAbs_natCast]
  rw [← this, ek]
  generalize m * 2 ^ (i + 1074).toNat = w
  cases s <;> simp
theorem Whole.add {x y : Nat} {a b : Int} (hx : Whole x a) (hy : Whole y b) (h1 : -(2 ^ 19) ≤ a + b) (h2 : a + b ≤ 2 ^ 19) : Whole (addM x y) (a + b) := by
  obtain ⟨s, m, i, ha⟩ := hx.num
  obtain ⟨t, n, j, hb⟩ := hy.num
  have pa := read_place ha
  have pb := read_place hb
  obtain ⟨sg, hsg⟩ : ∃ sg, addM x y = F64.nearest sg (Ieee.signed s m (i - min i j).toNat + Ieee.signed t n (j - min i j).toNat).natAbs (min i j) ∧ ((Ieee.signed s m (i - min i j).toNat + Ieee.signed t n (j - min i j).toNat) ≠ 0 → sg = decide (Ieee.signed s m (i - min i j).toNat + Ieee.signed t n (j - min i j).toNat < 0)) := by
    unfold addM Ieee.Format.add
    rw [ha, hb]
    simp only [Ieee.Datum.sum, Option.map, fop, Option.getD]
    exact ⟨_, rfl, fun h => if_neg h⟩
  have ka : key x = Ieee.signed s m (i - min i j).toNat * ((2 ^ (min i j + 1074).toNat : Nat) : Int) := by
    unfold key; rw [ha]
    show Ieee.signed s m (i + 1074).toNat = _
    rw [← signed_mul, show (i - min i j).toNat + (min i j + 1074).toNat = (i + 1074).toNat by omega]
  have kb : key y = Ieee.signed t n (j - min i j).toNat * ((2 ^ (min i j + 1074).toNat : Nat) : Int) := by
    unfold key; rw [hb]
    show Ieee.signed t n (j + 1074).toNat = _
    rw [← signed_mul, show (j - min i j).toNat + (min i j + 1074).toNat = (j + 1074).toNat by omega]
  have hsum : (Ieee.signed s m (i - min i j).toNat + Ieee.signed t n (j - min i j).toNat) * ((2 ^ (min i j + 1074).toNat : Nat) : Int) = (a + b) * (U : Int) := by
    rw [Int.add_mul, ← ka, ← kb, hx.k, hy.k, Int.add_mul]
  generalize Ieee.signed s m (i - min i j).toNat + Ieee.signed t n (j - min i j).toNat = z at *
  have hz : z.natAbs * 2 ^ (min i j + 1074).toNat = (a + b).natAbs * U := by
    have := congrArg Int.natAbs hsum
    rw [Int.natAbs_mul, Int.natAbs_mul, Int.natAbs_natCast, Int.natAbs_natCast] at this
    exact this
  obtain ⟨w, h3, h4, h5⟩ := nearest_bound (M := z.natAbs) (p := min i j) (by omega) (B := (a + b).natAbs) (by rw [hz]; exact Nat.le_refl _) (by omega)
  have hw : w = (a + b).natAbs * U := Nat.le_antisymm (h4 _ (by rw [hz]; exact Nat.le_refl _)) (h5 _ (by rw [hz]; exact Nat.le_refl _))
  have hkey : key (addM x y) = (a + b) * (U : Int) := by
    rw [hsg.1, (h3 sg).2, hw]
    by_cases q : z = 0
    · rw [q, Int.zero_mul] at hsum
      have hab : a + b = 0 := by
        rcases Int.mul_eq_zero.1 hsum.symm with q | q
        · exact q
        · have := U_pos; omega
      rw [hab]; simp
    · rw [hsg.2 q]
      have hpos : (0 : Int) < ((2 ^ (min i j + 1074).toNat : Nat) : Int) := by have := Nat.pow_pos (n := (min i j + 1074).toNat) (show 0 < 2 by decide); omega
      have hUp := U_pos
      have hsign : z < 0 ↔ a + b < 0 := by
        constructor
        · intro hz0
          apply Int.lt_of_not_ge
          intro q2
          have h6 : 0 ≤ (a + b) * (U : Int) := Int.mul_nonneg q2 (by omega)
          rw [← hsum] at h6
          have := Int.mul_neg_of_neg_of_pos hz0 hpos
          omega
        · intro hz0
          apply Int.lt_of_not_ge
          intro q2
          have h6 := Int.mul_nonneg q2 (Int.le_of_lt hpos)
          rw [hsum] at h6
          have := Int.mul_neg_of_neg_of_pos hz0 (show (0 : Int) < (U : Int) by omega)
          omega
      rw [Int.natCast_mul]
      by_cases q2 : z < 0
      · rw [if_pos (by simpa using q2), ← Int.neg_mul, show -((a + b).natAbs : Int) = a + b by have := hsign.1 q2; omega]
      · rw [if_neg (by simpa using q2), show (((a + b).natAbs : Nat) : Int) = a + b by have := fun h => q2 (hsign.2 h); omega]
  have hnan : isNaN (addM x y) = false := by rw [hsg.1]; exact (h3 sg).1
  exact ⟨num_of_mul hnan hkey (by omega) (by omega), hkey⟩
theorem read_norm {x : Nat} {s : Bool} {m : Nat} {i : Int} (h : F64.read x = .number s m i) : i = -1074 ∨ 2 ^ 52 ≤ m := by
  unfold Ieee.Format.read at h
  simp only [f_binade, f_sign, f_least, f_inf] at h
  split at h
  · cases h; exact .inl rfl
  · split at h
    · cases h; right; omega
    · split at h <;> cases h
/-- A whole number that is not nought is written in one way. -/
theorem whole_form {x y : Nat} {s t : Bool} {m n : Nat} {i j : Int} {S : Nat} (hx : F64.read x = .number s m i) (hy : F64.read y = .number t n j) (h1 : m * 2 ^ (i + 1074).toNat = S * U) (h2 : n * 2 ^ (j + 1074).toNat = S * U) (hS : 0 < S) : m = n ∧ i = j := by
  have big : ∀ {x : Nat} {s : Bool} {m : Nat} {i : Int}, F64.read x = .number s m i → m * 2 ^ (i + 1074).toNat = S * U → 2 ^ 52 ≤ m ∧ m < 2 ^ 53 := fun {x s m i} h q => by
    have hm := read_mag h
    refine ⟨?_, hm⟩
    rcases read_norm h with e | e
    · rw [e] at q
      have : (-1074 + 1074 : Int).toNat = 0 := rfl
      rw [this, Nat.pow_zero, Nat.mul_one] at q
      have h3 : U ≤ S * U := Nat.le_mul_of_pos_left _ hS
      have h4 : 2 ^ 53 ≤ U := Nat.pow_le_pow_right (by decide) (by decide)
      omega
    · exact e
  have bx := big hx h1
  have by' := big hy h2
  have px := read_place hx
  have py := read_place hy
  have eq : m * 2 ^ (i + 1074).toNat = n * 2 ^ (j + 1074).toNat := h1.trans h2.symm
  have key : ∀ {m n a b : Nat}, 2 ^ 52 ≤ n → m < 2 ^ 53 → 2 ^ 52 ≤ m → n < 2 ^ 53 → m * 2 ^ a = n * 2 ^ b → a ≤ b := fun {m n a b} g1 g2 g3 g4 q => by
    rcases Nat.lt_or_ge b a with z | z
    · exfalso
      obtain ⟨d, rfl⟩ : ∃ d, a = b + (d + 1) := ⟨a - b - 1, by omega⟩
      rw [Nat.pow_add, Nat.mul_comm (2 ^ b), ← Nat.mul_assoc] at q
      have q2 := Nat.eq_of_mul_eq_mul_right (Nat.pow_pos (by decide)) q
      rw [Nat.pow_succ, ← Nat.mul_assoc] at q2
      have := Nat.le_mul_of_pos_right m (Nat.pow_pos (n := d) (show 0 < 2 by decide))
      omega
    · exact z
  have l1 := key by'.1 bx.2 bx.1 by'.2 eq
  have l2 := key bx.1 by'.2 by'.1 bx.2 eq.symm
  have e : (i + 1074).toNat = (j + 1074).toNat := by omega
  rw [e] at eq
  exact ⟨Nat.eq_of_mul_eq_mul_right (Nat.pow_pos (by decide)) eq, by omega⟩
/-- How great a quotient is: the sign aside. -/
theorem div_bound {m N : Nat} {i j : Int} {S n : Nat} (hm : m < 2 ^ 53) (hN : N < 2 ^ 53) (kx : m * 2 ^ (i + 1074).toNat = S * U) (ky : N * 2 ^ (j + 1074).toNat = n * U) (pi : -1074 ≤ i) (pj : -1074 ≤ j) (hS : 0 < S) (hS2 : S < 2 ^ 16) (hn : 0 < n) (hn2 : n < 2 ^ 13) :
    ∃ w : Nat, (∀ (x y : Nat) (s : Bool), F64.read x = .number s m i → F64.read y = .number false N j → isNaN (divM x y) = false ∧ key (divM x y) = if s then -(w : Int) else (w : Int)) ∧ (∀ V : Nat, S ≤ V * n → w ≤ V * U) ∧ (∀ V : Nat, V * n ≤ S → V * U ≤ w) := by
  have hu : uE = 1074 := rfl
  have hUp := U_pos
  have hm0 : m ≠ 0 := fun e => by
    rw [e, Nat.zero_mul] at kx
    have := Nat.mul_pos hS hUp; omega
  have hN0 : N ≠ 0 := fun e => by
    rw [e, Nat.zero_mul] at ky
    have := Nat.mul_pos hn hUp; omega
  have lm := (Nat.log2_eq_iff hm0).1 rfl
  have lN := (Nat.log2_eq_iff hN0).1 rfl
  have lm53 : m.log2 < 53 := (Nat.log2_lt hm0).2 hm
  have lN53 : N.log2 < 53 := (Nat.log2_lt hN0).2 hN
  have up : ∀ {m S c : Nat} {a : Nat}, m ≠ 0 → m * 2 ^ a = S * U → S < 2 ^ c → m.log2 + a < c + uE := fun {m S c a} h0 h1 h2 => by
    apply (Nat.pow_lt_pow_iff_right (show 1 < 2 by decide)).1
    rw [Nat.pow_add, Nat.pow_add]
    calc 2 ^ m.log2 * 2 ^ a ≤ m * 2 ^ a := Nat.mul_le_mul_right _ ((Nat.log2_eq_iff h0).1 rfl).1
      _ = S * U := h1
      _ < 2 ^ c * U := Nat.mul_lt_mul_of_pos_right h2 hUp
  have dn : ∀ {m S : Nat} {a : Nat}, m ≠ 0 → m * 2 ^ a = S * U → 0 < S → uE < m.log2 + 1 + a := fun {m S a} h0 h1 h2 => by
    apply (Nat.pow_lt_pow_iff_right (show 1 < 2 by decide)).1
    rw [Nat.pow_add]
    calc 2 ^ uE ≤ S * U := Nat.le_mul_of_pos_left _ h2
      _ = m * 2 ^ a := h1.symm
      _ < 2 ^ (m.log2 + 1) * 2 ^ a := Nat.mul_lt_mul_of_pos_right ((Nat.log2_eq_iff h0).1 rfl).2 (Nat.pow_pos (by decide))
  have um := up hm0 kx hS2
  have uN := up hN0 ky hn2
  have dm := dn hm0 kx hS
  have dN := dn hN0 ky hn
  clear up dn
  obtain ⟨e, he⟩ : ∃ e : Nat, e = 54 + N.log2 - m.log2 := ⟨_, rfl⟩
  obtain ⟨q, hq⟩ : ∃ q : Int, q = i - j - (e : Int) - 1 := ⟨_, rfl⟩
  obtain ⟨f, hf⟩ : ∃ f : Nat, f = (-q - 1).toNat := ⟨_, rfl⟩
  have ef : e + (j + 1074).toNat = f + (i + 1074).toNat := by omega
  have eq : 1 + f + (q + 1074).toNat = uE := by omega
  have hq1 : -1074 ≤ q := by omega
  clear lm lN um uN dm dN hf
  -- digits of the quotient
  obtain ⟨D, hD⟩ : ∃ D : Nat, D = 2 * ((m <<< e) / N) + ((m <<< e) % N != 0).toNat := ⟨_, rfl⟩
  have hNp : 0 < N := by omega
  have le : ∀ V : Nat, S ≤ V * n → m * 2 ^ e ≤ V * 2 ^ f * N := fun V h => by
    have h1 : m * 2 ^ (i + 1074).toNat ≤ V * (N * 2 ^ (j + 1074).toNat) := by rw [kx, ky, ← Nat.mul_assoc]; exact Nat.mul_le_mul_right _ h
    have h2 : m * 2 ^ e * 2 ^ (i + 1074).toNat ≤ V * 2 ^ f * N * 2 ^ (i + 1074).toNat := by
      have e1 : m * 2 ^ e * 2 ^ (i + 1074).toNat = m * 2 ^ (i + 1074).toNat * 2 ^ e := Nat.mul_right_comm _ _ _
      have e2 : V * 2 ^ f * N * 2 ^ (i + 1074).toNat = V * (N * 2 ^ (j + 1074).toNat) * 2 ^ e := by
        rw [Nat.mul_right_comm V, Nat.mul_assoc (V * N), ← Nat.pow_add, ← ef, Nat.mul_assoc, Nat.mul_assoc, Nat.mul_assoc, Nat.add_comm e, Nat.pow_add]
      rw [e1, e2]
      exact Nat.mul_le_mul_right _ h1
    exact Nat.le_of_mul_le_mul_right h2 (Nat.pow_pos (by decide))
  have ge : ∀ V : Nat, V * n ≤ S → V * 2 ^ f * N ≤ m * 2 ^ e := fun V h => by
    have h1 : V * (N * 2 ^ (j + 1074).toNat) ≤ m * 2 ^ (i + 1074).toNat := by rw [kx, ky, ← Nat.mul_assoc]; exact Nat.mul_le_mul_right _ h
    have h2 : V * 2 ^ f * N * 2 ^ (i + 1074).toNat ≤ m * 2 ^ e * 2 ^ (i + 1074).toNat := by
      have e1 : m * 2 ^ e * 2 ^ (i + 1074).toNat = m * 2 ^ (i + 1074).toNat * 2 ^ e := Nat.mul_right_comm _ _ _
      have e2 : V * 2 ^ f * N * 2 ^ (i + 1074).toNat = V * (N * 2 ^ (j + 1074).toNat) * 2 ^ e := by
        rw [Nat.mul_right_comm V, Nat.mul_assoc (V * N), ← Nat.pow_add, ← ef, Nat.mul_assoc, Nat.mul_assoc, Nat.mul_assoc, Nat.add_comm e, Nat.pow_add]
      rw [e1, e2]
      exact Nat.mul_le_mul_right _ h1
    exact Nat.le_of_mul_le_mul_right h2 (Nat.pow_pos (by decide))
  rw [Nat.shiftLeft_eq] at hD
  have leD : ∀ V : Nat, S ≤ V * n → D ≤ 2 * (V * 2 ^ f) := fun V h => by
    have := le V h
    generalize m * 2 ^ e = A at *
    generalize V * 2 ^ f = W at *
    have hdm := Nat.div_add_mod A N
    have hlt := Nat.mod_lt A hNp
    have h3 : A / N ≤ W := Nat.div_le_of_le_mul (by rw [Nat.mul_comm]; exact this)
    by_cases z : A / N = W
    · have : A % N = 0 := by
        rw [z, Nat.mul_comm] at hdm; omega
      rw [hD, this, z]; simp
    · have h4 : ((A % N != 0).toNat) ≤ 1 := Bool.toNat_le _
      omega
  have geD : ∀ V : Nat, V * n ≤ S → 2 * (V * 2 ^ f) ≤ D := fun V h => by
    have := ge V h
    generalize m * 2 ^ e = A at *
    generalize V * 2 ^ f = W at *
    have h3 : W ≤ A / N := (Nat.le_div_iff_mul_le hNp).2 this
    omega
  have valU : ∀ V : Nat, 2 * (V * 2 ^ f) * 2 ^ (q + 1074).toNat = V * U := fun V => by
    have : U = 2 ^ 1 * 2 ^ f * 2 ^ (q + 1074).toNat := by unfold U; rw [← eq, Nat.pow_add, Nat.pow_add]
    rw [this, Nat.pow_one, ← Nat.mul_assoc, ← Nat.mul_assoc, Nat.mul_left_comm V 2, ← Nat.mul_assoc]
  have leV : ∀ V : Nat, S ≤ V * n → D * 2 ^ (q + 1074).toNat ≤ V * U := fun V h => by rw [← valU]; exact Nat.mul_le_mul_right _ (leD V h)
  have geV : ∀ V : Nat, V * n ≤ S → V * U ≤ D * 2 ^ (q + 1074).toNat := fun V h => by rw [← valU]; exact Nat.mul_le_mul_right _ (geD V h)
  obtain ⟨w, h1, h2, h3⟩ := nearest_bound (M := D) (p := q) hq1 (B := S) (leV S (Nat.le_mul_of_pos_right _ hn)) (by omega)
  refine ⟨w, fun x y s hx hy => ?_, fun V h => h2 V (leV V h), fun V h => h3 V (geV V h)⟩
  have e1 : divM x y = F64.nearest s D q := by
    unfold divM Ieee.Format.div
    rw [hx, hy, show F64.fractionBits + 2 = 54 from rfl, quot_num _ _ _ _ _ _ hN0, Bool.xor_false, ← he, ← hq, Nat.shiftLeft_eq, ← hD]
    rfl
  rw [e1]
  exact h1 s
theorem whole_sign {s : Bool} {m : Nat} {i z : Int} {x : Nat} (h : F64.read x = .number s m i) (hk : key x = z * (U : Int)) (h0 : z ≠ 0) : s = decide (z < 0) := by
  have hUp := U_pos
  have ma := whole_mag h hk
  have hka := key_num h
  rw [hk, ma] at hka
  have hp : 0 < z.natAbs * U := Nat.mul_pos (by omega) hUp
  cases s with
  | false =>
    symm
    rw [decide_eq_false_iff_not]
    intro q
    have := Int.mul_neg_of_neg_of_pos q (show (0 : Int) < (U : Int) by omega)
    rw [if_neg (by decide)] at hka
    generalize z * (U : Int) = a at *
    generalize z.natAbs * U = b at *
    omega
  | true =>
    symm
    rw [decide_eq_true_iff]
    apply Int.lt_of_not_ge
    intro q
    have h3 : 0 < z * (U : Int) := Int.mul_pos (by omega) (by omega)
    rw [if_pos rfl] at hka
    generalize z * (U : Int) = a at *
    generalize z.natAbs * U = b at *
    omega
theorem div_zero {x y : Nat} {n : Int} (hx : Whole x 0) (hy : Whole y n) (hn : 0 < n) : isNaN (divM x y) = false ∧ key (divM x y) = 0 := by
  obtain ⟨s, m, i, ha⟩ := hx.num
  obtain ⟨t, N, j, hb⟩ := hy.num
  have ma := whole_mag ha hx.k
  have mb := whole_mag hb hy.k
  have hUp := U_pos
  have hm : m = 0 := by
    rw [Int.natAbs_zero, Nat.zero_mul] at ma
    rcases Nat.mul_eq_zero.1 ma with q | q
    · exact q
    · have := Nat.pow_pos (n := (i + 1074).toNat) (show 0 < 2 by decide); omega
  have hN0 : N ≠ 0 := fun e => by
    rw [e, Nat.zero_mul] at mb
    have := Nat.mul_pos (show 0 < n.natAbs by omega) hUp; omega
  have e1 : ∃ q, divM x y = F64.nearest (s ^^ t) 0 q := by
    unfold divM Ieee.Format.div
    rw [ha, hb, show F64.fractionBits + 2 = 54 from rfl, quot_num _ _ _ _ _ _ hN0, hm]
    refine ⟨i - j - ((54 + N.log2 - (0 : Nat).log2 : Nat) : Int) - 1, ?_⟩
    rw [Nat.zero_shiftLeft, Nat.zero_div, Nat.zero_mod]
    rfl
  obtain ⟨q, e1⟩ := e1
  have e2 : rungOf 0 q = 0 := by unfold rungOf; simp
  rw [e1, nearest_eq, e2]
  have k := key_word (s := s ^^ t) (r := 0) (by omega)
  refine ⟨k.2, k.1.trans ?_⟩
  simp [rungVal]
/-- A quotient of whole numbers: the bounds, and the other sign. -/
theorem div_whole {x y : Nat} {S n : Int} (hx : Whole x S) (hy : Whole y n) (h1 : -(2 ^ 15) ≤ S) (h2 : S ≤ 2 ^ 15) (hn : 0 < n) (hn2 : n < 2 ^ 13) :
    isNaN (divM x y) = false ∧ (∀ V : Int, S ≤ V * n → key (divM x y) ≤ V * (U : Int)) ∧ (∀ V : Int, V * n ≤ S → V * (U : Int) ≤ key (divM x y)) ∧
      (∀ z, Whole z S → isNaN (divM z y) = false ∧ key (divM z y) = key (divM x y)) ∧ (∀ z, Whole z (-S) → isNaN (divM z y) = false ∧ key (divM z y) = -key (divM x y)) := by
  have hUp := U_pos
  by_cases h0 : S = 0
  · subst h0
    have k := div_zero hx hy hn
    refine ⟨k.1, fun V h => ?_, fun V h => ?_, fun z hz => ?_, fun z hz => ?_⟩
    · rw [k.2]
      have : 0 ≤ V := by
        apply Int.le_of_not_gt
        intro q
        have := Int.mul_neg_of_neg_of_pos q hn; omega
      exact Int.mul_nonneg this (by omega)
    · rw [k.2]
      have : V ≤ 0 := by
        apply Int.le_of_not_gt
        intro q
        have := Int.mul_pos q hn; omega
      exact Int.mul_nonpos_of_nonpos_of_nonneg this (by omega)
    · have k2 := div_zero hz hy hn
      exact ⟨k2.1, by rw [k.2, k2.2]⟩
    · rw [Int.neg_zero] at hz
      have k2 := div_zero hz hy hn
      exact ⟨k2.1, by rw [k.2, k2.2]; rfl⟩
  · obtain ⟨s, m, i, ha⟩ := hx.num
    obtain ⟨t, N, j, hb⟩ := hy.num
    have pa := read_place ha
    have pb := read_place hb
    have ma := whole_mag ha hx.k
    have mb := whole_mag hb hy.k
    have ht : t = false := by rw [whole_sign hb hy.k (by omega)]; simp; omega
    subst ht
    obtain ⟨w, g1, g2, g3⟩ := div_bound (read_mag ha) (read_mag hb) ma mb pa.1 pb.1 (by omega) (by omega) (by omega) (by omega)
    have hs := whole_sign ha hx.k h0
    have k := g1 x y s ha hb
    have cst : ∀ V : Int, 0 ≤ V → ((V.natAbs * n.natAbs : Nat) : Int) = V * n ∧ ((V.natAbs * U : Nat) : Int) = V * (U : Int) := fun V hV => by
      rw [Int.natCast_mul, Int.natCast_mul, Int.natAbs_of_nonneg hV, Int.natAbs_of_nonneg (Int.le_of_lt hn)]
      exact ⟨rfl, rfl⟩
    have other : ∀ z (T : Int), T.natAbs = S.natAbs → Whole z T → isNaN (divM z y) = false ∧ key (divM z y) = if T < 0 then -(w : Int) else (w : Int) := fun z T hT hz => by
      obtain ⟨s2, m2, i2, hc⟩ := hz.num
      have mc := whole_mag hc hz.k
      rw [hT] at mc
      obtain ⟨rfl, rfl⟩ := whole_form ha hc ma mc (by omega)
      have k2 := g1 z y s2 hc hb
      refine ⟨k2.1, k2.2.trans ?_⟩
      rw [whole_sign hc hz.k (by omega)]
      simp
    have ks := other x S rfl hx
    refine ⟨k.1, fun V h => ?_, fun V h => ?_, fun z hz => ⟨(other z S rfl hz).1, by rw [(other z S rfl hz).2, ks.2]⟩, fun z hz => ⟨(other z (-S) (by omega) hz).1, ?_⟩⟩
    · rw [ks.2]
      by_cases q : S < 0
      · rw [if_pos q]
        by_cases qV : 0 ≤ V
        · have := Int.mul_nonneg qV (show (0 : Int) ≤ (U : Int) by omega)
          generalize V * (U : Int) = a at *
          omega
        · have c := cst (-V) (by omega)
          have := g3 (-V).natAbs (by rw [Int.neg_mul] at c; generalize (-V).natAbs * n.natAbs = a at *; generalize V * n = b at *; omega)
          rw [Int.neg_mul, Int.neg_mul] at c
          generalize (-V).natAbs * U = a at *
          generalize V * (U : Int) = b at *
          omega
      · rw [if_neg q]
        have qV : 0 ≤ V := by
          apply Int.le_of_not_gt
          intro q2
          have := Int.mul_neg_of_neg_of_pos q2 hn; omega
        have c := cst V qV
        have := g2 V.natAbs (by generalize V.natAbs * n.natAbs = a at *; generalize V * n = b at *; omega)
        generalize V.natAbs * U = a at *
        generalize V * (U : Int) = b at *
        omega
    · rw [ks.2]
      by_cases q : S < 0
      · rw [if_pos q]
        have qV : V < 0 := by
          apply Int.lt_of_not_ge
          intro q2
          have := Int.mul_nonneg q2 (Int.le_of_lt hn); omega
        have c := cst (-V) (by omega)
        have := g2 (-V).natAbs (by rw [Int.neg_mul] at c; generalize (-V).natAbs * n.natAbs = a at *; generalize V * n = b at *; omega)
        rw [Int.neg_mul, Int.neg_mul] at c
        generalize (-V).natAbs * U = a at *
        generalize V * (U : Int) = b at *
        omega
      · rw [if_neg q]
        by_cases qV : 0 ≤ V
        · have c := cst V qV
          have := g3 V.natAbs (by generalize V.natAbs * n.natAbs = a at *; generalize V * n = b at *; omega)
          generalize V.natAbs * U = a at *
          generalize V * (U : Int) = b at *
          omega
        · have := Int.mul_neg_of_neg_of_pos (show V < 0 by omega) (show (0 : Int) < (U : Int) by omega)
          generalize V * (U : Int) = a at *
          omega
    · rw [(other z (-S) (by omega) hz).2, ks.2]
      by_cases q : S < 0
      · rw [if_pos q, if_neg (by omega)]; omega
      · rw [if_neg q, if_pos (by omega)]
/-- The sign turned. -/
def negM (x : Nat) : Nat := Op.negFloat .f64 x
theorem xor_par (q : Nat) : ((q ^^^ 1) % 2 == 1) = !(q % 2 == 1) := by
  have := Nat.xor_mod_two_pow (a := q) (b := 1) (n := 1)
  rw [Nat.pow_one] at this
  rw [this]
  rcases Nat.mod_two_eq_zero_or_one q with h | h
  · rw [h]; rfl
  · rw [h]; rfl
theorem read_neg (x : Nat) : F64.read (negM x) = (F64.read x).opposite := by
  have e0 : negM x = x ^^^ 2 ^ 63 := rfl
  have h1 : (x ^^^ 2 ^ 63) % 2 ^ 63 = x % 2 ^ 63 := by
    rw [Nat.xor_mod_two_pow, Nat.mod_self, Nat.xor_zero]
  have h2 : (x ^^^ 2 ^ 63) / 2 ^ 63 = x / 2 ^ 63 ^^^ 1 := by
    rw [Nat.xor_div_two_pow]
  rw [e0]
  unfold Ieee.Format.read
  simp only [f_binade, f_sign, f_least, f_inf]
  rw [h1, h2, xor_par]
  split
  · rfl
  · split
    · rfl
    · split <;> rfl
theorem signed_neg (s : Bool) (m a : Nat) : Ieee.signed (!s) m a = -Ieee.signed s m a := by cases s <;> simp [Ieee.signed]
theorem key_neg (x : Nat) : key (negM x) = -key x := by
  unfold key
  rw [read_neg]
  cases F64.read x with
  | nan s t => rfl
  | infinity s => cases s <;> simp [Ieee.Datum.opposite, keyD]
  | number s m i => exact signed_neg s m _
theorem nan_neg (x : Nat) : isNaN (negM x) = isNaN x := by
  have a : isNaN (negM x) = (F64.read (negM x)).isNaN := rfl
  have b : isNaN x = (F64.read x).isNaN := rfl
  rw [a, b, read_neg]
  cases F64.read x <;> rfl
theorem Whole.neg {x : Nat} {z : Int} (h : Whole x z) : Whole (negM x) (-z) := by
  obtain ⟨s, m, i, e⟩ := h.num
  exact ⟨⟨!s, m, i, by rw [read_neg, e]; rfl⟩, by rw [key_neg, h.k, Int.neg_mul]⟩
/-- The lesser and the greater. -/
theorem fmm_key {a b : Nat} (mx : Bool) (ha : isNaN a = false) (hb : isNaN b = false) : ∃ r, fmm .f64 mx a b = some r ∧ isNaN r = false ∧ (r = a ∨ r = b) ∧ key r = if mx then max (key a) (key b) else min (key a) (key b) := by
  have e : FloatKind.f64.format.order a b = some (compare (key a) (key b)) := order_key ha hb
  unfold fmm
  rw [e]
  rcases Int.lt_trichotomy (key a) (key b) with h | h | h
  · rw [Std.compare_eq_lt.2 h]
    cases mx
    · exact ⟨a, rfl, ha, .inl rfl, by simp; omega⟩
    · exact ⟨b, rfl, hb, .inr rfl, by simp; omega⟩
  · rw [h, Std.compare_self]
    dsimp only
    have : ∀ c : Nat, (c = a ∨ c = b) → isNaN c = false ∧ key c = if mx then max (key b) (key b) else min (key b) (key b) := fun c hc => by
      rcases hc with rfl | rfl
      · exact ⟨ha, by rw [h]; split <;> omega⟩
      · exact ⟨hb, by split <;> omega⟩
    refine ⟨_, rfl, ?_⟩
    have hc : ∀ p q : Bool, ((if p then (if q then b else a) else (if q then a else b)) = a ∨ (if p then (if q then b else a) else (if q then a else b)) = b) := fun p q => by cases p <;> cases q <;> simp
    refine ⟨(this _ (hc _ _)).1, hc _ _, (this _ (hc _ _)).2⟩
  · rw [Std.compare_eq_gt.2 h]
    cases mx
    · exact ⟨b, rfl, hb, .inr rfl, by simp; omega⟩
    · exact ⟨a, rfl, ha, .inl rfl, by simp; omega⟩
end Go.Proofs.Ytmcloipjlihhlaa.N
