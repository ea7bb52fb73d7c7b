/- TutteSnaps: floats. Conditions: none. -/
import Derived.Test.YtmcloipjlihhlaaNSnapR
namespace Go.Proofs.Ytmcloipjlihhlaa.N
open Go.X Go.Proofs.Ytmcloipjlihhlaa
set_option maxRecDepth 100000

theorem prod_num (s t : Bool) (m n : Nat) (i j : Int) : (Ieee.Datum.number s m i).product (.number t n j) = some (.number (s ^^ t) (m * n) (i + j)) := rfl
theorem fop_write (s : Bool) (m : Nat) (i : Int) : fop (Option.map F64.write (some (.number s m i))) = F64.nearest s m i := rfl
theorem mul_key {x c : Nat} {s : Bool} {m : Nat} {i j : Int} (hx : F64.read x = .number s m i) (hc : F64.read c = .number false (2 ^ 52) j) (h1 : -1074 ≤ i + j + 52) (h2 : i + j + 52 ≤ 971) :
    key (mulM x c) = Ieee.signed s m (i + j + 52 + 1074).toNat ∧ isNaN (mulM x c) = false := by
  have e : mulM x c = F64.nearest s (m * 2 ^ 52) (i + j) := by
    unfold mulM Ieee.Format.mul
    rw [hx, hc, prod_num, fop_write, Bool.xor_false]
  have k := key_exact (s := s) (m := m) (k := 52) (i := i + j + 52) (read_mag hx) h1 h2
  rw [show i + j + 52 - ((52 : Nat) : Int) = i + j by omega] at k
  rw [e]; exact k
abbrev ONE : Nat := 4607182418800017408
abbrev TWO : Nat := 4611686018427387904
abbrev HALF : Nat := 4602678819172646912
theorem read_one : F64.read ONE = .number false (2 ^ 52) (-52) := by decide
theorem read_two : F64.read TWO = .number false (2 ^ 52) (-51) := by decide
theorem read_half : F64.read HALF = .number false (2 ^ 52) (-53) := by decide
theorem mul_one_key {x : Nat} {s : Bool} {m : Nat} {i : Int} (hx : F64.read x = .number s m i) : key (mulM x ONE) = key x ∧ isNaN (mulM x ONE) = false := by
  have hp := read_place hx
  have k := mul_key hx read_one (by omega) (by omega)
  refine ⟨k.1.trans ?_, k.2⟩
  rw [show i + -52 + 52 + 1074 = i + 1074 by omega]
  unfold key; rw [hx]; rfl
theorem mul_two_key {x : Nat} {s : Bool} {m : Nat} {i : Int} (hx : F64.read x = .number s m i) (hi : i ≤ 970) : key (mulM x TWO) = 2 * key x ∧ isNaN (mulM x TWO) = false := by
  have hp := read_place hx
  have k := mul_key hx read_two (by omega) (by omega)
  refine ⟨k.1.trans ?_, k.2⟩
  rw [show (i + -51 + 52 + 1074).toNat = (i + 1074).toNat + 1 by omega, signed_mul, Nat.pow_one]
  unfold key; rw [hx]
  show _ = 2 * Ieee.signed s m (i + 1074).toNat
  omega
theorem inf_snap (s : Bool) : (F64.order (F64.write ((Ieee.Datum.infinity s).integral .even)) LO == some .lt) = true ∨ ((F64.order (F64.write ((Ieee.Datum.infinity s).integral .even)) LO == some .lt) = false ∧ (F64.order (F64.write ((Ieee.Datum.infinity s).integral .even)) HI == some .gt) = true) := by
  cases s
  · right; decide
  · left; decide
theorem key_lo : key LO = -(2 ^ 20) * (U : Int) := by
  rw [key_num read_lo, if_pos rfl, U_split (a := 32) (b := 1042) rfl, show ((-32 : Int) + 1074).toNat = 1042 from rfl]
  generalize 2 ^ 1042 = z
  omega
theorem key_hi : key HI = 2 ^ 20 * (U : Int) := by
  rw [key_num read_hi, if_neg (by decide), U_split (a := 32) (b := 1042) rfl, show ((-32 : Int) + 1074).toNat = 1042 from rfl]
  generalize 2 ^ 1042 = z
  omega
theorem mul_mono {a b : Int} (h : a ≤ b) : a * (U : Int) ≤ b * (U : Int) := Int.mul_le_mul_of_nonneg_right h (Int.natCast_nonneg _)
theorem mul_cancel {a b : Int} (h : a * (U : Int) ≤ b * (U : Int)) : a ≤ b := Int.le_of_mul_le_mul_right h (by have := U_pos; omega)
theorem nan_lo : isNaN LO = false := by decide
theorem nan_hi : isNaN HI = false := by decide
/-- What is snapped stands within a half. -/
theorem snapOne_facts {x sc : Nat} (h : (snapOne x sc).2 = 0) : (∃ s m i, F64.read (mulM x sc) = .number s m i) ∧ -(2 ^ 20) ≤ (snapOne x sc).1 ∧ (snapOne x sc).1 ≤ 2 ^ 20 ∧ 2 * ((snapOne x sc).1 * (U : Int)) ≤ 2 * key (mulM x sc) + U ∧ 2 * key (mulM x sc) ≤ 2 * ((snapOne x sc).1 * (U : Int)) + U := by
  unfold snapOne at *
  generalize mulM x sc = y at *
  by_cases h1 : isNaN y = true
  · simp [h1] at h
  rw [if_neg h1] at *
  by_cases h2 : isNaN (rte y) = true
  · simp [h2] at h
  rw [if_neg h2] at *
  by_cases h3 : (F64.order (rte y) LO == some .lt) = true
  · rw [if_pos h3] at h; simp at h
  rw [if_neg h3] at *
  by_cases h4 : (F64.order (rte y) HI == some .gt) = true
  · rw [if_pos h4] at h; simp at h
  rw [if_neg h4] at *
  have h1 : isNaN y = false := by simpa using h1
  have h2 : isNaN (rte y) = false := by simpa using h2
  obtain ⟨mm, e1, b1, b2⟩ := toInt_small h2 (by simpa using h3) (by simpa using h4)
  cases hr : F64.read y with
  | nan s t =>
    have : (F64.read y).isNaN = false := h1
    rw [hr] at this; simp [Ieee.Datum.isNaN] at this
  | infinity s =>
    have er : rte y = F64.write ((Ieee.Datum.infinity s).integral .even) := by
      unfold rte
      show F64.write ((F64.read y).integral .even) = _
      rw [hr]
    rcases inf_snap s with q | ⟨_, q⟩
    · exact absurd (er ▸ q) h3
    · exact absurd (er ▸ q) h4
  | number s m i =>
    obtain ⟨N, k1, _, ⟨s', m', i', hn⟩, k2, k3⟩ := rte_key hr
    have e2 := toInt_num hn k1
    rw [e1] at e2
    obtain rfl := Option.some.inj e2
    rw [e1]
    rw [order_lt h2 nan_lo, k1, key_lo] at h3
    rw [order_gt h2 nan_hi, k1, key_hi] at h4
    have c1 : -(2 ^ 20) ≤ mm := mul_cancel (by simp at h3; omega)
    have c2 : mm ≤ 2 ^ 20 := mul_cancel (by simp at h4; omega)
    exact ⟨⟨s, m, i, rfl⟩, c1, c2, k2, k3⟩
theorem near_eq {a b : Int} (h1 : 2 * (a * (U : Int)) ≤ 2 * (b * (U : Int)) + U) (h2 : 2 * (b * (U : Int)) ≤ 2 * (a * (U : Int)) + U) : a = b := by
  have hU : (0 : Int) < (U : Int) := by have := U_pos; omega
  rcases Int.lt_trichotomy a b with q | q | q
  · have := mul_mono (show a + 1 ≤ b by omega)
    rw [Int.add_mul, Int.one_mul] at this
    omega
  · exact q
  · have := mul_mono (show b + 1 ≤ a by omega)
    rw [Int.add_mul, Int.one_mul] at this
    omega
theorem snapOne_exact {x sc : Nat} {N : Int} (hnum : ∃ s m i, F64.read (mulM x sc) = .number s m i) (hk : key (mulM x sc) = N * (U : Int)) (h1 : -(2 ^ 20) ≤ N) (h2 : N ≤ 2 ^ 20) : snapOne x sc = (N, 0) := by
  obtain ⟨s, m, i, hr⟩ := hnum
  obtain ⟨N', k1, k2, ⟨s', m', i', hn⟩, k3, k4⟩ := rte_key hr
  rw [hk] at k3 k4
  obtain rfl := near_eq k3 k4
  have hy : isNaN (mulM x sc) = false := by
    show (F64.read (mulM x sc)).isNaN = false
    rw [hr]; rfl
  have nlo : isNaN LO = false := by decide
  have nhi : isNaN HI = false := by decide
  have o1 : (F64.order (rte (mulM x sc)) LO == some .lt) = false := by
    rw [order_lt k2 nlo, k1, key_lo]
    have := mul_mono h1
    simp; omega
  have o2 : (F64.order (rte (mulM x sc)) HI == some .gt) = false := by
    rw [order_gt k2 nhi, k1, key_hi]
    have := mul_mono h2
    simp; omega
  unfold snapOne
  rw [hy, k2, o1, o2, toInt_num hn k1]
  rfl
/-- Whole numbers as floats. -/
theorem nearest_int {n : Int} (h1 : -(2 ^ 53) < n) (h2 : n < 2 ^ 53) : key (FloatKind.f64.nearest n) = n * (U : Int) ∧ isNaN (FloatKind.f64.nearest n) = false := by
  have e : FloatKind.f64.nearest n = F64.nearest (decide (n < 0)) n.natAbs 0 := rfl
  have k := key_exact (s := decide (n < 0)) (m := n.natAbs) (k := 0) (i := 0) (by omega) (by omega) (by omega)
  rw [Nat.pow_zero, Nat.mul_one, show (0 : Int) - ((0 : Nat) : Int) = 0 by omega, show ((0 : Int) + 1074).toNat = uE from rfl, signed_shift] at k
  rw [e]
  refine ⟨k.1.trans ?_, k.2⟩
  rw [show n.natAbs * 2 ^ uE = n.natAbs * U from rfl, Int.natCast_mul]
  by_cases q : n < 0
  · simp only [q, decide_true, if_true]
    rw [← Int.neg_mul, show -(n.natAbs : Int) = n by omega]
  · simp only [q, decide_false, Bool.false_eq_true, if_false]
    rw [show (n.natAbs : Int) = n by omega]
theorem rungVal_half {r : Nat} (h : r ≤ 1022 * 2 ^ 52) : 2 * rungVal r ≤ U := by
  unfold rungVal
  split
  · rename_i q
    have : 2 ^ 53 ≤ U := Nat.pow_le_pow_right (by decide) (by decide)
    omega
  · rename_i q
    obtain ⟨t, ht⟩ : ∃ t, r / 2 ^ 52 = t + 1 := ⟨r / 2 ^ 52 - 1, by omega⟩
    rw [ht, Nat.add_sub_cancel]
    by_cases q2 : t ≤ 1020
    · obtain ⟨c, hc⟩ : ∃ c : Nat, c = 1020 := ⟨_, rfl⟩
      rw [← hc] at q2
      have e : U = 2 ^ 54 * 2 ^ c := U_split (by rw [hc]; rfl)
      have h1 : 2 ^ t ≤ 2 ^ c := Nat.pow_le_pow_right (by decide) q2
      rw [e]
      generalize 2 ^ c = b at *
      have h2 : (2 ^ 52 + r % 2 ^ 52) * 2 ^ t ≤ 2 ^ 53 * b := Nat.mul_le_mul (by omega) h1
      generalize (2 ^ 52 + r % 2 ^ 52) * 2 ^ t = a at *
      omega
    · obtain ⟨c, hc⟩ : ∃ c : Nat, c = 1021 := ⟨_, rfl⟩
      have ht2 : t = c := by omega
      subst ht2
      have e0 : r % 2 ^ 52 = 0 := by omega
      have e : U = 2 ^ 53 * 2 ^ t := U_split (by rw [hc]; rfl)
      rw [e0, e]
      generalize 2 ^ t = b
      omega
theorem small_rung {la : Int} {K : Nat} (h1 : la ≤ -54) (h2 : K ≤ 2 ^ 53) : (la + 1074).toNat * 2 ^ 52 + K ≤ 1022 * 2 ^ 52 := by
  have : (la + 1074).toNat ≤ 1020 := by omega
  generalize (la + 1074).toNat = a at *
  omega
theorem small_min {r : Nat} (h : r ≤ 1022 * 2 ^ 52) : r ≤ 2047 * 2 ^ 52 := by omega
theorem word_half {r : Nat} (h : r ≤ 1022 * 2 ^ 52) : isNaN (F64.word false r) = false ∧ 2 * key (F64.word false r) ≤ U := by
  have kw := key_word (s := false) (r := r) (by omega)
  have rv := rungVal_half h
  refine ⟨kw.2, ?_⟩
  have e : key (F64.word false r) = ((rungVal r : Nat) : Int) := kw.1
  rw [e]
  omega
theorem nearest_half {M : Nat} {p : Int} (hp : -1074 ≤ p) (h : 2 * (M * 2 ^ (p + 1074).toNat) ≤ U) : isNaN (F64.nearest false M p) = false ∧ 2 * key (F64.nearest false M p) ≤ U := by
  have hu : uE = 1074 := rfl
  by_cases hM : M = 0
  · subst hM
    have e : F64.nearest false 0 p = 0 := by rw [nearest_eq, word_false]; unfold rungOf; simp
    rw [e, key_zero]
    exact ⟨nan_zero, by omega⟩
  have hl2 := (Nat.log2_eq_iff hM).1 rfl
  have hpow : 2 ^ (M.log2 + 1 + (p + 1074).toNat) ≤ 2 ^ uE := by
    rw [Nat.pow_add, Nat.pow_succ]
    have := Nat.mul_le_mul_right (2 ^ (p + 1074).toNat) hl2.1
    show 2 ^ M.log2 * 2 * 2 ^ (p + 1074).toNat ≤ U
    rw [Nat.mul_comm (2 ^ M.log2) 2, Nat.mul_assoc]
    omega
  have hL : M.log2 + 1 + (p + 1074).toNat ≤ uE := (Nat.pow_le_pow_iff_right (by decide)).1 hpow
  clear hpow
  by_cases hE : M.log2 + 1 + (p + 1074).toNat = uE
  · -- just a half
    have hM2 : M = 2 ^ M.log2 := by
      have e1 : U = 2 ^ (M.log2 + 1) * 2 ^ (p + 1074).toNat := U_split hE
      rw [e1, ← Nat.mul_assoc, Nat.pow_succ, Nat.mul_comm _ 2] at h
      have := Nat.le_of_mul_le_mul_right h (Nat.pow_pos (by decide))
      omega
    have k := key_exact (s := false) (m := 1) (k := M.log2) (i := -1) (by decide) (by omega) (by omega)
    rw [Nat.one_mul, ← hM2, show -1 - (M.log2 : Int) = p by omega] at k
    refine ⟨k.2, ?_⟩
    rw [k.1, signed_shift, if_neg (by decide), Nat.one_mul]
    have e1 : U = 2 ^ 1 * 2 ^ ((-1 : Int) + 1074).toNat := U_split rfl
    rw [e1]
    generalize 2 ^ ((-1 : Int) + 1074).toNat = z
    omega
  · rw [nearest_eq]
    obtain ⟨la, hla⟩ : ∃ la : Int, la = max (p + (M.log2 : Int) - F64.fractionBits) F64.leastPlace := ⟨_, rfl⟩
    have hla2 : la = max (p + (M.log2 : Int) - 52) (-1074) := by rw [hla, f_least, show F64.fractionBits = 52 from rfl]; omega
    obtain ⟨K, hK⟩ : ∃ K, K = Ieee.Toward.even.cut false (M <<< (p - la).toNat) (la - p).toNat := ⟨_, rfl⟩
    have hKle : K ≤ 2 ^ 53 := by
      have ch := (cut_half false (M <<< (p - la).toNat) (la - p).toNat).1
      rw [← hK] at ch
      have hn : M <<< (p - la).toNat < 2 ^ 53 * 2 ^ (la - p).toNat := by
        rw [Nat.shiftLeft_eq, ← Nat.pow_add]
        calc M * 2 ^ (p - la).toNat < 2 ^ (M.log2 + 1) * 2 ^ (p - la).toNat := Nat.mul_lt_mul_of_pos_right hl2.2 (Nat.pow_pos (by decide))
          _ = 2 ^ (M.log2 + 1 + (p - la).toNat) := (Nat.pow_add _ _ _).symm
          _ ≤ 2 ^ (53 + (la - p).toNat) := Nat.pow_le_pow_right (by decide) (by omega)
      have hg : 0 < 2 ^ (la - p).toNat := Nat.pow_pos (by decide)
      generalize 2 ^ (la - p).toNat = g at *
      generalize M <<< (p - la).toNat = n at *
      rcases Nat.lt_or_ge (2 ^ 53) K with q | q
      · have := Nat.mul_le_mul_right g (show 2 ^ 53 + 1 ≤ K from q)
        rw [Nat.add_mul, Nat.one_mul] at this
        generalize K * g = kg at *
        omega
      · exact q
    have er : rungOf M p = min ((la + 1074).toNat * 2 ^ 52 + K) (2047 * 2 ^ 52) := by
      unfold rungOf
      rw [if_neg hM, ← hla, ← hK, f_inf, f_binade, f_least, show (la - -1074).toNat = (la + 1074).toNat by omega]
    have hl1 : la ≤ -54 := by omega
    have hrl : (la + 1074).toNat * 2 ^ 52 + K ≤ 1022 * 2 ^ 52 := small_rung hl1 hKle
    have hmin : min ((la + 1074).toNat * 2 ^ 52 + K) (2047 * 2 ^ 52) = (la + 1074).toNat * 2 ^ 52 + K := Nat.min_eq_left (small_min hrl)
    rw [hmin] at er
    rw [er]
    exact word_half hrl
theorem sub_half {a b : Nat} {s t : Bool} {m n : Nat} {i j : Int} (ha : F64.read a = .number s m i) (hb : F64.read b = .number t n j) (h1 : 2 * key a ≤ 2 * key b + U) (h2 : 2 * key b ≤ 2 * key a + U) : isNaN (absM (subM a b)) = false ∧ 2 * key (absM (subM a b)) ≤ U := by
  have pa := read_place ha
  have pb := read_place hb
  have e : ∃ sg, subM a b = F64.write (.number sg (Ieee.signed s m (i - min i j).toNat - Ieee.signed t n (j - min i j).toNat).natAbs (min i j)) := by
    unfold subM Ieee.Format.sub
    rw [ha, hb]
    have so : ∀ (s : Bool) (m a : Nat), Ieee.signed (!s) m a = -Ieee.signed s m a := fun s m a => by cases s <;> simp [Ieee.signed]
    simp only [Ieee.Datum.opposite, Ieee.Datum.sum, Option.map, fop, Option.getD]
    rw [so, ← Int.sub_eq_add_neg]
    exact ⟨_, rfl⟩
  obtain ⟨sg, e⟩ := e
  rw [e, abs_write rfl]
  show isNaN (F64.nearest false _ _) = false ∧ 2 * key (F64.nearest false _ _) ≤ U
  refine nearest_half (by omega) ?_
  have ka : key a = Ieee.signed s m (i - min i j).toNat * ((2 ^ (min i j + 1074).toNat : Nat) : Int) := by
    unfold key; rw [ha]
    show Ieee.signed s m (i + 1074).toNat = _
    rw [← signed_mul, show (i - min i j).toNat + (min i j + 1074).toNat = (i + 1074).toNat by omega]
  have kb : key b = Ieee.signed t n (j - min i j).toNat * ((2 ^ (min i j + 1074).toNat : Nat) : Int) := by
    unfold key; rw [hb]
    show Ieee.signed t n (j + 1074).toNat = _
    rw [← signed_mul, show (j - min i j).toNat + (min i j + 1074).toNat = (j + 1074).toNat by omega]
  rw [ka, kb] at h1 h2
  generalize Ieee.signed s m _ = x at *
  generalize Ieee.signed t n _ = y at *
  generalize 2 ^ (min i j + 1074).toNat = g at *
  have e3 : (((x - y).natAbs * g : Nat) : Int) = ((x * (g : Int) - y * (g : Int)).natAbs : Int) := by
    rw [← Int.sub_mul, Int.natAbs_mul, Int.natAbs_natCast]
  generalize (x - y).natAbs * g = z at *
  generalize x * (g : Int) = xg at *
  generalize y * (g : Int) = yg at *
  omega
theorem key_half : 2 * key HALF = (U : Int) := by
  rw [key_num read_half, if_neg (by decide), U_split (a := 53) (b := 1021) rfl, show ((-53 : Int) + 1074).toNat = 1021 from rfl]
  generalize 2 ^ 1021 = z
  omega
theorem nan_half : isNaN HALF = false := by decide
end Go.Proofs.Ytmcloipjlihhlaa.N
