/- Unrounded scaling is exact where nothing comes near to a whole number without being one. Conditions: none. -/
import Derived.Test.YtfjflbapojgbhaaGreatDoorWTxt
namespace Go.Proofs.YtfjflbapojgbhaaGreatDoor.N
open Go.X Go.Proofs.YtfjflbapojgbhaaGreatDoor
set_option maxRecDepth 100000

/-- The floor of N / D, and whether something is left. -/
def uex (N D : Nat) : Nat := N / D ||| (if N % D = 0 then 0 else 1)
theorem floor_of {X D q r : Nat} (h : X = q * D + r) (h1 : 0 < r) (h2 : r < D) : uex X D = q ||| 1 := by
  have e1 : X / D = q := by
    rw [h, Nat.mul_comm, Nat.mul_add_div (by omega), Nat.div_eq_of_lt h2, Nat.add_zero]
  have e2 : X % D = r := by rw [h, Nat.mul_comm, Nat.mul_add_mod, Nat.mod_eq_of_lt h2]
  unfold uex; rw [e1, e2, if_neg (by omega)]
theorem floor_ex {X D q : Nat} (h : X = q * D) (hD : 0 < D) : uex X D = q ||| 0 := by
  unfold uex; rw [h, Nat.mul_div_cancel _ hD, Nat.mul_mod_left, if_pos rfl]
theorem usc_exact {x hi lo s a b : Nat} (hx : x < 18446744073709551616) (hlo : lo < 18446744073709551616) (hhi : hi < 18446744073709551616) (hb : 0 < b) (hl : lo ≤ hi * 18446744073709551616)
    (t1 : a ≤ (hi * 18446744073709551616 - lo) * b) (t2 : (hi * 18446744073709551616 - lo) * b < a + b)
    (nc : ∀ q, q * (18446744073709551616 * 2 ^ s * (18446744073709551616 * b)) < x * a + 2 * (18446744073709551616 * b) → x * a < q * (18446744073709551616 * 2 ^ s * (18446744073709551616 * b)) + 2 * (18446744073709551616 * b) → x * a = q * (18446744073709551616 * 2 ^ s * (18446744073709551616 * b))) :
    usc x hi lo s = uex (x * a) (18446744073709551616 * 2 ^ s * (18446744073709551616 * b)) := by
  obtain ⟨δ, hδ⟩ : ∃ δ, (hi * 18446744073709551616 - lo) * b = a + δ := ⟨(hi * 18446744073709551616 - lo) * b - a, by omega⟩
  have hδb : δ < b := by omega
  have hm2 : x * lo / 18446744073709551616 ≤ 18446744073709551614 := by
    have h1 : x * lo ≤ 18446744073709551615 * 18446744073709551615 := Nat.mul_le_mul (by omega) (by omega)
    omega
  have hPM := Nat.div_add_mod (x * hi) 18446744073709551616
  have hQR := Nat.div_add_mod (x * lo) 18446744073709551616
  have hM : x * hi % 18446744073709551616 < 18446744073709551616 := Nat.mod_lt _ (by decide)
  have hr : x * lo % 18446744073709551616 < 18446744073709551616 := Nat.mod_lt _ (by decide)
  have hH : x * hi / 18446744073709551616 < 18446744073709551616 := div_lt64 hx hhi
  -- x a + rho = K * Bz
  have main : x * a + (x * lo % 18446744073709551616 * b + x * δ) + x * lo / 18446744073709551616 * (18446744073709551616 * b) = (x * hi / 18446744073709551616 * 18446744073709551616 + x * hi % 18446744073709551616) * (18446744073709551616 * b) := by
    have e1 : x * ((hi * 18446744073709551616 - lo) * b) = x * a + x * δ := by rw [hδ, Nat.mul_add]
    have e2 : x * ((hi * 18446744073709551616 - lo) * b) + x * lo * b = x * hi * 18446744073709551616 * b := by
      have : (hi * 18446744073709551616 - lo) * b + lo * b = hi * 18446744073709551616 * b := by rw [← Nat.add_mul]; congr 1; omega
      rw [Nat.mul_assoc x lo b, ← Nat.mul_add, this]
      simp only [Nat.mul_assoc]
    have e3 : x * lo * b = x * lo / 18446744073709551616 * (18446744073709551616 * b) + x * lo % 18446744073709551616 * b := by
      conv => lhs; rw [← hQR]
      rw [Nat.add_mul]; congr 1
      rw [Nat.mul_comm 18446744073709551616, Nat.mul_assoc]
    have e4 : (x * hi / 18446744073709551616 * 18446744073709551616 + x * hi % 18446744073709551616) * (18446744073709551616 * b) = x * hi * 18446744073709551616 * b := by
      rw [Nat.mul_comm (x * hi / 18446744073709551616), hPM, Nat.mul_assoc (x * hi)]
    omega
  have hρ : x * lo % 18446744073709551616 * b + x * δ < 2 * (18446744073709551616 * b) := by
    have h1 : x * lo % 18446744073709551616 * b ≤ 18446744073709551615 * b := Nat.mul_le_mul_right _ (by omega)
    have h2 : x * δ ≤ 18446744073709551615 * b := Nat.mul_le_mul (by omega) (by omega)
    omega
  generalize x * lo % 18446744073709551616 * b + x * δ = ρ at *
  unfold usc
  simp only []
  generalize x * hi / 18446744073709551616 = H at *
  generalize x * hi % 18446744073709551616 = M at *
  generalize x * lo / 18446744073709551616 = m2 at *
  have hB : 0 < 18446744073709551616 * b := by omega
  generalize hBz : 18446744073709551616 * b = B at *
  generalize x * a = X at *
  clear hPM hQR hδ t1 t2 hl
  have hS : 0 < 2 ^ s := Nat.two_pow_pos s
  have hHq := Nat.div_add_mod H (2 ^ s)
  have hh := Nat.mod_lt H hS
  generalize hq : H / 2 ^ s = q at *
  generalize H % 2 ^ s = h at *
  -- K in terms of q
  have eK : (H * 18446744073709551616 + M) * B = q * (18446744073709551616 * 2 ^ s * B) + (h * 18446744073709551616 + M) * B := by
    have e : H * 18446744073709551616 = 2 ^ s * q * 18446744073709551616 + h * 18446744073709551616 := by rw [← Nat.add_mul, hHq]
    rw [e, Nat.add_assoc, Nat.add_mul]
    congr 1
    ac_rfl
  rw [eK] at main
  generalize hD : 18446744073709551616 * 2 ^ s * B = D at *
  have hDB : D = 18446744073709551616 * 2 ^ s * B := hD.symm
  by_cases h0 : h = 0
  · subst h0
    rw [if_pos (by rw [Nat.mul_comm]; exact hHq)]
    have hMm : (0 * 18446744073709551616 + M) * B = M * B := by rw [Nat.zero_mul, Nat.zero_add]
    rw [hMm] at main
    by_cases c1 : M < m2
    · -- below
      have hMB : m2 * B = M * B + (m2 - M) * B := by rw [← Nat.add_mul]; congr 1; omega
      have hge : B ≤ (m2 - M) * B := Nat.le_mul_of_pos_left _ (by omega)
      have hle : (m2 - M) * B + 2 * B ≤ 18446744073709551616 * B := by rw [← Nat.add_mul]; exact Nat.mul_le_mul_right _ (by omega)
      have hDge : 18446744073709551616 * B ≤ D := by rw [hDB]; exact Nat.mul_le_mul_right _ (Nat.le_mul_of_pos_right _ hS)
      have hq0 : q ≠ 0 := by
        rintro rfl
        rw [Nat.zero_mul] at main; omega
      obtain ⟨q', rfl⟩ := Nat.exists_eq_succ_of_ne_zero hq0
      have hX : X = q' * D + (D - (m2 - M) * B - ρ) := by
        rw [Nat.succ_mul] at main; omega
      rw [floor_of hX (by omega) (by omega)]
      have hH1 : H = 2 ^ s * (q' + 1) := by rw [← hHq, Nat.add_zero]
      have e5 : (H + 18446744073709551616 - 1) % 18446744073709551616 / 2 ^ s = q' := by
        have : (H + 18446744073709551616 - 1) % 18446744073709551616 = H - 1 := by
          have : 0 < H := by rw [hH1]; exact Nat.mul_pos hS (by omega)
          omega
        rw [this, hH1, Nat.mul_add, Nat.mul_one, Nat.add_sub_assoc (by omega), Nat.mul_add_div hS, Nat.div_eq_of_lt (by omega), Nat.add_zero]
      rw [if_pos c1, e5, if_pos (by omega)]
    · rw [if_neg c1]
      have e5 : (H + 18446744073709551616 - 0) % 18446744073709551616 / 2 ^ s = q := by
        rw [show (H + 18446744073709551616 - 0) % 18446744073709551616 = H by omega]; exact hq
      rw [e5]
      have hMB : M * B = m2 * B + (M - m2) * B := by rw [← Nat.add_mul]; congr 1; omega
      by_cases c2 : 2 ≤ M - m2
      · have hge : 2 * B ≤ (M - m2) * B := Nat.mul_le_mul_right _ c2
        have hlt : (M - m2) * B < 18446744073709551616 * B := Nat.mul_lt_mul_of_pos_right (by omega) hB
        have hDge : 18446744073709551616 * B ≤ D := by rw [hDB]; exact Nat.mul_le_mul_right _ (Nat.le_mul_of_pos_right _ hS)
        have hX : X = q * D + ((M - m2) * B - ρ) := by omega
        rw [floor_of hX (by omega) (by omega), if_pos (by omega)]
      · have hle : (M - m2) * B ≤ 1 * B := Nat.mul_le_mul_right _ (by omega)
        have hX := nc q (by omega) (by omega)
        rw [floor_ex hX (by have : 18446744073709551616 * B ≤ D := (by rw [hDB]; exact Nat.mul_le_mul_right _ (Nat.le_mul_of_pos_right _ hS)); omega), if_neg (by omega)]
  · rw [if_neg (by intro e; rw [Nat.mul_comm] at e; omega)]
    have hMB : (h * 18446744073709551616 + M) * B = m2 * B + (h * 18446744073709551616 + M - m2) * B := by rw [← Nat.add_mul]; congr 1; omega
    have hge : 2 * B ≤ (h * 18446744073709551616 + M - m2) * B := Nat.mul_le_mul_right _ (by omega)
    have hle : (h * 18446744073709551616 + M - m2) * B + B ≤ D := by
      have : (h * 18446744073709551616 + M - m2) * B + B = (h * 18446744073709551616 + M - m2 + 1) * B := by rw [Nat.add_mul, Nat.one_mul]
      rw [this, hDB]
      refine Nat.mul_le_mul_right _ ?_
      have : (h + 1) * 18446744073709551616 ≤ 2 ^ s * 18446744073709551616 := Nat.mul_le_mul_right _ hh
      omega
    have hX : X = q * D + ((h * 18446744073709551616 + M - m2) * B - ρ) := by omega
    rw [floor_of hX (by omega) (by omega)]
end Go.Proofs.YtfjflbapojgbhaaGreatDoor.N

/- The table of powers of ten is right, and no product of it with a number of few bits comes near to a whole number without being one (neighbours among fractions, each power by itself). Conditions: none. -/
namespace Go.Proofs.YtfjflbapojgbhaaGreatDoor.N
open Go.X Go.Proofs.YtfjflbapojgbhaaGreatDoor
set_option maxRecDepth 100000

/-- 10^p * 2^(127 - l2 p) as a fraction. -/
def ta (p : Int) : Nat := if 0 ≤ p then 10 ^ p.toNat * 2 ^ (127 - l2 p).toNat else 2 ^ (127 - l2 p).toNat
def tb (p : Int) : Nat := if 0 ≤ p then 2 ^ (l2 p - 127).toNat else 10 ^ (-p).toNat
def ckT (h l : Nat) (p : Int) : Bool := decide (l ≤ h * 18446744073709551616) && decide (ta p ≤ (h * 18446744073709551616 - l) * tb p) && decide ((h * 18446744073709551616 - l) * tb p < ta p + tb p) && decide (ta p < 340282365653287863235145205935065006080 * tb p) && decide (170141183460469231731687303715884105728 * tb p ≤ ta p)
/-- Neighbours of a / be among the fractions of denominators up to X: (n1, d1, n2, d2). -/
def far (X : Nat) : Nat → Nat → Nat → Nat → Nat → Nat → Nat → Nat × Nat × Nat × Nat
  | 0, n1, d1, n2, d2, _, _ => (n1, d1, n2, d2)
  | f + 1, n1, d1, n2, d2, u, v =>
    if d1 + d2 ≤ X then
      if v ≤ u then
        let k := if d2 = 0 then u / v else if v = 0 then (X - d1) / d2 else min (u / v) ((X - d1) / d2)
        far X f (n1 + k * n2) (d1 + k * d2) n2 d2 (u - k * v) v
      else
        let k := if u = 0 then (X - d2) / d1 else min (v / u) ((X - d2) / d1)
        far X f n1 d1 (n2 + k * n1) (d2 + k * d1) u (v - k * u)
    else (n1, d1, n2, d2)
def okF (a be t X : Nat) (q : Nat × Nat × Nat × Nat) : Bool :=
  let (n1, d1, n2, d2) := q
  decide (n2 * d1 = n1 * d2 + 1) && decide (n1 * be ≤ a * d1) && decide (a * d2 ≤ n2 * be) && decide (X < d1 + d2) &&
    (decide (a * d1 = n1 * be) || decide (n1 * be + t ≤ a * d1)) && (decide (n2 * be = a * d2) || decide (a * d2 + t ≤ n2 * be))
def ckN (X mo tol : Nat) (p : Int) : Bool := okF (ta p) (2 ^ mo * tb p) (2 ^ tol * tb p) X (far X 100 0 1 1 0 (ta p) (2 ^ mo * tb p))
def ckL (f : Nat → Nat → Int → Bool) : List (Nat × Nat) → Nat → Bool
  | [], _ => true
  | x :: r, k => f x.1 x.2 ((k : Int) - 348) && ckL f r (k + 1)
theorem ckL_at {f : Nat → Nat → Int → Bool} : ∀ {l : List (Nat × Nat)} {k : Nat}, ckL f l k = true → ∀ (i : Nat) (x : Nat × Nat), l[i]? = some x → f x.1 x.2 (((k + i : Nat) : Int) - 348) = true
  | y :: l, k, h, i, x, hi => by
    simp only [ckL, Bool.and_eq_true] at h
    cases i with
    | zero => simp at hi; subst hi; exact h.1
    | succ i =>
      have := ckL_at h.2 i x (by simpa using hi)
      rwa [show k + 1 + i = k + (i + 1) by omega] at this
theorem flat_get : ∀ (l : List (Nat × Nat)) (i : Nat) (x : Nat × Nat), l[i]? = some x → (l.flatMap fun x => [(x.1 : Int), (x.2 : Int)])[i * 2]? = some (x.1 : Int) ∧ (l.flatMap fun x => [(x.1 : Int), (x.2 : Int)])[i * 2 + 1]? = some (x.2 : Int)
  | y :: l, 0, x, h => by simp at h; subst h; exact ⟨rfl, rfl⟩
  | y :: l, i + 1, x, h => by
    obtain ⟨a, b⟩ := flat_get l i x (by simpa using h)
    rw [show (i + 1) * 2 = i * 2 + 1 + 1 by omega]
    simp only [List.flatMap_cons, List.cons_append, List.nil_append, List.getElem?_cons_succ]
    exact ⟨a, b⟩
theorem rows_len : Go.Pinned.pow10Rows.length = 696 := by kernel_rfl
theorem at_all {f : Nat → Nat → Int → Bool} (h : ckL f Go.Pinned.pow10Rows 0 = true) {p : Int} (h1 : -348 ≤ p) (h2 : p ≤ 347) : f (hiP p) (loP p) p = true := by
  obtain ⟨x, hx⟩ : ∃ x, Go.Pinned.pow10Rows[(p + 348).toNat]? = some x := ⟨_, List.getElem?_eq_getElem (by rw [rows_len]; omega)⟩
  have k := ckL_at h _ x hx
  obtain ⟨a, b⟩ := flat_get _ _ _ hx
  have e1 : hiP p = x.1 := by
    unfold hiP tT; rw [List.getD_eq_getElem?_getD, a]; rfl
  have e2 : loP p = x.2 := by
    unfold loP tT; rw [List.getD_eq_getElem?_getD, b]; rfl
  rw [e1, e2]
  rwa [show (((0 + (p + 348).toNat : Nat) : Int)) - 348 = p by omega] at k
theorem ckP_all : ckL (fun _ _ p => ckN 144115188075855871 129 58 p) Go.Pinned.pow10Rows 0 = true := by kernel_rfl
theorem ckT_all : ckL ckT Go.Pinned.pow10Rows 0 = true := by kernel_rfl
end Go.Proofs.YtfjflbapojgbhaaGreatDoor.N

/- What the neighbours say. Conditions: none. -/
namespace Go.Proofs.YtfjflbapojgbhaaGreatDoor.N
open Go.X Go.Proofs.YtfjflbapojgbhaaGreatDoor
set_option maxRecDepth 100000

theorem near_int {a be n1 d1 n2 d2 x q t X : Int} (hdet : n2 * d1 = n1 * d2 + 1) (hu : n1 * be ≤ a * d1) (hv : a * d2 ≤ n2 * be) (hX : X < d1 + d2) (hd1 : 0 ≤ d1) (hd2 : 0 ≤ d2)
    (cu : a * d1 = n1 * be ∨ n1 * be + t ≤ a * d1) (cv : n2 * be = a * d2 ∨ a * d2 + t ≤ n2 * be) (x0 : 0 < x) (x1 : x ≤ X) (c1 : q * be < x * a + t) (c2 : x * a < q * be + t) : x * a = q * be := by
  obtain ⟨i, hi⟩ : ∃ i, i = x * n2 - q * d2 := ⟨_, rfl⟩
  obtain ⟨j, hj⟩ : ∃ j, j = q * d1 - x * n1 := ⟨_, rfl⟩
  obtain ⟨u, hu'⟩ : ∃ u, u = a * d1 - n1 * be := ⟨_, rfl⟩
  obtain ⟨v, hv'⟩ : ∃ v, v = n2 * be - a * d2 := ⟨_, rfl⟩
  have ex : x = i * d1 + j * d2 := by
    have : x * (n2 * d1) = x * (n1 * d2 + 1) := by rw [hdet]
    rw [hi, hj]; grind
  have eq : q = i * n1 + j * n2 := by
    have : q * (n2 * d1) = q * (n1 * d2 + 1) := by rw [hdet]
    rw [hi, hj]; grind
  have em : x * a - q * be = i * u - j * v := by
    rw [hu', hv', ex, eq]; grind
  have u0 : 0 ≤ u := by omega
  have v0 : 0 ≤ v := by omega
  have ct : 0 < t := by omega
  have cu' : u = 0 ∨ t ≤ u := by omega
  have cv' : v = 0 ∨ t ≤ v := by omega
  clear hi hj hu' hv' hu hv cu cv
  by_cases hi1 : 1 ≤ i
  · by_cases hj1 : 1 ≤ j
    · have a1 : 1 * d1 ≤ i * d1 := Int.mul_le_mul_of_nonneg_right hi1 hd1
      have a2 : 1 * d2 ≤ j * d2 := Int.mul_le_mul_of_nonneg_right hj1 hd2
      omega
    · -- value >= u
      have a1 : 1 * u ≤ i * u := Int.mul_le_mul_of_nonneg_right hi1 u0
      have a2 : j * v ≤ 0 * v := Int.mul_le_mul_of_nonneg_right (by omega) v0
      rcases cu' with h | h
      · subst h
        rw [Int.mul_zero] at em
        by_cases hj0 : j = 0
        · subst hj0; rw [Int.zero_mul] at em; omega
        · have a3 : j * v ≤ (-1) * v := Int.mul_le_mul_of_nonneg_right (by omega) v0
          rcases cv' with k | k
          · subst k; rw [Int.mul_zero] at em; omega
          · omega
      · omega
  · by_cases hj1 : 1 ≤ j
    · have a1 : 1 * v ≤ j * v := Int.mul_le_mul_of_nonneg_right hj1 v0
      have a2 : i * u ≤ 0 * u := Int.mul_le_mul_of_nonneg_right (by omega) u0
      rcases cv' with h | h
      · subst h
        rw [Int.mul_zero] at em
        by_cases hi0 : i = 0
        · subst hi0; rw [Int.zero_mul] at em; omega
        · have a3 : i * u ≤ (-1) * u := Int.mul_le_mul_of_nonneg_right (by omega) u0
          rcases cu' with k | k
          · subst k; rw [Int.mul_zero] at em; omega
          · omega
      · omega
    · have a1 : i * d1 ≤ 0 * d1 := Int.mul_le_mul_of_nonneg_right (by omega) hd1
      have a2 : j * d2 ≤ 0 * d2 := Int.mul_le_mul_of_nonneg_right (by omega) hd2
      omega
theorem nc_of {a be t X : Nat} {q : Nat × Nat × Nat × Nat} (h : okF a be t X q = true) {x k : Nat} (x0 : 0 < x) (x1 : x ≤ X) (c1 : k * be < x * a + t) (c2 : x * a < k * be + t) : x * a = k * be := by
  obtain ⟨n1, d1, n2, d2⟩ := q
  simp only [okF, Bool.and_eq_true, Bool.or_eq_true, decide_eq_true_eq] at h
  obtain ⟨⟨⟨⟨⟨h1, h2⟩, h3⟩, h4⟩, h5⟩, h6⟩ := h
  have := near_int (a := a) (be := be) (n1 := n1) (d1 := d1) (n2 := n2) (d2 := d2) (x := x) (q := k) (t := t) (X := X) (by exact_mod_cast h1) (by exact_mod_cast h2) (by exact_mod_cast h3) (by exact_mod_cast h4) (by omega) (by omega)
    (by rcases h5 with h | h
        · exact .inl (by exact_mod_cast h)
        · exact .inr (by exact_mod_cast h)) (by rcases h6 with h | h
                                                · exact .inl (by exact_mod_cast h)
                                                · exact .inr (by exact_mod_cast h)) (by exact_mod_cast x0) (by exact_mod_cast x1) (by exact_mod_cast c1) (by exact_mod_cast c2)
  exact_mod_cast this
end Go.Proofs.YtfjflbapojgbhaaGreatDoor.N

/- A number lies where it is rounded to a float; there is one such float at most. Conditions: none. -/
namespace Go.Proofs.YtfjflbapojgbhaaGreatDoor.N
open Go.X Go.Proofs.YtfjflbapojgbhaaGreatDoor
set_option maxRecDepth 100000

def W (e : Int) : Nat := 2 ^ (e + 1074).toNat
theorem W_pos (e : Int) : 0 < W e := Nat.two_pow_pos _
/-- y = Y / (4 * 2^1074 * d) is rounded to M * 2^e (ties to even). -/
structure In (Y d M : Nat) (e : Int) : Prop where
  e0 : -1074 ≤ e
  mx : M < 9007199254740992
  mn : e = -1074 ∨ 4503599627370496 ≤ M
  up : Y ≤ (4 * M + 2) * (W e * d)
  ups : M % 2 = 1 → Y < (4 * M + 2) * (W e * d)
  dn : 4 * M * (W e * d) ≤ Y + 2 * (W e * d)
  dns : M % 2 = 1 → 4 * M * (W e * d) < Y + 2 * (W e * d)
  dnq : M = 4503599627370496 → e ≠ -1074 → 4 * M * (W e * d) ≤ Y + W e * d
theorem In.lt {Y d M M' : Nat} {e e' : Int} (hd : 0 < d) (a : In Y d M e) (b : In Y d M' e') : ¬ e < e' := by
  intro h
  have he := a.e0
  have hW : 2 * (W e * d) ≤ W e' * d := by
    rw [← Nat.mul_assoc]
    refine Nat.mul_le_mul_right _ ?_
    unfold W
    rw [Nat.mul_comm, ← Nat.pow_succ]
    exact Nat.pow_le_pow_right (by decide) (by omega)
  have hB : 0 < W e * d := Nat.mul_pos (W_pos e) hd
  have up := a.up; have ups := a.ups; have mx := a.mx
  have hM' : 4503599627370496 ≤ M' := by rcases b.mn with h | h <;> omega
  have dn := b.dn; have dnq := b.dnq
  generalize W e * d = B at *
  generalize W e' * d = B' at *
  have u1 : (4 * M + 2) * B ≤ (4 * 9007199254740991 + 2) * B := Nat.mul_le_mul_right _ (by omega)
  by_cases h52 : M' = 4503599627370496
  · subst h52
    have := dnq rfl (by omega)
    by_cases hm : M = 9007199254740991
    · subst hm
      have := ups (by decide)
      omega
    · have u2 : (4 * M + 2) * B ≤ (4 * 9007199254740990 + 2) * B := Nat.mul_le_mul_right _ (by omega)
      omega
  · have u2 : 4 * 4503599627370497 * B' ≤ 4 * M' * B' := Nat.mul_le_mul_right _ (by omega)
    omega
theorem In.leM {Y d M M' : Nat} {e : Int} (hd : 0 < d) (a : In Y d M e) (b : In Y d M' e) : ¬ M < M' := by
  intro h
  have hB : 0 < W e * d := Nat.mul_pos (W_pos e) hd
  have up := a.up; have ups := a.ups
  have dn := b.dn; have dns := b.dns
  generalize W e * d = B at *
  by_cases h1 : M' = M + 1
  · subst h1
    have e1 : 4 * (M + 1) * B = (4 * M + 2) * B + 2 * B := by rw [← Nat.add_mul]; congr 1
    rw [e1] at dn dns
    rcases Nat.mod_two_eq_zero_or_one M with h2 | h2
    · have := dns (by omega); omega
    · have := ups h2; omega
  · have e1 : (4 * M + 8) * B ≤ 4 * M' * B := Nat.mul_le_mul_right _ (by omega)
    have e2 : (4 * M + 8) * B = (4 * M + 2) * B + 6 * B := by rw [← Nat.add_mul]
    omega
theorem In.uniq {Y d M M' : Nat} {e e' : Int} (hd : 0 < d) (a : In Y d M e) (b : In Y d M' e') : M = M' ∧ e = e' := by
  have he : e = e' := by
    have h1 := a.lt hd b
    have h2 := b.lt hd a
    omega
  subst he
  have h1 := a.leM hd b
  have h2 := b.leM hd a
  omega
theorem or_one (n : Nat) : n ||| 1 = n / 2 * 2 + 1 := by
  have h1 := Nat.or_mod_two_pow (a := n) (b := 1) (n := 1)
  have h2 := Nat.or_div_two_pow (a := n) (b := 1) (n := 1)
  have h3 : n % 2 ||| 1 = 1 := by rcases Nat.mod_two_eq_zero_or_one n with h | h <;> rw [h] <;> decide
  have h4 : n / 2 ||| 0 = n / 2 := Nat.or_zero _
  simp only [Nat.pow_one] at h1 h2
  have e1 : (1 : Nat) % 2 = 1 := rfl
  have e2 : (1 : Nat) / 2 = 0 := rfl
  rw [e1, h3] at h1
  rw [e2, h4] at h2
  omega
/-- u tells the number N / D to a quarter: exactly, or strictly between. -/
theorem uex_cases {N D : Nat} (hD : 0 < D) : (uex N D * D = N) ∨ (uex N D % 2 = 1 ∧ (uex N D - 1) * D < N ∧ N < (uex N D + 1) * D) := by
  have h := Nat.div_add_mod N D
  have hlt := Nat.mod_lt N hD
  have hc : D * (N / D) = N / D * D := Nat.mul_comm _ _
  unfold uex
  by_cases h0 : N % D = 0
  · rw [if_pos h0, Nat.or_zero]; left; omega
  · rw [if_neg h0, or_one]
    right
    generalize N / D = q at *
    have e1 : (q / 2 * 2 + 1 - 1) * D ≤ q * D := Nat.mul_le_mul_right _ (by omega)
    have e2 : (q + 1) * D ≤ (q / 2 * 2 + 1 + 1) * D := Nat.mul_le_mul_right _ (by omega)
    have e3 : (q + 1) * D = q * D + D := by rw [Nat.add_mul, Nat.one_mul]
    refine ⟨by omega, by omega, by omega⟩
theorem uex_scale {N D c : Nat} (hc : 0 < c) : uex (N * c) (D * c) = uex N D := by
  unfold uex
  rw [Nat.mul_div_mul_right _ _ hc, Nat.mul_mod_mul_right]
  congr 1
  by_cases h : N % D = 0
  · rw [h, Nat.zero_mul]
  · rw [if_neg h, if_neg]
    have := Nat.mul_pos (Nat.pos_of_ne_zero h) hc
    omega
theorem uex_eq {N D N' D' : Nat} (hD : 0 < D) (hD' : 0 < D') (h : N * D' = N' * D) : uex N D = uex N' D' := by
  rw [← uex_scale (N := N) (D := D) hD', ← uex_scale (N := N') (D := D') hD, h, Nat.mul_comm D D']
theorem uex_half {N D : Nat} (hD : 0 < D) : uex N (2 * D) = (uex N D / 2) ||| (uex N D % 2) := by
  have e1 : N / (2 * D) = N / D / 2 := by rw [Nat.mul_comm, Nat.div_div_eq_div_mul]
  have e2 : N % (2 * D) = N % D + D * (N / D % 2) := by rw [Nat.mul_comm 2 D, Nat.mod_mul]
  unfold uex
  rw [e1, e2]
  generalize N / D = q
  by_cases h : N % D = 0
  · rw [h, if_pos rfl, Nat.or_zero, Nat.zero_add]
    rcases Nat.mod_two_eq_zero_or_one q with h2 | h2
    · rw [h2, Nat.mul_zero, if_pos rfl]
    · rw [h2, Nat.mul_one, if_neg (by omega)]
  · rw [if_neg (by omega), if_neg h, or_one q]
    have e3 : (q / 2 * 2 + 1) / 2 = q / 2 := by omega
    have e4 : (q / 2 * 2 + 1) % 2 = 1 := by omega
    rw [e3, e4]
/-- To the nearest, ties to even. -/
theorem rnd_near {N D u : Nat} (hD : 0 < D) (hu : u = uex N D) (hl : u < 18446744073709551610) :
    N ≤ (4 * rnd u + 2) * D ∧ (rnd u % 2 = 1 → N < (4 * rnd u + 2) * D) ∧ 4 * rnd u * D ≤ N + 2 * D ∧ (rnd u % 2 = 1 → 4 * rnd u * D < N + 2 * D) := by
  have hr : rnd u = (u + 1 + u / 4 % 2) / 4 := by unfold rnd; rw [Nat.mod_eq_of_lt (by omega)]
  rcases uex_cases (N := N) hD with h | ⟨h1, h2, h3⟩
  · rw [← hu] at h
    obtain ⟨k, hk⟩ : ∃ k, k = rnd u := ⟨_, rfl⟩
    rw [← hk] at hr ⊢
    have b1 : u ≤ 4 * k + 2 := by omega
    have b2 : 4 * k ≤ u + 2 := by omega
    have e1 : u * D ≤ (4 * k + 2) * D := Nat.mul_le_mul_right _ b1
    have e2 : 4 * k * D ≤ (u + 2) * D := Nat.mul_le_mul_right _ b2
    have e3 : (u + 2) * D = u * D + 2 * D := Nat.add_mul _ _ _
    refine ⟨by omega, fun ho => ?_, by omega, fun ho => ?_⟩
    · have : u * D < (4 * k + 2) * D := Nat.mul_lt_mul_of_pos_right (by omega) hD
      omega
    · have : 4 * k * D < (u + 2) * D := Nat.mul_lt_mul_of_pos_right (by omega) hD
      omega
  · rw [← hu] at h1 h2 h3
    obtain ⟨k, hk⟩ : ∃ k, k = rnd u := ⟨_, rfl⟩
    rw [← hk] at hr ⊢
    have e1 : (u + 1) * D ≤ (4 * k + 2) * D := Nat.mul_le_mul_right _ (by omega)
    have e2 : 4 * k * D ≤ (u - 1 + 2) * D := Nat.mul_le_mul_right _ (by omega)
    have e3 : (u - 1 + 2) * D = (u - 1) * D + 2 * D := Nat.add_mul _ _ _
    exact ⟨by omega, fun _ => by omega, by omega, fun _ => by omega⟩
end Go.Proofs.YtfjflbapojgbhaaGreatDoor.N
