/- Numbers of 64 bits as natural numbers: shifts, masks, wraps. Conditions: none. -/
import Derived.Test.YtfjflbapojgbhaaGreatDoorWBr
namespace Go.Proofs.YtfjflbapojgbhaaGreatDoor.N
open Go.X Go.Proofs.YtfjflbapojgbhaaGreatDoor
set_option maxRecDepth 100000

theorem powN (k : Nat) : ((2 : Int) ^ k) = ((2 ^ k : Nat) : Int) := by rw [Int.natCast_pow]; rfl
theorem shr (a k : Nat) : Int.fdiv (a : Int) (2 ^ k) = ((a / 2 ^ k : Nat) : Int) := by
  rw [powN, Int.fdiv_eq_ediv_of_nonneg _ (Int.natCast_nonneg _)]; rfl
theorem shrI (a : Int) (k : Nat) : Int.fdiv a (2 ^ k) = a / 2 ^ k := Int.fdiv_eq_ediv_of_nonneg _ (by rw [powN]; exact Int.natCast_nonneg _)
theorem wrapU (a : Nat) : IntKind.u64.wrap (a : Int) = ((a % 18446744073709551616 : Nat) : Int) := by rw [IntKind.wrap_u64]; omega
theorem wrapU' {a : Nat} (h : a < 18446744073709551616) : IntKind.u64.wrap (a : Int) = (a : Int) := by rw [IntKind.wrap_u64]; omega
theorem wrapS (a b : Nat) (hb : b ≤ 18446744073709551616) : IntKind.u64.wrap ((a : Int) - (b : Int)) = (((a + 18446744073709551616 - b) % 18446744073709551616 : Nat) : Int) := by rw [IntKind.wrap_u64]; omega
theorem wrapSL {a b : Nat} (h : b ≤ a) (ha : a < 18446744073709551616) : IntKind.u64.wrap ((a : Int) - (b : Int)) = ((a - b : Nat) : Int) := by rw [IntKind.wrap_u64]; omega
theorem and_i64 (x : Int) (m : Nat) (hm : m < 9223372036854775808) : bits .and .i64 x (m : Int) = (((x % 18446744073709551616).toNat &&& m : Nat) : Int) := by
  show IntKind.i64.wrap ((BitVec.ofInt 64 x &&& BitVec.ofInt 64 (m : Int)).toNat : Int) = _
  rw [BitVec.toNat_and, BitVec.toNat_ofInt, BitVec.ofInt_natCast, BitVec.toNat_ofNat, Nat.mod_eq_of_lt (show m < 2 ^ 64 by omega)]
  have h1 : (x % 18446744073709551616).toNat &&& m ≤ m := Nat.and_le_right
  have e : (x % ((2 ^ 64 : Nat) : Int)) = x % 18446744073709551616 := rfl
  rw [e, IntKind.wrap_i64]; omega
theorem and63 (x : Int) : bits .and .i64 x 63 = (((x % 64).toNat : Nat) : Int) := by
  have := and_i64 x 63 (by decide)
  have e : (x % 18446744073709551616).toNat &&& 63 = (x % 18446744073709551616).toNat % 64 := Nat.and_two_pow_sub_one_eq_mod _ 6
  rw [e] at this
  rw [show ((63 : Int)) = ((63 : Nat) : Int) from rfl, this]; omega
theorem and1 (x : Int) : bits .and .i64 x 1 = (((x % 2).toNat : Nat) : Int) := by
  have := and_i64 x 1 (by decide)
  have e : (x % 18446744073709551616).toNat &&& 1 = (x % 18446744073709551616).toNat % 2 := Nat.and_two_pow_sub_one_eq_mod _ 1
  rw [e] at this
  rw [show ((1 : Int)) = ((1 : Nat) : Int) from rfl, this]; omega
theorem and2047 (x : Int) : bits .and .i64 x 2047 = (((x % 2048).toNat : Nat) : Int) := by
  have := and_i64 x 2047 (by decide)
  have e : (x % 18446744073709551616).toNat &&& 2047 = (x % 18446744073709551616).toNat % 2048 := Nat.and_two_pow_sub_one_eq_mod _ 11
  rw [e] at this
  rw [show ((2047 : Int)) = ((2047 : Nat) : Int) from rfl, this]; omega
theorem and1u (a : Nat) (ha : a < 18446744073709551616) : bits .and .u64 (a : Int) 1 = ((a % 2 : Nat) : Int) := by
  have := bits_and_u64_nat a 1 ha (by decide)
  rw [show ((1 : Int)) = ((1 : Nat) : Int) from rfl, this, show a &&& 1 = a % 2 from Nat.and_two_pow_sub_one_eq_mod _ 1]
theorem and52 (a : Nat) (ha : a < 18446744073709551616) : bits .and .u64 (a : Int) 4503599627370495 = ((a % 4503599627370496 : Nat) : Int) := by
  have := bits_and_u64_nat a 4503599627370495 ha (by decide)
  rw [show ((4503599627370495 : Int)) = ((4503599627370495 : Nat) : Int) from rfl, this, show a &&& 4503599627370495 = a % 4503599627370496 from Nat.and_two_pow_sub_one_eq_mod _ 52]
theorem or52 (a : Nat) (ha : a < 4503599627370496) : bits .or .u64 (a : Int) 4503599627370496 = ((a + 4503599627370496 : Nat) : Int) := by
  have := bits_or_u64_nat a 4503599627370496 (by omega) (by decide)
  rw [show ((4503599627370496 : Int)) = ((4503599627370496 : Nat) : Int) from rfl, this]
  have h : a ||| 2 ^ 52 = a + 2 ^ 52 := by
    have := Nat.two_pow_add_eq_or_of_lt (i := 52) (b := a) (by omega) 1
    rw [Nat.mul_one] at this
    rw [Nat.or_comm, ← this]; omega
  exact congrArg _ h
def usc (x hi lo s : Nat) : Nat :=
  let H := x * hi / 18446744073709551616
  let M := x * hi % 18446744073709551616
  if H / 2 ^ s * 2 ^ s = H then
    let m2 := x * lo / 18446744073709551616
    ((H + 18446744073709551616 - (if M < m2 then 1 else 0)) % 18446744073709551616 / 2 ^ s) ||| (if (M + 18446744073709551616 - m2) % 18446744073709551616 > 1 then 1 else 0)
  else (H / 2 ^ s) ||| 1
theorem ok124N {x y : Nat} {R : Int → Int → Prop} (hx : x < 18446744073709551616) (hy : y < 18446744073709551616) (r : R ((x * y / 18446744073709551616 : Nat) : Int) ((x * y % 18446744073709551616 : Nat) : Int)) : Ok124 x y R :=
  ok124' (by omega) (by omega) (by omega) (by omega) r
theorem ok87' {b : Bool} {R : Int → Prop} (r : R (((if b then 1 else 0 : Nat)) : Int)) : Ok87 b R := by
  apply ok87; unfold T87
  cases b
  · exact cnd_f rfl r
  · exact cnd_t rfl r
theorem ok104' {b : Bool} {R : Int → Prop} (r : R (((if b then 1 else 0 : Nat)) : Int)) : Ok104 b R := by
  apply ok104; unfold T104
  cases b
  · exact cnd_f rfl r
  · exact cnd_t rfl r
theorem div_lt64 {x y : Nat} (hx : x < 18446744073709551616) (hy : y < 18446744073709551616) : x * y / 18446744073709551616 < 18446744073709551616 :=
  Nat.div_lt_of_lt_mul (Nat.mul_lt_mul'' hx hy)
theorem usc_lt {x hi lo s : Nat} (hx : x < 18446744073709551616) (hh : hi < 18446744073709551616) : usc x hi lo s < 18446744073709551616 := by
  have h64 : ((18446744073709551616 : Nat)) = 2 ^ 64 := by decide
  have hd := div_lt64 hx hh
  unfold usc
  simp only []
  rw [h64] at *
  have hs : ∀ a : Nat, a < 2 ^ 64 → a / 2 ^ s < 2 ^ 64 := fun a ha => Nat.lt_of_le_of_lt (Nat.div_le_self _ _) ha
  split
  · exact Nat.or_lt_two_pow (hs _ (Nat.mod_lt _ (by decide))) (by split <;> decide)
  · exact Nat.or_lt_two_pow (hs _ hd) (by decide)
theorem ok98' {x hi lo : Nat} {s : Int} {R : Int → Prop} (hx : x < 18446744073709551616) (hh : hi < 18446744073709551616) (hl : lo < 18446744073709551616) (r : R ((usc x hi lo (s % 64).toNat : Nat) : Int)) : Ok98 x hi lo s R := by
  apply ok98
  unfold T98
  refine ok124N hx hh ?_
  have hk : (s % 64).toNat < 64 := by omega
  have hd := div_lt64 hx hh
  have hd2 := div_lt64 hx hl
  have hmin : min (((s % 64).toNat : Nat) : Int).toNat 64 = (s % 64).toNat := by omega
  have h64 : ((18446744073709551616 : Nat)) = 2 ^ 64 := by decide
  rw [and63, hmin]
  generalize (s % 64).toNat = k at *
  have hM : x * hi % 18446744073709551616 < 18446744073709551616 := Nat.mod_lt _ (by decide)
  unfold usc at r
  simp only [] at r
  generalize x * hi / 18446744073709551616 = H at *
  generalize x * hi % 18446744073709551616 = M at *
  have hq : H / 2 ^ k < 18446744073709551616 := Nat.lt_of_le_of_lt (Nat.div_le_self _ _) hd
  refine ⟨Int.natCast_nonneg _, Int.natCast_nonneg _, ?_⟩
  rw [shr, powN, ← Int.natCast_mul, wrapU' (Nat.lt_of_le_of_lt (Nat.div_mul_le_self _ _) hd)]
  refine cnd_ne (fun e => ?_) fun e => ?_
  · rw [if_neg (fun h => e (by rw [h]))] at r
    refine ⟨Int.natCast_nonneg _, ?_⟩
    have := bits_or_u64_nat (H / 2 ^ k) 1 hq (by decide)
    rw [show ((1 : Int)) = ((1 : Nat) : Int) from rfl, this]
    exact r
  · rw [if_pos (Int.ofNat_inj.1 e)] at r
    refine ok124N hx hl ?_
    generalize x * lo / 18446744073709551616 = m2 at *
    refine ok87' ⟨Int.natCast_nonneg _, ok87' ?_⟩
    have c1 : ∀ c : Nat, c ≤ 1 → (IntKind.u64.wrap ((H : Int) - (c : Int))) = (((H + 18446744073709551616 - c) % 18446744073709551616 : Nat) : Int) := fun c hc => wrapS H c (by omega)
    rw [c1 _ (by split <;> omega), wrapS M m2 (by omega), ← powN, shr]
    have hle : ∀ c : Nat, (H + 18446744073709551616 - c) % 18446744073709551616 / 2 ^ k < 18446744073709551616 := fun c => Nat.lt_of_le_of_lt (Nat.div_le_self _ _) (Nat.mod_lt _ (by decide))
    rw [bits_or_u64_nat _ _ (hle _) (by split <;> omega)]
    have e1 : (decide ((M : Int) < (m2 : Int))) = decide (M < m2) := by simp
    have e2 : (decide ((((M + 18446744073709551616 - m2) % 18446744073709551616 : Nat) : Int) > 1)) = decide ((M + 18446744073709551616 - m2) % 18446744073709551616 > 1) := by
      rw [decide_eq_decide]; omega
    rw [e1, e2]
    simpa using r
end Go.Proofs.YtfjflbapojgbhaaGreatDoor.N

/- The shortest digits of a number, as natural numbers reckon them: the program's shortFloat. Conditions: none. -/
namespace Go.Proofs.YtfjflbapojgbhaaGreatDoor.N
open Go.X Go.Proofs.YtfjflbapojgbhaaGreatDoor
set_option maxRecDepth 100000
set_option maxHeartbeats 1000000

theorem tT_len : tT.length = 1392 := by kernel_rfl
theorem tT_all : (tT.all fun v => decide (0 ≤ v) && decide (v < 18446744073709551616)) = true := by kernel_rfl
def hiP (p : Int) : Nat := (tT.getD ((p + 348).toNat * 2) 0).toNat
def loP (p : Int) : Nat := (tT.getD ((p + 348).toNat * 2 + 1) 0).toNat
theorem tT_at {i : Nat} (h : i < 1392) : tT[i]? = some (((tT.getD i 0).toNat : Nat) : Int) ∧ (tT.getD i 0).toNat < 18446744073709551616 := by
  have hl : i < tT.length := by rw [tT_len]; exact h
  have hm := List.all_eq_true.1 tT_all _ (List.getElem_mem hl)
  simp only [Bool.and_eq_true, decide_eq_true_eq] at hm
  rw [List.getD_eq_getElem?_getD, List.getElem?_eq_getElem hl]
  simp only [Option.getD_some, Option.some.injEq]
  omega
theorem hiP_lt {p : Int} (h1 : -348 ≤ p) (h2 : p ≤ 347) : hiP p < 18446744073709551616 := (tT_at (i := (p + 348).toNat * 2) (by omega)).2
theorem loP_lt {p : Int} (h1 : -348 ≤ p) (h2 : p ≤ 347) : loP p < 18446744073709551616 := (tT_at (i := (p + 348).toNat * 2 + 1) (by omega)).2
theorem ok96' {a b c ev p lp : Int} {R : Int → Int → Int → Prop} (h1 : -348 ≤ p) (h2 : p ≤ 347) (h3 : -4000 ≤ ev) (h4 : ev ≤ 4000) (h5 : -4000 ≤ lp) (h6 : lp ≤ 4000)
    (r : R (hiP p : Int) (loP p : Int) (-(ev + lp + 3))) : Ok96 a b c ev p lp R := by
  apply ok96
  unfold T96
  have e1 : IntKind.i64.wrap (p - (-348)) = p + 348 := by rw [wr (by omega) (by omega)]; omega
  have e2 : IntKind.i64.wrap (0 - IntKind.i64.wrap (IntKind.i64.wrap (ev + lp) + 3)) = -(ev + lp + 3) := by
    rw [wr (x := ev + lp) (by omega) (by omega), wr (x := ev + lp + 3) (by omega) (by omega), wr (by omega) (by omega)]; omega
  rw [e1, e2]
  exact ⟨by omega, by omega, _, (tT_at (by omega)).1, by omega, by omega, _, (tT_at (by omega)).1, r⟩
def l10 (x : Int) : Int := x * 78913 / 262144
def l2 (x : Int) : Int := x * 108853 / 32768
def skw (x : Int) : Int := (x * 631305 - 261663) / 2097152
theorem ok68' {x : Int} {R : Int → Prop} (h1 : -4000 ≤ x) (h2 : x ≤ 4000) (r : R (l10 x)) : Ok68 x R := by
  apply ok68; unfold T68
  rw [wr (by omega) (by omega), show min (Int.toNat 18) 64 = 18 from rfl, shrI]
  exact ⟨by decide, r⟩
theorem ok97' {x : Int} {R : Int → Prop} (h1 : -4000 ≤ x) (h2 : x ≤ 4000) (r : R (l2 x)) : Ok97 x R := by
  apply ok97; unfold T97
  rw [wr (by omega) (by omega), show min (Int.toNat 15) 64 = 15 from rfl, shrI]
  exact ⟨by decide, r⟩
theorem ok95' {x : Int} {R : Int → Prop} (h1 : -4000 ≤ x) (h2 : x ≤ 4000) (r : R (skw x)) : Ok95 x R := by
  apply ok95; unfold T95
  rw [wr (x := x * 631305) (by omega) (by omega), wr (by omega) (by omega), show min (Int.toNat 21) 64 = 21 from rfl, shrI]
  exact ⟨by decide, r⟩
theorem ok99' {u : Nat} {x : Int} {R : Int → Prop} (r : R (IntKind.u64.wrap ((u : Int) + IntKind.u64.wrap x))) : Ok99 u x R := by
  apply ok99; exact r
theorem ok100' {u : Nat} {R : Int → Prop} (r : R (((u + 3) % 18446744073709551616 / 4 : Nat) : Int)) : Ok100 u R := by
  apply ok100; unfold T100
  rw [show min (Int.toNat 2) 64 = 2 from rfl, show ((u : Int) + 3) = ((u + 3 : Nat) : Int) by omega, wrapU, shr]
  exact ⟨by decide, r⟩
theorem ok101' {u : Nat} {R : Int → Prop} (r : R ((u % 18446744073709551616 / 4 : Nat) : Int)) : Ok101 u R := by
  apply ok101; unfold T101
  rw [show min (Int.toNat 2) 64 = 2 from rfl, show ((u : Int) + 0) = ((u : Nat) : Int) by omega, wrapU, shr]
  exact ⟨by decide, r⟩
def rnd (u : Nat) : Nat := (u + 1 + u / 4 % 2) % 18446744073709551616 / 4
theorem ok102' {u : Nat} (hu : u < 18446744073709551616) {R : Int → Prop} (r : R ((rnd u : Nat) : Int)) : Ok102 u R := by
  apply ok102; unfold T102
  have hq : u / 2 ^ 2 < 18446744073709551616 := Nat.lt_of_le_of_lt (Nat.div_le_self _ _) hu
  rw [show min (Int.toNat 2) 64 = 2 from rfl, shr, and1u _ hq, show ((u : Int) + 1) = ((u + 1 : Nat) : Int) by omega, wrapU]
  have e : (((u + 1) % 18446744073709551616 : Nat) : Int) + ((u / 2 ^ 2 % 2 : Nat) : Int) = (((u + 1) % 18446744073709551616 + u / 2 ^ 2 % 2 : Nat) : Int) := by omega
  rw [e, wrapU, shr]
  have e2 : ((u + 1) % 18446744073709551616 + u / 2 ^ 2 % 2) % 18446744073709551616 / 2 ^ 2 = rnd u := by unfold rnd; rw [show (2 : Nat) ^ 2 = 4 from rfl]; omega
  rw [e2]
  exact ⟨by decide, by decide, r⟩
def zOf (ev : Int) : Nat := if -1085 ≤ ev then 11 else (-1074 - ev).toNat
def shA (m : Nat) (ev : Int) : Bool := decide (m = 9223372036854775808) && decide (-1085 < ev)
def shP (m : Nat) (ev : Int) : Int := if shA m ev then -skw (ev + 11) else -l10 (ev + zOf ev)
def scl (x : Nat) (ev p : Int) : Nat := usc x (hiP p) (loP p) ((-(ev + l2 p + 3)) % 64).toNat
def shMin (m : Nat) (ev : Int) : Nat := if shA m ev then m - 512 else m - 2 ^ (zOf ev - 1)
def shMax (m : Nat) (ev : Int) : Nat := m + 2 ^ (zOf ev - 1)
def shOdd (m : Nat) (ev : Int) : Nat := m / 2 ^ zOf ev % 2
def dMin (m : Nat) (ev : Int) : Nat := (scl (shMin m ev) ev (shP m ev) + shOdd m ev + 3) % 18446744073709551616 / 4
def dMax (m : Nat) (ev : Int) : Nat := (scl (shMax m ev) ev (shP m ev) + 18446744073709551616 - shOdd m ev) % 18446744073709551616 / 4
def short (m : Nat) (ev : Int) : Nat × Int :=
  if dMin m ev ≤ dMax m ev / 10 * 10 then (dMax m ev / 10, -(shP m ev - 1))
  else if dMin m ev < dMax m ev then (rnd (scl m ev (shP m ev)), -shP m ev)
  else (dMin m ev, -shP m ev)
/-- A number's digits of two, left-aligned. -/
structure Mt (m : Nat) (ev : Int) : Prop where
  lo : 9223372036854775808 ≤ m
  hi : m < 18446744073709551616
  e0 : -1137 ≤ ev
  e1 : ev ≤ 960
  al : m % 2 ^ zOf ev = 0
theorem Mt.z {m : Nat} {ev : Int} (h : Mt m ev) : 11 ≤ zOf ev ∧ zOf ev ≤ 63 := by
  have := h.e0; unfold zOf; split <;> omega
theorem Mt.top {m : Nat} {ev : Int} (h : Mt m ev) : m + 2 ^ zOf ev ≤ 18446744073709551616 := by
  obtain ⟨z1, z2⟩ := h.z
  have h1 := h.al; have h2 := h.hi
  obtain ⟨k, hk⟩ : ∃ k, 64 = zOf ev + k := ⟨64 - zOf ev, by omega⟩
  have e : (18446744073709551616 : Nat) = 2 ^ zOf ev * 2 ^ k := by rw [← Nat.pow_add, ← hk]
  obtain ⟨q, rfl⟩ := Nat.dvd_of_mod_eq_zero h1
  rw [e] at h2 ⊢
  have := Nat.lt_of_mul_lt_mul_left h2
  calc 2 ^ zOf ev * q + 2 ^ zOf ev = 2 ^ zOf ev * (q + 1) := by rw [Nat.mul_add, Nat.mul_one]
    _ ≤ _ := Nat.mul_le_mul_left _ this
theorem Mt.half {m : Nat} {ev : Int} (h : Mt m ev) : 2 ^ (zOf ev - 1) * 2 = 2 ^ zOf ev ∧ 2 ^ zOf ev ≤ 9223372036854775808 ∧ 1024 ≤ 2 ^ (zOf ev - 1) := by
  obtain ⟨z1, z2⟩ := h.z
  refine ⟨by rw [← Nat.pow_succ]; congr 1; omega, ?_, ?_⟩
  · exact (Nat.pow_le_pow_right (by decide) z2 : 2 ^ zOf ev ≤ 2 ^ 63)
  · exact (Nat.pow_le_pow_right (by decide) (by omega) : 2 ^ 10 ≤ 2 ^ (zOf ev - 1))
theorem Mt.p {m : Nat} {ev : Int} (h : Mt m ev) : -348 ≤ shP m ev ∧ shP m ev ≤ 347 := by
  obtain ⟨z1, z2⟩ := h.z
  have := h.e0; have := h.e1
  have hz : -1074 ≤ ev + zOf ev ∧ ev + zOf ev ≤ 971 := by
    unfold zOf; split <;> omega
  unfold shP skw l10
  split
  · rename_i hA
    simp only [shA, Bool.and_eq_true, decide_eq_true_eq] at hA
    omega
  · generalize (zOf ev : Int) = z at *
    omega
theorem oddOf {q : Nat} (hq : q < 18446744073709551616) : (((IntKind.i64.wrap (q : Int)) % 2).toNat : Int) = ((q % 2 : Nat) : Int) := by
  rw [IntKind.wrap_i64]; omega
theorem ok73' {m : Nat} {ev : Int} (h : Mt m ev) {R : Int → Int → Prop} (r : R ((short m ev).1 : Int) (short m ev).2) : Ok73 m ev R := by
  apply ok73
  unfold T73
  obtain ⟨z1, z2⟩ := h.z
  have hlo := h.lo; have hhi := h.hi; have he0 := h.e0; have he1 := h.e1
  have htop := h.top
  obtain ⟨hh1, hh2, hh3⟩ := h.half
  obtain ⟨p1, p2⟩ := h.p
  refine ⟨fun a b => a = 52 ∧ b = -1085, cnd_f (by decide) ⟨fun a b => a = 52 ∧ b = -1085, cnd_t (by decide) ⟨rfl, rfl⟩, fun a b h => h⟩, ?_⟩
  rintro _ _ ⟨rfl, rfl⟩
  have e11 : IntKind.i64.wrap ((63 : Int) - 52) = 11 := by decide
  have e10 : IntKind.i64.wrap ((11 : Int) - 1) = 10 := by decide
  have e9 : IntKind.i64.wrap ((11 : Int) - 2) = 9 := by decide
  have p9 : IntKind.u64.wrap ((1 : Int) * 2 ^ min (Int.toNat 9) 64) = ((512 : Nat) : Int) := by decide
  have p10 : IntKind.u64.wrap ((1 : Int) * 2 ^ min (Int.toNat 10) 64) = ((1024 : Nat) : Int) := by decide
  simp only [e11, e10, e9, p9, p10]
  have odd : ∀ z : Nat, z ≤ 63 → bits .and .i64 (IntKind.i64.wrap (Int.fdiv (m : Int) (2 ^ min z 64))) 1 = ((m / 2 ^ z % 2 : Nat) : Int) := by
    intro z hz
    rw [Nat.min_eq_left (by omega), shr, and1]
    have hq : m / 2 ^ z < 18446744073709551616 := Nat.lt_of_le_of_lt (Nat.div_le_self _ _) hhi
    exact oddOf hq
  have o11 := odd 11 (by decide)
  refine ⟨fun a b c d => a = shP m ev ∧ b = (shMin m ev : Int) ∧ c = (shMax m ev : Int) ∧ d = (shOdd m ev : Int), ?_, ?_⟩
  · -- the three ways
    have J1 : ¬ (m = 9223372036854775808 ∧ -1085 < ev) → -1085 ≤ ev → Ok68 (IntKind.i64.wrap (ev + 11)) fun r => (0 : Int) ≤ 10 ∧ (0 : Int) ≤ 10 ∧ (0 : Int) ≤ 11 ∧ (IntKind.i64.wrap (0 - r) = shP m ev ∧ IntKind.u64.wrap ((m : Int) - (1024 : Nat)) = (shMin m ev : Int) ∧ IntKind.u64.wrap ((m : Int) + (1024 : Nat)) = (shMax m ev : Int) ∧ bits .and .i64 (IntKind.i64.wrap (Int.fdiv (m : Int) (2 ^ min (Int.toNat 11) 64))) 1 = (shOdd m ev : Int)) := by
      intro hA hE
      have hz : zOf ev = 11 := by unfold zOf; rw [if_pos hE]
      have h10 : 2 ^ (zOf ev - 1) = 1024 := by rw [hz]
      have hs : shA m ev = false := by
        unfold shA; rw [Bool.and_eq_false_iff]; simp only [decide_eq_false_iff_not]
        by_cases hm : m = 9223372036854775808
        · exact .inr fun h => hA ⟨hm, h⟩
        · exact .inl hm
      rw [wr (by omega) (by omega)]
      refine ok68' (by omega) (by omega) ⟨by decide, by decide, by decide, ?_, ?_, ?_, ?_⟩
      · unfold shP; rw [hs, hz]; simp only [Bool.false_eq_true, if_false]
        rw [wr (by unfold l10; omega) (by unfold l10; omega)]
        show 0 - l10 (ev + 11) = -l10 (ev + 11)
        omega
      · rw [wrapSL (by omega) hhi]; unfold shMin; rw [hs, if_neg (by decide), h10]
      · rw [← Int.natCast_add, wrapU' (by omega)]; unfold shMax; rw [h10]
      · rw [show Int.toNat 11 = 11 from rfl, o11]; unfold shOdd; rw [hz]
    have J2 : ev < -1085 → Ok68 (IntKind.i64.wrap (ev + IntKind.i64.wrap (11 + IntKind.i64.wrap (-1085 - ev)))) fun r => (0 : Int) ≤ IntKind.i64.wrap (IntKind.i64.wrap (11 + IntKind.i64.wrap (-1085 - ev)) - 1) ∧ (0 : Int) ≤ IntKind.i64.wrap (IntKind.i64.wrap (11 + IntKind.i64.wrap (-1085 - ev)) - 1) ∧ (0 : Int) ≤ IntKind.i64.wrap (11 + IntKind.i64.wrap (-1085 - ev)) ∧
        (IntKind.i64.wrap (0 - r) = shP m ev ∧ IntKind.u64.wrap ((m : Int) - IntKind.u64.wrap (1 * 2 ^ min (Int.toNat (IntKind.i64.wrap (IntKind.i64.wrap (11 + IntKind.i64.wrap (-1085 - ev)) - 1))) 64)) = (shMin m ev : Int) ∧
          IntKind.u64.wrap ((m : Int) + IntKind.u64.wrap (1 * 2 ^ min (Int.toNat (IntKind.i64.wrap (IntKind.i64.wrap (11 + IntKind.i64.wrap (-1085 - ev)) - 1))) 64)) = (shMax m ev : Int) ∧
          bits .and .i64 (IntKind.i64.wrap (Int.fdiv (m : Int) (2 ^ min (Int.toNat (IntKind.i64.wrap (11 + IntKind.i64.wrap (-1085 - ev)))) 64))) 1 = (shOdd m ev : Int)) := by
      intro hE
      have hz : (zOf ev : Int) = -1074 - ev := by unfold zOf; rw [if_neg (by omega)]; omega
      have hs : shA m ev = false := by
        unfold shA; rw [Bool.and_eq_false_iff]; simp only [decide_eq_false_iff_not]
        exact .inr (by omega)
      have ez : IntKind.i64.wrap (11 + IntKind.i64.wrap (-1085 - ev)) = (zOf ev : Int) := by
        rw [wr (x := -1085 - ev) (by omega) (by omega), wr (by omega) (by omega), hz]; omega
      rw [ez]
      have ez1 : IntKind.i64.wrap ((zOf ev : Int) - 1) = ((zOf ev - 1 : Nat) : Int) := by rw [wr (by omega) (by omega)]; omega
      rw [ez1, Int.toNat_natCast, Int.toNat_natCast]
      have ep : IntKind.u64.wrap (1 * 2 ^ min (zOf ev - 1) 64) = ((2 ^ (zOf ev - 1) : Nat) : Int) := by
        rw [Nat.min_eq_left (by omega), Int.one_mul, powN, wrapU' (by omega)]
      rw [ep]
      rw [wr (by omega) (by omega)]
      refine ok68' (by omega) (by omega) ⟨by omega, by omega, by omega, ?_, ?_, ?_, ?_⟩
      · unfold shP; rw [hs]; simp only [Bool.false_eq_true, if_false]
        rw [wr (by unfold l10; omega) (by unfold l10; omega)]
        omega
      · rw [wrapSL (by omega) hhi]; unfold shMin; rw [hs, if_neg (by decide)]
      · rw [← Int.natCast_add, wrapU' (by omega)]; unfold shMax; rfl
      · rw [odd _ z2]; rfl
    refine cnd_eq (fun hm => ?_) fun hm => ?_
    · have hm' : m = 9223372036854775808 := by omega
      refine ⟨fun a b c d => a = shP m ev ∧ b = (shMin m ev : Int) ∧ c = (shMax m ev : Int) ∧ d = (shOdd m ev : Int), cnd_dec (fun hE => ?_) fun hE => ⟨fun a b c d => a = shP m ev ∧ b = (shMin m ev : Int) ∧ c = (shMax m ev : Int) ∧ d = (shOdd m ev : Int), cnd_dec (fun hE2 => J1 (by omega) (by omega)) fun hE2 => J2 (by omega), fun _ _ _ _ h => h⟩, fun _ _ _ _ h => h⟩
      have hz : zOf ev = 11 := by unfold zOf; rw [if_pos (by omega)]
      have h10 : 2 ^ (zOf ev - 1) = 1024 := by rw [hz]
      have hs : shA m ev = true := by unfold shA; rw [Bool.and_eq_true]; simp only [decide_eq_true_eq]; exact ⟨hm', hE⟩
      rw [wr (by omega) (by omega)]
      refine ok95' (by omega) (by omega) ⟨by decide, by decide, by decide, ?_, ?_, ?_, ?_⟩
      · unfold shP; rw [hs]; simp only [if_true]
        rw [wr (by unfold skw; omega) (by unfold skw; omega)]
        omega
      · rw [wrapSL (by omega) hhi]; unfold shMin; rw [hs, if_pos rfl]
      · rw [← Int.natCast_add, wrapU' (by omega)]; unfold shMax; rw [h10]
      · rw [show Int.toNat 11 = 11 from rfl, o11]; unfold shOdd; rw [hz]
    · have hm' : m ≠ 9223372036854775808 := by omega
      exact ⟨fun a b c d => a = shP m ev ∧ b = (shMin m ev : Int) ∧ c = (shMax m ev : Int) ∧ d = (shOdd m ev : Int), cnd_dec (fun hE2 => J1 (by omega) (by omega)) fun hE2 => J2 (by omega), fun _ _ _ _ h => h⟩
  · rintro _ _ _ _ ⟨rfl, rfl, rfl, rfl⟩
    have hodd : shOdd m ev ≤ 1 := by unfold shOdd; omega
    have hmin : shMin m ev < 18446744073709551616 := by unfold shMin; split <;> omega
    have hmax : shMax m ev < 18446744073709551616 := by unfold shMax; omega
    have hl2 : -4000 ≤ l2 (shP m ev) ∧ l2 (shP m ev) ≤ 4000 := by unfold l2; omega
    have hhi' := hiP_lt p1 p2; have hlo' := loP_lt p1 p2
    refine ok97' (by omega) (by omega) (ok96' p1 p2 (by omega) (by omega) hl2.1 hl2.2 (ok98' hmin hhi' hlo' ?_))
    have u1 : ∀ x, x < 18446744073709551616 → usc x (hiP (shP m ev)) (loP (shP m ev)) ((-(ev + l2 (shP m ev) + 3)) % 64).toNat < 18446744073709551616 := fun x hx => usc_lt hx hhi'
    refine ok99' ?_
    have w1 : ∀ u o : Nat, o ≤ 1 → IntKind.u64.wrap ((u : Int) + IntKind.u64.wrap (o : Int)) = (((u + o) % 18446744073709551616 : Nat) : Int) := by
      intro u o ho
      rw [wrapU' (a := o) (by omega), ← Int.natCast_add, wrapU]
    have w2 : ∀ u o : Nat, o ≤ 1 → IntKind.u64.wrap ((u : Int) + IntKind.u64.wrap (IntKind.i64.wrap (0 - (o : Int)))) = (((u + 18446744073709551616 - o) % 18446744073709551616 : Nat) : Int) := by
      intro u o ho
      rw [wr (by omega) (by omega), IntKind.wrap_u64, IntKind.wrap_u64]; omega
    rw [w1 _ _ hodd]
    refine ok100' (ok98' hmax hhi' hlo' (ok99' ?_))
    rw [w2 _ _ hodd]
    refine ok101' ?_
    have ea : ((usc (shMin m ev) (hiP (shP m ev)) (loP (shP m ev)) ((-(ev + l2 (shP m ev) + 3)) % 64).toNat + shOdd m ev) % 18446744073709551616 + 3) % 18446744073709551616 / 4 = dMin m ev := by unfold dMin scl; omega
    have eb : (usc (shMax m ev) (hiP (shP m ev)) (loP (shP m ev)) ((-(ev + l2 (shP m ev) + 3)) % 64).toNat + 18446744073709551616 - shOdd m ev) % 18446744073709551616 % 18446744073709551616 / 4 = dMax m ev := by unfold dMax scl; omega
    rw [ea, eb]
    have hb : dMax m ev < 18446744073709551616 := by unfold dMax; omega
    have ed : IntKind.u64.wrap (Int.tdiv (dMax m ev : Int) 10) = ((dMax m ev / 10 : Nat) : Int) := by
      rw [show Int.tdiv (dMax m ev : Int) 10 = ((dMax m ev / 10 : Nat) : Int) from rfl, wrapU' (by omega)]
    have em : IntKind.u64.wrap (((dMax m ev / 10 : Nat) : Int) * 10) = ((dMax m ev / 10 * 10 : Nat) : Int) := by
      rw [show (((dMax m ev / 10 : Nat) : Int) * 10) = ((dMax m ev / 10 * 10 : Nat) : Int) by omega, wrapU' (by omega)]
    rw [ed, em]
    unfold short at r
    have ip : ∀ x : Int, -1000 ≤ x → x ≤ 1000 → IntKind.i64.wrap (0 - x) = -x := fun x h1 h2 => by rw [wr (by omega) (by omega)]; omega
    refine ⟨by decide, cnd_dec (fun hc => ?_) fun hc => ?_⟩
    · rw [if_pos (by omega)] at r
      rw [wr (x := shP m ev - 1) (by omega) (by omega), ip _ (by omega) (by omega)]
      exact r
    · rw [if_neg (by omega)] at r
      rw [ip _ (by omega) (by omega)]
      refine ⟨fun d => d = ((if dMin m ev < dMax m ev then rnd (scl m ev (shP m ev)) else dMin m ev : Nat) : Int), cnd_dec (fun hd => ?_) fun hd => ?_, ?_⟩
      · refine ok98' hhi hhi' hlo' (ok102' (u1 _ hhi) ?_)
        rw [if_pos (by omega)]; rfl
      · rw [if_neg (by omega)]
      · rintro _ rfl
        split <;> rename_i hq <;> simp only [hq, if_true, if_false] at r <;> exact r
end Go.Proofs.YtfjflbapojgbhaaGreatDoor.N

/- A number's digits written into a buffer: numDigits, formatBase10, setDigits. Conditions: none. -/
namespace Go.Proofs.YtfjflbapojgbhaaGreatDoor.N
open Go.X Go.Proofs.YtfjflbapojgbhaaGreatDoor
set_option maxRecDepth 100000
set_option maxHeartbeats 1000000

/-- How many digits. -/
def ndg (d : Nat) : Nat := if d = 0 then 0 else Lib.nDigits d
theorem tU_at : ∀ k : Fin 20, tU[k.val]? = some ((10 ^ k.val : Nat) : Int) := by decide +kernel
theorem ok67' {d : Nat} (hd : d < 18446744073709551616) {R : Int → Prop} (r : R (ndg d : Int)) : Ok67 d R := by
  apply ok67
  unfold T67
  refine ok64' (by omega) (by omega) ?_
  have e : bl (d : Int) = ((Lib.bitLen d : Nat) : Int) := rfl
  have key : Lib.l10 (Lib.bitLen d) ≤ 19 ∧ Lib.bitLen d ≤ 64 ∧ Lib.l10 (Lib.bitLen d) + (if 10 ^ Lib.l10 (Lib.bitLen d) ≤ d then 1 else 0) = ndg d := by
    have h64 : Lib.bitLen d ≤ 64 := Lib.bitLen_le d 64 (Nat.le_refl _) hd
    by_cases h0 : d = 0
    · subst h0; decide
    · have := Lib.numDigits_eq d (by omega) hd
      unfold ndg
      rw [if_neg h0]
      exact ⟨this.2, h64, this.1⟩
  obtain ⟨k1, k2, k3⟩ := key
  rw [e]
  refine ok68' (by omega) (by omega) ?_
  have e2 : l10 ((Lib.bitLen d : Nat) : Int) = ((Lib.l10 (Lib.bitLen d) : Nat) : Int) := by unfold l10 Lib.l10; omega
  rw [e2]
  refine ⟨by omega, by omega, ((10 ^ Lib.l10 (Lib.bitLen d) : Nat) : Int), ?_, ?_⟩
  · rw [show ((Lib.l10 (Lib.bitLen d) : Nat) : Int).toNat * 1 = Lib.l10 (Lib.bitLen d) by omega]
    exact tU_at ⟨Lib.l10 (Lib.bitLen d), by omega⟩
  · refine ok104' ?_
    have e3 : (decide ((d : Int) ≥ ((10 ^ Lib.l10 (Lib.bitLen d) : Nat) : Int))) = decide (10 ^ Lib.l10 (Lib.bitLen d) ≤ d) := by rw [decide_eq_decide]; omega
    rw [e3]
    have e4 : (if decide (10 ^ Lib.l10 (Lib.bitLen d) ≤ d) = true then (1 : Nat) else 0) = (if 10 ^ Lib.l10 (Lib.bitLen d) ≤ d then 1 else 0) := by simp
    rw [e4]
    have e5 : IntKind.i64.wrap (((Lib.l10 (Lib.bitLen d) : Nat) : Int) + ((if 10 ^ Lib.l10 (Lib.bitLen d) ≤ d then 1 else 0 : Nat) : Int)) = (ndg d : Int) := by
      rw [← k3, wr (by omega) (by split <;> omega)]; omega
    rw [e5]; exact r
/-- The digits of d, n of them. -/
def dgL (d n : Nat) : List Int := (List.range n).map fun t => ((48 + d / 10 ^ (n - 1 - t) % 10 : Nat) : Int)
theorem dgL_len (d n : Nat) : (dgL d n).length = n := by simp [dgL]
theorem dgL_at {d n k : Nat} (h : k < n) : (dgL d n)[k]? = some ((48 + d / 10 ^ (n - 1 - k) % 10 : Nat) : Int) := by simp [dgL, h]
theorem call103 {h : Heap} {g T sC d nd : Nat} {cur : Array Value} (hb : h[g]? = some (.cells cur T (0, 0))) (hn : nd ≤ cur.size) (h0 : ∀ j, j < nd → cur[j]? = some (.int .u8 0)) (hd : d < 10 ^ nd) (hd64 : d < 18446744073709551616) (hnd : nd < 4611686018427387904) :
    CallsH Tryz.prog 103 #[.slice (some ⟨g, 0, none⟩) nd sC, .int .u64 d] h fun v h' => Fr [g] h h' ∧ v = .tuple #[] ∧ ∃ cur' : Array Value, h'[g]? = some (.cells cur' T (0, 0)) ∧ cur'.size = cur.size ∧ (∀ k, k < nd → cur'[k]? = some (.int .u8 ((48 + d / 10 ^ (nd - 1 - k) % 10 : Nat) : Int))) ∧ ∀ k, nd ≤ k → cur'[k]? = cur[k]? := by
  intro w hw
  have hbw : w.heap[g]? = some (.cells cur T (0, 0)) := by rw [hw]; exact hb
  have hs : (Array.replicate nd (0 : UInt8)).size = nd := by simp
  have := Go.Proofs.Tryz.internal_strconv_formatBase10 g 0 sC d (Array.replicate nd (0 : UInt8)) w (fun j hj => by
    rw [hs] at hj
    have hc := h0 j hj
    have hj2 : j < cur.size := by omega
    refine ⟨?_, ?_⟩
    · rw [getElem!_pos _ j (by rw [hs]; exact hj)]
      simp [World.cell?, hbw, hc]
    · simp [World.frozen?, hbw]) (by rw [hs]; exact hd) hd64 (by rw [hs]; exact hnd)
  rw [hs] at this
  refine this.mono ?_
  rintro e w' ⟨rfl, n, v', dk, rfl, F⟩
  have hsz : dk.size = nd := F.size
  have hh : ((Go.Sort.putRow (fun (b : UInt8) => Value.int .u8 (b.toNat : Int)) w g 0 dk).drewN n).heap = w.heap.modify g (Go.Sort.onCells (Go.Sort.putCells (fun (b : UInt8) => Value.int .u8 (b.toNat : Int)) 0 dk)) := rfl
  have hg := blk_lt hbw
  have hat : (w.heap.modify g (Go.Sort.onCells (Go.Sort.putCells (fun (b : UInt8) => Value.int .u8 (b.toNat : Int)) 0 dk)))[g]? = some (.cells (Go.Sort.putCells (fun (b : UInt8) => Value.int .u8 (b.toNat : Int)) 0 dk cur) T (0, 0)) := by
    rw [Array.getElem?_modify, if_pos rfl, hbw]; rfl
  have hfr : Fr [g] w.heap (w.heap.modify g (Go.Sort.onCells (Go.Sort.putCells (fun (b : UInt8) => Value.int .u8 (b.toNat : Int)) 0 dk))) :=
    ⟨by simp, fun b hb hm => by rw [Array.getElem?_modify, if_neg (by rintro rfl; simp at hm)]⟩
  refine ⟨_, rfl, ⟨rfl, rfl, rfl, by rw [hh]; simp, fun k o hk ho => ?_⟩, ?_, rfl, ?_⟩
  · rw [hh, Array.getElem?_modify]
    split
    · rename_i e; subst e; rw [hbw] at hk; cases hk; simp [Obj.isCells] at ho
    · exact hk
  · rw [hh, ← hw]; exact hfr
  · refine ⟨_, by rw [hh]; exact hat, by simp [Go.Sort.putCells], fun k hk => ?_, fun k hk => ?_⟩
    · have hk2 : k < cur.size := by omega
      simp only [Go.Sort.putCells, Array.getElem?_mapIdx, Array.getElem?_eq_getElem hk2, Option.map_some, Nat.sub_zero]
      rw [if_pos ⟨Nat.zero_le _, by omega⟩, F.done k (Nat.zero_le _) hk]
      have : (48 + d / 10 ^ (nd - 1 - k) % 10) < 256 := by omega
      simp [Lib.dg, Nat.mod_eq_of_lt this]
    · simp only [Go.Sort.putCells, Array.getElem?_mapIdx]
      cases hc : cur[k]? with
      | none => rfl
      | some x => simp only [Option.map_some]; rw [if_neg (by omega)]
/-- How many stay if the 48s at the end go. -/
def trimC (L : List Int) : Nat → Nat
  | 0 => 0
  | n + 1 => if L[n]? = some 48 then trimC L n else n + 1
theorem trimC_le (L : List Int) : ∀ n, trimC L n ≤ n
  | 0 => Nat.le_refl _
  | n + 1 => by
    unfold trimC
    split
    · exact Nat.le_succ_of_le (trimC_le L n)
    · exact Nat.le_refl _
theorem ok66' {d nd : Nat} {p : Int} (hd : d < 10 ^ nd) (hd64 : d < 18446744073709551616) (hn : nd ≤ 32) (hp : -4000 ≤ p ∧ p ≤ 4000) {R : List Int → Int → Int → Prop}
    (r : R (dgL d nd ++ List.replicate (32 - nd) 0) (nd + p) (trimC (dgL d nd) nd : Int)) : Ok66 (List.replicate 32 0) d p nd R := by
  intro h sA sL sC sT H
  have Y := Sy.start H
  obtain rfl : sL = 32 := by have := Y.lenS 0 rfl; simpa using this
  obtain ⟨⟨hxl, ho⟩, _⟩ := Y.ok (k := 0) rfl
  obtain ⟨rfl, h0, _⟩ | ⟨g, cur, rfl, hb, hle, hmx, hsz, htk⟩ := ho
  · omega
  have hM : (owns [Ck.sl (eK .u8) sT (some ⟨g, 0, none⟩) 32 sC (List.replicate 32 0)]) = [g] := rfl
  have e1 : (eK .u8).sz = 1 := rfl
  rw [e1, Nat.mul_one] at hsz htk
  have hcz : ∀ j, j < 32 → cur[j]? = some (.int .u8 0) := by
    intro j hj
    have : (cur.toList.take 32)[j]? = some (.int .u8 0) := by rw [htk, eK8_l, List.getElem?_map, List.getElem?_replicate, if_pos hj]; rfl
    rw [List.getElem?_take, if_pos hj] at this
    simpa using this
  have hcs : 32 ≤ cur.size := Nat.le_trans hle hsz
  apply calls66
  unfold S66
  refine ⟨fun vs hv => ∃ cur' : Array Value, vs = [.int .i64 (trimC (dgL d nd) nd : Int), .int .i64 (nd + p)] ∧ Fr [g] h hv ∧ hv[g]? = some (.cells cur' sT (0, 0)) ∧ cur'.size = cur.size ∧ (∀ k, k < nd → cur'[k]? = (dgL d nd)[k]?.map (Value.int .u8)) ∧ ∀ k, nd ≤ k → cur'[k]? = cur[k]?, ?_, ?_⟩
  · refine cnd_dec (fun _ => ?_) fun hc => absurd (show (nd : Int) ≤ ((32 : Nat) : Int) by omega) hc
    refine ⟨by omega, by omega, ?_⟩
    have hc0 : sC ≠ 0 := by omega
    have ea : (if sC = 0 then some (⟨g, 0, none⟩ : Addr) else Option.map (fun addr => Addr.add addr (0 * 1)) (some ⟨g, 0, none⟩)) = some ⟨g, 0, none⟩ := by rw [if_neg hc0]; rfl
    rw [ea, show (Int.toNat (nd : Int)) - 0 = nd by omega]
    refine callX_of [g] (call103 (sC := sC - 0) hb (by omega) (fun j hj => hcz j (by omega)) hd hd64 (by omega)) (by simp) ?_
    rintro v h1 f1 ⟨rfl, cur', hb', hs', hlo, hhi⟩
    have hlo' : ∀ k, k < nd → cur'[k]? = (dgL d nd)[k]?.map (Value.int .u8) := fun k hk => by rw [hlo k hk, dgL_at hk]; rfl
    refine ⟨rfl, fun vs hv => hv = h1 ∧ ∃ m : Nat, vs = [.int .i64 m] ∧ m ≤ nd ∧ trimC (dgL d nd) m = trimC (dgL d nd) nd, fun vs _ => match vs with | .int _ x :: _ => x.toNat | _ => 0, ⟨rfl, nd, rfl, Nat.le_refl _, rfl⟩, ?_⟩
    rintro nd2 hv2 ⟨ehv, m, hv, hm, ht⟩
    subst ehv
    simp only [List.cons.injEq, Value.int.injEq, true_and, and_true] at hv
    subst hv
    have fin : trimC (dgL d nd) nd = m → ∃ cur'' : Array Value, [Value.int .i64 (m : Int), Value.int .i64 (IntKind.i64.wrap ((nd : Int) + p))] = [.int .i64 (trimC (dgL d nd) nd : Int), .int .i64 (nd + p)] ∧ Fr [g] h hv2 ∧ hv2[g]? = some (.cells cur'' sT (0, 0)) ∧ cur''.size = cur.size ∧ (∀ k, k < nd → cur''[k]? = (dgL d nd)[k]?.map (Value.int .u8)) ∧ ∀ k, nd ≤ k → cur''[k]? = cur[k]? := by
      intro e
      exact ⟨cur', by rw [e, wr (by omega) (by omega)], f1, hb', hs', hlo', hhi⟩
    refine cnd_dec (fun hm0 => ?_) fun hm0 => ?_
    · obtain ⟨q, rfl⟩ : ∃ q, m = q + 1 := ⟨m - 1, by omega⟩
      have ew : IntKind.i64.wrap (((q + 1 : Nat) : Int) - 1) = (q : Int) := by rw [wr (by omega) (by omega)]; omega
      rw [ew, Int.toNat_natCast]
      obtain ⟨x, hx⟩ : ∃ x, (dgL d nd)[q]? = some x := ⟨_, dgL_at (by omega)⟩
      refine ⟨g, 0, rfl, by omega, by omega, x, ?_, cnd_eq (fun hx48 => ?_) fun hx48 => ?_⟩
      · rw [hcell_of hb', Nat.zero_add, Nat.mul_one, hlo' q (by omega), hx]; rfl
      · refine ⟨⟨rfl, q, rfl, by omega, ?_⟩, ?_⟩
        · rw [← ht, trimC, if_pos (by rw [hx, hx48])]
        · show q < ((q + 1 : Nat) : Int).toNat
          omega
      · apply fin
        rw [← ht, trimC, if_neg (by rw [hx]; simpa using hx48)]
    · apply fin
      have : m = 0 := by omega
      subst this
      rw [← ht]; rfl
  · rintro nd3 dp h3 ⟨cur', hv, f3, hb', hs', hlo', hhi⟩
    simp only [List.cons.injEq, Value.int.injEq, true_and, and_true] at hv
    obtain ⟨rfl, rfl⟩ := hv
    refine ⟨_, _, _, ?_, rfl, r⟩
    have hown : Ownd h3 sT (eK .u8).sz (some ⟨g, 0, none⟩) 32 sC ((eK .u8).l (dgL d nd ++ List.replicate (32 - nd) 0)) := by
      refine ⟨by rw [En.l_len, List.length_append, dgL_len, List.length_replicate, e1]; omega, .inr ⟨g, cur', rfl, hb', hle, hmx, by rw [e1, Nat.mul_one, hs']; exact hsz, ?_⟩⟩
      rw [eK8_l, e1, Nat.mul_one]
      apply List.ext_getElem?
      intro k
      rw [List.getElem?_take]
      split
      · rename_i hk
        rw [List.getElem?_map]
        by_cases hkn : k < nd
        · rw [List.getElem?_append_left (by rw [dgL_len]; exact hkn), ← hlo' k hkn]; simp
        · rw [List.getElem?_append_right (by rw [dgL_len]; omega), dgL_len, List.getElem?_replicate, if_pos (by omega)]
          have := hhi k (by omega)
          rw [hcz k hk] at this
          simpa using this
      · rename_i hk
        rw [List.getElem?_eq_none]; simp [dgL_len]; omega
    refine ⟨by rw [hM]; exact f3, Hp.one ⟨hown, by simp [dgL_len]; omega⟩, fun k c hk b hbo => ?_⟩
    cases k with
    | zero => simp at hk; subst hk; exact .inl hbo
    | succ k => simp at hk
end Go.Proofs.YtfjflbapojgbhaaGreatDoor.N

/- The text of digits with a point, or with an exponent: fmtEFG for the shortest form 'g'. Conditions: none. -/
namespace Go.Proofs.YtfjflbapojgbhaaGreatDoor.N
open Go.X Go.Proofs.YtfjflbapojgbhaaGreatDoor
set_option maxRecDepth 100000
set_option maxHeartbeats 2000000

def signL (neg : Bool) : List Int := if neg then [45] else []
def expoL (x : Int) : List Int :=
  let a := x.natAbs
  (if x < 0 then 45 else 43) :: (if a < 10 then [48, ((48 + a : Nat) : Int)] else if a < 100 then [((48 + a / 10 : Nat) : Int), ((48 + a % 10 : Nat) : Int)] else [((48 + a / 100 : Nat) : Int), ((48 + a / 10 % 10 : Nat) : Int), ((48 + a % 10 : Nat) : Int)])
def eForm (L : List Int) (dp : Int) : List Int :=
  (if L = [] then [48] else L.take 1) ++ (if 1 < L.length then 46 :: L.drop 1 else []) ++ [101] ++ expoL (if L = [] then 0 else dp - 1)
def fForm (L : List Int) (dp : Int) : List Int :=
  (if 0 < dp then L.take dp.toNat ++ List.replicate (dp.toNat - L.length) 48 else [48]) ++ (if dp < (L.length : Int) then 46 :: (List.replicate (-dp).toNat 48 ++ L.drop dp.toNat) else [])
def fmtG (neg : Bool) (L : List Int) (dp : Int) : List Int :=
  signL neg ++ (if dp - 1 < -4 ∨ 6 ≤ dp - 1 then eForm L dp else fForm L dp)
theorem u8w {x : Int} (h1 : 0 ≤ x) (h2 : x < 256) : IntKind.u8.wrap x = x := by rw [IntKind.wrap_u8']; omega
theorem ok63e {dst sV L : List Int} {neg : Bool} {dp : Int} {n : Nat} {R : List Int → Prop} (hd : dst.length < 1000) (hL : sV.take n = L) (hn : n ≤ sV.length) (hn32 : n ≤ 32) (h0 : -1000 < dp) (h1 : dp < 1000) (hE : dp - 1 < -4 ∨ 6 ≤ dp - 1)
    (r : R (dst ++ signL neg ++ eForm L dp)) : Ok63 dst neg sV dp n n 103 true R := by
  have hLl : L.length = n := by rw [← hL]; simp [hn]
  have hnil : L = [] ↔ n = 0 := by rw [← hLl]; exact List.length_eq_zero_iff.symm
  apply ok63
  unfold T63
  refine ⟨fun a b => a = (n : Int) - 1 ∧ b = 101, cnd_t rfl ⟨fun _ => True, cnd_dec (fun h => absurd h (by omega)) fun _ => trivial, fun _ _ => ⟨fun e => e = 6, cnd_t rfl rfl, ?_⟩⟩, ?_⟩
  · rintro _ rfl
    have ed : IntKind.i64.wrap (dp - 1) = dp - 1 := wr (by omega) (by omega)
    have ef : IntKind.u8.wrap (IntKind.u8.wrap (103 + 101) - 103) = 101 := by decide
    rw [ed, ef]
    have en : IntKind.i64.wrap ((n : Int) - 1) = (n : Int) - 1 := wr (by omega) (by omega)
    have J : ∃ J : Int → Prop, cnd (decide ((n : Int) > n)) (J n) (J n) ∧ ∀ p, J p → IntKind.i64.wrap (p - 1) = (n : Int) - 1 ∧ (101 : Int) = 101 :=
      ⟨fun p => p = n, cnd_dec (fun _ => rfl) fun _ => rfl, fun p hp => by subst hp; exact ⟨en, rfl⟩⟩
    exact cnd_dec (fun _ => J) fun hlt => ⟨fun a b => a = (n : Int) - 1 ∧ b = 101, cnd_dec (fun _ => J) fun h => absurd hE (by omega), fun _ _ h => h⟩
  · rintro _ _ ⟨rfl, rfl⟩
    refine ⟨fun x => x = true, cnd_t rfl rfl, ?_⟩
    rintro _ rfl
    refine cnd_t rfl ?_
    refine ⟨fun d => d = dst ++ signL neg, cnd_b (fun hb => ⟨by omega, by subst hb; rfl⟩) (fun hb => by subst hb; simp [signL]), ?_⟩
    rintro d1 hd1
    have hl1 : d1.length ≤ 1001 := by subst hd1; cases neg <;> simp [signL] <;> omega
    refine ⟨fun c => [c] = if L = [] then [48] else L.take 1, cnd_ne (fun hz => ⟨by omega, by omega, fun s hs => ?_⟩) fun hz => ?_, ?_⟩
    · rw [if_neg (fun e => by rw [hnil] at e; omega), ← hL]
      cases sV with
      | nil => simp at hs
      | cons a t =>
        simp at hs; subst hs
        cases n with
        | zero => simp at hz
        | succ n => simp
    · rw [if_pos (hnil.2 (by omega))]
    intro c hc
    have ep : IntKind.i64.wrap ((n : Int) - 1 + 1) = (n : Int) := by rw [wr (by omega) (by omega)]; omega
    have em : (if (n : Int) < (n : Int) then (n : Int) else (n : Int)) = n := by split <;> rfl
    refine ⟨by omega, fun d => d = d1 ++ (if L = [] then [48] else L.take 1) ++ (if 1 < L.length then 46 :: L.drop 1 else []), ?_, ?_⟩
    · rw [ep, em, ← hc]
      refine cnd_dec (fun hp => ⟨by omega, fun d i => d = d1 ++ [c] ++ (46 :: L.drop 1) ∧ i = n, cnd_dec (fun _ => ⟨by omega, by omega, by decide, by omega, by omega, ?_, rfl⟩) fun h => absurd (show (1 : Int) < n by omega) h, ?_⟩) fun hp => ?_
      · rw [Int.toNat_natCast, hL]; simp
      · rintro _ _ ⟨rfl, rfl⟩
        refine ⟨fun d x => d = d1 ++ [c] ++ (46 :: L.drop 1) ∧ x = 0, fun _ _ => 0, ⟨rfl, rfl⟩, ?_⟩
        rintro _ _ ⟨rfl, rfl⟩
        refine cnd_dec (fun h => absurd h (by rw [wr (by omega) (by omega)]; omega)) fun _ => ?_
        rw [if_pos (by rw [hLl]; omega)]
      · rw [if_neg (by rw [hLl]; omega)]; simp
    intro d2 hd2
    have hl2 : d2.length ≤ 1100 := by
      subst hd2
      simp only [List.length_append]
      have a1 : (if L = [] then [48] else List.take 1 L).length ≤ 1 := by split <;> simp <;> omega
      have a2 : (if 1 < L.length then 46 :: List.drop 1 L else []).length ≤ 33 := by split <;> simp <;> omega
      omega
    have hx : (if L = [] then (0 : Int) else dp - 1) = if n = 0 then 0 else dp - 1 := by simp only [hnil]
    generalize hxx : (if L = [] then (0 : Int) else dp - 1) = x at hx
    have hxb : -1001 < x ∧ x < 1000 := by rw [hx]; split <;> omega
    refine ⟨by omega, fun e => x = e, cnd_eq (fun hz => ?_) fun hz => ?_, ?_⟩
    · rw [hx, if_pos (by omega)]
    · rw [hx, if_neg (by omega)]; exact (wr (by omega) (by omega)).symm
    rintro _ rfl
    refine ⟨fun c e => c = (if x < 0 then 45 else 43) ∧ e = (x.natAbs : Int), cnd_dec (fun h => ⟨by rw [if_pos h], by rw [wr (by omega) (by omega)]; omega⟩) fun h => ⟨by rw [if_neg h], by omega⟩, ?_⟩
    rintro _ _ ⟨rfl, rfl⟩
    have ha : x.natAbs < 1001 := by omega
    have key : R (d2 ++ [101] ++ expoL x) := by
      rw [← hxx, hd2, hd1]
      simpa [eForm, hxx, List.append_assoc] using r
    generalize hA : x.natAbs = a at *
    have t10 : Int.tdiv (a : Int) 10 = ((a / 10 : Nat) : Int) := rfl
    have t100 : Int.tdiv (a : Int) 100 = ((a / 100 : Nat) : Int) := rfl
    have m10 : Int.tmod (a : Int) 10 = ((a % 10 : Nat) : Int) := rfl
    refine ⟨by omega, fun d => d = d2 ++ [101] ++ expoL x, cnd_dec (fun h => ⟨by omega, ?_⟩) fun h => ⟨fun d => d = d2 ++ [101] ++ expoL x, cnd_dec (fun h2 => ⟨by decide, by decide, by omega, ?_⟩) fun h2 => ⟨by decide, by decide, by decide, by decide, by omega, ?_⟩, fun _ h => h⟩, ?_⟩
    · rw [u8w (x := (a : Int)) (by omega) (by omega), u8w (by omega) (by omega)]
      unfold expoL; simp only [hA]; rw [if_pos (show a < 10 by omega)]
      simp; omega
    · rw [t10, m10, wr (by omega) (by omega), u8w (x := ((a / 10 : Nat) : Int)) (by omega) (by omega), u8w (x := ((a / 10 : Nat) : Int) + 48) (by omega) (by omega), u8w (x := ((a % 10 : Nat) : Int)) (by omega) (by omega), u8w (x := ((a % 10 : Nat) : Int) + 48) (by omega) (by omega)]
      unfold expoL; simp only [hA]; rw [if_neg (show ¬ a < 10 by omega), if_pos (show a < 100 by omega)]
      simp; omega
    · rw [t100, t10, m10, wr (x := ((a / 100 : Nat) : Int)) (by omega) (by omega), wr (x := ((a / 10 : Nat) : Int)) (by omega) (by omega), u8w (x := ((a / 100 : Nat) : Int)) (by omega) (by omega), u8w (x := ((a / 100 : Nat) : Int) + 48) (by omega) (by omega), u8w (x := ((a / 10 : Nat) : Int)) (by omega) (by omega),
        u8w (x := ((a % 10 : Nat) : Int)) (by omega) (by omega), u8w (x := ((a % 10 : Nat) : Int) + 48) (by omega) (by omega)]
      rw [show Int.tmod ((a / 10 : Nat) : Int) 10 = ((a / 10 % 10 : Nat) : Int) from rfl, u8w (x := ((a / 10 % 10 : Nat) : Int) + 48) (by omega) (by omega)]
      unfold expoL; simp only [hA]; rw [if_neg (show ¬ a < 10 by omega), if_neg (show ¬ a < 100 by omega)]
      simp; omega
    · rintro _ rfl
      exact key
theorem wr1 {k : Nat} (h : k < 1000000) : IntKind.i64.wrap ((k : Int) + 1) = ((k + 1 : Nat) : Int) := by rw [wr (by omega) (by omega)]; omega
theorem ok63f {dst sV L : List Int} {neg : Bool} {dp pc : Int} {n : Nat} {R : List Int → Prop} (hd : dst.length < 1000) (hL : sV.take n = L) (hn : n ≤ sV.length) (hn32 : n ≤ 32) (h0 : -1000 < dp) (h1 : dp < 1000) (hE : ¬ (dp - 1 < -4 ∨ 6 ≤ dp - 1))
    (hpc : pc = n ∨ (n = 0 ∧ dp = 0 ∧ pc = -1)) (r : R (dst ++ signL neg ++ fForm L dp)) : Ok63 dst neg sV dp n pc 103 true R := by
  have hLl : L.length = n := by rw [← hL]; simp [hn]
  apply ok63
  unfold T63
  refine ⟨fun a b => a = ((n - dp).toNat : Int) ∧ b = 102, cnd_t rfl ⟨fun _ => True, cnd_dec (fun h => absurd h (by omega)) fun _ => trivial, fun _ _ => ⟨fun e => e = 6, cnd_t rfl rfl, ?_⟩⟩, ?_⟩
  · rintro _ rfl
    have ed : IntKind.i64.wrap (dp - 1) = dp - 1 := wr (by omega) (by omega)
    rw [ed]
    refine cnd_dec (fun h => absurd h (by omega)) fun _ => ⟨fun a b => a = ((n - dp).toNat : Int) ∧ b = 102, cnd_dec (fun h => absurd h (by omega)) fun _ => ⟨fun p => p = n ∨ p = pc ∧ pc ≤ dp, cnd_dec (fun _ => .inl rfl) fun h => .inr ⟨rfl, by omega⟩, fun p hp => ⟨?_, rfl⟩⟩, fun _ _ h => h⟩
    have hp2 : -1 ≤ p ∧ p ≤ 32 := by omega
    rw [wr (x := p - dp) (by omega) (by omega)]
    split <;> omega
  rintro _ _ ⟨rfl, rfl⟩
  refine ⟨fun x => x = false, cnd_f rfl rfl, ?_⟩
  rintro _ rfl
  refine cnd_f rfl (cnd_t rfl ?_)
  refine ⟨fun d => d = dst ++ signL neg, cnd_b (fun hb => ⟨by omega, by subst hb; rfl⟩) (fun hb => by subst hb; simp [signL]), ?_⟩
  rintro d1 hd1
  have hl1 : d1.length ≤ 1001 := by subst hd1; cases neg <;> simp [signL] <;> omega
  refine ⟨fun d => d = d1 ++ (if 0 < dp then L.take dp.toNat ++ List.replicate (dp.toNat - L.length) 48 else [48]), cnd_dec (fun hp => ?_) fun hp => ⟨by omega, by rw [if_neg hp]⟩, ?_⟩
  · -- the whole part
    obtain ⟨m, hm, hmn⟩ : ∃ m : Nat, (if dp < (n : Int) then dp else (n : Int)) = m ∧ m = min dp.toNat n := ⟨min dp.toNat n, by split <;> omega, rfl⟩
    rw [hm, Int.toNat_natCast, if_pos hp]
    have hmL : sV.take m = L.take m := by rw [← hL, List.take_take]; congr 1; omega
    have hml : (L.take m).length = m := by rw [List.length_take, hLl]; omega
    rw [hmL]
    refine ⟨by omega, by omega, fun d x => ∃ k : Nat, x = k ∧ k ≤ m ∧ d = d1 ++ (L.take m).take k, fun _ x => m - x.toNat, ⟨0, rfl, Nat.zero_le _, by simp⟩, ?_⟩
    rintro _ _ ⟨k, rfl, hk, rfl⟩
    refine cnd_dec (fun hlt => ⟨by omega, hlt, fun v hv => ⟨?_, ⟨k + 1, wr1 (by omega), by omega, ?_⟩, ?_⟩⟩) fun hge => ?_
    · simp only [List.length_append, List.length_take]; omega
    · rw [Int.toNat_natCast] at hv
      rw [List.append_assoc, List.take_add_one, hv]; rfl
    · rw [wr1 (by omega)]; dsimp only; omega
    · have hkm : k = m := by omega
      subst hkm
      rw [List.take_of_length_le (by rw [hml]; exact Nat.le_refl _)]
      have hzz : IntKind.i64.wrap (dp - (k : Int)) = ((dp.toNat - k : Nat) : Int) := by rw [wr (by omega) (by omega)]; omega
      rw [hzz]
      refine ⟨fun d x => ∃ j : Nat, x = j ∧ j ≤ dp.toNat - k ∧ d = d1 ++ L.take k ++ List.replicate j 48, fun _ x => dp.toNat - k - x.toNat, ⟨0, rfl, Nat.zero_le _, by simp⟩, ?_⟩
      rintro _ _ ⟨j, rfl, hj, rfl⟩
      refine cnd_dec (fun hlt => ⟨?_, ⟨j + 1, wr1 (by omega), by omega, ?_⟩, ?_⟩) fun hge => ?_
      · simp only [List.length_append, List.length_take, List.length_replicate]; omega
      · rw [List.append_assoc, ← List.replicate_succ']
      · rw [wr1 (by omega)]; dsimp only; omega
      · have hjj : j = dp.toNat - k := by omega
        subst hjj
        rw [List.append_assoc]
        congr 1
        by_cases hc : dp.toNat < n
        · have : k = dp.toNat := by omega
          rw [this, Nat.sub_self, show dp.toNat - L.length = 0 by omega]
        · have : k = n := by omega
          rw [this, hLl, List.take_of_length_le (by omega), List.take_of_length_le (by omega)]
  rintro d2 hd2
  have hl2 : d2.length ≤ 3000 := by
    subst hd2
    rw [List.length_append]
    have : (if 0 < dp then L.take dp.toNat ++ List.replicate (dp.toNat - L.length) 48 else [48]).length ≤ 1100 := by
      split
      · simp only [List.length_append, List.length_take, List.length_replicate]; omega
      · simp
    omega
  refine ⟨fun d => d = d2 ++ (if dp < (L.length : Int) then 46 :: (List.replicate (-dp).toNat 48 ++ L.drop dp.toNat) else []), cnd_dec (fun hq => ?_) fun hq => by rw [if_neg (by rw [hLl]; omega)]; simp, ?_⟩
  · -- the fraction
    have hlt : dp < n := by omega
    have hfr : (if dp < (L.length : Int) then 46 :: (List.replicate (-dp).toNat (48 : Int) ++ L.drop dp.toNat) else []) = 46 :: (List.replicate (-dp).toNat (48 : Int) ++ L.drop dp.toNat) := if_pos (by rw [hLl]; exact hlt)
    rw [hfr]
    obtain ⟨zn, hzn⟩ : ∃ zn : Nat, zn = (-dp).toNat := ⟨_, rfl⟩
    obtain ⟨on, hon⟩ : ∃ on : Nat, on = dp.toNat := ⟨_, rfl⟩
    obtain ⟨mn, hmn⟩ : ∃ mn : Nat, mn = n - on := ⟨_, rfl⟩
    have hz1 : (if IntKind.i64.wrap (0 - dp) > (0 : Int) then IntKind.i64.wrap (0 - dp) else 0) = (zn : Int) := by rw [wr (by omega) (by omega)]; split <;> omega
    have hz2 : (if (zn : Int) < ((n - dp).toNat : Int) then (zn : Int) else ((n - dp).toNat : Int)) = (zn : Int) := by split <;> omega
    have ho : IntKind.i64.wrap (dp + (zn : Int)) = (on : Int) := by rw [wr (by omega) (by omega)]; omega
    have hm1 : IntKind.i64.wrap ((n : Int) - (on : Int)) = (mn : Int) := by rw [wr (by omega) (by omega)]; omega
    have hm2 : (if (mn : Int) > 0 then (mn : Int) else 0) = (mn : Int) := by split <;> omega
    have hm3 : IntKind.i64.wrap (((n - dp).toNat : Int) - (zn : Int)) = (mn : Int) := by rw [wr (by omega) (by omega)]; omega
    have hm4 : (if (mn : Int) < (mn : Int) then (mn : Int) else (mn : Int)) = (mn : Int) := by split <;> rfl
    have hm5 : IntKind.i64.wrap ((mn : Int) - (mn : Int)) = 0 := by rw [wr (by omega) (by omega)]; omega
    have hm6 : (if (0 : Int) > 0 then (0 : Int) else 0) = 0 := by decide
    simp only [hz1, hz2, ho, hm1, hm2, hm3, hm4, hm5, hm6]
    rw [← hzn, ← hon]
    refine ⟨by omega, fun d x => ∃ j : Nat, x = j ∧ j ≤ zn ∧ d = d2 ++ [46] ++ List.replicate j 48, fun _ x => zn - x.toNat, ⟨0, rfl, Nat.zero_le _, by simp⟩, ?_⟩
    rintro _ _ ⟨j, rfl, hj, rfl⟩
    refine cnd_dec (fun hlt => ⟨?_, ⟨j + 1, wr1 (by omega), by omega, ?_⟩, ?_⟩) fun hge => ?_
    · simp only [List.length_append, List.length_replicate, List.length_cons, List.length_nil]; omega
    · rw [List.append_assoc, ← List.replicate_succ']
    · rw [wr1 (by omega)]; dsimp only; omega
    have hjj : j = zn := by omega
    subst hjj
    have hdl : (L.drop on).length = mn := by rw [List.length_drop, hLl]; omega
    refine ⟨fun d x => ∃ k : Nat, x = k ∧ k ≤ mn ∧ d = d2 ++ [46] ++ List.replicate j 48 ++ (L.drop on).take k, fun _ x => mn - x.toNat, ⟨0, rfl, Nat.zero_le _, by simp⟩, ?_⟩
    rintro _ _ ⟨k, rfl, hk, rfl⟩
    have ek : IntKind.i64.wrap ((on : Int) + (k : Int)) = ((on + k : Nat) : Int) := by rw [wr (by omega) (by omega)]; omega
    rw [ek, Int.toNat_natCast]
    refine cnd_dec (fun hlt => ⟨by omega, by omega, fun v hv => ⟨?_, ⟨k + 1, wr1 (by omega), by omega, ?_⟩, ?_⟩⟩) fun hge => ?_
    · simp only [List.length_append, List.length_replicate, List.length_cons, List.length_nil, List.length_take]; omega
    · have hv2 : (L.drop on)[k]? = some v := by
        rw [List.getElem?_drop, ← hL, List.getElem?_take, if_pos (by omega)]; exact hv
      rw [List.append_assoc, List.take_add_one, hv2]; rfl
    · rw [wr1 (by omega)]; dsimp only; omega
    have hkm : k = mn := by omega
    subst hkm
    refine ⟨fun d x => x = 0 ∧ d = d2 ++ [46] ++ List.replicate j 48 ++ (L.drop on).take k, fun _ _ => 0, ⟨rfl, rfl⟩, ?_⟩
    rintro _ _ ⟨rfl, rfl⟩
    refine cnd_dec (fun h => absurd h (by decide)) fun _ => ?_
    rw [List.take_of_length_le (by rw [hdl]; exact Nat.le_refl _)]
    simp
  rintro d3 hd3
  have : d3 = dst ++ signL neg ++ fForm L dp := by
    rw [hd3, hd2, hd1]; simp [fForm, List.append_assoc]
  rw [this]; exact r
theorem ok63' {dst sV L : List Int} {neg : Bool} {dp : Int} {n : Nat} {R : List Int → Prop} (hd : dst.length < 1000) (hL : sV.take n = L) (hn : n ≤ sV.length) (hn32 : n ≤ 32) (h0 : -1000 < dp) (h1 : dp < 1000)
    (r : R (dst ++ fmtG neg L dp)) : Ok63 dst neg sV dp n n 103 true R := by
  unfold fmtG at r
  rw [← List.append_assoc] at r
  by_cases hE : dp - 1 < -4 ∨ 6 ≤ dp - 1
  · rw [if_pos hE] at r
    exact ok63e hd hL hn hn32 h0 h1 hE r
  · rw [if_neg hE] at r
    exact ok63f hd hL hn hn32 h0 h1 hE (.inl rfl) r
theorem ok63z {dst : List Int} {neg : Bool} {R : List Int → Prop} (hd : dst.length < 1000) (r : R (dst ++ fmtG neg [] 0)) : Ok63 dst neg [] 0 0 (-1) 103 true R := by
  unfold fmtG at r
  rw [← List.append_assoc, if_neg (by decide)] at r
  exact ok63f (n := 0) hd rfl (by simp) (by omega) (by omega) (by omega) (by decide) (.inr ⟨rfl, rfl, rfl⟩) r
end Go.Proofs.YtfjflbapojgbhaaGreatDoor.N

/- FormatFloat(x, 'g', -1, 64) of finite numbers, as a function. Conditions: none. -/
namespace Go.Proofs.YtfjflbapojgbhaaGreatDoor.N
open Go.X Go.Proofs.YtfjflbapojgbhaaGreatDoor
set_option maxRecDepth 100000
set_option maxHeartbeats 1000000

def exOf (f : Nat) : Nat := f / 4503599627370496 % 2048
def frOf (f : Nat) : Nat := f % 4503599627370496
def neOf (f : Nat) : Bool := decide (f / 9223372036854775808 ≠ 0)
def maOf (f : Nat) : Nat := if exOf f = 0 then frOf f else frOf f + 4503599627370496
def xpOf (f : Nat) : Int := if exOf f = 0 then 1 else exOf f
def shOf (f : Nat) : Nat := 64 - Lib.bitLen (maOf f)
def mmOf (f : Nat) : Nat := maOf f * 2 ^ shOf f
def eeOf (f : Nat) : Int := xpOf f - 1075 - shOf f
def dOf (f : Nat) : Nat := (short (mmOf f) (eeOf f)).1
def pOf (f : Nat) : Int := (short (mmOf f) (eeOf f)).2
/-- The digits, without zeros at the end. -/
def LOf (f : Nat) : List Int := (dgL (dOf f) (ndg (dOf f))).take (trimC (dgL (dOf f) (ndg (dOf f))) (ndg (dOf f)))
def dpOf (f : Nat) : Int := ndg (dOf f) + pOf f
def txtF (f : Nat) : List Int := if maOf f = 0 then fmtG (neOf f) [] 0 else fmtG (neOf f) (LOf f) (dpOf f)
theorem ndg_le {d : Nat} (h : d < 18446744073709551616) : ndg d ≤ 20 := by
  unfold ndg; split
  · omega
  · rename_i h0
    have := Lib.numDigits_eq d (by omega) h
    split at this <;> omega
theorem ndg_lt (d : Nat) : d < 10 ^ ndg d := by
  unfold ndg; split
  · rename_i h; subst h; decide
  · exact Lib.lt_pow_nDigits d
theorem short_lt (m : Nat) (ev : Int) : (short m ev).1 < 18446744073709551616 := by
  have h1 : dMax m ev < 18446744073709551616 := by unfold dMax; omega
  have h2 : dMin m ev < 18446744073709551616 := by unfold dMin; omega
  unfold short
  split
  · show dMax m ev / 10 < _; omega
  · split
    · show rnd _ < _; unfold rnd; omega
    · exact h2
theorem bl_spec {x : Nat} (h : x ≠ 0) (hx : x < 18446744073709551616) : 1 ≤ Lib.bitLen x ∧ 2 ^ (Lib.bitLen x - 1) ≤ x ∧ x < 2 ^ Lib.bitLen x := Lib.bitLenAux_bounds 64 x hx h
theorem bl_uniq {x k : Nat} (h1 : 2 ^ k ≤ x) (h2 : x < 2 ^ (k + 1)) (hx : x < 18446744073709551616) : Lib.bitLen x = k + 1 := by
  have hp : 0 < 2 ^ k := Nat.two_pow_pos k
  obtain ⟨a1, a2, a3⟩ := bl_spec (show x ≠ 0 by omega) hx
  have b1 := (Nat.pow_lt_pow_iff_right (a := 2) (by decide)).1 (Nat.lt_of_le_of_lt a2 h2)
  have b2 := (Nat.pow_lt_pow_iff_right (a := 2) (by decide)).1 (Nat.lt_of_le_of_lt h1 a3)
  omega
theorem fr_lt (f : Nat) : frOf f < 4503599627370496 := Nat.mod_lt _ (by decide)
theorem ma_lt (f : Nat) : maOf f < 9007199254740992 := by
  have := fr_lt f
  unfold maOf; split <;> omega
theorem mt_of {f : Nat} (hx : exOf f ≠ 2047) (hm : maOf f ≠ 0) : Mt (mmOf f) (eeOf f) ∧ shOf f ≤ 63 ∧ 11 ≤ shOf f := by
  have hl := ma_lt f
  have he : exOf f < 2048 := Nat.mod_lt _ (by decide)
  obtain ⟨b1, b2, b3⟩ := bl_spec hm (by omega)
  have b53 : Lib.bitLen (maOf f) ≤ 53 := Lib.bitLen_le _ 53 (by decide) hl
  have hs : shOf f = 64 - Lib.bitLen (maOf f) := rfl
  have hs2 : 11 ≤ shOf f ∧ shOf f ≤ 63 := by omega
  have hb : shOf f + Lib.bitLen (maOf f) = 64 := by omega
  have lo : 9223372036854775808 ≤ mmOf f := by
    have : 2 ^ (Lib.bitLen (maOf f) - 1) * 2 ^ shOf f = 2 ^ 63 := by rw [← Nat.pow_add]; congr 1; omega
    have h2 := Nat.mul_le_mul_right (2 ^ shOf f) b2
    rw [this] at h2
    exact h2
  have hi : mmOf f < 18446744073709551616 := by
    have : 2 ^ Lib.bitLen (maOf f) * 2 ^ shOf f = 2 ^ 64 := by rw [← Nat.pow_add]; congr 1; omega
    have h2 := Nat.mul_lt_mul_of_pos_right b3 (Nat.two_pow_pos (shOf f))
    rw [this] at h2
    exact h2
  have hz : zOf (eeOf f) = shOf f ∧ -1137 ≤ eeOf f ∧ eeOf f ≤ 960 := by
    unfold eeOf xpOf
    by_cases h0 : exOf f = 0
    · have hm2 : maOf f < 2 ^ 52 := by unfold maOf; rw [if_pos h0]; exact fr_lt f
      have : Lib.bitLen (maOf f) ≤ 52 := Lib.bitLen_le _ 52 (by decide) hm2
      rw [if_pos h0]
      unfold zOf
      rw [if_neg (by omega)]; omega
    · have hm2 : 2 ^ 52 ≤ maOf f := by unfold maOf; rw [if_neg h0]; exact Nat.le_add_left _ _
      have : Lib.bitLen (maOf f) = 53 := bl_uniq (k := 52) hm2 hl (by omega)
      rw [if_neg h0]
      unfold zOf
      rw [if_pos (by omega)]; omega
  exact ⟨⟨lo, hi, hz.2.1, hz.2.2, by rw [hz.1]; exact Nat.mul_mod_left _ _⟩, hs2.2, hs2.1⟩
theorem p_of {m : Nat} {ev : Int} (h : Mt m ev) : -360 ≤ (short m ev).2 ∧ (short m ev).2 ≤ 360 := by
  obtain ⟨p1, p2⟩ := h.p
  unfold short
  split
  · show _ ≤ -(shP m ev - 1) ∧ -(shP m ev - 1) ≤ _; omega
  · split
    · show _ ≤ -shP m ev ∧ -shP m ev ≤ _; omega
    · show _ ≤ -shP m ev ∧ -shP m ev ≤ _; omega
theorem ok49' {dst : List Int} {f : Nat} {R : List Int → Prop} (hf : f < 18446744073709551616) (hx : exOf f ≠ 2047) (hd : dst.length < 1000) (r : R (dst ++ txtF f)) : Ok49 dst f 103 (-1) R := by
  apply ok49
  unfold T49
  refine ⟨fun a b c d => a = (f : Int) ∧ b = 11 ∧ c = 52 ∧ d = -1023, cnd_f (by decide) ⟨fun a b c d => a = (f : Int) ∧ b = 11 ∧ c = 52 ∧ d = -1023, cnd_t (by decide) (callE_of (bits60 f) ⟨_, rfl, rfl, rfl, rfl, rfl⟩), fun _ _ _ _ h => h⟩, ?_⟩
  rintro _ _ _ _ ⟨rfl, rfl, rfl, rfl⟩
  have c63 : IntKind.i64.wrap ((11 : Int) + 52) = 63 := by decide
  have c2047 : IntKind.i64.wrap (IntKind.i64.wrap ((1 : Int) * 2 ^ min (Int.toNat 11) 64) - 1) = 2047 := by decide
  have cmask : IntKind.u64.wrap (IntKind.u64.wrap ((1 : Int) * 2 ^ min (Int.toNat 52) 64) - 1) = 4503599627370495 := by decide
  have c52 : IntKind.u64.wrap ((1 : Int) * 2 ^ min (Int.toNat 52) 64) = 4503599627370496 := by decide
  have m52 : min (Int.toNat 52) 64 = 52 := by decide
  have m63 : min (Int.toNat 63) 64 = 63 := by decide
  rw [c63, c2047, cmask, c52, m52, m63, shr, shr]
  have hq : f / 2 ^ 52 < 4096 := by
    have : (2 : Nat) ^ 52 = 4503599627370496 := by decide
    rw [this]; omega
  have eex : bits .and .i64 (IntKind.i64.wrap ((f / 2 ^ 52 : Nat) : Int)) 2047 = (exOf f : Int) := by
    rw [wr (by omega) (by omega), and2047]
    have : (2 : Nat) ^ 52 = 4503599627370496 := by decide
    unfold exOf; rw [← this]; omega
  have efr : bits .and .u64 (f : Int) 4503599627370495 = (frOf f : Int) := and52 f hf
  have ene : (((f / 2 ^ 63 : Nat) : Int) != 0) = neOf f := by
    have : (2 : Nat) ^ 63 = 9223372036854775808 := by decide
    rw [this]; unfold neOf
    rw [Bool.eq_iff_iff]; simp
    omega
  rw [eex, efr, or52 _ (fr_lt f), ene]
  have he : exOf f < 2048 := Nat.mod_lt _ (by decide)
  have hml := ma_lt f
  refine ⟨by decide, by decide, by decide, by decide, by decide, cnd_eq (fun h => absurd h (by omega)) fun _ => ?_⟩
  refine ⟨fun a b => a = xpOf f ∧ b = (maOf f : Int), cnd_eq (fun h => ?_) fun h => ⟨by decide, ?_⟩, ?_⟩
  · have h' : exOf f = 0 := by omega
    unfold xpOf maOf; rw [if_pos h', if_pos h', h', show IntKind.i64.wrap (((0 : Nat) : Int) + 1) = 1 by decide]
    exact ⟨rfl, rfl⟩
  · have h' : exOf f ≠ 0 := by omega
    unfold xpOf maOf; rw [if_neg h', if_neg h']
    exact ⟨rfl, rfl⟩
  rintro _ _ ⟨rfl, rfl⟩
  refine cnd_f (by decide) (cnd_f (by decide) (cnd_f (by decide) (cnd_eq (fun h0 => ?_) fun h0 => ?_)))
  · have h0' : maOf f = 0 := by omega
    unfold txtF at r; rw [if_pos h0'] at r
    exact ok63z hd r
  have h0' : maOf f ≠ 0 := by omega
  unfold txtF at r; rw [if_neg h0'] at r
  obtain ⟨hmt, hs63, hs11⟩ := mt_of hx h0'
  refine cnd_t (by decide) (ok64' (by omega) (by omega) ?_)
  have eb : bl (maOf f : Int) = ((Lib.bitLen (maOf f) : Nat) : Int) := rfl
  obtain ⟨b1, b2, b3⟩ := bl_spec h0' (by omega)
  have b53 : Lib.bitLen (maOf f) ≤ 53 := Lib.bitLen_le _ 53 (by decide) hml
  have es : IntKind.i64.wrap ((64 : Int) - bl (maOf f : Int)) = (shOf f : Int) := by rw [eb, wr (by omega) (by omega)]; unfold shOf; omega
  rw [es, Int.toNat_natCast, Nat.min_eq_left (by omega), powN, ← Int.natCast_mul, show maOf f * 2 ^ shOf f = mmOf f from rfl, wrapU' hmt.hi]
  have hxp : -1 ≤ xpOf f ∧ xpOf f ≤ 2047 := by unfold xpOf; split <;> omega
  have ee : IntKind.i64.wrap (IntKind.i64.wrap (IntKind.i64.wrap (xpOf f + -1023) - (shOf f : Int)) - 52) = eeOf f := by
    rw [wr (x := xpOf f + -1023) (by omega) (by omega), wr (x := xpOf f + -1023 - (shOf f : Int)) (by omega) (by omega), wr (by omega) (by omega)]; unfold eeOf; omega
  rw [ee]
  refine ⟨by omega, ok73' hmt ?_⟩
  have hdl := short_lt (mmOf f) (eeOf f)
  obtain ⟨p1, p2⟩ := p_of hmt
  have hn := ndg_le hdl
  refine ok67' hdl (ok66' (ndg_lt _) hdl (by omega) ⟨by omega, by omega⟩ ?_)
  refine ⟨fun q => q = (trimC (dgL (dOf f) (ndg (dOf f))) (ndg (dOf f)) : Int), ⟨fun x => x = false, cnd_f (by decide) (by decide), ?_⟩, ?_⟩
  · rintro _ rfl
    refine cnd_f rfl ⟨fun q => q = (trimC (dgL (dOf f) (ndg (dOf f))) (ndg (dOf f)) : Int), cnd_f (by decide) ⟨fun x => x = true, cnd_t (by decide) (by decide), ?_⟩, fun _ h => h⟩
    rintro _ rfl
    exact cnd_t rfl rfl
  rintro _ rfl
  have ht := trimC_le (dgL (dOf f) (ndg (dOf f))) (ndg (dOf f))
  have hn2 : ndg (dOf f) ≤ 20 := hn
  refine ok63' hd ?_ ?_ (Nat.le_trans ht (by omega)) (show -1000 < dpOf f by unfold dpOf pOf; omega) (show dpOf f < 1000 by unfold dpOf pOf; omega) r
  · rw [List.take_append_of_le_length (by rw [dgL_len]; exact ht)]; rfl
  · simp only [List.length_append, dgL_len, List.length_replicate]
    show trimC (dgL (dOf f) (ndg (dOf f))) (ndg (dOf f)) ≤ ndg (dOf f) + (32 - ndg (dOf f))
    omega
theorem ok41' {f : Nat} {R : ByteArray → Prop} (hf : f < 18446744073709551616) (hx : exOf f ≠ 2047) (r : R (strOf (txtF f))) : Ok41 f 103 (-1) 64 R := by
  apply ok41
  unfold T41
  refine cnd_f (by decide) (cnd_t (by decide) ⟨by decide, by decide, by decide, ok49' hf hx (by decide) ?_⟩)
  exact r
theorem ok33' {f : Nat} {R : ByteArray → Prop} (hf : f < 18446744073709551616) (hx : exOf f ≠ 2047) (r : R (strOf (txtF f))) : Ok33 f 103 (-1) 64 R := by
  apply ok33
  unfold T33
  exact ok41' hf hx r
end Go.Proofs.YtfjflbapojgbhaaGreatDoor.N
