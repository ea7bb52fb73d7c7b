/- The shortest digits of a number, as natural numbers reckon them: the program's shortFloat. Conditions: none. -/
import Derived.Test.YtfjflbapojgbhaaGreatDoorWNum
namespace Go.Proofs.YtfjflbapojgbhaaGreatDoor.N
open Go.X Go.Proofs.YtfjflbapojgbhaaGreatDoor
set_option maxRecDepth 100000
set_option maxHeartbeats 1000000

theorem tT_len : tT.length = 1392 := by kernel_rfl
theorem tT_all : (tT.all fun v => decide (0 ≤ v) && decide (v < 18446744073709551616)) = true := by kernel_rfl
def hiP (p : Int) : Nat := (tT.getD ((p + 348).toNat * 2) 0).toNat
def loP (p : Int) : Nat := (tT.getD ((p + 348).toNat * 2 + 1) 0).toNat
theorem tT_at {i : Nat} (h : i < 1392) : tT[i]? = some (((tT.getD i 0).toNat : Nat) : Int) ∧ (tT.getD i 0).toNat < 18446744073709551616 := by
  have hl : i < tT.length := by rw [tT_len]; exact h
  have hm := List.all_eq_true.1 tT_all _ (List.getElem_mem hl)
  simp only [Bool.and_eq_true, decide_eq_true_eq] at hm
  rw [List.getD_eq_getElem?_getD, List.getElem?_eq_getElem hl]
  simp only [Option.getD_some, Option.some.injEq]
  omega
theorem hiP_lt {p : Int} (h1 : -348 ≤ p) (h2 : p ≤ 347) : hiP p < 18446744073709551616 := (tT_at (i := (p + 348).toNat * 2) (by omega)).2
theorem loP_lt {p : Int} (h1 : -348 ≤ p) (h2 : p ≤ 347) : loP p < 18446744073709551616 := (tT_at (i := (p + 348).toNat * 2 + 1) (by omega)).2
theorem ok96' {a b c ev p lp : Int} {R : Int → Int → Int → Prop} (h1 : -348 ≤ p) (h2 : p ≤ 347) (h3 : -4000 ≤ ev) (h4 : ev ≤ 4000) (h5 : -4000 ≤ lp) (h6 : lp ≤ 4000)
    (r : R (hiP p : Int) (loP p : Int) (-(ev + lp + 3))) : Ok96 a b c ev p lp R := by
  apply ok96
  unfold T96
  have e1 : IntKind.i64.wrap (p - (-348)) = p + 348 := by rw [wr (by omega) (by omega)]; omega
  have e2 : IntKind.i64.wrap (0 - IntKind.i64.wrap (IntKind.i64.wrap (ev + lp) + 3)) = -(ev + lp + 3) := by
    rw [wr (x := ev + lp) (by omega) (by omega), wr (x := ev + lp + 3) (by omega) (by omega), wr (by omega) (by omega)]; omega
  rw [e1, e2]
  exact ⟨by omega, by omega, _, (tT_at (by omega)).1, by omega, by omega, _, (tT_at (by omega)).1, r⟩
def l10 (x : Int) : Int := x * 78913 / 262144
def l2 (x : Int) : Int := x * 108853 / 32768
def skw (x : Int) : Int := (x * 631305 - 261663) / 2097152
theorem ok68' {x : Int} {R : Int → Prop} (h1 : -4000 ≤ x) (h2 : x ≤ 4000) (r : R (l10 x)) : Ok68 x R := by
  apply ok68; unfold T68
  rw [wr (by omega) (by omega), show min (Int.toNat 18) 64 = 18 from rfl, shrI]
  exact ⟨by decide, r⟩
theorem ok97' {x : Int} {R : Int → Prop} (h1 : -4000 ≤ x) (h2 : x ≤ 4000) (r : R (l2 x)) : Ok97 x R := by
  apply ok97; unfold T97
  rw [wr (by omega) (by omega), show min (Int.toNat 15) 64 = 15 from rfl, shrI]
  exact ⟨by decide, r⟩
theorem ok95' {x : Int} {R : Int → Prop} (h1 : -4000 ≤ x) (h2 : x ≤ 4000) (r : R (skw x)) : Ok95 x R := by
  apply ok95; unfold T95
  rw [wr (x := x * 631305) (by omega) (by omega), wr (by omega) (by omega), show min (Int.toNat 21) 64 = 21 from rfl, shrI]
  exact ⟨by decide, r⟩
theorem ok99' {u : Nat} {x : Int} {R : Int → Prop} (r : R (IntKind.u64.wrap ((u : Int) + IntKind.u64.wrap x))) : Ok99 u x R := by
  apply ok99; exact r
theorem ok100' {u : Nat} {R : Int → Prop} (r : R (((u + 3) % 18446744073709551616 / 4 : Nat) : Int)) : Ok100 u R := by
  apply ok100; unfold T100
  rw [show min (Int.toNat 2) 64 = 2 from rfl, show ((u : Int) + 3) = ((u + 3 : Nat) : Int) by omega, wrapU, shr]
  exact ⟨by decide, r⟩
theorem ok101' {u : Nat} {R : Int → Prop} (r : R ((u % 18446744073709551616 / 4 : Nat) : Int)) : Ok101 u R := by
  apply ok101; unfold T101
  rw [show min (Int.toNat 2) 64 = 2 from rfl, show ((u : Int) + 0) = ((u : Nat) : Int) by omega, wrapU, shr]
  exact ⟨by decide, r⟩
def rnd (u : Nat) : Nat := (u + 1 + u / 4 % 2) % 18446744073709551616 / 4
theorem ok102' {u : Nat} (hu : u < 18446744073709551616) {R : Int → Prop} (r : R ((rnd u : Nat) : Int)) : Ok102 u R := by
  apply ok102; unfold T102
  have hq : u / 2 ^ 2 < 18446744073709551616 := Nat.lt_of_le_of_lt (Nat.div_le_self _ _) hu
  rw [show min (Int.toNat 2) 64 = 2 from rfl, shr, and1u _ hq, show ((u : Int) + 1) = ((u + 1 : Nat) : Int) by omega, wrapU]
  have e : (((u + 1) % 18446744073709551616 : Nat) : Int) + ((u / 2 ^ 2 % 2 : Nat) : Int) = (((u + 1) % 18446744073709551616 + u / 2 ^ 2 % 2 : Nat) : Int) := by omega
  rw [e, wrapU, shr]
  have e2 : ((u + 1) % 18446744073709551616 + u / 2 ^ 2 % 2) % 18446744073709551616 / 2 ^ 2 = rnd u := by unfold rnd; rw [show (2 : Nat) ^ 2 = 4 from rfl]; omega
  rw [e2]
  exact ⟨by decide, by decide, r⟩
def zOf (ev : Int) : Nat := if -1085 ≤ ev then 11 else (-1074 - ev).toNat
def shA (m : Nat) (ev : Int) : Bool := decide (m = 9223372036854775808) && decide (-1085 < ev)
def shP (m : Nat) (ev : Int) : Int := if shA m ev then -skw (ev + 11) else -l10 (ev + zOf ev)
def scl (x : Nat) (ev p : Int) : Nat := usc x (hiP p) (loP p) ((-(ev + l2 p + 3)) % 64).toNat
def shMin (m : Nat) (ev : Int) : Nat := if shA m ev then m - 512 else m - 2 ^ (zOf ev - 1)
def shMax (m : Nat) (ev : Int) : Nat := m + 2 ^ (zOf ev - 1)
def shOdd (m : Nat) (ev : Int) : Nat := m / 2 ^ zOf ev % 2
def dMin (m : Nat) (ev : Int) : Nat := (scl (shMin m ev) ev (shP m ev) + shOdd m ev + 3) % 18446744073709551616 / 4
def dMax (m : Nat) (ev : Int) : Nat := (scl (shMax m ev) ev (shP m ev) + 18446744073709551616 - shOdd m ev) % 18446744073709551616 / 4
def short (m : Nat) (ev : Int) : Nat × Int :=
  if dMin m ev ≤ dMax m ev / 10 * 10 then (dMax m ev / 10, -(shP m ev - 1))
  else if dMin m ev < dMax m ev then (rnd (scl m ev (shP m ev)), -shP m ev)
  else (dMin m ev, -shP m ev)
/-- A number's digits of two, left-aligned. -/
structure Mt (m : Nat) (ev : Int) : Prop where
  lo : 9223372036854775808 ≤ m
  hi : m < 18446744073709551616
  e0 : -1137 ≤ ev
  e1 : ev ≤ 960
  al : m % 2 ^ zOf ev = 0
theorem Mt.z {m : Nat} {ev : Int} (h : Mt m ev) : 11 ≤ zOf ev ∧ zOf ev ≤ 63 := by
  have := h.e0; unfold zOf; split <;> omega
theorem Mt.top {m : Nat} {ev : Int} (h : Mt m ev) : m + 2 ^ zOf ev ≤ 18446744073709551616 := by
  obtain ⟨z1, z2⟩ := h.z
  have h1 := h.al; have h2 := h.hi
  obtain ⟨k, hk⟩ : ∃ k, 64 = zOf ev + k := ⟨64 - zOf ev, by omega⟩
  have e : (18446744073709551616 : Nat) = 2 ^ zOf ev * 2 ^ k := by rw [← Nat.pow_add, ← hk]
  obtain ⟨q, rfl⟩ := Nat.dvd_of_mod_eq_zero h1
  rw [e] at h2 ⊢
  have := Nat.lt_of_mul_lt_mul_left h2
  calc 2 ^ zOf ev * q + 2 ^ zOf ev = 2 ^ zOf ev * (q + 1) := by rw [Nat.mul_add, Nat.mul_one]
    _ ≤ _ := Nat.mul_le_mul_left _ this
theorem Mt.half {m : Nat} {ev : Int} (h : Mt m ev) : 2 ^ (zOf ev - 1) * 2 = 2 ^ zOf ev ∧ 2 ^ zOf ev ≤ 9223372036854775808 ∧ 1024 ≤ 2 ^ (zOf ev - 1) := by
  obtain ⟨z1, z2⟩ := h.z
  refine ⟨by rw [← Nat.pow_succ]; congr 1; omega, ?_, ?_⟩
  · exact (Nat.pow_le_pow_right (by decide) z2 : 2 ^ zOf ev ≤ 2 ^ 63)
  · exact (Nat.pow_le_pow_right (by decide) (by omega) : 2 ^ 10 ≤ 2 ^ (zOf ev - 1))
theorem Mt.p {m : Nat} {ev : Int} (h : Mt m ev) : -348 ≤ shP m ev ∧ shP m ev ≤ 347 := by
  obtain ⟨z1, z2⟩ := h.z
  have := h.e0; have := h.e1
  have hz : -1074 ≤ ev + zOf ev ∧ ev + zOf ev ≤ 971 := by
    unfold zOf; split <;> omega
  unfold shP skw l10
  split
  · rename_i hA
    simp only [shA, Bool.and_eq_true, decide_eq_true_eq] at hA
    omega
  · generalize (zOf ev : Int) = z at *
    omega
theorem oddOf {q : Nat} (hq : q < 18446744073709551616) : (((IntKind.i64.wrap (q : Int)) % 2).toNat : Int) = ((q % 2 : Nat) : Int) := by
  rw [IntKind.wrap_i64]; omega
theorem ok73' {m : Nat} {ev : Int} (h : Mt m ev) {R : Int → Int → Prop} (r : R ((short m ev).1 : Int) (short m ev).2) : Ok73 m ev R := by
  apply ok73
  unfold T73
  obtain ⟨z1, z2⟩ := h.z
  have hlo := h.lo; have hhi := h.hi; have he0 := h.e0; have he1 := h.e1
  have htop := h.top
  obtain ⟨hh1, hh2, hh3⟩ := h.half
  obtain ⟨p1, p2⟩ := h.p
  refine ⟨fun a b => a = 52 ∧ b = -1085, cnd_f (by decide) ⟨fun a b => a = 52 ∧ b = -1085, cnd_t (by decide) ⟨rfl, rfl⟩, fun a b h => h⟩, ?_⟩
  rintro _ _ ⟨rfl, rfl⟩
  have e11 : IntKind.i64.wrap ((63 : Int) - 52) = 11 := by decide
  have e10 : IntKind.i64.wrap ((11 : Int) - 1) = 10 := by decide
  have e9 : IntKind.i64.wrap ((11 : Int) - 2) = 9 := by decide
  have p9 : IntKind.u64.wrap ((1 : Int) * 2 ^ min (Int.toNat 9) 64) = ((512 : Nat) : Int) := by decide
  have p10 : IntKind.u64.wrap ((1 : Int) * 2 ^ min (Int.toNat 10) 64) = ((1024 : Nat) : Int) := by decide
  simp only [e11, e10, e9, p9, p10]
  have odd : ∀ z : Nat, z ≤ 63 → bits .and .i64 (IntKind.i64.wrap (Int.fdiv (m : Int) (2 ^ min z 64))) 1 = ((m / 2 ^ z % 2 : Nat) : Int) := by
    intro z hz
    rw [Nat.min_eq_left (by omega), shr, and1]
    have hq : m / 2 ^ z < 18446744073709551616 := Nat.lt_of_le_of_lt (Nat.div_le_self _ _) hhi
    exact oddOf hq
  have o11 := odd 11 (by decide)
  refine ⟨fun a b c d => a = shP m ev ∧ b = (shMin m ev : Int) ∧ c = (shMax m ev : Int) ∧ d = (shOdd m ev : Int), ?_, ?_⟩
  · -- the three ways
    have J1 : ¬ (m = 9223372036854775808 ∧ -1085 < ev) → -1085 ≤ ev → Ok68 (IntKind.i64.wrap (ev + 11)) fun r => (0 : Int) ≤ 10 ∧ (0 : Int) ≤ 10 ∧ (0 : Int) ≤ 11 ∧ (IntKind.i64.wrap (0 - r) = shP m ev ∧ IntKind.u64.wrap ((m : Int) - (1024 : Nat)) = (shMin m ev : Int) ∧ IntKind.u64.wrap ((m : Int) + (1024 : Nat)) = (shMax m ev : Int) ∧ bits .and .i64 (IntKind.i64.wrap (Int.fdiv (m : Int) (2 ^ min (Int.toNat 11) 64))) 1 = (shOdd m ev : Int)) := by
      intro hA hE
      have hz : zOf ev = 11 := by unfold zOf; rw [if_pos hE]
      have h10 : 2 ^ (zOf ev - 1) = 1024 := by rw [hz]
      have hs : shA m ev = false := by
        unfold shA; rw [Bool.and_eq_false_iff]; simp only [decide_eq_false_iff_not]
        by_cases hm : m = 9223372036854775808
        · exact .inr fun h => hA ⟨hm, h⟩
        · exact .inl hm
      rw [wr (by omega) (by omega)]
      refine ok68' (by omega) (by omega) ⟨by decide, by decide, by decide, ?_, ?_, ?_, ?_⟩
      · unfold shP; rw [hs, hz]; simp only [Bool.false_eq_true, if_false]
        rw [wr (by unfold l10; omega) (by unfold l10; omega)]
        show 0 - l10 (ev + 11) = -l10 (ev + 11)
        omega
      · rw [wrapSL (by omega) hhi]; unfold shMin; rw [hs, if_neg (by decide), h10]
      · rw [← Int.natCast_add, wrapU' (by omega)]; unfold shMax; rw [h10]
      · rw [show Int.toNat 11 = 11 from rfl, o11]; unfold shOdd; rw [hz]
    have J2 : ev < -1085 → Ok68 (IntKind.i64.wrap (ev + IntKind.i64.wrap (11 + IntKind.i64.wrap (-1085 - ev)))) fun r => (0 : Int) ≤ IntKind.i64.wrap (IntKind.i64.wrap (11 + IntKind.i64.wrap (-1085 - ev)) - 1) ∧ (0 : Int) ≤ IntKind.i64.wrap (IntKind.i64.wrap (11 + IntKind.i64.wrap (-1085 - ev)) - 1) ∧ (0 : Int) ≤ IntKind.i64.wrap (11 + IntKind.i64.wrap (-1085 - ev)) ∧
        (IntKind.i64.wrap (0 - r) = shP m ev ∧ IntKind.u64.wrap ((m : Int) - IntKind.u64.wrap (1 * 2 ^ min (Int.toNat (IntKind.i64.wrap (IntKind.i64.wrap (11 + IntKind.i64.wrap (-1085 - ev)) - 1))) 64)) = (shMin m ev : Int) ∧
          IntKind.u64.wrap ((m : Int) + IntKind.u64.wrap (1 * 2 ^ min (Int.toNat (IntKind.i64.wrap (IntKind.i64.wrap (11 + IntKind.i64.wrap (-1085 - ev)) - 1))) 64)) = (shMax m ev : Int) ∧
          bits .and .i64 (IntKind.i64.wrap (Int.fdiv (m : Int) (2 ^ min (Int.toNat (IntKind.i64.wrap (11 + IntKind.i64.wrap (-1085 - ev)))) 64))) 1 = (shOdd m ev : Int)) := by
      intro hE
      have hz : (zOf ev : Int) = -1074 - ev := by unfold zOf; rw [if_neg (by omega)]; omega
      have hs : shA m ev = false := by
        unfold shA; rw [Bool.and_eq_false_iff]; simp only [decide_eq_false_iff_not]
        exact .inr (by omega)
      have ez : IntKind.i64.wrap (11 + IntKind.i64.wrap (-1085 - ev)) = (zOf ev : Int) := by
        rw [wr (x := -1085 - ev) (by omega) (by omega), wr (by omega) (by omega), hz]; omega
      rw [ez]
      have ez1 : IntKind.i64.wrap ((zOf ev : Int) - 1) = ((zOf ev - 1 : Nat) : Int) := by rw [wr (by omega) (by omega)]; omega
      rw [ez1, Int.toNat_natCast, Int.toNat_natCast]
      have ep : IntKind.u64.wrap (1 * 2 ^ min (zOf ev - 1) 64) = ((2 ^ (zOf ev - 1) : Nat) : Int) := by
        rw [Nat.min_eq_left (by omega), Int.one_mul, powN, wrapU' (by omega)]
      rw [ep]
      rw [wr (by omega) (by omega)]
      refine ok68' (by omega) (by omega) ⟨by omega, by omega, by omega, ?_, ?_, ?_, ?_⟩
      · unfold shP; rw [hs]; simp only [Bool.false_eq_true, if_false]
        rw [wr (by unfold l10; omega) (by unfold l10; omega)]
        omega
      · rw [wrapSL (by omega) hhi]; unfold shMin; rw [hs, if_neg (by decide)]
      · rw [← Int.natCast_add, wrapU' (by omega)]; unfold shMax; rfl
      · rw [odd _ z2]; rfl
    refine cnd_eq (fun hm => ?_) fun hm => ?_
    · have hm' : m = 9223372036854775808 := by omega
      refine ⟨fun a b c d => a = shP m ev ∧ b = (shMin m ev : Int) ∧ c = (shMax m ev : Int) ∧ d = (shOdd m ev : Int), cnd_dec (fun hE => ?_) fun hE => ⟨fun a b c d => a = shP m ev ∧ b = (shMin m ev : Int) ∧ c = (shMax m ev : Int) ∧ d = (shOdd m ev : Int), cnd_dec (fun hE2 => J1 (by omega) (by omega)) fun hE2 => J2 (by omega), fun _ _ _ _ h => h⟩, fun _ _ _ _ h => h⟩
      have hz : zOf ev = 11 := by unfold zOf; rw [if_pos (by omega)]
      have h10 : 2 ^ (zOf ev - 1) = 1024 := by rw [hz]
      have hs : shA m ev = true := by unfold shA; rw [Bool.and_eq_true]; simp only [decide_eq_true_eq]; exact ⟨hm', hE⟩
      rw [wr (by omega) (by omega)]
      refine ok95' (by omega) (by omega) ⟨by decide, by decide, by decide, ?_, ?_, ?_, ?_⟩
      · unfold shP; rw [hs]; simp only [if_true]
        rw [wr (by unfold skw; omega) (by unfold skw; omega)]
        omega
      · rw [wrapSL (by omega) hhi]; unfold shMin; rw [hs, if_pos rfl]
      · rw [← Int.natCast_add, wrapU' (by omega)]; unfold shMax; rw [h10]
      · rw [show Int.toNat 11 = 11 from rfl, o11]; unfold shOdd; rw [hz]
    · have hm' : m ≠ 9223372036854775808 := by omega
      exact ⟨fun a b c d => a = shP m ev ∧ b = (shMin m ev : Int) ∧ c = (shMax m ev : Int) ∧ d = (shOdd m ev : Int), cnd_dec (fun hE2 => J1 (by omega) (by omega)) fun hE2 => J2 (by omega), fun _ _ _ _ h => h⟩
  · rintro _ _ _ _ ⟨rfl, rfl, rfl, rfl⟩
    have hodd : shOdd m ev ≤ 1 := by unfold shOdd; omega
    have hmin : shMin m ev < 18446744073709551616 := by unfold shMin; split <;> omega
    have hmax : shMax m ev < 18446744073709551616 := by unfold shMax; omega
    have hl2 : -4000 ≤ l2 (shP m ev) ∧ l2 (shP m ev) ≤ 4000 := by unfold l2; omega
    have hhi' := hiP_lt p1 p2; have hlo' := loP_lt p1 p2
    refine ok97' (by omega) (by omega) (ok96' p1 p2 (by omega) (by omega) hl2.1 hl2.2 (ok98' hmin hhi' hlo' ?_))
    have u1 : ∀ x, x < 18446744073709551616 → usc x (hiP (shP m ev)) (loP (shP m ev)) ((-(ev + l2 (shP m ev) + 3)) % 64).toNat < 18446744073709551616 := fun x hx => usc_lt hx hhi'
    refine ok99' ?_
    have w1 : ∀ u o : Nat, o ≤ 1 → IntKind.u64.wrap ((u : Int) + IntKind.u64.wrap (o : Int)) = (((u + o) % 18446744073709551616 : Nat) : Int) := by
      intro u o ho
      rw [wrapU' (a := o) (by omega), ← Int.natCast_add, wrapU]
    have w2 : ∀ u o : Nat, o ≤ 1 → IntKind.u64.wrap ((u : Int) + IntKind.u64.wrap (IntKind.i64.wrap (0 - (o : Int)))) = (((u + 18446744073709551616 - o) % 18446744073709551616 : Nat) : Int) := by
      intro u o ho
      rw [wr (by omega) (by omega), IntKind.wrap_u64, IntKind.wrap_u64]; omega
    rw [w1 _ _ hodd]
    refine ok100' (ok98' hmax hhi' hlo' (ok99' ?_))
    rw [w2 _ _ hodd]
    refine ok101' ?_
    have ea : ((usc (shMin m ev) (hiP (shP m ev)) (loP (shP m ev)) ((-(ev + l2 (shP m ev) + 3)) % 64).toNat + shOdd m ev) % 18446744073709551616 + 3) % 18446744073709551616 / 4 = dMin m ev := by unfold dMin scl; omega
    have eb : (usc (shMax m ev) (hiP (shP m ev)) (loP (shP m ev)) ((-(ev + l2 (shP m ev) + 3)) % 64).toNat + 18446744073709551616 - shOdd m ev) % 18446744073709551616 % 18446744073709551616 / 4 = dMax m ev := by unfold dMax scl; omega
    rw [ea, eb]
    have hb : dMax m ev < 18446744073709551616 := by unfold dMax; omega
    have ed : IntKind.u64.wrap (Int.tdiv (dMax m ev : Int) 10) = ((dMax m ev / 10 : Nat) : Int) := by
      rw [show Int.tdiv (dMax m ev : Int) 10 = ((dMax m ev / 10 : Nat) : Int) from rfl, wrapU' (by omega)]
    have em : IntKind.u64.wrap (((dMax m ev / 10 : Nat) : Int) * 10) = ((dMax m ev / 10 * 10 : Nat) : Int) := by
      rw [show (((dMax m ev / 10 : Nat) : Int) * 10) = ((dMax m ev / 10 * 10 : Nat) : Int) by omega, wrapU' (by omega)]
    rw [ed, em]
    unfold short at r
    have ip : ∀ x : Int, -1000 ≤ x → x ≤ 1000 → IntKind.i64.wrap (0 - x) = -x := fun x h1 h2 => by rw [wr (by omega) (by omega)]; omega
    refine ⟨by decide, cnd_dec (fun hc => ?_) fun hc => ?_⟩
    · rw [if_pos (by omega)] at r
      rw [wr (x := shP m ev - 1) (by omega) (by omega), ip _ (by omega) (by omega)]
      exact r
    · rw [if_neg (by omega)] at r
      rw [ip _ (by omega) (by omega)]
      refine ⟨fun d => d = ((if dMin m ev < dMax m ev then rnd (scl m ev (shP m ev)) else dMin m ev : Nat) : Int), cnd_dec (fun hd => ?_) fun hd => ?_, ?_⟩
      · refine ok98' hhi hhi' hlo' (ok102' (u1 _ hhi) ?_)
        rw [if_pos (by omega)]; rfl
      · rw [if_neg (by omega)]
      · rintro _ rfl
        split <;> rename_i hq <;> simp only [hq, if_true, if_false] at r <;> exact r
end Go.Proofs.YtfjflbapojgbhaaGreatDoor.N
