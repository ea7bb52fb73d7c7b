/- Checks of the shortest digits, exponent by exponent. Conditions: none. -/
import Derived.Test.YtfjflbapojgbhaaGreatDoorWAtofIn
import Derived.Test.YtfjflbapojgbhaaGreatDoorWBeg
import Derived.Test.YtfjflbapojgbhaaGreatDoorWLaw2
namespace Go.Proofs.YtfjflbapojgbhaaGreatDoor.N
open Go.X Go.Proofs.YtfjflbapojgbhaaGreatDoor
set_option maxRecDepth 100000
set_option maxHeartbeats 1000000

def okL (f : Int → Int) (k : Nat) : Bool := let e := (k : Int) - 1074; decide (0 ≤ e + l2 (-f e)) && decide (e + l2 (-f e) ≤ 3)
theorem okL_l10 : ((List.range 2046).all (okL l10)) = true := by kernel_rfl
theorem okL_skw : ((List.range 2046).all (okL skw)) = true := by kernel_rfl
theorem sh_l10 {e : Int} (h1 : -1074 ≤ e) (h2 : e ≤ 971) : 0 ≤ e + l2 (-l10 e) ∧ e + l2 (-l10 e) ≤ 3 := by
  have := List.all_eq_true.1 okL_l10 (e + 1074).toNat (List.mem_range.2 (by omega))
  simp only [okL, Bool.and_eq_true, decide_eq_true_eq] at this
  rwa [show (((e + 1074).toNat : Nat) : Int) - 1074 = e by omega] at this
theorem sh_skw {e : Int} (h1 : -1074 ≤ e) (h2 : e ≤ 971) : 0 ≤ e + l2 (-skw e) ∧ e + l2 (-skw e) ≤ 3 := by
  have := List.all_eq_true.1 okL_skw (e + 1074).toNat (List.mem_range.2 (by omega))
  simp only [okL, Bool.and_eq_true, decide_eq_true_eq] at this
  rwa [show (((e + 1074).toNat : Nat) : Int) - 1074 = e by omega] at this
/-- At powers of two, checked one by one. -/
def ckS (h l : Nat) (p : Int) : Bool := (List.range 6).all fun k =>
  let e := l2 (-p) + (k : Int)
  if skw e = -p then
    let s := ((-(e - 11 + l2 p + 3)) % 64).toNat
    let dn := (usc 9223372036854775296 h l s + 0 + 3) % 18446744073709551616 / 4
    let dx := (usc 9223372036854776832 h l s + 18446744073709551616 - 0) % 18446744073709551616 / 4
    if dn < dx then (if dn ≤ dx / 10 * 10 then true else decide (dn ≤ rnd (usc 9223372036854775808 h l s))) else true
  else true
theorem ckS_ok : ckL ckS Go.Pinned.pow10Rows 0 = true := by kernel_rfl
theorem ckW_all : ckL (fun _ _ p => ckN 18014398509481984 124 56 p) Go.Pinned.pow10Rows 0 = true := by kernel_rfl
def okB (k : Nat) : Bool :=
  let e := (k : Int) - 1074
  decide (10 ^ (-(-l10 e)).toNat * W 0 ≤ W e * 10 ^ (-l10 e).toNat) && decide (4 * (10 ^ (-(-skw e)).toNat * W 0) ≤ 3 * (W e * 10 ^ (-skw e).toNat)) && decide (l2 (skw e) ≤ e) && decide (e ≤ l2 (skw e) + 5)
theorem okB_all : ((List.range 2046).all okB) = true := by kernel_rfl
theorem okB_at {e : Int} (h1 : -1074 ≤ e) (h2 : e ≤ 971) : tenn (-l10 e) * W 0 ≤ W e * ten (-l10 e) ∧ 4 * (tenn (-skw e) * W 0) ≤ 3 * (W e * ten (-skw e)) ∧ l2 (skw e) ≤ e ∧ e ≤ l2 (skw e) + 5 := by
  have := List.all_eq_true.1 okB_all (e + 1074).toNat (List.mem_range.2 (by omega))
  simp only [okB, Bool.and_eq_true, decide_eq_true_eq] at this
  rw [show (((e + 1074).toNat : Nat) : Int) - 1074 = e by omega] at this
  exact ⟨this.1.1.1, this.1.1.2, this.1.2, this.2⟩
end Go.Proofs.YtfjflbapojgbhaaGreatDoor.N

/- The shortest digits lie where they are rounded back. Conditions: none. -/
namespace Go.Proofs.YtfjflbapojgbhaaGreatDoor.N
open Go.X Go.Proofs.YtfjflbapojgbhaaGreatDoor
set_option maxRecDepth 100000
set_option maxHeartbeats 1000000

theorem In.scale {Y d Y' d' M : Nat} {e : Int} (hd : 0 < d) (h : In Y d M e) (hY : Y * d' = Y' * d) (hd' : 0 < d') : In Y' d' M e := by
  obtain ⟨a1, a2, a3, a4, a5, a6, a7, a8⟩ := h
  have le1 : ∀ c, Y ≤ c * (W e * d) → Y' ≤ c * (W e * d') := fun c hc => by
    refine Nat.le_of_mul_le_mul_right (c := d) ?_ hd
    rw [← hY]
    calc Y * d' ≤ c * (W e * d) * d' := Nat.mul_le_mul_right _ hc
      _ = _ := by ac_rfl
  have lt1 : ∀ c, Y < c * (W e * d) → Y' < c * (W e * d') := fun c hc => by
    refine Nat.lt_of_mul_lt_mul_right (a := d) ?_
    rw [← hY]
    calc Y * d' < c * (W e * d) * d' := Nat.mul_lt_mul_of_pos_right hc hd'
      _ = _ := by ac_rfl
  have le2 : ∀ c k, c * (W e * d) ≤ Y + k * (W e * d) → c * (W e * d') ≤ Y' + k * (W e * d') := fun c k hc => by
    refine Nat.le_of_mul_le_mul_right (c := d) ?_ hd
    rw [Nat.add_mul, ← hY]
    calc c * (W e * d') * d = c * (W e * d) * d' := by ac_rfl
      _ ≤ (Y + k * (W e * d)) * d' := Nat.mul_le_mul_right _ hc
      _ = Y * d' + k * (W e * d) * d' := Nat.add_mul _ _ _
      _ = _ := by congr 1; ac_rfl
  have lt2 : ∀ c k, c * (W e * d) < Y + k * (W e * d) → c * (W e * d') < Y' + k * (W e * d') := fun c k hc => by
    refine Nat.lt_of_mul_lt_mul_right (a := d) ?_
    rw [Nat.add_mul, ← hY]
    calc c * (W e * d') * d = c * (W e * d) * d' := by ac_rfl
      _ < (Y + k * (W e * d)) * d' := Nat.mul_lt_mul_of_pos_right hc hd'
      _ = Y * d' + k * (W e * d) * d' := Nat.add_mul _ _ _
      _ = _ := by congr 1; ac_rfl
  refine ⟨a1, a2, a3, le1 _ a4, fun h => lt1 _ (a5 h), le2 _ 2 a6, fun h => lt2 _ 2 (a7 h), fun h1 h2 => ?_⟩
  have := le2 (4 * M) 1 (by rw [Nat.one_mul]; exact a8 h1 h2)
  rwa [Nat.one_mul] at this
theorem usc_lt2 {x hi lo s : Nat} (hx : x < 18446744073709551616) (hh : hi < 18446744073709551616) (hs : 2 ≤ s) : usc x hi lo s < 4611686018427387904 := by
  have hd := div_lt64 hx hh
  have h4 : 4 ≤ 2 ^ s := Nat.pow_le_pow_right (n := 2) (by decide) hs
  unfold usc
  simp only []
  have e : (4611686018427387904 : Nat) = 2 ^ 62 := by decide
  have hq : ∀ a : Nat, a < 18446744073709551616 → a / 2 ^ s < 2 ^ 62 := fun a ha => by
    refine Nat.div_lt_of_lt_mul ?_
    calc a < 18446744073709551616 := ha
      _ = 4 * 2 ^ 62 := by decide
      _ ≤ 2 ^ s * 2 ^ 62 := Nat.mul_le_mul_right _ h4
  rw [e]
  split
  · exact Nat.or_lt_two_pow (hq _ (Nat.mod_lt _ (by decide))) (by split <;> decide)
  · exact Nat.or_lt_two_pow (hq _ hd) (by decide)
theorem scl_uex {y w s mo tol X g : Nat} {p ev : Int} (h1 : -348 ≤ p) (h2 : p ≤ 347) (hok : ckN X mo tol p = true) (x0 : 0 < y) (x1 : y ≤ X) (hx : y * 2 ^ w < 18446744073709551616) (m1 : mo + w ≤ 128 + s) (m2 : 65 ≤ w + tol)
    (hs : (s : Int) = -(ev + l2 p + 3)) (hs2 : s < 64) (hs3 : 2 ≤ s) (hg : (g : Int) = ev + w + 1076) : scl (y * 2 ^ w) ev p = uex (y * ten p * 2 ^ g) (tenn p * W 0) ∧ scl (y * 2 ^ w) ev p < 4611686018427387904 := by
  have es : ((-(ev + l2 p + 3)) % 64).toNat = s := by omega
  unfold scl
  rw [es]
  refine ⟨?_, usc_lt2 hx (hiP_lt h1 h2) hs3⟩
  rw [usc_nc h1 h2 hok x0 x1 hx m1 m2]
  refine uex_eq (Dn_pos s p) (Nat.mul_pos (tenn_pos p) (W_pos 0)) ?_
  have : (2 : Nat) ^ w * 2 ^ (127 - l2 p).toNat * 2 ^ ((0 : Int) + 1074).toNat = 2 ^ g * 2 ^ 64 * 2 ^ s * 2 ^ 64 * 2 ^ (l2 p - 127).toNat := by
    simp only [← Nat.pow_add]; congr 1; omega
  rw [ta_eq, Dn, tb_eq, c64, W_def]
  generalize (127 - l2 p).toNat = k2 at *
  generalize ((0 : Int) + 1074).toNat = k4 at *
  generalize (l2 p - 127).toNat = k5 at *
  calc y * 2 ^ w * (ten p * 2 ^ k2) * (tenn p * 2 ^ k4) = y * ten p * tenn p * (2 ^ w * 2 ^ k2 * 2 ^ k4) := by ac_rfl
    _ = y * ten p * tenn p * (2 ^ g * 2 ^ 64 * 2 ^ s * 2 ^ 64 * 2 ^ k5) := by rw [this]
    _ = _ := by ac_rfl
theorem up_of {U N T D o : Nat} (hT : 0 < T) (hU : U = uex N T) (ho : o ≤ 1) (hD : 4 * D + o ≤ U) : 4 * D * T ≤ N ∧ (o = 1 → 4 * D * T < N) := by
  have hc := uex_cases (N := N) hT
  rw [← hU] at hc
  rcases hc with h | ⟨h1, h2, _⟩
  · rw [← h]
    refine ⟨Nat.mul_le_mul_right _ (by omega), fun h => Nat.mul_lt_mul_of_pos_right (by omega) hT⟩
  · have := Nat.mul_le_mul_right T (show 4 * D ≤ U - 1 by omega)
    exact ⟨by omega, fun _ => by omega⟩
theorem dn_of {U N T D o : Nat} (hT : 0 < T) (hU : U = uex N T) (ho : o ≤ 1) (hD : U + o ≤ 4 * D) : N ≤ 4 * D * T ∧ (o = 1 → N < 4 * D * T) := by
  have hc := uex_cases (N := N) hT
  rw [← hU] at hc
  rcases hc with h | ⟨h1, _, h2⟩
  · rw [← h]
    refine ⟨Nat.mul_le_mul_right _ (by omega), fun h => Nat.mul_lt_mul_of_pos_right (by omega) hT⟩
  · have := Nat.mul_le_mul_right T (show U + 1 ≤ 4 * D by omega)
    exact ⟨by omega, fun _ => by omega⟩
/-- What the three scaled numbers say. -/
structure Sh (m : Nat) (ev : Int) : Prop where
  B : 0 < W (ev + zOf ev) * ten (shP m ev)
  T : 0 < tenn (shP m ev) * W 0
  mx : scl (shMax m ev) ev (shP m ev) = uex ((2 * (m / 2 ^ zOf ev) + 1) * (2 * (W (ev + zOf ev) * ten (shP m ev)))) (tenn (shP m ev) * W 0)
  md : scl m ev (shP m ev) = uex (2 * (m / 2 ^ zOf ev) * (2 * (W (ev + zOf ev) * ten (shP m ev)))) (tenn (shP m ev) * W 0)
  mn : ∃ k, (k = 1 ∨ k = 2) ∧ (shA m ev = true → k = 1) ∧ (shA m ev = false → k = 2) ∧ ∃ N, N + k * (W (ev + zOf ev) * ten (shP m ev)) = 4 * (m / 2 ^ zOf ev) * (W (ev + zOf ev) * ten (shP m ev)) ∧ scl (shMin m ev) ev (shP m ev) = uex N (tenn (shP m ev) * W 0)
  lx : scl (shMax m ev) ev (shP m ev) < 4611686018427387904
  ln : scl (shMin m ev) ev (shP m ev) < 4611686018427387904
  ld : scl m ev (shP m ev) < 4611686018427387904
  sm : W (ev + zOf ev) * ten (shP m ev) < 16 * (tenn (shP m ev) * W 0)
theorem sh_of {m : Nat} {ev : Int} (h : Mt m ev) : Sh m ev := by
  obtain ⟨z1, z2⟩ := h.z
  obtain ⟨hp1, hp2⟩ := h.p
  have htop := h.top
  obtain ⟨hh1, hh2, hh3⟩ := h.half
  have hlo := h.lo; have hhi := h.hi; have he0 := h.e0; have he1 := h.e1
  have hal := h.al
  have hez : -1074 ≤ ev + zOf ev ∧ ev + zOf ev ≤ 971 := by unfold zOf; split <;> omega
  -- the shift
  have hsum : 0 ≤ ev + zOf ev + l2 (shP m ev) ∧ ev + zOf ev + l2 (shP m ev) ≤ 3 := by
    unfold shP
    by_cases hA : shA m ev = true
    · rw [if_pos hA]
      simp only [shA, Bool.and_eq_true, decide_eq_true_eq] at hA
      have hz : (zOf ev : Int) = 11 := by unfold zOf; rw [if_pos (by omega)]; rfl
      rw [hz]
      exact sh_skw (by omega) (by omega)
    · rw [if_neg hA]
      exact sh_l10 hez.1 hez.2
  generalize hp : shP m ev = p at *
  obtain ⟨s, hs⟩ : ∃ s : Nat, (s : Int) = -(ev + l2 p + 3) := ⟨(-(ev + l2 p + 3)).toNat, by omega⟩
  have hs1 : 5 ≤ s := by omega
  have hs2 : s < 64 := by omega
  have hsw : zOf ev ≤ s + 6 := by omega
  have hM : m = m / 2 ^ zOf ev * 2 ^ zOf ev := by
    have := Nat.div_add_mod m (2 ^ zOf ev)
    rw [hal, Nat.mul_comm] at this; omega
  have hMlt : m / 2 ^ zOf ev < 9007199254740992 := by
    refine Nat.div_lt_of_lt_mul ?_
    have : 2 ^ 11 ≤ 2 ^ zOf ev := Nat.pow_le_pow_right (by decide) z1
    have := Nat.mul_le_mul_right 9007199254740992 this
    omega
  have hM0 : 0 < m / 2 ^ zOf ev := Nat.div_pos (by omega) (Nat.two_pow_pos _)
  generalize hMM : m / 2 ^ zOf ev = M at *
  obtain ⟨w, hw⟩ : ∃ w, zOf ev = w + 1 := ⟨zOf ev - 1, by omega⟩
  have h2w : 2 ^ zOf ev = 2 * 2 ^ w := by rw [hw, Nat.pow_succ, Nat.mul_comm]
  have hw1 : 2 ^ (zOf ev - 1) = 2 ^ w := by rw [hw]; rfl
  have ckS1 := at_all ckS_all hp1 hp2
  have ckW1 := at_all ckW_all hp1 hp2
  have eg : ((ev + zOf ev + 1075).toNat : Int) = ev + w + 1076 := by omega
  have hW2 : 2 ^ (ev + zOf ev + 1075).toNat = 2 * W (ev + zOf ev) := by
    rw [W_def, Nat.mul_comm, ← Nat.pow_succ]; congr 1; omega
  have eN : ∀ y, y * ten p * 2 ^ (ev + zOf ev + 1075).toNat = y * (2 * (W (ev + zOf ev) * ten p)) := fun y => by rw [hW2]; ac_rfl
  have emax : shMax m ev = (2 * M + 1) * 2 ^ w := by
    unfold shMax
    rw [hw1, Nat.add_mul, Nat.one_mul]
    have : 2 * M * 2 ^ w = M * 2 ^ zOf ev := by rw [h2w]; ac_rfl
    omega
  have emid : m = 2 * M * 2 ^ w := by
    have : 2 * M * 2 ^ w = M * 2 ^ zOf ev := by rw [h2w]; ac_rfl
    omega
  have hmaxlt : (2 * M + 1) * 2 ^ w < 18446744073709551616 := by
    have := Nat.two_pow_pos w
    rw [← emax]; unfold shMax; rw [hw1]; omega
  have hmidlt : 2 * M * 2 ^ w < 18446744073709551616 := by omega
  have hmx := scl_uex (y := 2 * M + 1) (w := w) (s := s) (ev := ev) hp1 hp2 ckS1 (by omega) (by omega) hmaxlt (by omega) (by omega) hs hs2 (by omega) eg
  have hmd := scl_uex (y := 2 * M) (w := w) (s := s) (ev := ev) hp1 hp2 ckS1 (by omega) (by omega) hmidlt (by omega) (by omega) hs hs2 (by omega) eg
  rw [eN, ← emax] at hmx
  rw [eN, ← emid] at hmd
  have hmn : ∃ k, (k = 1 ∨ k = 2) ∧ (shA m ev = true → k = 1) ∧ (shA m ev = false → k = 2) ∧ ∃ N, N + k * (W (ev + zOf ev) * ten p) = 4 * M * (W (ev + zOf ev) * ten p) ∧ scl (shMin m ev) ev p = uex N (tenn p * W 0) ∧ scl (shMin m ev) ev p < 4611686018427387904 := by
    by_cases hA : shA m ev = true
    · refine ⟨1, .inl rfl, fun _ => rfl, fun h => absurd (hA.symm.trans h) (by decide), ?_⟩
      have hA2 := hA
      simp only [shA, Bool.and_eq_true, decide_eq_true_eq] at hA2
      have hz : zOf ev = 11 := by unfold zOf; rw [if_pos (by omega)]
      have hM52 : M = 4503599627370496 := by
        rw [← hMM, hA2.1, hz]
      have emin : shMin m ev = 18014398509481983 * 2 ^ 9 := by
        unfold shMin; rw [if_pos hA, hA2.1]
      have hmn := scl_uex (y := 18014398509481983) (w := 9) (s := s) (ev := ev) (g := (ev + zOf ev + 1074).toNat) hp1 hp2 ckW1 (by decide) (by decide) (by decide) (by omega) (by omega) hs hs2 (by omega) (by omega)
      rw [← emin, ← W_def] at hmn
      refine ⟨_, ?_, hmn.1, hmn.2⟩
      rw [hM52, Nat.mul_assoc, Nat.mul_comm (ten p), ← Nat.add_mul]
    · have hA' : shA m ev = false := by simpa using hA
      refine ⟨2, .inr rfl, fun h => absurd h hA, fun _ => rfl, ?_⟩
      have emin : shMin m ev = (2 * M - 1) * 2 ^ w := by
        unfold shMin
        rw [if_neg hA, hw1, Nat.sub_mul, Nat.one_mul]
        omega
      have hlt : (2 * M - 1) * 2 ^ w < 18446744073709551616 := by
        have := Nat.mul_le_mul_right (2 ^ w) (show 2 * M - 1 ≤ 2 * M by omega)
        omega
      have hmn := scl_uex (y := 2 * M - 1) (w := w) (s := s) (ev := ev) hp1 hp2 ckS1 (by omega) (by omega) hlt (by omega) (by omega) hs hs2 (by omega) eg
      rw [eN, ← emin] at hmn
      refine ⟨_, ?_, hmn.1, hmn.2⟩
      rw [Nat.mul_left_comm, ← Nat.mul_assoc, ← Nat.add_mul]; congr 1; omega
  obtain ⟨k, k1, k2, k3, N, k4, k5, k6⟩ := hmn
  have hsm : W (ev + zOf ev) * ten p < 16 * (tenn p * W 0) := by
    have P := (pow_of hp1 hp2).hi
    rw [ta_eq, tb_eq] at P
    have P2 : ten p * 2 ^ (127 - l2 p).toNat < 2 ^ 128 * (tenn p * 2 ^ (l2 p - 127).toNat) := Nat.lt_of_lt_of_le P (Nat.mul_le_mul_right _ (by decide))
    have e1 : (2 : Nat) ^ 128 * 2 ^ (l2 p - 127).toNat * W (ev + zOf ev) ≤ 16 * W 0 * 2 ^ (127 - l2 p).toNat := by
      rw [show (16 : Nat) = 2 ^ 4 by decide, W_def, W_def, ← Nat.pow_add, ← Nat.pow_add, ← Nat.pow_add, ← Nat.pow_add]
      exact Nat.pow_le_pow_right (by decide) (by omega)
    refine Nat.lt_of_mul_lt_mul_right (a := 2 ^ (127 - l2 p).toNat) ?_
    calc W (ev + zOf ev) * ten p * 2 ^ (127 - l2 p).toNat = ten p * 2 ^ (127 - l2 p).toNat * W (ev + zOf ev) := by ac_rfl
      _ < 2 ^ 128 * (tenn p * 2 ^ (l2 p - 127).toNat) * W (ev + zOf ev) := Nat.mul_lt_mul_of_pos_right P2 (W_pos _)
      _ = tenn p * (2 ^ 128 * 2 ^ (l2 p - 127).toNat * W (ev + zOf ev)) := by ac_rfl
      _ ≤ tenn p * (16 * W 0 * 2 ^ (127 - l2 p).toNat) := Nat.mul_le_mul_left _ e1
      _ = _ := by ac_rfl
  subst hp
  rw [← hMM] at hmx hmd k4
  exact ⟨Nat.mul_pos (W_pos _) (ten_pos _), Nat.mul_pos (tenn_pos _) (W_pos 0), hmx.1, hmd.1, ⟨k, k1, k2, k3, N, k4, k5⟩, hmx.2, k6, hmd.2, hsm⟩
end Go.Proofs.YtfjflbapojgbhaaGreatDoor.N

/- The shortest digits are rounded back to their float. Conditions: none. -/
namespace Go.Proofs.YtfjflbapojgbhaaGreatDoor.N
open Go.X Go.Proofs.YtfjflbapojgbhaaGreatDoor
set_option maxRecDepth 100000
set_option maxHeartbeats 1000000

theorem up_conv {U N T D o : Nat} (hT : 0 < T) (hU : U = uex N T) (ho : o ≤ 1) (h : 4 * D * T ≤ N) (h1 : o = 1 → 4 * D * T < N) : 4 * D + o ≤ U := by
  have hc := uex_cases (N := N) hT
  rw [← hU] at hc
  apply Nat.le_of_not_lt
  intro hlt
  rcases hc with k | ⟨k1, k2, k3⟩
  · by_cases h0 : o = 1
    · have := Nat.mul_le_mul_right T (show U ≤ 4 * D by omega)
      have := h1 h0; omega
    · have := Nat.mul_le_mul_right T (show U + 1 ≤ 4 * D by omega)
      rw [Nat.add_mul, Nat.one_mul] at this; omega
  · have := Nat.mul_le_mul_right T (show U + 1 ≤ 4 * D by omega)
    omega
theorem dn_conv {U N T D o : Nat} (hT : 0 < T) (hU : U = uex N T) (ho : o ≤ 1) (h : N ≤ 4 * D * T) (h1 : o = 1 → N < 4 * D * T) : U + o ≤ 4 * D := by
  have hc := uex_cases (N := N) hT
  rw [← hU] at hc
  apply Nat.le_of_not_lt
  intro hlt
  rcases hc with k | ⟨k1, k2, k3⟩
  · by_cases h0 : o = 1
    · have := Nat.mul_le_mul_right T (show 4 * D ≤ U by omega)
      have := h1 h0; omega
    · have := Nat.mul_le_mul_right T (show 4 * D + 1 ≤ U by omega)
      rw [Nat.add_mul, Nat.one_mul] at this; omega
  · have := Nat.mul_le_mul_right T (show 4 * D ≤ U - 1 by omega)
    omega
theorem four_succ (d T : Nat) : 4 * (d + 1) * T = 4 * d * T + 4 * T := by rw [Nat.mul_add, Nat.mul_one, Nat.add_mul]
theorem ten_neg (p : Int) : ten (-p) = tenn p := rfl
theorem tenn_neg (p : Int) : tenn (-p) = ten p := by unfold tenn ten; rw [Int.neg_neg]
theorem short_in {m : Nat} {ev : Int} (h : Mt m ev) :
    In (4 * ((short m ev).1 * ten (short m ev).2) * W 0) (tenn (short m ev).2) (m / 2 ^ zOf ev) (ev + zOf ev) ∧ (short m ev).1 < 144115188075855872 ∧ 0 < (short m ev).1 := by
  have S := sh_of h
  obtain ⟨z1, z2⟩ := h.z
  obtain ⟨hp1, hp2⟩ := h.p
  have hlo := h.lo; have hhi := h.hi; have he0 := h.e0; have he1 := h.e1; have hal := h.al
  have hez : -1074 ≤ ev + zOf ev ∧ ev + zOf ev ≤ 971 := by unfold zOf; split <;> omega
  have hM : m = m / 2 ^ zOf ev * 2 ^ zOf ev := by
    have := Nat.div_add_mod m (2 ^ zOf ev)
    rw [hal, Nat.mul_comm] at this; omega
  have hMlt : m / 2 ^ zOf ev < 9007199254740992 := by
    refine Nat.div_lt_of_lt_mul ?_
    have : 2 ^ 11 ≤ 2 ^ zOf ev := Nat.pow_le_pow_right (by decide) z1
    have := Nat.mul_le_mul_right 9007199254740992 this
    omega
  have hM0 : 0 < m / 2 ^ zOf ev := by
    refine Nat.div_pos ?_ (Nat.two_pow_pos _)
    have : 2 ^ zOf ev ≤ 2 ^ 63 := Nat.pow_le_pow_right (by decide) z2
    omega
  have hz11 : ev + zOf ev ≠ -1074 → zOf ev = 11 := by
    intro hne; unfold zOf at hne ⊢; split at hne
    · rename_i hx; rw [if_pos hx]
    · omega
  have hmn52 : ev + zOf ev = -1074 ∨ 4503599627370496 ≤ m / 2 ^ zOf ev := by
    by_cases hne : ev + zOf ev = -1074
    · exact .inl hne
    · right
      rw [hz11 hne, Nat.le_div_iff_mul_le (by decide)]
      omega
  have hspec : m / 2 ^ zOf ev = 4503599627370496 → ev + zOf ev ≠ -1074 → shA m ev = true := by
    intro h1 h2
    rw [h1] at hM
    have hz := hz11 h2
    rw [hz] at hM h2
    unfold shA
    simp only [Bool.and_eq_true, decide_eq_true_eq]
    exact ⟨by omega, by omega⟩
  obtain ⟨k, k1, k2, k3, N, k4, k5⟩ := S.mn
  have hT := S.T; have hB := S.B; have hsm := S.sm
  have emx := S.mx; have emd := S.md
  have lx := S.lx; have ln := S.ln; have ld := S.ld
  have hok := okB_at hez.1 hez.2
  have hBT : (k = 2 → tenn (shP m ev) * W 0 ≤ W (ev + zOf ev) * ten (shP m ev)) ∧ (k = 1 → 4 * (tenn (shP m ev) * W 0) ≤ 3 * (W (ev + zOf ev) * ten (shP m ev))) := by
    refine ⟨fun hk => ?_, fun hk => ?_⟩
    · have hA : shA m ev = false := by
        cases hA : shA m ev
        · rfl
        · have := k2 hA; omega
      have e : shP m ev = -l10 (ev + zOf ev) := by unfold shP; rw [hA]; rfl
      rw [e]; exact hok.1
    · have hA : shA m ev = true := by
        cases hA : shA m ev
        · have := k3 hA; omega
        · rfl
      have hA2 := hA
      simp only [shA, Bool.and_eq_true, decide_eq_true_eq] at hA2
      have hz : zOf ev = 11 := by unfold zOf; rw [if_pos (by omega)]
      have e : shP m ev = -skw (ev + zOf ev) := by unfold shP; rw [hA, hz]; rfl
      rw [e]; exact hok.2.1
  have hodd1 : k = 1 → m / 2 ^ zOf ev % 2 = 0 := by
    intro hk
    have hA : shA m ev = true := by
      cases hA : shA m ev
      · have := k3 hA; omega
      · rfl
    have hA2 := hA
    simp only [shA, Bool.and_eq_true, decide_eq_true_eq] at hA2
    have hz : zOf ev = 11 := by unfold zOf; rw [if_pos (by omega)]
    rw [hz]; omega
  have hq1 : k = 1 → dMin m ev < dMax m ev → ¬ dMin m ev ≤ dMax m ev / 10 * 10 → dMin m ev ≤ rnd (scl m ev (shP m ev)) := by
    intro hk g1 g2
    have hA : shA m ev = true := by
      cases hA : shA m ev
      · have := k3 hA; omega
      · rfl
    have hA2 := hA
    simp only [shA, Bool.and_eq_true, decide_eq_true_eq] at hA2
    have hz : zOf ev = 11 := by unfold zOf; rw [if_pos (by omega)]
    have e : shP m ev = -skw (ev + 11) := by unfold shP; rw [hA]; rfl
    have hcs := at_all ckS_ok hp1 hp2
    unfold ckS at hcs
    have hz2 : (zOf ev : Int) = 11 := by rw [hz]; rfl
    rw [hz2] at hok
    have hkk := List.all_eq_true.1 hcs (ev + 11 - l2 (-shP m ev)).toNat (List.mem_range.2 (by rw [e, Int.neg_neg]; omega))
    have ee : l2 (-shP m ev) + (((ev + 11 - l2 (-shP m ev)).toNat : Nat) : Int) = ev + 11 := by rw [e, Int.neg_neg]; omega
    simp only [ee] at hkk
    rw [if_pos (by rw [e, Int.neg_neg])] at hkk
    have o0 : shOdd m ev = 0 := by unfold shOdd; rw [hz]; omega
    have xm : shMin m ev = 9223372036854775296 := by unfold shMin; rw [if_pos hA]; omega
    have xM : shMax m ev = 9223372036854776832 := by unfold shMax; rw [hz]; omega
    have es : ev + 11 - 11 + l2 (shP m ev) + 3 = ev + l2 (shP m ev) + 3 := by omega
    rw [es] at hkk
    have c1 : (usc 9223372036854775296 (hiP (shP m ev)) (loP (shP m ev)) (-(ev + l2 (shP m ev) + 3) % 64).toNat + 0 + 3) % 18446744073709551616 / 4 = dMin m ev := by
      unfold dMin scl; rw [o0, xm]
    have c2 : (usc 9223372036854776832 (hiP (shP m ev)) (loP (shP m ev)) (-(ev + l2 (shP m ev) + 3) % 64).toNat + 18446744073709551616 - 0) % 18446744073709551616 / 4 = dMax m ev := by
      unfold dMax scl; rw [o0, xM]
    have c3 : usc 9223372036854775808 (hiP (shP m ev)) (loP (shP m ev)) (-(ev + l2 (shP m ev) + 3) % 64).toNat = scl m ev (shP m ev) := by
      unfold scl; rw [hA2.1]
    rw [c1, c2, c3, if_pos g1, if_neg g2] at hkk
    exact of_decide_eq_true hkk
  have ho : shOdd m ev = m / 2 ^ zOf ev % 2 := rfl
  generalize hMM : m / 2 ^ zOf ev = M at *
  generalize hp : shP m ev = p at *
  generalize hBB : W (ev + zOf ev) * ten p = B at *
  have hTB : 0 < tenn p * W 0 := hT
  generalize hTT : tenn p * W 0 = T at *
  have hdx : dMax m ev = (scl (shMax m ev) ev p + 18446744073709551616 - M % 2) % 18446744073709551616 / 4 := by unfold dMax; rw [ho, hp]
  have hdn : dMin m ev = (scl (shMin m ev) ev p + M % 2 + 3) % 18446744073709551616 / 4 := by unfold dMin; rw [ho, hp]
  have hux1 : 1 ≤ scl (shMax m ev) ev p := by
    apply Nat.succ_le_of_lt
    apply Nat.pos_of_ne_zero
    intro h0
    have hc := uex_cases (N := (2 * M + 1) * (2 * B)) hT
    rw [← emx, h0] at hc
    rcases hc with hc | ⟨hc, _⟩
    · have : 0 < (2 * M + 1) * (2 * B) := Nat.mul_pos (by omega) (by omega)
      omega
    · cases hc
  generalize scl (shMax m ev) ev p = ux at *
  generalize scl (shMin m ev) ev p = un at *
  have hdx2 : ∀ D, D ≤ dMax m ev ↔ 4 * D + M % 2 ≤ ux := fun D => by rw [hdx]; omega
  have hdn2 : ∀ D, dMin m ev ≤ D ↔ un + M % 2 ≤ 4 * D := fun D => by rw [hdn]; omega
  have eMx : (2 * M + 1) * (2 * B) = 4 * M * B + 2 * B := by
    rw [Nat.add_mul, Nat.one_mul]; congr 1
    calc 2 * M * (2 * B) = 2 * 2 * M * B := by ac_rfl
      _ = _ := by congr 1
  have eMd : 2 * M * (2 * B) = 4 * M * B := by
    calc 2 * M * (2 * B) = 2 * 2 * M * B := by ac_rfl
      _ = _ := by congr 1
  rw [eMx] at emx
  rw [eMd] at emd
  have o1 : M % 2 ≤ 1 := by omega
  have U1 : ∀ D, D ≤ dMax m ev → 4 * D * T ≤ 4 * M * B + 2 * B ∧ (M % 2 = 1 → 4 * D * T < 4 * M * B + 2 * B) := fun D hD => up_of hT emx o1 ((hdx2 D).1 hD)
  have L1 : ∀ D, dMin m ev ≤ D → 4 * M * B ≤ 4 * D * T + k * B ∧ (M % 2 = 1 → 4 * M * B < 4 * D * T + k * B) := fun D hD => by
    have := dn_of hT k5 o1 ((hdn2 D).1 hD)
    exact ⟨by omega, fun ho => by have := this.2 ho; omega⟩
  have hkB : k * B ≤ 2 * B := Nat.mul_le_mul_right _ (by omega)
  -- the float
  have mk : ∀ D, (4 * D * T ≤ 4 * M * B + 2 * B) → (M % 2 = 1 → 4 * D * T < 4 * M * B + 2 * B) → (4 * M * B ≤ 4 * D * T + 2 * B) → (M % 2 = 1 → 4 * M * B < 4 * D * T + 2 * B) → (k = 1 → 4 * M * B ≤ 4 * D * T + B) → In (4 * D * T) (ten p) M (ev + zOf ev) := by
    intro D a1 a2 a3 a4 a5
    have e1 : (4 * M + 2) * B = 4 * M * B + 2 * B := Nat.add_mul _ _ _
    refine ⟨hez.1, hMlt, hmn52, ?_, fun h => ?_, ?_, fun h => ?_, fun h1 h2 => ?_⟩
    · rw [hBB, e1]; exact a1
    · rw [hBB, e1]; exact a2 h
    · rw [hBB]; exact a3
    · rw [hBB]; exact a4 h
    · rw [hBB]; exact a5 (k2 (hspec h1 h2))
  have CA : ∀ D, dMin m ev ≤ D → D ≤ dMax m ev → In (4 * D * T) (ten p) M (ev + zOf ev) := fun D d1 d2 => by
    obtain ⟨a1, a2⟩ := U1 D d2
    obtain ⟨b1, b2⟩ := L1 D d1
    exact mk D a1 a2 (by omega) (fun h => by have := b2 h; omega) (fun hk => by rw [hk, Nat.one_mul] at b1; exact b1)
  -- fit: the numbers of the result
  have fit : ∀ D, In (4 * D * T) (ten p) M (ev + zOf ev) → In (4 * (D * ten (-p)) * W 0) (tenn (-p)) M (ev + zOf ev) := fun D hI => by
    rw [ten_neg, tenn_neg]
    have : 4 * (D * tenn p) * W 0 = 4 * D * T := by rw [← hTT]; ac_rfl
    rw [this]; exact hI
  have small : ∀ D, 4 * D * T ≤ 4 * M * B + 2 * B → D < 144115188075855872 := fun D hD => by
    have h1 : (4 * M + 2) * B ≤ 36028797018963966 * B := Nat.mul_le_mul_right _ (by omega)
    rw [Nat.add_mul] at h1
    apply Nat.lt_of_not_le
    intro hge
    have h2 : 4 * 144115188075855872 * T ≤ 4 * D * T := Nat.mul_le_mul_right _ (by omega)
    omega
  have posD : ∀ D, 4 * M * B ≤ 4 * D * T + 2 * B → 0 < D := fun D hD => by
    apply Nat.pos_of_ne_zero
    rintro rfl
    have : 4 * 1 * B ≤ 4 * M * B := Nat.mul_le_mul_right _ (by omega)
    omega
  -- there is a whole number between
  have hne : dMin m ev ≤ dMax m ev := by
    apply Nat.le_of_not_lt
    intro hlt
    have q1 : ¬ dMin m ev ≤ dMax m ev := by omega
    have q2 : ¬ dMax m ev + 1 ≤ dMax m ev := by omega
    have r1 : ¬ (N ≤ 4 * (dMax m ev) * T ∧ (M % 2 = 1 → N < 4 * (dMax m ev) * T)) := fun hh => q1 ((hdn2 _).2 (dn_conv hT k5 o1 hh.1 hh.2))
    have r2 : ¬ (4 * (dMax m ev + 1) * T ≤ 4 * M * B + 2 * B ∧ (M % 2 = 1 → 4 * (dMax m ev + 1) * T < 4 * M * B + 2 * B)) := fun hh => q2 ((hdx2 _).2 (up_conv hT emx o1 hh.1 hh.2))
    have e1 : 4 * (dMax m ev + 1) * T = 4 * dMax m ev * T + 4 * T := four_succ _ _
    rw [e1] at r2
    rcases k1 with hk | hk
    · have hodd := hodd1 hk
      have := hBT.2 hk
      rw [hk, Nat.one_mul] at k4
      have : ¬ N ≤ 4 * dMax m ev * T := fun hh => r1 ⟨hh, fun h => by omega⟩
      have : ¬ 4 * dMax m ev * T + 4 * T ≤ 4 * M * B + 2 * B := fun hh => r2 ⟨hh, fun h => by omega⟩
      omega
    · have hbt := hBT.1 hk
      rw [hk] at k4
      by_cases ho1 : M % 2 = 1
      · have s1 : 4 * dMax m ev * T ≤ N := by
          apply Nat.le_of_not_lt
          intro hh
          exact r1 ⟨by omega, fun _ => hh⟩
        have s2 : 4 * M * B + 2 * B ≤ 4 * dMax m ev * T + 4 * T := by
          apply Nat.le_of_not_lt
          intro hh
          exact r2 ⟨by omega, fun _ => hh⟩
        have hTB2 : T = B := by omega
        rw [hTB2] at s1 s2
        have s3 : 4 * M * B = (4 * dMax m ev + 2) * B := by rw [Nat.add_mul]; omega
        have := Nat.eq_of_mul_eq_mul_right hB s3
        omega
      · have s1 : ¬ N ≤ 4 * dMax m ev * T := fun hh => r1 ⟨hh, fun h => absurd h ho1⟩
        have s2 : ¬ 4 * dMax m ev * T + 4 * T ≤ 4 * M * B + 2 * B := fun hh => r2 ⟨hh, fun h => absurd h ho1⟩
        omega
  unfold short
  rw [hp]
  by_cases c1 : dMin m ev ≤ dMax m ev / 10 * 10
  · rw [if_pos c1]
    have hle : dMax m ev / 10 * 10 ≤ dMax m ev := Nat.div_mul_le_self _ _
    have hI := CA _ c1 hle
    refine ⟨?_, ?_, ?_⟩
    · refine hI.scale (ten_pos p) ?_ (tenn_pos _)
      show 4 * (dMax m ev / 10 * 10) * T * tenn (-(p - 1)) = 4 * (dMax m ev / 10 * ten (-(p - 1))) * W 0 * ten p
      have e10 : 10 * tenn p * tenn (-(p - 1)) = ten (-(p - 1)) * ten p := by
        unfold ten tenn
        have : (10 : Nat) * 10 ^ (-p).toNat = 10 ^ ((-p).toNat + 1) := by rw [Nat.pow_succ, Nat.mul_comm]
        rw [this, ← Nat.pow_add, ← Nat.pow_add]; congr 1; omega
      rw [← hTT]
      generalize dMax m ev / 10 = D
      calc 4 * (D * 10) * (tenn p * W 0) * tenn (-(p - 1)) = 4 * D * W 0 * (10 * tenn p * tenn (-(p - 1))) := by ac_rfl
        _ = 4 * D * W 0 * (ten (-(p - 1)) * ten p) := by rw [e10]
        _ = _ := by ac_rfl
    · have := small _ (U1 _ hle).1
      show dMax m ev / 10 < _
      omega
    · have b1 := (L1 _ c1).1
      have := posD (dMax m ev / 10 * 10) (by omega)
      show 0 < dMax m ev / 10
      omega
  · rw [if_neg c1]
    by_cases c2 : dMin m ev < dMax m ev
    · rw [if_pos c2]
      show In (4 * (rnd (scl m ev p) * ten (-p)) * W 0) (tenn (-p)) M (ev + zOf ev) ∧ rnd (scl m ev p) < _ ∧ 0 < rnd (scl m ev p)
      have hr := rnd_near hT emd (by omega)
      have q1 := hq1
      generalize rnd (scl m ev p) = D at *
      -- T is not too great
      have a1 := (U1 _ (Nat.le_refl _))
      have b1 := (L1 _ (Nat.le_refl _))
      have e4 : 4 * (dMin m ev + 1) * T ≤ 4 * dMax m ev * T := Nat.mul_le_mul_right _ (by omega)
      have e5 : 4 * (dMin m ev + 1) * T = 4 * dMin m ev * T + 4 * T := four_succ _ _
      have e6 : (4 * D + 2) * T = 4 * D * T + 2 * T := Nat.add_mul _ _ _
      rw [e6] at hr
      have up1 : 4 * D * T ≤ 4 * M * B + 2 * B := by omega
      have dn1 : 4 * M * B ≤ 4 * D * T + 2 * B := by omega
      refine ⟨fit D (mk D up1 (fun h => ?_) dn1 (fun h => ?_) (fun hk => ?_)), small D up1, posD D dn1⟩
      · have := a1.2 h; have := b1.2 h; omega
      · have := a1.2 h; have := b1.2 h; omega
      · have := (L1 D (q1 hk c2 c1)).1
        rw [hk, Nat.one_mul] at this; exact this
    · rw [if_neg c2]
      show In (4 * (dMin m ev * ten (-p)) * W 0) (tenn (-p)) M (ev + zOf ev) ∧ dMin m ev < _ ∧ 0 < dMin m ev
      have := (L1 _ (Nat.le_refl _)).1
      exact ⟨fit _ (CA _ (Nat.le_refl _) hne), small _ (U1 _ hne).1, posD _ (by omega)⟩
end Go.Proofs.YtfjflbapojgbhaaGreatDoor.N

/- What the scan makes of a text of digits, a point, and an exponent. Conditions: none. -/
namespace Go.Proofs.YtfjflbapojgbhaaGreatDoor.N
open Go.X Go.Proofs.YtfjflbapojgbhaaGreatDoor
set_option maxRecDepth 100000
set_option maxHeartbeats 1000000

abbrev fD (A : List UInt8) (st : RS) : RS := A.foldl (fun s c => stepD s (dgt c)) st
/-- The digits' number, from a start. -/
def decF (A : List UInt8) (a : Nat) : Nat := A.foldl (fun a c => a * 10 + dgt c) a
theorem decF_app (A B : List UInt8) (a : Nat) : decF (A ++ B) a = decF B (decF A a) := List.foldl_append
theorem fold_few : ∀ (A : List UInt8) (st : RS), st.nm = st.nd → (st.nd = 0 → st.m = 0) → st.nm + A.length ≤ 19 →
    (fD A st).m = decF A st.m ∧ (fD A st).tr = st.tr ∧ (fD A st).nm = (fD A st).nd ∧ (fD A st).nm ≤ st.nm + A.length ∧ (fD A st).dp - (fD A st).nm = st.dp - st.nm - A.length ∧ ((fD A st).nd = 0 → (fD A st).m = 0)
  | [], st, h1, h2, h3 => ⟨rfl, rfl, h1, Nat.le_refl _, by simp [fD], h2⟩
  | c :: A, st, h1, h2, h3 => by
    simp only [List.length_cons] at h3 ⊢
    have e : fD (c :: A) st = fD A (stepD st (dgt c)) := rfl
    have ed : decF (c :: A) st.m = decF A (st.m * 10 + dgt c) := rfl
    rw [e, ed]
    by_cases hz : dgt c = 0 ∧ st.nd = 0
    · have es : stepD st (dgt c) = ⟨st.m, st.tr, st.dot, true, st.nd, st.nm, st.dp - 1⟩ := by unfold stepD; rw [if_pos hz]
      have := fold_few A (stepD st (dgt c)) (by rw [es]; exact h1) (by rw [es]; exact h2) (by rw [es]; show st.nm + _ ≤ 19; omega)
      rw [es] at this ⊢
      obtain ⟨a1, a2, a3, a4, a5, a6⟩ := this
      refine ⟨?_, a2, a3, ?_, ?_, a6⟩
      · rw [a1, hz.1, h2 hz.2]
      · dsimp only at a4; omega
      · dsimp only at a5; omega
    · have es : stepD st (dgt c) = ⟨st.m * 10 + dgt c, st.tr, st.dot, true, st.nd + 1, st.nm + 1, st.dp⟩ := by unfold stepD; rw [if_neg hz, if_pos (by omega)]
      have := fold_few A (stepD st (dgt c)) (by rw [es]; show st.nm + 1 = st.nd + 1; omega) (by rw [es]; intro h; exact absurd h (by simp)) (by rw [es]; show st.nm + 1 + _ ≤ 19; omega)
      rw [es] at this ⊢
      obtain ⟨a1, a2, a3, a4, a5, a6⟩ := this
      refine ⟨a1, a2, a3, ?_, ?_, a6⟩
      · dsimp only at a4; omega
      · dsimp only at a5; omega
theorem fold_dot' (A : List UInt8) (st : RS) : (fD A st).dot = st.dot := fold_dot A st
/-- Behind the sign: digits, a point with digits or none, an exponent or none. -/
structure Form (l A B X : List UInt8) (pt : Bool) : Prop where
  eq : l = A ++ ((if pt then 46 :: B else []) ++ X)
  a : A ≠ []
  ad : ∀ c ∈ A, isD c = true
  b : pt = true → B ≠ []
  b0 : pt = false → B = []
  bd : ∀ c ∈ B, isD c = true
  x : X = [] ∨ ∃ c sg ds, Expo X c sg ds
  x4 : ∀ c sg ds, Expo X c sg ds → ds.length ≤ 4
theorem exp_stop {q : List UInt8} {st : RS} (hq : q = [] ∨ ∃ c sg ds, Expo q c sg ds) : scan st q = (st, q) := by
  refine scan_stop fun c r e => .inl ?_
  rcases hq with rfl | ⟨c', sg, ds, hE⟩
  · cases e
  · rw [hE.eq] at e
    have : c' = c := (List.cons.inj e).1
    rw [← this]
    rcases hE.e with rfl | rfl <;> decide
theorem exp_head {q : List UInt8} (hq : q = [] ∨ ∃ c sg ds, Expo q c sg ds) : ∀ c r, q = c :: r → isD c = false := by
  intro c r e
  rcases hq with rfl | ⟨c', sg, ds, hE⟩
  · cases e
  · rw [hE.eq] at e
    have : c' = c := (List.cons.inj e).1
    rw [← this]
    rcases hE.e with rfl | rfl <;> decide
theorem dgN_app : ∀ {A t : List UInt8}, (∀ c ∈ A, isD c = true) → (∀ c r, t = c :: r → isD c = false) → dgN (A ++ t) = A.length
  | [], t, _, ht => by
    cases t with
    | nil => rfl
    | cons c r => unfold dgN; rw [List.nil_append, List.takeWhile_cons, if_neg (by rw [ht c r rfl]; decide)]
  | c :: A, t, hA, ht => by
    have := dgN_app (A := A) (fun d hd => hA d (by simp [hd])) ht
    unfold dgN at this ⊢
    rw [List.cons_append, List.takeWhile_cons, if_pos (hA c (by simp)), List.length_cons, this, List.length_cons]
theorem Form.scn {l A B X : List UInt8} {pt : Bool} (h : Form l A B X pt) : scan RS0 l = (fD B (if pt then dotS (fD A RS0) else fD A RS0), X) := by
  rw [h.eq, scan_app A RS0 _ h.ad]
  have hdot : (fD A RS0).dot = false := fold_dot A RS0
  cases pt
  · have hB := h.b0 rfl
    subst hB
    exact exp_stop h.x
  · show scan (fD A RS0) (46 :: B ++ X) = _
    rw [List.cons_append, scan, if_pos rfl, hdot]
    show scan (dotS (fD A RS0)) (B ++ X) = _
    rw [scan_app B _ X h.bd]
    exact exp_stop h.x
theorem expF_of {X : List UInt8} (hx : X = [] ∨ ∃ c sg ds, Expo X c sg ds) (h4 : ∀ c sg ds, Expo X c sg ds → ds.length ≤ 4) : expF (some X) = true := by
  rcases hx with rfl | ⟨c, sg, ds, hE⟩
  · rfl
  · have hl := h4 c sg ds hE
    have hne : 1 ≤ ds.length := by
      cases ds with
      | nil => exact absurd rfl hE.ne
      | cons _ _ => simp
    have hd : dropS (sg ++ ds) = ds := by
      rcases hE.sg with rfl | rfl | rfl
      · cases ds with
        | nil => rfl
        | cons a r =>
          have ha := isD_iff.1 (hE.dg a (by simp))
          show (if a = 43 ∨ a = 45 then r else a :: r) = a :: r
          rw [if_neg]
          rintro (e | e) <;> subst e <;> exact absurd ha (by decide)
      · rfl
      · rfl
    rw [hE.eq]
    show (if c = 101 ∨ c = 69 then _ else _) = true
    rw [if_pos hE.e, hd]
    have hn : dgN ds = ds.length := by
      have := dgN_app (A := ds) (t := []) hE.dg (fun c r e => by cases e)
      rwa [List.append_nil] at this
    rw [hn]
    simp; omega
/-- Such a text is a number's. -/
theorem Form.num {l0 l A B X : List UInt8} {pt : Bool} (h : Form l A B X pt) (h0 : dropS l0 = l) : numF l0 = true := by
  unfold numF
  rw [h0, h.eq]
  have ht : ∀ c r, ((if pt then 46 :: B else []) ++ X) = c :: r → isD c = false := by
    intro c r e
    cases pt
    · exact exp_head h.x c r e
    · have : (46 : UInt8) = c := (List.cons.inj e).1
      rw [← this]; decide
  have hA : A.length ≠ 0 := fun e => h.a (List.eq_nil_of_length_eq_zero e)
  rw [dgN_app h.ad ht, if_neg hA, List.drop_left]
  cases pt
  · show expF (pntF X) = true
    have : pntF X = some X := by
      cases hX : X with
      | nil => rfl
      | cons c r =>
        show (if c = 46 then _ else some (c :: r)) = _
        rw [if_neg]
        intro e; subst e
        rcases h.x with e | ⟨c', sg, ds, hE⟩
        · rw [hX] at e; cases e
        · have := hE.eq; rw [hX] at this
          have := (List.cons.inj this).1
          rcases hE.e with e | e <;> rw [e] at this <;> cases this
    rw [this]; exact expF_of h.x h.x4
  · show expF (pntF (46 :: (B ++ X))) = true
    have hB : B.length ≠ 0 := fun e => h.b rfl (List.eq_nil_of_length_eq_zero e)
    have : pntF (46 :: (B ++ X)) = some X := by
      show (if (46 : UInt8) = 46 then (if dgN (B ++ X) = 0 then none else some ((B ++ X).drop (dgN (B ++ X)))) else some (46 :: (B ++ X))) = _
      rw [if_pos rfl, dgN_app h.bd (exp_head h.x), if_neg hB, List.drop_left]
    rw [this]; exact expF_of h.x h.x4
/-- Its number and its exponent. -/
theorem Form.val {l A B X : List UInt8} {pt : Bool} (h : Form l A B X pt) (h19 : A.length + B.length ≤ 19) :
    (fD B (if pt then dotS (fD A RS0) else fD A RS0)).m = decF (A ++ B) 0 ∧ (fD B (if pt then dotS (fD A RS0) else fD A RS0)).tr = false ∧ (decF (A ++ B) 0 ≠ 0 → expV (fD B (if pt then dotS (fD A RS0) else fD A RS0)) X = eVal X - B.length) := by
  obtain ⟨a1, a2, a3, a4, a5, a6⟩ := fold_few A RS0 rfl (fun _ => rfl) (by show 0 + _ ≤ 19; omega)
  have r0 : RS0.m = 0 ∧ RS0.nm = 0 ∧ RS0.tr = false := ⟨rfl, rfl, rfl⟩
  rw [r0.1] at a1
  rw [r0.2.1] at a4
  have hdot : (fD A RS0).dot = false := fold_dot A RS0
  rw [decF_app, ← a1]
  cases pt
  · have hB := h.b0 rfl
    subst hB
    refine ⟨rfl, a2, fun hne => ?_⟩
    show expV (fD A RS0) X = _
    unfold expV
    have hne : (fD A RS0).m ≠ 0 := hne
    rw [if_pos hne, hdot]
    simp only [Bool.false_eq_true, if_false, List.length_nil]
    omega
  · have hd : dotS (fD A RS0) = ⟨(fD A RS0).m, (fD A RS0).tr, true, (fD A RS0).dig, (fD A RS0).nd, (fD A RS0).nm, (fD A RS0).nd⟩ := rfl
    obtain ⟨b1, b2, b3, b4, b5, b6⟩ := fold_few B (dotS (fD A RS0)) a3 a6 (by show (fD A RS0).nm + _ ≤ 19; omega)
    show (fD B (dotS (fD A RS0))).m = _ ∧ (fD B (dotS (fD A RS0))).tr = false ∧ _
    refine ⟨b1, b2.trans a2, fun hne => ?_⟩
    show expV (fD B (dotS (fD A RS0))) X = _
    unfold expV
    rw [if_pos (by rw [b1]; exact hne), fold_dot' B]
    have e1 : (dotS (fD A RS0)).dot = true := rfl
    rw [e1]
    have e2 : (dotS (fD A RS0)).dp = ((fD A RS0).nd : Int) := rfl
    have e3 : (dotS (fD A RS0)).nm = (fD A RS0).nm := rfl
    rw [e2, e3] at b5
    simp only [if_true]
    omega
/-- Read: it is a number's text. -/
theorem Form.txt {s : ByteArray} {l A B X : List UInt8} {pt : Bool} (h : Form l A B X pt) (h0 : dropS s.data.toList = l) (hs : s.size < 100000) : Txt s (fD B (if pt then dotS (fD A RS0) else fD A RS0)) X := by
  obtain ⟨st, rest, hT⟩ := txt_of_num hs (h.num h0)
  have := hT.sc
  rw [drop_sgn, h0, h.scn] at this
  obtain ⟨rfl, rfl⟩ := Prod.mk.inj this
  exact hT
end Go.Proofs.YtfjflbapojgbhaaGreatDoor.N

/- A number's text is read as it. Conditions: none. -/
namespace Go.Proofs.YtfjflbapojgbhaaGreatDoor.N
open Go.X Go.Proofs.YtfjflbapojgbhaaGreatDoor
set_option maxRecDepth 100000
set_option maxHeartbeats 1000000

def by8 (n : Int) : UInt8 := UInt8.ofNat n.toNat
def bb (L : List Int) : List UInt8 := L.map by8
theorem str_bb (L : List Int) : (strOf L).data.toList = bb L := strOf_list L
theorem bb_cons (v : Int) (L : List Int) : bb (v :: L) = by8 v :: bb L := rfl
theorem bb_nil : bb [] = [] := rfl
theorem b46 : by8 46 = 46 := by decide
theorem b48 : by8 48 = 48 := by decide
theorem b101 : by8 101 = 101 := by decide
theorem bb_app (A B : List Int) : bb (A ++ B) = bb A ++ bb B := List.map_append
def dig (v : Int) : Prop := 48 ≤ v ∧ v ≤ 57
theorem by_nat {v : Int} (h : dig v) : (by8 v).toNat = v.toNat := by
  unfold by8; rw [UInt8.toNat_ofNat']; unfold dig at h; omega
theorem by_dig {v : Int} (h : dig v) : isD (by8 v) = true := isD_iff.2 (by rw [by_nat h]; unfold dig at h; omega)
theorem bb_dig {L : List Int} (h : ∀ v ∈ L, dig v) : ∀ c ∈ bb L, isD c = true := by
  intro c hc
  obtain ⟨v, hv, rfl⟩ := List.mem_map.1 hc
  exact by_dig (h v hv)
def ckE (k : Nat) : Bool := match bb (expoL ((k : Int) - 999)) with
  | s :: ds => (s == 43 || s == 45) && ds.all isD && decide (ds.length ≤ 3) && !ds.isEmpty && decide (eVal (101 :: s :: ds) = (k : Int) - 999)
  | [] => false
theorem ckE_all : ((List.range 1999).all ckE) = true := by kernel_rfl
theorem expo_facts {y : Int} (h : y.natAbs < 1000) : ∃ s ds, bb (expoL y) = s :: ds ∧ Expo (101 :: bb (expoL y)) 101 [s] ds ∧ ds.length ≤ 3 ∧ eVal (101 :: bb (expoL y)) = y := by
  have := List.all_eq_true.1 ckE_all (y + 999).toNat (List.mem_range.2 (by omega))
  unfold ckE at this
  rw [show (((y + 999).toNat : Nat) : Int) - 999 = y by omega] at this
  split at this
  · rename_i s ds e
    simp only [Bool.and_eq_true, Bool.or_eq_true, beq_iff_eq, decide_eq_true_eq, List.all_eq_true, Bool.not_eq_true', List.isEmpty_eq_false_iff] at this
    obtain ⟨⟨⟨⟨h1, h2⟩, h3⟩, h4⟩, h5⟩ := this
    refine ⟨s, ds, e, ⟨by rw [e]; rfl, .inl rfl, .inr ?_, h4, by omega, h2⟩, h3, by rw [e]; exact h5⟩
    rcases h1 with rfl | rfl
    · exact .inl rfl
    · exact .inr rfl
  · cases this
theorem dg_take (d n : Nat) : ∀ k, k ≤ n → d < 10 ^ n → decF (bb ((dgL d n).take k)) 0 = d / 10 ^ (n - k)
  | 0, _, hd => by
    rw [Nat.sub_zero, Nat.div_eq_of_lt hd]; rfl
  | k + 1, hk, hd => by
    have ih := dg_take d n k (by omega) hd
    rw [List.take_add_one, dgL_at (by omega), bb_app, decF_app, ih]
    have hdg : dig ((48 + d / 10 ^ (n - 1 - k) % 10 : Nat) : Int) := by
      have := Nat.mod_lt (d / 10 ^ (n - 1 - k)) (show 0 < 10 by decide)
      unfold dig; omega
    show d / 10 ^ (n - k) * 10 + dgt (by8 _) = _
    unfold dgt
    rw [by_nat hdg]
    have e1 : n - k = n - 1 - k + 1 := by omega
    have e2 : n - (k + 1) = n - 1 - k := by omega
    rw [e1, e2, Nat.pow_succ, ← Nat.div_div_eq_div_mul]
    have := Nat.div_add_mod (d / 10 ^ (n - 1 - k)) 10
    omega
theorem trim_zero (L : List Int) : ∀ n i, trimC L n ≤ i → i < n → L[i]? = some 48
  | 0, _, _, h => by omega
  | n + 1, i, h1, h2 => by
    unfold trimC at h1
    split at h1
    · rename_i h
      by_cases e : i = n
      · rw [e]; exact h
      · exact trim_zero L n i h1 (by omega)
    · omega
theorem mod_zero {d : Nat} : ∀ t, (∀ i, i < t → d / 10 ^ i % 10 = 0) → d % 10 ^ t = 0
  | 0, _ => by rw [Nat.pow_zero, Nat.mod_one]
  | t + 1, h => by
    rw [Nat.pow_succ, Nat.mod_mul, mod_zero t (fun i hi => h i (by omega)), h t (by omega)]; rfl
theorem nd_le : ∀ (k u : Nat), 0 < k → u < 10 ^ k → Lib.nDigits u ≤ k
  | 0, _, h, _ => absurd h (by decide)
  | k + 1, u, _, h => by
    by_cases hu : u < 10
    · rw [Lib.nDigits_small hu]; omega
    · rw [Lib.nDigits_big hu]
      cases k with
      | zero => rw [Nat.pow_succ, Nat.pow_zero] at h; omega
      | succ k =>
        have := nd_le (k + 1) (u / 10) (by omega) (Nat.div_lt_of_lt_mul (by rw [Nat.mul_comm, ← Nat.pow_succ]; exact h))
        omega
/-- The digits that are written: c, and t zeros that are not. -/
theorem LOf_val {x : Nat} (hd0 : 0 < dOf x) (hd : dOf x < 144115188075855872) :
    ∃ t, (LOf x).length + t = ndg (dOf x) ∧ 0 < (LOf x).length ∧ (∀ v ∈ LOf x, dig v) ∧ decF (bb (LOf x)) 0 * 10 ^ t = dOf x ∧ ndg (dOf x) ≤ 18 := by
  have hn1 := ndg_lt (dOf x)
  have hn18 : ndg (dOf x) ≤ 18 := by
    unfold ndg; rw [if_neg (by omega)]
    apply Nat.le_of_not_lt
    intro h
    have := nd_le 18 (dOf x) (by decide) (Nat.lt_trans hd (by decide))
    omega
  generalize hn : ndg (dOf x) = n at *
  have hk := trimC_le (dgL (dOf x) n) n
  have hL : LOf x = (dgL (dOf x) n).take (trimC (dgL (dOf x) n) n) := by unfold LOf; rw [hn]
  have hlen : (LOf x).length = trimC (dgL (dOf x) n) n := by rw [hL, List.length_take, dgL_len]; omega
  have hz := trim_zero (dgL (dOf x) n) n
  generalize trimC (dgL (dOf x) n) n = k at *
  have hm : dOf x % 10 ^ (n - k) = 0 := by
    refine mod_zero _ fun i hi => ?_
    have := hz (n - 1 - i) (by omega) (by omega)
    rw [dgL_at (by omega), show n - 1 - (n - 1 - i) = i by omega] at this
    have := Option.some.inj this
    omega
  have hdm := Nat.div_add_mod (dOf x) (10 ^ (n - k))
  have hv : decF (bb (LOf x)) 0 = dOf x / 10 ^ (n - k) := by rw [hL]; exact dg_take _ _ _ hk hn1
  refine ⟨n - k, by omega, ?_, fun v hv => ?_, ?_, hn18⟩
  · rw [hlen]
    apply Nat.pos_of_ne_zero
    intro h0
    rw [h0, Nat.sub_zero, Nat.mod_eq_of_lt hn1] at hm
    omega
  · rw [hL] at hv
    have := List.mem_of_mem_take hv
    simp only [dgL, List.mem_map, List.mem_range] at this
    obtain ⟨j, _, rfl⟩ := this
    have := Nat.mod_lt (dOf x / 10 ^ (n - 1 - j)) (show 0 < 10 by decide)
    unfold dig; omega
  · rw [hv, Nat.mul_comm]; omega
theorem decF_rep (a : Nat) : ∀ j, decF (bb (List.replicate j 48)) a = a * 10 ^ j
  | 0 => by rw [Nat.pow_zero, Nat.mul_one]; rfl
  | j + 1 => by
    rw [List.replicate_succ]
    show decF (bb (List.replicate j 48)) (a * 10 + dgt (by8 48)) = _
    rw [decF_rep]
    have : dgt (by8 48) = 0 := by decide
    rw [this, Nat.add_zero, Nat.pow_succ, Nat.mul_assoc, Nat.mul_comm (10 ^ j)]
/-- The body of a text: what is behind the sign. -/
def bodyI (L : List Int) (dp : Int) : List Int := if dp - 1 < -4 ∨ 6 ≤ dp - 1 then eForm L dp else fForm L dp
/-- With a point and a zero, if it has neither point nor exponent. -/
def fullB (L : List Int) (dp : Int) : List UInt8 := if hasDE (bb (bodyI L dp)) then bb (bodyI L dp) else bb (bodyI L dp) ++ [46, 48]
theorem rep_dig (j : Nat) : ∀ v ∈ List.replicate j (48 : Int), dig v := by
  intro v hv; rw [List.eq_of_mem_replicate hv]; unfold dig; omega
theorem no_de {l : List UInt8} (h : ∀ c ∈ l, isD c = true) : hasDE l = false := by
  refine has_no fun j b _ hb => ?_
  have := isD_iff.1 (h b (List.mem_of_getElem? hb))
  have n1 : b ≠ 46 := fun e => by subst e; exact absurd this (by decide)
  have n2 : b ≠ 101 := fun e => by subst e; exact absurd this (by decide)
  simp [n1, n2]
theorem de_mem {l : List UInt8} {c : UInt8} (h : c ∈ l) (hc : c = 46 ∨ c = 101) : hasDE l = true := by
  obtain ⟨i, hi, rfl⟩ := List.mem_iff_getElem.1 h
  exact has_hit (List.getElem?_eq_getElem hi) hc
theorem fold_lead : ∀ (z : Nat) (st : RS), st.nd = 0 → ∃ g, fD (bb (List.replicate z 48)) st = ⟨st.m, st.tr, st.dot, g, 0, st.nm, st.dp - z⟩
  | 0, st, h => ⟨st.dig, by
    show st = _
    obtain ⟨a, b, c, d, e, f, g⟩ := st
    have h : e = 0 := h
    subst h
    simp⟩
  | z + 1, st, h => by
    rw [List.replicate_succ]
    have e0 : dgt (by8 48) = 0 := by decide
    have e : fD (bb (48 :: List.replicate z 48)) st = fD (bb (List.replicate z 48)) (stepD st (dgt (by8 48))) := rfl
    have es : stepD st (dgt (by8 48)) = ⟨st.m, st.tr, st.dot, true, st.nd, st.nm, st.dp - 1⟩ := by unfold stepD; rw [if_pos ⟨e0, h⟩]
    obtain ⟨g, hg⟩ := fold_lead z (stepD st (dgt (by8 48))) (by rw [es]; exact h)
    rw [e, hg, es]
    exact ⟨g, by simp; omega⟩
theorem Form.val2 {l B' X : List UInt8} {z : Nat} (_h : Form l [48] (bb (List.replicate z 48) ++ B') X true) (h19 : B'.length ≤ 19) :
    (fD (bb (List.replicate z 48) ++ B') (dotS (fD [48] RS0))).m = decF ([48] ++ (bb (List.replicate z 48) ++ B')) 0 ∧ (fD (bb (List.replicate z 48) ++ B') (dotS (fD [48] RS0))).tr = false ∧
      (decF ([48] ++ (bb (List.replicate z 48) ++ B')) 0 ≠ 0 → expV (fD (bb (List.replicate z 48) ++ B') (dotS (fD [48] RS0))) X = eVal X - (bb (List.replicate z 48) ++ B').length) := by
  have e0 : dotS (fD [48] RS0) = ⟨0, false, true, true, 0, 0, 0⟩ := rfl
  have eF : fD (bb (List.replicate z 48) ++ B') (dotS (fD [48] RS0)) = fD B' (fD (bb (List.replicate z 48)) (dotS (fD [48] RS0))) := List.foldl_append
  obtain ⟨g, hg⟩ := fold_lead z (dotS (fD [48] RS0)) rfl
  rw [eF, hg, e0]
  have eD : decF ([48] ++ (bb (List.replicate z 48) ++ B')) 0 = decF B' 0 := by
    rw [decF_app, decF_app]
    have : decF [48] 0 = 0 := rfl
    rw [this, decF_rep, Nat.zero_mul]
  rw [eD]
  obtain ⟨b1, b2, b3, b4, b5, b6⟩ := fold_few B' ⟨0, false, true, g, 0, 0, (0 : Int) - z⟩ rfl (fun _ => rfl) (by show 0 + _ ≤ 19; omega)
  refine ⟨b1, b2, fun hne => ?_⟩
  unfold expV
  rw [if_pos (by rw [b1]; exact hne), fold_dot' B']
  simp only [if_true]
  have hl : (bb (List.replicate z 48) ++ B').length = z + B'.length := by rw [List.length_append]; unfold bb; rw [List.length_map, List.length_replicate]
  rw [hl]
  dsimp only at b5 ⊢
  omega
/-- What the scan makes of it. -/
structure Read (l : List UInt8) (c : Nat) (q : Int) (j : Nat) : Prop where
  sc : ∀ s : ByteArray, dropS s.data.toList = l → s.size < 100000 → ∃ st X, Txt s st X ∧ st.tr = false ∧ st.m = c * 10 ^ j ∧ (st.m ≠ 0 → expV st X = q - j)
  nm : ∀ l0, dropS l0 = l → numF l0 = true
  hd : ∃ a r, l = a :: r ∧ isD a = true
theorem Form.read {l A B X : List UInt8} {pt : Bool} {c j : Nat} {q : Int} (h : Form l A B X pt) (h19 : A.length + B.length ≤ 19) (hv : decF (A ++ B) 0 = c * 10 ^ j) (he : eVal X - B.length = q - j) : Read l c q j := by
  refine ⟨fun s h0 hs => ?_, fun l0 h0 => h.num h0, ?_⟩
  · obtain ⟨v1, v2, v3⟩ := h.val h19
    exact ⟨_, X, h.txt h0 hs, v2, v1.trans hv, fun hne => (v3 (by rw [← v1]; exact hne)).trans he⟩
  · obtain ⟨a, A', rfl⟩ := List.exists_cons_of_ne_nil h.a
    exact ⟨a, _, h.eq, h.ad a (by simp)⟩
theorem full_form {L : List Int} {dp : Int} (hL : ∀ v ∈ L, dig v) (h0 : 0 < L.length) (h18 : L.length ≤ 18) (hdp : (dp - 1).natAbs < 1000) :
    ∃ j : Nat, Read (fullB L dp) (decF (bb L) 0) (dp - L.length) j ∧ j ≤ 7 ∧ (0 < j → L.length + j ≤ 7) ∧ (fullB L dp).length ≤ 40 := by
  have hbl : ∀ L : List Int, (bb L).length = L.length := fun L => List.length_map _
  unfold fullB bodyI
  by_cases hE : dp - 1 < -4 ∨ 6 ≤ dp - 1
  · rw [if_pos hE]
    obtain ⟨v, L', rfl⟩ := List.exists_cons_of_ne_nil (fun e => by rw [e] at h0; exact absurd h0 (by decide) : L ≠ [])
    obtain ⟨s, ds, x1, x2, x3, x4⟩ := expo_facts hdp
    have eb : bb (eForm (v :: L') dp) = [by8 v] ++ ((if decide (L' ≠ []) then 46 :: bb L' else []) ++ 101 :: bb (expoL (dp - 1))) := by
      unfold eForm
      rw [if_neg (show ¬ (v :: L' = []) by simp), if_neg (show ¬ (v :: L' = []) by simp), bb_app, bb_app, bb_app]
      cases L' with
      | nil =>
        rw [if_neg (show ¬ 1 < [v].length by simp), if_neg (by simp)]
        simp only [bb_cons, bb_nil, b101, List.cons_append, List.nil_append, List.take_succ_cons, List.take_zero]
      | cons a r =>
        rw [if_pos (show 1 < (v :: a :: r).length by simp), if_pos (show decide (a :: r ≠ []) = true by simp)]
        simp only [bb_cons, bb_nil, b46, b101, List.cons_append, List.nil_append, List.append_assoc, List.take_succ_cons, List.take_zero, List.drop_succ_cons, List.drop_zero]
    have hde : hasDE (bb (eForm (v :: L') dp)) = true := de_mem (c := 101) (by rw [eb]; simp) (.inr rfl)
    rw [if_pos hde]
    have hF : Form (bb (eForm (v :: L') dp)) [by8 v] (bb L') (101 :: bb (expoL (dp - 1))) (decide (L' ≠ [])) := by
      refine ⟨eb, by simp, fun c hc => ?_, fun h e => ?_, fun h => ?_, bb_dig fun w hw => hL w (by simp [hw]), .inr ⟨_, _, _, x2⟩, fun c sg d hX => hX.le⟩
      · simp at hc; subst hc; exact by_dig (hL v (by simp))
      · have := of_decide_eq_true h
        cases L' with
        | nil => exact this rfl
        | cons _ _ => cases e
      · have := of_decide_eq_false h
        cases L' with
        | nil => rfl
        | cons _ _ => exact absurd (by simp) this
    simp only [List.length_cons] at h18 ⊢
    refine ⟨0, hF.read ?_ ?_ ?_, by omega, by omega, ?_⟩
    · rw [hbl]; simp only [List.length_cons, List.length_nil]; omega
    · rw [Nat.pow_zero, Nat.mul_one]; rfl
    · rw [x4, hbl]; omega
    · rw [eb, x1]
      simp only [List.length_append, List.length_cons, List.length_nil]
      split
      · rw [List.length_cons, hbl]; omega
      · simp; omega
  · rw [if_neg hE]
    by_cases hd0 : 0 < dp
    · by_cases hd1 : dp < (L.length : Int)
      · -- within
        have eb : bb (fForm L dp) = bb (L.take dp.toNat) ++ ((if true then 46 :: bb (L.drop dp.toNat) else []) ++ []) := by
          unfold fForm
          rw [if_pos hd0, if_pos hd1, show dp.toNat - L.length = 0 by omega, show (-dp).toNat = 0 by omega, bb_app, bb_app]
          simp [bb, by8]
        have hde : hasDE (bb (fForm L dp)) = true := de_mem (c := 46) (by rw [eb]; simp) (.inl rfl)
        rw [if_pos hde]
        have ht : (L.take dp.toNat).length = dp.toNat := by rw [List.length_take]; omega
        have hdl : (L.drop dp.toNat).length = L.length - dp.toNat := List.length_drop
        have hF : Form (bb (fForm L dp)) (bb (L.take dp.toNat)) (bb (L.drop dp.toNat)) [] true := by
          refine ⟨eb, fun e => ?_, bb_dig fun w hw => hL w (List.mem_of_mem_take hw), fun _ e => ?_, fun h => (by cases h), bb_dig fun w hw => hL w (List.mem_of_mem_drop hw), .inl rfl, fun c sg d hX => hX.le⟩
          · have := congrArg List.length e; rw [hbl, ht] at this; simp at this; omega
          · have := congrArg List.length e; rw [hbl, hdl] at this; simp at this; omega
        refine ⟨0, hF.read ?_ ?_ ?_, by omega, by omega, ?_⟩
        · rw [hbl, hbl, ht, hdl]; omega
        · rw [Nat.pow_zero, Nat.mul_one, ← bb_app, List.take_append_drop]
        · rw [hbl, hdl]; show 0 - _ = _; omega
        · rw [eb]
          simp only [List.length_append, if_true, List.length_cons, List.length_nil]
          rw [hbl, hbl, ht, hdl]; omega
      · -- whole
        have eb : bb (fForm L dp) = bb (L ++ List.replicate (dp.toNat - L.length) 48) := by
          unfold fForm
          rw [if_pos hd0, if_neg hd1, List.append_nil, List.take_of_length_le (by omega)]
        have hdg : ∀ c ∈ bb (fForm L dp), isD c = true := by
          rw [eb]; refine bb_dig fun w hw => ?_
          rcases List.mem_append.1 hw with hw | hw
          · exact hL w hw
          · exact rep_dig _ w hw
        rw [if_neg (by rw [no_de hdg]; decide)]
        have hlen : (bb (fForm L dp)).length = dp.toNat := by rw [eb, hbl, List.length_append, List.length_replicate]; omega
        have hF : Form (bb (fForm L dp) ++ [46, 48]) (bb (fForm L dp)) [48] [] true := by
          refine ⟨rfl, fun e => ?_, hdg, fun _ => by simp, fun h => (by cases h), fun c hc => ?_, .inl rfl, fun c sg d hX => hX.le⟩
          · have := congrArg List.length e; rw [hlen] at this; simp at this; omega
          · simp at hc; subst hc; decide
        refine ⟨dp.toNat - L.length + 1, hF.read ?_ ?_ ?_, by omega, by omega, ?_⟩
        · rw [hlen]; simp only [List.length_cons, List.length_nil]; omega
        · rw [decF_app, eb, bb_app, decF_app, decF_rep]
          show decF (bb L) 0 * 10 ^ (dp.toNat - L.length) * 10 + 0 = _
          rw [Nat.add_zero, Nat.pow_succ, Nat.mul_assoc]
        · show (0 : Int) - ((1 : Nat) : Int) = _; omega
        · rw [List.length_append, hlen]; simp only [List.length_cons, List.length_nil]; omega
    · -- zeros first
      have eb : bb (fForm L dp) = [48] ++ ((if true then 46 :: (bb (List.replicate (-dp).toNat 48) ++ bb L) else []) ++ []) := by
        unfold fForm
        rw [if_neg hd0, if_pos (by omega), show dp.toNat = 0 by omega, bb_app]
        simp only [List.drop_zero, if_true, List.append_nil, bb_cons, bb_nil, b48, b46, bb_app]
      have hde : hasDE (bb (fForm L dp)) = true := de_mem (c := 46) (by rw [eb]; simp) (.inl rfl)
      rw [if_pos hde]
      have hF : Form (bb (fForm L dp)) [48] (bb (List.replicate (-dp).toNat 48) ++ bb L) [] true := by
        refine ⟨eb, by simp, fun c hc => ?_, fun _ e => ?_, fun h => (by cases h), fun c hc => ?_, .inl rfl, fun c sg d hX => hX.le⟩
        · simp at hc; subst hc; decide
        · have := congrArg List.length e; rw [List.length_append, hbl, hbl, List.length_nil] at this; omega
        · rcases List.mem_append.1 hc with hc | hc
          · exact bb_dig (rep_dig _) c hc
          · exact bb_dig hL c hc
      have hlB : (bb (List.replicate (-dp).toNat 48) ++ bb L).length = (-dp).toNat + L.length := by rw [List.length_append, hbl, hbl, List.length_replicate]
      obtain ⟨v1, v2, v3⟩ := hF.val2 (by rw [hbl]; omega)
      have eD : decF ([48] ++ (bb (List.replicate (-dp).toNat 48) ++ bb L)) 0 = decF (bb L) 0 := by
        rw [decF_app, decF_app]
        have : decF [48] 0 = 0 := rfl
        rw [this, decF_rep, Nat.zero_mul]
      rw [eD] at v1 v3
      refine ⟨0, ⟨fun s h0 hs => ?_, fun l0 h0 => hF.num h0, ?_⟩, by omega, by omega, ?_⟩
      · refine ⟨_, [], hF.txt h0 hs, v2, ?_, fun hne => ?_⟩
        · rw [Nat.pow_zero, Nat.mul_one]; exact v1
        · refine (v3 (by rw [← v1]; exact hne)).trans ?_
          rw [hlB]; show (0 : Int) - _ = _; omega
      · exact ⟨48, _, eb, by decide⟩
      · rw [eb]
        simp only [if_true, List.append_nil, List.length_append, List.length_cons, List.length_nil]
        rw [hbl, hbl, List.length_replicate]; omega
end Go.Proofs.YtfjflbapojgbhaaGreatDoor.N

/- WeighBack: a number's text leads back to it. Conditions: none. -/
namespace Go.Proofs.YtfjflbapojgbhaaGreatDoor.N
open Go.X Go.Proofs.YtfjflbapojgbhaaGreatDoor
set_option maxRecDepth 100000
set_option maxHeartbeats 1000000

theorem de_iff (l : List UInt8) : hasDE l = true ↔ ∃ c ∈ l, c = 46 ∨ c = 101 := by
  constructor
  · intro h
    apply Classical.byContradiction
    intro hn
    have : hasDE l = false := has_no fun j b _ hb => by
      have n1 : b ≠ 46 := fun e => hn ⟨b, List.mem_of_getElem? hb, .inl e⟩
      have n2 : b ≠ 101 := fun e => hn ⟨b, List.mem_of_getElem? hb, .inr e⟩
      simp [n1, n2]
    rw [this] at h; cases h
  · rintro ⟨c, h1, h2⟩; exact de_mem h1 h2
theorem de_sgn (ng : Bool) (l : List UInt8) : hasDE ((if ng then [45] else []) ++ l) = hasDE l := by
  rw [Bool.eq_iff_iff, de_iff, de_iff]
  cases ng
  · rfl
  · constructor
    · rintro ⟨c, h1, h2⟩
      simp only [if_true, List.cons_append, List.nil_append, List.mem_cons] at h1
      rcases h1 with rfl | h1
      · rcases h2 with h | h <;> cases h
      · exact ⟨c, h1, h2⟩
    · rintro ⟨c, h1, h2⟩; exact ⟨c, by simp [h1], h2⟩
theorem bb_sign (ng : Bool) : bb (signL ng) = if ng then [45] else [] := by cases ng <;> rfl
/-- What stands behind the sign. -/
def restB (x : Nat) : List UInt8 := if maOf x = 0 then fullB [] 0 else fullB (LOf x) (dpOf x)
theorem text_list {x : Nat} (hn : isNaN x = false) (h1 : isInf x = false) (h2 : isInf (negM x) = false) : (textM x).data.toList = (if neOf x then [45] else []) ++ restB x := by
  unfold textM
  rw [if_neg (by rw [hn]; decide), if_neg (by rw [h1]; decide), if_neg (by rw [h2]; decide)]
  have gen : ∀ L dp, (strOf (fmtG (neOf x) L dp)).data.toList = (if neOf x then [45] else []) ++ bb (bodyI L dp) := fun L dp => by
    rw [str_bb]; unfold fmtG; rw [bb_app, bb_sign]; rfl
  have gen2 : ∀ L dp, txtF x = fmtG (neOf x) L dp → (if hasDE (strOf (txtF x)).data.toList then strOf (txtF x) else strOf (txtF x) ++ ⟨#[46, 48]⟩ : ByteArray).data.toList = (if neOf x then [45] else []) ++ fullB L dp := fun L dp e => by
    rw [e, gen, de_sgn]
    unfold fullB
    by_cases hd : hasDE (bb (bodyI L dp)) = true
    · rw [if_pos hd, if_pos hd, gen]
    · rw [if_neg hd, if_neg hd, ByteArray.data_append, Array.toList_append, gen, List.append_assoc]
  unfold restB
  by_cases h0 : maOf x = 0
  · rw [if_pos h0]; exact gen2 [] 0 (by unfold txtF; rw [if_pos h0])
  · rw [if_neg h0]; exact gen2 _ _ (by unfold txtF; rw [if_neg h0])
theorem drop_sign {ng : Bool} {l : List UInt8} (h : ∃ a r, l = a :: r ∧ isD a = true) : dropS ((if ng then [45] else []) ++ l) = l ∧ (sgnOf ((if ng then [45] else []) ++ l)).1 = ng := by
  obtain ⟨a, r, rfl, ha⟩ := h
  have hd := isD_iff.1 ha
  have n1 : a ≠ 43 := fun e => by subst e; exact absurd hd (by decide)
  have n2 : a ≠ 45 := fun e => by subst e; exact absurd hd (by decide)
  cases ng
  · refine ⟨?_, ?_⟩
    · show (if a = 43 ∨ a = 45 then r else a :: r) = a :: r
      rw [if_neg]; rintro (e | e); exact n1 e; exact n2 e
    · show (if a = 43 then (false, 1) else if a = 45 then (true, 1) else (false, 0)).1 = false
      rw [if_neg n1, if_neg n2]
  · exact ⟨rfl, rfl⟩
theorem zsh {x : Nat} (hm : maOf x ≠ 0) : zOf (eeOf x) = shOf x := by
  have hl := ma_lt x
  obtain ⟨b1, b2, b3⟩ := bl_spec hm (by omega)
  have he : exOf x < 2048 := Nat.mod_lt _ (by decide)
  have b53 : Lib.bitLen (maOf x) ≤ 53 := Lib.bitLen_le _ 53 (by decide) hl
  have hs : shOf x = 64 - Lib.bitLen (maOf x) := rfl
  unfold eeOf xpOf
  by_cases h0 : exOf x = 0
  · have hm2 : maOf x < 2 ^ 52 := by unfold maOf; rw [if_pos h0]; exact fr_lt x
    have : Lib.bitLen (maOf x) ≤ 52 := Lib.bitLen_le _ 52 (by decide) hm2
    rw [if_pos h0]
    unfold zOf
    rw [if_neg (by omega)]; omega
  · have hm2 : 2 ^ 52 ≤ maOf x := by unfold maOf; rw [if_neg h0]; exact Nat.le_add_left _ _
    have : Lib.bitLen (maOf x) = 53 := bl_uniq (k := 52) hm2 hl (by omega)
    rw [if_neg h0]
    unfold zOf
    rw [if_pos (by omega)]; omega
theorem bits_x {x : Nat} (h : x < 18446744073709551616) : bitsF (maOf x) (xpOf x - 1075) (neOf x) = x := by
  have hs : sgnN (neOf x) = x / 9223372036854775808 * 9223372036854775808 := by
    unfold neOf sgnN
    by_cases hh : x / 9223372036854775808 ≠ 0
    · rw [decide_eq_true hh, if_pos rfl]; omega
    · rw [decide_eq_false hh, if_neg (by decide)]; omega
  unfold bitsF
  rw [hs]
  have hf := fr_lt x
  have hex : exOf x = x / 4503599627370496 % 2048 := rfl
  have hfr : frOf x = x % 4503599627370496 := rfl
  unfold maOf xpOf
  by_cases h0 : exOf x = 0
  · rw [if_pos h0, if_pos h0, if_pos hf]; omega
  · rw [if_neg h0, if_neg h0, if_neg (by omega), show ((exOf x : Int) - 1075 + 1075).toNat = exOf x by omega]; omega
theorem p_rng {m : Nat} {ev : Int} (h : Mt m ev) : -324 ≤ (short m ev).2 ∧ (short m ev).2 ≤ 293 := by
  have hez : -1074 ≤ ev + zOf ev ∧ ev + zOf ev ≤ 971 := by
    have := h.e0; have := h.e1
    unfold zOf; split <;> omega
  have hp : -292 ≤ shP m ev ∧ shP m ev ≤ 324 := by
    unfold shP
    by_cases hA : shA m ev = true
    · rw [if_pos hA]
      simp only [shA, Bool.and_eq_true, decide_eq_true_eq] at hA
      have := h.e1
      unfold skw; omega
    · rw [if_neg hA]; unfold l10; omega
  unfold short
  split
  · show _ ≤ -(shP m ev - 1) ∧ -(shP m ev - 1) ≤ _; omega
  · split
    · show _ ≤ -shP m ev ∧ -shP m ev ≤ _; omega
    · show _ ≤ -shP m ev ∧ -shP m ev ≤ _; omega
theorem size_list (s : ByteArray) : s.size = s.data.toList.length := rfl
/-- The text of a finite number, read. -/
theorem back {x : Nat} (hx64 : x < 18446744073709551616) (hn : isNaN x = false) (h1 : isInf x = false) (h2 : isInf (negM x) = false) :
    P37 (textM x) x ∧ numF (textM x).data.toList = true ∧ (textM x).size ≤ 60 ∧ ∃ a r, restB x = a :: r ∧ isD a = true := by
  have hx := fin_of hn h1 h2
  have hl := text_list hn h1 h2
  by_cases h0 : maOf x = 0
  · -- zero
    have hr : restB x = [48, 46, 48] := by unfold restB; rw [if_pos h0]; decide
    have hhd : ∃ a r, restB x = a :: r ∧ isD a = true := ⟨48, [46, 48], hr, by decide⟩
    obtain ⟨d1, d2⟩ := drop_sign (ng := neOf x) hhd
    rw [← hl] at d1 d2
    have hsz : (textM x).size ≤ 60 := by rw [size_list, hl, hr]; cases neOf x <;> decide
    have hF : Form (restB x) [48] [48] [] true := by
      rw [hr]
      exact ⟨rfl, by simp, fun c hc => (by simp at hc; subst hc; decide), fun _ => by simp, fun h => (by cases h), fun c hc => (by simp at hc; subst hc; decide), .inl rfl, fun c sg d hX => hX.le⟩
    have hT := hF.txt d1 (by omega)
    obtain ⟨v1, v2, _⟩ := hF.val (by decide)
    refine ⟨?_, hF.num d1, hsz, hhd⟩
    have := P37.of hT v2
    rw [v1, d2] at this
    have e : (atofV (decF ([48] ++ [48]) 0) (expV (fD [48] (if true = true then dotS (fD [48] RS0) else fD [48] RS0)) []) (neOf x)).1 = x := by
      unfold atofV
      have : decF ([48] ++ [48]) 0 = 0 := rfl
      rw [if_pos this]
      have hb := bits_x hx64
      rw [h0] at hb
      have e0 : bitsF 0 (xpOf x - 1075) (neOf x) = sgnN (neOf x) := by unfold bitsF; rw [if_pos (by decide), Nat.add_zero]
      have hb2 : sgnN (neOf x) = x := e0.symm.trans hb
      show (bits .or .u64 (sgnN (neOf x) : Int) 0).toNat = x
      rw [hb2]
      have : bits .or .u64 (x : Int) 0 = ((x ||| 0 : Nat) : Int) := bits_or_u64_nat x 0 hx64 (by decide)
      rw [this, Nat.or_zero, Int.toNat_natCast]
    rw [e] at this
    exact this
  · obtain ⟨hmt, hs63, hs11⟩ := mt_of hx h0
    obtain ⟨hin, hd57, hd0⟩ := short_in hmt
    have hz := zsh h0
    have hM : mmOf x / 2 ^ zOf (eeOf x) = maOf x := by rw [hz]; unfold mmOf; exact Nat.mul_div_cancel _ (Nat.two_pow_pos _)
    have hE : eeOf x + zOf (eeOf x) = xpOf x - 1075 := by rw [hz]; unfold eeOf; omega
    rw [hM, hE] at hin
    obtain ⟨q1, q2⟩ := p_rng hmt
    have hin : In (4 * (dOf x * ten (pOf x)) * W 0) (tenn (pOf x)) (maOf x) (xpOf x - 1075) := hin
    have hd57 : dOf x < 144115188075855872 := hd57
    have hd0 : 0 < dOf x := hd0
    have q1 : -324 ≤ pOf x := q1
    have q2 : pOf x ≤ 293 := q2
    obtain ⟨t, l1, l2, l3, l4, l5⟩ := LOf_val hd0 hd57
    have hdp : dpOf x = ndg (dOf x) + pOf x := rfl
    obtain ⟨j, hR, j1, j2, hlen⟩ := full_form (L := LOf x) (dp := dpOf x) l3 l2 (by omega) (by omega)
    have hrest : restB x = fullB (LOf x) (dpOf x) := by unfold restB; rw [if_neg h0]
    rw [← hrest] at hR hlen
    obtain ⟨d1, d2⟩ := drop_sign (ng := neOf x) hR.hd
    rw [← hl] at d1 d2
    have hsz : (textM x).size ≤ 60 := by
      rw [size_list, hl, List.length_append]
      have : (if neOf x = true then [(45 : UInt8)] else []).length ≤ 1 := by cases neOf x <;> decide
      omega
    obtain ⟨st, X, hT, htr, hm, he⟩ := hR.sc (textM x) d1 (by omega)
    refine ⟨?_, hR.nm _ d1, hsz, hR.hd⟩
    have hP := P37.of hT htr
    rw [d2] at hP
    generalize hc : decF (bb (LOf x)) 0 = c at *
    have hc0 : c ≠ 0 := by rintro rfl; rw [Nat.zero_mul] at l4; omega
    have hp10 : 0 < 10 ^ j := Nat.pow_pos (by decide)
    have hp10t : 0 < 10 ^ t := Nat.pow_pos (by decide)
    have hm0 : st.m ≠ 0 := by rw [hm]; exact Nat.mul_ne_zero hc0 (by omega)
    have he := he hm0
    have hcd : c ≤ dOf x := by rw [← l4]; exact Nat.le_mul_of_pos_right _ hp10t
    have hm57 : st.m < 144115188075855872 := by
      rw [hm]
      by_cases hj : j = 0
      · rw [hj, Nat.pow_zero, Nat.mul_one]; omega
      · have hck : c < 10 ^ (LOf x).length := by
          refine Nat.lt_of_mul_lt_mul_right (a := 10 ^ t) ?_
          rw [l4, ← Nat.pow_add, l1]; exact ndg_lt _
        calc c * 10 ^ j < 10 ^ (LOf x).length * 10 ^ j := Nat.mul_lt_mul_of_pos_right hck hp10
          _ = 10 ^ ((LOf x).length + j) := (Nat.pow_add _ _ _).symm
          _ ≤ 10 ^ 7 := Nat.pow_le_pow_right (by decide) (j2 (by omega))
          _ < _ := by decide
    rw [he] at hP
    have hin2 : In (4 * (st.m * ten (dpOf x - (LOf x).length - j)) * W 0) (tenn (dpOf x - (LOf x).length - j)) (maOf x) (xpOf x - 1075) := by
      refine hin.scale (tenn_pos _) ?_ (tenn_pos _)
      rw [hm, ← l4]
      have ep : 10 ^ t * ten (pOf x) * tenn (dpOf x - (LOf x).length - j) = 10 ^ j * ten (dpOf x - (LOf x).length - j) * tenn (pOf x) := by
        unfold ten tenn
        rw [← Nat.pow_add, ← Nat.pow_add, ← Nat.pow_add, ← Nat.pow_add]; congr 1; omega
      calc 4 * (c * 10 ^ t * ten (pOf x)) * W 0 * tenn (dpOf x - (LOf x).length - j) = 4 * c * W 0 * (10 ^ t * ten (pOf x) * tenn (dpOf x - (LOf x).length - j)) := by ac_rfl
        _ = 4 * c * W 0 * (10 ^ j * ten (dpOf x - (LOf x).length - j) * tenn (pOf x)) := by rw [ep]
        _ = _ := by ac_rfl
    have hxp : xpOf x ≤ 2046 := by
      have he : exOf x < 2048 := Nat.mod_lt _ (by decide)
      unfold xpOf; split <;> omega
    have ha := atof_in (ng := neOf x) (by omega) (by omega) hm0 (by omega) (.inl hm57) hin2 (by omega) (by omega)
    rw [ha, bits_x hx64] at hP
    exact hP
theorem inf_x {x : Nat} (hx64 : x < 18446744073709551616) (hn : isNaN x = false) (h1 : isInf x = true) : x = 9218868437227405312 := by
  unfold isInf at h1
  rw [order_gt hn (by decide)] at h1
  have hk := of_decide_eq_true h1
  rcases read_cases hn with ⟨s, e⟩ | ⟨s, m, i, e⟩
  · have hs : s = false := by
      cases s
      · rfl
      · exfalso
        have : key x = -(2 ^ bigE) := by unfold key; rw [e]; rfl
        have h0 : 0 < key MAXF := by decide +kernel
        have := big_pos
        omega
    subst hs
    unfold Ieee.Format.read at e
    simp only [f_sign, f_binade, f_inf] at e
    have p63 : (2 : Nat) ^ 63 = 9223372036854775808 := by decide
    by_cases g1 : x % 2 ^ 63 < 2 ^ 52
    · rw [if_pos g1] at e; cases e
    rw [if_neg g1] at e
    by_cases g2 : x % 2 ^ 63 < 2047 * 2 ^ 52
    · rw [if_pos g2] at e; cases e
    rw [if_neg g2] at e
    by_cases g3 : x % 2 ^ 63 = 2047 * 2 ^ 52
    · rw [if_pos g3] at e
      have hs : (x / 2 ^ 63 % 2 == 1) = false := by injection e
      have hs2 : x / 2 ^ 63 % 2 ≠ 1 := by simpa using hs
      rw [p63, p52] at *
      omega
    · rw [if_neg g3] at e; cases e
  · exfalso
    obtain ⟨i1, i2⟩ := read_place e
    have hm := read_mag e
    have hkx : key x = Ieee.signed s m (i + 1074).toNat := by unfold key; rw [e]; rfl
    have hmax : key MAXF = ((9007199254740991 * W 971 : Nat) : Int) := by decide +kernel
    rw [hkx, signed_shift, hmax] at hk
    have hW : W i ≤ W 971 := by unfold W; exact Nat.pow_le_pow_right (by decide) (by omega)
    have hle : m * W i ≤ 9007199254740991 * W 971 := Nat.mul_le_mul (by rw [p53] at hm; omega) hW
    rw [← W_def] at hk
    generalize m * W i = a at *
    generalize 9007199254740991 * W 971 = b at *
    split at hk <;> omega
theorem neg_lt {x : Nat} (h : x < 18446744073709551616) : negM x < 18446744073709551616 := by
  show x ^^^ 2 ^ 63 < 2 ^ 64
  exact Nat.xor_lt_two_pow (by omega) (by decide)
theorem neg_neg (x : Nat) : negM (negM x) = x := by
  show x ^^^ 2 ^ 63 ^^^ 2 ^ 63 = x
  rw [Nat.xor_assoc, Nat.xor_self, Nat.xor_zero]
theorem okBack {u : Int} {R : Bool → Prop} (hu : 0 ≤ u ∧ u < 18446744073709551616) (r : R true) : Ok6 u R := by
  apply ok6; unfold T6
  refine ok9' (cnd_f rfl (callE_of (from13 _) ⟨_, rfl, ?_⟩))
  have hx : u.toNat < 18446744073709551616 := by omega
  generalize u.toNat = x at *
  refine ok16' hx ?_
  by_cases hn : isNaN x = true
  · have ht : textM x = ⟨#[78, 97, 78]⟩ := by unfold textM; rw [if_pos hn]
    rw [ht]
    refine ok10' (V := 0) (by decide) (fun h => absurd h (by decide)) ?_
    have e : readV (⟨#[78, 97, 78]⟩ : ByteArray).data.toList 0 = (9221120237041090561, 0) := by decide
    rw [e]
    refine ok15' (cnd_t hn ⟨False, cnd_t rfl (ok15' (cnd_t (by decide) ?_)), fun h => h.elim⟩)
    rw [beq_self_eq_true]; exact r
  have hn : isNaN x = false := by simpa using hn
  have fin : ∀ (s : ByteArray) (y : Nat × Int), y = (x, 0) → textM x = s → Ok15 x fun r4 => cnd r4 (∃ Jv : Prop, (cnd (y.2 == 0) (Ok15 y.1 fun r5 => cnd r5 (R (s.toList == (⟨#[78, 97, 78]⟩ : ByteArray).toList)) Jv) Jv) ∧ (Jv → R false))
      (∃ Jv_2 : Prop, (cnd (y.2 == 0) (Ok12 x y.1 fun r6 => cnd r6 (Ok16 y.1 fun r7 => R (r7.toList == s.toList)) Jv_2) Jv_2) ∧ (Jv_2 → R false)) := by
    rintro s _ rfl rfl
    refine ok15' (cnd_f hn ⟨False, cnd_t rfl (ok12' (cnd_t (beq_self_eq_true x) (ok16' hx ?_))), fun h => h.elim⟩)
    rw [beq_self_eq_true]; exact r
  by_cases h1 : isInf x = true
  · have ht : textM x = ⟨#[73, 78, 70]⟩ := by unfold textM; rw [if_neg (by rw [hn]; decide), if_pos h1]
    have hv := inf_x hx hn h1
    refine ok10' (V := 0) (by rw [ht]; decide) (fun h => absurd h (by rw [ht]; decide)) (fin _ _ ?_ rfl)
    rw [ht, hv]; decide
  have h1 : isInf x = false := by simpa using h1
  by_cases h2 : isInf (negM x) = true
  · have ht : textM x = ⟨#[45, 73, 78, 70]⟩ := by unfold textM; rw [if_neg (by rw [hn]; decide), if_neg (by rw [h1]; decide), if_pos h2]
    have hv := inf_x (neg_lt hx) (by rw [nan_neg]; exact hn) h2
    have hv2 : x = 18442240474082181120 := by
      rw [← neg_neg x, hv]; decide
    refine ok10' (V := 0) (by rw [ht]; decide) (fun h => absurd h (by rw [ht]; decide)) (fin _ _ ?_ rfl)
    rw [ht, hv2]; decide
  have h2 : isInf (negM x) = false := by simpa using h2
  obtain ⟨b1, b2, b3, a, rr, b4, b5⟩ := back hx hn h1 h2
  have hl := text_list hn h1 h2
  refine ok10' (V := x) (by omega) (fun _ _ => b1) (fin _ _ ?_ rfl)
  have hd := isD_iff.1 b5
  have ne : ∀ (c0 : UInt8) (w : List UInt8), (c0.toNat < 48 ∨ 57 < c0.toNat) → c0 ≠ 45 → (textM x).data.toList ≠ c0 :: w := by
    intro c0 w hc hc2 e
    rw [hl, b4] at e
    cases hng : neOf x
    · rw [hng] at e
      have : a = c0 := (List.cons.inj e).1
      rw [← this] at hc; omega
    · rw [hng] at e
      have : 45 = c0 := (List.cons.inj e).1
      exact hc2 this.symm
  unfold readV
  rw [if_neg (ne 78 _ (by decide) (by decide)), if_neg (ne 73 _ (by decide) (by decide)), if_neg, if_neg (by rw [b2]; decide), if_neg (by rw [← size_list]; omega), if_neg]
  · intro hi
    have hab : absM x = x ∨ absM x = negM x := by
      rw [absM_eq]
      by_cases hlt : x < 2 ^ 63
      · left; exact Nat.mod_eq_of_lt hlt
      · right
        show x % 2 ^ 63 = x ^^^ 2 ^ 63
        have e1 : (x ^^^ 2 ^ 63) % 2 ^ 63 = x % 2 ^ 63 := by rw [Nat.xor_mod_two_pow, Nat.mod_self, Nat.xor_zero]
        have e2 : (x ^^^ 2 ^ 63) / 2 ^ 63 = 0 := by
          rw [Nat.xor_div_two_pow]
          have : x / 2 ^ 63 = 1 := by
            have p63 : (2 : Nat) ^ 63 = 9223372036854775808 := by decide
            rw [p63] at *; omega
          rw [this]; decide
        have e3 := Nat.div_add_mod (x ^^^ 2 ^ 63) (2 ^ 63)
        rw [e2, e1] at e3; omega
    rcases hab with e | e
    · rw [e, h1] at hi; cases hi
    · rw [e, h2] at hi; cases hi
  · intro e
    rw [hl, b4] at e
    cases hng : neOf x
    · rw [hng] at e
      have : a = 45 := (List.cons.inj e).1
      rw [this] at hd; exact absurd hd (by decide)
    · rw [hng] at e
      have : a = 73 := (List.cons.inj (List.cons.inj e).2).1
      rw [this] at hd; exact absurd hd (by decide)
end Go.Proofs.YtfjflbapojgbhaaGreatDoor.N
