/- Decimals of 800 places, as numbers: scaling by powers of two and five. Conditions: none. -/
import Derived.Test.YtfjflbapojgbhaaGreatDoorSDec
import Derived.Test.YtfjflbapojgbhaaGreatDoorWTxt
import Derived.Test.YtfjflbapojgbhaaGreatDoorWBeg
namespace Go.Proofs.YtfjflbapojgbhaaGreatDoor.N
open Go.X Go.Proofs.YtfjflbapojgbhaaGreatDoor
set_option maxRecDepth 100000
set_option maxHeartbeats 1000000

/-- 10^n -/
def tn (n : Nat) : Nat := 10 ^ n
theorem tn_add (a b : Nat) : tn (a + b) = tn a * tn b := Nat.pow_add 10 a b
theorem tn_succ (a : Nat) : tn (a + 1) = tn a * 10 := Nat.pow_succ (n := 10) (m := a)
theorem tn_zero : tn 0 = 1 := rfl
theorem tn_pos (a : Nat) : 0 < tn a := Nat.pow_pos (by decide)
theorem tn_le {a b : Nat} (h : a ≤ b) : tn a ≤ tn b := Nat.pow_le_pow_right (by decide) h
theorem tn_lt {a b : Nat} (h : tn a < tn b) : a < b := (Nat.pow_lt_pow_iff_right (a := 10) (by decide)).1 h
theorem tn_split {a b : Nat} (h : a ≤ b) : tn b = tn (b - a) * tn a := by rw [← tn_add, Nat.sub_add_cancel h]
theorem tn_dvd {a b : Nat} (h : a ≤ b) : tn a ∣ tn b := ⟨tn (b - a), by rw [tn_split h, Nat.mul_comm]⟩
theorem tn_two (k : Nat) : tn k = 5 ^ k * 2 ^ k := by rw [← Nat.mul_pow]; rfl
theorem dig_up (X n : Nat) (h : 0 < n) : X / tn (n - 1) = 10 * (X / tn n) + X / tn (n - 1) % 10 := by
  have e : X / tn n = X / tn (n - 1) / 10 := by
    rw [Nat.div_div_eq_div_mul, ← tn_succ, Nat.sub_add_cancel h]
  rw [e]; omega
theorem mod_up (X n : Nat) : X % tn (n + 1) = X / tn n % 10 * tn n + X % tn n := by
  rw [tn_succ, Nat.mod_mul, Nat.mul_comm, Nat.add_comm]
theorem dvd_mod {X n m : Nat} (h : tn m ∣ X) (hm : n ≤ m) : X % tn n = 0 := Nat.mod_eq_zero_of_dvd (Nat.dvd_trans (tn_dvd hm) h)
/-- How many places more than 800 a number has. -/
noncomputable def exE (G : Nat) : Nat := Classical.epsilon fun e => tn (799 + e) ≤ G ∧ G < tn (800 + e)
theorem exE_ok {G : Nat} (h : tn 799 ≤ G) : tn (799 + exE G) ≤ G ∧ G < tn (800 + exE G) := by
  refine Classical.epsilon_spec (p := fun e => tn (799 + e) ≤ G ∧ G < tn (800 + e)) ?_
  have gen : ∀ n, G < tn (800 + n) → ∃ e, tn (799 + e) ≤ G ∧ G < tn (800 + e) := by
    intro n
    induction n with
    | zero => exact fun hn => ⟨0, h, hn⟩
    | succ n ih =>
      intro hn
      by_cases hc : G < tn (800 + n)
      · exact ih hc
      · exact ⟨n + 1, by rw [show 799 + (n + 1) = 800 + n by omega]; omega, hn⟩
  refine gen G ?_
  have h1 : G < tn G := Nat.lt_pow_self (by decide)
  exact Nat.lt_of_lt_of_le h1 (tn_le (by omega))
theorem exE_eq {G e : Nat} (h1 : tn (799 + e) ≤ G) (h2 : G < tn (800 + e)) : exE G = e := by
  obtain ⟨g1, g2⟩ := exE_ok (Nat.le_trans (tn_le (by omega)) h1)
  have a := tn_lt (Nat.lt_of_le_of_lt h1 g2)
  have b := tn_lt (Nat.lt_of_le_of_lt g1 h2)
  omega
/-- A number of 800 places, its last ones may be zeros. -/
def Full (F : Nat) : Prop := tn 799 ≤ F ∧ F < tn 800
noncomputable def scF (c F : Nat) : Nat := F * c / tn (exE (F * c))
noncomputable def scT (c F : Nat) : Bool := decide (F * c % tn (exE (F * c)) ≠ 0)
theorem Full.sc {F c : Nat} (h : Full F) (hc : 0 < c) : Full (scF c F) := by
  have hG : tn 799 ≤ F * c := Nat.le_trans h.1 (Nat.le_mul_of_pos_right _ hc)
  obtain ⟨h1, h2⟩ := exE_ok hG
  unfold scF
  generalize exE (F * c) = e at *
  generalize F * c = G at *
  refine ⟨?_, ?_⟩
  · rw [Nat.le_div_iff_mul_le (tn_pos _), ← tn_add]; exact h1
  · rw [Nat.div_lt_iff_lt_mul (tn_pos _), ← tn_add]; exact h2
/-- The i-th place. -/
def dg (F i : Nat) : Nat := F / tn (799 - i) % 10
theorem dg_lt (F i : Nat) : dg F i < 10 := Nat.mod_lt _ (by decide)
theorem lead {F : Nat} (h : Full F) : dg F 0 = F / tn 799 ∧ 1 ≤ dg F 0 := by
  have e : F / tn 799 < 10 := by
    rw [Nat.div_lt_iff_lt_mul (tn_pos _), Nat.mul_comm, ← tn_succ]; exact h.2
  have e1 : 1 ≤ F / tn 799 := by rw [Nat.le_div_iff_mul_le (tn_pos _), Nat.one_mul]; exact h.1
  have : dg F 0 = F / tn 799 := Nat.mod_eq_of_lt e
  omega
/-- What grows with the number. -/
def dky (F : Nat) (dp : Int) : Int := 10 * dp + (dg F 0 : Int)
theorem up_dky {F c : Nat} {dp : Int} (h : Full F) (hc : 2 ≤ c) : dky F dp < dky (scF c F) (dp + exE (F * c)) := by
  have hG : tn 799 ≤ F * c := Nat.le_trans h.1 (Nat.le_mul_of_pos_right _ (by omega))
  obtain ⟨h1, h2⟩ := exE_ok hG
  have l1 := lead h
  have l2 := lead (h.sc (c := c) (by omega))
  have l3 := dg_lt F 0
  unfold dky
  by_cases he : exE (F * c) = 0
  · have e2 : scF c F = F * c := by unfold scF; rw [he, tn_zero, Nat.div_one]
    rw [e2] at l2 ⊢
    have : 2 * dg F 0 ≤ dg (F * c) 0 := by
      rw [l1.1, l2.1]
      refine Nat.le_trans ?_ (Nat.div_le_div_right (Nat.mul_le_mul_left F hc))
      rw [Nat.le_div_iff_mul_le (tn_pos _), show 2 * (F / tn 799) * tn 799 = F / tn 799 * tn 799 * 2 by ac_rfl]
      exact Nat.mul_le_mul_right _ (Nat.div_mul_le_self _ _)
    omega
  · omega
theorem down_dky {F k : Nat} {dp : Int} (h : Full F) (hk : 1 ≤ k) : dky (scF (5 ^ k) F) (dp + exE (F * 5 ^ k) - k) < dky F dp ∧ exE (F * 5 ^ k) ≤ k := by
  have hc : 0 < 5 ^ k := Nat.pow_pos (by decide)
  have hG : tn 799 ≤ F * 5 ^ k := Nat.le_trans h.1 (Nat.le_mul_of_pos_right _ hc)
  obtain ⟨h1, h2⟩ := exE_ok hG
  have l1 := lead h
  have l2 := lead (h.sc hc)
  have l3 := dg_lt (scF (5 ^ k) F) 0
  have e0 : F * 5 ^ k * 2 ^ k = F * tn k := by rw [tn_two, Nat.mul_assoc]
  have h2k : 2 ≤ 2 ^ k := Nat.le_trans (by decide) (Nat.pow_le_pow_right (n := 2) (by decide) hk)
  have hle : exE (F * 5 ^ k) ≤ k := by
    have a : F * 5 ^ k < tn (800 + k) := by
      refine Nat.lt_of_le_of_lt (Nat.le_mul_of_pos_right _ (Nat.pow_pos (n := k) (a := 2) (by decide))) ?_
      rw [e0, tn_add]; exact Nat.mul_lt_mul_of_pos_right h.2 (tn_pos _)
    have := tn_lt (Nat.lt_of_le_of_lt h1 a)
    omega
  refine ⟨?_, hle⟩
  unfold dky
  by_cases he : exE (F * 5 ^ k) = k
  · have : dg (scF (5 ^ k) F) 0 < dg F 0 := by
      rw [l1.1, l2.1]
      unfold scF
      rw [he, Nat.div_div_eq_div_mul, ← tn_add]
      have a : F * 5 ^ k / tn (k + 799) ≤ F / tn 799 / 2 := by
        rw [tn_add, tn_two]
        have hQ := tn_pos 799
        generalize tn 799 = Q at hQ ⊢
        have b : F * 5 ^ k / (5 ^ k * 2 ^ k * Q) = F / (2 ^ k * Q) := by
          rw [Nat.mul_comm F, Nat.mul_assoc, Nat.mul_div_mul_left _ _ hc]
        rw [b, Nat.div_div_eq_div_mul, Nat.mul_comm Q]
        exact Nat.div_le_div_left (Nat.mul_le_mul_right _ h2k) (Nat.mul_pos (by decide) hQ)
      have b : 1 ≤ F / tn 799 := by rw [← l1.1]; exact l1.2
      clear h1 h2 hG l1 l2 l3 e0
      generalize F / tn 799 = x at *
      omega
    omega
  · omega
end Go.Proofs.YtfjflbapojgbhaaGreatDoor.N

/- The slow fallback: a decimal in memory; prefixIsLessThan, trim. Conditions: none. -/
namespace Go.Proofs.YtfjflbapojgbhaaGreatDoor.N
open Go.X Go.Proofs.YtfjflbapojgbhaaGreatDoor
set_option maxRecDepth 100000
set_option maxHeartbeats 1000000

theorem hc_same {h : Heap} {b i : Nat} {u v : Value} (e : hcell h b i = some u) : hcell (hset h b i v) b i = some v := by
  unfold hcell at *
  cases hb : h[b]? with
  | none => rw [hb] at e; cases e
  | some x =>
    cases x with
    | cells c t f =>
      rw [hset_of hb]
      rw [hb] at e
      have hlt := (Array.getElem?_eq_some_iff.1 e).1
      show (c.setIfInBounds i v)[i]? = _
      rw [Array.getElem?_setIfInBounds, if_pos rfl, if_pos hlt]
    | _ => rw [hb] at e; cases e
theorem hc_other {h : Heap} {b i j : Nat} {v : Value} (hij : i ≠ j) : hcell (hset h b i v) b j = hcell h b j := by
  unfold hcell
  cases hb : h[b]? with
  | none =>
    have : (hset h b i v)[b]? = none := by
      rw [Array.getElem?_eq_none_iff] at hb ⊢; rw [size_hset]; exact hb
    rw [this]
  | some x =>
    cases x with
    | cells c t f =>
      rw [hset_of hb]
      show (c.setIfInBounds i v)[j]? = c[j]?
      rw [Array.getElem?_setIfInBounds, if_neg hij]
    | _ =>
      have : (hset h b i v)[b]? = h[b]? := by simp [hset, Array.getElem?_modify, hb]
      rw [this, hb]
theorem hf_set {h : Heap} {b i j : Nat} {v : Value} : hfree (hset h b i v) b j = hfree h b j := by
  unfold hfree
  cases hb : h[b]? with
  | none =>
    have : (hset h b i v)[b]? = none := by
      rw [Array.getElem?_eq_none_iff] at hb ⊢; rw [size_hset]; exact hb
    rw [this]
  | some x =>
    cases x with
    | cells c t f => rw [hset_of hb]
    | _ =>
      have : (hset h b i v)[b]? = h[b]? := by simp [hset, Array.getElem?_modify, hb]
      rw [this, hb]
/-- A decimal: its places, their count, where the point stands, sign, whether something was dropped. -/
structure Raw (h : Heap) (b : Nat) (c : Nat → Int) (nd dp : Int) (ng tr : Bool) : Prop where
  cell : ∀ i, i < 800 → hcell h b i = some (.int .u8 (c i))
  nd : hcell h b 800 = some (.int .i64 nd)
  dp : hcell h b 801 = some (.int .i64 dp)
  ng : hcell h b 802 = some (.bool ng)
  tr : hcell h b 803 = some (.bool tr)
  free : ∀ i, i < 804 → hfree h b i = true
variable {h : Heap} {b : Nat} {c : Nat → Int} {nd dp : Int} {ng tr : Bool}
theorem Raw.setD (w : Raw h b c nd dp ng tr) {i : Nat} (hi : i < 800) (v : Int) : Raw (hset h b i (.int .u8 v)) b (fun j => if j = i then v else c j) nd dp ng tr :=
  ⟨fun j hj => by
      by_cases e : j = i
      · subst e; rw [if_pos rfl]; exact hc_same (w.cell j hj)
      · rw [if_neg e, hc_other (Ne.symm e)]; exact w.cell j hj,
    (hc_other (by omega)).trans w.nd, (hc_other (by omega)).trans w.dp, (hc_other (by omega)).trans w.ng, (hc_other (by omega)).trans w.tr, fun j hj => hf_set.trans (w.free j hj)⟩
theorem Raw.setN (w : Raw h b c nd dp ng tr) (v : Int) : Raw (hset h b 800 (.int .i64 v)) b c v dp ng tr :=
  ⟨fun j hj => (hc_other (by omega)).trans (w.cell j hj), hc_same w.nd, (hc_other (by decide)).trans w.dp, (hc_other (by decide)).trans w.ng, (hc_other (by decide)).trans w.tr, fun j hj => hf_set.trans (w.free j hj)⟩
theorem Raw.setP (w : Raw h b c nd dp ng tr) (v : Int) : Raw (hset h b 801 (.int .i64 v)) b c nd v ng tr :=
  ⟨fun j hj => (hc_other (by omega)).trans (w.cell j hj), (hc_other (by decide)).trans w.nd, hc_same w.dp, (hc_other (by decide)).trans w.ng, (hc_other (by decide)).trans w.tr, fun j hj => hf_set.trans (w.free j hj)⟩
theorem Raw.setS (w : Raw h b c nd dp ng tr) (v : Bool) : Raw (hset h b 802 (.bool v)) b c nd dp v tr :=
  ⟨fun j hj => (hc_other (by omega)).trans (w.cell j hj), (hc_other (by decide)).trans w.nd, (hc_other (by decide)).trans w.dp, hc_same w.ng, (hc_other (by decide)).trans w.tr, fun j hj => hf_set.trans (w.free j hj)⟩
theorem Raw.setT (w : Raw h b c nd dp ng tr) (v : Bool) : Raw (hset h b 803 (.bool v)) b c nd dp ng v :=
  ⟨fun j hj => (hc_other (by omega)).trans (w.cell j hj), (hc_other (by decide)).trans w.nd, (hc_other (by decide)).trans w.dp, (hc_other (by decide)).trans w.ng, hc_same w.tr, fun j hj => hf_set.trans (w.free j hj)⟩
theorem Raw.fr {h' : Heap} {M : List Nat} (w : Raw h b c nd dp ng tr) (f : Fr M h h') (hm : b ∉ M) : Raw h' b c nd dp ng tr :=
  ⟨fun j hj => f.cell (w.cell j hj) hm, f.cell w.nd hm, f.cell w.dp hm, f.cell w.ng hm, f.cell w.tr hm, fun j hj => (hfree_congr (f.blk b (hcell_lt w.nd) hm) j).trans (w.free j hj)⟩
theorem frb (h : Heap) (b o : Nat) (v : Value) : Fr [b] h (hset h b o v) := Fr.hset h b o v
/-- The decimal is F / 10^800 * 10^dp, and nd of its places are told. -/
structure Rep (h : Heap) (b F nd : Nat) (dp : Int) (ng tr : Bool) : Prop where
  raw : ∃ c : Nat → Int, Raw h b c nd dp ng tr ∧ ∀ i, i < nd → c i = ((48 + dg F i : Nat) : Int)
  le : nd ≤ 800
  dvd : tn (800 - nd) ∣ F
  full : Full F
theorem Rep.pos {F n : Nat} (r : Rep h b F n dp ng tr) : 0 < n := by
  rcases Nat.eq_zero_or_pos n with e | e
  · have := r.dvd
    rw [e] at this
    have := Nat.le_of_dvd (Nat.lt_of_lt_of_le (tn_pos _) r.full.1) this
    exact absurd r.full.2 (Nat.not_lt.2 this)
  · exact e
theorem Rep.fr {F n : Nat} {h' : Heap} {M : List Nat} (r : Rep h b F n dp ng tr) (f : Fr M h h') (hm : b ∉ M) : Rep h' b F n dp ng tr :=
  ⟨let ⟨c, r1, r2⟩ := r.raw; ⟨c, r1.fr f hm, r2⟩, r.le, r.dvd, r.full⟩
/-- The last place told is none of 0. -/
def Trim (F n : Nat) : Prop := dg F (n - 1) ≠ 0
theorem Trim.uniq {F n m : Nat} (h1 : Trim F n) (h2 : Trim F m) (hn : n ≤ 800) (hm : m ≤ 800) (hn0 : 0 < n) (hm0 : 0 < m) (d1 : tn (800 - n) ∣ F) (d2 : tn (800 - m) ∣ F) : n = m := by
  have gen : ∀ {n m : Nat}, n < m → m ≤ 800 → 0 < n → tn (800 - n) ∣ F → dg F (m - 1) = 0 := by
    intro n m hlt hm hn d
    obtain ⟨x, hx⟩ := d
    unfold dg
    rw [hx, show 799 - (m - 1) = 800 - m by omega, show 800 - n = (800 - m) + ((m - n - 1) + 1) by omega, tn_add, tn_succ, Nat.mul_assoc, Nat.mul_div_cancel_left _ (tn_pos _), show tn (m - n - 1) * 10 * x = tn (m - n - 1) * x * 10 by ac_rfl]
    exact Nat.mul_mod_left _ _
  rcases Nat.lt_trichotomy n m with h | h | h
  · exact absurd (gen h hm hn0 d1) h2
  · exact h
  · exact absurd (gen h hn hm0 d2) h1
end Go.Proofs.YtfjflbapojgbhaaGreatDoor.N

/- The slow fallback: trim, prefixIsLessThan, leftShift. Conditions: none. -/
namespace Go.Proofs.YtfjflbapojgbhaaGreatDoor.N
open Go.X Go.Proofs.YtfjflbapojgbhaaGreatDoor
set_option maxRecDepth 100000
set_option maxHeartbeats 1000000

variable {h : Heap} {b F : Nat} {dp : Int} {ng tr : Bool}
abbrev pt (b : Nat) : Value := .pointer (some ⟨b, 0, none⟩)
def ndOf (h : Heap) (b : Nat) : Nat := match hcell h b 800 with
  | some (.int _ x) => x.toNat
  | _ => 0
theorem ndOf_eq {c : Nat → Int} {nd : Int} (w : Raw h b c nd dp ng tr) : ndOf h b = nd.toNat := by unfold ndOf; rw [w.nd]
theorem at1 {x : Int} {i : Nat} (e : x = i) : 0 + (Int.toNat x) * 1 = i := by omega
theorem fr2 {b : Nat} {h h1 : Heap} (f : Fr [b] h h1) (o : Nat) (v : Value) : Fr [b] h (hset h1 b o v) := f.trans (frb _ _ _ _)
theorem trim_ok {n : Nat} (r : Rep h b F n dp ng tr) : CallsH Tryz.prog 107 #[pt b] h fun v h' => Fr [b] h h' ∧ v = .tuple #[] ∧ ∃ m, Rep h' b F m dp ng tr ∧ Trim F m := by
  apply calls107
  unfold S107
  intro K
  have hK : ∀ hv m, Fr [b] h hv → Rep hv b F m dp ng tr → Trim F m → K hv := by
    intro hv m f r t
    obtain ⟨c, w, hc⟩ := r.raw
    unfold K
    have hp := r.pos
    refine ⟨b, 0, rfl, _, w.nd, fun _ hv' => hv' = hv, cnd_eq (fun e => absurd e (by omega)) fun _ => rfl, ?_⟩
    rintro _ rfl
    exact ⟨f, rfl, m, r, t⟩
  refine ⟨fun _ hv => ∃ m, Fr [b] h hv ∧ Rep hv b F m dp ng tr, fun _ hv => ndOf hv b, ⟨n, Fr.refl _ _, r⟩, ?_⟩
  rintro hv ⟨m, f, r⟩
  have hp := r.pos
  have hle := r.le
  obtain ⟨c, w, hc⟩ := r.raw
  refine ⟨b, 0, rfl, _, w.nd, cnd_dec (fun hm => ?_) fun hm => absurd hp (by omega)⟩
  have e : IntKind.i64.wrap ((m : Int) - (1 : Int)) = ((m - 1 : Nat) : Int) := by rw [wr (by omega) (by omega)]; omega
  refine ⟨b, 0, rfl, _, w.nd, b, 0, rfl, ?_⟩
  rw [e]
  refine ⟨by omega, by omega, _, (by rw [at1 rfl]; exact w.cell _ (by omega)), cnd_eq (fun e0 => ?_) fun e0 => ?_⟩
  · refine ⟨b, 0, rfl, _, w.nd, b, 0, rfl, ⟨_, w.nd⟩, w.free 800 (by decide), ?_⟩
    rw [e]
    intro hv2
    have w2 : Raw hv2 b c ((m - 1 : Nat) : Int) dp ng tr := w.setN _
    rw [hc _ (by omega)] at e0
    have hd : dg F (m - 1) = 0 := by omega
    refine ⟨⟨m - 1, f.trans (frb _ _ _ _), ⟨c, w2, fun i hi => hc i (by omega)⟩, by omega, ?_, r.full⟩, ?_⟩
    · have := mod_up F (800 - m)
      rw [Nat.mod_eq_zero_of_dvd r.dvd] at this
      unfold dg at hd
      rw [show 799 - (m - 1) = 800 - m by omega] at hd
      rw [hd, Nat.zero_mul] at this
      rw [show 800 - (m - 1) = 800 - m + 1 by omega]
      exact Nat.dvd_of_mod_eq_zero this
    · show ndOf hv2 b < ndOf hv b
      rw [ndOf_eq w2, ndOf_eq w]; omega
  · refine hK _ m f r ?_
    rw [hc _ (by omega)] at e0
    unfold Trim
    omega
/-- The k-th row: how many digits more, and the digits of 5^k. -/
def cheatB (k : Nat) : Bool := match tL[k]? with
  | some (x, s) => decide (x = ((k + 1 : Nat) : Int) - (s.size : Int)) && decide (s.size ≤ k) && decide (0 < s.size) && decide (5 ^ k < 10 ^ s.size) && decide (10 ^ (s.size - 1) ≤ 5 ^ k) &&
    (List.range s.size).all fun i => match s[i]? with
      | some c => decide (c.toNat = 48 + 5 ^ k / 10 ^ (s.size - 1 - i) % 10)
      | none => false
  | none => false
theorem cheats : (List.range 60).all (fun k => cheatB (k + 1)) = true := by decide +kernel
structure Cheat (k : Nat) (x : Int) (s : ByteArray) : Prop where
  at_ : tL[k]? = some (x, s)
  x : x = ((k + 1 : Nat) : Int) - (s.size : Int)
  le : s.size ≤ k
  pos : 0 < s.size
  lt : 5 ^ k < tn s.size
  ge : tn (s.size - 1) ≤ 5 ^ k
  dig : ∀ i, i < s.size → ∃ c, s[i]? = some c ∧ c.toNat = 48 + 5 ^ k / tn (s.size - 1 - i) % 10
theorem cheat {k : Nat} (h1 : 1 ≤ k) (h2 : k ≤ 60) : ∃ x s, Cheat k x s := by
  have h := List.all_eq_true.1 cheats (k - 1) (List.mem_range.2 (by omega))
  rw [show k - 1 + 1 = k by omega] at h
  unfold cheatB at h
  split at h
  · rename_i x s e
    simp only [Bool.and_eq_true, decide_eq_true_eq] at h
    obtain ⟨⟨⟨⟨⟨a1, a2⟩, a3⟩, a4⟩, a5⟩, a6⟩ := h
    refine ⟨x, s, e, a1, a2, a3, a4, a5, fun i hi => ?_⟩
    have := List.all_eq_true.1 a6 i (List.mem_range.2 hi)
    split at this
    · rename_i c ec
      exact ⟨c, ec, of_decide_eq_true this⟩
    · cases this
  · cases h
/-- Less, place by place. -/
theorem less_ok {n k : Nat} {x : Int} {s : ByteArray} (hk : k ≤ 60) (C : Cheat k x s) (r : Rep h b F n dp ng tr) :
    CallsH Tryz.prog 126 #[.slice (some ⟨b, 0, none⟩) n 800, .string s] h fun v h' => Fr [] h h' ∧ v = .bool (decide (F / tn (800 - s.size) < 5 ^ k)) ∧ h' = h := by
  apply calls126
  unfold S126
  have hle := r.le
  obtain ⟨c, w, hc⟩ := r.raw
  have hsk := C.le
  have pre : ∀ i, i ≤ s.size → F / tn (800 - s.size) / tn (s.size - i) = F / tn (800 - i) := fun i hi => by
    rw [Nat.div_div_eq_div_mul, ← tn_add]; congr 2; omega
  refine ⟨fun lz hv => ∃ i : Nat, lz = [.int .i64 i] ∧ hv = h ∧ i ≤ s.size ∧ i ≤ n ∧ F / tn (800 - i) = 5 ^ k / tn (s.size - i), fun lz _ => match lz with
    | [.int _ i] => s.size - i.toNat
    | _ => 0, ⟨0, rfl, rfl, by omega, by omega, ?_⟩, ?_⟩
  · rw [Nat.sub_zero, Nat.sub_zero, Nat.div_eq_of_lt r.full.2, Nat.div_eq_of_lt C.lt]
  rintro i0 hv ⟨i, e, rfl, hi, hin, hp⟩
  obtain rfl : i0 = i := by injection (List.cons.inj e).1
  have hC := C.dig
  refine cnd_dec (fun h1 => cnd_dec (fun h2 => ?_) fun h2 => ?_) fun h1 => ?_
  · -- no place is left
    obtain rfl : i = n := by omega
    refine ⟨Fr.refl _ _, ?_, rfl⟩
    rw [decide_eq_true]
    have hpre := pre i (by omega)
    have hX : F / tn (800 - s.size) = F / tn (800 - i) * tn (s.size - i) := by
      obtain ⟨y, hy⟩ := r.dvd
      have e : tn (800 - i) = tn (800 - s.size) * tn (s.size - i) := by rw [← tn_add]; congr 1; omega
      rw [hy, Nat.mul_div_cancel_left _ (tn_pos _), e, Nat.mul_assoc, Nat.mul_div_cancel_left _ (tn_pos _), Nat.mul_comm]
    rw [hX, hp]
    have hdm := Nat.div_add_mod (5 ^ k) (tn (s.size - i))
    have hne : 5 ^ k % tn (s.size - i) ≠ 0 := fun h0 => by
      have h2 : 2 ∣ tn (s.size - i) := by
        have e : s.size - i = (s.size - i - 1) + 1 := by omega
        rw [e, tn_succ]; exact ⟨tn (s.size - i - 1) * 5, by omega⟩
      have h3 : 5 ^ k % 2 = 0 := Nat.mod_eq_zero_of_dvd (Nat.dvd_trans h2 (Nat.dvd_of_mod_eq_zero h0))
      rw [Nat.pow_mod, show 5 % 2 = 1 from rfl, Nat.one_pow] at h3
      exact absurd h3 (by decide)
    rw [Nat.mul_comm]
    omega
  · obtain ⟨q, e1, e2⟩ := hC i (by omega)
    have hcell : hcell hv b (0 + (Int.toNat (i : Int)) * 1) = some (.int .u8 ((48 + dg F i : Nat) : Int)) := by
      rw [at1 rfl, ← hc i (by omega)]; exact w.cell _ (by omega)
    have hq : s[Int.toNat (i : Int)]? = some q := e1
    have up1 := dig_up F (800 - i) (by omega)
    have up2 := dig_up (5 ^ k) (s.size - i) (by omega)
    rw [show 800 - i - 1 = 799 - i by omega] at up1
    rw [show s.size - i - 1 = s.size - 1 - i by omega] at up2
    have hdg : F / tn (799 - i) % 10 = dg F i := rfl
    rw [hdg] at up1
    rw [← hp] at up2
    refine ⟨b, 0, rfl, by omega, by omega, _, hcell, by omega, h1, q, hq, cnd_ne (fun hne => ?_) fun heq => ?_⟩
    · refine ⟨b, 0, rfl, by omega, by omega, _, hcell, by omega, h1, q, hq, Fr.refl _ _, ?_, rfl⟩
      have hpre := pre (i + 1) (by omega)
      rw [show 800 - (i + 1) = 799 - i by omega, show s.size - (i + 1) = s.size - 1 - i by omega] at hpre
      congr 1
      rw [decide_eq_decide, e2]
      have hlt : (F / tn (799 - i) < 5 ^ k / tn (s.size - 1 - i)) → F / tn (800 - s.size) < 5 ^ k := fun hh => by
        rw [← hpre] at hh
        exact Nat.lt_of_not_le fun h' => absurd (Nat.div_le_div_right (c := tn (s.size - 1 - i)) h') (by omega)
      have hgt : (5 ^ k / tn (s.size - 1 - i) < F / tn (799 - i)) → ¬ F / tn (800 - s.size) < 5 ^ k := fun hh h' => by
        rw [← hpre] at hh
        exact absurd (Nat.div_le_div_right (c := tn (s.size - 1 - i)) (Nat.le_of_lt h')) (by omega)
      constructor
      · intro hh; exact hlt (by omega)
      · intro hh
        apply Classical.byContradiction
        intro hh2
        exact hgt (by omega) hh
    · refine ⟨⟨i + 1, ?_, rfl, by omega, by omega, ?_⟩, ?_⟩
      · rw [wr (by omega) (by omega)]; rfl
      · rw [show 800 - (i + 1) = 799 - i by omega, show s.size - (i + 1) = s.size - 1 - i by omega, up1, up2]
        omega
      · rw [wr (by omega) (by omega)]; (try dsimp only); omega
  · obtain rfl : i = s.size := by omega
    refine ⟨Fr.refl _ _, ?_, rfl⟩
    rw [Nat.sub_self, tn_zero, Nat.div_one] at hp
    rw [hp, decide_eq_false (Nat.lt_irrefl _)]
end Go.Proofs.YtfjflbapojgbhaaGreatDoor.N

/- The slow fallback: leftShift. Conditions: none. -/
namespace Go.Proofs.YtfjflbapojgbhaaGreatDoor.N
open Go.X Go.Proofs.YtfjflbapojgbhaaGreatDoor
set_option maxRecDepth 100000
set_option maxHeartbeats 1000000

variable {h : Heap} {b F : Nat} {dp : Int} {ng tr : Bool}
theorem delta_ok {k : Nat} {x : Int} {s : ByteArray} (C : Cheat k x s) (hF : Full F) (h60 : k ≤ 60) : (if F / tn (800 - s.size) < 5 ^ k then x - 1 else x) = (exE (F * 2 ^ k) : Int) := by
  have hsk := C.le
  have hx := C.x
  have e2 : tn (800 + k - s.size) = 5 ^ k * tn (800 - s.size) * 2 ^ k := by
    rw [show 800 + k - s.size = (800 - s.size) + k by omega, tn_add, tn_two k]; ac_rfl
  have h5 : 0 < 5 ^ k := Nat.pow_pos (by decide)
  split
  · rename_i hp
    have a : tn (k - s.size) ≤ 2 ^ k := by
      refine Nat.le_of_lt (Nat.lt_of_mul_lt_mul_left (a := 5 ^ k) ?_)
      rw [← tn_two]
      refine Nat.lt_of_lt_of_eq (Nat.mul_lt_mul_of_pos_right C.lt (tn_pos _)) ?_
      rw [← tn_add]; congr 1; omega
    have hlt : F < 5 ^ k * tn (800 - s.size) := (Nat.div_lt_iff_lt_mul (tn_pos _)).1 hp
    have : exE (F * 2 ^ k) = k - s.size := by
      refine exE_eq ?_ ?_
      · rw [tn_add]; exact Nat.mul_le_mul hF.1 a
      · rw [show 800 + (k - s.size) = 800 + k - s.size by omega, e2]
        exact Nat.mul_lt_mul_of_pos_right hlt (Nat.pow_pos (by decide))
    rw [this]; omega
  · rename_i hp
    have hge : 5 ^ k * tn (800 - s.size) ≤ F := (Nat.le_div_iff_mul_le (tn_pos _)).1 (Nat.le_of_not_lt hp)
    have a : 2 ^ k ≤ tn (k - s.size + 1) := by
      refine Nat.le_of_mul_le_mul_left ?_ (tn_pos (s.size - 1))
      refine Nat.le_trans (Nat.mul_le_mul_right _ C.ge) ?_
      rw [← tn_two, ← tn_add]
      have := C.pos
      exact tn_le (by omega)
    have : exE (F * 2 ^ k) = k - s.size + 1 := by
      refine exE_eq ?_ ?_
      · rw [show 799 + (k - s.size + 1) = 800 + k - s.size by omega, e2]
        exact Nat.mul_le_mul_right _ hge
      · rw [tn_add]
        exact Nat.lt_of_lt_of_le (Nat.mul_lt_mul_of_pos_right hF.2 (Nat.pow_pos (by decide))) (Nat.mul_le_mul_left _ a)
    rw [this]; omega
def carry (F k r : Nat) : Nat := F % tn (800 - r) * 2 ^ k / tn (800 - r)
theorem carry_lt (F k r : Nat) : carry F k r < 2 ^ k := by
  unfold carry
  rw [Nat.div_lt_iff_lt_mul (tn_pos _), Nat.mul_comm (2 ^ k)]
  exact Nat.mul_lt_mul_of_pos_right (Nat.mod_lt _ (tn_pos _)) (Nat.pow_pos (by decide))
theorem carry_step {F k r : Nat} (h0 : 0 < r) (hr : r ≤ 800) : (carry F k r + dg F (r - 1) * 2 ^ k) % 10 = F * 2 ^ k / tn (800 - r) % 10 ∧ (carry F k r + dg F (r - 1) * 2 ^ k) / 10 = carry F k (r - 1) := by
  have hd : dg F (r - 1) = F / tn (800 - r) % 10 := by unfold dg; rw [show 799 - (r - 1) = 800 - r by omega]
  have hm := mod_up F (800 - r)
  rw [← hd] at hm
  unfold carry
  rw [show 800 - (r - 1) = 800 - r + 1 by omega, hm, tn_succ]
  have hD := tn_pos (800 - r)
  have hF := Nat.div_add_mod F (tn (800 - r))
  have hX := Nat.div_add_mod (F / tn (800 - r)) 10
  rw [← hd] at hX
  generalize tn (800 - r) = D at *
  generalize dg F (r - 1) = d at *
  generalize F % D = t at *
  generalize F / D / 10 = X' at *
  generalize F / D = X at *
  generalize 2 ^ k = p
  constructor
  · rw [← hF, Nat.add_mul, show D * X * p = X * p * D by ac_rfl, Nat.add_comm (X * p * D), Nat.add_mul_div_right _ _ hD, ← hX, Nat.add_mul, show 10 * X' * p = 10 * (X' * p) by ac_rfl]
    omega
  · rw [← Nat.div_div_eq_div_mul, Nat.add_mul, show d * D * p = d * p * D by ac_rfl, Nat.add_comm (d * p * D), Nat.add_mul_div_right _ _ hD]
/-- Where leftShift stands: the places before r are the old ones, those from t on the new ones. -/
def LS (h : Heap) (b F G e n : Nat) (dp : Int) (ng tr : Bool) (r t : Nat) : Prop :=
  ∃ c, Raw h b c n dp ng (tr || decide (G % tn (e + 800 - max t 800) ≠ 0)) ∧ (∀ i, i < r → c i = ((48 + dg F i : Nat) : Int)) ∧ ∀ i, t ≤ i → i < n + e → i < 800 → c i = ((48 + G / tn (e + 799 - i) % 10 : Nat) : Int)
theorem LS.put {G e n r t : Nat} (L : LS h b F G e n dp ng tr r t) (h0 : 0 < t) (ht : t - 1 < 800) {r' : Nat} (hr' : r' ≤ r) (hrt : r' ≤ t - 1) : LS (hset h b (t - 1) (.int .u8 ((48 + G / tn (e + 800 - t) % 10 : Nat) : Int))) b F G e n dp ng tr r' (t - 1) := by
  obtain ⟨c, w, h1, h2⟩ := L
  have w2 := w.setD ht ((48 + G / tn (e + 800 - t) % 10 : Nat) : Int)
  rw [show max t 800 = max (t - 1) 800 by omega] at w2
  refine ⟨_, w2, fun i hi => ?_, fun i hi1 hi2 hi3 => ?_⟩
  · show (if i = t - 1 then _ else c i) = _
    rw [if_neg (by omega)]; exact h1 i (by omega)
  · show (if i = t - 1 then _ else c i) = _
    split
    · rename_i e1; rw [e1, show e + 799 - (t - 1) = e + 800 - t by omega]
    · exact h2 i (by omega) hi2 hi3
theorem LS.drop {G e n r t : Nat} (L : LS h b F G e n dp ng tr r t) (h0 : 0 < t) (ht : 800 ≤ t - 1) (hte : t ≤ 800 + e) {r' : Nat} (hr' : r' ≤ r) :
    (G / tn (e + 800 - t) % 10 ≠ 0 → LS (hset h b 803 (.bool true)) b F G e n dp ng tr r' (t - 1)) ∧ (G / tn (e + 800 - t) % 10 = 0 → LS h b F G e n dp ng tr r' (t - 1)) := by
  obtain ⟨c, w, h1, h2⟩ := L
  have hm := mod_up G (e + 800 - t)
  rw [show max t 800 = t by omega] at w
  have hT := tn_pos (e + 800 - t)
  constructor
  · intro hq
    have e1 : (tr || decide (G % tn (e + 800 - max (t - 1) 800) ≠ 0)) = true := by
      rw [show e + 800 - max (t - 1) 800 = e + 800 - t + 1 by omega, hm, decide_eq_true, Bool.or_true]
      have := Nat.mul_pos (Nat.pos_of_ne_zero hq) hT
      omega
    refine ⟨c, by rw [e1]; exact w.setT true, fun i hi => h1 i (by omega), fun i hi1 hi2 hi3 => by omega⟩
  · intro hq
    refine ⟨c, ?_, fun i hi => h1 i (by omega), fun i hi1 hi2 hi3 => by omega⟩
    rw [show e + 800 - max (t - 1) 800 = e + 800 - t + 1 by omega, hm, hq, Nat.zero_mul, Nat.zero_add]; exact w
end Go.Proofs.YtfjflbapojgbhaaGreatDoor.N

/- The slow fallback: leftShift. Conditions: none. -/
namespace Go.Proofs.YtfjflbapojgbhaaGreatDoor.N
open Go.X Go.Proofs.YtfjflbapojgbhaaGreatDoor
set_option maxRecDepth 100000
set_option maxHeartbeats 1000000

variable {h : Heap} {b F : Nat} {dp : Int} {ng tr : Bool}
theorem w64n {a : Nat} (h : a < 18446744073709551616) : IntKind.u64.wrap (a : Int) = (a : Int) := wrapU' h
theorem w8d {a : Nat} (h : a < 10) : IntKind.u8.wrap (IntKind.u64.wrap ((a : Int) + (48 : Int))) = ((48 + a : Nat) : Int) := by
  rw [IntKind.wrap_u64, IntKind.wrap_u8]; omega
theorem td10 (a : Nat) : Int.tdiv (a : Int) 10 = ((a / 10 : Nat) : Int) := by rw [Int.tdiv_eq_ediv_of_nonneg (by omega)]; omega
theorem rem10 {a : Nat} (h : a < 18446744073709551616) : IntKind.u64.wrap ((a : Int) - (IntKind.u64.wrap ((10 : Int) * ((a / 10 : Nat) : Int)))) = ((a % 10 : Nat) : Int) := by
  rw [IntKind.wrap_u64, IntKind.wrap_u64]; omega
theorem p60 {k : Nat} (h : k ≤ 60) : 2 ^ k ≤ 1152921504606846976 := Nat.pow_le_pow_right (n := 2) (by decide) h
/-- n += (d - 48) << k -/
theorem acc_ok {n d k : Nat} (hn : n < 2 ^ k) (hd : d < 10) (hk : k ≤ 60) : IntKind.u64.wrap ((n : Int) + (IntKind.u64.wrap ((IntKind.u64.wrap ((IntKind.u64.wrap ((48 + d : Nat) : Int)) - (48 : Int))) * 2 ^ (min (Int.toNat (k : Int)) 64)))) = ((n + d * 2 ^ k : Nat) : Int) := by
  rw [show min (Int.toNat (k : Int)) 64 = k by omega]
  have hp := p60 hk
  have h2 : d * 2 ^ k ≤ 9 * 2 ^ k := Nat.mul_le_mul_right _ (by omega)
  have e1 : IntKind.u64.wrap ((IntKind.u64.wrap ((48 + d : Nat) : Int)) - (48 : Int)) = (d : Int) := by rw [w64n (by omega), IntKind.wrap_u64]; omega
  have e2 : (d : Int) * 2 ^ k = ((d * 2 ^ k : Nat) : Int) := by rw [Int.natCast_mul, Int.natCast_pow]; rfl
  rw [e1, e2, w64n (by omega), ← Int.natCast_add, w64n (by omega)]
theorem acc_lt {n d k : Nat} (hn : n < 2 ^ k) (hd : d < 10) (hk : k ≤ 60) : n + d * 2 ^ k < 18446744073709551616 := by
  have hp := p60 hk
  have h2 : d * 2 ^ k ≤ 9 * 2 ^ k := Nat.mul_le_mul_right _ (by omega)
  omega
theorem left_ok {n k : Nat} {gl : GL} (hk1 : 1 ≤ k) (hk : k ≤ 60) (g : Gl gl h) (hdp : -1000000 ≤ dp ∧ dp ≤ 1000000) (r : Rep h b F n dp ng tr) : CallsH Tryz.prog 108 #[pt b, .int .u64 (k : Int)] h fun v h' =>
    Fr [b] h h' ∧ v = .tuple #[] ∧ ∃ m, Rep h' b (scF (2 ^ k) F) m (dp + exE (F * 2 ^ k)) ng (tr || scT (2 ^ k) F) ∧ Trim (scF (2 ^ k) F) m := by
  obtain ⟨x, s, C⟩ := cheat hk1 hk
  have hle := r.le
  have hpos := r.pos
  have hF := r.full
  have hsk := C.le
  have hx := C.x
  have hsp := C.pos
  have hc2 : 0 < 2 ^ k := Nat.pow_pos (by decide)
  have hG : tn 799 ≤ F * 2 ^ k := Nat.le_trans hF.1 (Nat.le_mul_of_pos_right _ hc2)
  obtain ⟨hG1, hG2⟩ := exE_ok hG
  have hde := delta_ok C hF hk
  have hfull := hF.sc hc2
  have hdvd : tn (800 - n) ∣ F * 2 ^ k := Nat.dvd_trans r.dvd ⟨_, rfl⟩
  obtain ⟨e, he⟩ : ∃ e, e = exE (F * 2 ^ k) := ⟨_, rfl⟩
  obtain ⟨G, hGe⟩ : ∃ G, G = F * 2 ^ k := ⟨_, rfl⟩
  have hsc : scF (2 ^ k) F = G / tn e := by unfold scF; rw [hGe, he]
  have hscT : scT (2 ^ k) F = decide (G % tn e ≠ 0) := by unfold scT; rw [hGe, he]
  rw [← he] at hG1 hG2 hde ⊢
  rw [← hGe] at hG1 hG2 hdvd
  rw [hsc] at hfull ⊢
  rw [hscT]
  have he61 : e ≤ 61 := by
    split at hde <;> omega
  apply calls108
  unfold S108
  have t1 : hcell h gl.lb (gl.lo + (Int.toNat (k : Int)) * 2) = some (.int .i64 x) := (g.l k _ C.at_).1
  have t2 : hcell h gl.lb ((gl.lo + (Int.toNat (k : Int)) * 2) + 1) = some (.string s) := (g.l k _ C.at_).2
  have hk61 : (k : Int) < ((61 : Nat) : Int) := by omega
  obtain ⟨c0, w0, hc0⟩ := r.raw
  refine ⟨_, _, _, g.l0, gl.lb, gl.lo, rfl, by omega, hk61, x, t1, b, 0, rfl, b, 0, rfl, _, w0.nd, by omega, by omega, by omega, by omega, _, _, _, g.l0, gl.lb, gl.lo, rfl, by omega, hk61, s, t2, ?_⟩
  refine callX_nil (less_ok hk C r) ?_
  rintro _ hv f ⟨rfl, rfl⟩
  refine ⟨_, rfl, Fr.refl _ _, fun lz hv' => lz = [.int .i64 (e : Int)] ∧ hv' = hv, ?_, ?_⟩
  · refine cnd_dec (fun hp => ?_) fun hp => ?_
    · rw [if_pos hp] at hde
      refine ⟨?_, rfl⟩
      rw [wr (by omega) (by omega), hde]
    · rw [if_neg hp] at hde
      exact ⟨by rw [hde], rfl⟩
  rintro d0 hv2 ⟨e1, rfl⟩
  simp only [List.cons.injEq, Value.int.injEq, true_and, and_true] at e1
  subst e1
  clear hde t1 t2
  -- the first loop
  refine ⟨b, 0, rfl, _, w0.nd, b, 0, rfl, _, w0.nd, fun lz hv => ∃ r : Nat, r ≤ n ∧ lz = [.int .i64 ((r : Int) - 1), .int .i64 ((r + e : Nat) : Int), .int .u64 ((carry F k r : Nat) : Int)] ∧ Fr [b] hv2 hv ∧ LS hv b F G e n dp ng tr r (r + e), fun lz _ => match lz with
    | [.int _ i, _, _] => (i + 1).toNat
    | _ => 0, ⟨n, Nat.le_refl _, ?_, Fr.refl _ _, c0, ?_, hc0, fun i h1 h2 => by omega⟩, ?_⟩
  · have e0 : carry F k n = 0 := by unfold carry; rw [Nat.mod_eq_zero_of_dvd r.dvd, Nat.zero_mul, Nat.zero_div]
    rw [e0, wr (by omega) (by omega), wr (by omega) (by omega), ← Int.natCast_add]; rfl
  · have e0 : G % tn (e + 800 - max (n + e) 800) = 0 := by
      by_cases hne : 800 ≤ n + e
      · rw [show e + 800 - max (n + e) 800 = 800 - n by omega]; exact Nat.mod_eq_zero_of_dvd hdvd
      · rw [show e + 800 - max (n + e) 800 = e by omega]; exact dvd_mod hdvd (by omega)
    rw [e0]; simp only [ne_eq, not_true_eq_false, decide_false, Bool.or_false]; exact w0
  rintro i0 i1 i2 hv3 ⟨r', hr', e1, f3, L⟩
  simp only [List.cons.injEq, Value.int.injEq, true_and, and_true] at e1
  obtain ⟨rfl, rfl, rfl⟩ := e1
  refine cnd_dec (fun h1 => ?_) fun h1 => ?_
  · have hr0 : 0 < r' := by omega
    have hlt := carry_lt F k r'
    have hd := dg_lt F (r' - 1)
    obtain ⟨q1, q2⟩ := carry_step (F := F) (k := k) hr0 (by omega)
    rw [← hGe] at q1
    have L0 := L
    obtain ⟨c, w, L1, L2⟩ := L
    have hce : hcell hv3 b (0 + (Int.toNat ((r' : Int) - 1)) * 1) = some (.int .u8 ((48 + dg F (r' - 1) : Nat) : Int)) := by
      rw [at1 (i := r' - 1) (by omega), ← L1 _ (by omega)]; exact w.cell _ (by omega)
    refine ⟨b, 0, rfl, by omega, by omega, _, hce, by omega, by decide, fun _ hv' => Fr [b] hv2 hv' ∧ LS hv' b F G e n dp ng tr (r' - 1) (r' + e - 1), ?_, ?_⟩
    · rw [acc_ok hlt hd hk, td10, w64n (by have := acc_lt hlt hd hk; omega), rem10 (acc_lt hlt hd hk), q1]
      have ew : IntKind.i64.wrap (((r' + e : Nat) : Int) - (1 : Int)) = ((r' + e - 1 : Nat) : Int) := by rw [wr (by omega) (by omega)]; omega
      rw [ew]
      have ei : 800 - r' = e + 800 - (r' + e) := by omega
      rw [ei]
      refine cnd_dec (fun h2 => ?_) fun h2 => ?_
      · refine ⟨b, 0, rfl, by omega, by omega, ?_⟩
        rw [at1 rfl, w8d (Nat.mod_lt _ (by decide))]
        refine ⟨⟨_, w.cell _ (by omega)⟩, w.free _ (by omega), fr2 f3 _ _, ?_⟩
        exact L0.put (by omega) (by omega) (by omega) (by omega)
      · refine ⟨fun _ hv' => Fr [b] hv2 hv' ∧ LS hv' b F G e n dp ng tr (r' - 1) (r' + e - 1), ?_, fun hv' h => h⟩
        obtain ⟨d1, d2⟩ := L0.drop (r' := r' - 1) (by omega) (by omega) (by omega) (by omega)
        refine cnd_ne (fun h3 => ?_) fun h3 => ⟨f3, d2 (by omega)⟩
        exact ⟨b, 0, rfl, ⟨_, w.tr⟩, w.free 803 (by decide), fr2 f3 _ _, d1 (by omega)⟩
    · rintro hv7 ⟨f7, L7⟩
      rw [acc_ok hlt hd hk, td10, w64n (by have := acc_lt hlt hd hk; omega), q2]
      refine ⟨⟨r' - 1, by omega, ?_, f7, ?_⟩, ?_⟩
      · rw [wr (by omega) (by omega), wr (by omega) (by omega)]
        rw [show ((r' : Int) - 1 - 1) = ((r' - 1 : Nat) : Int) - 1 by omega, show ((r' + e : Nat) : Int) - 1 = ((r' - 1 + e : Nat) : Int) by omega]
      · rw [show r' - 1 + e = r' + e - 1 by omega]; exact L7
      · rw [wr (by omega) (by omega)]; (try dsimp only); omega
  · -- the second loop
    obtain rfl : r' = 0 := by omega
    have hca : carry F k 0 = G / tn 800 := by
      unfold carry
      rw [Nat.sub_zero, Nat.mod_eq_of_lt hF.2, hGe]
    have hlt := carry_lt F k 0
    rw [hca] at hlt ⊢
    have hp := p60 hk
    refine ⟨fun lz hv => ∃ t : Nat, t ≤ e ∧ lz = [.int .i64 (t : Int), .int .u64 ((G / tn (800 + e - t) : Nat) : Int)] ∧ Fr [b] hv2 hv ∧ LS hv b F G e n dp ng tr 0 t, fun lz _ => match lz with
      | [.int _ i, _] => i.toNat
      | _ => 0, ⟨e, Nat.le_refl _, ?_, f3, ?_⟩, ?_⟩
    · rw [show 800 + e - e = 800 by omega, Nat.zero_add]
    · rw [Nat.zero_add] at L; exact L
    rintro j0 j1 hv8 ⟨t, ht, e1, f8, L8⟩
    simp only [List.cons.injEq, Value.int.injEq, true_and, and_true] at e1
    obtain ⟨rfl, rfl⟩ := e1
    have hv64 : G / tn (800 + e - t) < 1152921504606846976 := by
      refine Nat.lt_of_le_of_lt (Nat.div_le_div_left (tn_le (by omega : 800 ≤ 800 + e - t)) (tn_pos _)) ?_
      omega
    have L0 := L8
    obtain ⟨c, w, L1, L2⟩ := L8
    refine cnd_dec (fun h2 => ?_) fun h2 => ?_
    · have ht0 : 0 < t := by
        rcases Nat.eq_zero_or_pos t with h0 | h0
        · rw [h0, Nat.sub_zero, Nat.div_eq_of_lt hG2] at h2; exact absurd h2 (by decide)
        · exact h0
      have ew : IntKind.i64.wrap ((t : Int) - (1 : Int)) = ((t - 1 : Nat) : Int) := by rw [wr (by omega) (by omega)]; omega
      refine ⟨by decide, fun _ hv' => Fr [b] hv2 hv' ∧ LS hv' b F G e n dp ng tr 0 (t - 1), ?_, ?_⟩
      · rw [td10, w64n (by omega), rem10 (by omega), ew]
        rw [show 800 + e - t = e + 800 - t by omega]
        refine cnd_dec (fun h3 => ?_) fun h3 => absurd (show ((t - 1 : Nat) : Int) < 800 by omega) h3
        refine ⟨b, 0, rfl, by omega, by omega, ?_⟩
        rw [at1 rfl, w8d (Nat.mod_lt _ (by decide))]
        refine ⟨⟨_, w.cell _ (by omega)⟩, w.free _ (by omega), fr2 f8 _ _, ?_⟩
        exact L0.put (by omega) (by omega) (by omega) (by omega)
      · rintro hv12 ⟨f12, L12⟩
        rw [td10, w64n (by omega), ew]
        refine ⟨⟨t - 1, by omega, ?_, f12, L12⟩, ?_⟩
        · rw [show 800 + e - (t - 1) = 800 + e - t + 1 by omega, tn_succ, Nat.div_div_eq_div_mul]
        · (try dsimp only); omega
    · have hG0 : G / tn (800 + e - t) = 0 := by clear hv64; generalize G / tn (800 + e - t) = z at h2 ⊢; omega
      obtain rfl : t = 0 := by
        have a : G < tn (800 + e - t) := by
          rcases Nat.div_eq_zero_iff.1 hG0 with h | h
          · exact absurd (tn_pos (800 + e - t)) (by omega)
          · exact h
        have := tn_lt (Nat.lt_of_le_of_lt hG1 a)
        omega
      clear hG0 h2
      refine ⟨b, 0, rfl, _, w.nd, b, 0, rfl, ⟨_, w.nd⟩, w.free 800 (by decide), ?_⟩
      rw [wr (by omega) (by omega), ← Int.natCast_add]
      intro hv13
      have w13 : Raw hv13 b c ((n + e : Nat) : Int) dp ng _ := w.setN _
      have f13 : Fr [b] hv2 hv13 := fr2 f8 _ _
      clear_value hv13
      refine ⟨b, 0, rfl, _, w13.nd, fun _ hv' => Fr [b] hv2 hv' ∧ Raw hv' b c ((min (n + e) 800 : Nat) : Int) dp ng (tr || decide (G % tn e ≠ 0)), ?_, ?_⟩
      · rw [show e + 800 - max 0 800 = e by omega] at w13
        refine cnd_dec (fun h4 => ?_) fun h4 => ⟨f13, by rw [Nat.min_eq_left (by omega)]; exact w13⟩
        refine ⟨b, 0, rfl, ⟨_, w13.nd⟩, w13.free 800 (by decide), fr2 f13 _ _, ?_⟩
        have := w13.setN 800
        rw [Nat.min_eq_right (by omega)]; exact this
      rintro hv15 ⟨f15, w15⟩
      refine ⟨b, 0, rfl, _, w15.dp, b, 0, rfl, ⟨_, w15.dp⟩, w15.free 801 (by decide), ?_⟩
      rw [wr (by omega) (by omega)]
      intro hv16
      have w16 : Raw hv16 b c _ (dp + e) ng _ := w15.setP _
      have f16 : Fr [b] hv2 hv16 := fr2 f15 _ _
      clear_value hv16
      have R : Rep hv16 b (G / tn e) (min (n + e) 800) (dp + e) ng (tr || decide (G % tn e ≠ 0)) := by
        refine ⟨⟨c, w16, fun i hi => ?_⟩, by omega, ?_, hfull⟩
        · rw [L2 i (by omega) (by omega) (by omega)]
          unfold dg
          rw [Nat.div_div_eq_div_mul, ← tn_add, show e + (799 - i) = e + 799 - i by omega]
        · by_cases hne : 800 ≤ n + e
          · rw [show 800 - min (n + e) 800 = 0 by omega, tn_zero]; exact Nat.one_dvd _
          · obtain ⟨y, hy⟩ := hdvd
            rw [hy, show 800 - n = (800 - min (n + e) 800) + e by omega, tn_add, show tn (800 - min (n + e) 800) * tn e * y = tn (800 - min (n + e) 800) * y * tn e by ac_rfl, Nat.mul_div_cancel _ (tn_pos _)]
            exact ⟨y, rfl⟩
      refine callX_of [b] (R := fun v h' => v = .tuple #[] ∧ ∃ m, Rep h' b (G / tn e) m (dp + e) ng (tr || decide (G % tn e ≠ 0)) ∧ Trim (G / tn e) m) (trim_ok R) (by simp) ?_
      rintro _ hv17 f17 ⟨rfl, q⟩
      exact ⟨rfl, f16.trans f17, rfl, q⟩
end Go.Proofs.YtfjflbapojgbhaaGreatDoor.N

/- The slow fallback: rightShift. Conditions: none. -/
namespace Go.Proofs.YtfjflbapojgbhaaGreatDoor.N
open Go.X Go.Proofs.YtfjflbapojgbhaaGreatDoor
set_option maxRecDepth 100000
set_option maxHeartbeats 1000000
set_option linter.unusedVariables false

variable {h : Heap} {b F : Nat} {dp : Int} {ng tr : Bool}
/-- The first r places. -/
def Nr (F r : Nat) : Nat := F * tn r / tn 800
theorem Nr_le {F r : Nat} (hr : r ≤ 800) : Nr F r = F / tn (800 - r) := by
  unfold Nr
  rw [tn_split hr, Nat.mul_div_mul_right _ _ (tn_pos _)]
theorem Nr_old {F r : Nat} (hr : r < 800) : Nr F (r + 1) = 10 * Nr F r + dg F r := by
  rw [Nr_le (by omega), Nr_le (by omega)]
  have := dig_up F (800 - r) (by omega)
  rw [show 800 - r - 1 = 800 - (r + 1) by omega] at this
  unfold dg
  rw [show 799 - r = 800 - (r + 1) by omega]
  exact this
theorem Nr_eq {F n r : Nat} (hn : n ≤ 800) (hr : n ≤ r) (hd : tn (800 - n) ∣ F) : Nr F r = F / tn (800 - n) * tn (r - n) := by
  obtain ⟨y, hy⟩ := hd
  unfold Nr
  have e : tn (800 - n) * y * tn r = y * tn (r - n) * tn 800 := by
    rw [tn_split hr, show tn 800 = tn (800 - n) * tn n from tn_split hn]; ac_rfl
  rw [hy, e, Nat.mul_div_cancel _ (tn_pos _), Nat.mul_div_cancel_left _ (tn_pos _)]
theorem Nr_new {F n r : Nat} (hn : n ≤ 800) (hr : n ≤ r) (hd : tn (800 - n) ∣ F) : Nr F (r + 1) = 10 * Nr F r := by
  rw [Nr_eq hn hr hd, Nr_eq hn (by omega) hd, show r + 1 - n = (r - n) + 1 by omega, tn_succ]; ac_rfl
theorem Nr_step {F n j : Nat} (hn : n ≤ 800) (hd : tn (800 - n) ∣ F) : ∃ d, d < 10 ∧ Nr F (j + 1) = 10 * Nr F j + d := by
  by_cases h : j < n
  · exact ⟨dg F j, dg_lt _ _, Nr_old (by omega)⟩
  · exact ⟨0, by decide, Nr_new hn (by omega) hd⟩
theorem Nr_zero {F : Nat} (hF : Full F) : Nr F 0 = 0 := by unfold Nr; rw [tn_zero, Nat.mul_one]; exact Nat.div_eq_of_lt hF.2
theorem Nr_pos {F j : Nat} (hF : Full F) (hj : 1 ≤ j) : tn (j - 1) ≤ Nr F j := by
  unfold Nr
  rw [Nat.le_div_iff_mul_le (tn_pos _), ← tn_add, show j - 1 + 800 = 799 + j by omega, tn_add]
  exact Nat.mul_le_mul_right _ hF.1
theorem Nr_G {F j k : Nat} (hj : j ≤ 800 + k) : Nr F j / 2 ^ k = F * 5 ^ k / tn (800 + k - j) := by
  unfold Nr
  have h5 : 0 < 5 ^ k := Nat.pow_pos (by decide)
  rw [Nat.div_div_eq_div_mul, ← Nat.mul_div_mul_right _ _ h5]
  have e1 : tn 800 * 2 ^ k * 5 ^ k = tn (800 + k - j) * tn j := by
    rw [Nat.mul_assoc, Nat.mul_comm (2 ^ k), ← tn_two, ← tn_add, ← tn_add]; congr 1; omega
  rw [e1, show F * tn j * 5 ^ k = F * 5 ^ k * tn j by ac_rfl, Nat.mul_div_mul_right _ _ (tn_pos _)]
theorem Nr_ex {F r k : Nat} (hF : Full F) (hr : 1 ≤ r) (hr2 : r ≤ 800 + k) (h1 : 2 ^ k ≤ Nr F r) (h2 : Nr F (r - 1) < 2 ^ k) : exE (F * 5 ^ k) = k + 1 - r ∧ r ≤ k + 1 := by
  have hp : 0 < 2 ^ k := Nat.pow_pos (by decide)
  have a : 1 ≤ F * 5 ^ k / tn (800 + k - r) := by
    rw [← Nr_G hr2, Nat.le_div_iff_mul_le hp, Nat.one_mul]; exact h1
  rw [Nat.le_div_iff_mul_le (tn_pos _), Nat.one_mul] at a
  have c : F * 5 ^ k / tn (800 + k - (r - 1)) = 0 := by rw [← Nr_G (by omega)]; exact Nat.div_eq_of_lt h2
  have c2 : F * 5 ^ k < tn (800 + k - (r - 1)) := by
    rcases Nat.div_eq_zero_iff.1 c with h | h
    · exact absurd (tn_pos (800 + k - (r - 1))) (by omega)
    · exact h
  have hG : tn 799 ≤ F * 5 ^ k := Nat.le_trans hF.1 (Nat.le_mul_of_pos_right _ (Nat.pow_pos (by decide)))
  have := tn_lt (Nat.lt_of_le_of_lt hG c2)
  have hr3 : r ≤ k + 1 := by omega
  refine ⟨exE_eq ?_ ?_, hr3⟩
  · rw [show 799 + (k + 1 - r) = 800 + k - r by omega]; exact a
  · rw [show 800 + (k + 1 - r) = 800 + k - (r - 1) by omega]; exact c2
theorem Nr_20 {F r k : Nat} (hF : Full F) (hk : k ≤ 60) (h : Nr F r < 2 ^ k) : r ≤ 19 := by
  by_cases h0 : r = 0
  · omega
  have a := Nr_pos hF (show 1 ≤ r by omega)
  have p := p60 hk
  have b : tn (r - 1) < tn 19 := by
    have : tn 19 = 10000000000000000000 := by decide
    omega
  have := tn_lt b
  omega
/-- What is at hand ahead of the j-th place. -/
def NN (F k j : Nat) : Nat := Nr F j - 10 * 2 ^ k * (Nr F (j - 1) / 2 ^ k)
theorem NN_fact {F k j d : Nat} (hd : d < 10) (hs : Nr F (j + 1) = 10 * Nr F j + d) : NN F k (j + 1) = 10 * (Nr F j % 2 ^ k) + d ∧ NN F k (j + 1) < 10 * 2 ^ k ∧ NN F k (j + 1) / 2 ^ k = Nr F (j + 1) / 2 ^ k % 10 ∧ NN F k (j + 1) % 2 ^ k = Nr F (j + 1) % 2 ^ k := by
  unfold NN
  rw [show j + 1 - 1 = j by omega, hs]
  have hp : 0 < 2 ^ k := Nat.pow_pos (by decide)
  have hm := Nat.div_add_mod (Nr F j) (2 ^ k)
  have hl := Nat.mod_lt (Nr F j) hp
  generalize 2 ^ k = p at *
  generalize Nr F j % p = ρ at *
  generalize Nr F j / p = q at *
  have e : 10 * Nr F j + d = 10 * ρ + d + p * (10 * q) := by rw [← hm, Nat.mul_add, show 10 * (p * q) = p * (10 * q) by ac_rfl]; omega
  have e2 : 10 * p * q = p * (10 * q) := by ac_rfl
  rw [e, e2, Nat.add_sub_cancel]
  have hlt : 10 * ρ + d < 10 * p := by omega
  refine ⟨rfl, hlt, ?_, ?_⟩
  · rw [Nat.add_mul_div_left _ _ hp]
    have : (10 * ρ + d) / p < 10 := by rw [Nat.div_lt_iff_lt_mul hp]; exact hlt
    generalize (10 * ρ + d) / p = z at this ⊢
    clear e e2 hs hm
    omega
  · rw [Nat.add_mul_mod_self_left]
theorem and_mask {k a : Nat} (hk : k ≤ 60) (ha : a < 18446744073709551616) : bits .and .u64 (a : Int) (IntKind.u64.wrap ((IntKind.u64.wrap ((1 : Int) * 2 ^ k)) - (1 : Int))) = ((a % 2 ^ k : Nat) : Int) := by
  have hp := p60 hk
  have h0 : 0 < 2 ^ k := Nat.pow_pos (by decide)
  have e1 : (1 : Int) * 2 ^ k = ((2 ^ k : Nat) : Int) := by rw [Int.one_mul, Int.natCast_pow]; rfl
  have e2 : IntKind.u64.wrap (((2 ^ k : Nat) : Int) - (1 : Int)) = ((2 ^ k - 1 : Nat) : Int) := by
    generalize 2 ^ k = p at *
    rw [IntKind.wrap_u64]; omega
  rw [e1, w64n (by omega), e2]
  have : bits .and .u64 (a : Int) ((2 ^ k - 1 : Nat) : Int) = ((a &&& (2 ^ k - 1) : Nat) : Int) := bits_and_u64_nat a (2 ^ k - 1) ha (by omega)
  rw [this, Nat.and_two_pow_sub_one_eq_mod]
theorem acc10 {n d : Nat} (hn : n < 1152921504606846976) (hd : d < 10) : IntKind.u64.wrap ((IntKind.u64.wrap ((IntKind.u64.wrap ((n : Int) * (10 : Int))) + (IntKind.u64.wrap ((48 + d : Nat) : Int)))) - (48 : Int)) = ((10 * n + d : Nat) : Int) := by
  have e1 : (n : Int) * 10 = ((10 * n : Nat) : Int) := by omega
  rw [e1, w64n (by omega), w64n (by omega), ← Int.natCast_add, w64n (by omega), IntKind.wrap_u64]
  omega
end Go.Proofs.YtfjflbapojgbhaaGreatDoor.N

/- The slow fallback: rightShift. Conditions: none. -/
namespace Go.Proofs.YtfjflbapojgbhaaGreatDoor.N
open Go.X Go.Proofs.YtfjflbapojgbhaaGreatDoor
set_option maxRecDepth 100000
set_option maxHeartbeats 1000000
set_option linter.unusedVariables false

variable {h : Heap} {b F : Nat} {dp : Int} {ng tr : Bool}
/-- Where rightShift stands: j places are taken in, j - r put down. -/
def RS2 (h : Heap) (b F G e n k r : Nat) (dp : Int) (ng tr : Bool) (j : Nat) : Prop :=
  ∃ c, Raw h b c n dp ng (tr || decide (G / tn (e + 800 - (j - r)) % tn (j - r - 800) ≠ 0)) ∧ (∀ i, i < j - r → i < 800 → c i = ((48 + G / tn (e + 799 - i) % 10 : Nat) : Int)) ∧ ∀ i, j ≤ i → i < n → c i = ((48 + dg F i : Nat) : Int)
theorem RS2.put {G e n k r j : Nat} (L : RS2 h b F G e n k r dp ng tr j) (hr : 1 ≤ r) (hj : r ≤ j) (hw : j - r < 800) : RS2 (hset h b (j - r) (.int .u8 ((48 + G / tn (e + 799 - (j - r)) % 10 : Nat) : Int))) b F G e n k r dp ng tr (j + 1) := by
  obtain ⟨c, w, h1, h2⟩ := L
  have w2 := w.setD hw ((48 + G / tn (e + 799 - (j - r)) % 10 : Nat) : Int)
  have e1 : j - r - 800 = 0 := by omega
  have e2 : j + 1 - r - 800 = 0 := by omega
  rw [e1, tn_zero, Nat.mod_one] at w2
  refine ⟨_, by rw [e2, tn_zero, Nat.mod_one]; exact w2, fun i hi hi2 => ?_, fun i hi1 hi2 => ?_⟩
  · show (if i = j - r then _ else c i) = _
    split
    · rename_i e3; rw [e3]
    · exact h1 i (by omega) hi2
  · show (if i = j - r then _ else c i) = _
    rw [if_neg (by omega)]; exact h2 i (by omega) hi2
theorem RS2.drop {G e n k r j : Nat} (L : RS2 h b F G e n k r dp ng tr j) (hj : r ≤ j) (hw : 800 ≤ j - r) (hje : j - r ≤ e + 799) :
    (0 < G / tn (e + 799 - (j - r)) % 10 → RS2 (hset h b 803 (.bool true)) b F G e n k r dp ng tr (j + 1)) ∧ (G / tn (e + 799 - (j - r)) % 10 = 0 → RS2 h b F G e n k r dp ng tr (j + 1)) := by
  obtain ⟨c, w, h1, h2⟩ := L
  have e1 : j + 1 - r - 800 = j - r - 800 + 1 := by omega
  have e2 : e + 800 - (j + 1 - r) = e + 799 - (j - r) := by omega
  have e3 : G / tn (e + 800 - (j - r)) = G / tn (e + 799 - (j - r)) / 10 := by
    rw [Nat.div_div_eq_div_mul, ← tn_succ]; congr 2; omega
  rw [e3] at w
  have hm : G / tn (e + 799 - (j - r)) % tn (j - r - 800 + 1) = G / tn (e + 799 - (j - r)) % 10 + 10 * (G / tn (e + 799 - (j - r)) / 10 % tn (j - r - 800)) := by
    rw [tn_succ, Nat.mul_comm, Nat.mod_mul]
  constructor
  · intro hq
    have e4 : (tr || decide (G / tn (e + 800 - (j + 1 - r)) % tn (j + 1 - r - 800) ≠ 0)) = true := by
      rw [e1, e2, hm, decide_eq_true, Bool.or_true]; omega
    exact ⟨c, by rw [e4]; exact w.setT true, fun i hi hi2 => h1 i (by omega) hi2, fun i hi1 hi2 => h2 i (by omega) hi2⟩
  · intro hq
    have e4 : decide (G / tn (e + 800 - (j + 1 - r)) % tn (j + 1 - r - 800) ≠ 0) = decide (G / tn (e + 799 - (j - r)) / 10 % tn (j - r - 800) ≠ 0) := by
      rw [e1, e2, hm, hq, decide_eq_decide]; omega
    exact ⟨c, by rw [e4]; exact w, fun i hi hi2 => h1 i (by omega) hi2, fun i hi1 hi2 => h2 i (by omega) hi2⟩
theorem and10 {k a : Nat} (hk : k ≤ 60) (ha : a < 18446744073709551616) : IntKind.u64.wrap ((bits .and .u64 (a : Int) (IntKind.u64.wrap ((IntKind.u64.wrap ((1 : Int) * 2 ^ k)) - (1 : Int)))) * (10 : Int)) = ((10 * (a % 2 ^ k) : Nat) : Int) := by
  rw [and_mask hk ha]
  have hp := p60 hk
  have := Nat.mod_lt a (show 0 < 2 ^ k from Nat.pow_pos (by decide))
  rw [show ((a % 2 ^ k : Nat) : Int) * 10 = ((10 * (a % 2 ^ k) : Nat) : Int) by omega]
  exact w64n (by omega)
theorem right_ok {n k : Nat} (hk1 : 1 ≤ k) (hk : k ≤ 60) (hdp : -1000000 ≤ dp ∧ dp ≤ 1000000) (r0 : Rep h b F n dp ng tr) : CallsH Tryz.prog 109 #[pt b, .int .u64 (k : Int)] h fun v h' =>
    Fr [b] h h' ∧ v = .tuple #[] ∧ ∃ m, Rep h' b (scF (5 ^ k) F) m (dp + exE (F * 5 ^ k) - k) ng (tr || scT (5 ^ k) F) ∧ Trim (scF (5 ^ k) F) m := by
  have hle := r0.le
  have hpos := r0.pos
  have hF := r0.full
  have hp := p60 hk
  have hc2 : 0 < 2 ^ k := Nat.pow_pos (by decide)
  have h64 : ∀ {a : Nat}, a < 2 ^ k → a < 1152921504606846976 := fun h => by omega
  have zero : ∀ a : Nat, ((Int.fdiv (a : Int) (2 ^ k)) == (0 : Int)) = decide (a < 2 ^ k) := fun a => by
    rw [shr, Bool.eq_iff_iff, beq_iff_eq, decide_eq_true_iff]
    constructor
    · intro e
      rcases Nat.div_eq_zero_iff.1 (show a / 2 ^ k = 0 by omega) with h | h
      · omega
      · exact h
    · intro h; rw [Nat.div_eq_of_lt h]; rfl
  apply calls109
  unfold S109
  rw [show min (Int.toNat (k : Int)) 64 = k by omega]
  obtain ⟨c0, w0, hc0⟩ := r0.raw
  refine ⟨fun lz hv => ∃ r : Nat, lz = [.int .i64 (r : Int), .int .u64 ((Nr F r : Nat) : Int)] ∧ hv = h ∧ 1 ≤ r ∧ 2 ^ k ≤ Nr F r ∧ Nr F (r - 1) < 2 ^ k, ?_, ?_⟩
  · -- the first places
    refine ⟨fun lz hv => ∃ r : Nat, lz = [.int .i64 (r : Int), .int .u64 ((Nr F r : Nat) : Int)] ∧ hv = h ∧ (1 ≤ r → Nr F (r - 1) < 2 ^ k), fun lz _ => match lz with
      | [.int _ _, .int _ n] => 2 ^ k - n.toNat
      | _ => 0, ⟨0, by rw [Nr_zero hF]; rfl, rfl, fun h => by omega⟩, ?_⟩
    rintro i0 i1 hv ⟨r, e1, rfl, h1⟩
    simp only [List.cons.injEq, Value.int.injEq, true_and, and_true] at e1
    obtain ⟨rfl, rfl⟩ := e1
    refine ⟨by omega, ?_⟩
    rw [zero]
    refine cnd_dec (fun hlt => ?_) fun hge => ?_
    · have h19 := Nr_20 hF hk hlt
      refine ⟨b, 0, rfl, _, w0.nd, cnd_dec (fun hr => ?_) fun hr => ?_⟩
      · have hpz : 1 ≤ Nr F r := Nat.le_trans (tn_pos _) (Nr_pos hF (by omega))
        refine cnd_eq (fun e0 => absurd e0 (by omega)) fun _ => ?_
        refine ⟨fun lz hv' => ∃ r : Nat, lz = [.int .i64 (r : Int), .int .u64 ((Nr F r : Nat) : Int)] ∧ hv' = hv ∧ n ≤ r ∧ (1 ≤ r → Nr F (r - 1) < 2 ^ k), fun lz _ => match lz with
          | [.int _ _, .int _ n] => 2 ^ k - n.toNat
          | _ => 0, ⟨r, rfl, rfl, by omega, h1⟩, ?_⟩
        rintro i0 i1 hv' ⟨r, e1, rfl, hnr, h1⟩
        simp only [List.cons.injEq, Value.int.injEq, true_and, and_true] at e1
        obtain ⟨rfl, rfl⟩ := e1
        refine ⟨by omega, ?_⟩
        rw [zero]
        refine cnd_dec (fun hlt => ?_) fun hge => ?_
        · have h19 := Nr_20 hF hk hlt
          have hpz : 1 ≤ Nr F r := Nat.le_trans (tn_pos _) (Nr_pos hF (by omega))
          have hn := Nr_new hle hnr r0.dvd
          have := h64 hlt
          have ev : IntKind.u64.wrap (((Nr F r : Nat) : Int) * (10 : Int)) = ((Nr F (r + 1) : Nat) : Int) := by
            rw [hn, show ((Nr F r : Nat) : Int) * 10 = ((10 * Nr F r : Nat) : Int) by omega]; exact w64n (by omega)
          have er : IntKind.i64.wrap ((r : Int) + (1 : Int)) = ((r + 1 : Nat) : Int) := by rw [wr (by omega) (by omega)]; omega
          rw [ev, er]
          refine ⟨⟨r + 1, rfl, rfl, by omega, fun _ => hlt⟩, ?_⟩
          (try dsimp only); omega
        · have : r ≠ 0 := by omega
          exact ⟨r, rfl, rfl, by omega, by omega, h1 (by omega)⟩
      · have hn := Nr_old (F := F) (r := r) (by omega)
        have := h64 hlt
        have hcell : hcell hv b (0 + (Int.toNat (r : Int)) * 1) = some (.int .u8 ((48 + dg F r : Nat) : Int)) := by
          rw [at1 rfl, ← hc0 r (by omega)]; exact w0.cell _ (by omega)
        refine ⟨b, 0, rfl, by omega, by omega, _, hcell, ?_⟩
        have er : IntKind.i64.wrap ((r : Int) + (1 : Int)) = ((r + 1 : Nat) : Int) := by rw [wr (by omega) (by omega)]; omega
        rw [acc10 this (dg_lt _ _), er, ← hn]
        refine ⟨⟨r + 1, rfl, rfl, fun _ => hlt⟩, ?_⟩
        (try dsimp only)
        by_cases h0 : r = 0
        · subst h0
          have hpz : 1 ≤ Nr F 1 := Nat.le_trans (tn_pos _) (Nr_pos hF (Nat.le_refl _))
          show 2 ^ k - Nr F (0 + 1) < 2 ^ k - Nr F 0
          rw [Nr_zero hF]
          have : 1 ≤ Nr F (0 + 1) := hpz
          omega
        · have hpz : 1 ≤ Nr F r := Nat.le_trans (tn_pos _) (Nr_pos hF (by omega))
          omega
    · have h0 : r ≠ 0 := by
        rintro rfl
        rw [Nr_zero hF] at hge; omega
      exact ⟨r, rfl, rfl, by omega, by omega, h1 (by omega)⟩
  rintro i0 i1 hv4 ⟨r, e1, rfl, hr1, hge, hlt⟩
  simp only [List.cons.injEq, Value.int.injEq, true_and, and_true] at e1
  obtain ⟨rfl, rfl⟩ := e1
  have h19 := Nr_20 hF hk hlt
  obtain ⟨hex, hrk⟩ := Nr_ex hF hr1 (by omega) hge hlt
  have hG : tn 799 ≤ F * 5 ^ k := Nat.le_trans hF.1 (Nat.le_mul_of_pos_right _ (Nat.pow_pos (by decide)))
  obtain ⟨hG1, hG2⟩ := exE_ok hG
  have hfull := hF.sc (c := 5 ^ k) (Nat.pow_pos (by decide))
  have hdvd : tn (800 - n) ∣ F := r0.dvd
  have hNG : ∀ j, j ≤ 800 + k → Nr F j / 2 ^ k = F * 5 ^ k / tn (800 + k - j) := fun j hj => Nr_G hj
  have hGF : F * 5 ^ k * 2 ^ k = F * tn k := by rw [tn_two, Nat.mul_assoc]
  obtain ⟨e, he⟩ : ∃ e, e = exE (F * 5 ^ k) := ⟨_, rfl⟩
  obtain ⟨G, hGe⟩ : ∃ G, G = F * 5 ^ k := ⟨_, rfl⟩
  have hsc : scF (5 ^ k) F = G / tn e := by unfold scF; rw [hGe, he]
  have hscT : scT (5 ^ k) F = decide (G % tn e ≠ 0) := by unfold scT; rw [hGe, he]
  rw [← he] at hG1 hG2 hex ⊢
  rw [← hGe] at hG1 hG2 hGF
  simp only [← hGe] at hNG
  rw [hsc] at hfull ⊢
  rw [hscT]
  have hre : r + e = k + 1 := by omega
  have hdig : ∀ j, r ≤ j → j ≤ n + k → NN F k j / 2 ^ k = G / tn (e + 799 - (j - r)) % 10 ∧ NN F k j < 10 * 2 ^ k := fun j hj1 hj2 => by
    obtain ⟨d, hd, hs⟩ := Nr_step (j := j - 1) hle hdvd
    obtain ⟨_, q2, q3, _⟩ := NN_fact (k := k) hd hs
    rw [show j - 1 + 1 = j by omega] at q2 q3
    refine ⟨?_, q2⟩
    rw [q3, hNG j (by omega), show e + 799 - (j - r) = 800 + k - j by omega]
  have hNr : NN F k r = Nr F r := by unfold NN; rw [Nat.div_eq_of_lt hlt, Nat.mul_zero, Nat.sub_zero]
  refine ⟨b, 0, rfl, _, w0.dp, b, 0, rfl, ⟨_, w0.dp⟩, w0.free 801 (by decide), ?_⟩
  rw [wr (x := (r : Int) - 1) (by omega) (by omega), wr (by omega) (by omega)]
  rw [show dp - ((r : Int) - 1) = dp + e - k by omega]
  intro hv5
  have w5 : Raw hv5 b c0 n (dp + e - k) ng tr := w0.setP _
  have f5 : Fr [b] hv4 hv5 := frb _ _ _ _
  clear_value hv5
  obtain ⟨dq, hdq⟩ : ∃ dq : Int, dq = dp + e - k := ⟨_, rfl⟩
  rw [← hdq] at w5 ⊢
  have ini : RS2 hv5 b F G e n k r dq ng tr r := by
    refine ⟨c0, ?_, fun i hi => by omega, fun i h1 h2 => hc0 i h2⟩
    rw [show r - r - 800 = 0 by omega, tn_zero, Nat.mod_one]; simpa using w5
  refine ⟨by omega, fun lz hv => ∃ j : Nat, r ≤ j ∧ (j ≤ n ∨ j = r) ∧ lz = [.int .i64 (j : Int), .int .i64 ((j - r : Nat) : Int), .int .u64 ((NN F k j : Nat) : Int)] ∧ Fr [b] hv4 hv ∧ RS2 hv b F G e n k r dq ng tr j, fun lz _ => match lz with
    | [.int _ i, _, _] => n - i.toNat
    | _ => 0, ⟨r, Nat.le_refl _, .inr rfl, by rw [Nat.sub_self, hNr]; rfl, f5, ini⟩, ?_⟩
  rintro i0 i1 i2 hv6 ⟨j, hj, hjn, e1, f6, L⟩
  simp only [List.cons.injEq, Value.int.injEq, true_and, and_true] at e1
  obtain ⟨rfl, rfl, rfl⟩ := e1
  have L0 := L
  obtain ⟨c, w, L1, L2⟩ := L
  refine ⟨b, 0, rfl, _, w.nd, cnd_dec (fun hjl => ?_) fun hjl => ?_⟩
  · have hcell : hcell hv6 b (0 + (Int.toNat (j : Int)) * 1) = some (.int .u8 ((48 + dg F j : Nat) : Int)) := by
      rw [at1 rfl, ← L2 j (Nat.le_refl _) (by omega)]; exact w.cell _ (by omega)
    obtain ⟨d1, d2⟩ := hdig j hj (by omega)
    have hs := Nr_old (F := F) (r := j) (by omega)
    obtain ⟨q1, _, _, _⟩ := NN_fact (k := k) (dg_lt F j) hs
    have hmod : NN F k j % 2 ^ k = Nr F j % 2 ^ k := by
      obtain ⟨d, hd, hs⟩ := Nr_step (j := j - 1) hle hdvd
      obtain ⟨_, _, _, q4⟩ := NN_fact (k := k) hd hs
      rw [show j - 1 + 1 = j by omega] at q4
      exact q4
    refine ⟨b, 0, rfl, by omega, by omega, _, hcell, by omega, b, 0, rfl, by omega, by omega, ?_⟩
    rw [at1 rfl, shr, d1, w8d (Nat.mod_lt _ (by decide))]
    refine ⟨⟨_, w.cell _ (by omega)⟩, w.free _ (by omega), ?_⟩
    have hml := Nat.mod_lt (Nr F j) hc2
    have ev : IntKind.u64.wrap ((IntKind.u64.wrap ((IntKind.u64.wrap ((bits .and .u64 ((NN F k j : Nat) : Int) (IntKind.u64.wrap ((IntKind.u64.wrap ((1 : Int) * 2 ^ k)) - (1 : Int)))) * (10 : Int))) + (IntKind.u64.wrap ((48 + dg F j : Nat) : Int)))) - (48 : Int)) = ((NN F k (j + 1) : Nat) : Int) := by
      rw [and_mask hk (by omega), hmod, acc10 (h64 hml) (dg_lt _ _), q1]
    have er : IntKind.i64.wrap ((j : Int) + (1 : Int)) = ((j + 1 : Nat) : Int) := by rw [wr (by omega) (by omega)]; omega
    have ew : IntKind.i64.wrap (((j - r : Nat) : Int) + (1 : Int)) = ((j + 1 - r : Nat) : Int) := by rw [wr (by omega) (by omega)]; omega
    rw [ev, er, ew]
    refine ⟨⟨j + 1, by omega, .inl (by omega), rfl, fr2 f6 _ _, L0.put hr1 hj (by omega)⟩, ?_⟩
    (try dsimp only); omega
  · -- the rest
    have hnj : n ≤ j := by omega
    obtain ⟨JJ, hJJ⟩ : ∃ JJ : Nat → List Value → Heap → Prop, JJ = fun m lz hv => ∃ j : Nat, r ≤ j ∧ n ≤ j ∧ j ≤ n + k + 1 ∧ m = n + k + 1 - j ∧ lz = [.int .i64 ((min (j - r) 800 : Nat) : Int), .int .u64 ((NN F k j : Nat) : Int)] ∧ Fr [b] hv4 hv ∧ RS2 hv b F G e n k r dq ng tr j := ⟨_, rfl⟩
    refine ⟨fun lz hv => ∃ m, JJ m lz hv, Lm JJ, ?_, ?_⟩
    · subst hJJ
      refine ⟨_, j, hj, hnj, by omega, rfl, ?_, f6, L0⟩
      rw [Nat.min_eq_left (by omega)]
    rintro i0 i1 hv8 hI
    obtain ⟨m0, hI, hm0⟩ := loopIn hI
    rw [hJJ] at hI
    obtain ⟨j, hj, hnj, hju, rfl, e1, f8, L8⟩ := hI
    simp only [List.cons.injEq, Value.int.injEq, true_and, and_true] at e1
    obtain ⟨rfl, rfl⟩ := e1
    have hmod : NN F k j % 2 ^ k = Nr F j % 2 ^ k := by
      obtain ⟨d, hd, hs⟩ := Nr_step (j := j - 1) hle hdvd
      obtain ⟨_, _, _, q4⟩ := NN_fact (k := k) hd hs
      rw [show j - 1 + 1 = j by omega] at q4
      exact q4
    have hml := Nat.mod_lt (Nr F j) hc2
    refine cnd_dec (fun hn0 => ?_) fun hn0 => ?_
    · have hjb : j ≤ n + k := by
        apply Classical.byContradiction
        intro hc
        have hjj : j = n + k + 1 := by omega
        have e0 : NN F k j = 0 := by
          have hs := Nr_new hle (show n ≤ n + k by omega) hdvd
          obtain ⟨q1, _, _, _⟩ := NN_fact (k := k) (show 0 < 10 by decide) (d := 0) hs
          rw [hjj, q1, Nr_eq hle (by omega) hdvd, show n + k - n = k by omega, tn_two k, show F / tn (800 - n) * (5 ^ k * 2 ^ k) = F / tn (800 - n) * 5 ^ k * 2 ^ k by ac_rfl, Nat.mul_mod_left]
        rw [e0] at hn0
        exact absurd hn0 (by decide)
      obtain ⟨d1, d2⟩ := hdig j hj hjb
      have hs := Nr_new hle hnj hdvd
      obtain ⟨q1, _, _, _⟩ := NN_fact (k := k) (show 0 < 10 by decide) (d := 0) hs
      refine ⟨by omega, fun lz hv' => lz = [.int .i64 ((min (j + 1 - r) 800 : Nat) : Int)] ∧ Fr [b] hv4 hv' ∧ RS2 hv' b F G e n k r dq ng tr (j + 1), ?_, ?_⟩
      · rw [shr, d1]
        have L0 := L8
        obtain ⟨c, w, L1, L2⟩ := L8
        refine cnd_dec (fun h1 => ?_) fun h1 => ?_
        · refine ⟨b, 0, rfl, by omega, by omega, ?_⟩
          rw [at1 (i := j - r) (by omega), w8d (Nat.mod_lt _ (by decide))]
          refine ⟨⟨_, w.cell _ (by omega)⟩, w.free _ (by omega), ?_, fr2 f8 _ _, L0.put hr1 hj (by omega)⟩
          rw [wr (by omega) (by omega), show ((min (j - r) 800 : Nat) : Int) + 1 = ((min (j + 1 - r) 800 : Nat) : Int) by omega]
        · obtain ⟨u1, u2⟩ := L0.drop hj (by omega) (by omega)
          refine ⟨fun _ hv' => Fr [b] hv4 hv' ∧ RS2 hv' b F G e n k r dq ng tr (j + 1), ?_, ?_⟩
          · refine cnd_dec (fun h2 => ?_) fun h2 => ?_
            · exact ⟨b, 0, rfl, ⟨_, w.tr⟩, w.free 803 (by decide), fr2 f8 _ _, u1 (by omega)⟩
            · refine ⟨f8, u2 ?_⟩
              generalize G / tn (e + 799 - (j - r)) % 10 = z at h2 ⊢
              omega
          · rintro hv11 ⟨f11, L11⟩
            exact ⟨by rw [show min (j - r) 800 = min (j + 1 - r) 800 by omega], f11, L11⟩
      · rintro w3 hv12 ⟨e1, f12, L12⟩
        simp only [List.cons.injEq, Value.int.injEq, true_and, and_true] at e1
        subst e1
        rw [and10 hk (by omega), hmod]
        have q2 : NN F k (j + 1) = 10 * (Nr F j % 2 ^ k) := q1
        rw [← q2]
        refine loopBack hm0 (k' := n + k + 1 - (j + 1)) ?_ (by omega)
        rw [hJJ]
        exact ⟨j + 1, by omega, by omega, by omega, rfl, rfl, f12, L12⟩
    · have hz : NN F k j = 0 := by
        clear hmod
        generalize NN F k j = z at hn0 ⊢
        omega
      clear hn0 hm0
      obtain ⟨c, w, L1, L2⟩ := L8
      refine ⟨b, 0, rfl, ⟨_, w.nd⟩, w.free 800 (by decide), ?_⟩
      intro hv13
      have w13 : Raw hv13 b c ((min (j - r) 800 : Nat) : Int) dq ng _ := w.setN _
      have f13 : Fr [b] hv4 hv13 := fr2 f8 _ _
      clear_value hv13
      have hjle : j ≤ 801 + k := by omega
      -- nothing is left
      have hdiv : tn (801 + k - j) ∣ G := by
        have e1 : Nr F j = 10 * 2 ^ k * (Nr F (j - 1) / 2 ^ k) := by
          have h0 : 10 * 2 ^ k * (Nr F (j - 1) / 2 ^ k) ≤ Nr F j := by
            obtain ⟨d, hd, hs⟩ := Nr_step (j := j - 1) hle hdvd
            rw [show j - 1 + 1 = j by omega] at hs
            rw [hs, Nat.mul_assoc]
            exact Nat.le_trans (Nat.mul_le_mul_left 10 (Nat.mul_div_le _ _)) (Nat.le_add_right _ _)
          unfold NN at hz
          omega
        have e2 : F * tn j = Nr F j * tn 800 := by
          obtain ⟨y, hy⟩ := hdvd
          rw [Nr_eq hle hnj ⟨y, hy⟩, hy, Nat.mul_div_cancel_left _ (tn_pos _), tn_split hnj, show tn 800 = tn (800 - n) * tn n from tn_split hle]
          ac_rfl
        generalize Nr F (j - 1) / 2 ^ k = q at e1
        have e3 : G * tn j = q * tn (801 + k - j) * tn j := by
          rw [Nat.mul_assoc q, ← tn_add, show 801 + k - j + j = 800 + 1 + k by omega, tn_add, tn_succ, hGe, show F * 5 ^ k * tn j = F * tn j * 5 ^ k by ac_rfl, e2, e1, tn_two k]
          ac_rfl
        exact ⟨q, by rw [Nat.mul_comm]; exact Nat.eq_of_mul_eq_mul_right (tn_pos j) e3⟩
      have hT : (tr || decide (G / tn (e + 800 - (j - r)) % tn (j - r - 800) ≠ 0)) = (tr || decide (G % tn e ≠ 0)) := by
        congr 1
        rw [decide_eq_decide]
        obtain ⟨y, hy⟩ := hdiv
        rw [show 801 + k - j = e + 800 - (j - r) by omega] at hy
        by_cases hw : j - r ≤ 800
        · rw [show j - r - 800 = 0 by omega, tn_zero, Nat.mod_one]
          have : G % tn e = 0 := Nat.mod_eq_zero_of_dvd (Nat.dvd_trans (tn_dvd (by omega)) ⟨y, hy⟩)
          rw [this]
        · rw [hy, Nat.mul_div_cancel_left _ (tn_pos _)]
          have e4 : tn e = tn (e + 800 - (j - r)) * tn (j - r - 800) := by rw [← tn_add]; congr 1; omega
          rw [e4, Nat.mul_mod_mul_left]
          constructor
          · intro h; exact Nat.mul_ne_zero (Nat.ne_of_gt (tn_pos _)) h
          · intro h h2; rw [h2, Nat.mul_zero] at h; exact h rfl
      rw [hT] at w13
      have R : Rep hv13 b (G / tn e) (min (j - r) 800) dq ng (tr || decide (G % tn e ≠ 0)) := by
        refine ⟨⟨c, w13, fun i hi => ?_⟩, by omega, ?_, hfull⟩
        · rw [L1 i (by omega) (by omega)]
          unfold dg
          rw [Nat.div_div_eq_div_mul, ← tn_add, show e + (799 - i) = e + 799 - i by omega]
        · by_cases hne : 800 ≤ j - r
          · rw [show 800 - min (j - r) 800 = 0 by omega, tn_zero]; exact Nat.one_dvd _
          · obtain ⟨y, hy⟩ := hdiv
            rw [hy, show 801 + k - j = (800 - min (j - r) 800) + e by omega, tn_add, show tn (800 - min (j - r) 800) * tn e * y = tn (800 - min (j - r) 800) * y * tn e by ac_rfl, Nat.mul_div_cancel _ (tn_pos _)]
            exact ⟨y, rfl⟩
      refine callX_of [b] (R := fun v h' => v = .tuple #[] ∧ ∃ m, Rep h' b (G / tn e) m dq ng (tr || decide (G % tn e ≠ 0)) ∧ Trim (G / tn e) m) (trim_ok R) (by simp) ?_
      rintro _ hv14 f14 ⟨rfl, q⟩
      exact ⟨rfl, f13.trans f14, rfl, q⟩
end Go.Proofs.YtfjflbapojgbhaaGreatDoor.N
