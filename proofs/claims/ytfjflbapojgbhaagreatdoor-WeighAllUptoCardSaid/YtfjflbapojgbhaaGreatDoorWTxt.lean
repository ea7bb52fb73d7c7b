/- FormatFloat(x, 'g', -1, 64) of finite numbers, as a function. Conditions: none. -/
import Derived.Test.YtfjflbapojgbhaaGreatDoorWFmt
namespace Go.Proofs.YtfjflbapojgbhaaGreatDoor.N
open Go.X Go.Proofs.YtfjflbapojgbhaaGreatDoor
set_option maxRecDepth 100000
set_option maxHeartbeats 1000000

def exOf (f : Nat) : Nat := f / 4503599627370496 % 2048
def frOf (f : Nat) : Nat := f % 4503599627370496
def neOf (f : Nat) : Bool := decide (f / 9223372036854775808 ≠ 0)
def maOf (f : Nat) : Nat := if exOf f = 0 then frOf f else frOf f + 4503599627370496
def xpOf (f : Nat) : Int := if exOf f = 0 then 1 else exOf f
def shOf (f : Nat) : Nat := 64 - Lib.bitLen (maOf f)
def mmOf (f : Nat) : Nat := maOf f * 2 ^ shOf f
def eeOf (f : Nat) : Int := xpOf f - 1075 - shOf f
def dOf (f : Nat) : Nat := (short (mmOf f) (eeOf f)).1
def pOf (f : Nat) : Int := (short (mmOf f) (eeOf f)).2
/-- The digits, without zeros at the end. -/
def LOf (f : Nat) : List Int := (dgL (dOf f) (ndg (dOf f))).take (trimC (dgL (dOf f) (ndg (dOf f))) (ndg (dOf f)))
def dpOf (f : Nat) : Int := ndg (dOf f) + pOf f
def txtF (f : Nat) : List Int := if maOf f = 0 then fmtG (neOf f) [] 0 else fmtG (neOf f) (LOf f) (dpOf f)
theorem ndg_le {d : Nat} (h : d < 18446744073709551616) : ndg d ≤ 20 := by
  unfold ndg; split
  · omega
  · rename_i h0
    have := Lib.numDigits_eq d (by omega) h
    split at this <;> omega
theorem ndg_lt (d : Nat) : d < 10 ^ ndg d := by
  unfold ndg; split
  · rename_i h; subst h; decide
  · exact Lib.lt_pow_nDigits d
theorem short_lt (m : Nat) (ev : Int) : (short m ev).1 < 18446744073709551616 := by
  have h1 : dMax m ev < 18446744073709551616 := by unfold dMax; omega
  have h2 : dMin m ev < 18446744073709551616 := by unfold dMin; omega
  unfold short
  split
  · show dMax m ev / 10 < _; omega
  · split
    · show rnd _ < _; unfold rnd; omega
    · exact h2
theorem bl_spec {x : Nat} (h : x ≠ 0) (hx : x < 18446744073709551616) : 1 ≤ Lib.bitLen x ∧ 2 ^ (Lib.bitLen x - 1) ≤ x ∧ x < 2 ^ Lib.bitLen x := Lib.bitLenAux_bounds 64 x hx h
theorem bl_uniq {x k : Nat} (h1 : 2 ^ k ≤ x) (h2 : x < 2 ^ (k + 1)) (hx : x < 18446744073709551616) : Lib.bitLen x = k + 1 := by
  have hp : 0 < 2 ^ k := Nat.two_pow_pos k
  obtain ⟨a1, a2, a3⟩ := bl_spec (show x ≠ 0 by omega) hx
  have b1 := (Nat.pow_lt_pow_iff_right (a := 2) (by decide)).1 (Nat.lt_of_le_of_lt a2 h2)
  have b2 := (Nat.pow_lt_pow_iff_right (a := 2) (by decide)).1 (Nat.lt_of_le_of_lt h1 a3)
  omega
theorem fr_lt (f : Nat) : frOf f < 4503599627370496 := Nat.mod_lt _ (by decide)
theorem ma_lt (f : Nat) : maOf f < 9007199254740992 := by
  have := fr_lt f
  unfold maOf; split <;> omega
theorem mt_of {f : Nat} (hx : exOf f ≠ 2047) (hm : maOf f ≠ 0) : Mt (mmOf f) (eeOf f) ∧ shOf f ≤ 63 ∧ 11 ≤ shOf f := by
  have hl := ma_lt f
  have he : exOf f < 2048 := Nat.mod_lt _ (by decide)
  obtain ⟨b1, b2, b3⟩ := bl_spec hm (by omega)
  have b53 : Lib.bitLen (maOf f) ≤ 53 := Lib.bitLen_le _ 53 (by decide) hl
  have hs : shOf f = 64 - Lib.bitLen (maOf f) := rfl
  have hs2 : 11 ≤ shOf f ∧ shOf f ≤ 63 := by omega
  have hb : shOf f + Lib.bitLen (maOf f) = 64 := by omega
  have lo : 9223372036854775808 ≤ mmOf f := by
    have : 2 ^ (Lib.bitLen (maOf f) - 1) * 2 ^ shOf f = 2 ^ 63 := by rw [← Nat.pow_add]; congr 1; omega
    have h2 := Nat.mul_le_mul_right (2 ^ shOf f) b2
    rw [this] at h2
    exact h2
  have hi : mmOf f < 18446744073709551616 := by
    have : 2 ^ Lib.bitLen (maOf f) * 2 ^ shOf f = 2 ^ 64 := by rw [← Nat.pow_add]; congr 1; omega
    have h2 := Nat.mul_lt_mul_of_pos_right b3 (Nat.two_pow_pos (shOf f))
    rw [this] at h2
    exact h2
  have hz : zOf (eeOf f) = shOf f ∧ -1137 ≤ eeOf f ∧ eeOf f ≤ 960 := by
    unfold eeOf xpOf
    by_cases h0 : exOf f = 0
    · have hm2 : maOf f < 2 ^ 52 := by unfold maOf; rw [if_pos h0]; exact fr_lt f
      have : Lib.bitLen (maOf f) ≤ 52 := Lib.bitLen_le _ 52 (by decide) hm2
      rw [if_pos h0]
      unfold zOf
      rw [if_neg (by omega)]; omega
    · have hm2 : 2 ^ 52 ≤ maOf f := by unfold maOf; rw [if_neg h0]; exact Nat.le_add_left _ _
      have : Lib.bitLen (maOf f) = 53 := bl_uniq (k := 52) hm2 hl (by omega)
      rw [if_neg h0]
      unfold zOf
      rw [if_pos (by omega)]; omega
  exact ⟨⟨lo, hi, hz.2.1, hz.2.2, by rw [hz.1]; exact Nat.mul_mod_left _ _⟩, hs2.2, hs2.1⟩
theorem p_of {m : Nat} {ev : Int} (h : Mt m ev) : -360 ≤ (short m ev).2 ∧ (short m ev).2 ≤ 360 := by
  obtain ⟨p1, p2⟩ := h.p
  unfold short
  split
  · show _ ≤ -(shP m ev - 1) ∧ -(shP m ev - 1) ≤ _; omega
  · split
    · show _ ≤ -shP m ev ∧ -shP m ev ≤ _; omega
    · show _ ≤ -shP m ev ∧ -shP m ev ≤ _; omega
theorem ok49' {dst : List Int} {f : Nat} {R : List Int → Prop} (hf : f < 18446744073709551616) (hx : exOf f ≠ 2047) (hd : dst.length < 1000) (r : R (dst ++ txtF f)) : Ok49 dst f 103 (-1) R := by
  apply ok49
  unfold T49
  refine ⟨fun a b c d => a = (f : Int) ∧ b = 11 ∧ c = 52 ∧ d = -1023, cnd_f (by decide) ⟨fun a b c d => a = (f : Int) ∧ b = 11 ∧ c = 52 ∧ d = -1023, cnd_t (by decide) (callE_of (bits60 f) ⟨_, rfl, rfl, rfl, rfl, rfl⟩), fun _ _ _ _ h => h⟩, ?_⟩
  rintro _ _ _ _ ⟨rfl, rfl, rfl, rfl⟩
  have c63 : IntKind.i64.wrap ((11 : Int) + 52) = 63 := by decide
  have c2047 : IntKind.i64.wrap (IntKind.i64.wrap ((1 : Int) * 2 ^ min (Int.toNat 11) 64) - 1) = 2047 := by decide
  have cmask : IntKind.u64.wrap (IntKind.u64.wrap ((1 : Int) * 2 ^ min (Int.toNat 52) 64) - 1) = 4503599627370495 := by decide
  have c52 : IntKind.u64.wrap ((1 : Int) * 2 ^ min (Int.toNat 52) 64) = 4503599627370496 := by decide
  have m52 : min (Int.toNat 52) 64 = 52 := by decide
  have m63 : min (Int.toNat 63) 64 = 63 := by decide
  rw [c63, c2047, cmask, c52, m52, m63, shr, shr]
  have hq : f / 2 ^ 52 < 4096 := by
    have : (2 : Nat) ^ 52 = 4503599627370496 := by decide
    rw [this]; omega
  have eex : bits .and .i64 (IntKind.i64.wrap ((f / 2 ^ 52 : Nat) : Int)) 2047 = (exOf f : Int) := by
    rw [wr (by omega) (by omega), and2047]
    have : (2 : Nat) ^ 52 = 4503599627370496 := by decide
    unfold exOf; rw [← this]; omega
  have efr : bits .and .u64 (f : Int) 4503599627370495 = (frOf f : Int) := and52 f hf
  have ene : (((f / 2 ^ 63 : Nat) : Int) != 0) = neOf f := by
    have : (2 : Nat) ^ 63 = 9223372036854775808 := by decide
    rw [this]; unfold neOf
    rw [Bool.eq_iff_iff]; simp
    omega
  rw [eex, efr, or52 _ (fr_lt f), ene]
  have he : exOf f < 2048 := Nat.mod_lt _ (by decide)
  have hml := ma_lt f
  refine ⟨by decide, by decide, by decide, by decide, by decide, cnd_eq (fun h => absurd h (by omega)) fun _ => ?_⟩
  refine ⟨fun a b => a = xpOf f ∧ b = (maOf f : Int), cnd_eq (fun h => ?_) fun h => ⟨by decide, ?_⟩, ?_⟩
  · have h' : exOf f = 0 := by omega
    unfold xpOf maOf; rw [if_pos h', if_pos h', h', show IntKind.i64.wrap (((0 : Nat) : Int) + 1) = 1 by decide]
    exact ⟨rfl, rfl⟩
  · have h' : exOf f ≠ 0 := by omega
    unfold xpOf maOf; rw [if_neg h', if_neg h']
    exact ⟨rfl, rfl⟩
  rintro _ _ ⟨rfl, rfl⟩
  refine cnd_f (by decide) (cnd_f (by decide) (cnd_f (by decide) (cnd_eq (fun h0 => ?_) fun h0 => ?_)))
  · have h0' : maOf f = 0 := by omega
    unfold txtF at r; rw [if_pos h0'] at r
    exact ok63z hd r
  have h0' : maOf f ≠ 0 := by omega
  unfold txtF at r; rw [if_neg h0'] at r
  obtain ⟨hmt, hs63, hs11⟩ := mt_of hx h0'
  refine cnd_t (by decide) (ok64' (by omega) (by omega) ?_)
  have eb : bl (maOf f : Int) = ((Lib.bitLen (maOf f) : Nat) : Int) := rfl
  obtain ⟨b1, b2, b3⟩ := bl_spec h0' (by omega)
  have b53 : Lib.bitLen (maOf f) ≤ 53 := Lib.bitLen_le _ 53 (by decide) hml
  have es : IntKind.i64.wrap ((64 : Int) - bl (maOf f : Int)) = (shOf f : Int) := by rw [eb, wr (by omega) (by omega)]; unfold shOf; omega
  rw [es, Int.toNat_natCast, Nat.min_eq_left (by omega), powN, ← Int.natCast_mul, show maOf f * 2 ^ shOf f = mmOf f from rfl, wrapU' hmt.hi]
  have hxp : -1 ≤ xpOf f ∧ xpOf f ≤ 2047 := by unfold xpOf; split <;> omega
  have ee : IntKind.i64.wrap (IntKind.i64.wrap (IntKind.i64.wrap (xpOf f + -1023) - (shOf f : Int)) - 52) = eeOf f := by
    rw [wr (x := xpOf f + -1023) (by omega) (by omega), wr (x := xpOf f + -1023 - (shOf f : Int)) (by omega) (by omega), wr (by omega) (by omega)]; unfold eeOf; omega
  rw [ee]
  refine ⟨by omega, ok73' hmt ?_⟩
  have hdl := short_lt (mmOf f) (eeOf f)
  obtain ⟨p1, p2⟩ := p_of hmt
  have hn := ndg_le hdl
  refine ok67' hdl (ok66' (ndg_lt _) hdl (by omega) ⟨by omega, by omega⟩ ?_)
  refine ⟨fun q => q = (trimC (dgL (dOf f) (ndg (dOf f))) (ndg (dOf f)) : Int), ⟨fun x => x = false, cnd_f (by decide) (by decide), ?_⟩, ?_⟩
  · rintro _ rfl
    refine cnd_f rfl ⟨fun q => q = (trimC (dgL (dOf f) (ndg (dOf f))) (ndg (dOf f)) : Int), cnd_f (by decide) ⟨fun x => x = true, cnd_t (by decide) (by decide), ?_⟩, fun _ h => h⟩
    rintro _ rfl
    exact cnd_t rfl rfl
  rintro _ rfl
  have ht := trimC_le (dgL (dOf f) (ndg (dOf f))) (ndg (dOf f))
  have hn2 : ndg (dOf f) ≤ 20 := hn
  refine ok63' hd ?_ ?_ (Nat.le_trans ht (by omega)) (show -1000 < dpOf f by unfold dpOf pOf; omega) (show dpOf f < 1000 by unfold dpOf pOf; omega) r
  · rw [List.take_append_of_le_length (by rw [dgL_len]; exact ht)]; rfl
  · simp only [List.length_append, dgL_len, List.length_replicate]
    show trimC (dgL (dOf f) (ndg (dOf f))) (ndg (dOf f)) ≤ ndg (dOf f) + (32 - ndg (dOf f))
    omega
theorem ok41' {f : Nat} {R : ByteArray → Prop} (hf : f < 18446744073709551616) (hx : exOf f ≠ 2047) (r : R (strOf (txtF f))) : Ok41 f 103 (-1) 64 R := by
  apply ok41
  unfold T41
  refine cnd_f (by decide) (cnd_t (by decide) ⟨by decide, by decide, by decide, ok49' hf hx (by decide) ?_⟩)
  exact r
theorem ok33' {f : Nat} {R : ByteArray → Prop} (hf : f < 18446744073709551616) (hx : exOf f ≠ 2047) (r : R (strOf (txtF f))) : Ok33 f 103 (-1) 64 R := by
  apply ok33
  unfold T33
  exact ok41' hf hx r
end Go.Proofs.YtfjflbapojgbhaaGreatDoor.N
