/- A decimal number's float: parseFloat64, atof64exact, as functions. Conditions: none. -/
import Derived.Test.YtfjflbapojgbhaaGreatDoorTPar
import Derived.Test.YtfjflbapojgbhaaGreatDoorWTxt
import Derived.Test.YtfjflbapojgbhaaGreatDoorWFl
namespace Go.Proofs.YtfjflbapojgbhaaGreatDoor.N
open Go.X Go.Proofs.YtfjflbapojgbhaaGreatDoor
set_option maxRecDepth 100000
set_option maxHeartbeats 1000000

def pk (m : Int) (e : Int) : Nat × Option Int :=
  if bits .and .u64 m 4503599627370496 = 0 then (m.toNat, none)
  else if e ≥ 972 then ((bits .or .u64 (bits .and .u64 m 9223372036854775808) 9218868437227405312).toNat, some 1)
  else ((bits .or .u64 (bits .andNot .u64 m 4503599627370496) (IntKind.u64.wrap ((IntKind.u64.wrap (IntKind.i64.wrap (1075 + e))) * 2 ^ 52))).toNat, none)
theorem ok120' {m e : Int} {R : Nat → Option Int → Prop} (r : R (pk m e).1 (pk m e).2) : Ok120 m e R := by
  apply ok120
  unfold T120
  unfold pk at r
  refine cnd_eq (fun h => ?_) fun h => ?_
  · rw [if_pos h] at r; exact callE_of (from88 _) ⟨_, rfl, r⟩
  · rw [if_neg h] at r
    refine cnd_dec (fun h2 => ?_) fun h2 => ?_
    · rw [if_pos h2] at r; exact callE_of (from88 _) ⟨_, rfl, r⟩
    · rw [if_neg h2] at r; exact ⟨by decide, callE_of (from88 _) ⟨_, rfl, r⟩⟩
/-- d * 10^p to the nearest. -/
def pfE (d : Nat) (p : Int) : Int := min 1074 (53 - Lib.bitLen d - l2 p)
def pfS (d : Nat) (p : Int) : Int := -(pfE d p - (64 - Lib.bitLen d) + l2 p + 3)
def pfU (d : Nat) (p : Int) : Nat := usc (d * 2 ^ (64 - Lib.bitLen d)) (hiP p) (loP p) (pfS d p % 64).toNat
def pfC (d : Nat) (p : Int) : Nat := if 36028797018963966 ≤ pfU d p then 1 else 0
def pfR (d : Nat) (p : Int) : Nat := rnd ((pfU d p / 2 ^ pfC d p) ||| (pfU d p % 2))
def parse64 (d : Nat) (p : Int) (sign : Nat) : Nat × Option Int :=
  if pfS d p ≥ 64 then ((bits .or .u64 (sign : Int) 0).toNat, none)
  else pk (bits .or .u64 (sign : Int) (pfR d p : Int)) (-(pfE d p - pfC d p))
theorem ok105' {R : Int → Prop} (r : R 36028797018963966) : Ok105 9007199254740992 R := by
  apply ok105; unfold T105
  refine ⟨by decide, ?_⟩
  have : IntKind.u64.wrap (IntKind.u64.wrap ((9007199254740992 : Int) * 2 ^ min (Int.toNat 2) 64) - 2) = 36028797018963966 := by decide
  rw [this]; exact r
theorem opt_ok {R : Nat → Option Int → Prop} {a : Nat} {e : Option Int} (r : R a e) : (e = none → R a none) ∧ ∀ c : Int, e = some c → R a (some c) :=
  ⟨fun h => h ▸ r, fun _ h => h ▸ r⟩
theorem ok90' {d sign : Nat} {p : Int} {R : Nat → Option Int → Prop} (hd0 : d ≠ 0) (hd : d < 18446744073709551616) (h1 : -348 ≤ p) (h2 : p ≤ 347) (r : R (parse64 d p sign).1 (parse64 d p sign).2) : Ok90 d p sign R := by
  apply ok90
  unfold T90
  obtain ⟨b1, b2, b3⟩ := bl_spec hd0 hd
  have b64 : Lib.bitLen d ≤ 64 := Lib.bitLen_le _ 64 (by decide) hd
  refine ok64' (by omega) (by omega) (ok97' (by omega) (by omega) ?_)
  have eb : bl (d : Int) = ((Lib.bitLen d : Nat) : Int) := rfl
  have hl2 : -1200 ≤ l2 p ∧ l2 p ≤ 1200 := by unfold l2; omega
  rw [eb]
  have e1 : IntKind.i64.wrap (IntKind.i64.wrap (53 - ((Lib.bitLen d : Nat) : Int)) - l2 p) = 53 - Lib.bitLen d - l2 p := by
    rw [wr (x := 53 - ((Lib.bitLen d : Nat) : Int)) (by omega) (by omega), wr (by omega) (by omega)]
  have e2 : (if (53 - (Lib.bitLen d : Int) - l2 p) < 1074 then (53 - (Lib.bitLen d : Int) - l2 p) else 1074) = pfE d p := by unfold pfE; split <;> omega
  have e3 : IntKind.i64.wrap (64 - ((Lib.bitLen d : Nat) : Int)) = ((64 - Lib.bitLen d : Nat) : Int) := by rw [wr (by omega) (by omega)]; omega
  have hpe : -1300 ≤ pfE d p ∧ pfE d p ≤ 1300 := by unfold pfE; omega
  have e4 : IntKind.i64.wrap (pfE d p - ((64 - Lib.bitLen d : Nat) : Int)) = pfE d p - (64 - Lib.bitLen d) := by rw [wr (by omega) (by omega)]; omega
  rw [e1, e2, e3, e4]
  refine ok96' h1 h2 (by omega) (by omega) (by omega) (by omega) ?_
  show cnd (decide (pfS d p ≥ 64)) _ _
  unfold parse64 at r
  refine cnd_dec (fun h => ?_) fun h => ?_
  · rw [if_pos h] at r
    exact callE_of (from88 _) ⟨_, rfl, r⟩
  rw [if_neg h] at r
  have hx : d * 2 ^ (64 - Lib.bitLen d) < 18446744073709551616 := by
    have : 2 ^ Lib.bitLen d * 2 ^ (64 - Lib.bitLen d) = 2 ^ 64 := by rw [← Nat.pow_add]; congr 1; omega
    have h2 := Nat.mul_lt_mul_of_pos_right b3 (Nat.two_pow_pos (64 - Lib.bitLen d))
    rw [this] at h2; exact h2
  have hh := hiP_lt h1 h2
  refine ⟨by omega, ?_⟩
  rw [Int.toNat_natCast, Nat.min_eq_left (show 64 - Lib.bitLen d ≤ 64 by omega), powN, ← Int.natCast_mul, wrapU' hx]
  refine ok98' hx hh (loP_lt h1 h2) (ok105' (ok104' ?_))
  have hu : pfU d p < 18446744073709551616 := usc_lt hx hh
  show 0 ≤ _ ∧ _
  have eu : usc (d * 2 ^ (64 - Lib.bitLen d)) (hiP p) (loP p) (-(pfE d p - (64 - (Lib.bitLen d : Int)) + l2 p + 3) % 64).toNat = pfU d p := rfl
  rw [eu]
  have ec : ((if decide ((pfU d p : Int) ≥ 36028797018963966) = true then 1 else 0 : Nat) : Int) = (pfC d p : Int) := by
    unfold pfC; simp only [decide_eq_true_eq, ge_iff_le]; split <;> split <;> first | rfl | omega
  rw [ec, Int.toNat_natCast]
  have hc : pfC d p ≤ 1 := by unfold pfC; split <;> omega
  rw [Nat.min_eq_left (show pfC d p ≤ 64 by omega), shr, and1u _ hu]
  have hq : pfU d p / 2 ^ pfC d p < 18446744073709551616 := Nat.lt_of_le_of_lt (Nat.div_le_self _ _) hu
  rw [bits_or_u64_nat _ _ hq (by omega)]
  have hor : (pfU d p / 2 ^ pfC d p) ||| (pfU d p % 2) < 18446744073709551616 := Nat.or_lt_two_pow (n := 64) hq (by omega)
  refine ⟨by omega, ok102' hor (ok120' (opt_ok ?_))⟩
  have e5 : IntKind.i64.wrap (0 - IntKind.i64.wrap (pfE d p - (pfC d p : Int))) = -(pfE d p - pfC d p) := by
    rw [wr (x := pfE d p - (pfC d p : Int)) (by omega) (by omega), wr (by omega) (by omega)]; omega
  rw [e5]
  exact r
def exactF (m : Nat) (e : Int) (neg : Bool) : Nat × Bool :=
  if m / 4503599627370496 ≠ 0 then (0, false)
  else
    let f := if neg then Op.negFloat .f64 (FloatKind.f64.nearest (m : Int)) else FloatKind.f64.nearest (m : Int)
    if e = 0 then (f, true)
    else if 0 < e ∧ e ≤ 37 then
      let f2 := if e > 22 then mulM f (tF.getD (e - 22).toNat 0) else f
      let e2 := if e > 22 then 22 else e
      if F64.order f2 4831355200913801216 = some .gt then (f2, false)
      else if F64.order f2 14054727237768577024 = some .lt then (f2, false)
      else (mulM f2 (tF.getD e2.toNat 0), true)
    else if -22 ≤ e ∧ e < 0 then (divM f (tF.getD (-e).toNat 0), true)
    else (f, false)
end Go.Proofs.YtfjflbapojgbhaaGreatDoor.N
