/- atof64exact as a function. Conditions: none. -/
import Derived.Test.YtfjflbapojgbhaaGreatDoorWSpec
namespace Go.Proofs.YtfjflbapojgbhaaGreatDoor.N
open Go.X Go.Proofs.YtfjflbapojgbhaaGreatDoor
set_option maxRecDepth 100000
set_option maxHeartbeats 1000000

def numOK (d : Ieee.Datum) : Bool := match d with | .number _ n _ => decide (n ≠ 0) | _ => false
theorem tF_num : ∀ k : Fin 23, numOK (F64.read (tF.getD k.val 0)) = true := by decide +kernel
theorem tF_at {k : Nat} (h : k < 23) : tF[k]? = some (tF.getD k 0) ∧ ∃ s n j, F64.read (tF.getD k 0) = .number s n j ∧ n ≠ 0 := by
  have hl : k < tF.length := h
  refine ⟨by rw [List.getD_eq_getElem?_getD, List.getElem?_eq_getElem hl]; rfl, ?_⟩
  have := tF_num ⟨k, h⟩
  unfold numOK at this
  split at this
  · rename_i s n j e; exact ⟨s, n, j, e, by simpa using this⟩
  · cases this
theorem nn_int (n : Int) : isNaN (FloatKind.f64.nearest n) = false := by
  unfold FloatKind.nearest FloatKind.encode
  exact nn_write rfl
theorem nn_negF {x : Nat} (h : isNaN x = false) : isNaN (Op.negFloat .f64 x) = false := by
  have := nan_neg x
  unfold negM at this
  rw [this]; exact h
theorem ok89' {m : Nat} {e : Int} {neg : Bool} {R : Nat → Bool → Prop} (hm : m < 18446744073709551616) (he1 : -100000 < e) (he2 : e < 100000) (r : R (exactF m e neg).1 (exactF m e neg).2) : Ok89 m e neg R := by
  apply ok89
  unfold T89
  have h52 : (2 : Nat) ^ 52 = 4503599627370496 := by decide
  rw [show min (Int.toNat 52) 64 = 52 from by decide, shr, h52]
  unfold exactF at r
  refine ⟨by decide, cnd_ne (fun h => ?_) fun h => ?_⟩
  · rw [if_pos (by omega)] at r; exact r
  rw [if_neg (by omega)] at r
  simp only [] at r
  have hn0 : isNaN (FloatKind.f64.nearest (m : Int)) = false := nn_int _
  refine ⟨fun f => f = (if neg then Op.negFloat .f64 (FloatKind.f64.nearest (m : Int)) else FloatKind.f64.nearest (m : Int)), cnd_b (fun hb => by rw [hb, if_pos rfl]) (fun hb => by rw [hb, if_neg (by decide)]), ?_⟩
  intro f hf
  have hfn : isNaN f = false := by
    rw [hf]; split
    · exact nn_negF hn0
    · exact hn0
  rw [← hf] at r
  refine ⟨¬ (e = 0 ∨ (0 < e ∧ e ≤ 37) ∨ (-22 ≤ e ∧ e < 0)), cnd_eq (fun h => ?_) fun h0 => ?_, fun hJ => ?_⟩
  · rw [if_pos h] at r; exact r
  · rw [if_neg h0] at r
    have dv : -22 ≤ e → e < 0 → ¬ (0 < e ∧ e ≤ 37) → 0 ≤ IntKind.i64.wrap (0 - e) ∧ IntKind.i64.wrap (0 - e) < ((23 : Nat) : Int) ∧ ∃ x : Nat, tF[Int.toNat (IntKind.i64.wrap (0 - e)) * 1]? = some x ∧ ∀ r3 : Nat, FRes .f64 f x (FloatKind.f64.format.div f x) r3 → R r3 true := by
      intro q1 q2 q3
      rw [if_neg q3, if_pos ⟨q1, q2⟩] at r
      have ew : IntKind.i64.wrap (0 - e) = -e := by rw [wr (by omega) (by omega)]; omega
      rw [ew, Nat.mul_one]
      obtain ⟨t1, s, n, j, t2, t3⟩ := tF_at (k := (-e).toNat) (by omega)
      refine ⟨by omega, by omega, _, t1, fun r3 hr3 => ?_⟩
      have hd := (div_some hfn t2 t3).1
      rw [show FloatKind.f64.format.div f (tF.getD (-e).toNat 0) = some (divM f (tF.getD (-e).toNat 0)) from hd] at hr3
      have : r3 = divM f (tF.getD (-e).toNat 0) := hr3
      rw [this]; exact r
    refine cnd_dec (fun hp => cnd_dec (fun h37 => ?_) fun h37 => cnd_dec (fun h => absurd h (by omega)) fun _ => by omega) fun hp => cnd_dec (fun hneg => cnd_dec (fun h22 => dv h22 hneg (by omega)) fun _ => by omega) fun _ => by omega
    rw [if_pos ⟨hp, h37⟩] at r
    refine ⟨fun e2 f2 => e2 = (if e > 22 then 22 else e) ∧ f2 = (if e > 22 then mulM f (tF.getD (e - 22).toNat 0) else f), cnd_dec (fun h => ?_) fun h => ⟨by rw [if_neg h], by rw [if_neg h]⟩, ?_⟩
    · have ew : IntKind.i64.wrap (e - 22) = e - 22 := wr (by omega) (by omega)
      rw [ew, Nat.mul_one]
      obtain ⟨t1, s, n, j, t2, t3⟩ := tF_at (k := (e - 22).toNat) (by omega)
      refine ⟨by omega, by omega, _, t1, fun r3 hr3 => ?_⟩
      have hd := (mul_some hfn t2 t3).1
      rw [show FloatKind.f64.format.mul f (tF.getD (e - 22).toNat 0) = some (mulM f (tF.getD (e - 22).toNat 0)) from hd] at hr3
      have : r3 = mulM f (tF.getD (e - 22).toNat 0) := hr3
      rw [this, if_pos h, if_pos h]; exact ⟨rfl, rfl⟩
    rintro e2 f2 ⟨h1, h2⟩
    have hf2 : isNaN f2 = false := by
      rw [h2]; split
      · obtain ⟨t1, s, n, j, t2, t3⟩ := tF_at (k := (e - 22).toNat) (by omega)
        exact (mul_some hfn t2 t3).2
      · exact hfn
    have he : 0 ≤ e2 ∧ e2 < 23 := by rw [h1]; split <;> omega
    rw [← h1, ← h2] at r
    refine cnd_b (fun hg => ?_) fun hg => cnd_b (fun hl => ?_) fun hl => ?_
    · rw [if_pos (by simpa using hg)] at r; exact r
    · rw [if_neg (by simpa using hg), if_pos (by simpa using hl)] at r; exact r
    · rw [if_neg (by simpa using hg), if_neg (by simpa using hl)] at r
      obtain ⟨t1, s, n, j, t2, t3⟩ := tF_at (k := e2.toNat) (by omega)
      rw [Nat.mul_one]
      refine ⟨by omega, by omega, _, t1, fun r3 hr3 => ?_⟩
      have hd := (mul_some hf2 t2 t3).1
      rw [show FloatKind.f64.format.mul f2 (tF.getD e2.toNat 0) = some (mulM f2 (tF.getD e2.toNat 0)) from hd] at hr3
      have : r3 = mulM f2 (tF.getD e2.toNat 0) := hr3
      rw [this]; exact r
  · rw [if_neg (by omega), if_neg (by omega), if_neg (by omega)] at r
    exact r
end Go.Proofs.YtfjflbapojgbhaaGreatDoor.N
