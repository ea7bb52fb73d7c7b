/- WeighOrder, WeighSums: the plain laws. Conditions: none. -/
import Derived.Test.YtfjflbapojgbhaaGreatDoorWMono
namespace Go.Proofs.YtfjflbapojgbhaaGreatDoor.N
open Go.X Go.Proofs.YtfjflbapojgbhaaGreatDoor
set_option maxRecDepth 100000
set_option maxHeartbeats 1000000

theorem less_key {a b : Nat} (ha : isNaN a = false) (hb : isNaN b = false) : lessW a b = decide (key a < key b) := by
  unfold lessW; rw [ha, hb, if_neg (by decide), if_neg (by decide), order_lt ha hb]
theorem good_iff (x : Nat) : goodM x = true ↔ isNaN x = false ∧ 0 ≤ key x := by
  unfold goodM
  cases h : isNaN x
  · rw [order_gt h nan_zero, order_same h nan_zero, key_zero]
    simp only [Bool.or_eq_true, decide_eq_true_eq, true_and]
    omega
  · rw [order_nan_l h]; simp
theorem clean_idem (x : Nat) : cleanM (cleanM x) = cleanM x := by
  unfold cleanM
  by_cases h : isNaN x = true
  · rw [if_pos h, if_pos (by decide)]
  · rw [if_neg h]
    by_cases h0 : (F64.order x 0 == some .eq) = true
    · rw [if_pos h0]; decide
    · rw [if_neg h0, if_neg h, if_neg h0]
theorem sum_comm (d e : Ieee.Datum) : d.sum e = e.sum d := by
  cases d with
  | nan s t => cases e <;> rfl
  | infinity s =>
    cases e with
    | nan s t => rfl
    | infinity t =>
      cases s <;> cases t <;> rfl
    | number t n j => rfl
  | number s m i =>
    cases e with
    | nan s t => rfl
    | infinity t => rfl
    | number t n j =>
      unfold Ieee.Datum.sum
      simp only []
      rw [Int.min_comm i j, Int.add_comm (Ieee.signed s m _), Bool.and_comm s t]
theorem sumM_comm (a b : Nat) : sumM a b = sumM b a := by
  unfold sumM addM Ieee.Format.add
  rw [sum_comm]
theorem read_zero : F64.read 0 = .number false 0 (-1074) := by decide
theorem nearest_nonneg {M : Nat} {p : Int} (hM : M ≠ 0) (hp : -1074 ≤ p) : 0 ≤ key (F64.nearest false M p) := by
  have := nearest_low hM hp read_zero (by rw [Nat.zero_mul]; exact Nat.zero_le _)
  rwa [key_zero] at this
theorem key_num {x : Nat} {s : Bool} {m : Nat} {i : Int} (hx : F64.read x = .number s m i) : key x = if s then -((m * 2 ^ (i + 1074).toNat : Nat) : Int) else ((m * 2 ^ (i + 1074).toNat : Nat) : Int) := by
  unfold key; rw [hx]; exact signed_shift s m _
theorem key_infp {x : Nat} (hx : F64.read x = .infinity false) : key x = 2 ^ bigE := by unfold key; rw [hx]; rfl
theorem inf_pos {x : Nat} {s : Bool} (hx : F64.read x = .infinity s) (h : 0 ≤ key x) : s = false := by
  cases s
  · rfl
  · have : key x = -(2 ^ bigE) := by unfold key; rw [hx]; rfl
    have := big_pos
    omega
theorem key_top {x : Nat} (hn : isNaN x = false) : key x ≤ 2 ^ bigE := by
  rcases read_cases hn with ⟨s, e⟩ | ⟨s, m, i, e⟩
  · have := big_pos
    cases s
    · rw [key_infp e]; exact Int.le_refl _
    · have : key x = -(2 ^ bigE) := by unfold key; rw [e]; rfl
      omega
  · have := (key_bound e).2
    unfold key; rw [e]; exact Int.le_of_lt this
/-- A sum of weights is not below either. -/
theorem sum_good {x y : Nat} (hx : goodM x = true) (hy : goodM y = true) : isNaN (addM x y) = false ∧ key x ≤ key (addM x y) ∧ key y ≤ key (addM x y) := by
  obtain ⟨nx, kx⟩ := (good_iff x).1 hx
  obtain ⟨ny, ky⟩ := (good_iff y).1 hy
  have infc : ∀ {d : Ieee.Datum}, (F64.read x).sum (F64.read y) = some d → d = .infinity false → isNaN (addM x y) = false ∧ key x ≤ key (addM x y) ∧ key y ≤ key (addM x y) := by
    intro d h1 h2
    have e : addM x y = F64.write (.infinity false) := by unfold addM Ieee.Format.add; rw [h1, h2]; rfl
    have ei : F64.read (F64.write (.infinity false)) = .infinity false := by decide
    rw [e, key_infp ei]
    exact ⟨nn_write rfl, key_top nx, key_top ny⟩
  rcases read_cases nx with ⟨s, ex⟩ | ⟨s, m, i, ex⟩
  · have hs := inf_pos ex kx
    subst hs
    rcases read_cases ny with ⟨t, ey⟩ | ⟨t, n, j, ey⟩
    · have ht := inf_pos ey ky
      subst ht
      exact infc (by rw [ex, ey]; rfl) rfl
    · exact infc (by rw [ex, ey]; rfl) rfl
  · rcases read_cases ny with ⟨t, ey⟩ | ⟨t, n, j, ey⟩
    · have ht := inf_pos ey ky
      subst ht
      exact infc (by rw [ex, ey]; rfl) rfl
    · obtain ⟨i1, i2⟩ := read_place ex
      obtain ⟨j1, j2⟩ := read_place ey
      have kxe := key_num ex
      have kye := key_num ey
      obtain ⟨b, hb⟩ : ∃ b, b = min i j := ⟨_, rfl⟩
      have sx : Ieee.signed s m (i - b).toNat = ((m * 2 ^ (i - b).toNat : Nat) : Int) := by
        rw [signed_shift]
        cases s
        · rfl
        · have : m * 2 ^ (i + 1074).toNat = 0 := by simp only [if_true] at kxe; omega
          have hm : m = 0 := (Nat.mul_eq_zero.1 this).resolve_right (Nat.ne_of_gt (Nat.two_pow_pos _))
          subst hm; simp
      have sy : Ieee.signed t n (j - b).toNat = ((n * 2 ^ (j - b).toNat : Nat) : Int) := by
        rw [signed_shift]
        cases t
        · rfl
        · have : n * 2 ^ (j + 1074).toNat = 0 := by simp only [if_true] at kye; omega
          have hm : n = 0 := (Nat.mul_eq_zero.1 this).resolve_right (Nat.ne_of_gt (Nat.two_pow_pos _))
          subst hm; simp
      obtain ⟨M, hM⟩ : ∃ M, M = m * 2 ^ (i - b).toNat + n * 2 ^ (j - b).toNat := ⟨_, rfl⟩
      have tot : Ieee.signed s m (i - b).toNat + Ieee.signed t n (j - b).toNat = (M : Int) := by rw [sx, sy, hM]; omega
      have e : addM x y = F64.write (.number (if (M : Int) = 0 then s && t else decide ((M : Int) < 0)) M b) := by
        unfold addM Ieee.Format.add
        rw [ex, ey]
        unfold Ieee.Datum.sum
        simp only []
        rw [← hb, tot]
        rfl
      have mx : m * 2 ^ (i + 1074).toNat ≤ M * 2 ^ (b + 1074).toNat ∧ n * 2 ^ (j + 1074).toNat ≤ M * 2 ^ (b + 1074).toNat := by
        have a1 : m * 2 ^ (i + 1074).toNat = m * 2 ^ (i - b).toNat * 2 ^ (b + 1074).toNat := by rw [Nat.mul_assoc, ← Nat.pow_add]; congr 2; omega
        have a2 : n * 2 ^ (j + 1074).toNat = n * 2 ^ (j - b).toNat * 2 ^ (b + 1074).toNat := by rw [Nat.mul_assoc, ← Nat.pow_add]; congr 2; omega
        rw [a1, a2, hM]
        exact ⟨Nat.mul_le_mul_right _ (Nat.le_add_right _ _), Nat.mul_le_mul_right _ (Nat.le_add_left _ _)⟩
      have kx2 : key x = ((m * 2 ^ (i + 1074).toNat : Nat) : Int) := by
        rw [kxe]; cases s
        · rfl
        · simp only [if_true] at kxe ⊢; omega
      have ky2 : key y = ((n * 2 ^ (j + 1074).toNat : Nat) : Int) := by
        rw [kye]; cases t
        · rfl
        · simp only [if_true] at kye ⊢; omega
      refine ⟨by rw [e]; exact nn_nearest _ _ _, ?_⟩
      by_cases h0 : M = 0
      · rw [h0, Nat.zero_mul] at mx
        have k0 : key (addM x y) = 0 := by
          have hz : ∀ z : Bool, key (F64.write (.number z 0 b)) = 0 := fun z => by
            show key (F64.nearest z 0 b) = 0
            rw [nearest_eq, show rungOf 0 b = 0 from if_pos rfl]
            cases z <;> decide
          rw [e, h0]; exact hz _
        rw [k0, kx2, ky2]; omega
      · rw [if_neg (by omega), decide_eq_false (show ¬ (M : Int) < 0 by omega)] at e
        have hn : F64.write (.number false M b) = F64.nearest false M b := rfl
        rw [hn] at e
        rw [e]
        have low : ∀ {q : Nat} {z : Bool} {r : Nat} {k : Int}, F64.read q = .number z r k → 0 ≤ key q → key q = ((r * 2 ^ (k + 1074).toNat : Nat) : Int) → r * 2 ^ (k + 1074).toNat ≤ M * 2 ^ (b + 1074).toNat → key q ≤ key (F64.nearest false M b) := by
          intro q z r k h1 h2 h3 h4
          cases z
          · exact nearest_low h0 (by omega) h1 h4
          · have := key_num h1
            simp only [if_true] at this
            have := nearest_nonneg (p := b) h0 (by omega)
            omega
        exact ⟨low ex kx kx2 mx.1, low ey ky ky2 mx.2⟩
theorem okSums {a b : Int} {R : Bool → Prop} (r : R true) : Ok8 a b R := by
  apply ok8; unfold T8
  refine ok9' (cnd_f rfl (callE_of (from13 _) ⟨_, rfl, callE_of (from13 _) ⟨_, rfl, ?_⟩⟩))
  generalize a.toNat = x
  generalize b.toNat = y
  have hi : (sumM x y == cleanM (sumM x y)) = true := by
    have : cleanM (sumM x y) = sumM x y := clean_idem _
    rw [this]; exact beq_self_eq_true _
  refine ok23' (ok20' (ok12' (cnd_f (by rw [hi]; rfl) (ok23' (ok12' (cnd_f (by rw [sumM_comm y x, beq_self_eq_true]; rfl) ⟨False, ⟨True, ok18' (cnd_not (fun _ => trivial) fun hx => ok18' (cnd_not (fun _ => trivial) fun hy => ok18' ?_)), fun _ => r⟩, fun h => h.elim⟩))))))
  obtain ⟨n1, k1, k2⟩ := sum_good hx hy
  have n2 : isNaN (sumM x y) = false := by unfold sumM; rw [clean_nan]; exact n1
  have k3 : key (sumM x y) = key (addM x y) := key_clean n1
  obtain ⟨nx, kx⟩ := (good_iff x).1 hx
  obtain ⟨ny, ky⟩ := (good_iff y).1 hy
  refine cnd_t ((good_iff _).2 ⟨n2, by omega⟩) (ok14' (cnd_t ?_ (ok14' ?_)))
  · rw [less_key n2 nx, decide_eq_false (by omega)]; rfl
  · rw [less_key n2 ny, decide_eq_false (by omega)]; exact r
end Go.Proofs.YtfjflbapojgbhaaGreatDoor.N
