/- TutteSnaps. Conditions: none. -/
import Derived.Test.YtmcloipjlihhlaaNSnapL
namespace Go.Proofs.Ytmcloipjlihhlaa.N
open Go.X Go.Proofs.Ytmcloipjlihhlaa
set_option maxRecDepth 100000

theorem num_of_mul {r : Nat} {N : Int} (hn : isNaN r = false) (hk : key r = N * (U : Int)) (h1 : -(2 ^ 53) < N) (h2 : N < 2 ^ 53) : ∃ s m i, F64.read r = .number s m i := by
  have h3 : N.natAbs * U < 2 ^ bigE := shift_lt (a := uE) (by omega) (by decide)
  have h4 : ((N.natAbs * U : Nat) : Int) < (2 : Int) ^ bigE := by
    have := Int.ofNat_lt.2 h3
    rw [Int.natCast_pow] at this
    exact this
  have h5 : ((N * (U : Int)).natAbs : Int) = ((N.natAbs * U : Nat) : Int) := by rw [Int.natAbs_mul, Int.natAbs_natCast]
  refine num_of_key hn ?_ ?_
  · rw [hk]
    generalize (2 : Int) ^ bigE = w at *
    generalize N * (U : Int) = z at *
    omega
  · rw [hk]
    generalize (2 : Int) ^ bigE = w at *
    generalize N * (U : Int) = z at *
    omega
theorem nearest_num {n : Int} (h1 : -(2 ^ 53) < n) (h2 : n < 2 ^ 53) : ∃ s m i, F64.read (FloatKind.f64.nearest n) = .number s m i := num_of_mul (nearest_int h1 h2).2 (nearest_int h1 h2).1 h1 h2
theorem inf_num (b s : Bool) (m : Nat) (i : Int) : F64.read (F64.write (.infinity b)) ≠ .number s m i := by
  have : F64.read (F64.write (.infinity b)) = .infinity b := by cases b <;> decide
  rw [this]; intro q; cases q
/-- A number that was snapped, and where it was. -/
theorem snap_near {x : Nat} (h : (snapOne x ONE).2 = 0) : isNaN (absM (subM (FloatKind.f64.nearest (snapOne x ONE).1) x)) = false ∧ (F64.order (absM (subM (FloatKind.f64.nearest (snapOne x ONE).1) x)) HALF == some .gt) = false := by
  obtain ⟨⟨s, m, i, hr⟩, b1, b2, k1, k2⟩ := snapOne_facts h
  have hx : ∃ s m i, F64.read x = .number s m i := by
    have hy : (F64.read (mulM x ONE)).isNaN = false := by rw [hr]; rfl
    cases hx : F64.read x with
    | nan s t =>
      have : mulM x ONE = nanC := by
        unfold mulM Ieee.Format.mul
        rw [prod_nan_l (by rw [hx]; rfl)]; rfl
      rw [this] at hy
      exact absurd (show isNaN nanC = false from hy) (by rw [nanC_nan]; decide)
    | infinity s =>
      have : mulM x ONE = F64.write (.infinity s) := by
        unfold mulM Ieee.Format.mul
        rw [hx, read_one]
        cases s <;> rfl
      rw [this] at hr
      cases s
      · exact absurd hr (inf_num false s m i)
      · exact absurd hr (inf_num true s m i)
    | number s m i => exact ⟨s, m, i, rfl⟩
  obtain ⟨s', m', i', hx⟩ := hx
  have km := mul_one_key hx
  rw [km.1] at k1 k2
  generalize (snapOne x ONE).1 = N at *
  have kn := nearest_int (n := N) (by omega) (by omega)
  obtain ⟨s2, m2, i2, hn⟩ : ∃ s m i, F64.read (FloatKind.f64.nearest N) = .number s m i := nearest_num (by omega) (by omega)
  rw [← kn.1] at k1 k2
  have hs := sub_half hn hx k1 k2
  refine ⟨hs.1, ?_⟩
  rw [order_gt hs.1 nan_half]
  have := key_half
  simp; omega

/-! ### Twice and half -/
theorem two_num {x : Nat} {N : Int} (hk : 2 * key x = N * (U : Int)) (h0 : N ≠ 0) (h1 : -(2 ^ 20) ≤ N) (h2 : N ≤ 2 ^ 20) (hx : ∃ s m i, F64.read x = .number s m i) : ∃ s m i, F64.read x = .number s m i ∧ m ≠ 0 ∧ -1073 ≤ i ∧ i ≤ 970 := by
  obtain ⟨s, m, i, hr⟩ := hx
  have hm := read_mag hr
  have hp := read_place hr
  have ek := key_num hr
  have e : 2 * (m * 2 ^ (i + 1074).toNat) = N.natAbs * U := by
    have : (N * (U : Int)).natAbs = N.natAbs * U := by rw [Int.natAbs_mul, Int.natAbs_natCast]
    rw [← this, ← hk, ek]
    generalize m * 2 ^ (i + 1074).toNat = z
    cases s
    · simp only [Bool.false_eq_true, if_false]; omega
    · simp only [if_true]; omega
  have hN : 1 ≤ N.natAbs := by omega
  have hN2 : N.natAbs ≤ 2 ^ 20 := by omega
  have g1 : U ≤ N.natAbs * U := Nat.le_mul_of_pos_left _ hN
  have g2 : N.natAbs * U ≤ 2 ^ 20 * U := Nat.mul_le_mul_right _ hN2
  rw [← e] at g1 g2
  refine ⟨s, m, i, hr, ?_, ?_, ?_⟩
  · rintro rfl
    have := U_pos
    rw [Nat.zero_mul] at g1; omega
  · have g3 : 2 ^ uE ≤ 2 ^ (54 + (i + 1074).toNat) := by
      rw [Nat.pow_add]
      have g4 : m * 2 ^ (i + 1074).toNat ≤ 2 ^ 53 * 2 ^ (i + 1074).toNat := Nat.mul_le_mul_right _ (Nat.le_of_lt hm)
      show U ≤ _
      generalize m * 2 ^ (i + 1074).toNat = a at *
      generalize 2 ^ (i + 1074).toNat = b at *
      omega
    have g5 : uE ≤ 54 + (i + 1074).toNat := (Nat.pow_le_pow_iff_right (by decide)).1 g3
    have hu : uE = 1074 := rfl
    clear g3 g1 g2 e
    omega
  · have hm0 : 1 ≤ m := by
      rcases Nat.eq_zero_or_pos m with q | q
      · subst q
        have := U_pos
        rw [Nat.zero_mul] at g1; omega
      · exact q
    have g3 : 2 ^ (i + 1074).toNat ≤ 2 ^ (20 + uE) := by
      rw [Nat.pow_add]
      have g4 : 1 * 2 ^ (i + 1074).toNat ≤ m * 2 ^ (i + 1074).toNat := Nat.mul_le_mul_right _ hm0
      rw [show 2 ^ uE = U from rfl]
      generalize m * 2 ^ (i + 1074).toNat = a at *
      generalize 2 ^ (i + 1074).toNat = b at *
      omega
    have g5 : (i + 1074).toNat ≤ 20 + uE := (Nat.pow_le_pow_iff_right (by decide)).1 g3
    have hu : uE = 1074 := rfl
    clear g3 g1 g2 e
    omega
theorem log_two : (2 ^ 52).log2 = 52 := by decide
theorem quot_num (s t : Bool) (m n : Nat) (i j : Int) (hn : n ≠ 0) : (Ieee.Datum.number s m i).quotient 54 (.number t n j) = some (.number (s ^^ t) (2 * ((m <<< (54 + n.log2 - m.log2)) / n) + ((m <<< (54 + n.log2 - m.log2)) % n != 0).toNat) (i - j - ((54 + n.log2 - m.log2 : Nat) : Int) - 1)) := by
  unfold Ieee.Datum.quotient
  show (if n = 0 then _ else _) = _
  rw [if_neg hn]
theorem half_digits {m c i : Nat} (B : Nat) (hB : 0 < B) (hc : i = c) : 2 * (m * 2 ^ c * B / B) + (m * 2 ^ i * B % B != 0).toNat = m * 2 ^ (c + 1) := by
  subst hc
  rw [Nat.mul_div_cancel _ hB, Nat.mul_mod_left, Nat.pow_succ, ← Nat.mul_assoc, ← Nat.mul_assoc, Nat.mul_comm 2 m, Nat.mul_right_comm]
  rfl
theorem div_two_key {x : Nat} {s : Bool} {m : Nat} {i : Int} (hx : F64.read x = .number s m i) (h0 : m ≠ 0) (hi : -1073 ≤ i) : 2 * key (divM x TWO) = key x ∧ isNaN (divM x TWO) = false ∧ F64.div x TWO ≠ none := by
  have hm := read_mag hx
  have hp := read_place hx
  have hl : m.log2 < 53 := (Nat.log2_lt h0).2 hm
  obtain ⟨c, hc⟩ : ∃ c : Nat, 54 + (2 ^ 52).log2 - m.log2 = c + 52 := ⟨54 - m.log2, by rw [log_two]; omega⟩
  have hc2 : c = 54 - m.log2 := by rw [log_two] at hc; omega
  have hg : 0 < 2 ^ 52 := by decide
  have e : F64.div x TWO = some (F64.write (.number s (m * 2 ^ (c + 1)) (i - 2 - c))) := by
    unfold Ieee.Format.div
    rw [hx, read_two, show F64.fractionBits + 2 = 54 from rfl, quot_num _ _ _ _ _ _ (by decide), hc, Nat.shiftLeft_eq, Nat.pow_add, ← Nat.mul_assoc, half_digits _ hg rfl, Bool.xor_false, show i - -51 - ((c + 52 : Nat) : Int) - 1 = i - 2 - c by omega]
    rfl
  have e2 : divM x TWO = F64.nearest s (m * 2 ^ (c + 1)) (i - 2 - c) := by
    unfold divM
    rw [e]
    exact fop_write s _ _
  have k := key_exact (s := s) (m := m) (k := c + 1) (i := i - 1) hm (by omega) (by omega)
  rw [show i - 1 - ((c + 1 : Nat) : Int) = i - 2 - c by omega] at k
  refine ⟨?_, by rw [e2]; exact k.2, by rw [e]; simp⟩
  rw [e2, k.1]
  unfold key; rw [hx]
  show _ = Ieee.signed s m (i + 1074).toNat
  rw [show (i + 1074).toNat = (i - 1 + 1074).toNat + 1 by omega, signed_mul, Nat.pow_one]
  omega
/-- A whole number, and its half, snapped at two a step. -/
theorem snap_two {n : Int} (h1 : -32768 ≤ n) (h2 : n ≤ 32767) : snapOne (FloatKind.f64.nearest n) TWO = (2 * n, 0) := by
  by_cases h0 : n = 0
  · subst h0; decide
  have kn := nearest_int (n := n) (by omega) (by omega)
  have hk2 : 2 * key (FloatKind.f64.nearest n) = (2 * n) * (U : Int) := by rw [kn.1, Int.mul_assoc]
  obtain ⟨s, m, i, hr, _, _, hi⟩ := two_num hk2 (by omega) (by omega) (by omega) (nearest_num (by omega) (by omega))
  have km := mul_two_key hr hi
  rw [hk2] at km
  exact snapOne_exact (num_of_mul km.2 km.1 (by omega) (by omega)) km.1 (by omega) (by omega)
theorem snap_half {n : Int} (h1 : -32768 ≤ n) (h2 : n ≤ 32767) : isNaN (divM (FloatKind.f64.nearest n) TWO) = false ∧ snapOne (divM (FloatKind.f64.nearest n) TWO) TWO = (n, 0) := by
  by_cases h0 : n = 0
  · subst h0; decide
  have kn := nearest_int (n := n) (by omega) (by omega)
  have hk2 : 2 * key (FloatKind.f64.nearest n) = (2 * n) * (U : Int) := by rw [kn.1, Int.mul_assoc]
  obtain ⟨s, m, i, hr, hm0, hi1, _⟩ := two_num hk2 (by omega) (by omega) (by omega) (nearest_num (by omega) (by omega))
  have kd := div_two_key hr hm0 hi1
  refine ⟨kd.2.1, ?_⟩
  have hk3 : 2 * key (divM (FloatKind.f64.nearest n) TWO) = n * (U : Int) := by rw [kd.1, kn.1]
  have kb := key_bound hr
  have hkx : key (FloatKind.f64.nearest n) = Ieee.signed s m (i + 1074).toNat := by unfold key; rw [hr]; rfl
  rw [← hkx, ← kd.1] at kb
  obtain ⟨s2, m2, i2, hr2, _, _, hi2⟩ := two_num hk3 h0 (by omega) (by omega) (num_of_key kd.2.1 (by have := big_pos; generalize (2 : Int) ^ bigE = w at *; omega) (by have := big_pos; generalize (2 : Int) ^ bigE = w at *; omega))
  have km := mul_two_key hr2 hi2
  rw [hk3] at km
  exact snapOne_exact (num_of_mul km.2 km.1 (by omega) (by omega)) km.1 (by omega) (by omega)

/-! ### The law -/
def halfM (n : Int) : Nat × Nat := (FloatKind.f64.nearest n, divM (FloatKind.f64.nearest n) TWO)
theorem okSnapsL {us ns : List Int} {R : Bool → Prop} (hu : us.length ≤ 100000000) (hr : ∀ x ∈ ns, -32768 ≤ x ∧ x ≤ 32767) (hn : ns.length ≤ 100000000) (h : R true) : Ok9 us ns R := by
  apply ok9
  unfold T9
  refine okBegun (cnd_not (fun q => absurd q (by decide)) fun _ => okSpots hu ?_)
  have hx : (spotsOf us).length ≤ 100000000 := by rw [spotsOf, spotsM_len]; omega
  generalize spotsOf us = at' at *
  refine okSnap ⟨True, ?_, fun _ => ?_⟩
  · refine cnd_eq (fun q => ?_) fun _ => trivial
    have hs : snapR at' ONE = (at'.map (snapV ONE), 0) ∧ ∀ p ∈ at', snapE ONE p = 0 := by
      unfold snapR at *
      split at q
      · simp at q
      · rename_i hl
        rw [if_neg hl]
        cases hf : at'.find? (fun p => decide (snapE ONE p ≠ 0)) with
        | some p =>
          rw [hf] at q
          have := List.find?_some hf
          simp at this q
          exact absurd q this
        | none =>
          rw [List.find?_eq_none] at hf
          exact ⟨rfl, fun p hp => by simpa using hf p hp⟩
    have e1 : (snapR at' ONE).1 = at'.map (snapV ONE) := by rw [hs.1]
    have hall := hs.2
    rw [e1]
    refine cnd_ne (fun q => absurd (by simp) q) fun _ => ?_
    refine ⟨fun i => ∃ k : Nat, i = k ∧ k ≤ at'.length, fun i => ((at'.length : Int) - i).toNat, ⟨0, rfl, by omega⟩, ?_⟩
    rintro _ ⟨k, rfl, hk⟩
    rw [List.length_map]
    refine cnd_dec (fun hlt => ⟨by omega, hlt, fun z hz => ⟨by omega, hlt, fun p hp => fun r hr => okAbs ?_⟩⟩) fun _ => trivial
    rw [Int.toNat_natCast] at hz hp
    rw [List.getElem?_map, hp] at hz
    obtain rfl := Option.some.inj hz
    have he := hall p (List.mem_of_getElem? hp)
    have h1 : (snapOne p.1 ONE).2 = 0 := by
      unfold snapE at he
      split at he
      · assumption
      · rename_i q2; exact absurd he q2
    have h2 : (snapOne p.2 ONE).2 = 0 := by
      unfold snapE at he
      rw [if_pos h1] at he; exact he
    have n1 := snap_near h1
    have n2 := snap_near h2
    have w1 : absM r = absM (subM (FloatKind.f64.nearest (snapOne p.1 ONE).1) p.1) := feq_of (feq.abs (fres hr)) n1.1
    rw [w1]
    refine cnd_b (fun q => ?_) fun _ r2 hr2 => okAbs ?_
    · rw [show (FloatKind.f64.format.order (absM (subM (FloatKind.f64.nearest (snapOne p.1 ONE).1) p.1)) HALF == some .gt) = false from n1.2] at q
      cases q
    have w2 : absM r2 = absM (subM (FloatKind.f64.nearest (snapOne p.2 ONE).1) p.2) := feq_of (feq.abs (fres hr2)) n2.1
    rw [w2]
    refine cnd_b (fun q => ?_) fun _ => ?_
    · rw [show (FloatKind.f64.format.order (absM (subM (FloatKind.f64.nearest (snapOne p.2 ONE).1) p.2)) HALF == some .gt) = false from n2.2] at q
      cases q
    rw [wr (by omega) (by omega)]
    exact ⟨⟨k + 1, by simp, by omega⟩, by dsimp only; omega⟩
  · obtain ⟨c, hc⟩ : ∃ c : Nat, c = min ns.length 100 := ⟨_, rfl⟩
    refine ⟨fun l => l = (ns.take c).map halfM, ⟨fun l i => ∃ k : Nat, i = k ∧ k ≤ c ∧ l = (ns.take k).map halfM, fun _ i => ((c : Int) - i).toNat, ⟨0, rfl, by omega, by simp⟩, ?_⟩, ?_⟩
    · rintro _ _ ⟨k, rfl, hk, rfl⟩
      refine cnd_dec (fun h1 => cnd_dec (fun h2 => ⟨by omega, h1, fun n hn2 => fun r hr2 => ?_⟩) fun h2 => ?_) fun h1 => ?_
      · rw [Int.toNat_natCast] at hn2
        have hb := hr n (List.mem_of_getElem? hn2)
        have sh := snap_half hb.1 hb.2
        have e : r = divM (FloatKind.f64.nearest n) TWO := feq_of (fres hr2) sh.1
        rw [wr (by omega) (by omega), e]
        refine ⟨by simp; omega, ⟨k + 1, by simp, by omega, ?_⟩, by dsimp only; omega⟩
        rw [List.take_add_one, hn2]
        simp [halfM]
      · rw [show c = k by omega]
      · rw [show c = k by omega]
    · rintro _ rfl
      refine okSnap ?_
      have e0 : ∀ q ∈ (ns.take c).map halfM, snapE TWO q = 0 := fun q hq => by
        obtain ⟨n, hn2, rfl⟩ := List.mem_map.1 hq
        have hb := hr n (List.mem_of_mem_take hn2)
        unfold snapE halfM
        rw [snap_two hb.1 hb.2, if_pos rfl, (snap_half hb.1 hb.2).2]
      have e1 : snapR ((ns.take c).map halfM) TWO = (((ns.take c).map halfM).map (snapV TWO), 0) := snapR_ok (by simp; omega) e0
      rw [e1]
      refine cnd_ne (fun q => absurd rfl q) fun _ => cnd_ne (fun q => absurd (by simp) q) fun _ => ?_
      refine ⟨fun i => ∃ k : Nat, i = k ∧ k ≤ c, fun i => ((c : Int) - i).toNat, ⟨0, rfl, by omega⟩, ?_⟩
      rintro _ ⟨k, rfl, hk⟩
      have hlen : (((ns.take c).map halfM).map (snapV TWO)).length = c := by simp; omega
      rw [hlen]
      refine cnd_dec (fun hlt => ⟨by omega, hlt, fun z hz => ⟨by omega, by omega, fun n hn2 => ?_⟩⟩) fun _ => h
      rw [Int.toNat_natCast] at hz hn2
      have hb := hr n (List.mem_of_getElem? hn2)
      have hz2 : z = (2 * n, n) := by
        rw [List.getElem?_map, List.getElem?_map, List.getElem?_take_of_lt (by omega), hn2] at hz
        have := (Option.some.inj hz).symm
        rw [this]
        unfold snapV halfM
        rw [snap_two hb.1 hb.2, (snap_half hb.1 hb.2).2]
      subst hz2
      rw [wr (x := n) (by omega) (by omega), wr (x := 2 * n) (by omega) (by omega), wr (x := (k : Int) + 1) (by omega) (by omega)]
      exact cnd_not (fun q => by simp at q) fun _ => ⟨⟨k + 1, by simp, by omega⟩, by dsimp only; omega⟩
end Go.Proofs.Ytmcloipjlihhlaa.N
namespace Go.Proofs.Ytmcloipjlihhlaa
open Go.X in
theorem TutteSnaps_ok {a b : List Int} {h : Heap} {a0 a1 : Option Addr} {l0 l1 c0 c1 : Nat} (ha : a.length ≤ 1048576) (hb : b.length ≤ 1048576) (hr : ∀ x ∈ b, -32768 ≤ x ∧ x ≤ 32767) (hp : Hp h [Ck.vw (eK .u64) a0 l0 c0 a, Ck.vw (eK .i16) a1 l1 c1 b]) :
    CallsH Try.prog 9 #[.slice a0 l0 c0, .slice a1 l1 c1] h fun v h' => Fr [] h h' ∧ v = .bool true :=
  (N.okSnapsL (R := fun b => b = true) (by omega) hr (by omega) rfl h _ _ _ _ _ _ hp).mono fun _ _ ⟨_, Y, e, q⟩ => ⟨Y.fr, q ▸ e⟩
end Go.Proofs.Ytmcloipjlihhlaa
