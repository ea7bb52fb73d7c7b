/- TutteMoved. Conditions: none. -/
import Derived.Test.YtmcloipjlihhlaaNKey
import Derived.Test.YtmcloipjlihhlaaNBegun
namespace Go.Proofs.Ytmcloipjlihhlaa.N
open Go.X Go.Proofs.Ytmcloipjlihhlaa
set_option maxRecDepth 100000

def absD : Ieee.Datum → Ieee.Datum
  | .number _ m i => .number false m i
  | .infinity _ => .infinity false
  | .nan _ t => .nan false t
theorem cut_even (s : Bool) (n d : Nat) : Ieee.Toward.even.cut s n d = Ieee.Toward.even.cut false n d := rfl
def rungOf (m : Nat) (i : Int) : Nat :=
  if m = 0 then 0 else
  min ((max (i + m.log2 - F64.fractionBits) F64.leastPlace - F64.leastPlace).toNat * F64.binade + Ieee.Toward.even.cut false (m <<< (i - max (i + m.log2 - F64.fractionBits) F64.leastPlace).toNat) (max (i + m.log2 - F64.fractionBits) F64.leastPlace - i).toNat) F64.infRung
theorem nearest_eq (s : Bool) (m : Nat) (i : Int) : F64.nearest s m i = F64.word s (rungOf m i) := by
  unfold Ieee.Format.nearest rungOf
  split
  · rfl
  · simp only [cut_even s]
theorem rungOf_le (m : Nat) (i : Int) : rungOf m i ≤ 2047 * 2 ^ 52 := by
  unfold rungOf
  rw [f_inf]
  split
  · exact Nat.zero_le _
  · exact Nat.min_le_right _ _
theorem word_false (r : Nat) : F64.word false r = r := by
  unfold Ieee.Format.word; simp
theorem nearest_word (s : Bool) (m : Nat) (i : Int) : ∃ r, r ≤ 2047 * 2 ^ 52 ∧ F64.nearest s m i = F64.word s r ∧ F64.nearest false m i = r :=
  ⟨_, rungOf_le m i, nearest_eq s m i, (nearest_eq false m i).trans (word_false _)⟩
theorem word_abs {s : Bool} {r : Nat} (h : r ≤ 2047 * 2 ^ 52) : absM (F64.word s r) = r := by
  rw [absM_eq]
  unfold Ieee.Format.word
  rw [f_sign]
  cases s
  · simp; omega
  · simp; omega
theorem abs_write {d : Ieee.Datum} (h : d.isNaN = false) : absM (F64.write d) = F64.write (absD d) := by
  cases d with
  | nan s t => simp [Ieee.Datum.isNaN] at h
  | infinity s =>
    show absM (F64.word s F64.infRung) = F64.word false F64.infRung
    rw [word_abs (by rw [f_inf]; omega)]; rfl
  | number s m i =>
    obtain ⟨r, h1, h2, h3⟩ := nearest_word s m i
    show absM (F64.nearest s m i) = F64.nearest false m i
    rw [h2, h3, word_abs h1]
/-- Differences either way about. -/
theorem sum_sym (d e : Ieee.Datum) : (d.sum e.opposite = none ∧ e.sum d.opposite = none) ∨ ∃ a b, d.sum e.opposite = some a ∧ e.sum d.opposite = some b ∧ a.isNaN = false ∧ b.isNaN = false ∧ absD a = absD b := by
  cases d with
  | nan s t => left; cases e <;> exact ⟨rfl, rfl⟩
  | infinity s =>
    cases e with
    | nan t u => left; exact ⟨rfl, rfl⟩
    | infinity t => cases s <;> cases t <;> simp [Ieee.Datum.sum, Ieee.Datum.opposite, Ieee.Datum.isNaN, absD]
    | number t n j => right; exact ⟨_, _, rfl, rfl, rfl, rfl, rfl⟩
  | number s m i =>
    cases e with
    | nan t u => left; exact ⟨rfl, rfl⟩
    | infinity t => right; exact ⟨_, _, rfl, rfl, rfl, rfl, rfl⟩
    | number t n j =>
      right
      refine ⟨_, _, rfl, rfl, rfl, rfl, ?_⟩
      have so : ∀ (s : Bool) (m a : Nat), Ieee.signed (!s) m a = -Ieee.signed s m a := fun s m a => by cases s <;> simp [Ieee.signed]
      simp only [absD]
      rw [so, so, show min j i = min i j by omega]
      generalize Ieee.signed s m _ = x
      generalize Ieee.signed t n _ = y
      rw [show (x + -y).natAbs = (y + -x).natAbs by omega]
theorem sub_sym (x y : Nat) : absM (subM x y) = absM (subM y x) ∧ isNaN (subM x y) = isNaN (subM y x) := by
  unfold subM Ieee.Format.sub
  rcases sum_sym (F64.read x) (F64.read y) with ⟨h1, h2⟩ | ⟨a, b, h1, h2, h3, h4, h5⟩
  · rw [h1, h2]; exact ⟨rfl, rfl⟩
  · have e : absM (fop ((((F64.read x).sum (F64.read y).opposite)).map F64.write)) = absM (fop ((((F64.read y).sum (F64.read x).opposite)).map F64.write)) := by
      rw [h1, h2]
      show absM (F64.write a) = absM (F64.write b)
      rw [abs_write h3, abs_write h4, h5]
    refine ⟨e, ?_⟩
    rw [← absM_nan, ← absM_nan (fop (Option.map _ ((F64.read y).sum _))), e]
theorem sub_nan {x y : Nat} (h : isNaN (subM x y) = false) : isNaN x = false ∧ isNaN y = false := by
  unfold subM Ieee.Format.sub at h
  constructor
  · rw [← Bool.not_eq_true]; intro q
    rw [sum_nan_l q] at h
    simp [fop] at h
    exact absurd nanC_nan (by simp [h])
  · rw [← Bool.not_eq_true]; intro q
    have q2 : (F64.read y).opposite.isNaN = true := by
      have q3 : (F64.read y).isNaN = true := q
      cases hr : F64.read y <;> rw [hr] at q3 <;> simp [Ieee.Datum.isNaN] at q3 <;> rfl
    rw [sum_nan_r q2] at h
    simp [fop] at h
    exact absurd nanC_nan (by simp [h])
theorem pos_mul {a b : Nat} (h : 1 ≤ a) (hb : 0 < b) : 0 < a * b := Nat.mul_pos h hb
theorem nearest_pos {m : Nat} {i : Int} (hm : m ≠ 0) (hi : -1074 ≤ i) : F64.nearest false m i ≠ 0 := by
  rw [nearest_eq, word_false]
  unfold rungOf
  rw [if_neg hm, f_least, show F64.fractionBits = 52 from rfl]
  have hI : 0 < F64.infRung := by decide
  have hB : 0 < F64.binade := by decide
  generalize F64.infRung = I at *
  generalize F64.binade = B at *
  generalize (m.log2 : Int) = lg
  by_cases hc : i + lg - ((52 : Nat) : Int) ≤ -1074
  · have e : max (i + lg - ((52 : Nat) : Int)) (-1074) = -1074 := by omega
    rw [e, show ((-1074 : Int) - i).toNat = 0 by omega]
    have ec : ∀ n, Ieee.Toward.even.cut false n 0 = n := fun n => by
      simp [Ieee.Toward.cut, Nat.mod_one]
    rw [ec]
    have h1 : 0 < m <<< (i - -1074).toNat := by
      rw [Nat.shiftLeft_eq]
      exact Nat.mul_pos (by omega) (Nat.pow_pos (by decide))
    generalize m <<< (i - -1074).toNat = z at *
    generalize ((-1074 : Int) - -1074).toNat * B = y
    omega
  · have e : max (i + lg - ((52 : Nat) : Int)) (-1074) = i + lg - ((52 : Nat) : Int) := by omega
    rw [e]
    have h1 : 0 < (i + lg - ((52 : Nat) : Int) - -1074).toNat * B := pos_mul (by omega) hB
    generalize (i + lg - ((52 : Nat) : Int) - -1074).toNat * B = z at *
    generalize Ieee.Toward.even.cut false _ _ = y
    omega
theorem sum_zero {d e a : Ieee.Datum} (h : d.sum e.opposite = some a) (hz : absM (F64.write a) = 0) (pd : ∀ s m i, d = .number s m i → -1074 ≤ i) (pe : ∀ s m i, e = .number s m i → -1074 ≤ i) : keyD d = keyD e := by
  have inf_no : ∀ s, absM (F64.write (.infinity s)) ≠ 0 := fun s => by
    rw [abs_write rfl]
    show F64.word false F64.infRung ≠ 0
    rw [word_false]; decide
  cases d with
  | nan s t => cases e <;> simp [Ieee.Datum.sum] at h
  | infinity s =>
    cases e with
    | nan t u => simp [Ieee.Datum.sum, Ieee.Datum.opposite] at h
    | infinity t =>
      simp only [Ieee.Datum.sum, Ieee.Datum.opposite] at h
      split at h
      · cases h; exact absurd hz (inf_no _)
      · cases h
    | number t n j =>
      simp only [Ieee.Datum.sum, Ieee.Datum.opposite] at h
      cases h; exact absurd hz (inf_no _)
  | number s m i =>
    cases e with
    | nan t u => simp [Ieee.Datum.sum, Ieee.Datum.opposite] at h
    | infinity t =>
      simp only [Ieee.Datum.sum, Ieee.Datum.opposite] at h
      cases h; exact absurd hz (inf_no _)
    | number t n j =>
      have pa := pd _ _ _ rfl
      have pb := pe _ _ _ rfl
      simp only [keyD]
      have e1 : (i + 1074).toNat = (i - min i j).toNat + (min i j + 1074).toNat := by omega
      have e2 : (j + 1074).toNat = (j - min i j).toNat + (min i j + 1074).toNat := by omega
      rw [e1, e2, signed_mul, signed_mul]
      simp only [Ieee.Datum.sum, Ieee.Datum.opposite] at h
      have h := (Option.some.inj h).symm
      subst h
      rw [abs_write rfl] at hz
      have hz : F64.nearest false _ _ = 0 := hz
      have so : ∀ (s : Bool) (m a : Nat), Ieee.signed (!s) m a = -Ieee.signed s m a := fun s m a => by cases s <;> simp [Ieee.signed]
      rw [so] at hz
      generalize Ieee.signed s m _ = a at *
      generalize Ieee.signed t n _ = b at *
      by_cases hab : (a + -b).natAbs = 0
      · rw [show a = b by omega]
      · exact absurd hz (nearest_pos hab (by omega))
/-- Nothing between: just the same are nought apart. -/
theorem sub_zero {x y : Nat} (hn : isNaN (subM x y) = false) (hk : key (subM x y) = 0) : key x = key y := by
  have hr := key_rung hn hk
  rw [← absM_eq] at hr
  cases hs : (F64.read x).sum (F64.read y).opposite with
  | none =>
    have e : subM x y = nanC := by unfold subM Ieee.Format.sub; rw [hs]; rfl
    rw [e, nanC_nan] at hn; cases hn
  | some a =>
    have e : subM x y = F64.write a := by unfold subM Ieee.Format.sub; rw [hs]; rfl
    rw [e] at hr
    exact sum_zero hs hr (fun s m i q => (read_place q).1) (fun s m i q => (read_place q).1)

/-! ### The law -/
theorem wayX_sym (p q : Nat × Nat) : wayX p q = wayX q p := (sub_sym p.1 q.1).1
theorem wayY_sym (p q : Nat × Nat) : wayY p q = wayY q p := (sub_sym p.2 q.2).1
theorem bestK_sym (a b : Spots) : ∀ k, bestK a b k = bestK b a k
  | 0 => rfl
  | k + 1 => by simp only [bestK]; rw [bestK_sym a b k, wayX_sym, wayY_sym]
theorem movedR_sym (a b : Spots) : movedR a b = movedR b a := by
  unfold movedR
  by_cases h : a.length = b.length
  · rw [if_pos h, if_pos h.symm, bestK_sym, h]
  · rw [if_neg h, if_neg (fun q => h q.symm)]
theorem upM_nan {b d : Nat} (h : isNaN (upM b d) = false) : isNaN b = false ∧ isNaN d = false ∧ key b ≤ key (upM b d) ∧ key d ≤ key (upM b d) := by
  have hb : isNaN b = false := by
    rw [← Bool.not_eq_true]; intro q
    rw [upM_f (by simp [lessM, q]), q] at h; cases h
  have hd : isNaN d = false := by
    rw [← Bool.not_eq_true]; intro q
    rw [upM_t (by simp [lessM, q, hb]), q] at h; cases h
  have hl : lessM b d = decide (key b < key d) := by unfold lessM; rw [hb, hd, order_lt hb hd]; rfl
  refine ⟨hb, hd, ?_⟩
  by_cases q : key b < key d
  · rw [upM_t (by rw [hl]; simpa using q)]; omega
  · rw [upM_f (by rw [hl]; simpa using q)]; omega
theorem bestK_facts {a b : Spots} : ∀ k, isNaN (bestK a b k) = false → 0 ≤ key (bestK a b k) ∧ ∀ j, j < k → (isNaN (wayX (a.getD j (0, 0)) (b.getD j (0, 0))) = false ∧ key (wayX (a.getD j (0, 0)) (b.getD j (0, 0))) ≤ key (bestK a b k)) ∧ isNaN (wayY (a.getD j (0, 0)) (b.getD j (0, 0))) = false ∧ key (wayY (a.getD j (0, 0)) (b.getD j (0, 0))) ≤ key (bestK a b k)
  | 0, _ => ⟨by rw [bestK, key_zero]; omega, by omega⟩
  | k + 1, h => by
    rw [bestK] at *
    obtain ⟨h1, h2, h3, h4⟩ := upM_nan h
    obtain ⟨g1, g2, g3, g4⟩ := upM_nan h1
    obtain ⟨f1, f2⟩ := bestK_facts k g1
    refine ⟨by omega, fun j hj => ?_⟩
    by_cases e : j = k
    · subst e; exact ⟨⟨g2, by omega⟩, h2, h4⟩
    · have := f2 j (by omega)
      exact ⟨⟨this.1.1, by omega⟩, this.2.1, by omega⟩
theorem way_zero {x y : Nat} (hn : isNaN (absM (subM x y)) = false) (hk : key (absM (subM x y)) ≤ 0) : F64.order x y == some .eq := by
  rw [absM_nan] at hn
  rw [key_abs] at hk
  obtain ⟨hx, hy⟩ := sub_nan hn
  rw [order_same hx hy]
  simpa using sub_zero hn (by omega)
theorem feq_of {a b : Nat} (h : feq a b) (hb : isNaN b = false) : a = b := by
  rcases h with h | ⟨_, h⟩
  · exact h
  · rw [hb] at h; cases h
theorem okMovedL {a b : List Int} {R : Bool → Prop} (ha : a.length ≤ 100000000) (hb : b.length ≤ 100000000) (h : R true) : Ok11 a b R := by
  apply ok11
  unfold T11
  refine okBegun (cnd_not (fun q => absurd q (by decide)) fun _ => okSpots ha (okSpots hb ?_))
  have hx : (spotsOf a).length ≤ 100000000 := by rw [spotsOf, spotsM_len]; omega
  have hy : (spotsOf b).length ≤ 100000000 := by rw [spotsOf, spotsM_len]; omega
  generalize spotsOf a = x at *
  generalize spotsOf b = y at *
  refine okMoved (by omega) (okMoved (by omega) ?_)
  rw [movedR_sym y x]
  refine ⟨False, cnd_ne (fun q => absurd rfl q) fun _ => okBits (cnd_not (fun q => by simp at q) fun _ => ?_), False.elim⟩
  by_cases hl : x.length = y.length
  · have e : movedR x y = (cleanM (bestK x y x.length), 0) := by unfold movedR; rw [if_pos hl]
    rw [e]
    refine cnd_not (fun q => by simp [hl] at q) fun _ => cnd_ne (fun q => absurd rfl q) fun _ => okIsNaN (cnd_b (fun q => cnd_eq (fun _ => h) (fun q => absurd rfl q)) fun q => ?_)
    rw [clean_nan] at q
    have hf := bestK_facts x.length q
    have hq : isNaN (cleanM (bestK x y x.length)) = false := by rw [clean_nan]; exact q
    have hk := key_clean q
    rw [order_same hq nan_zero, order_gt hq nan_zero, key_zero, hk]
    have hw : ∀ r : Nat, isNaN r = false → (F64.order r (cleanM (bestK x y x.length)) == some .gt) = decide (key (bestK x y x.length) < key r) := fun r hr => by rw [order_gt hr hq, hk]
    refine ⟨fun i => ∃ k : Nat, i = k ∧ k ≤ x.length, fun i => ((x.length : Int) - i).toNat, ⟨0, rfl, by omega⟩, ?_⟩
    rintro _ ⟨k, rfl, hk2⟩
    refine cnd_dec (fun hlt => ?_) fun hlt => ?_
    · have hfk := hf.2 k (by omega)
      have hat : ∀ p, x[k]? = some p → x.getD k (0, 0) = p := fun p hp => by simp [List.getD, hp]
      have hbt : ∀ p, y[k]? = some p → y.getD k (0, 0) = p := fun p hp => by simp [List.getD, hp]
      refine ⟨True, cnd_dec (fun hz => ⟨by omega, hlt, fun p hp => ⟨by omega, by omega, fun p2 hp2 => ?_⟩⟩) fun _ => trivial, fun _ => ⟨by omega, hlt, fun p hp => ⟨by omega, by omega, fun p2 hp2 => fun r hr => okAbs ?_⟩⟩⟩
      · rw [Int.toNat_natCast] at hp hp2
        rw [hat p hp, hbt p2 hp2] at hfk
        have z1 := way_zero hfk.1.1 (by rw [← hz]; exact hfk.1.2)
        have z2 := way_zero hfk.2.1 (by rw [← hz]; exact hfk.2.2)
        refine cnd_b (fun q => ?_) fun _ => cnd_b (fun q => ?_) fun _ => trivial
        · simp at z1 q; exact absurd z1 q
        · simp at z2 q; exact absurd z2 q
      · rw [Int.toNat_natCast] at hp hp2
        rw [hat p hp, hbt p2 hp2] at hfk
        have w1 : absM r = wayX p p2 := feq_of (feq.abs (fres hr)) hfk.1.1
        rw [w1, hw _ hfk.1.1]
        refine cnd_dec (fun q => by omega) fun _ r2 hr2 => okAbs ?_
        have w2 : absM r2 = wayY p p2 := feq_of (feq.abs (fres hr2)) hfk.2.1
        rw [w2, hw _ hfk.2.1]
        refine cnd_dec (fun q => by omega) fun _ => ?_
        rw [wr (by omega) (by omega)]
        exact ⟨⟨k + 1, by simp, by omega⟩, by dsimp only; omega⟩
    · have : (decide (0 < key (bestK x y x.length)) || decide (key (bestK x y x.length) = 0)) = true := by
        have := hf.1
        simp; omega
      rw [this]; exact h
  · have e : movedR x y = (0, 1) := by unfold movedR; rw [if_neg hl]
    rw [e]
    refine cnd_not (fun q => by simp at q; omega) fun _ => cnd_ne (fun _ => cnd_eq (fun q => by simp at q) fun _ => ?_) fun q => by simp at q
    have e2 : (F64.order 0 0 == some .eq) = true := by decide
    have : R (F64.order 0 0 == some .eq) := by rw [e2]; exact h
    exact this
end Go.Proofs.Ytmcloipjlihhlaa.N
namespace Go.Proofs.Ytmcloipjlihhlaa
open Go.X in
theorem TutteMoved_ok {a b : List Int} {h : Heap} {a0 a1 : Option Addr} {l0 l1 c0 c1 : Nat} (ha : a.length ≤ 1048576) (hb : b.length ≤ 1048576) (hp : Hp h [Ck.vw (eK .u64) a0 l0 c0 a, Ck.vw (eK .u64) a1 l1 c1 b]) :
    CallsH Try.prog 11 #[.slice a0 l0 c0, .slice a1 l1 c1] h fun v h' => Fr [] h h' ∧ v = .bool true :=
  (N.okMovedL (R := fun b => b = true) (by omega) (by omega) rfl h _ _ _ _ _ _ hp).mono fun _ _ ⟨_, Y, e, q⟩ => ⟨Y.fr, q ▸ e⟩
end Go.Proofs.Ytmcloipjlihhlaa
