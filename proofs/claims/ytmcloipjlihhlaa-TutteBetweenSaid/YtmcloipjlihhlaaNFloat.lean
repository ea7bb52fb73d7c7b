/- Floats, as far as NaNs may differ: operations answer alike, and what is made clean is the same. Conditions: none. -/
import Derived.Test.YtmcloipjlihhlaaNExt
import Derived.Test.YtmcloipjlihhlaaTTutte
namespace Go.Proofs.Ytmcloipjlihhlaa.N
open Go.X Go.Proofs.Ytmcloipjlihhlaa
set_option maxRecDepth 100000

abbrev F64 : Ieee.Format := FloatKind.f64.format
theorem order_self (x : Nat) : F64.order x x = if isNaN x then none else some .eq := by
  unfold Ieee.Format.order isNaN Ieee.Datum.order Ieee.Datum.isNaN
  cases F64.read x with
  | nan s t => simp
  | infinity s => simp [Std.compare_self] <;> cases s <;> rfl
  | number s m i => simp [Std.compare_self]
theorem order_ne (x : Nat) : (F64.order x x != some .eq) = isNaN x := by
  rw [order_self]; cases isNaN x <;> rfl
theorem order_eq (x : Nat) : (F64.order x x == some .eq) = !isNaN x := by
  rw [order_self]; cases isNaN x <;> rfl
theorem read_nan {x : Nat} (h : isNaN x = true) : ∃ s t, F64.read x = .nan s t := by
  unfold isNaN Ieee.Datum.isNaN at h
  cases hr : F64.read x with
  | nan s t => exact ⟨s, t, rfl⟩
  | infinity s => rw [hr] at h; simp at h
  | number s m i => rw [hr] at h; simp at h
theorem order_nan_l {x y : Nat} (h : isNaN x = true) : F64.order x y = none := by
  obtain ⟨s, t, e⟩ := read_nan h
  simp [Ieee.Format.order, Ieee.Datum.order, e]
theorem order_nan_r {x y : Nat} (h : isNaN y = true) : F64.order x y = none := by
  obtain ⟨s, t, e⟩ := read_nan h
  unfold Ieee.Format.order
  rw [e]
  cases F64.read x <;> rfl

/-- Made clean. -/
def cleanM (x : Nat) : Nat := if isNaN x then 9221120237041090561 else if F64.order x 0 == some .eq then 0 else x
/-- The same, or NaNs both. -/
def feq (a b : Nat) : Prop := a = b ∨ (isNaN a = true ∧ isNaN b = true)
theorem feq.refl' (a : Nat) : feq a a := .inl rfl
theorem feq.clean {a b : Nat} (h : feq a b) : cleanM a = cleanM b := by
  rcases h with rfl | ⟨h1, h2⟩
  · rfl
  · simp [cleanM, h1, h2]
theorem feq.nan {a b : Nat} (h : feq a b) : isNaN a = isNaN b := by
  rcases h with rfl | ⟨h1, h2⟩
  · rfl
  · rw [h1, h2]
theorem feq.symm' {a b : Nat} (h : feq a b) : feq b a := h.elim (fun e => .inl e.symm) fun e => .inr ⟨e.2, e.1⟩
theorem feq.trans' {a b c : Nat} (h : feq a b) (k : feq b c) : feq a c := by
  rcases h with rfl | ⟨h1, h2⟩
  · exact k
  · exact .inr ⟨h1, by rw [← k.nan]; exact h2⟩
theorem nan_cut (x y n : Nat) : isNaN ((Question.nanBits .f64 x y).cut n) = true := by
  have hb : F64.binade = 4503599627370496 := by decide
  have hi : F64.infRung = 9218868437227405312 := by decide
  have hs : F64.signWeight = 9223372036854775808 := by decide
  have e : (Question.nanBits .f64 x y).cut n = (n % 2) * 2 ^ 63 + 0x7ff0000000000000 + 1 + (n / 2) % (2 ^ 52 - 1) := rfl
  unfold isNaN Ieee.Format.read
  simp only [hb, hi, hs, e]
  have h1 : (n / 2) % (2 ^ 52 - 1) < 2 ^ 52 - 1 := Nat.mod_lt _ (by decide)
  have h2 : n % 2 < 2 := Nat.mod_lt _ (by decide)
  generalize (n / 2) % (2 ^ 52 - 1) = z at *
  have e2 : (n % 2 * 2 ^ 63 + 9218868437227405312 + 1 + z) % 9223372036854775808 = 9218868437227405312 + 1 + z := by omega
  rw [e2, if_neg (by omega), if_neg (by omega), if_neg (by omega)]; rfl
def nanC : Nat := 9221120237041090561
theorem nanC_nan : isNaN nanC = true := by decide
/-- An operation's answer, the NaN being the one. -/
def fop (r : Option Nat) : Nat := r.getD nanC
theorem fres {x y r : Nat} {o : Option Nat} (h : FRes .f64 x y o r) : feq r (fop o) := by
  cases o with
  | some s => exact .inl h
  | none => obtain ⟨n, rfl⟩ := h; exact .inr ⟨nan_cut x y n, nanC_nan⟩
theorem sum_nan_l {d e : Ieee.Datum} (h : d.isNaN = true) : d.sum e = none := by
  cases d with
  | nan s t => rfl
  | infinity s => simp [Ieee.Datum.isNaN] at h
  | number s m i => simp [Ieee.Datum.isNaN] at h
theorem sum_nan_r {d e : Ieee.Datum} (h : e.isNaN = true) : d.sum e = none := by
  cases e with
  | nan s t => cases d <;> rfl
  | infinity s => simp [Ieee.Datum.isNaN] at h
  | number s m i => simp [Ieee.Datum.isNaN] at h
theorem prod_nan_l {d e : Ieee.Datum} (h : d.isNaN = true) : d.product e = none := by
  cases d with
  | nan s t => rfl
  | infinity s => simp [Ieee.Datum.isNaN] at h
  | number s m i => simp [Ieee.Datum.isNaN] at h
theorem prod_nan_r {d e : Ieee.Datum} (h : e.isNaN = true) : d.product e = none := by
  cases e with
  | nan s t => cases d <;> rfl
  | infinity s => simp [Ieee.Datum.isNaN] at h
  | number s m i => simp [Ieee.Datum.isNaN] at h
theorem quot_nan_l {n : Nat} {d e : Ieee.Datum} (h : d.isNaN = true) : d.quotient n e = none := by
  cases d with
  | nan s t => rfl
  | infinity s => simp [Ieee.Datum.isNaN] at h
  | number s m i => simp [Ieee.Datum.isNaN] at h
def addM (a b : Nat) : Nat := fop (F64.add a b)
def subM (a b : Nat) : Nat := fop (F64.sub a b)
def mulM (a b : Nat) : Nat := fop (F64.mul a b)
def divM (a b : Nat) : Nat := fop (F64.div a b)
theorem addM_nan_l {a b : Nat} (h : isNaN a = true) : addM a b = nanC := by simp [addM, Ieee.Format.add, sum_nan_l h, fop]
theorem addM_nan_r {a b : Nat} (h : isNaN b = true) : addM a b = nanC := by simp [addM, Ieee.Format.add, sum_nan_r h, fop]
theorem divM_nan_l {a b : Nat} (h : isNaN a = true) : divM a b = nanC := by simp [divM, Ieee.Format.div, quot_nan_l h, fop]
theorem feq.add {a b a' b' r : Nat} (ha : feq a a') (hb : feq b b') (h : FRes .f64 a b (F64.add a b) r) : feq r (addM a' b') := by
  have := fres h
  refine this.trans' ?_
  rcases ha with rfl | ⟨h1, h2⟩
  · rcases hb with rfl | ⟨h3, h4⟩
    · exact .inl rfl
    · exact .inl ((addM_nan_r h3).trans (addM_nan_r h4).symm)
  · exact .inl ((addM_nan_l h1).trans (addM_nan_l h2).symm)
theorem feq.div {a b a' r : Nat} (ha : feq a a') (h : FRes .f64 a b (F64.div a b) r) : feq r (divM a' b) := by
  refine (fres h).trans' ?_
  rcases ha with rfl | ⟨h1, h2⟩
  · exact .inl rfl
  · exact .inl ((divM_nan_l h1).trans (divM_nan_l h2).symm)

/-! ### Made clean: both texts -/
theorem callE_of {f : FuncId} {args : Array Value} {v : Value} {K : Value → Prop} (h : ExtH Try.prog f args (· = v)) (k : K v) : callE Try.prog f args K := ⟨_, h, fun _ e => e ▸ k⟩
theorem okClean {x : Nat} {R : Nat → Prop} (h : R (cleanM x)) : Ok147 x R := by
  apply ok147
  unfold T147
  rw [order_ne]
  refine cnd_b (fun hx => callE_of (frombits_ext _) ⟨_, rfl, ?_⟩) fun hx => cnd_b (fun h0 => ?_) fun h0 => ?_
  · simpa [cleanM, hx] using h
  · have h0 : (F64.order x 0 == some .eq) = true := h0
    simpa [cleanM, hx, h0] using h
  · have h0 : (F64.order x 0 == some .eq) = false := h0
    simpa [cleanM, hx, h0] using h
theorem okNaN {R : Nat → Prop} (h : R nanC) : Ok203 R := by
  apply ok203
  unfold T203
  exact callE_of (frombits_ext _) ⟨_, rfl, h⟩
theorem okCleanR {x : Nat} {R : Nat → Prop} (h : R (cleanM x)) : Ok143 x R := by
  apply ok143
  unfold T143
  rw [order_ne]
  refine cnd_b (fun hx => okNaN ?_) fun hx => cnd_b (fun h0 => ?_) fun h0 => ?_
  · simpa [cleanM, hx, nanC] using h
  · have h0 : (F64.order x 0 == some .eq) = true := h0
    simpa [cleanM, hx, h0] using h
  · have h0 : (F64.order x 0 == some .eq) = false := h0
    simpa [cleanM, hx, h0] using h

/-! ### Less, Abs, Bits -/
def lessM (a b : Nat) : Bool := if isNaN a then false else if isNaN b then true else F64.order a b == some .lt
theorem okLess {a b : Nat} {R : Bool → Prop} (h : R (lessM a b)) : Ok146 a b R := by
  apply ok146
  unfold T146
  rw [order_ne, order_ne, order_eq]
  refine cnd_b (fun ha => ?_) fun ha => cnd_b (fun hb => ?_) fun hb => ?_
  · simpa [lessM, ha] using h
  · simpa [lessM, ha, hb] using h
  · simpa [lessM, ha, hb] using h
theorem okLessR {a b : Nat} {R : Bool → Prop} (h : R (lessM a b)) : Ok148 a b R := by
  apply ok148
  unfold T148
  rw [order_ne, order_ne]
  refine cnd_b (fun ha => ?_) fun ha => cnd_b (fun hb => ?_) fun hb => ?_
  · simpa [lessM, ha] using h
  · simpa [lessM, ha, hb] using h
  · simpa [lessM, ha, hb] using h
def absM (x : Nat) : Nat := (bits .andNot .u64 (x : Int) (9223372036854775808 : Int)).toNat
theorem okAbs {x : Nat} {R : Nat → Prop} (h : R (absM x)) : Ok56 x R := by
  apply ok56
  unfold T56
  exact callE_of (bits_ext _) ⟨_, rfl, callE_of (frombits_ext _) ⟨_, rfl, h⟩⟩
theorem okBits {a b : Nat} {R : Bool → Prop} (h : R (a == b)) : Ok53 a b R := by
  apply ok53
  unfold T53
  refine callE_of (bits_ext _) ⟨_, rfl, callE_of (bits_ext _) ⟨_, rfl, ?_⟩⟩
  have : ((a : Int) == (b : Int)) = (a == b) := by rw [Bool.eq_iff_iff]; simp; omega
  rw [this]; exact h
end Go.Proofs.Ytmcloipjlihhlaa.N
