/- The operations that make or write memory, and calls, over an abstract state; the model's operation does so. Conditions: the table of types is the program's. -/
import Derived.Test.YtmcloipjlihhlaaXDet3
namespace Go.X

def mem (l : List Nat) (x : Nat) : Bool :=
  match l with
  | [] => false
  | y :: r => match Nat.beq y x with
    | true => true
    | false => mem r x
def noLoc (l : List (Nat × AVal)) (d : Nat) : Bool :=
  match l with
  | [] => true
  | (k, v) :: r => match Nat.beq k d with
    | true => noLoc r d
    | false => match v with
      | .loc s _ | .row s _ => (match Nat.beq s d with
        | true => false
        | false => noLoc r d)
      | _ => noLoc r d
def pdrop (l : List Priv) (d : Nat) : List Priv :=
  match l with
  | [] => []
  | p :: r => match Nat.beq p.slot d with
    | true => pdrop r d
    | false => p :: pdrop r d
theorem beq_false_ne {a b : Nat} (h : Nat.beq a b = false) : a ≠ b := fun e => by subst e; simp at h
theorem plook_pdrop {l : List Priv} {d s : Nat} (h : s ≠ d) : plook (pdrop l d) s = plook l s := by
  induction l with
  | nil => rfl
  | cons p r ih =>
    simp only [pdrop]
    cases hk : Nat.beq p.slot d with
    | true =>
      have : p.slot = d := Nat.eq_of_beq_eq_true hk
      have hn : Nat.beq p.slot s = false := by rw [← Bool.not_eq_true]; intro hh; exact h ((Nat.eq_of_beq_eq_true hh).symm.trans this)
      simp [ih, plook, hn]
    | false => simp only [plook, ih]
theorem noLoc_look {l : List (Nat × AVal)} {d : Nat} (h : noLoc l d = true) : ∀ t x, t ≠ d → look l t = some x → ∀ s o, (x = .loc s o ∨ x = .row s o) → s ≠ d := by
  induction l with
  | nil => intro t x _ hx; simp [look] at hx
  | cons p r ih =>
    obtain ⟨k, v⟩ := p
    intro t x htd hx s o hxs
    simp only [noLoc] at h
    simp only [look] at hx
    cases hkd : Nat.beq k d with
    | true =>
      simp only [hkd] at h
      have hkd' := Nat.eq_of_beq_eq_true hkd
      have hkt : Nat.beq k t = false := by rw [← Bool.not_eq_true]; intro hh; exact htd ((Nat.eq_of_beq_eq_true hh).symm.trans hkd')
      simp only [hkt] at hx
      exact ih h t x htd hx s o hxs
    | false =>
      simp only [hkd] at h
      cases hkt : Nat.beq k t with
      | true =>
        simp only [hkt, Option.some.injEq] at hx
        subst hx
        rcases hxs with rfl | rfl <;> simp only at h <;> cases hs : Nat.beq s d <;> simp only [hs] at h
        · exact beq_false_ne hs
        · cases h
        · exact beq_false_ne hs
        · cases h
      | false =>
        simp only [hkt] at hx
        refine ih ?_ t x htd hx s o hxs
        cases v <;> simp only at h <;> first | exact h | (rename_i s' o'; cases hs : Nat.beq s' d <;> simp only [hs] at h <;> first | exact h | cases h)
def hid (lc : List Priv) : List Nat := lc.map (·.blk)
/-- b is none of these. -/
def nin (b : Nat) (l : List Nat) (K : Prop) : Prop :=
  match l with
  | [] => K
  | x :: r => b ≠ x ∧ nin b r K
theorem nin_elim {b : Nat} {l : List Nat} {K : Prop} (h : nin b l K) : b ∉ l ∧ K := by
  induction l with
  | nil => exact ⟨by simp, h⟩
  | cons x r ih => obtain ⟨h1, h2⟩ := h; obtain ⟨h3, h4⟩ := ih h2; exact ⟨by simp [h1, h3], h4⟩
theorem plook_mem {l : List Priv} {s : Nat} {p : Priv} (h : plook l s = some p) : p ∈ l := by
  induction l with
  | nil => simp [plook] at h
  | cons q r ih =>
    simp only [plook] at h
    cases hk : Nat.beq q.slot s with
    | true => simp [hk] at h; simp [h]
    | false => simp only [hk] at h; exact List.mem_cons_of_mem _ (ih h)
theorem hid_mem {l : List Priv} {s : Nat} {p : Priv} (h : plook l s = some p) : p.blk ∈ hid l := List.mem_map_of_mem (plook_mem h)
theorem Rel.later {st : St} {a : Act} {w w' : World} (r : Rel st a w) (hp : ∀ s p, plook st.lc s = some p → w'.heap[p.blk]? = w.heap[p.blk]?) : Rel st a w' :=
  ⟨r.fr, fun s p h => (hp s p h).trans (r.pr s p h), r.ap, r.df⟩
theorem Rel.fr_later {st : St} {a : Act} {w w' : World} {M : List Nat} (r : Rel st a w) (hf : Fr M w.heap w'.heap) (hM : ∀ b ∈ hid st.lc, b ∉ M) : Rel st a w' :=
  r.later fun s p h => hf.blk p.blk (Array.getElem?_eq_some_iff.1 (r.pr s p h)).1 (hM _ (hid_mem h))
theorem Rel.put {st : St} {a : Act} {w : World} (r : Rel st a w) {dst : Option Tmp} (hd : ∀ d, dst = some d → d < a.tmps.size) {x : AVal} {v : Value} (hx : x.conc st.lc = some v) :
    Rel (st.put dst x) (a.put dst v) w := by
  cases dst with
  | none => exact r
  | some d =>
    refine ⟨fun t y hy => ?_, r.pr, r.ap, r.df⟩
    simp only [St.put, look] at hy
    cases hk : Nat.beq d t with
    | true =>
      have := Nat.eq_of_beq_eq_true hk
      subst this
      simp only [hk, Option.some.injEq] at hy
      subst hy
      exact ⟨v, hx, by simp [Act.put, hd d rfl]⟩
    | false =>
      simp only [hk] at hy
      obtain ⟨u, h1, h2⟩ := r.fr t y hy
      exact ⟨u, h1, by simp [Act.put, Array.getElem?_setIfInBounds_ne (beq_false_ne hk), h2]⟩
theorem size_put (a : Act) (dst : Option Tmp) (v : Value) : (a.put dst v).tmps.size = a.tmps.size := by cases dst <;> simp [Act.put]
/-- Slots and private blocks that may not be written. -/
structure RO where
  t : List Nat
  p : List Nat
  /-- .. and private blocks that may not be laid anew -/
  a : List Nat
def Priv.place (p : Priv) : Nat × TypeId := (p.blk, p.elem)
structure Keep (ro : RO) (st st' : St) : Prop where
  t : ∀ t, mem ro.t t = true → look st'.fr t = look st.fr t
  p : ∀ s, mem ro.p s = true → plook st'.lc s = plook st.lc s
  a : ∀ s, mem ro.a s = true → (plook st'.lc s).map Priv.place = (plook st.lc s).map Priv.place
theorem Keep.refl (ro : RO) (st : St) : Keep ro st st := ⟨fun _ _ => rfl, fun _ _ => rfl, fun _ _ => rfl⟩
theorem Keep.trans {ro : RO} {a b c : St} (h : Keep ro a b) (k : Keep ro b c) : Keep ro a c :=
  ⟨fun t ht => (k.t t ht).trans (h.t t ht), fun s hs => (k.p s hs).trans (h.p s hs), fun s hs => (k.a s hs).trans (h.a s hs)⟩
/-- A slot that may be written. -/
def dstOK (ro : RO) (n : Nat) (dst : Option Nat) : Bool :=
  match dst with
  | none => true
  | some d => match mem ro.t d with
    | true => false
    | false => Nat.blt d n
theorem dstOK_lt {ro : RO} {n : Nat} {dst : Option Nat} (h : dstOK ro n dst = true) : ∀ d, dst = some d → d < n := by
  rintro d rfl
  simp only [dstOK] at h
  cases hm : mem ro.t d <;> simp only [hm] at h
  · exact Nat.le_of_ble_eq_true h
  · cases h
theorem dstOK_ne {ro : RO} {n : Nat} {d : Nat} (h : dstOK ro n (some d) = true) {t : Nat} (ht : mem ro.t t = true) : Nat.beq d t = false := by
  simp only [dstOK] at h
  cases hm : mem ro.t d with
  | true => simp [hm] at h
  | false =>
    rw [← Bool.not_eq_true]
    intro hh
    have := Nat.eq_of_beq_eq_true hh
    subst this
    rw [hm] at ht
    cases ht
theorem Keep.put {ro : RO} {n : Nat} {st : St} {dst : Option Tmp} (h : dstOK ro n dst = true) (x : AVal) : Keep ro st (st.put dst x) := by
  cases dst with
  | none => exact Keep.refl _ _
  | some d => exact ⟨fun t ht => by simp [St.put, look, dstOK_ne h ht], fun _ _ => rfl, fun _ _ => rfl⟩
/-- What follows an operation: an abstract state that fits, the streams and the tape as they were, the frame as wide. -/
def Nx (ro : RO) (s0 : St) (K : St → Heap → Prop) (n : Nat) (w0 : World) (a : Act) (w : World) : Prop := ∃ st, Rel st a w ∧ Rest w0 w ∧ a.tmps.size = n ∧ Keep ro s0 st ∧ K st w.heap
def newBlk (ro : RO) (privs : List Nat) (st : St) (dst : Option Nat) (h : Heap) (e : Nat) (cells : List Value) (pub : AVal) (prv : Nat → AVal) (K : St → Heap → Prop) : Prop :=
  match dst with
  | some d => match mem privs d with
    | true => (match noLoc st.fr d && !mem ro.p d && !mem ro.a d with
      | true => K ⟨(d, prv d) :: st.fr, ⟨d, h.size, e, cells⟩ :: pdrop st.lc d⟩ (h.push (.cells cells.toArray e))
      | false => False)
    | false => K (st.put dst pub) (h.push (.cells cells.toArray e))
  | none => False
theorem newBlk_next {ro : RO} {privs : List Nat} {st : St} {dst : Option Nat} {e : Nat} {cells : List Value} {pub : AVal} {prv : Nat → AVal} {K : St → Heap → Prop} {a : Act} {w : World} {v : Value}
    (h : newBlk ro privs st dst w.heap e cells pub prv K) (r : Rel st a w) (hok : dstOK ro a.tmps.size dst = true)
    (hpub : pub.conc st.lc = some v) (hprv : ∀ d l, (prv d).conc (⟨d, w.heap.size, e, cells⟩ :: l) = some v) :
    Nx ro st K a.tmps.size w (a.put dst v) (w.alloc (.cells cells.toArray e)) := by
  have hd := dstOK_lt hok
  cases dst with
  | none => exact h.elim
  | some d =>
    simp only [newBlk] at h
    have hlt : ∀ s p, plook st.lc s = some p → p.blk < w.heap.size := fun s p hp => (Array.getElem?_eq_some_iff.1 (r.pr s p hp)).1
    have hr : Rel st a (w.alloc (.cells cells.toArray e)) := r.later fun s p hp => by
      show (w.heap.push _)[p.blk]? = _
      rw [Array.getElem?_push, if_neg (by have := hlt s p hp; omega)]
    cases hm : mem privs d with
    | false =>
      simp only [hm] at h
      exact ⟨_, hr.put hd hpub, ⟨rfl, rfl, rfl⟩, size_put _ _ _, Keep.put hok _, h⟩
    | true =>
      simp only [hm] at h
      cases hn0 : noLoc st.fr d && !mem ro.p d && !mem ro.a d with
      | false => simp [hn0] at h
      | true =>
        simp only [hn0] at h
        simp only [Bool.and_eq_true, Bool.not_eq_true'] at hn0
        obtain ⟨⟨hn, hnp⟩, hna⟩ := hn0
        have hkeep : ∀ x p, p.slot = d → Keep ro st ⟨(d, x) :: st.fr, p :: pdrop st.lc d⟩ := fun x p hp => ⟨fun t ht => by simp [look, dstOK_ne hok ht], fun s hs => by
          have hsd : s ≠ d := fun e => by subst e; rw [hnp] at hs; cases hs
          have hb : Nat.beq p.slot s = false := by rw [hp, ← Bool.not_eq_true]; intro hh; exact hsd (Nat.eq_of_beq_eq_true hh).symm
          simp [plook, hb, plook_pdrop hsd], fun s hs => by
          have hsd : s ≠ d := fun e => by subst e; rw [hna] at hs; cases hs
          have hb : Nat.beq p.slot s = false := by rw [hp, ← Bool.not_eq_true]; intro hh; exact hsd (Nat.eq_of_beq_eq_true hh).symm
          simp [plook, hb, plook_pdrop hsd]⟩
        refine ⟨_, ⟨fun t y hy => ?_, fun s p hp => ?_, fun s t p q hp hq hst => ?_, r.df⟩, ⟨rfl, rfl, rfl⟩, size_put _ _ _, hkeep _ _ rfl, h⟩
        · simp only [look] at hy
          cases hk : Nat.beq d t with
          | true =>
            have := Nat.eq_of_beq_eq_true hk
            subst this
            simp only [hk, Option.some.injEq] at hy
            subst hy
            exact ⟨v, hprv d _, by simp [Act.put, hd d rfl]⟩
          | false =>
            simp only [hk] at hy
            obtain ⟨u, h1, h2⟩ := r.fr t y hy
            refine ⟨u, ?_, by simp [Act.put, Array.getElem?_setIfInBounds_ne (beq_false_ne hk), h2]⟩
            have hl := noLoc_look hn t y (fun e => beq_false_ne hk e.symm) hy
            cases y with
            | loc s o =>
              have hsd := hl s o (.inl rfl)
              have : Nat.beq d s = false := by rw [← Bool.not_eq_true]; intro hh; exact hsd (Nat.eq_of_beq_eq_true hh).symm
              simpa [AVal.conc, plook, this, plook_pdrop hsd] using h1
            | row s o =>
              have hsd := hl s o (.inr rfl)
              have : Nat.beq d s = false := by rw [← Bool.not_eq_true]; intro hh; exact hsd (Nat.eq_of_beq_eq_true hh).symm
              simpa [AVal.conc, plook, this, plook_pdrop hsd] using h1
            | _ => exact h1
        · simp only [plook] at hp
          cases hk : Nat.beq d s with
          | true => simp [hk] at hp; subst hp; exact heap_alloc_new w _
          | false =>
            simp only [hk] at hp
            rw [plook_pdrop (fun e => beq_false_ne hk e.symm)] at hp
            exact hr.pr s p hp
        · simp only [plook] at hp hq
          cases hk : Nat.beq d s with
          | true =>
            have := Nat.eq_of_beq_eq_true hk
            subst this
            simp only [hk, Option.some.injEq] at hp
            have hk2 : Nat.beq d t = false := by rw [← Bool.not_eq_true]; intro hh; exact hst (Nat.eq_of_beq_eq_true hh)
            simp only [hk2] at hq
            rw [plook_pdrop (fun e => hst e.symm)] at hq
            have := hlt t q hq
            subst hp
            show w.heap.size ≠ q.blk
            omega
          | false =>
            simp only [hk] at hp
            rw [plook_pdrop (fun e => beq_false_ne hk e.symm)] at hp
            cases hk2 : Nat.beq d t with
            | true =>
              simp only [hk2, Option.some.injEq] at hq
              have := hlt s p hp
              subst hq
              show p.blk ≠ w.heap.size
              omega
            | false =>
              simp only [hk2] at hq
              rw [plook_pdrop (fun e => beq_false_ne hk2 e.symm)] at hq
              exact r.ap s t p q hp hq hst
end Go.X
