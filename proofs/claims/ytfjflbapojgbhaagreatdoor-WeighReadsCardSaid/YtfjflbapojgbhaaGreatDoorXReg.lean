/- One operation with its guard; regions in the order of the text. Conditions: the table of types is the program's; the called functions have bodies. -/
import Derived.Test.YtfjflbapojgbhaaGreatDoorXAct4
import Derived.OrdersIn
namespace Go.X
variable {B : Option Nat}

/-- What the walk of one function knows beforehand. -/
structure Env where
  P : Program
  T : TAB
  F : List Nat
  privs : List Nat
  n : Nat
def isAct (T : TAB) (op : Op) : Bool :=
  match op with
  | .box _ _ | .alloc _ | .buildSlice _ _ _ | .makeSlice _ _ _ | .store _ _ _ => true
  | .binOp op t _ _ _ => (match op with
    | .add | .sub | .mul | .quo => (match tl T t with
      | some ti => (match ti.kids with
        | .float _ => true
        | _ => false)
      | none => false)
    | _ => false)
  | .convert s t _ => (match tl T s with
    | some si => (match si.kids with
      | .float _ => (match tl T t with
        | some ti => (match ti.kids with
          | .int _ => true
          | _ => false)
        | none => false)
      | .slice _ => (match tl T t with
        | some ti => (match ti.kids with
          | .none => Nat.beq ti.tag 5
          | _ => false)
        | none => false)
      | _ => false)
    | none => false)
  | .call c => (match c.callee with
    | .builtin .append => true
    | .value _ => true
    | _ => false)
  | _ => false
/-- Both ways. -/
def cnd (c : Bool) (p q : Prop) : Prop := (c = true → p) ∧ (c = false → q)
def splitB (x : AVal) (K : AVal → Prop) : Prop :=
  match x with
  | .val (.bool c) => cnd c (K (.lit true)) (K (.lit false))
  | x => K x
theorem splitB_elim {x : AVal} {K : AVal → Prop} (h : splitB x K) (lc : List Priv) : ∃ y, y.conc lc = x.conc lc ∧ K y := by
  unfold splitB at h
  split at h
  · rename_i c
    cases c
    · exact ⟨.lit false, rfl, h.2 rfl⟩
    · exact ⟨.lit true, rfl, h.1 rfl⟩
  · exact ⟨_, rfl, h⟩
def isGuard (ops : List Oper) (i : Nat) : Bool :=
  match ops with
  | [] => false
  | o :: r => match o.guard with
    | some (j, _) => (match Nat.beq j i with
      | true => true
      | false => isGuard r i)
    | none => isGuard r i
/-- Is the operation carried out? -/
def wantX (ops : List Oper) (st : St) (o : Oper) : Option Bool :=
  match o.guard with
  | none => some true
  | some (j, want) => match ops[j]? with
    | some oj => (match oj.dst with
      | some d => (match look st.fr d with
        | some (.lit b) => some (match b with
          | true => want
          | false => !want)
        | some (.val (.tuple _)) => some false
        | _ => none)
      | none => none)
    | none => none
theorem wantX_ok {ops : List Oper} {st : St} {o : Oper} {a : Act} {b : Bool} (hf : FrOK st a) (h : wantX ops st o = some b) : Region.wanted o (yielded ops.toArray a.tmps) = b := by
  unfold wantX at h
  unfold Region.wanted
  split at h
  · rename_i hg; simp [hg] at h ⊢; exact h
  · rename_i j want hg
    simp only [hg]
    split at h
    · rename_i oj hj
      split at h
      · rename_i d hd
        have hy : yielded ops.toArray a.tmps j = (match a.tmps[d]? with | some (.bool b) => some b | _ => none) := by
          unfold yielded
          simp [hj, hd]
          rfl
        rw [hy]
        split at h
        · rename_i c hl
          obtain ⟨v, hv, ht⟩ := hf _ _ hl
          simp only [AVal.conc, Option.some.injEq] at hv
          rw [ht, ← hv]
          simp only [Option.some.injEq] at h
          rw [← h]
          cases c <;> cases want <;> rfl
        · rename_i hl
          obtain ⟨v, hv, ht⟩ := hf _ _ hl
          simp only [AVal.conc, Option.some.injEq] at hv
          rw [ht, ← hv]
          simp only [Option.some.injEq] at h
          rw [← h]
          rfl
        · cases h
      · cases h
    · cases h
/-- A result that decides what follows is parted on. -/
def afterX (g : Bool) (dst : Option Nat) (st : St) (K : St → Prop) : Prop :=
  match g with
  | false => K st
  | true => match dst with
    | some d => (match look st.fr d with
      | some x => splitB x fun x' => K (st.put dst x')
      | none => False)
    | none => False
theorem afterX_elim {g : Bool} {ro : RO} {n : Nat} {dst : Option Nat} {st : St} {K : St → Prop} {a : Act} {w : World} (h : afterX g dst st K) (r : Rel B st a w) (hok : dstOK ro n dst = true) :
    ∃ st', Rel B st' a w ∧ Keep ro st st' ∧ K st' := by
  cases g with
  | false => exact ⟨st, r, Keep.refl _ _, h⟩
  | true =>
    simp only [afterX] at h
    split at h
    · rename_i d
      split at h
      · rename_i x hx
        obtain ⟨y, hy, hk⟩ := splitB_elim h st.lc
        refine ⟨st.put (some d) y, ⟨fun t z hz => ?_, r.pr, r.ap, r.df⟩, Keep.put hok y, hk⟩
        simp only [St.put, look] at hz
        cases hb : Nat.beq d t with
        | true =>
          simp only [hb, Option.some.injEq] at hz
          have := Nat.eq_of_beq_eq_true hb
          subst this
          subst hz
          obtain ⟨v, h1, h2⟩ := r.fr _ _ hx
          exact ⟨v, hy.trans h1, h2⟩
        | false => simp only [hb] at hz; exact r.fr t z hz
      · exact h.elim
    · exact h.elim
def stepX (E : Env) (ro : RO) (ops : List Oper) (i : Nat) (o : Oper) (st : St) (h : Heap) (K : St → Heap → Prop) : Prop :=
  match dstOK ro E.n o.dst with
  | false => False
  | true => match wantX ops st o with
    | some true => (match isAct E.T o.op with
      | true => act E.P E.T E.F E.privs ro st h o fun st' h' => afterX (isGuard ops i) o.dst st' fun st'' => K st'' h'
      | false => det E.T st.lc none st h o.op fun x => afterX (isGuard ops i) o.dst (st.put o.dst x) fun st'' => K st'' h)
    | some false => K (st.put o.dst (.val undef)) h
    | none => False
structure Env.OK (E : Env) : Prop where
  T : TabOK E.P E.T
  F : FnsOK E.P E.F
  m : E.P.follows .mixedOrders = true
theorem stepX_sound {E : Env} (hE : E.OK) {ro : RO} {ops : List Oper} {i : Nat} {o : Oper} {st : St} {K : St → Heap → Prop} {a : Act} {w : World} {Q : Exit → Act → World → Prop}
    (d : stepX E ro ops i o st w.heap K) (r : Rel B st a w) (hn : a.tmps.size = E.n) :
    if Region.wanted o (yielded ops.toArray a.tmps) then o.wp E.P a w (Nx B ro st K a.tmps.size w) Q else Nx B ro st K a.tmps.size w (a.put o.dst undef) w := by
  unfold stepX at d
  split at d
  · exact d.elim
  · rename_i hok
    have hok' : dstOK ro a.tmps.size o.dst = true := by rw [hn]; exact hok
    split at d
    · rename_i hw
      rw [if_pos (wantX_ok r.fr hw)]
      split at d
      · refine Oper.wp_mono (fun a' w' => ?_) (act_sound hE.T hE.F r hok' d)
        rintro ⟨st', r', h1, h2, h3, h4⟩
        obtain ⟨st'', r'', k1, k2⟩ := afterX_elim h4 r' (h2 ▸ hok')
        exact ⟨st'', r'', h1, h2, h3.trans k1, k2⟩
      · obtain ⟨x, v, hc, hrun, hk⟩ := det_sound hE.T r.toL (Fr.refl _ _) d
        have hr' := r.put (dstOK_lt hok') hc
        obtain ⟨st'', r'', k1, k2⟩ := afterX_elim hk hr' (show dstOK ro (a.put o.dst v).tmps.size o.dst = true by rw [size_put]; exact hok')
        unfold Oper.wp
        rw [hrun]
        exact ⟨st'', r'', Rest.refl w, size_put _ _ _, (Keep.put hok' x).trans k1, k2⟩
    · rename_i hw
      rw [if_neg (by rw [wantX_ok r.fr hw]; simp)]
      exact ⟨_, r.put (dstOK_lt hok') rfl, Rest.refl w, size_put _ _ _, Keep.put hok' _, d⟩
    · exact d.elim
/-- A region in the order of the text. -/
def XR (E : Env) (ro : RO) (ops : List Oper) : List Oper → Nat → St → Heap → (St → Heap → Prop) → Prop
  | [], _, st, h, K => K st h
  | o :: r, i, st, h, K => stepX E ro ops i o st h fun st' h' => XR E ro ops r (i + 1) st' h' K
theorem XR_sound {E : Env} (hE : E.OK) {ro : RO} {ops : List Oper} {K : St → Heap → Prop} {Q : Exit → Act → World → Prop} {s0 : St} {w0 : World}
    (hQ : ∀ a w, Nx B ro s0 K E.n w0 a w → Q .normal a w) :
    ∀ (l : List Oper) (i : Nat) (st : St) (a : Act) (w : World), XR E ro ops l i st w.heap K → Rel B st a w → a.tmps.size = E.n → Rest w0 w → Keep ro s0 st → wpList E.P ops.toArray Q l a w
  | [], _, st, a, w, d, r, hn, hr, hk => hQ a w ⟨st, r, hr, hn, hk, d⟩
  | o :: l, i, st, a, w, d, r, hn, hr, hk => by
    have h := stepX_sound hE (Q := Q) d r hn
    have hnext : ∀ a' w', Nx B ro st (fun st' h' => XR E ro ops l (i + 1) st' h' K) a.tmps.size w a' w' → wpList E.P ops.toArray Q l a' w' := by
      rintro a' w' ⟨st', r', h1, h2, h3, h4⟩
      exact XR_sound hE hQ l (i + 1) st' a' w' h4 r' (h2.trans hn) (hr.trans h1) (hk.trans h3)
    unfold wpList
    split
    · rename_i hw
      rw [if_pos hw] at h
      exact .inl (Oper.wp_mono hnext h)
    · rename_i hw
      rw [if_neg hw] at h
      exact hnext _ _ h
/-- Every function; of a round, or not. -/
def FF (q : Option Nat) : Fence := { Fence.wide with round := q }
theorem rowsIn_of {q : Option Nat} {n : Nat} {P : Program} {row : String} {args : Array Value} {w : World} {R : Value → World → Prop} (h : Rows P row args w R) : RowsIn (FF q) n P row args w R := fun c cs _ =>
  let ⟨v, w', r, s⟩ := h c cs; ⟨v, w', r, stepsIn_wide.2 s⟩
theorem Oper.wpIn_of {q : Option Nat} {n : Nat} {P : Program} {o : Oper} {a : Act} {w : World} {next : Act → World → Prop} {Q : Exit → Act → World → Prop} (ho : ∀ c, o.op ≠ .defer c) (h : o.wp P a w next Q) : o.wpIn (FF q) n P a w next Q := by
  refine ⟨fun _ _ => trivial, ?_⟩
  rw [Oper.semAt_eq _ _ _ ho]
  unfold Oper.wp at h
  generalize (execOp a.eval o).run P w = r at h
  unfold Oper.upon at h
  split at h
  · exact h
  · exact h
  · exact h
  · exact ⟨fun z => (by cases z), (callsIn_wide (n := n - 1)).2 h⟩
  · exact ⟨fun z => (by cases z), rowsIn_of h⟩
  · exact h
  · exact h.elim
theorem stepX_nd {E : Env} {ro : RO} {ops : List Oper} {i : Nat} {o : Oper} {st : St} {h : Heap} {K : St → Heap → Prop} (d : stepX E ro ops i o st h K) (hw : wantX ops st o = some true) : ∀ c, o.op ≠ .defer c := by
  intro c hc
  unfold stepX at d
  split at d
  · exact d
  · rw [hw] at d
    simp only [hc, isAct] at d
    exact d
theorem stepX_soundIn {E : Env} (hE : E.OK) {q : Option Nat} {n : Nat} {ro : RO} {ops : List Oper} {i : Nat} {o : Oper} {st : St} {K : St → Heap → Prop} {a : Act} {w : World} {Q : Exit → Act → World → Prop}
    (d : stepX E ro ops i o st w.heap K) (r : Rel B st a w) (hn : a.tmps.size = E.n) :
    if Region.wanted o (yielded ops.toArray a.tmps) then o.wpIn (FF q) n E.P a w (Nx B ro st K a.tmps.size w) Q else (∀ f, o.about E.P w a.eval = some f → (FF q).fn f) ∧ Nx B ro st K a.tmps.size w (a.put o.dst undef) w := by
  have h := stepX_sound hE (Q := Q) d r hn
  have hw : wantX ops st o ≠ none := fun e => by
    unfold stepX at d
    split at d
    · exact d
    · rw [e] at d; exact d
  obtain ⟨b, hb⟩ := Option.ne_none_iff_exists'.1 hw
  have hb' := wantX_ok r.fr hb
  cases b with
  | true =>
    rw [if_pos hb'] at h ⊢
    exact Oper.wpIn_of (stepX_nd d hb) h
  | false =>
    rw [if_neg (by rw [hb']; simp)] at h ⊢
    exact ⟨fun _ _ => trivial, h⟩
theorem wpIn_opmono {F : Fence} {n : Nat} {P : Program} {o : Oper} {a : Act} {w : World} {next next' : Act → World → Prop} {Q : Exit → Act → World → Prop} (hq : ∀ a w, next a w → next' a w) (h : o.wpIn F n P a w next Q) : o.wpIn F n P a w next' Q :=
  Oper.wpIn_mono hq h
theorem XR_soundIn {E : Env} (hE : E.OK) {q : Option Nat} {n : Nat} {ro : RO} {ops : List Oper} {K : St → Heap → Prop} {Q : Exit → Act → World → Prop} {s0 : St} {w0 : World}
    (hQ : ∀ a w, Nx B ro s0 K E.n w0 a w → Q .normal a w) :
    ∀ (l : List Oper) (i : Nat) (st : St) (a : Act) (w : World), XR E ro ops l i st w.heap K → Rel B st a w → a.tmps.size = E.n → Rest w0 w → Keep ro s0 st → wpListIn (FF q) n E.P ops.toArray Q l a w
  | [], _, st, a, w, d, r, hn, hr, hk => hQ a w ⟨st, r, hr, hn, hk, d⟩
  | o :: l, i, st, a, w, d, r, hn, hr, hk => by
    have h := stepX_soundIn hE (q := q) (n := n) (Q := Q) d r hn
    have hnext : ∀ a' w', Nx B ro st (fun st' h' => XR E ro ops l (i + 1) st' h' K) a.tmps.size w a' w' → wpListIn (FF q) n E.P ops.toArray Q l a' w' := by
      rintro a' w' ⟨st', r', h1, h2, h3, h4⟩
      exact XR_soundIn hE hQ l (i + 1) st' a' w' h4 r' (h2.trans hn) (hr.trans h1) (hk.trans h3)
    unfold wpListIn
    split
    · rename_i hw
      rw [if_pos hw] at h
      exact wpIn_opmono hnext h
    · rename_i hw
      rw [if_neg hw] at h
      exact ⟨h.1, hnext _ _ h.2⟩
end Go.X
