/- The heap-level words of the walks: frames between heaps, contracts that speak of heaps alone, abstract values and states. Conditions: none. -/
import Derived.WalkKit
import Derived.Deep.Quiet
namespace Go.X

abbrev Heap := Array Obj
/-- What a contract may not touch but the heap. -/
structure Rest (w w' : World) : Prop where
  os : w'.os = w.os
  tape : w'.tape = w.tape
  output : w'.output = w.output
theorem Rest.refl (w : World) : Rest w w := ⟨rfl, rfl, rfl⟩
theorem Rest.trans {a b c : World} (h : Rest a b) (k : Rest b c) : Rest a c := ⟨k.os.trans h.os, k.tape.trans h.tape, k.output.trans h.output⟩
def hcell (h : Heap) (b o : Nat) : Option Value :=
  match h[b]? with
  | some (.cells c _ _) => c[o]?
  | _ => none
def hfree (h : Heap) (b o : Nat) : Bool :=
  match h[b]? with
  | some (.cells _ _ (lo, hi)) => !(decide (lo ≤ o) && decide (o < hi))
  | _ => false
def hset (h : Heap) (b o : Nat) (v : Value) : Heap := h.modify b fun
  | .cells c elem frozen => .cells (c.setIfInBounds o v) elem frozen
  | o => o
theorem cell_hcell (w : World) (b o : Nat) : w.cell? ⟨b, o, none⟩ = hcell w.heap b o := by
  simp only [World.cell?, hcell]
  cases w.heap[b]? with
  | none => rfl
  | some x => cases x <;> rfl
theorem free_hfree {w : World} {b o : Nat} (h : hfree w.heap b o = true) : w.frozen? ⟨b, o, none⟩ = false := by
  simp only [World.frozen?, hfree] at *
  cases hb : w.heap[b]? with
  | none => rfl
  | some x =>
    cases x <;> simp_all
    omega
theorem heap_setCell (w : World) (b o : Nat) (v : Value) : (w.setCell ⟨b, o, none⟩ v).heap = hset w.heap b o v := rfl
theorem hset_of {h : Heap} {b o : Nat} {v : Value} {c : Array Value} {t : TypeId} {f : Nat × Nat} (hb : h[b]? = some (.cells c t f)) :
    (hset h b o v)[b]? = some (.cells (c.setIfInBounds o v) t f) := by
  simp [hset, Array.getElem?_modify, hb]
theorem hset_ne {h : Heap} {b o b' : Nat} {v : Value} (hb : b' ≠ b) : (hset h b o v)[b']? = h[b']? := by
  simp [hset, Array.getElem?_modify, Ne.symm hb]
@[simp] theorem size_hset (h : Heap) (b o : Nat) (v : Value) : (hset h b o v).size = h.size := by simp [hset]
/-- From h to h' the blocks that stood are as they were, but for those of M. -/
structure Fr (M : List Nat) (h h' : Heap) : Prop where
  size : h.size ≤ h'.size
  blk : ∀ b, b < h.size → b ∉ M → h'[b]? = h[b]?
theorem Fr.refl (M : List Nat) (h : Heap) : Fr M h h := ⟨Nat.le_refl _, fun _ _ _ => rfl⟩
theorem Fr.trans {M : List Nat} {a b c : Heap} (h : Fr M a b) (k : Fr M b c) : Fr M a c :=
  ⟨Nat.le_trans h.size k.size, fun i hi hm => (k.blk i (Nat.lt_of_lt_of_le hi h.size) hm).trans (h.blk i hi hm)⟩
theorem Fr.mono {M N : List Nat} {a b : Heap} (h : Fr M a b) (hmn : ∀ x, x ∈ M → x ∈ N) : Fr N a b :=
  ⟨h.size, fun i hi hm => h.blk i hi (fun hh => hm (hmn i hh))⟩
theorem Fr.nil {M : List Nat} {a b : Heap} (h : Fr [] a b) : Fr M a b := h.mono (by simp)
theorem Fr.push (h : Heap) (o : Obj) : Fr [] h (h.push o) :=
  ⟨by simp, fun b hb _ => by rw [Array.getElem?_push, if_neg (by omega)]⟩
theorem Fr.hset (h : Heap) (b o : Nat) (v : Value) : Fr [b] h (hset h b o v) :=
  ⟨by simp, fun i _ hm => hset_ne (by simpa using hm)⟩
theorem Fr.blk_some {M : List Nat} {a b : Heap} (h : Fr M a b) {i : Nat} {o : Obj} (hi : a[i]? = some o) (hm : i ∉ M) : b[i]? = some o :=
  (h.blk i (Array.getElem?_eq_some_iff.1 hi).1 hm).trans hi
theorem hcell_lt {h : Heap} {b o : Nat} {v : Value} (hc : hcell h b o = some v) : b < h.size := by
  unfold hcell at hc
  cases hb : h[b]? with
  | none => simp [hb] at hc
  | some x => exact (Array.getElem?_eq_some_iff.1 hb).1
theorem hcell_congr {h h' : Heap} {b : Nat} (hb : h'[b]? = h[b]?) (o : Nat) : hcell h' b o = hcell h b o := by simp [hcell, hb]
theorem hfree_congr {h h' : Heap} {b : Nat} (hb : h'[b]? = h[b]?) (o : Nat) : hfree h' b o = hfree h b o := by simp [hfree, hb]
theorem Fr.cell {M : List Nat} {a b : Heap} (h : Fr M a b) {i o : Nat} {v : Value} (hc : hcell a i o = some v) (hm : i ∉ M) : hcell b i o = some v :=
  (hcell_congr (h.blk i (hcell_lt hc) hm) o).trans hc
theorem hcell_of {h : Heap} {b : Nat} {c : Array Value} {t : TypeId} {f : Nat × Nat} (hb : h[b]? = some (.cells c t f)) (o : Nat) : hcell h b o = c[o]? := by simp [hcell, hb]
theorem hfree_of {h : Heap} {b : Nat} {c : Array Value} {t : TypeId} (hb : h[b]? = some (.cells c t (0, 0))) (o : Nat) : hfree h b o = true := by simp [hfree, hb]
/-- A contract: called over this heap the function returns, and so. -/
def CallsH (P : Program) (f : FuncId) (args : Array Value) (h : Heap) (R : Value → Heap → Prop) : Prop :=
  ∀ w : World, w.heap = h → Calls P f args w fun e w' => ∃ v, e = .returned v ∧ Rest w w' ∧ R v w'.heap
theorem CallsH.mono {P : Program} {f : FuncId} {args : Array Value} {h : Heap} {R R' : Value → Heap → Prop} (c : CallsH P f args h R)
    (hr : ∀ v h', R v h' → R' v h') : CallsH P f args h R' :=
  fun w hw => (c w hw).mono fun _ _ ⟨v, e1, e2, e3⟩ => ⟨v, e1, e2, hr _ _ e3⟩

inductive AVal where
  | val (v : Value)
  /-- a bool that is looked at -/
  | lit (b : Bool)
  | ptr (b o : Nat)
  | sl (b o len cap : Nat)
  /-- the address of cell 'o' of the private block that slot 's' laid -/
  | loc (s o : Nat)
  /-- the slice over the whole private block that slot 's' laid -/
  | row (s n : Nat)
/-- The private blocks: slot, block, element's type, cells. -/
structure Priv where
  slot : Nat
  blk : Nat
  elem : TypeId
  cells : List Value
structure St where
  fr : List (Nat × AVal)
  lc : List Priv
def look (l : List (Nat × AVal)) (t : Nat) : Option AVal :=
  match l with
  | [] => none
  | (k, v) :: r => match Nat.beq k t with
    | true => some v
    | false => look r t
def plook (l : List Priv) (s : Nat) : Option Priv :=
  match l with
  | [] => none
  | p :: r => match Nat.beq p.slot s with
    | true => some p
    | false => plook r s
/-- The value itself, where it speaks of no private block. -/
def AVal.out : AVal → Option Value
  | .val v => some v
  | .lit b => some (.bool b)
  | .ptr b o => some (.pointer (some ⟨b, o, none⟩))
  | .sl b o n c => some (.slice (some ⟨b, o, none⟩) n c)
  | _ => none
def AVal.conc (lc : List Priv) : AVal → Option Value
  | .val v => some v
  | .lit b => some (.bool b)
  | .ptr b o => some (.pointer (some ⟨b, o, none⟩))
  | .sl b o n c => some (.slice (some ⟨b, o, none⟩) n c)
  | .loc s o => (plook lc s).map fun p => .pointer (some ⟨p.blk, o, none⟩)
  | .row s n => (plook lc s).map fun p => .slice (some ⟨p.blk, 0, none⟩) n n
theorem AVal.conc_out {x : AVal} {v : Value} (h : x.out = some v) (lc : List Priv) : x.conc lc = some v := by
  cases x <;> simp_all [AVal.out, AVal.conc]
def Privs (lc : List Priv) (h : Heap) : Prop := ∀ s p, plook lc s = some p → h[p.blk]? = some (.cells p.cells.toArray p.elem (0, 0))
def Apart (lc : List Priv) : Prop := ∀ s t p q, plook lc s = some p → plook lc t = some q → s ≠ t → p.blk ≠ q.blk
def FrOK (st : St) (a : Act) : Prop := ∀ t x, look st.fr t = some x → ∃ v, x.conc st.lc = some v ∧ a.tmps[t]? = some v
structure Rel (st : St) (a : Act) (w : World) : Prop where
  fr : FrOK st a
  pr : Privs st.lc w.heap
  ap : Apart st.lc
  df : a.defers = []
/-- As much of it as an operation that only reads asks: the private blocks of L alone are looked into. -/
structure RelL (L : List Priv) (st : St) (a : Act) (w : World) : Prop where
  fr : FrOK st a
  pl : ∀ s p, plook L s = some p → plook st.lc s = some p ∧ w.heap[p.blk]? = some (.cells p.cells.toArray p.elem (0, 0))
theorem Rel.toL {st : St} {a : Act} {w : World} (r : Rel st a w) : RelL st.lc st a w := ⟨r.fr, fun s p h => ⟨h, r.pr s p h⟩⟩
def ev (st : St) : Operand → Option AVal
  | .tmp t => look st.fr t
  | .const (.bool b) => some (.lit b)
  | .const v => some (.val v)
  | .global g => some (.ptr g 0)
  | .func f => some (.val (.func (.func f) #[] #[]))
theorem ev_eval {st : St} {a : Act} (r : FrOK st a) {x : Operand} {y : AVal} (h : ev st x = some y) :
    ∃ v, y.conc st.lc = some v ∧ a.eval x = v := by
  cases x with
  | tmp t =>
    obtain ⟨v, h1, h2⟩ := r t y h
    exact ⟨v, h1, by simp [Act.eval, h2]⟩
  | const v =>
    cases v <;> simp [ev] at h <;> subst h <;> exact ⟨_, rfl, rfl⟩
  | global g => simp [ev] at h; subst h; exact ⟨_, rfl, rfl⟩
  | func f => simp [ev] at h; subst h; exact ⟨_, rfl, rfl⟩
/-- The value of an operand that speaks of no private block. -/
def evo (st : St) (x : Operand) : Option Value := (ev st x).bind AVal.out
theorem evo_eval {st : St} {a : Act} (r : FrOK st a) {x : Operand} {v : Value} (h : evo st x = some v) : a.eval x = v := by
  unfold evo at h
  cases hx : ev st x with
  | none => simp [hx] at h
  | some y =>
    simp [hx] at h
    obtain ⟨u, h1, h2⟩ := ev_eval r hx
    have := AVal.conc_out h st.lc
    rw [this] at h1
    rw [h2]
    exact (Option.some.inj h1).symm
def St.put (st : St) (dst : Option Tmp) (x : AVal) : St :=
  match dst with
  | some d => { st with fr := (d, x) :: st.fr }
  | none => st
/-- Slots written in the frame are those of the frame: the concrete frame must be wide enough. -/
def St.fits (st : St) (a : Act) : Prop := ∀ t x, look st.fr t = some x → t < a.tmps.size
end Go.X
