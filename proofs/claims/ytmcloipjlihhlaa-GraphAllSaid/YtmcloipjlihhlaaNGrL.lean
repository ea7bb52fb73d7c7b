/- Graphs as lists of what lives: ids and ends. Conditions: none. -/
import Derived.Test.YtmcloipjlihhlaaNGrS
namespace Go.X
/-- What lives of the edges: id, ends. -/
def lvE : Nat → List (Int × Int × Bool) → List (Int × Int × Int)
  | _, [] => []
  | i, x :: r => (if x.2.2 then [((i : Int) + 1, x.1, x.2.1)] else []) ++ lvE (i + 1) r
theorem lvE_app : ∀ (l r : List (Int × Int × Bool)) (i : Nat), lvE i (l ++ r) = lvE i l ++ lvE (i + l.length) r
  | [], r, i => by simp [lvE]
  | x :: l, r, i => by
    simp only [List.cons_append, lvE, lvE_app l r (i + 1), List.append_assoc, List.length_cons]
    rw [show i + 1 + l.length = i + (l.length + 1) by omega]
theorem idsN_app : ∀ (l r : List Bool) (i : Nat), idsN i (l ++ r) = idsN i l ++ idsN (i + l.length) r
  | [], r, i => by simp [idsN]
  | x :: l, r, i => by
    simp only [List.cons_append, idsN, idsN_app l r (i + 1), List.append_assoc, List.length_cons]
    rw [show i + 1 + l.length = i + (l.length + 1) by omega]
theorem idsE_lv : ∀ (l : List (Int × Int × Bool)) (i : Nat), idsE i l = (lvE i l).map (·.1)
  | [], i => rfl
  | x :: l, i => by
    simp only [idsE, lvE, List.map_append, idsE_lv l (i + 1)]
    split <;> rfl
theorem netE_lv (ns : List Bool) : ∀ (l : List (Int × Int × Bool)) (i : Nat), netE ns l = (lvE i l).map fun x => (toV ns x.2.1.toNat, toV ns x.2.2.toNat)
  | [], i => rfl
  | x :: l, i => by
    simp only [netE, lvE, List.map_append, netE_lv ns l (i + 1)]
    split <;> rfl
theorem atL_lv (v : Int) : ∀ (l : List (Int × Int × Bool)) (i : Nat), atL v i l = ((lvE i l).filter fun x => x.2.1 == v || x.2.2 == v).map (·.1)
  | [], i => rfl
  | x :: l, i => by
    obtain ⟨a, b, c⟩ := x
    simp only [atL, lvE, List.filter_append, List.map_append, atL_lv v l (i + 1)]
    cases c
    · simp
    · cases h : (a == v || b == v) <;> simp [h]
theorem lvE_range : ∀ (l : List (Int × Int × Bool)) (i : Nat) (x : Int × Int × Int), x ∈ lvE i l → (i : Int) + 1 ≤ x.1 ∧ x.1 ≤ (i : Int) + l.length
  | [], i, x, h => by simp [lvE] at h
  | y :: l, i, x, h => by
    simp only [lvE, List.mem_append] at h
    simp only [List.length_cons]
    rcases h with h | h
    · split at h
      · simp at h; subst h; simp; omega
      · simp at h
    · have := lvE_range l (i + 1) x h
      omega
theorem idsN_range : ∀ (l : List Bool) (i : Nat) (x : Int), x ∈ idsN i l → (i : Int) + 1 ≤ x ∧ x ≤ (i : Int) + l.length
  | [], i, x, h => by simp [idsN] at h
  | y :: l, i, x, h => by
    simp only [idsN, List.mem_append] at h
    simp only [List.length_cons]
    rcases h with h | h
    · split at h
      · simp at h; subst h; omega
      · simp at h
    · have := idsN_range l (i + 1) x h
      omega
theorem lvE_sorted : ∀ (l : List (Int × Int × Bool)) (i : Nat), (lvE i l).Pairwise fun x y => x.1 < y.1
  | [], i => List.Pairwise.nil
  | y :: l, i => by
    simp only [lvE]
    refine List.pairwise_append.2 ⟨?_, lvE_sorted l (i + 1), fun a ha b hb => ?_⟩
    · split <;> simp
    · have := lvE_range l (i + 1) b hb
      split at ha
      · simp at ha; subst ha; simp; omega
      · simp at ha
theorem idsN_sorted : ∀ (l : List Bool) (i : Nat), (idsN i l).Pairwise fun x y => x < y
  | [], i => List.Pairwise.nil
  | y :: l, i => by
    simp only [idsN]
    refine List.pairwise_append.2 ⟨?_, idsN_sorted l (i + 1), fun a ha b hb => ?_⟩
    · split <;> simp
    · have := idsN_range l (i + 1) b hb
      split at ha
      · simp at ha; subst ha; omega
      · simp at ha
theorem mem_lvE : ∀ {l : List (Int × Int × Bool)} {i : Nat} {k : Nat} {u v : Int}, ((i : Int) + k + 1, u, v) ∈ lvE i l ↔ l[k]? = some (u, v, true)
  | [], i, k, u, v => by simp [lvE]
  | (a, b, c) :: l, i, 0, u, v => by
    simp only [lvE, List.mem_append, List.getElem?_cons_zero]
    constructor
    · rintro (h | h)
      · cases c
        · simp at h
        · simp at h; simp [h]
      · have := (lvE_range l (i + 1) _ h).1
        simp only at this
        omega
    · intro h
      cases c
      · simp at h
      · left; simp at h ⊢; exact ⟨h.1.symm, h.2.symm⟩
  | (a, b, c) :: l, i, k + 1, u, v => by
    have ih := mem_lvE (l := l) (i := i + 1) (k := k) (u := u) (v := v)
    simp only [lvE, List.mem_append, List.getElem?_cons_succ, ← ih]
    have e : ((i + 1 : Nat) : Int) + (k : Int) + 1 = (i : Int) + ((k + 1 : Nat) : Int) + 1 := by omega
    rw [e]
    constructor
    · rintro (h | h)
      · split at h
        · simp at h; omega
        · simp at h
      · exact h
    · exact .inr
theorem mem_idsN : ∀ {l : List Bool} {i : Nat} {k : Nat}, (i : Int) + k + 1 ∈ idsN i l ↔ l[k]? = some true
  | [], i, k => by simp [idsN]
  | c :: l, i, 0 => by
    simp only [idsN, List.mem_append, List.getElem?_cons_zero]
    constructor
    · rintro (h | h)
      · cases c
        · simp at h
        · rfl
      · have := (idsN_range l (i + 1) _ h).1
        omega
    · intro h
      cases c
      · simp at h
      · left; simp
  | c :: l, i, k + 1 => by
    have ih := mem_idsN (l := l) (i := i + 1) (k := k)
    simp only [idsN, List.mem_append, List.getElem?_cons_succ, ← ih]
    have e : ((i + 1 : Nat) : Int) + (k : Int) + 1 = (i : Int) + ((k + 1 : Nat) : Int) + 1 := by omega
    rw [e]
    constructor
    · rintro (h | h)
      · split at h
        · simp at h; omega
        · simp at h
      · exact h
    · exact .inr
theorem modify_split {α : Type} {f : α → α} : ∀ {l : List α} {k : Nat} {x : α}, l[k]? = some x → ∃ a b, l = a ++ x :: b ∧ a.length = k ∧ l.modify k f = a ++ f x :: b
  | [], k, x, h => by simp at h
  | y :: l, 0, x, h => by
    simp at h; subst h
    exact ⟨[], l, rfl, rfl, rfl⟩
  | y :: l, k + 1, x, h => by
    obtain ⟨a, b, e1, e2, e3⟩ := modify_split (f := f) (l := l) (k := k) (x := x) (by simpa using h)
    exact ⟨y :: a, b, by rw [e1]; rfl, by simp [e2], by rw [List.modify_succ_cons, e3]; rfl⟩
theorem filter_all {α : Type} {p : α → Bool} {l : List α} (h : ∀ x ∈ l, p x = true) : l.filter p = l := List.filter_eq_self.2 h
theorem map_same {α : Type} {f : α → α} {l : List α} (h : ∀ x ∈ l, f x = x) : l.map f = l := by
  induction l with
  | nil => rfl
  | cons x l ih => rw [List.map_cons, h x (by simp), ih fun y hy => h y (List.mem_cons_of_mem _ hy)]
/-- One edge is changed. -/
theorem lvE_modify {l : List (Int × Int × Bool)} {k : Nat} {x : Int × Int × Bool} {f : Int × Int × Bool → Int × Int × Bool} (h : l[k]? = some x) :
    ∃ a b, lvE 0 l = a ++ (if x.2.2 then [((k : Int) + 1, x.1, x.2.1)] else []) ++ b ∧ lvE 0 (l.modify k f) = a ++ (if (f x).2.2 then [((k : Int) + 1, (f x).1, (f x).2.1)] else []) ++ b ∧ (∀ y ∈ a, y.1 < (k : Int) + 1) ∧ ∀ y ∈ b, (k : Int) + 1 < y.1 := by
  obtain ⟨a, b, e1, e2, e3⟩ := modify_split (f := f) h
  refine ⟨lvE 0 a, lvE (k + 1) b, ?_, ?_, fun y hy => ?_, fun y hy => ?_⟩
  · rw [e1, lvE_app, e2]; simp [lvE]
  · rw [e3, lvE_app, e2]; simp [lvE]
  · have := (lvE_range a 0 y hy).2; omega
  · have := (lvE_range b (k + 1) y hy).1; omega
theorem lvE_dead {l : List (Int × Int × Bool)} {k : Nat} (hk : k < l.length) : lvE 0 (l.modify k fun x => (x.1, x.2.1, false)) = (lvE 0 l).filter fun x => x.1 != (k : Int) + 1 := by
  obtain ⟨a, b, e1, e2, h1, h2⟩ := lvE_modify (f := fun x => (x.1, x.2.1, false)) (List.getElem?_eq_getElem hk)
  have f1 : a.filter (fun x => x.1 != (k : Int) + 1) = a := filter_all fun y hy => by have := h1 y hy; simp; omega
  have f2 : b.filter (fun x => x.1 != (k : Int) + 1) = b := filter_all fun y hy => by have := h2 y hy; simp; omega
  rw [e2, e1, List.filter_append, List.filter_append, f1, f2]
  cases l[k].2.2 <;> simp
def putE (e en v : Int) (x : Int × Int × Int) : Int × Int × Int := if x.1 = e then (if en = 0 then (x.1, v, x.2.2) else (x.1, x.2.1, v)) else x
theorem lvE_put {l : List (Int × Int × Bool)} {k : Nat} {en v : Int} (hk : k < l.length) : lvE 0 (l.modify k fun x => putEnd x en v) = (lvE 0 l).map (putE ((k : Int) + 1) en v) := by
  obtain ⟨a, b, e1, e2, h1, h2⟩ := lvE_modify (f := fun x => putEnd x en v) (List.getElem?_eq_getElem hk)
  have f1 : a.map (putE ((k : Int) + 1) en v) = a := map_same fun y hy => by have := h1 y hy; exact if_neg (by omega)
  have f2 : b.map (putE ((k : Int) + 1) en v) = b := map_same fun y hy => by have := h2 y hy; exact if_neg (by omega)
  rw [e2, e1, List.map_append, List.map_append, f1, f2]
  generalize l[k] = x
  obtain ⟨u, w, t⟩ := x
  by_cases c : en = 0 <;> cases t <;> simp [putEnd, putE, c]
theorem idsN_dead {l : List Bool} {k : Nat} (hk : k < l.length) : idsN 0 (l.set k false) = (idsN 0 l).filter fun x => x != (k : Int) + 1 := by
  obtain ⟨a, b, e1, e2, -⟩ := modify_split (f := fun _ => false) (List.getElem?_eq_getElem hk)
  generalize l[k] = x at e1
  subst e1
  have e4 : (a ++ x :: b).set k false = a ++ false :: b := by rw [List.set_append_right _ _ (by omega), e2]; simp
  have h1 : ∀ y ∈ idsN 0 a, (y != (k : Int) + 1) = true := fun y hy => by have := (idsN_range a 0 y hy).2; simp; omega
  have h2 : ∀ y ∈ idsN (k + 1) b, (y != (k : Int) + 1) = true := fun y hy => by have := (idsN_range b (k + 1) y hy).1; simp; omega
  rw [e4, idsN_app, idsN_app, List.filter_append, filter_all h1, e2, Nat.zero_add]
  congr 1
  simp only [idsN, List.filter_append, filter_all h2]
  cases x <;> simp
/-- A living node's place among them. -/
theorem toV_at {ns : List Bool} {x : Int} (h : x ∈ idsN 0 ns) : 0 ≤ toV ns x.toNat ∧ toV ns x.toNat < (idsN 0 ns).length ∧ (idsN 0 ns)[(toV ns x.toNat).toNat]? = some x := by
  have hr := idsN_range ns 0 x h
  obtain ⟨k, rfl⟩ : ∃ k : Nat, x = ((0 : Nat) : Int) + k + 1 := ⟨(x - 1).toNat, by omega⟩
  have hk := mem_idsN.1 h
  have ek : (((0 : Nat) : Int) + k + 1).toNat = k + 1 := by omega
  have hkl := (List.getElem?_eq_some_iff.1 hk).1
  obtain ⟨a, b, e1, e2, -⟩ := modify_split (f := id) hk
  have et : toV ns (k + 1) = ((idsN 0 a).length : Int) := by
    simp only [toV, List.getD_eq_getElem?_getD, hk]
    rw [e1, List.take_append_of_le_length (by omega), List.take_of_length_le (by omega)]; rfl
  rw [ek, et]
  have es : idsN 0 ns = idsN 0 a ++ ((k : Int) + 1) :: idsN (k + 1) b := by
    rw [e1, idsN_app, e2]; simp [idsN]
  refine ⟨by omega, by rw [es]; simp; omega, ?_⟩
  rw [es, show ((idsN 0 a).length : Int).toNat = (idsN 0 a).length by omega, List.getElem?_append_right (Nat.le_refl _)]
  simp
theorem sorted_get {α : Type} {l : List α} {f : α → Int} (h : l.Pairwise fun x y => f x < f y) {i j : Nat} {x y : α} (hx : l[i]? = some x) (hy : l[j]? = some y) (hij : i < j) : f x < f y := by
  obtain ⟨hi, rfl⟩ := List.getElem?_eq_some_iff.1 hx
  obtain ⟨hj, rfl⟩ := List.getElem?_eq_some_iff.1 hy
  exact List.pairwise_iff_getElem.1 h i j hi hj hij
/-- One id, one edge. -/
theorem lvE_uniq {l : List (Int × Int × Bool)} {x y : Int × Int × Int} (hx : x ∈ lvE 0 l) (hy : y ∈ lvE 0 l) (e : x.1 = y.1) : x = y := by
  obtain ⟨i, hi, rfl⟩ := List.getElem_of_mem hx
  obtain ⟨j, hj, rfl⟩ := List.getElem_of_mem hy
  rcases Nat.lt_trichotomy i j with c | c | c
  · have := sorted_get (f := (·.1)) (lvE_sorted l 0) (List.getElem?_eq_getElem hi) (List.getElem?_eq_getElem hj) c; omega
  · subst c; rfl
  · have := sorted_get (f := (·.1)) (lvE_sorted l 0) (List.getElem?_eq_getElem hj) (List.getElem?_eq_getElem hi) c; omega
end Go.X
namespace Go.X
open Go.Proofs.Ytmcloipjlihhlaa
def Gr.ns (G : Gr) : List Int := idsN 0 G.nodes
def Gr.es (G : Gr) : List (Int × Int × Int) := lvE 0 G.edges
section
variable {G : Gr} {e en u v : Int}
theorem Gr.node_iff : G.node v = true ↔ v ∈ G.ns := by
  constructor
  · intro h
    simp only [Gr.node, Bool.and_eq_true, decide_eq_true_eq] at h
    obtain ⟨⟨h1, h2⟩, h3⟩ := h
    have e1 : v = ((0 : Nat) : Int) + ((v - 1).toNat : Nat) + 1 := by omega
    rw [Gr.ns, e1, mem_idsN]
    rw [List.getD_eq_getElem?_getD] at h3
    rw [List.getElem?_eq_getElem (by omega)] at h3 ⊢
    simpa using h3
  · intro h
    have hr := idsN_range _ _ _ h
    have e1 : v = ((0 : Nat) : Int) + ((v - 1).toNat : Nat) + 1 := by omega
    rw [Gr.ns, e1, mem_idsN] at h
    have a1 : (1 : Int) ≤ v := by omega
    have a2 : v ≤ (G.nodes.length : Int) := by omega
    simp only [Gr.node, List.getD_eq_getElem?_getD, h, decide_eq_true a1, decide_eq_true a2]
    rfl
theorem Gr.mem_es {x : Int × Int × Int} (h : x ∈ G.es) : G.hasE x.1 = true ∧ G.edgeAt x.1 = (x.2.1, x.2.2, true) := by
  have hr := lvE_range _ _ _ h
  obtain ⟨e, u, v⟩ := x
  simp only at hr ⊢
  have e1 : e = ((0 : Nat) : Int) + ((e - 1).toNat : Nat) + 1 := by omega
  rw [Gr.es, e1, mem_lvE] at h
  have ea : G.edgeAt e = (u, v, true) := by rw [Gr.edgeAt, List.getD_eq_getElem?_getD, h]; rfl
  have a1 : (1 : Int) ≤ e := by omega
  have a2 : e ≤ (G.edges.length : Int) := by omega
  exact ⟨by simp only [Gr.hasE, ea, decide_eq_true a1, decide_eq_true a2]; rfl, ea⟩
theorem Gr.has_mem (h : G.hasE e = true) : (e, (G.edgeAt e).1, (G.edgeAt e).2.1) ∈ G.es := by
  simp only [Gr.hasE, Bool.and_eq_true, decide_eq_true_eq] at h
  obtain ⟨⟨h1, h2⟩, h3⟩ := h
  have hl : (e - 1).toNat < G.edges.length := by omega
  have e1 : e = ((0 : Nat) : Int) + ((e - 1).toNat : Nat) + 1 := by omega
  have ea : G.edgeAt e = G.edges[(e - 1).toNat] := by rw [Gr.edgeAt, List.getD_eq_getElem?_getD, List.getElem?_eq_getElem hl]; rfl
  rw [ea] at h3 ⊢
  have m := mem_lvE (l := G.edges) (i := 0) (k := (e - 1).toNat) (u := G.edges[(e - 1).toNat].1) (v := G.edges[(e - 1).toNat].2.1)
  rw [← e1, List.getElem?_eq_getElem hl] at m
  rw [Gr.es, m]
  exact congrArg some (Prod.ext rfl (Prod.ext rfl h3))
theorem Gr.has_range (h : G.hasE e = true) : 1 ≤ e ∧ e ≤ G.edges.length := by
  simp only [Gr.hasE, Bool.and_eq_true, decide_eq_true_eq] at h
  exact h.1
theorem Gr.node_range (h : G.node v = true) : 1 ≤ v ∧ v ≤ G.nodes.length := by
  simp only [Gr.node, Bool.and_eq_true, decide_eq_true_eq] at h
  exact h.1
theorem Gr.addN_ns : G.addN.ns = G.ns ++ [(G.nodes.length : Int) + 1] := by rw [Gr.ns, Gr.addN, Gr.did_nodes, idsN_app]; simp [idsN, Gr.ns]
theorem Gr.addN_es : G.addN.es = G.es := by rw [Gr.es, Gr.addN, Gr.did_edges]; rfl
theorem Gr.addE_ns : (G.addE u v).ns = G.ns := by rw [Gr.ns, Gr.addE, Gr.did_nodes]; rfl
theorem Gr.addE_es : (G.addE u v).es = G.es ++ [((G.edges.length : Int) + 1, u, v)] := by rw [Gr.es, Gr.addE, Gr.did_edges, lvE_app]; simp [lvE, Gr.es]
theorem Gr.dropE_ns : (G.dropE e).ns = G.ns := by rw [Gr.ns, Gr.dropE_nodes]; rfl
theorem Gr.dropE_es (h1 : 1 ≤ e) (h2 : e ≤ G.edges.length) : (G.dropE e).es = G.es.filter fun x => x.1 != e := by
  have hk : (e - 1).toNat < G.edges.length := by omega
  rw [Gr.es, Gr.dropE, Gr.did_edges]
  show lvE 0 (G.edges.modify (e - 1).toNat _) = _
  rw [lvE_dead hk, show (((e - 1).toNat : Nat) : Int) + 1 = e by omega]; rfl
theorem Gr.dropN_es : (G.dropN v).es = G.es := by rw [Gr.es, Gr.dropN, Gr.did_edges]; rfl
theorem Gr.dropN_ns (h1 : 1 ≤ v) (h2 : v ≤ G.nodes.length) : (G.dropN v).ns = G.ns.filter fun x => x != v := by
  have hk : (v - 1).toNat < G.nodes.length := by omega
  rw [Gr.ns, Gr.dropN, Gr.did_nodes]
  show idsN 0 (G.nodes.set (v - 1).toNat false) = _
  rw [idsN_dead hk, show (((v - 1).toNat : Nat) : Int) + 1 = v by omega]; rfl
theorem Gr.move_ns : (G.move e en v).ns = G.ns := by rw [Gr.ns, Gr.move, Gr.did_nodes]; rfl
theorem Gr.move_es (h1 : 1 ≤ e) (h2 : e ≤ G.edges.length) : (G.move e en v).es = G.es.map (putE e en v) := by
  have hk : (e - 1).toNat < G.edges.length := by omega
  rw [Gr.es, Gr.move, Gr.did_edges]
  show lvE 0 (G.edges.modify (e - 1).toNat _) = _
  rw [lvE_put hk, show (((e - 1).toNat : Nat) : Int) + 1 = e by omega]; rfl
theorem Gr.at_es : G.at v = (G.es.filter fun x => x.2.1 == v || x.2.2 == v).map (·.1) := atL_lv v _ _
theorem filter_ids {l m : List (Int × Int × Int)} {p : Int × Int × Int → Bool} (hs : ∀ x ∈ l, ∀ y ∈ m, x.1 = y.1 → x = y) :
    l.filter (fun x => !((m.filter p).map (·.1)).contains x.1) = l.filter fun x => !(p x && m.contains x) := by
  apply List.filter_congr
  intro x hx
  congr 1
  rw [Bool.eq_iff_iff]
  simp only [List.contains_iff_mem, List.mem_map, List.mem_filter, Bool.and_eq_true]
  constructor
  · rintro ⟨y, ⟨h1, h2⟩, h3⟩
    obtain rfl := hs x hx y h1 h3.symm
    exact ⟨h2, h1⟩
  · rintro ⟨h1, h2⟩
    exact ⟨x, ⟨h2, h1⟩, rfl⟩
theorem Gr.dropEs_es : ∀ (l : List Int) (G : Gr), (∀ e ∈ l, 1 ≤ e ∧ e ≤ G.edges.length) → (l.foldl Gr.dropE G).es = G.es.filter fun x => !l.contains x.1
  | [], G, _ => (List.filter_eq_self.2 (by simp)).symm
  | e :: l, G, h => by
    obtain ⟨h1, h2⟩ := h e (by simp)
    rw [List.foldl_cons, Gr.dropEs_es l (G.dropE e) (fun f hf => by rw [Gr.dropE_elen]; exact h f (List.mem_cons_of_mem _ hf)), Gr.dropE_es h1 h2, List.filter_filter]
    apply List.filter_congr
    intro x _
    simp only [List.contains_cons, Bool.not_or]
    rw [Bool.and_comm]; rfl
theorem Gr.dropEs_ns : ∀ (l : List Int) (G : Gr), (l.foldl Gr.dropE G).nodes = G.nodes ∧ (l.foldl Gr.dropE G).edges.length = G.edges.length
  | [], G => ⟨rfl, rfl⟩
  | e :: l, G => by
    obtain ⟨a, b⟩ := Gr.dropEs_ns l (G.dropE e)
    exact ⟨by rw [List.foldl_cons, a, Gr.dropE_nodes], by rw [List.foldl_cons, b, Gr.dropE_elen]⟩
theorem Gr.dropAll_es : (G.dropAll v).es = G.es.filter fun x => !(x.2.1 == v || x.2.2 == v) := by
  rw [Gr.dropAll, Gr.dropN_es, Gr.dropEs_es _ _ (fun e he => ?_), Gr.at_es]
  · rw [filter_ids (l := G.es) (m := G.es) (fun x hx y hy => lvE_uniq hx hy)]
    apply List.filter_congr
    intro x hx
    rw [show G.es.contains x = true by simpa using hx, Bool.and_true]
  · rw [Gr.at_es] at he
    obtain ⟨x, hx, rfl⟩ := List.mem_map.1 he
    exact Gr.has_range (Gr.mem_es ((List.mem_filter.1 hx).1)).1
theorem Gr.dropAll_ns (h : G.node v = true) : (G.dropAll v).ns = G.ns.filter fun x => x != v := by
  obtain ⟨a, b⟩ := Gr.dropEs_ns (G.at v) G
  obtain ⟨h1, h2⟩ := Gr.node_range h
  rw [Gr.dropAll, Gr.dropN_ns h1 (by rw [a]; exact h2), Gr.ns, a]; rfl
theorem Gr.at_has : ∀ k ∈ G.at v, G.hasE k = true := fun k hk => by
  rw [Gr.at_es] at hk
  obtain ⟨x, hx, rfl⟩ := List.mem_map.1 hk
  exact (Gr.mem_es ((List.mem_filter.1 hx).1)).1
theorem Gr.split_ns : (G.splitG e).ns = G.ns ++ [(G.nodes.length : Int) + 1] := by rw [Gr.splitG, Gr.move_ns, Gr.addE_ns, Gr.addN_ns]
theorem Gr.addE_elen : (G.addE u v).edges.length = G.edges.length + 1 := by rw [Gr.addE, Gr.did_edges]; simp
theorem Gr.addN_nlen : G.addN.nodes.length = G.nodes.length + 1 := by rw [Gr.addN, Gr.did_nodes]; simp
theorem Gr.addN_edges : G.addN.edges = G.edges := by rw [Gr.addN, Gr.did_edges]
theorem Gr.addE_nodes : (G.addE u v).nodes = G.nodes := by rw [Gr.addE, Gr.did_nodes]
theorem Gr.move_nodes : (G.move e en v).nodes = G.nodes := by rw [Gr.move, Gr.did_nodes]; rfl
theorem Gr.move_elen : (G.move e en v).edges.length = G.edges.length := by rw [Gr.move, Gr.did_edges]; simp [Gr.setEnd]
theorem Gr.dropN_edges : (G.dropN v).edges = G.edges := by rw [Gr.dropN, Gr.did_edges]; rfl
theorem Gr.dropN_nlen : (G.dropN v).nodes.length = G.nodes.length := by rw [Gr.dropN, Gr.did_nodes]; simp [Gr.setN]
theorem Gr.split_es (h : G.hasE e = true) : (G.splitG e).es = (G.es ++ [((G.edges.length : Int) + 1, (G.nodes.length : Int) + 1, (G.edgeAt e).2.1)]).map (putE e 1 ((G.nodes.length : Int) + 1)) := by
  obtain ⟨h1, h2⟩ := Gr.has_range h
  rw [Gr.splitG, Gr.move_es h1 (by rw [Gr.addE_elen, Gr.addN_edges]; omega), Gr.addE_es, Gr.addN_es, Gr.addN_edges]
/-- Each living edge ends at living nodes. -/
def Gr.good (G : Gr) : Prop := ∀ x ∈ G.es, x.2.1 ∈ G.ns ∧ x.2.2 ∈ G.ns
theorem Gr.good.addN (g : G.good) : G.addN.good := by
  intro x hx
  rw [Gr.addN_es] at hx
  rw [Gr.addN_ns]
  exact (g x hx).imp (List.mem_append_left _) (List.mem_append_left _)
theorem Gr.good.addE (g : G.good) (h1 : G.node u = true) (h2 : G.node v = true) : (G.addE u v).good := by
  intro x hx
  rw [Gr.addE_es] at hx
  rw [Gr.addE_ns]
  rcases List.mem_append.1 hx with hx | hx
  · exact g x hx
  · simp only [List.mem_singleton] at hx; subst hx
    exact ⟨Gr.node_iff.1 h1, Gr.node_iff.1 h2⟩
theorem Gr.good.dropE (g : G.good) (h1 : 1 ≤ e) (h2 : e ≤ G.edges.length) : (G.dropE e).good := by
  intro x hx
  rw [Gr.dropE_es h1 h2] at hx
  rw [Gr.dropE_ns]
  exact g x ((List.mem_filter.1 hx).1)
theorem Gr.good.dropAll (g : G.good) (h : G.node v = true) : (G.dropAll v).good := by
  intro x hx
  rw [Gr.dropAll_es, List.mem_filter] at hx
  rw [Gr.dropAll_ns h]
  obtain ⟨h1, h2⟩ := hx
  obtain ⟨a, b⟩ := g x h1
  simp only [Bool.not_or, Bool.and_eq_true, Bool.not_eq_true', beq_eq_false_iff_ne] at h2
  exact ⟨List.mem_filter.2 ⟨a, by simpa using h2.1⟩, List.mem_filter.2 ⟨b, by simpa using h2.2⟩⟩
theorem Gr.good.move (g : G.good) (h1 : 1 ≤ e) (h2 : e ≤ G.edges.length) (h : G.node v = true) : (G.move e en v).good := by
  intro x hx
  rw [Gr.move_es h1 h2] at hx
  rw [Gr.move_ns]
  obtain ⟨y, hy, rfl⟩ := List.mem_map.1 hx
  obtain ⟨a, b⟩ := g y hy
  have hv := Gr.node_iff.1 h
  unfold putE
  split
  · split
    · exact ⟨hv, b⟩
    · exact ⟨a, hv⟩
  · exact ⟨a, b⟩
theorem Gr.node_addN (h : G.node v = true) : G.addN.node v = true := by
  rw [Gr.node_iff, Gr.addN_ns]; exact List.mem_append_left _ (Gr.node_iff.1 h)
theorem Gr.node_addE {w : Int} (h : G.node w = true) : (G.addE u v).node w = true := by
  rw [Gr.node_iff, Gr.addE_ns]; exact Gr.node_iff.1 h
theorem Gr.good.split (g : G.good) (h : G.hasE e = true) : (G.splitG e).good := by
  obtain ⟨h1, h2⟩ := Gr.has_range h
  have n1 : G.addN.node ((G.nodes.length : Int) + 1) = true := by rw [Gr.node_iff, Gr.addN_ns]; simp
  have n2 : G.addN.node (G.edgeAt e).2.1 = true := Gr.node_addN (Gr.node_iff.2 (g _ (Gr.has_mem h)).2)
  exact (g.addN.addE n1 n2).move h1 (by rw [Gr.addE_elen, Gr.addN_edges]; omega) (Gr.node_addE n1)
/-- What an unsplit makes: the edge that stays goes on to the other's far end. -/
theorem Gr.unsplit_has {k f : Int} (h : G.at v = [k, f]) : G.hasE k = true ∧ G.hasE f = true ∧ k ≠ f ∧ ((G.edgeAt k).1 = v ∨ (G.edgeAt k).2.1 = v) ∧ ((G.edgeAt f).1 = v ∨ (G.edgeAt f).2.1 = v) := by
  have hk : k ∈ G.at v := by rw [h]; simp
  have hf : f ∈ G.at v := by rw [h]; simp
  have e0 := h
  rw [Gr.at_es] at hk hf e0
  obtain ⟨x, hx, rfl⟩ := List.mem_map.1 hk
  obtain ⟨y, hy, rfl⟩ := List.mem_map.1 hf
  obtain ⟨x1, x2⟩ := List.mem_filter.1 hx
  obtain ⟨y1, y2⟩ := List.mem_filter.1 hy
  have ex := Gr.mem_es x1
  have ey := Gr.mem_es y1
  refine ⟨ex.1, ey.1, ?_, ?_, ?_⟩
  · have hs : (G.at v).Pairwise (· < ·) := by
      rw [Gr.at_es]
      exact List.pairwise_map.2 ((lvE_sorted G.edges 0).filter _)
    rw [h] at hs
    have : x.1 < y.1 := by simpa using hs
    omega
  · rw [ex.2]; simpa using x2
  · rw [ey.2]; simpa using y2
theorem Gr.unsplit_ns {k f : Int} (h : G.node v = true) : (G.unsplitG v k f).ns = G.ns.filter fun x => x != v := by
  obtain ⟨h1, h2⟩ := Gr.node_range h
  rw [Gr.unsplitG, Gr.dropN_ns h1 (by rw [Gr.dropE_nodes, Gr.move_nodes]; exact h2), Gr.dropE_ns, Gr.move_ns]
theorem Gr.unsplit_es {k f : Int} (h : G.at v = [k, f]) : (G.unsplitG v k f).es = (G.es.map (putE k (G.ends1 k v) (w64 (w64 ((G.edgeAt f).1 + (G.edgeAt f).2.1) - v)))).filter fun x => x.1 != f := by
  obtain ⟨a, b, -⟩ := Gr.unsplit_has h
  obtain ⟨a1, a2⟩ := Gr.has_range a
  obtain ⟨b1, b2⟩ := Gr.has_range b
  rw [Gr.unsplitG, Gr.dropN_es, Gr.dropE_es b1 (by rw [Gr.move_elen]; exact b2), Gr.move_es a1 a2]
/-- The far end. -/
def Gr.far (G : Gr) (v f : Int) : Int := if (G.edgeAt f).1 = v then (G.edgeAt f).2.1 else (G.edgeAt f).1
theorem Gr.far_eq {k f : Int} (g : G.good) (hn : G.nodes.length < 1000000000) (h : G.at v = [k, f]) : w64 (w64 ((G.edgeAt f).1 + (G.edgeAt f).2.1) - v) = G.far v f ∧ G.far v f ∈ G.ns := by
  obtain ⟨a, b, _, _, d⟩ := Gr.unsplit_has h
  obtain ⟨c1, c2⟩ := g _ (Gr.has_mem b)
  simp only at c1 c2
  have r1 := idsN_range _ _ _ c1
  have r2 := idsN_range _ _ _ c2
  have W : ∀ x : Int, -1000000000000 ≤ x → x ≤ 1000000000000 → w64 x = x := fun x h1 h2 => N.w64id h1 h2
  rw [W ((G.edgeAt f).1 + (G.edgeAt f).2.1) (by omega) (by omega)]
  unfold Gr.far
  split
  · rename_i q
    rw [q] at r1
    rw [q, W _ (by omega) (by omega)]
    exact ⟨by omega, c2⟩
  · rename_i q
    have d : (G.edgeAt f).2.1 = v := d.resolve_left q
    rw [d] at r2
    rw [d, W _ (by omega) (by omega)]
    exact ⟨by omega, c1⟩
theorem Gr.good.unsplit {k f : Int} (g : G.good) (hn : G.nodes.length < 1000000000) (h : G.node v = true) (ha : G.at v = [k, f]) (hk : (G.edgeAt k).1 ≠ (G.edgeAt k).2.1) (hf : (G.edgeAt f).1 ≠ (G.edgeAt f).2.1) : (G.unsplitG v k f).good := by
  intro x hx
  obtain ⟨q1, q2, q3, q4, q5⟩ := Gr.unsplit_has ha
  obtain ⟨e1, e2⟩ := Gr.far_eq g hn ha
  rw [Gr.unsplit_es ha, e1, List.mem_filter] at hx
  rw [Gr.unsplit_ns h]
  obtain ⟨hx, hx2⟩ := hx
  obtain ⟨y, hy, rfl⟩ := List.mem_map.1 hx
  obtain ⟨a, b⟩ := g y hy
  have fv : G.far v f ≠ v := by
    unfold Gr.far
    split
    · rename_i q; rw [q] at hf; exact fun c => hf c.symm
    · rename_i q; exact q
  have keep : ∀ z : Int, z ∈ G.ns → z ≠ v → z ∈ G.ns.filter fun x => x != v := fun z h1 h2 => List.mem_filter.2 ⟨h1, by simpa using h2⟩
  have my := Gr.mem_es hy
  unfold putE at hx2 ⊢
  by_cases hk1 : y.1 = k
  · rw [if_pos hk1]
    rw [hk1] at my
    rw [my.2] at hk q4
    simp only at hk q4
    by_cases c : y.2.2 = v
    · have en : G.ends1 k v = 1 := by unfold Gr.ends1; rw [my.2]; simp [c]
      rw [en, if_neg (by omega)]
      exact ⟨keep _ a (fun z => hk (z.trans c.symm)), keep _ e2 fv⟩
    · have en : G.ends1 k v = 0 := by unfold Gr.ends1; rw [my.2]; simp [c]
      rw [en, if_pos rfl]
      exact ⟨keep _ e2 fv, keep _ b c⟩
  · rw [if_neg hk1] at hx2 ⊢
    have hyf : y.1 ≠ f := by simpa using hx2
    have : y.1 ∉ G.at v := by rw [ha]; simp [hk1, hyf]
    rw [Gr.at_es] at this
    have hnot : ¬(y.2.1 = v ∨ y.2.2 = v) := fun c => this (List.mem_map.2 ⟨y, List.mem_filter.2 ⟨hy, by simpa using c⟩, rfl⟩)
    exact ⟨keep _ a fun c => hnot (.inl c), keep _ b fun c => hnot (.inr c)⟩
end
end Go.X
