/- Graphs: what is done can be undone; how many live. Conditions: none. -/
import Derived.Test.YtmcloipjlihhlaaNGrI
import Derived.Test.YtmcloipjlihhlaaYRg
namespace Go.X
open Go.Proofs.Ytmcloipjlihhlaa
section
variable {G G' G0 : Gr} {e en u v : Int}
/-- One thing done, that can be undone. -/
def Gr.one (G G' : Gr) : Prop := (∃ u, G'.undo.getLast? = some u ∧ Gr.can { G' with undo := G'.undo.take (G'.undo.length - 1) } u) ∧ G'.pop = G ∧ G'.undo.length = G.undo.length + 1
theorem Gr.did_some (hm : G.marks ≠ []) {w : Und} : G.did w = { G with undo := G.undo ++ [w] } := by
  unfold Gr.did
  split
  · rename_i h; exact absurd h hm
  · rfl
theorem Gr.one_did {H : Gr} (hm : H.marks ≠ []) {w : Und} (hc : H.can w) (hu : H.undo1 w = G) (hl : H.undo = G.undo) : G.one (H.did w) := by
  rw [Gr.did_some hm]
  have e1 : (H.undo ++ [w]).take ((H.undo ++ [w]).length - 1) = H.undo := by simp
  have e2 : (H.undo ++ [w]).getLast? = some w := by simp
  refine ⟨⟨w, e2, ?_⟩, ?_, ?_⟩
  · simp only [e1]; exact hc
  · simp only [Gr.pop, e2, e1]; exact hu
  · simp [hl]
theorem w64_id {x : Int} (h1 : -1000000000000 ≤ x) (h2 : x ≤ 1000000000000) : w64 x = x := N.w64id h1 h2
theorem Gr.addN_one (hm : G.marks ≠ []) (h1 : 0 ≤ G.ln) (h2 : G.ln ≤ 1000000000) : G.one G.addN := by
  refine Gr.one_did (H := { G with nodes := G.nodes ++ [true], ln := w64 (G.ln + 1) }) hm (by show 0 < (G.nodes ++ [true]).length; simp) ?_ rfl
  have e1 : w64 (w64 (G.ln + 1) - 1) = G.ln := by rw [w64_id (x := G.ln + 1) (by omega) (by omega), w64_id (by omega) (by omega)]; omega
  have e2 : (G.nodes ++ [true]).take ((G.nodes ++ [true]).length - 1) = G.nodes := by simp
  simp only [Gr.undo1, e1, e2]
theorem Gr.addE_one (hm : G.marks ≠ []) (h1 : 0 ≤ G.le) (h2 : G.le ≤ 1000000000) : G.one (G.addE u v) := by
  refine Gr.one_did (H := { G with edges := G.edges ++ [(u, v, true)], le := w64 (G.le + 1) }) hm (by show 0 < (G.edges ++ [(u, v, true)]).length; simp) ?_ rfl
  have e1 : w64 (w64 (G.le + 1) - 1) = G.le := by rw [w64_id (x := G.le + 1) (by omega) (by omega), w64_id (by omega) (by omega)]; omega
  have e2 : (G.edges ++ [(u, v, true)]).take ((G.edges ++ [(u, v, true)]).length - 1) = G.edges := by simp
  simp only [Gr.undo1, e1, e2]
theorem Gr.dropN_one (hm : G.marks ≠ []) (h1 : 0 ≤ G.ln) (h2 : G.ln ≤ 1000000000) (h : G.node v = true) : G.one (G.dropN v) := by
  obtain ⟨r1, r2⟩ := Gr.node_range h
  refine Gr.one_did (H := G.setN v false (-1)) hm ⟨r1, by simpa [Gr.setN] using r2⟩ ?_ rfl
  have e1 : w64 (w64 (G.ln + -1) + 1) = G.ln := by rw [w64_id (x := G.ln + -1) (by omega) (by omega), w64_id (by omega) (by omega)]; omega
  have e2 : (G.nodes.set (v - 1).toNat false).set (v - 1).toNat true = G.nodes := by
    simp only [Gr.node, Bool.and_eq_true, decide_eq_true_eq] at h
    have hl : (v - 1).toNat < G.nodes.length := by omega
    have ht := h.2
    rw [List.getD_eq_getElem?_getD, List.getElem?_eq_getElem hl] at ht
    rw [List.set_set]
    apply List.ext_getElem?
    intro j
    rw [List.getElem?_set]
    split
    · rename_i q; subst q
      rw [List.getElem?_eq_getElem hl]; exact congrArg some ht.symm
    · rfl
  simp only [Gr.undo1, Gr.setN, e1, e2]
theorem modify_modify {α : Type} {f g : α → α} {l : List α} {k : Nat} (h : ∀ x, l[k]? = some x → g (f x) = x) : (l.modify k f).modify k g = l := by
  apply List.ext_getElem?
  intro j
  rw [List.getElem?_modify, List.getElem?_modify]
  by_cases q : k = j
  · subst q
    cases hx : l[k]? with
    | none => rfl
    | some x => simp [h x hx]
  · cases l[j]? <;> simp [q]
theorem Gr.dropE_one (hm : G.marks ≠ []) (h1 : 0 ≤ G.le) (h2 : G.le ≤ 1000000000) (h : G.hasE e = true) : G.one (G.dropE e) := by
  obtain ⟨r1, r2⟩ := Gr.has_range h
  refine Gr.one_did (H := G.setE e false (-1)) hm ⟨r1, by simpa [Gr.setE] using r2⟩ ?_ rfl
  have e1 : w64 (w64 (G.le + -1) + 1) = G.le := by rw [w64_id (x := G.le + -1) (by omega) (by omega), w64_id (by omega) (by omega)]; omega
  have e2 : (G.edges.modify (e - 1).toNat fun x => (x.1, x.2.1, false)).modify (e - 1).toNat (fun x => (x.1, x.2.1, true)) = G.edges := by
    apply modify_modify
    intro x hx
    simp only [Gr.hasE, Bool.and_eq_true, decide_eq_true_eq, Gr.edgeAt, List.getD_eq_getElem?_getD, hx] at h
    exact Prod.ext rfl (Prod.ext rfl h.2.symm)
  simp only [Gr.undo1, Gr.setE, e1, e2]
theorem Gr.move_one (hm : G.marks ≠ []) (r1 : 1 ≤ e) (r2 : e ≤ G.edges.length) (e0 : 0 ≤ en) (e1 : en ≤ 1) : G.one (G.move e en v) := by
  refine Gr.one_did (H := G.setEnd e en v) hm ⟨r1, by simpa [Gr.setEnd] using r2, e0, e1⟩ ?_ rfl
  have e2 : (G.edges.modify (e - 1).toNat fun x => putEnd x en v).modify (e - 1).toNat (fun x => putEnd x en (endOf (G.edgeAt e) en)) = G.edges := by
    apply modify_modify
    intro x hx
    have : G.edgeAt e = x := by rw [Gr.edgeAt, List.getD_eq_getElem?_getD, hx]; rfl
    rw [this]
    unfold putEnd endOf
    split <;> rfl
  simp only [Gr.undo1, Gr.setEnd, e2]
def Gr.wm (G : Gr) (m : List (Int × Int)) (l : Int) : Gr := { G with marks := m, last := l }
theorem Gr.undo1_wm (w : Und) (m : List (Int × Int)) (l : Int) : (G.wm m l).undo1 w = (G.undo1 w).wm m l := by cases w <;> rfl
theorem Gr.pop_wm (m : List (Int × Int)) (l : Int) : (G.wm m l).pop = G.pop.wm m l := by
  unfold Gr.pop
  show (match G.undo.getLast? with | some u => _ | none => _) = _
  cases G.undo.getLast? with
  | none => rfl
  | some w => exact Gr.undo1_wm (G := { G with undo := G.undo.take (G.undo.length - 1) }) w m l
theorem Gr.unwind_wm (m : List (Int × Int)) (l : Int) : ∀ (k : Nat) (G : Gr), (G.wm m l).unwind k = (G.unwind k).wm m l
  | 0, _ => rfl
  | k + 1, G => by rw [Gr.unwind, Gr.pop_wm, Gr.unwind_wm m l k]; rfl
theorem Gr.canN_wm (m : List (Int × Int)) (l : Int) : ∀ (k : Nat) (G : Gr), (G.wm m l).canN k ↔ G.canN k
  | 0, _ => Iff.rfl
  | k + 1, G => by
    rw [Gr.canN, Gr.canN, Gr.pop_wm, Gr.canN_wm m l k]
    refine and_congr_left fun _ => exists_congr fun w => and_congr_right fun _ => ?_
    cases w <;> exact Iff.rfl
theorem Gr.unwind_add : ∀ (a b : Nat) (G : Gr), G.unwind (a + b) = (G.unwind a).unwind b
  | 0, b, G => by rw [Nat.zero_add]; rfl
  | a + 1, b, G => by rw [Nat.add_right_comm]; exact Gr.unwind_add a b G.pop
theorem Gr.canN_add : ∀ (a b : Nat) (G : Gr), G.canN (a + b) ↔ G.canN a ∧ (G.unwind a).canN b
  | 0, b, G => by rw [Nat.zero_add]; exact ⟨fun h => ⟨trivial, h⟩, fun h => h.2⟩
  | a + 1, b, G => by
    rw [Nat.add_right_comm, Gr.canN, Gr.canN, Gr.canN_add a b, and_assoc]; rfl
/-- What is now leads back to what was. -/
structure Gr.trail (G0 G : Gr) : Prop where
  le : G0.undo.length ≤ G.undo.length
  can : G.canN (G.undo.length - G0.undo.length)
  back : ∃ m l, G.unwind (G.undo.length - G0.undo.length) = G0.wm m l
theorem Gr.trail.refl (G : Gr) : G.trail G := ⟨Nat.le_refl _, by rw [Nat.sub_self]; trivial, ⟨G.marks, G.last, by rw [Nat.sub_self]; rfl⟩⟩
theorem Gr.trail.wm {m : List (Int × Int)} {l : Int} (t : G0.trail G) : G0.trail (G.wm m l) :=
  ⟨t.le, (Gr.canN_wm _ _ _ _).2 t.can, by
    obtain ⟨m', l', h⟩ := t.back
    exact ⟨m, l, by show (G.wm m l).unwind (G.undo.length - G0.undo.length) = _; rw [Gr.unwind_wm, h]; rfl⟩⟩
theorem Gr.trail.step (t : G0.trail G) (o : G.one G') : G0.trail G' := by
  obtain ⟨o1, o2, o3⟩ := o
  have hl := t.le
  have e1 : G'.undo.length - G0.undo.length = (G.undo.length - G0.undo.length) + 1 := by omega
  refine ⟨by omega, ?_, ?_⟩
  · rw [e1, Gr.canN, o2]; exact ⟨o1, t.can⟩
  · rw [e1, Gr.unwind, o2]; exact t.back
theorem Gr.trail.trans {G1 : Gr} (t : G0.trail G1) (s : G1.trail G) : G0.trail G := by
  have h1 := t.le
  have h2 := s.le
  obtain ⟨m, l, hb⟩ := s.back
  obtain ⟨m', l', hb'⟩ := t.back
  have e1 : G.undo.length - G0.undo.length = (G.undo.length - G1.undo.length) + (G1.undo.length - G0.undo.length) := by omega
  refine ⟨by omega, ?_, ?_⟩
  · rw [e1, Gr.canN_add, hb, Gr.canN_wm]; exact ⟨s.can, t.can⟩
  · rw [e1, Gr.unwind_add, hb, Gr.unwind_wm, hb']; exact ⟨m, l, rfl⟩
def Gr.cnt (G : Gr) : Prop := G.ln = (G.ns.length : Int) ∧ G.le = (G.es.length : Int)
theorem filter_one {α : Type} {f : α → Int} : ∀ {l : List α} {x : α}, l.Pairwise (fun a b => f a < f b) → x ∈ l → (l.filter fun y => f y != f x).length + 1 = l.length
  | [], x, _, h => by simp at h
  | y :: l, x, hs, h => by
    obtain ⟨h1, h2⟩ := List.pairwise_cons.1 hs
    by_cases q : f y = f x
    · have : ∀ z ∈ l, (f z != f x) = true := fun z hz => by have := h1 z hz; simp; omega
      rw [List.filter_cons_of_neg (by simp [q]), filter_all this]; rfl
    · have hx : x ∈ l := by
        rcases List.mem_cons.1 h with rfl | h
        · exact absurd rfl q
        · exact h
      rw [List.filter_cons_of_pos (by simp [q]), List.length_cons, filter_one h2 hx, List.length_cons]
theorem Gr.addN_ln : G.addN.ln = w64 (G.ln + 1) := by rw [Gr.addN, Gr.did_ln]
theorem Gr.addN_le : G.addN.le = G.le := by rw [Gr.addN, Gr.did_le]
theorem Gr.addE_ln : (G.addE u v).ln = G.ln := by rw [Gr.addE, Gr.did_ln]
theorem Gr.addE_le : (G.addE u v).le = w64 (G.le + 1) := by rw [Gr.addE, Gr.did_le]
theorem Gr.dropN_ln : (G.dropN v).ln = w64 (G.ln + -1) := by rw [Gr.dropN, Gr.did_ln]; rfl
theorem Gr.dropN_le : (G.dropN v).le = G.le := by rw [Gr.dropN, Gr.did_le]; rfl
theorem Gr.dropE_ln : (G.dropE e).ln = G.ln := by rw [Gr.dropE, Gr.did_ln]; rfl
theorem Gr.dropE_le : (G.dropE e).le = w64 (G.le + -1) := by rw [Gr.dropE, Gr.did_le]; rfl
theorem Gr.move_ln : (G.move e en v).ln = G.ln := by rw [Gr.move, Gr.did_ln]; rfl
theorem Gr.move_le : (G.move e en v).le = G.le := by rw [Gr.move, Gr.did_le]; rfl
theorem Gr.ns_len : G.ns.length ≤ G.nodes.length := by
  have : ∀ (l : List Bool) (i : Nat), (idsN i l).length ≤ l.length := by
    intro l
    induction l with
    | nil => intro i; simp [idsN]
    | cons y l ih =>
      intro i
      have := ih (i + 1)
      simp only [idsN, List.length_append, List.length_cons]
      split <;> simp <;> omega
  exact this _ _
theorem Gr.es_len : G.es.length ≤ G.edges.length := by
  have : ∀ (l : List (Int × Int × Bool)) (i : Nat), (lvE i l).length ≤ l.length := by
    intro l
    induction l with
    | nil => intro i; simp [lvE]
    | cons y l ih =>
      intro i
      have := ih (i + 1)
      simp only [lvE, List.length_append, List.length_cons]
      split <;> simp <;> omega
  exact this _ _
theorem Gr.cnt.addN (c : G.cnt) (h : G.nodes.length < 1000000000) : G.addN.cnt := by
  have := Gr.ns_len (G := G)
  obtain ⟨c1, c2⟩ := c
  refine ⟨?_, by rw [Gr.addN_le, Gr.addN_es]; exact c2⟩
  rw [Gr.addN_ln, Gr.addN_ns, c1, w64_id (by omega) (by omega)]; simp
theorem Gr.cnt.addE (c : G.cnt) (h : G.edges.length < 1000000000) : (G.addE u v).cnt := by
  have := Gr.es_len (G := G)
  obtain ⟨c1, c2⟩ := c
  refine ⟨by rw [Gr.addE_ln, Gr.addE_ns]; exact c1, ?_⟩
  rw [Gr.addE_le, Gr.addE_es, c2, w64_id (by omega) (by omega)]; simp
theorem Gr.cnt.dropN (c : G.cnt) (h : G.nodes.length < 1000000000) (hv : G.node v = true) : (G.dropN v).cnt := by
  have := Gr.ns_len (G := G)
  obtain ⟨r1, r2⟩ := Gr.node_range hv
  obtain ⟨c1, c2⟩ := c
  refine ⟨?_, by rw [Gr.dropN_le, Gr.dropN_es]; exact c2⟩
  have := filter_one (f := fun x : Int => x) (idsN_sorted G.nodes 0) (Gr.node_iff.1 hv)
  rw [Gr.dropN_ln, Gr.dropN_ns r1 r2, c1, w64_id (by omega) (by omega)]
  simp only [Gr.ns] at *
  omega
theorem Gr.cnt.dropE (c : G.cnt) (h : G.edges.length < 1000000000) (hv : G.hasE e = true) : (G.dropE e).cnt := by
  have := Gr.es_len (G := G)
  obtain ⟨r1, r2⟩ := Gr.has_range hv
  obtain ⟨c1, c2⟩ := c
  refine ⟨by rw [Gr.dropE_ln, Gr.dropE_ns]; exact c1, ?_⟩
  have := filter_one (f := fun x : Int × Int × Int => x.1) (lvE_sorted G.edges 0) (Gr.has_mem hv)
  rw [Gr.dropE_le, Gr.dropE_es r1 r2, c2, w64_id (by omega) (by omega)]
  simp only [Gr.es] at *
  omega
theorem Gr.cnt.move (c : G.cnt) (r1 : 1 ≤ e) (r2 : e ≤ G.edges.length) : (G.move e en v).cnt := by
  obtain ⟨c1, c2⟩ := c
  exact ⟨by rw [Gr.move_ln, Gr.move_ns]; exact c1, by rw [Gr.move_le, Gr.move_es r1 r2, List.length_map]; exact c2⟩
theorem Gr.cnt.wm {m : List (Int × Int)} {l : Int} (c : G.cnt) : (G.wm m l).cnt := c
end
end Go.X

/- The document's graph, and that both are the same. Conditions: none. -/
namespace Go.X
def RS.nodeAt (s : RS) (v : Int) : Option Nat := s.ns.findIdx? (· == v)
def RS.edgeAt (s : RS) (e : Int) : Option Nat := s.es.findIdx? (·.1 == e)
def atN (v : Int) (x : Int × Int × Int) : Bool := x.2.1 == v || x.2.2 == v
def RS.addN (s : RS) : RS × Int × Int := if s.ns.length = 1024 then (s, 0, 3) else ({ s with ns := s.ns ++ [w64 (s.nn + 1)], nn := w64 (s.nn + 1) }, w64 (s.nn + 1), 0)
def RS.addE (s : RS) (u v : Int) : RS × Int × Int :=
  if s.nodeAt u = none ∨ s.nodeAt v = none then (s, 0, 2)
  else if s.es.length = 3072 then (s, 0, 3) else ({ s with es := s.es ++ [(w64 (s.ne + 1), u, v)], ne := w64 (s.ne + 1) }, w64 (s.ne + 1), 0)
def RS.dropN (s : RS) (v : Int) : RS × Int × Int :=
  match s.nodeAt v with
  | none => (s, 0, 2)
  | some i => ({ s with ns := s.ns.take i ++ s.ns.drop (i + 1), es := s.es.filter fun x => !atN v x }, (s.es.length : Int) - (s.es.filter fun x => !atN v x).length, 0)
def RS.dropE (s : RS) (e : Int) : RS × Int :=
  match s.edgeAt e with
  | none => (s, 2)
  | some i => ({ s with es := s.es.take i ++ s.es.drop (i + 1) }, 0)
def RS.ends (s : RS) (e : Int) : Int × Int × Int :=
  match s.edgeAt e with
  | none => (0, 0, 2)
  | some i => ((s.es.getD i (0, 0, 0)).2.1, (s.es.getD i (0, 0, 0)).2.2, 0)
def setU (v : Int) (x : Int × Int × Int) : Int × Int × Int := (x.1, v, x.2.2)
def setW (v : Int) (x : Int × Int × Int) : Int × Int × Int := (x.1, x.2.1, v)
def RS.split (s : RS) (e : Int) : RS × Int × Int × Int :=
  match s.edgeAt e with
  | none => (s, 0, 0, 2)
  | some i => if s.ns.length = 1024 ∨ s.es.length = 3072 then (s, 0, 0, 3) else
      let v := s.addN.2.1
      let s2 : RS := { s.addN.1 with es := s.es.modify i (setW v) }
      let p := s2.addE v (s.es.getD i (0, 0, 0)).2.2
      (p.1, v, p.2.1, 0)
def RS.move (s : RS) (e en v : Int) : RS × Int :=
  match s.edgeAt e with
  | none => (s, 2)
  | some i => if s.nodeAt v = none ∨ en < 0 ∨ 1 < en then (s, 2) else ({ s with es := s.es.modify i (if en = 0 then setU v else setW v) }, 0)
/-- The places of edges at a node. -/
def plcs (v : Int) : Nat → List (Int × Int × Int) → List Int
  | _, [] => []
  | i, x :: r => (if atN v x then [(i : Int)] else []) ++ plcs v (i + 1) r
def farE (v : Int) (x : Int × Int × Int) : Int := if x.2.1 = v then x.2.2 else x.2.1
def turnE (v far : Int) (x : Int × Int × Int) : Int × Int × Int := if x.2.1 = v then setU far x else setW far x
def RS.unsplit (s : RS) (v : Int) : RS × Int × Int :=
  match s.nodeAt v with
  | none => (s, 0, 2)
  | some _ => if s.es.any fun x => x.2.1 == v && x.2.2 == v then (s, 0, 10) else
      match plcs v 0 s.es with
      | [i, j] =>
        let f := s.es.getD j.toNat (0, 0, 0)
        let s1 : RS := { s with es := s.es.modify i.toNat (turnE v (farE v f)) }
        (((s1.dropE f.1).1.dropN v).1, (s.es.getD i.toNat (0, 0, 0)).1, 0)
      | _ => (s, 0, 10)
def RS.edges (s : RS) (v : Int) : List Int := (s.es.filter (atN v)).map (·.1)
/-- Both are the same. -/
structure Sim (G : Gr) (s : RS) : Prop where
  ns : s.ns = G.ns
  es : s.es = G.es
  nn : s.nn = G.nodes.length
  ne : s.ne = G.edges.length
/-- And of a size that fits. -/
structure Fit (G : Gr) (k : Nat) : Prop where
  good : G.good
  cnt : G.cnt
  n1 : G.ns.length ≤ 1024
  n2 : G.es.length ≤ 3072
  l1 : G.nodes.length ≤ k
  l2 : G.edges.length ≤ k
section
variable {G : Gr} {s : RS} {e en u v : Int} {k : Nat}
theorem take_drop {α : Type} {f : α → Int} : ∀ {l : List α} {i : Nat} {x : Int}, l.Pairwise (fun a b => f a < f b) → l.findIdx? (fun y => f y == x) = some i → l.take i ++ l.drop (i + 1) = l.filter (fun y => f y != x) ∧ ∃ y, l[i]? = some y ∧ f y = x
  | [], i, x, _, h => by simp at h
  | y :: l, i, x, hs, h => by
    obtain ⟨h1, h2⟩ := List.pairwise_cons.1 hs
    rw [List.findIdx?_cons] at h
    by_cases q : f y = x
    · rw [if_pos (by simpa using q)] at h
      obtain rfl := Option.some.inj h
      have : ∀ z ∈ l, (f z != x) = true := fun z hz => by have := h1 z hz; simp; omega
      refine ⟨?_, y, rfl, q⟩
      rw [List.filter_cons_of_neg (by simp [q]), filter_all this]; rfl
    · rw [if_neg (by simpa using q), Option.map_eq_some_iff] at h
      obtain ⟨j, hj, rfl⟩ := h
      obtain ⟨a, b⟩ := take_drop h2 hj
      refine ⟨?_, by simpa using b⟩
      rw [List.filter_cons_of_pos (by simp [q]), ← a]; rfl
theorem filter_two {α : Type} (p : α → Bool) : ∀ (l : List α), (l.filter p).length + (l.filter fun x => !p x).length = l.length
  | [] => rfl
  | x :: l => by
    have := filter_two p l
    cases q : p x <;> simp [q] <;> omega
theorem Sim.node (S : Sim G s) : s.nodeAt v = none ↔ G.node v = false := by
  rw [RS.nodeAt, List.findIdx?_eq_none_iff, S.ns]
  constructor
  · intro h
    cases hv : G.node v with
    | false => rfl
    | true => have := h v (Gr.node_iff.1 hv); simp at this
  · intro h x hx
    simp only [beq_eq_false_iff_ne]
    rintro rfl
    rw [Gr.node_iff.2 hx] at h; cases h
theorem Sim.node1 (S : Sim G s) (h : G.node v = true) : ∃ i, s.nodeAt v = some i ∧ s.ns.take i ++ s.ns.drop (i + 1) = G.ns.filter (· != v) := by
  cases hi : s.nodeAt v with
  | none => rw [S.node] at hi; rw [hi] at h; cases h
  | some i =>
    rw [RS.nodeAt, S.ns] at hi
    exact ⟨i, rfl, by rw [S.ns]; exact (take_drop (f := fun x : Int => x) (idsN_sorted _ _) hi).1⟩
theorem Sim.has (S : Sim G s) : s.edgeAt e = none ↔ G.hasE e = false := by
  rw [RS.edgeAt, List.findIdx?_eq_none_iff, S.es]
  constructor
  · intro h
    cases hv : G.hasE e with
    | false => rfl
    | true => have := h _ (Gr.has_mem hv); simp at this
  · intro h x hx
    simp only [beq_eq_false_iff_ne]
    rintro rfl
    rw [(Gr.mem_es hx).1] at h; cases h
theorem Sim.has1 (S : Sim G s) (h : G.hasE e = true) : ∃ i, s.edgeAt e = some i ∧ s.es.take i ++ s.es.drop (i + 1) = G.es.filter (·.1 != e) ∧ s.es[i]? = some (e, (G.edgeAt e).1, (G.edgeAt e).2.1) := by
  cases hi : s.edgeAt e with
  | none => rw [S.has] at hi; rw [hi] at h; cases h
  | some i =>
    rw [RS.edgeAt, S.es] at hi
    obtain ⟨a, y, hy, e1⟩ := take_drop (f := fun x : Int × Int × Int => x.1) (lvE_sorted _ _) hi
    refine ⟨i, rfl, by rw [S.es]; exact a, ?_⟩
    have m := List.mem_of_getElem? hy
    have hm := Gr.mem_es m
    rw [e1] at hm
    rw [S.es]
    show (lvE 0 G.edges)[i]? = _
    rw [hy, hm.2]
    obtain ⟨y1, y2, y3⟩ := y
    simp only at e1; subst e1; rfl
/-- A change of the edge at a place is a change of the edge of its id. -/
theorem modify_id {l : List (Int × Int × Int)} (hs : l.Pairwise fun a b => a.1 < b.1) {i : Nat} {x : Int × Int × Int} (hx : l[i]? = some x) {f : Int × Int × Int → Int × Int × Int} : l.modify i f = l.map fun y => if y.1 = x.1 then f y else y := by
  apply List.ext_getElem?
  intro j
  rw [List.getElem?_modify, List.getElem?_map]
  cases hj : l[j]? with
  | none => rfl
  | some y =>
    by_cases q : i = j
    · subst q
      rw [hx] at hj
      obtain rfl := Option.some.inj hj
      simp
    · have : y.1 ≠ x.1 := by
        rcases Nat.lt_or_gt_of_ne q with c | c
        · have := sorted_get (f := (·.1)) hs hx hj c; omega
        · have := sorted_get (f := (·.1)) hs hj hx c; omega
      simp [q, this]
theorem Sim.addN0 (S : Sim G s) (F : Fit G k) (h : 1024 ≤ G.ln) : s.addN = (s, 0, 3) := by
  have := F.cnt.1
  have := F.n1
  rw [RS.addN, if_pos (by rw [S.ns]; omega)]
theorem Sim.addN1 (S : Sim G s) (F : Fit G k) (hk : k ≤ 1000000) (h : G.ln < 1024) : s.addN.2 = ((G.nodes.length : Int) + 1, 0) ∧ Sim G.addN s.addN.1 := by
  have := F.cnt.1
  have := F.l1
  rw [RS.addN, if_neg (by rw [S.ns]; omega)]
  have hw : w64 (s.nn + 1) = (G.nodes.length : Int) + 1 := by rw [S.nn, w64_id (by omega) (by omega)]
  rw [hw]
  refine ⟨rfl, ?_, ?_, ?_, ?_⟩
  · show s.ns ++ [_] = _; rw [Gr.addN_ns, S.ns]
  · rw [Gr.addN_es]; exact S.es
  · rw [Gr.addN_nlen]; show (G.nodes.length : Int) + 1 = _; omega
  · rw [Gr.addN_edges]; exact S.ne
theorem Sim.addE0 (S : Sim G s) (h : G.node u = false ∨ G.node v = false) : s.addE u v = (s, 0, 2) := by
  rw [RS.addE, if_pos (h.imp S.node.2 S.node.2)]
theorem Sim.addE2 (S : Sim G s) (F : Fit G k) (h1 : G.node u = true) (h2 : G.node v = true) (h : 3072 ≤ G.le) : s.addE u v = (s, 0, 3) := by
  have := F.cnt.2
  have := F.n2
  rw [RS.addE, if_neg (by rw [S.node, S.node, h1, h2]; simp), if_pos (by rw [S.es]; omega)]
theorem Sim.addE1 (S : Sim G s) (hl : G.edges.length ≤ 1000000) (h1 : G.node u = true) (h2 : G.node v = true) (h : s.es.length ≠ 3072) : (s.addE u v).2 = ((G.edges.length : Int) + 1, 0) ∧ Sim (G.addE u v) (s.addE u v).1 := by
  rw [RS.addE, if_neg (by rw [S.node, S.node, h1, h2]; simp), if_neg h]
  have hw : w64 (s.ne + 1) = (G.edges.length : Int) + 1 := by rw [S.ne, w64_id (by omega) (by omega)]
  rw [hw]
  refine ⟨rfl, ?_, ?_, ?_, ?_⟩
  · rw [Gr.addE_ns]; exact S.ns
  · show s.es ++ [_] = _; rw [Gr.addE_es, S.es]
  · rw [Gr.addE_nodes]; exact S.nn
  · rw [Gr.addE_elen]; show (G.edges.length : Int) + 1 = _; omega
theorem Sim.dropN0 (S : Sim G s) (h : G.node v = false) : s.dropN v = (s, 0, 2) := by
  rw [RS.dropN, S.node.2 h]
theorem Sim.dropN1 (S : Sim G s) (h : G.node v = true) : (s.dropN v).2 = (((G.at v).length : Int), 0) ∧ Sim (G.dropAll v) (s.dropN v).1 := by
  obtain ⟨i, h1, h2⟩ := S.node1 h
  rw [RS.dropN, h1]
  have hc : (G.es.filter fun x => !atN v x).length + (G.es.filter (atN v)).length = G.es.length := by
    rw [Nat.add_comm]
    exact filter_two _ _
  have ha : (G.at v).length = (G.es.filter (atN v)).length := by rw [Gr.at_es, List.length_map]; rfl
  refine ⟨?_, ?_, ?_, ?_, ?_⟩
  · rw [S.es, ha]; exact Prod.ext (by simp only; omega) rfl
  · rw [Gr.dropAll_ns h]; exact h2
  · rw [Gr.dropAll_es]; show s.es.filter _ = _; rw [S.es]; rfl
  · rw [Gr.dropAll_nlen]; exact S.nn
  · rw [Gr.dropAll_elen]; exact S.ne
theorem Sim.dropE0 (S : Sim G s) (h : G.hasE e = false) : s.dropE e = (s, 2) := by
  rw [RS.dropE, S.has.2 h]
theorem Sim.dropE1 (S : Sim G s) (h : G.hasE e = true) : (s.dropE e).2 = 0 ∧ Sim (G.dropE e) (s.dropE e).1 := by
  obtain ⟨i, h1, h2, -⟩ := S.has1 h
  obtain ⟨r1, r2⟩ := Gr.has_range h
  rw [RS.dropE, h1]
  refine ⟨rfl, ?_, ?_, ?_, ?_⟩
  · rw [Gr.dropE_ns]; exact S.ns
  · rw [Gr.dropE_es r1 r2]; exact h2
  · rw [Gr.dropE_nodes]; exact S.nn
  · rw [Gr.dropE_elen]; exact S.ne
theorem Sim.ends0 (S : Sim G s) (h : G.hasE e = false) : s.ends e = (0, 0, 2) := by
  rw [RS.ends, S.has.2 h]
theorem Sim.ends1 (S : Sim G s) (h : G.hasE e = true) : s.ends e = ((G.edgeAt e).1, (G.edgeAt e).2.1, 0) := by
  obtain ⟨i, h1, -, h3⟩ := S.has1 h
  rw [RS.ends, h1]
  simp only [List.getD_eq_getElem?_getD, h3, Option.getD_some]
theorem Sim.mods (S : Sim G s) {i : Nat} (hi : s.es[i]? = some (e, (G.edgeAt e).1, (G.edgeAt e).2.1)) {f : Int × Int × Int → Int × Int × Int} (hf : ∀ y ∈ G.es, y.1 = e → f y = putE e en v y) : s.es.modify i f = G.es.map (putE e en v) := by
  rw [S.es] at hi ⊢
  rw [modify_id (l := G.es) (lvE_sorted _ _) hi]
  apply List.map_congr_left
  intro y hy
  by_cases q : y.1 = e
  · rw [if_pos q]; exact hf y hy q
  · rw [if_neg q]; exact (if_neg q).symm
theorem putE_0 {y : Int × Int × Int} (h : y.1 = e) : setU v y = putE e 0 v y := by rw [putE, if_pos h]; rfl
theorem putE_1 {y : Int × Int × Int} (h : y.1 = e) (hn : en ≠ 0) : setW v y = putE e en v y := by rw [putE, if_pos h, if_neg hn]; rfl
theorem Sim.move0 (S : Sim G s) (h : G.hasE e = false ∨ G.node v = false ∨ en < 0 ∨ 1 < en) : s.move e en v = (s, 2) := by
  rw [RS.move]
  cases hi : s.edgeAt e with
  | none => rfl
  | some i =>
    have : G.hasE e = true := by
      cases q : G.hasE e with
      | true => rfl
      | false => rw [S.has.2 q] at hi; cases hi
    rw [this] at h
    simp only
    rw [if_pos]
    rcases h with h | h | h | h
    · cases h
    · exact .inl (S.node.2 h)
    · exact .inr (.inl h)
    · exact .inr (.inr h)
theorem Sim.move1 (S : Sim G s) (h : G.hasE e = true) (hv : G.node v = true) (e0 : 0 ≤ en) (e1 : en ≤ 1) : (s.move e en v).2 = 0 ∧ Sim (G.move e en v) (s.move e en v).1 := by
  obtain ⟨i, h1, -, h3⟩ := S.has1 h
  obtain ⟨r1, r2⟩ := Gr.has_range h
  rw [RS.move, h1]
  simp only
  rw [if_neg (by rw [S.node, hv]; simp; omega)]
  refine ⟨rfl, ?_, ?_, ?_, ?_⟩
  · rw [Gr.move_ns]; exact S.ns
  · rw [Gr.move_es r1 r2]
    refine S.mods h3 fun y _ q => ?_
    split
    · rename_i q2; rw [q2]; exact putE_0 q
    · rename_i q2; exact putE_1 q q2
  · rw [Gr.move_nodes]; exact S.nn
  · rw [Gr.move_elen]; exact S.ne
theorem Sim.split0 (S : Sim G s) (h : G.hasE e = false) : s.split e = (s, 0, 0, 2) := by
  rw [RS.split, S.has.2 h]
theorem Sim.split2 (S : Sim G s) (F : Fit G k) (h : G.hasE e = true) (hl : 1024 ≤ G.ln ∨ 3072 ≤ G.le) : s.split e = (s, 0, 0, 3) := by
  obtain ⟨i, h1, -, h3⟩ := S.has1 h
  have := F.cnt.1
  have := F.n1
  have := F.cnt.2
  have := F.n2
  rw [RS.split, h1]
  simp only
  rw [if_pos (by rw [S.ns, S.es]; omega)]
theorem Sim.split1 (S : Sim G s) (F : Fit G k) (hk : k ≤ 1000000) (h : G.hasE e = true) (hl1 : G.ln < 1024) (hl2 : G.le < 3072) : (s.split e).2 = ((G.nodes.length : Int) + 1, (G.edges.length : Int) + 1, 0) ∧ Sim (G.splitG e) (s.split e).1 := by
  obtain ⟨i, h1, -, h3⟩ := S.has1 h
  obtain ⟨r1, r2⟩ := Gr.has_range h
  have c1 := F.cnt.1
  have c2 := F.cnt.2
  have := F.l1
  have := F.l2
  obtain ⟨a1, a2⟩ := S.addN1 F hk hl1
  have hsz : (1 : Int) ≤ e ∧ e ≤ G.addN.edges.length := by rw [Gr.addN_edges]; exact ⟨r1, r2⟩
  have n1 : G.addN.node ((G.nodes.length : Int) + 1) = true := by rw [Gr.node_iff, Gr.addN_ns]; simp
  have n2 : G.addN.node (G.edgeAt e).2.1 = true := Gr.node_addN (Gr.node_iff.2 (F.good _ (Gr.has_mem h)).2)
  -- the edge moved before the new one is made
  have S2 : Sim (G.addN.move e 1 ((G.nodes.length : Int) + 1)) { s.addN.1 with es := s.es.modify i (setW ((G.nodes.length : Int) + 1)) } := by
    refine ⟨?_, ?_, ?_, ?_⟩
    · rw [Gr.move_ns]; exact a2.ns
    · rw [Gr.move_es hsz.1 hsz.2, Gr.addN_es]
      exact S.mods h3 fun y _ q => putE_1 q (by omega)
    · rw [Gr.move_nodes]; exact a2.nn
    · rw [Gr.move_elen]; exact a2.ne
  have b := S2.addE1 (u := (G.nodes.length : Int) + 1) (v := (G.edgeAt e).2.1) (by rw [Gr.move_elen, Gr.addN_edges]; omega)
    (by rw [Gr.node_iff, Gr.move_ns]; exact Gr.node_iff.1 n1) (by rw [Gr.node_iff, Gr.move_ns]; exact Gr.node_iff.1 n2)
    (by show (s.es.modify i _).length ≠ _; rw [List.length_modify, S.es]; omega)
  rw [RS.split, h1]
  simp only
  rw [if_neg (by rw [S.ns, S.es]; omega)]
  have ev : s.addN.2.1 = (G.nodes.length : Int) + 1 := by rw [a1]
  rw [ev]
  have ew : (s.es.getD i (0, 0, 0)).2.2 = (G.edgeAt e).2.1 := by rw [List.getD_eq_getElem?_getD, h3]; rfl
  rw [ew]
  obtain ⟨b1, b2⟩ := b
  rw [Gr.move_elen, Gr.addN_edges] at b1
  refine ⟨by rw [b1], ?_, ?_, ?_, ?_⟩
  · rw [b2.ns, Gr.split_ns, Gr.addE_ns, Gr.move_ns, Gr.addN_ns]
  · rw [b2.es, Gr.split_es h, Gr.addE_es, Gr.move_es hsz.1 hsz.2, Gr.addN_es, Gr.move_elen, Gr.addN_edges, List.map_append]
    congr 1
    simp only [List.map_cons, List.map_nil]
    rw [putE, if_neg (by simp only; omega)]
  · rw [b2.nn, Gr.split_nlen, Gr.addE_nodes, Gr.move_nodes, Gr.addN_nlen]
  · rw [b2.ne, Gr.split_elen, Gr.addE_elen, Gr.move_elen, Gr.addN_edges]
theorem plcs_map (v : Int) : ∀ (l : List (Int × Int × Int)) (i : Nat), (plcs v i l).map (fun j => (l.getD (j.toNat - i) (0, 0, 0)).1) = (l.filter (atN v)).map (·.1) ∧ (∀ j ∈ plcs v i l, (i : Int) ≤ j ∧ j < (i : Int) + l.length ∧ ∃ x, l[j.toNat - i]? = some x ∧ atN v x = true) ∧ (plcs v i l).Pairwise (· < ·)
  | [], i => ⟨rfl, by simp [plcs], List.Pairwise.nil⟩
  | x :: l, i => by
    obtain ⟨a, b, c⟩ := plcs_map v l (i + 1)
    have shift : ∀ j ∈ plcs v (i + 1) l, j.toNat - i = (j.toNat - (i + 1)) + 1 := fun j hj => by have := b j hj; omega
    have e1 : (plcs v (i + 1) l).map (fun j => ((x :: l).getD (j.toNat - i) (0, 0, 0)).1) = (l.filter (atN v)).map (·.1) := by
      rw [← a]
      apply List.map_congr_left
      intro j hj
      rw [shift j hj]; rfl
    refine ⟨?_, ?_, ?_⟩
    · simp only [plcs, List.map_append, e1]
      cases q : atN v x
      · rw [List.filter_cons_of_neg (by simp [q])]; rfl
      · rw [List.filter_cons_of_pos q]; simp
    · intro j hj
      simp only [plcs, List.mem_append] at hj
      rcases hj with hj | hj
      · split at hj
        · rename_i q
          simp at hj; subst hj
          exact ⟨by omega, by simp; omega, x, by simp, q⟩
        · simp at hj
      · obtain ⟨b1, b2, y, b3, b4⟩ := b j hj
        exact ⟨by omega, by simp only [List.length_cons]; omega, y, by rw [shift j hj]; simpa using b3, b4⟩
    · simp only [plcs]
      refine List.pairwise_append.2 ⟨by split <;> simp, c, fun p hp q hq => ?_⟩
      have := (b q hq).1
      split at hp
      · simp at hp; omega
      · simp at hp
theorem Sim.unsplit0 (S : Sim G s) (h : G.node v = false) : s.unsplit v = (s, 0, 2) := by
  rw [RS.unsplit, S.node.2 h]
theorem Sim.edges (S : Sim G s) : s.edges v = G.at v := by rw [RS.edges, S.es, Gr.at_es]; rfl
theorem Sim.plcsAt (S : Sim G s) : (plcs v 0 s.es).map (fun j => (s.es.getD j.toNat (0, 0, 0)).1) = G.at v := by
  rw [← S.edges]
  exact (plcs_map v s.es 0).1
theorem any_loop (S : Sim G s) : (s.es.any fun x => x.2.1 == v && x.2.2 == v) = true ↔ ∃ e ∈ G.at v, (G.edgeAt e).1 = (G.edgeAt e).2.1 := by
  rw [List.any_eq_true, S.es]
  constructor
  · rintro ⟨x, hx, h⟩
    simp only [Bool.and_eq_true, beq_iff_eq] at h
    refine ⟨x.1, ?_, ?_⟩
    · rw [Gr.at_es]; exact List.mem_map.2 ⟨x, List.mem_filter.2 ⟨hx, by simp [h.1]⟩, rfl⟩
    · rw [(Gr.mem_es hx).2, h.1, h.2]
  · rintro ⟨e, he, h⟩
    rw [Gr.at_es] at he
    obtain ⟨x, hx, rfl⟩ := List.mem_map.1 he
    obtain ⟨h1, h2⟩ := List.mem_filter.1 hx
    rw [(Gr.mem_es h1).2] at h
    simp only at h
    refine ⟨x, h1, ?_⟩
    simp only [h, Bool.or_self, beq_iff_eq, Bool.and_self] at h2 ⊢
    exact h2
theorem Sim.unsplit2 (S : Sim G s) (hn : G.node v = true) (h : ∀ k f, G.at v = [k, f] → (G.edgeAt k).1 = (G.edgeAt k).2.1 ∨ (G.edgeAt f).1 = (G.edgeAt f).2.1) : s.unsplit v = (s, 0, 10) := by
  obtain ⟨p, hp, -⟩ := S.node1 hn
  rw [RS.unsplit, hp]
  simp only
  by_cases q : (s.es.any fun x => x.2.1 == v && x.2.2 == v) = true
  · rw [if_pos q]
  · rw [if_neg q]
    split
    · rename_i i j hij
      have hat := S.plcsAt (v := v)
      rw [hij] at hat
      refine absurd ((any_loop S).2 ?_) q
      have := h _ _ hat.symm
      rcases this with c | c
      · exact ⟨_, by rw [← hat]; simp, c⟩
      · exact ⟨_, by rw [← hat]; simp, c⟩
    · rfl
theorem Sim.unsplit1 {f : Int} (S : Sim G s) (F : Fit G k) (hk : k ≤ 1000000) {d : Int} (hn : G.node v = true) (ha : G.at v = [d, f]) (h1 : (G.edgeAt d).1 ≠ (G.edgeAt d).2.1) (h2 : (G.edgeAt f).1 ≠ (G.edgeAt f).2.1) :
    (s.unsplit v).2 = (d, 0) ∧ Sim (G.unsplitG v d f) (s.unsplit v).1 := by
  have l1 := F.l1
  have l2 := F.l2
  obtain ⟨p, hp, -⟩ := S.node1 hn
  obtain ⟨u1, u2, u3, u4, u5⟩ := Gr.unsplit_has ha
  obtain ⟨r1, r2⟩ := Gr.has_range u1
  obtain ⟨r3, r4⟩ := Gr.has_range u2
  have q : ¬(s.es.any fun x => x.2.1 == v && x.2.2 == v) = true := by
    rw [any_loop S, ha]
    rintro ⟨e, he, hl⟩
    simp only [List.mem_cons, List.not_mem_nil, or_false] at he
    rcases he with rfl | rfl
    · exact h1 hl
    · exact h2 hl
  have hat := S.plcsAt (v := v)
  rw [ha] at hat
  obtain ⟨-, pm, -⟩ := plcs_map v s.es 0
  obtain ⟨i, j, hij⟩ : ∃ i j, plcs v 0 s.es = [i, j] := by
    have hl : (plcs v 0 s.es).length = 2 := by have := congrArg List.length hat; simpa using this
    match plcs v 0 s.es, hl with
    | [i, j], _ => exact ⟨i, j, rfl⟩
  rw [hij] at hat pm
  simp only [List.map_cons, List.map_nil, List.cons.injEq, and_true] at hat
  obtain ⟨e1, e2⟩ := hat
  have get : ∀ {w : Int} {e : Int}, (∃ x, s.es[w.toNat - 0]? = some x ∧ atN v x = true) → (s.es.getD w.toNat (0, 0, 0)).1 = e → s.es[w.toNat]? = some (e, (G.edgeAt e).1, (G.edgeAt e).2.1) := by
    rintro w e ⟨x, hx, -⟩ hd
    rw [Nat.sub_zero] at hx
    rw [List.getD_eq_getElem?_getD, hx] at hd
    rw [hx]
    have hm : x ∈ G.es := by rw [← S.es]; exact List.mem_of_getElem? hx
    obtain ⟨x1, x2, x3⟩ := x
    simp only [Option.getD_some] at hd
    subst hd
    rw [(Gr.mem_es hm).2]
  have gi := get (pm i (by simp)).2.2 e1
  have gj := get (pm j (by simp)).2.2 e2
  have ej : s.es.getD j.toNat (0, 0, 0) = (f, (G.edgeAt f).1, (G.edgeAt f).2.1) := by rw [List.getD_eq_getElem?_getD, gj]; rfl
  have efar : farE v (f, (G.edgeAt f).1, (G.edgeAt f).2.1) = G.far v f := rfl
  obtain ⟨fe1, fe2⟩ := Gr.far_eq F.good (by omega) ha
  rw [RS.unsplit, hp]
  simp only
  rw [if_neg q, hij]
  simp only
  rw [ej, efar, e1]
  -- step by step
  have S1 : Sim (G.move d (G.ends1 d v) (G.far v f)) { s with es := s.es.modify i.toNat (turnE v (G.far v f)) } := by
    refine ⟨?_, ?_, ?_, ?_⟩
    · rw [Gr.move_ns]; exact S.ns
    · rw [Gr.move_es r1 r2]
      refine S.mods gi fun y hy hyd => ?_
      have hm := (Gr.mem_es hy).2
      rw [hyd] at hm
      unfold turnE Gr.ends1
      rw [hm] at h1 u4 ⊢
      simp only at h1 u4 ⊢
      by_cases c : y.2.1 = v
      · rw [if_pos c]
        have c2 : (y.2.2 == v) = false := by
          rw [beq_eq_false_iff_ne]; exact fun c3 => h1 (c.trans c3.symm)
        rw [c2]
        exact putE_0 hyd
      · rw [if_neg c]
        have c2 : (y.2.2 == v) = true := by
          rw [beq_iff_eq]; exact u4.resolve_left c
        rw [c2]
        exact putE_1 hyd (by simp)
    · rw [Gr.move_nodes]; exact S.nn
    · rw [Gr.move_elen]; exact S.ne
  have hf1 : (G.move d (G.ends1 d v) (G.far v f)).hasE f = true := by
    have m := Gr.has_mem u2
    have : putE d (G.ends1 d v) (G.far v f) (f, (G.edgeAt f).1, (G.edgeAt f).2.1) ∈ (G.move d (G.ends1 d v) (G.far v f)).es := by
      rw [Gr.move_es r1 r2]; exact List.mem_map_of_mem m
    have := (Gr.mem_es this).1
    rw [putE, if_neg (fun c => u3 c.symm)] at this
    exact this
  obtain ⟨-, S2⟩ := S1.dropE1 hf1
  have nv : ((G.move d (G.ends1 d v) (G.far v f)).dropE f).node v = true := by
    rw [Gr.node_iff, Gr.dropE_ns, Gr.move_ns]; exact Gr.node_iff.1 hn
  obtain ⟨-, S3⟩ := S2.dropN1 nv
  have eU : G.unsplitG v d f = ((G.move d (G.ends1 d v) (G.far v f)).dropE f).dropN v := by rw [Gr.unsplitG, fe1]
  have gU := Gr.good.unsplit F.good (by omega) hn ha h1 h2
  refine ⟨rfl, ?_, ?_, ?_, ?_⟩
  · rw [S3.ns, Gr.dropAll_ns nv, Gr.unsplit_ns hn, Gr.dropE_ns, Gr.move_ns]
  · rw [S3.es, Gr.dropAll_es, eU, Gr.dropN_es]
    apply filter_all
    intro x hx
    rw [eU] at gU
    have := gU x (by rw [Gr.dropN_es]; exact hx)
    rw [← eU, Gr.unsplit_ns hn, List.mem_filter, List.mem_filter] at this
    obtain ⟨⟨_, b1⟩, _, b2⟩ := this
    simp only [bne_iff_ne, ne_eq] at b1 b2
    simp [b1, b2]
  · rw [S3.nn, Gr.dropAll_nlen, eU, Gr.dropN_nlen]
  · rw [S3.ne, Gr.dropAll_elen, eU, Gr.dropN_edges]
end
end Go.X

/- Graphs: moves, and that they fit. Conditions: none. -/
namespace Go.X
section
variable {G G' G0 : Gr} {e en u v : Int} {k : Nat}
/-- Done by moves. -/
inductive Gr.Go (G0 : Gr) : Gr → Prop
  | refl : Gr.Go G0 G0
  | addN {G : Gr} : Gr.Go G0 G → Gr.Go G0 G.addN
  | addE {G : Gr} (u v : Int) : Gr.Go G0 G → Gr.Go G0 (G.addE u v)
  | dropE {G : Gr} {e : Int} : Gr.Go G0 G → G.hasE e = true → Gr.Go G0 (G.dropE e)
  | dropN {G : Gr} {v : Int} : Gr.Go G0 G → G.node v = true → Gr.Go G0 (G.dropN v)
  | move {G : Gr} {e en : Int} (v : Int) : Gr.Go G0 G → 1 ≤ e → e ≤ G.edges.length → 0 ≤ en → en ≤ 1 → Gr.Go G0 (G.move e en v)
theorem Gr.Go.le (g : Gr.Go G0 G) : G0.nodes.length ≤ G.nodes.length ∧ G0.edges.length ≤ G.edges.length := by
  induction g with
  | refl => exact ⟨Nat.le_refl _, Nat.le_refl _⟩
  | addN _ ih => rw [Gr.addN_nlen, Gr.addN_edges]; omega
  | addE u v _ ih => rw [Gr.addE_nodes, Gr.addE_elen]; omega
  | dropE _ _ ih => rw [Gr.dropE_nodes, Gr.dropE_elen]; omega
  | dropN _ _ ih => rw [Gr.dropN_nlen, Gr.dropN_edges]; omega
  | move v _ _ _ _ _ ih => rw [Gr.move_nodes, Gr.move_elen]; omega
theorem Gr.Go.cnt (g : Gr.Go G0 G) (c : G0.cnt) (h1 : G.nodes.length < 1000000000) (h2 : G.edges.length < 1000000000) : G.cnt := by
  induction g with
  | refl => exact c
  | addN _ ih => rw [Gr.addN_nlen] at h1; rw [Gr.addN_edges] at h2; exact (ih (by omega) (by omega)).addN (by omega)
  | addE u v _ ih => rw [Gr.addE_nodes] at h1; rw [Gr.addE_elen] at h2; exact (ih (by omega) (by omega)).addE (by omega)
  | dropE _ q ih => rw [Gr.dropE_nodes] at h1; rw [Gr.dropE_elen] at h2; exact (ih (by omega) (by omega)).dropE (by omega) q
  | dropN _ q ih => rw [Gr.dropN_nlen] at h1; rw [Gr.dropN_edges] at h2; exact (ih (by omega) (by omega)).dropN (by omega) q
  | move v _ q1 q2 _ _ ih => rw [Gr.move_nodes] at h1; rw [Gr.move_elen] at h2; exact (ih (by omega) (by omega)).move q1 q2
theorem Gr.Go.marks (g : Gr.Go G0 G) : G.marks = G0.marks ∧ G.last = G0.last := by
  induction g with
  | refl => exact ⟨rfl, rfl⟩
  | addN _ ih => rw [Gr.addN_marks, Gr.addN, Gr.did_last]; exact ih
  | addE u v _ ih => rw [Gr.addE_marks, Gr.addE, Gr.did_last]; exact ih
  | dropE _ _ ih => rw [Gr.dropE_marks, Gr.dropE, Gr.did_last]; exact ih
  | dropN _ _ ih => rw [Gr.dropN_marks, Gr.dropN, Gr.did_last]; exact ih
  | move v _ _ _ _ _ ih => rw [Gr.move_marks, Gr.move, Gr.did_last]; exact ih
theorem Gr.Go.trail (g : Gr.Go G0 G) (hm : G0.marks ≠ []) (c : G0.cnt) (h1 : G.nodes.length < 1000000000) (h2 : G.edges.length < 1000000000) : G0.trail G := by
  have nl := @Gr.ns_len
  have el := @Gr.es_len
  induction g with
  | refl => exact Gr.trail.refl _
  | @addN G g ih =>
    rw [Gr.addN_nlen] at h1; rw [Gr.addN_edges] at h2
    have cc := g.cnt c (by omega) (by omega)
    have := cc.1
    have := nl (G := G)
    exact (ih (by omega) (by omega)).step (Gr.addN_one (by rw [g.marks.1]; exact hm) (by omega) (by omega))
  | @addE G u v g ih =>
    rw [Gr.addE_nodes] at h1; rw [Gr.addE_elen] at h2
    have cc := g.cnt c (by omega) (by omega)
    have := cc.2
    have := el (G := G)
    exact (ih (by omega) (by omega)).step (Gr.addE_one (by rw [g.marks.1]; exact hm) (by omega) (by omega))
  | @dropE G e g q ih =>
    rw [Gr.dropE_nodes] at h1; rw [Gr.dropE_elen] at h2
    have cc := g.cnt c (by omega) (by omega)
    have := cc.2
    have := el (G := G)
    exact (ih (by omega) (by omega)).step (Gr.dropE_one (by rw [g.marks.1]; exact hm) (by omega) (by omega) q)
  | @dropN G v g q ih =>
    rw [Gr.dropN_nlen] at h1; rw [Gr.dropN_edges] at h2
    have cc := g.cnt c (by omega) (by omega)
    have := cc.1
    have := nl (G := G)
    exact (ih (by omega) (by omega)).step (Gr.dropN_one (by rw [g.marks.1]; exact hm) (by omega) (by omega) q)
  | @move G e en v g q1 q2 q3 q4 ih =>
    rw [Gr.move_nodes] at h1; rw [Gr.move_elen] at h2
    exact (ih (by omega) (by omega)).step (Gr.move_one (by rw [g.marks.1]; exact hm) q1 q2 q3 q4)
theorem Gr.hasE_dropE {f : Int} (h : G.hasE f = true) (he : G.hasE e = true) (hne : f ≠ e) : (G.dropE e).hasE f = true := by
  obtain ⟨r1, r2⟩ := Gr.has_range he
  have : (f, (G.edgeAt f).1, (G.edgeAt f).2.1) ∈ (G.dropE e).es := by
    rw [Gr.dropE_es r1 r2]; exact List.mem_filter.2 ⟨Gr.has_mem h, by simpa using hne⟩
  exact (Gr.mem_es this).1
theorem Gr.Go.dropEs : ∀ (l : List Int) {G : Gr}, Gr.Go G0 G → (∀ e ∈ l, G.hasE e = true) → l.Pairwise (· < ·) → Gr.Go G0 (l.foldl Gr.dropE G)
  | [], _, g, _, _ => g
  | e :: l, G, g, h, hs => by
    obtain ⟨h1, h2⟩ := List.pairwise_cons.1 hs
    rw [List.foldl_cons]
    exact Gr.Go.dropEs l (g.dropE (h e (by simp))) (fun f hf => Gr.hasE_dropE (h f (List.mem_cons_of_mem _ hf)) (h e (by simp)) (by have := h1 f hf; omega)) h2
theorem Gr.at_sorted : (G.at v).Pairwise (· < ·) := by
  rw [Gr.at_es]
  exact List.pairwise_map.2 ((lvE_sorted G.edges 0).filter _)
theorem Gr.Go.dropAll (h : G.node v = true) : Gr.Go G (G.dropAll v) := by
  refine (Gr.Go.dropEs (G.at v) .refl Gr.at_has Gr.at_sorted).dropN ?_
  rw [Gr.node_iff, Gr.ns, (Gr.dropEs_ns _ G).1]; exact Gr.node_iff.1 h
theorem Gr.Go.split (h : G.hasE e = true) : Gr.Go G (G.splitG e) := by
  obtain ⟨h1, h2⟩ := Gr.has_range h
  exact (Gr.Go.refl.addN.addE _ _).move _ h1 (by rw [Gr.addE_elen, Gr.addN_edges]; omega) (by omega) (by omega)
theorem Gr.Go.unsplit {d f : Int} (h : G.node v = true) (ha : G.at v = [d, f]) : Gr.Go G (G.unsplitG v d f) := by
  obtain ⟨u1, u2, u3, -⟩ := Gr.unsplit_has ha
  obtain ⟨r1, r2⟩ := Gr.has_range u1
  have e0 : 0 ≤ G.ends1 d v ∧ G.ends1 d v ≤ 1 := by unfold Gr.ends1; split <;> omega
  refine ((Gr.Go.refl.move _ r1 r2 e0.1 e0.2).dropE ?_).dropN ?_
  · have m := Gr.has_mem u2
    have : putE d (G.ends1 d v) (w64 (w64 ((G.edgeAt f).1 + (G.edgeAt f).2.1) - v)) (f, (G.edgeAt f).1, (G.edgeAt f).2.1) ∈ (G.move d (G.ends1 d v) (w64 (w64 ((G.edgeAt f).1 + (G.edgeAt f).2.1) - v))).es := by
      rw [Gr.move_es r1 r2]; exact List.mem_map_of_mem m
    have := (Gr.mem_es this).1
    rw [putE, if_neg (fun c => u3 c.symm)] at this
    exact this
  · rw [Gr.node_iff, Gr.dropE_ns, Gr.move_ns]; exact Gr.node_iff.1 h
theorem Gr.split_elenS (h : G.hasE e = true) : (G.splitG e).es.length = G.es.length + 1 := by rw [Gr.split_es h]; simp
/-- How a fit graph is changed by what is called. -/
theorem Fit.addN (F : Fit G k) (hk : k ≤ 100000000) (h : G.ln < 1024) : Fit G.addN (k + 1) := by
  have g : Gr.Go G G.addN := Gr.Go.refl.addN
  have := F.l1
  have := F.l2
  have := F.cnt.1
  refine ⟨F.good.addN, g.cnt F.cnt (by rw [Gr.addN_nlen]; omega) (by rw [Gr.addN_edges]; omega), ?_, ?_, by rw [Gr.addN_nlen]; omega, by rw [Gr.addN_edges]; omega⟩
  · rw [Gr.addN_ns]; simp only [List.length_append, List.length_cons, List.length_nil]; omega
  · rw [Gr.addN_es]; exact F.n2
theorem Fit.addE (F : Fit G k) (hk : k ≤ 100000000) (h1 : G.node u = true) (h2 : G.node v = true) (h : G.le < 3072) : Fit (G.addE u v) (k + 1) := by
  have g : Gr.Go G (G.addE u v) := Gr.Go.refl.addE u v
  have := F.l1
  have := F.l2
  have := F.cnt.2
  refine ⟨F.good.addE h1 h2, g.cnt F.cnt (by rw [Gr.addE_nodes]; omega) (by rw [Gr.addE_elen]; omega), ?_, ?_, by rw [Gr.addE_nodes]; omega, by rw [Gr.addE_elen]; omega⟩
  · rw [Gr.addE_ns]; exact F.n1
  · rw [Gr.addE_es]; simp only [List.length_append, List.length_cons, List.length_nil]; omega
theorem Fit.dropE (F : Fit G k) (hk : k ≤ 100000000) (h : G.hasE e = true) : Fit (G.dropE e) (k + 1) := by
  have g : Gr.Go G (G.dropE e) := Gr.Go.refl.dropE h
  obtain ⟨r1, r2⟩ := Gr.has_range h
  have := F.l1
  have := F.l2
  refine ⟨F.good.dropE r1 r2, g.cnt F.cnt (by rw [Gr.dropE_nodes]; omega) (by rw [Gr.dropE_elen]; omega), ?_, ?_, by rw [Gr.dropE_nodes]; omega, by rw [Gr.dropE_elen]; omega⟩
  · rw [Gr.dropE_ns]; exact F.n1
  · rw [Gr.dropE_es r1 r2]; exact Nat.le_trans (List.length_filter_le _ _) F.n2
theorem Fit.dropAll (F : Fit G k) (hk : k ≤ 100000000) (h : G.node v = true) : Fit (G.dropAll v) (k + 1) := by
  have g : Gr.Go G (G.dropAll v) := Gr.Go.dropAll h
  have := F.l1
  have := F.l2
  refine ⟨F.good.dropAll h, g.cnt F.cnt (by rw [Gr.dropAll_nlen]; omega) (by rw [Gr.dropAll_elen]; omega), ?_, ?_, by rw [Gr.dropAll_nlen]; omega, by rw [Gr.dropAll_elen]; omega⟩
  · rw [Gr.dropAll_ns h]; exact Nat.le_trans (List.length_filter_le _ _) F.n1
  · rw [Gr.dropAll_es]; exact Nat.le_trans (List.length_filter_le _ _) F.n2
theorem Fit.move (F : Fit G k) (hk : k ≤ 100000000) (h : G.hasE e = true) (hv : G.node v = true) (e0 : 0 ≤ en) (e1 : en ≤ 1) : Fit (G.move e en v) (k + 1) := by
  obtain ⟨r1, r2⟩ := Gr.has_range h
  have g : Gr.Go G (G.move e en v) := Gr.Go.refl.move v r1 r2 e0 e1
  have := F.l1
  have := F.l2
  refine ⟨F.good.move r1 r2 hv, g.cnt F.cnt (by rw [Gr.move_nodes]; omega) (by rw [Gr.move_elen]; omega), ?_, ?_, by rw [Gr.move_nodes]; omega, by rw [Gr.move_elen]; omega⟩
  · rw [Gr.move_ns]; exact F.n1
  · rw [Gr.move_es r1 r2, List.length_map]; exact F.n2
theorem Fit.split (F : Fit G k) (hk : k ≤ 100000000) (h : G.hasE e = true) (h1 : G.ln < 1024) (h2 : G.le < 3072) : Fit (G.splitG e) (k + 1) := by
  have g : Gr.Go G (G.splitG e) := Gr.Go.split h
  have := F.l1
  have := F.l2
  have := F.cnt.1
  have := F.cnt.2
  refine ⟨F.good.split h, g.cnt F.cnt (by rw [Gr.split_nlen]; omega) (by rw [Gr.split_elen]; omega), ?_, ?_, by rw [Gr.split_nlen]; omega, by rw [Gr.split_elen]; omega⟩
  · rw [Gr.split_ns]; simp only [List.length_append, List.length_cons, List.length_nil]; omega
  · rw [Gr.split_elenS h]; omega
theorem Fit.unsplit {d f : Int} (F : Fit G k) (hk : k ≤ 100000000) (h : G.node v = true) (ha : G.at v = [d, f]) (h1 : (G.edgeAt d).1 ≠ (G.edgeAt d).2.1) (h2 : (G.edgeAt f).1 ≠ (G.edgeAt f).2.1) : Fit (G.unsplitG v d f) (k + 1) := by
  have g : Gr.Go G (G.unsplitG v d f) := Gr.Go.unsplit h ha
  have := F.l1
  have := F.l2
  refine ⟨F.good.unsplit (by omega) h ha h1 h2, g.cnt F.cnt (by rw [Gr.unsplit_nlen]; omega) (by rw [Gr.unsplit_elen]; omega), ?_, ?_, by rw [Gr.unsplit_nlen]; omega, by rw [Gr.unsplit_elen]; omega⟩
  · rw [Gr.unsplit_ns h]; exact Nat.le_trans (List.length_filter_le _ _) F.n1
  · rw [Gr.unsplit_es ha]; exact Nat.le_trans (List.length_filter_le _ _) (by rw [List.length_map]; exact F.n2)
theorem Fit.mono {j : Nat} (F : Fit G k) (h : k ≤ j) : Fit G j := ⟨F.good, F.cnt, F.n1, F.n2, Nat.le_trans F.l1 h, Nat.le_trans F.l2 h⟩
theorem Fit.wm {m : List (Int × Int)} {l : Int} (F : Fit G k) : Fit (G.wm m l) k := ⟨F.good, F.cnt, F.n1, F.n2, F.l1, F.l2⟩
theorem Sim.wm {s : RS} {m : List (Int × Int)} {l : Int} (S : Sim G s) : Sim (G.wm m l) s := ⟨S.ns, S.es, S.nn, S.ne⟩
end
end Go.X
