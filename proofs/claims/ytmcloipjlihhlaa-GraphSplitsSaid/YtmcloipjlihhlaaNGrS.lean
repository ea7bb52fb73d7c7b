/- Package graph: a graph of a net; law GraphSplits. Conditions: none. -/
import Derived.Test.YtmcloipjlihhlaaNGrB
import Derived.Test.YtmcloipjlihhlaaTGraphA
import Derived.Test.YtmcloipjlihhlaaNNet
import Derived.Test.YtmcloipjlihhlaaNTwin
namespace Go.X
/-- The graph of a net. -/
def ofNet (n : Nat) (es : List (Int × Int)) : Gr := ⟨List.replicate n true, es.map fun p => (p.1 + 1, p.2 + 1, true), n, es.length, [], [], 0⟩
theorem ofNet_len (n : Nat) (es : List (Int × Int)) : (ofNet n es).nodes.length = n ∧ (ofNet n es).edges.length = es.length ∧ (ofNet n es).undo.length = 0 := by simp [ofNet]
theorem ofNet_node {n : Nat} {es : List (Int × Int)} {v : Int} (h1 : 1 ≤ v) (h2 : v ≤ n) : (ofNet n es).node v = true := by
  have : (List.replicate n true).getD (v - 1).toNat false = true := by
    rw [List.getD_eq_getElem?_getD, List.getElem?_replicate, if_pos (by omega)]; rfl
  simp only [Gr.node, ofNet, List.length_replicate, this, decide_eq_true h1, decide_eq_true h2]; rfl
theorem ofNet_edge {n : Nat} {es : List (Int × Int)} {i : Nat} {p q : Int} (h : es[i]? = some (p, q)) : (ofNet n es).edgeAt ((i : Int) + 1) = (p + 1, q + 1, true) := by
  have e : ((i : Int) + 1 - 1).toNat = i := by omega
  rw [Gr.edgeAt, e, List.getD_eq_getElem?_getD]
  simp [ofNet, h]
theorem ofNet_has {n : Nat} {es : List (Int × Int)} {i : Nat} {p q : Int} (h : es[i]? = some (p, q)) : (ofNet n es).hasE ((i : Int) + 1) = true := by
  have hi := (List.getElem?_eq_some_iff.1 h).1
  have a1 : (1 : Int) ≤ (i : Int) + 1 := by omega
  have a2 : (i : Int) + 1 ≤ ((ofNet n es).edges.length : Int) := by rw [(ofNet_len n es).2.1]; omega
  simp only [Gr.hasE, ofNet_edge h, decide_eq_true a1, decide_eq_true a2]; rfl
theorem atL_none {v : Int} : ∀ {l : List (Int × Int × Bool)} {i : Nat}, (∀ x ∈ l, x.1 ≠ v ∧ x.2.1 ≠ v) → atL v i l = []
  | [], _, _ => rfl
  | y :: l, i, h => by
    obtain ⟨h1, h2⟩ := h y (by simp)
    simp only [atL, atL_none (fun x hx => h x (List.mem_cons_of_mem _ hx))]
    simp [h1, h2]
theorem atL_set {v : Int} : ∀ {l : List (Int × Int × Bool)} {i k : Nat} {y : Int × Int × Bool}, (∀ x ∈ l, x.1 ≠ v ∧ x.2.1 ≠ v) → i < l.length → y.2.2 = true → (y.1 = v ∨ y.2.1 = v) → atL v k (l.set i y) = [((k + i : Nat) : Int) + 1]
  | [], i, _, _, _, h, _, _ => by simp at h
  | x :: l, 0, k, y, h, _, h2, h3 => by
    simp only [List.set_cons_zero, atL, atL_none (fun x hx => h x (List.mem_cons_of_mem _ hx)), h2]
    rcases h3 with h3 | h3 <;> simp [h3]
  | x :: l, i + 1, k, y, h, hi, h2, h3 => by
    obtain ⟨h4, h5⟩ := h x (by simp)
    simp only [List.set_cons_succ, atL, atL_set (k := k + 1) (fun x hx => h x (List.mem_cons_of_mem _ hx)) (by simpa using hi) h2 h3]
    rw [show k + 1 + i = k + (i + 1) by omega]
    simp [h4, h5]
theorem idsN_rep : ∀ (n k : Nat), (idsN k (List.replicate n true)).length = n
  | 0, k => rfl
  | n + 1, k => by
    simp only [List.replicate_succ, idsN, List.length_append, idsN_rep n (k + 1)]
    simp; omega
theorem toV_rep {n : Nat} {r : List Bool} {p : Int} (h0 : 0 ≤ p) (h1 : p < n) : toV (List.replicate n true ++ r) (p + 1).toNat = p := by
  obtain ⟨j, rfl⟩ := Int.eq_ofNat_of_zero_le h0
  have e : ((j : Int) + 1).toNat = j + 1 := by omega
  have e2 : (List.replicate n true ++ r).take j = List.replicate j true := by
    rw [List.take_append_of_le_length (by simp; omega), List.take_replicate, Nat.min_eq_left (by omega)]
  have e3 : (List.replicate n true ++ r).getD j false = true := by
    rw [List.getD_eq_getElem?_getD, List.getElem?_append_left (by simp; omega), List.getElem?_replicate, if_pos (by omega)]; rfl
  rw [e]
  simp only [toV, e2, e3, idsN_rep]; rfl
theorem netE_of {n : Nat} {r : List Bool} : ∀ {es : List (Int × Int)}, (∀ e ∈ es, (0 ≤ e.1 ∧ e.1 < n) ∧ 0 ≤ e.2 ∧ e.2 < n) → netE (List.replicate n true ++ r) (es.map fun p => (p.1 + 1, p.2 + 1, true)) = es
  | [], _ => rfl
  | e :: es, h => by
    obtain ⟨⟨a, b⟩, c, d⟩ := h e (by simp)
    simp only [List.map_cons, netE, toV_rep a b, toV_rep c d, netE_of (fun x hx => h x (List.mem_cons_of_mem _ hx))]
    rfl
theorem set_back {α : Type} {l : List α} {i : Nat} {x y : α} (h : l[i]? = some x) : (l.set i y).set i x = l := by
  apply List.ext_getElem?
  intro j
  simp only [List.getElem?_set, List.length_set]
  by_cases hj : i = j
  · subst hj; rw [if_pos rfl, if_pos (List.getElem?_eq_some_iff.1 h).1, h]
  · rw [if_neg hj, if_neg hj]
end Go.X
namespace Go.Proofs.Ytmcloipjlihhlaa.N
open Go.Proofs.Ytmcloipjlihhlaa
open Go.X
theorem w64id {x : Int} (h1 : -1000000000000 ≤ x) (h2 : x ≤ 1000000000000) : IntKind.i64.wrap x = x := wr (by omega) (by omega)
theorem okOf {n : Int} {es : List (Int × Int)} {R : Bool → Gr → Int → Prop} (k0 : mayB n es = false → R true ⟨[], [], 0, 0, [], [], 0⟩ 1) (k1 : mayB n es = true → R false (ofNet n.toNat es) 0) : Ok75 n es R := by
  apply ok75
  unfold T75
  refine okMay (cnd_not (fun c => k0 c) fun c => ?_)
  obtain ⟨⟨g0, g1⟩, hl, he⟩ := mayB_iff.1 c
  refine ok161 ?_
  refine ⟨fun x G => 0 ≤ x ∧ x ≤ n ∧ G = ofNet x.toNat [], fun x _ => (n - x).toNat, ⟨by omega, by omega, rfl⟩, ?_⟩
  rintro x G ⟨h1, h2, rfl⟩
  refine cnd_dec (fun h3 => ?_) fun h3 => ?_
  · obtain ⟨l1, l2, l3⟩ := ofNet_len x.toNat []
    rw [List.length_nil] at l2
    have hw : IntKind.i64.wrap (x + 1) = x + 1 := w64id (by omega) (by omega)
    have ln : (ofNet x.toNat []).ln = x := by show ((x.toNat : Nat) : Int) = x; omega
    have hG : (ofNet x.toNat []).addN = ofNet (x + 1).toNat [] := by
      have e : (x + 1).toNat = x.toNat + 1 := by omega
      have e2 : w64 ((x.toNat : Int) + 1) = ((x.toNat + 1 : Nat) : Int) := by rw [show w64 ((x.toNat : Int) + 1) = (x.toNat : Int) + 1 from w64id (by omega) (by omega)]; omega
      rw [e]
      show (Gr.mk (List.replicate x.toNat true ++ [true]) [] (w64 ((x.toNat : Int) + 1)) 0 [] [] 0) = _
      rw [e2, ← List.replicate_succ']; rfl
    refine ok97 ⟨by omega, by omega, by omega⟩ (fun c2 => by omega) fun _ => ?_
    rw [hG, hw]
    exact ⟨⟨by omega, by omega, rfl⟩, by show (n - (x + 1)).toNat < (n - x).toNat; omega⟩
  · obtain rfl : x = n := by omega
    refine ⟨fun y G => 0 ≤ y ∧ y ≤ es.length ∧ G = ofNet x.toNat (es.take y.toNat), fun y _ => es.length - y.toNat, ⟨by omega, by omega, by simp⟩, ?_⟩
    rintro y G ⟨h4, h5, rfl⟩
    obtain ⟨l1, l2, l3⟩ := ofNet_len x.toNat (es.take y.toNat)
    have lt : (es.take y.toNat).length = y.toNat := by rw [List.length_take]; omega
    rw [lt] at l2
    refine cnd_dec (fun h6 => ⟨h4, h6, fun e hy => ?_⟩) fun h6 => ?_
    · have hw : IntKind.i64.wrap (y + 1) = y + 1 := w64id (by omega) (by omega)
      obtain ⟨⟨a, b⟩, c', d⟩ := endB_iff.1 (he e (List.mem_of_getElem? hy))
      rw [hw, w64id (x := e.1 + 1) (by omega) (by omega), w64id (x := e.2 + 1) (by omega) (by omega)]
      have n1 : (ofNet x.toNat (es.take y.toNat)).node (e.1 + 1) = true := ofNet_node (by omega) (by omega)
      have n2 : (ofNet x.toNat (es.take y.toNat)).node (e.2 + 1) = true := ofNet_node (by omega) (by omega)
      have le : (ofNet x.toNat (es.take y.toNat)).le = y := by
        show (((es.take y.toNat).length : Nat) : Int) = y
        rw [lt]; omega
      refine ok98 ⟨by omega, by omega, by omega⟩ (fun q => by rw [n1, n2] at q; rcases q with q | q <;> cases q) (fun _ _ q => by omega) fun _ _ _ => ⟨⟨by omega, by omega, ?_⟩, by show es.length - (y + 1).toNat < es.length - y.toNat; omega⟩
      have e1 : (y + 1).toNat = y.toNat + 1 := by omega
      rw [e1, take_snoc hy]
      show (Gr.mk (List.replicate x.toNat true) ((es.take y.toNat).map (fun p => (p.1 + 1, p.2 + 1, true)) ++ [(e.1 + 1, e.2 + 1, true)]) x.toNat (w64 (((es.take y.toNat).length : Nat) + 1)) [] [] 0) = _
      have e2 : w64 (((es.take y.toNat).length : Nat) + 1) = ((es.take y.toNat ++ [e]).length : Int) := by
        rw [show w64 (((es.take y.toNat).length : Nat) + 1) = (((es.take y.toNat).length : Nat) : Int) + 1 from w64id (by omega) (by omega)]; simp
      rw [e2]
      simp [ofNet]
    · have ey : y.toNat = es.length := by omega
      rw [ey, List.take_length]
      exact k1 c
/-- A graph of a net, an edge split. -/
theorem split_of {n : Nat} {es : List (Int × Int)} {i : Nat} {p q : Int} (h : es[i]? = some (p, q)) (hn : n ≤ 300) (hm : es.length ≤ 300) :
    (ofNet n es).splitG ((i : Int) + 1) = ⟨List.replicate n true ++ [true], ((es.map fun p => (p.1 + 1, p.2 + 1, true)).set i (p + 1, (n : Int) + 1, true)) ++ [((n : Int) + 1, q + 1, true)], (n : Int) + 1, (es.length : Int) + 1, [], [], 0⟩ := by
  have hi := (List.getElem?_eq_some_iff.1 h).1
  unfold Gr.splitG
  rw [ofNet_edge h]
  show (Gr.mk (List.replicate n true ++ [true]) (((es.map fun p : Int × Int => (p.1 + 1, p.2 + 1, true)) ++ [((((List.replicate n true).length : Nat) : Int) + 1, q + 1, true)]).modify ((i : Int) + 1 - 1).toNat fun x => putEnd x 1 ((((List.replicate n true).length : Nat) : Int) + 1)) (w64 ((n : Int) + 1)) (w64 ((es.length : Int) + 1)) [] [] 0) = _
  rw [show ((i : Int) + 1 - 1).toNat = i by omega, List.length_replicate, show w64 ((n : Int) + 1) = (n : Int) + 1 from w64id (by omega) (by omega), show w64 ((es.length : Int) + 1) = (es.length : Int) + 1 from w64id (by omega) (by omega)]
  have hx : ((es.map fun p : Int × Int => (p.1 + 1, p.2 + 1, true)) ++ [((n : Int) + 1, q + 1, true)])[i]? = some (p + 1, q + 1, true) := by
    rw [List.getElem?_append_left (by simpa using hi)]; simp [h]
  rw [← set_modify (f := fun x => putEnd x 1 ((n : Int) + 1)) hx, List.set_append_left _ _ (by simpa using hi)]
  rfl
theorem okGraphSplits {n e : Int} {es : List (Int × Int)} {R : Bool → Prop} (kR : R true) : Ok14 n es e R := by
  apply ok14
  unfold T14
  refine okBegun74 (cnd_f rfl ?_)
  refine okOf (fun _ => cnd_t rfl ⟨True, cnd_t rfl trivial, fun _ => cnd_f rfl kR⟩) fun c => cnd_f rfl ⟨True, cnd_f rfl (cnd_eq (fun _ => trivial) fun c1 => cnd_dec (fun _ => trivial) fun c2 => cnd_dec (fun _ => trivial) fun c3 => cnd_dec (fun _ => cnd_t rfl kR) fun c4 => ⟨by omega, ?_⟩), fun _ => cnd_t rfl kR⟩
  obtain ⟨⟨g0, g1⟩, hl, he⟩ := mayB_iff.1 c
  obtain ⟨m, rfl⟩ := Int.eq_ofNat_of_zero_le g0
  rw [Int.toNat_natCast]
  obtain ⟨i, hi, ei⟩ : ∃ i : Nat, i < es.length ∧ IntKind.i64.wrap (Int.tmod e (es.length : Int) + 1) = (i : Int) + 1 := by
    have h0 : Int.tmod e (es.length : Int) = e % (es.length : Int) := Int.tmod_eq_emod_of_nonneg (by omega)
    have h1 := Int.emod_nonneg e (b := (es.length : Int)) (by omega)
    have h2 := Int.emod_lt_of_pos e (b := (es.length : Int)) (by omega)
    refine ⟨(e % (es.length : Int)).toNat, by omega, ?_⟩
    rw [h0, w64id (by omega) (by omega)]; omega
  rw [ei]
  obtain ⟨⟨p, q⟩, hpq⟩ : ∃ x, es[i]? = some x := ⟨_, List.getElem?_eq_getElem hi⟩
  obtain ⟨⟨a, b⟩, c', d⟩ := endB_iff.1 (he _ (List.mem_of_getElem? hpq))
  simp only at a b c' d
  obtain ⟨l1, l2, l3⟩ := ofNet_len m es
  have ed := ofNet_edge (n := m) hpq
  have eh := ofNet_has (n := m) hpq
  refine ok76 ⟨by omega, by omega, by omega⟩ (fun z => by rw [eh] at z; cases z) fun _ => ?_
  refine ok77 ⟨by omega, by omega, by omega⟩ (fun z => by rw [eh] at z; cases z) (fun _ z => ?_) fun _ _ _ => cnd_f rfl ?_
  · have z1 : (ofNet m es).ln = m := rfl
    have z2 : (ofNet m es).le = es.length := rfl
    omega
  have me : (es.map fun p : Int × Int => (p.1 + 1, p.2 + 1, true))[i]? = some (p + 1, q + 1, true) := by simp [hpq]
  have ml : (es.map fun p : Int × Int => (p.1 + 1, p.2 + 1, true)).length = es.length := List.length_map _
  have bound : ∀ x ∈ es.map fun p : Int × Int => (p.1 + 1, p.2 + 1, true), x.1 ≠ (m : Int) + 1 ∧ x.2.1 ≠ (m : Int) + 1 := by
    intro x hx
    obtain ⟨y, hy, rfl⟩ := List.mem_map.1 hx
    obtain ⟨⟨a, b⟩, c', d⟩ := endB_iff.1 (he y hy)
    exact ⟨by show y.1 + 1 ≠ _; omega, by show y.2 + 1 ≠ _; omega⟩
  rw [split_of hpq (by omega) (by omega), l1, l2, ed]
  obtain ⟨L, hL⟩ : ∃ L, L = es.map fun p : Int × Int => (p.1 + 1, p.2 + 1, true) := ⟨_, rfl⟩
  rw [← hL] at me ml bound ⊢
  obtain ⟨G, hG⟩ : ∃ G : Gr, G = ⟨List.replicate m true ++ [true], L.set i (p + 1, (m : Int) + 1, true) ++ [((m : Int) + 1, q + 1, true)], (m : Int) + 1, (es.length : Int) + 1, [], [], 0⟩ := ⟨_, rfl⟩
  have gn : G.nodes.length = m + 1 := by rw [hG]; simp
  have ge : G.edges.length = es.length + 1 := by rw [hG]; simp [ml]
  have gu : G.undo.length = 0 := by rw [hG]; rfl
  have x1 : G.edges[i]? = some (p + 1, (m : Int) + 1, true) := by
    rw [hG]
    show (L.set i _ ++ [_])[i]? = _
    rw [List.getElem?_append_left (by simp [ml]; omega), List.getElem?_set_self (by omega)]
  have x2 : G.edges[es.length]? = some ((m : Int) + 1, q + 1, true) := by
    rw [hG]
    show (L.set i _ ++ [_])[es.length]? = _
    rw [List.getElem?_append_right (by simp [ml])]
    simp [ml]
  have E1 : G.edgeAt ((i : Int) + 1) = (p + 1, (m : Int) + 1, true) := by
    rw [Gr.edgeAt, show ((i : Int) + 1 - 1).toNat = i by omega, List.getD_eq_getElem?_getD, x1]; rfl
  have E2 : G.edgeAt ((es.length : Int) + 1) = ((m : Int) + 1, q + 1, true) := by
    rw [Gr.edgeAt, show ((es.length : Int) + 1 - 1).toNat = es.length by omega, List.getD_eq_getElem?_getD, x2]; rfl
  have has : ∀ k : Int, 1 ≤ k → k ≤ G.edges.length → (G.edgeAt k).2.2 = true → G.hasE k = true := fun k k1 k2 k3 => by
    simp only [Gr.hasE, k3, decide_eq_true k1, decide_eq_true k2]; rfl
  have H1 : G.hasE ((i : Int) + 1) = true := has _ (by omega) (by omega) (by rw [E1])
  have H2 : G.hasE ((es.length : Int) + 1) = true := has _ (by omega) (by omega) (by rw [E2])
  have at_ : G.at ((m : Int) + 1) = [(i : Int) + 1, (es.length : Int) + 1] := by
    rw [hG]
    show atL _ 0 (L.set i _ ++ [_]) = _
    rw [atL_snoc, atL_set (y := (p + 1, (m : Int) + 1, true)) bound (by omega) rfl (.inr rfl)]
    simp [ml]
  have nd : G.node ((m : Int) + 1) = true := by
    have n1 : (1 : Int) ≤ (m : Int) + 1 := by omega
    have n2 : (m : Int) + 1 ≤ (G.nodes.length : Int) := by omega
    have n3 : G.nodes.getD ((m : Int) + 1 - 1).toNat false = true := by
      rw [hG, show ((m : Int) + 1 - 1).toNat = m by omega, List.getD_eq_getElem?_getD]
      simp
    simp only [Gr.node, n3, decide_eq_true n1, decide_eq_true n2]; rfl
  rw [← hG]
  refine ok76 ⟨by omega, by omega, by omega⟩ (fun z => by rw [H1] at z; cases z) fun _ => ?_
  refine ok76 ⟨by omega, by omega, by omega⟩ (fun z => by rw [H2] at z; cases z) fun _ => ?_
  rw [E1, E2]
  refine ⟨False, cnd_ne (fun z => absurd rfl z) fun _ => cnd_ne (fun z => absurd rfl z) fun _ => cnd_ne (fun z => absurd rfl z) fun _ => cnd_ne (fun z => absurd rfl z) fun _ => ?_, fun z => z.elim⟩
  refine ok78 ⟨by omega, by omega, by omega⟩ (fun z => by rw [nd] at z; cases z) (fun _ z => ?_) (fun k f _ z _ _ => ?_) (fun k hk => ?_)
  · have := z _ _ at_
    rw [E1, E2] at this
    simp only at this
    omega
  · rw [at_] at z
    simp only [List.cons.injEq, and_true] at z
    obtain ⟨rfl, rfl⟩ := z
    have fin : G.unsplitG ((m : Int) + 1) ((i : Int) + 1) ((es.length : Int) + 1) = ⟨List.replicate m true ++ [false], L ++ [((m : Int) + 1, q + 1, false)], m, es.length, [], [], 0⟩ := by
      unfold Gr.unsplitG
      have en : G.ends1 ((i : Int) + 1) ((m : Int) + 1) = 1 := by simp [Gr.ends1, E1]
      rw [en, E2]
      simp only
      rw [show w64 (w64 ((m : Int) + 1 + (q + 1)) - ((m : Int) + 1)) = q + 1 by rw [w64, w64, w64id (x := (m : Int) + 1 + (q + 1)) (by omega) (by omega), w64id (by omega) (by omega)]; omega]
      have M1 : G.move ((i : Int) + 1) 1 (q + 1) = { G with edges := L ++ [((m : Int) + 1, q + 1, true)] } := by
        have hm : G.marks = [] := by rw [hG]
        simp only [Gr.move, Gr.did, Gr.setEnd, hm]
        rw [show ((i : Int) + 1 - 1).toNat = i by omega, ← set_modify (f := fun x => putEnd x 1 (q + 1)) x1, hG]
        show Gr.mk _ ((L.set i _ ++ [_]).set i (p + 1, q + 1, true)) _ _ _ _ _ = _
        rw [List.set_append_left _ _ (by simp [ml]; omega), set_back me]
      rw [M1, hG]
      show Gr.mk ((List.replicate m true ++ [true]).set ((m : Int) + 1 - 1).toNat false) ((L ++ [((m : Int) + 1, q + 1, true)]).modify ((es.length : Int) + 1 - 1).toNat fun x => (x.1, x.2.1, false)) (w64 ((m : Int) + 1 + -1)) (w64 ((es.length : Int) + 1 + -1)) [] [] 0 = _
      have y2 : (L ++ [((m : Int) + 1, q + 1, true)])[es.length]? = some ((m : Int) + 1, q + 1, true) := by
        rw [List.getElem?_append_right (by omega)]; simp [ml]
      rw [show ((m : Int) + 1 - 1).toNat = m by omega, show ((es.length : Int) + 1 - 1).toNat = es.length by omega, ← set_modify (f := fun x => (x.1, x.2.1, false)) y2, show w64 ((m : Int) + 1 + -1) = m by rw [w64, w64id (by omega) (by omega)]; omega,
        show w64 ((es.length : Int) + 1 + -1) = es.length by rw [w64, w64id (by omega) (by omega)]; omega]
      rw [List.set_append_right _ _ (by simp), List.set_append_right _ _ (by omega)]
      simp [ml]
    rw [fin]
    refine ok79 ⟨by simp; omega, by simp [ml]; omega, by simp⟩ (fun x hx hx2 => ?_) ?_
    · simp only [List.mem_append, List.mem_singleton] at hx
      rcases hx with hx | rfl
      · rw [hL] at hx
        obtain ⟨y, hy, rfl⟩ := List.mem_map.1 hx
        obtain ⟨⟨a, b⟩, c', d⟩ := endB_iff.1 (he y hy)
        have ll : (List.replicate m true ++ [false]).length = m + 1 := by simp
        simp only [ll]
        omega
      · cases hx2
    · have ne : netE (List.replicate m true ++ [false]) (L ++ [((m : Int) + 1, q + 1, false)]) = es := by
        rw [netE_snoc, hL, netE_of (fun y hy => endB_iff.1 (he y hy))]
        simp
      have ni : (idsN 0 (List.replicate m true ++ [false])).length = m := by
        rw [idsN_snoc]; simp [idsN_rep]
      simp only [ne, ni]
      exact cnd_t rfl (cnd_eq (fun _ => okSameK (by omega) kR) fun z => absurd rfl z)
  · rw [at_] at hk
    simp only [List.mem_cons, List.not_mem_nil, or_false] at hk
    rcases hk with rfl | rfl
    · exact H1
    · exact H2
end Go.Proofs.Ytmcloipjlihhlaa.N
namespace Go.Proofs.Ytmcloipjlihhlaa
open Go.X in
theorem GraphSplits_ok {n e : Int} {es : List (Int × Int)} {h : Heap} {a0 : Option Addr} {l0 c0 : Nat} (hp : Hp h [Ck.vw eP a0 l0 c0 es]) :
    CallsH Try.prog 14 #[.agg #[.int .i64 n, .slice a0 l0 c0], .int .i64 e] h fun v h' => Fr [] h h' ∧ v = .bool true :=
  (N.okGraphSplits (R := fun b => b = true) rfl h _ _ _ hp).mono fun _ _ ⟨_, Y, e, q⟩ => ⟨Y.fr, q ▸ e⟩
end Go.Proofs.Ytmcloipjlihhlaa
