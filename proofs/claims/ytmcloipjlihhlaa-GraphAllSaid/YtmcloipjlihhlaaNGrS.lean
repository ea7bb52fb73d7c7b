/- Package graph: a graph of a net; law GraphSplits. Conditions: none. -/
import Derived.Test.YtmcloipjlihhlaaNGrB
import Derived.Test.YtmcloipjlihhlaaTGraphA
import Derived.Test.YtmcloipjlihhlaaNNet
import Derived.Test.YtmcloipjlihhlaaNTwin
namespace Go.X
/-- The graph of a net. -/
def ofNet (n : Nat) (es : List (Int × Int)) : Gr := ⟨List.replicate n true, es.map fun p => (p.1 + 1, p.2 + 1, true), n, es.length, [], [], 0⟩
theorem ofNet_len (n : Nat) (es : List (Int × Int)) : (ofNet n es).nodes.length = n ∧ (ofNet n es).edges.length = es.length ∧ (ofNet n es).undo.length = 0 := by simp [ofNet]
theorem ofNet_node {n : Nat} {es : List (Int × Int)} {v : Int} (h1 : 1 ≤ v) (h2 : v ≤ n) : (ofNet n es).node v = true := by
  have : (List.replicate n true).getD (v - 1).toNat false = true := by
    rw [List.getD_eq_getElem?_getD, List.getElem?_replicate, if_pos (by omega)]; rfl
  simp only [Gr.node, ofNet, List.length_replicate, this, decide_eq_true h1, decide_eq_true h2]; rfl
theorem ofNet_edge {n : Nat} {es : List (Int × Int)} {i : Nat} {p q : Int} (h : es[i]? = some (p, q)) : (ofNet n es).edgeAt ((i : Int) + 1) = (p + 1, q + 1, true) := by
  have e : ((i : Int) + 1 - 1).toNat = i := by omega
  rw [Gr.edgeAt, e, List.getD_eq_getElem?_getD]
  simp [ofNet, h]
theorem idsN_rep : ∀ (n k : Nat), (idsN k (List.replicate n true)).length = n
  | 0, k => rfl
  | n + 1, k => by
    simp only [List.replicate_succ, idsN, List.length_append, idsN_rep n (k + 1)]
    simp; omega
end Go.X
namespace Go.Proofs.Ytmcloipjlihhlaa.N
open Go.Proofs.Ytmcloipjlihhlaa
open Go.X
theorem w64id {x : Int} (h1 : -1000000000000 ≤ x) (h2 : x ≤ 1000000000000) : IntKind.i64.wrap x = x := wr (by omega) (by omega)
theorem okOf {n : Int} {es : List (Int × Int)} {R : Bool → Gr → Int → Prop} (k0 : mayB n es = false → R true ⟨[], [], 0, 0, [], [], 0⟩ 1) (k1 : mayB n es = true → R false (ofNet n.toNat es) 0) : Ok75 n es R := by
  apply ok75
  unfold T75
  refine okMay (cnd_not (fun c => k0 c) fun c => ?_)
  obtain ⟨⟨g0, g1⟩, hl, he⟩ := mayB_iff.1 c
  refine ok161 ?_
  refine ⟨fun x G => 0 ≤ x ∧ x ≤ n ∧ G = ofNet x.toNat [], fun x _ => (n - x).toNat, ⟨by omega, by omega, rfl⟩, ?_⟩
  rintro x G ⟨h1, h2, rfl⟩
  refine cnd_dec (fun h3 => ?_) fun h3 => ?_
  · obtain ⟨l1, l2, l3⟩ := ofNet_len x.toNat []
    rw [List.length_nil] at l2
    have hw : IntKind.i64.wrap (x + 1) = x + 1 := w64id (by omega) (by omega)
    have ln : (ofNet x.toNat []).ln = x := by show ((x.toNat : Nat) : Int) = x; omega
    have hG : (ofNet x.toNat []).addN = ofNet (x + 1).toNat [] := by
      have e : (x + 1).toNat = x.toNat + 1 := by omega
      have e2 : w64 ((x.toNat : Int) + 1) = ((x.toNat + 1 : Nat) : Int) := by rw [show w64 ((x.toNat : Int) + 1) = (x.toNat : Int) + 1 from w64id (by omega) (by omega)]; omega
      rw [e]
      show (Gr.mk (List.replicate x.toNat true ++ [true]) [] (w64 ((x.toNat : Int) + 1)) 0 [] [] 0) = _
      rw [e2, ← List.replicate_succ']; rfl
    refine ok97 ⟨by omega, by omega, by omega⟩ (fun c2 => by omega) fun _ => ?_
    rw [hG, hw]
    exact ⟨⟨by omega, by omega, rfl⟩, by show (n - (x + 1)).toNat < (n - x).toNat; omega⟩
  · obtain rfl : x = n := by omega
    refine ⟨fun y G => 0 ≤ y ∧ y ≤ es.length ∧ G = ofNet x.toNat (es.take y.toNat), fun y _ => es.length - y.toNat, ⟨by omega, by omega, by simp⟩, ?_⟩
    rintro y G ⟨h4, h5, rfl⟩
    obtain ⟨l1, l2, l3⟩ := ofNet_len x.toNat (es.take y.toNat)
    have lt : (es.take y.toNat).length = y.toNat := by rw [List.length_take]; omega
    rw [lt] at l2
    refine cnd_dec (fun h6 => ⟨h4, h6, fun e hy => ?_⟩) fun h6 => ?_
    · have hw : IntKind.i64.wrap (y + 1) = y + 1 := w64id (by omega) (by omega)
      obtain ⟨⟨a, b⟩, c', d⟩ := endB_iff.1 (he e (List.mem_of_getElem? hy))
      rw [hw, w64id (x := e.1 + 1) (by omega) (by omega), w64id (x := e.2 + 1) (by omega) (by omega)]
      have n1 : (ofNet x.toNat (es.take y.toNat)).node (e.1 + 1) = true := ofNet_node (by omega) (by omega)
      have n2 : (ofNet x.toNat (es.take y.toNat)).node (e.2 + 1) = true := ofNet_node (by omega) (by omega)
      have le : (ofNet x.toNat (es.take y.toNat)).le = y := by
        show (((es.take y.toNat).length : Nat) : Int) = y
        rw [lt]; omega
      refine ok98 ⟨by omega, by omega, by omega⟩ (fun q => by rw [n1, n2] at q; rcases q with q | q <;> cases q) (fun _ _ q => by omega) fun _ _ _ => ⟨⟨by omega, by omega, ?_⟩, by show es.length - (y + 1).toNat < es.length - y.toNat; omega⟩
      have e1 : (y + 1).toNat = y.toNat + 1 := by omega
      rw [e1, take_snoc hy]
      show (Gr.mk (List.replicate x.toNat true) ((es.take y.toNat).map (fun p => (p.1 + 1, p.2 + 1, true)) ++ [(e.1 + 1, e.2 + 1, true)]) x.toNat (w64 (((es.take y.toNat).length : Nat) + 1)) [] [] 0) = _
      have e2 : w64 (((es.take y.toNat).length : Nat) + 1) = ((es.take y.toNat ++ [e]).length : Int) := by
        rw [show w64 (((es.take y.toNat).length : Nat) + 1) = (((es.take y.toNat).length : Nat) : Int) + 1 from w64id (by omega) (by omega)]; simp
      rw [e2]
      simp [ofNet]
    · have ey : y.toNat = es.length := by omega
      rw [ey, List.take_length]
      exact k1 c
end Go.Proofs.Ytmcloipjlihhlaa.N
namespace Go.Proofs.Ytmcloipjlihhlaa
end Go.Proofs.Ytmcloipjlihhlaa
