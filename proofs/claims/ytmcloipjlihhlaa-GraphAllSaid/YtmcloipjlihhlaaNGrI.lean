/- Law GraphIds: ids rise, and tell the net. Conditions: none. -/
import Derived.Test.YtmcloipjlihhlaaNGrL
import Derived.Test.YtmcloipjlihhlaaTGraphB
namespace Go.X
section
variable {G : Gr} {e en u v : Int}
theorem Gr.did_none (h : G.marks = []) {w : Und} : G.did w = G := by unfold Gr.did; rw [h]
theorem Gr.addN_marks : G.addN.marks = G.marks := by rw [Gr.addN, Gr.did_marks]
theorem Gr.addE_marks : (G.addE u v).marks = G.marks := by rw [Gr.addE, Gr.did_marks]
theorem Gr.dropN_marks : (G.dropN v).marks = G.marks := by rw [Gr.dropN, Gr.did_marks]; rfl
theorem Gr.dropE_marks : (G.dropE e).marks = G.marks := by rw [Gr.dropE, Gr.did_marks]; rfl
theorem Gr.move_marks : (G.move e en v).marks = G.marks := by rw [Gr.move, Gr.did_marks]; rfl
/-- Nothing to undo, no mark. -/
def Gr.plain (G : Gr) : Prop := G.undo = [] ∧ G.marks = []
theorem Gr.did_plain {w : Und} (h : G.plain) : (G.did w).plain := by rw [Gr.did_none h.2]; exact h
theorem Gr.plain.addN (h : G.plain) : G.addN.plain := by unfold Gr.addN; exact Gr.did_plain ⟨h.1, h.2⟩
theorem Gr.plain.addE (h : G.plain) : (G.addE u v).plain := by unfold Gr.addE; exact Gr.did_plain ⟨h.1, h.2⟩
theorem Gr.plain.dropN (h : G.plain) : (G.dropN v).plain := by unfold Gr.dropN; exact Gr.did_plain ⟨h.1, h.2⟩
theorem Gr.plain.dropE (h : G.plain) : (G.dropE e).plain := by unfold Gr.dropE; exact Gr.did_plain ⟨h.1, h.2⟩
theorem Gr.plain.move (h : G.plain) : (G.move e en v).plain := by unfold Gr.move; exact Gr.did_plain ⟨h.1, h.2⟩
theorem Gr.plain.dropEs : ∀ (l : List Int) {G : Gr} (_ : G.plain), (l.foldl Gr.dropE G).plain
  | [], _, h => h
  | e :: l, _, h => by rw [List.foldl_cons]; exact Gr.plain.dropEs l h.dropE
theorem Gr.plain.dropAll (h : G.plain) : (G.dropAll v).plain := (Gr.plain.dropEs _ h).dropN
theorem Gr.plain.split (h : G.plain) : (G.splitG e).plain := h.addN.addE.move
theorem Gr.plain.unsplit {k f : Int} (h : G.plain) : (G.unsplitG v k f).plain := h.move.dropE.dropN
theorem Gr.dropAll_nlen : (G.dropAll v).nodes.length = G.nodes.length := by rw [Gr.dropAll, Gr.dropN_nlen, (Gr.dropEs_ns _ G).1]
theorem Gr.dropAll_elen : (G.dropAll v).edges.length = G.edges.length := by rw [Gr.dropAll, Gr.dropN_edges, (Gr.dropEs_ns _ G).2]
theorem Gr.split_nlen : (G.splitG e).nodes.length = G.nodes.length + 1 := by rw [Gr.splitG, Gr.move_nodes, Gr.addE_nodes, Gr.addN_nlen]
theorem Gr.split_elen : (G.splitG e).edges.length = G.edges.length + 1 := by rw [Gr.splitG, Gr.move_elen, Gr.addE_elen, Gr.addN_edges]
theorem Gr.unsplit_nlen {k f : Int} : (G.unsplitG v k f).nodes.length = G.nodes.length := by rw [Gr.unsplitG, Gr.dropN_nlen, Gr.dropE_nodes, Gr.move_nodes]
theorem Gr.unsplit_elen {k f : Int} : (G.unsplitG v k f).edges.length = G.edges.length := by rw [Gr.unsplitG, Gr.dropN_edges, Gr.dropE_elen, Gr.move_elen]
theorem Gr.addN_elen : G.addN.edges.length = G.edges.length := by rw [Gr.addN_edges]
theorem Gr.good.inR (g : G.good) : G.inR := by
  intro x hx hl
  obtain ⟨k, hk, rfl⟩ := List.getElem_of_mem hx
  have hm : (((0 : Nat) : Int) + k + 1, G.edges[k].1, G.edges[k].2.1) ∈ G.es := mem_lvE.2 (by rw [List.getElem?_eq_getElem hk]; exact congrArg some (Prod.ext rfl (Prod.ext rfl hl)))
  obtain ⟨h1, h2⟩ := g _ hm
  have r1 := idsN_range _ _ _ h1
  have r2 := idsN_range _ _ _ h2
  simp only at r1 r2 ⊢
  omega
theorem Gr.good.ofNet {n : Nat} {es : List (Int × Int)} (h : ∀ p ∈ es, (0 ≤ p.1 ∧ p.1 < n) ∧ 0 ≤ p.2 ∧ p.2 < n) : (ofNet n es).good := by
  intro x hx
  have hm := Gr.mem_es hx
  have hr := Gr.has_range hm.1
  have hl : (x.1 - 1).toNat < es.length := by rw [(ofNet_len n es).2.1] at hr; omega
  have ee := ofNet_edge (n := n) (List.getElem?_eq_getElem hl)
  rw [show (((x.1 - 1).toNat : Nat) : Int) + 1 = x.1 by omega, hm.2] at ee
  obtain ⟨⟨a, b⟩, c, d⟩ := h es[(x.1 - 1).toNat] (List.getElem_mem hl)
  have e1 : x.2.1 = es[(x.1 - 1).toNat].1 + 1 := congrArg (·.1) ee
  have e2 : x.2.2 = es[(x.1 - 1).toNat].2 + 1 := congrArg (·.2.1) ee
  exact ⟨Gr.node_iff.1 (ofNet_node (by omega) (by omega)), Gr.node_iff.1 (ofNet_node (by omega) (by omega))⟩
/-- What a graph tells is a net. -/
theorem Gr.good.net (g : G.good) : ∀ p ∈ netE G.nodes G.edges, (0 ≤ p.1 ∧ p.1 < G.ns.length) ∧ 0 ≤ p.2 ∧ p.2 < G.ns.length := by
  intro p hp
  rw [netE_lv _ _ 0] at hp
  obtain ⟨x, hx, rfl⟩ := List.mem_map.1 hp
  obtain ⟨h1, h2⟩ := g x hx
  have a := toV_at h1
  have b := toV_at h2
  exact ⟨⟨a.1, a.2.1⟩, b.1, b.2.1⟩
end
end Go.X
namespace Go.Proofs.Ytmcloipjlihhlaa.N
open Go.Proofs.Ytmcloipjlihhlaa
open Go.X
end Go.Proofs.Ytmcloipjlihhlaa.N
namespace Go.Proofs.Ytmcloipjlihhlaa
end Go.Proofs.Ytmcloipjlihhlaa
