/- Law 4: what a call that is played makes of both graphs: sizes, moves; both stay the same. Conditions: none. -/
import Derived.Test.YtmcloipjlihhlaaNPlay
set_option linter.unusedSimpArgs false
set_option linter.unusedVariables false
namespace Go.X
open Go.Proofs.Ytmcloipjlihhlaa
section
variable {G G' : Gr} {D D' : RG} {o : Op4} {aa bb : List Int} {k : Nat}
theorem Gr.split_ulen {e : Int} : (G.splitG e).undo.length ≤ G.undo.length + 3 := by
  have h1 : G.addN.undo.length ≤ G.undo.length + 1 := Gr.did_undo _ _
  have h2 : (G.addN.addE (G.nodes.length + 1) (G.edgeAt e).2.1).undo.length ≤ G.addN.undo.length + 1 := Gr.did_undo _ _
  have h3 : (G.splitG e).undo.length ≤ (G.addN.addE (G.nodes.length + 1) (G.edgeAt e).2.1).undo.length + 1 := Gr.did_undo _ _
  omega
theorem Gr.unsplit_ulen {v d f : Int} : (G.unsplitG v d f).undo.length ≤ G.undo.length + 3 := by
  obtain ⟨A, hA⟩ : ∃ A, A = G.move d (G.ends1 d v) (w64 (w64 ((G.edgeAt f).1 + (G.edgeAt f).2.1) - v)) := ⟨_, rfl⟩
  have h1 : A.undo.length ≤ G.undo.length + 1 := by rw [hA]; exact Gr.did_undo _ _
  have h2 : (A.dropE f).undo.length ≤ A.undo.length + 1 := Gr.did_undo _ _
  have h3 : ((A.dropE f).dropN v).undo.length ≤ (A.dropE f).undo.length + 1 := Gr.did_undo _ _
  have h4 : G.unsplitG v d f = (A.dropE f).dropN v := by rw [hA]; rfl
  rw [h4]; omega
/-- What a call can make of the graph. -/
theorem PlayG.cls (p : PlayG G o G' aa) (F : Fit G k) (hk : k ≤ 1000000) : G'.undo.length ≤ G.undo.length + k + 3 ∧ (G' = G ∨ (Gr.Go G G' ∧ Fit G' (k + 1)) ∨ (o.1 = 10 ∧ G.marks.length < 64 ∧ G' = G.markG)) := by
  have l2 := F.l2
  cases p with
  | n0 | e0 | e2 | d0 | c0 | s0 | s2 | u0 | u2 | m0 | x0 | x1 | k0 => exact ⟨by omega, .inl rfl⟩
  | n1 h => exact ⟨by have : G.addN.undo.length ≤ G.undo.length + 1 := Gr.did_undo _ _; omega, .inr (.inl ⟨.addN .refl, F.addN (by omega) h⟩)⟩
  | @e1 a b c h1 h2 h3 => exact ⟨by have : (G.addE a b).undo.length ≤ G.undo.length + 1 := Gr.did_undo _ _; omega, .inr (.inl ⟨.addE _ _ .refl, F.addE (by omega) h1 h2 h3⟩)⟩
  | @d1 a b c h => exact ⟨by have := Gr.dropAll_ulen (G := G) (v := a); omega, .inr (.inl ⟨Gr.Go.dropAll h, F.dropAll (by omega) h⟩)⟩
  | @c1 a b c h => exact ⟨by have : (G.dropE a).undo.length ≤ G.undo.length + 1 := Gr.did_undo _ _; omega, .inr (.inl ⟨.dropE .refl h, F.dropE (by omega) h⟩)⟩
  | @s1 a b c h1 h2 h3 => exact ⟨by have := Gr.split_ulen (G := G) (e := a); omega, .inr (.inl ⟨Gr.Go.split h1, F.split (by omega) h1 h2 h3⟩)⟩
  | @u1 a b c d f h1 h2 h3 h4 => exact ⟨by have := Gr.unsplit_ulen (G := G) (v := a) (d := d) (f := f); omega, .inr (.inl ⟨Gr.Go.unsplit h1 h2, F.unsplit (by omega) h1 h2 h3 h4⟩)⟩
  | @m1 a b c h1 h2 h3 h4 =>
    obtain ⟨r1, r2⟩ := Gr.has_range h1
    exact ⟨by have : (G.move a b c).undo.length ≤ G.undo.length + 1 := Gr.did_undo _ _; omega, .inr (.inl ⟨.move _ .refl r1 r2 h3 h4, F.move (by omega) h1 h2 h3 h4⟩)⟩
  | k1 h => exact ⟨by show G.undo.length ≤ _; omega, .inr (.inr ⟨rfl, h, rfl⟩)⟩
section
variable {s : RS} {u v e en : Int}
open N in
theorem fits_addN (h : fits s k) : fits s.addN.1 (k + 1) := by
  obtain ⟨h1, h2⟩ := h
  unfold RS.addN
  split
  · exact ⟨by dsimp only; omega, by dsimp only; omega⟩
  · exact ⟨by simp; omega, by show s.es.length ≤ _; omega⟩
open N in
theorem fits_addE (h : fits s k) : fits (s.addE u v).1 (k + 1) := by
  obtain ⟨h1, h2⟩ := h
  unfold RS.addE
  split
  · exact ⟨by dsimp only; omega, by dsimp only; omega⟩
  split
  · exact ⟨by dsimp only; omega, by dsimp only; omega⟩
  · exact ⟨by show s.ns.length ≤ _; omega, by simp; omega⟩
open N in
theorem fits_dropN (h : fits s k) : fits (s.dropN v).1 k := by
  obtain ⟨h1, h2⟩ := h
  unfold RS.dropN
  split
  · exact ⟨h1, h2⟩
  · rename_i i hi
    have := node_lt hi
    exact ⟨by simp; omega, Nat.le_trans (List.length_filter_le _ _) h2⟩
open N in
theorem fits_dropE (h : fits s k) : fits (s.dropE e).1 k := by
  obtain ⟨h1, h2⟩ := h
  unfold RS.dropE
  split
  · exact ⟨h1, h2⟩
  · rename_i i hi
    have := edge_lt hi
    exact ⟨h1, by simp; omega⟩
open N in
theorem fits_split (h : fits s k) : fits (s.split e).1 (k + 1) := by
  have h0 := h
  obtain ⟨h1, h2⟩ := h
  unfold RS.split
  split
  · exact ⟨by dsimp only; omega, by dsimp only; omega⟩
  split
  · exact ⟨by dsimp only; omega, by dsimp only; omega⟩
  · rename_i i hi hc
    have h3 := fits_addN h0
    have h5 : ∀ (t : RS) (a b : Int), (t.addE a b).1.ns.length = t.ns.length ∧ (t.addE a b).1.es.length ≤ t.es.length + 1 := fun t a b => by
      unfold RS.addE
      split
      · exact ⟨rfl, by dsimp only; omega⟩
      split
      · exact ⟨rfl, by dsimp only; omega⟩
      · exact ⟨rfl, by simp⟩
    have h6 := h5 { s.addN.1 with es := s.es.modify i (setW s.addN.2.1) } s.addN.2.1 (s.es.getD i (0, 0, 0)).2.2
    exact ⟨by rw [h6.1]; exact h3.1, Nat.le_trans h6.2 (by show (s.es.modify _ _).length + 1 ≤ _; rw [List.length_modify]; omega)⟩
open N in
theorem fits_unsplit (h : fits s k) : fits (s.unsplit v).1 k := by
  unfold RS.unsplit
  split
  · exact h
  split
  · exact h
  split
  · rename_i i j _
    exact fits_dropN (fits_dropE (s := { s with es := s.es.modify i.toNat _ }) ⟨h.1, by show (s.es.modify _ _).length ≤ _; rw [List.length_modify]; exact h.2⟩)
  · exact h
open N in
theorem fits_move (h : fits s k) : fits (s.move e en v).1 k := by
  unfold RS.move
  split
  · exact h
  split
  · exact h
  · exact ⟨h.1, by show (s.es.modify _ _).length ≤ _; rw [List.length_modify]; exact h.2⟩
open N in
theorem fits_mono {j : Nat} (h : fits s k) (hj : k ≤ j) : fits s j := ⟨Nat.le_trans h.1 hj, Nat.le_trans h.2 hj⟩
end
/-- The document's graph and its marks are of a size that fits. -/
def RG.fits (D : RG) (k : Nat) : Prop := N.fits D.s k ∧ D.marks.length ≤ 64 ∧ ∀ m ∈ D.marks, N.fits m.2 k
theorem PlayD.fit (p : PlayD D o D' bb) (h : D.fits k) : D'.fits (k + 1) := by
  obtain ⟨h1, h2, h3⟩ := h
  have m3 : ∀ m ∈ D.marks, N.fits m.2 (k + 1) := fun m hm => fits_mono (h3 m hm) (by omega)
  cases p with
  | n => exact ⟨fits_addN h1, h2, m3⟩
  | e => exact ⟨fits_addE h1, h2, m3⟩
  | d => exact ⟨fits_mono (fits_dropN h1) (by omega), h2, m3⟩
  | c => exact ⟨fits_mono (fits_dropE h1) (by omega), h2, m3⟩
  | s => exact ⟨fits_split h1, h2, m3⟩
  | u => exact ⟨fits_mono (fits_unsplit h1) (by omega), h2, m3⟩
  | m => exact ⟨fits_mono (fits_move h1) (by omega), h2, m3⟩
  | x => exact ⟨fits_mono h1 (by omega), h2, m3⟩
  | k0 _ => exact ⟨fits_mono h1 (by omega), h2, m3⟩
  | k1 h =>
    refine ⟨fits_mono h1 (by omega), by simp [RG.markD]; omega, fun m hm => ?_⟩
    simp only [RG.markD, List.mem_append, List.mem_singleton] at hm
    rcases hm with hm | rfl
    · exact m3 m hm
    · exact fits_mono h1 (by omega)
/-- Both answer the same, and stay the same. -/
theorem Both.play (B : Both G D k) (hk : k ≤ 1000000) (p : PlayG G o G' aa) (q : PlayD D o D' bb) : aa = bb ∧ Both G' D' (k + 1) := by
  have F := B.fit
  have S := B.sim
  have eD : ∀ (x : RS), x = D.s → Both G { D with s := x } (k + 1) := fun x e => by subst e; exact B.stay (by omega)
  have go : ∀ {G' : Gr} {x : RS}, Gr.Go G G' → Fit G' (k + 1) → Sim G' x → Both G' { D with s := x } (k + 1) := fun g F S => B.go g (by omega) F S
  cases p with
  | n0 h => cases q with | n => have e := S.addN0 F h; rw [e]; exact ⟨rfl, eD _ rfl⟩
  | n1 h => cases q with | n => obtain ⟨e, S'⟩ := S.addN1 F hk h; exact ⟨by rw [e], go (.addN .refl) (F.addN (by omega) h) S'⟩
  | e0 h => cases q with | e => have e := S.addE0 h; rw [e]; exact ⟨rfl, eD _ rfl⟩
  | e2 h1 h2 h3 => cases q with | e => have e := S.addE2 F h1 h2 h3; rw [e]; exact ⟨rfl, eD _ rfl⟩
  | e1 h1 h2 h3 => cases q with
    | e =>
      have c := F.cnt.2
      have l2 := F.l2
      obtain ⟨e, S'⟩ := S.addE1 (by omega) h1 h2 (by rw [S.es]; omega)
      exact ⟨by rw [e], go (.addE _ _ .refl) (F.addE (by omega) h1 h2 h3) S'⟩
  | d0 h => cases q with | d => have e := S.dropN0 h; rw [e]; exact ⟨rfl, eD _ rfl⟩
  | d1 h => cases q with | d => obtain ⟨e, S'⟩ := S.dropN1 h; exact ⟨by rw [e], go (Gr.Go.dropAll h) (F.dropAll (by omega) h) S'⟩
  | c0 h => cases q with | c => have e := S.dropE0 h; rw [e]; exact ⟨rfl, eD _ rfl⟩
  | c1 h => cases q with | c => obtain ⟨e, S'⟩ := S.dropE1 h; exact ⟨by rw [e], go (.dropE .refl h) (F.dropE (by omega) h) S'⟩
  | s0 h => cases q with | s => have e := S.split0 h; rw [e]; exact ⟨rfl, eD _ rfl⟩
  | s2 h1 h2 => cases q with | s => have e := S.split2 F h1 h2; rw [e]; exact ⟨rfl, eD _ rfl⟩
  | s1 h1 h2 h3 => cases q with | s => obtain ⟨e, S'⟩ := S.split1 F hk h1 h2 h3; exact ⟨by rw [e], go (Gr.Go.split h1) (F.split (by omega) h1 h2 h3) S'⟩
  | u0 h => cases q with | u => have e := S.unsplit0 h; rw [e]; exact ⟨rfl, eD _ rfl⟩
  | u2 h1 h2 => cases q with | u => have e := S.unsplit2 h1 h2; rw [e]; exact ⟨rfl, eD _ rfl⟩
  | u1 d f h1 h2 h3 h4 => cases q with | u => obtain ⟨e, S'⟩ := S.unsplit1 F hk h1 h2 h3 h4; exact ⟨by rw [e], go (Gr.Go.unsplit h1 h2) (F.unsplit (by omega) h1 h2 h3 h4) S'⟩
  | m0 h => cases q with | m => have e := S.move0 h; rw [e]; exact ⟨rfl, eD _ rfl⟩
  | m1 h1 h2 h3 h4 => cases q with
    | m =>
      obtain ⟨e, S'⟩ := S.move1 h1 h2 h3 h4
      obtain ⟨r1, r2⟩ := Gr.has_range h1
      exact ⟨by rw [e], go (.move _ .refl r1 r2 h3 h4) (F.move (by omega) h1 h2 h3 h4) S'⟩
  | x0 h => cases q with | x => have e := S.ends0 h; rw [e]; exact ⟨rfl, B.stay (by omega)⟩
  | x1 h => cases q with | x => have e := S.ends1 h; rw [e]; exact ⟨rfl, B.stay (by omega)⟩
  | k0 h => cases q with
    | k0 _ => exact ⟨rfl, B.stay (by omega)⟩
    | k1 h2 => have := B.mlen; omega
  | k1 h => cases q with
    | k0 h2 => have := B.mlen; omega
    | k1 _ => exact ⟨by rw [B.last], (B.mark h).stay (by omega)⟩
end
end Go.X
