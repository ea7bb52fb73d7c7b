/- Graphs: marks, and what was then, in both; the net that both tell. Conditions: none. -/
import Derived.Test.YtmcloipjlihhlaaNGrT
namespace Go.X
section
variable {G G' G0 : Gr} {D : RG} {e en u v : Int} {k : Nat}
theorem Gr.trail.ul (t : G0.trail G) : G0.undo.length ≤ G.undo.length := t.le
/-- Gone back to where a mark was set. -/
theorem Gr.trail.gone (t : G0.trail G) (m : List (Int × Int)) : Gr.canN (G.undo.length - G0.undo.length) { G with marks := m } ∧ Gr.unwind (G.undo.length - G0.undo.length) { G with marks := m } = G0.wm m G.last := by
  obtain ⟨m', l', h⟩ := t.back
  refine ⟨(Gr.canN_wm m G.last _ G).2 t.can, ?_⟩
  show Gr.unwind _ (G.wm m G.last) = _
  rw [Gr.unwind_wm, h]; rfl
/-- Each mark, and what was then. -/
structure Chn (ms : List (Int × Int)) (ds : List (Int × RS)) (Gs : List Gr) (G : Gr) (k : Nat) : Prop where
  l1 : ds.length = ms.length
  l2 : Gs.length = ms.length
  num : ∀ (i : Nat) m d, ms[i]? = some m → ds[i]? = some d → d.1 = m.1
  at' : ∀ (i : Nat) m H d, ms[i]? = some m → Gs[i]? = some H → ds[i]? = some d → m.2 = (H.undo.length : Int) ∧ Fit H k ∧ Sim H d.2
  tr : ∀ (i : Nat) H, Gs[i]? = some H → H.trail G
  ch : ∀ (i j : Nat) H J, i < j → Gs[i]? = some H → Gs[j]? = some J → H.trail J
/-- Both graphs say the same, and will. -/
structure Both (G : Gr) (D : RG) (k : Nat) : Prop where
  fit : Fit G k
  sim : Sim G D.s
  last : D.last = G.last
  ch : ∃ Gs, Chn G.marks D.marks Gs G k
  few : G.marks.length ≤ 64
theorem snoc_cases {α : Type} {l : List α} {x y : α} {i : Nat} (h : (l ++ [x])[i]? = some y) : (i < l.length ∧ l[i]? = some y) ∨ (i = l.length ∧ y = x) := by
  by_cases hi : i < l.length
  · rw [List.getElem?_append_left hi] at h; exact .inl ⟨hi, h⟩
  · have hl := (List.getElem?_eq_some_iff.1 h).1
    simp at hl
    have : i = l.length := by omega
    subst this
    simp at h
    exact .inr ⟨rfl, h.symm⟩
theorem Both.go {D' : RS} (B : Both G D k) (g : Gr.Go G G') (hk : k < 100000000) (F : Fit G' (k + 1)) (S : Sim G' D') : Both G' { D with s := D' } (k + 1) := by
  obtain ⟨Gs, C⟩ := B.ch
  have hm := g.marks
  have l1 := F.l1
  have l2 := F.l2
  refine ⟨F, S, by rw [hm.2]; exact B.last, ⟨Gs, ?_⟩, by rw [hm.1]; exact B.few⟩
  rw [hm.1]
  refine ⟨C.l1, C.l2, C.num, fun i m H d a b c => ?_, fun i H a => ?_, C.ch⟩
  · obtain ⟨q1, q2, q3⟩ := C.at' i m H d a b c
    exact ⟨q1, q2.mono (by omega), q3⟩
  · have : G.marks ≠ [] := by
      intro q
      have := (List.getElem?_eq_some_iff.1 a).1
      rw [C.l2, q] at this; simp at this
    exact (C.tr i H a).trans (g.trail this B.fit.cnt (by omega) (by omega))
theorem Both.stay {j : Nat} (B : Both G D k) (h : k ≤ j) : Both G D j := by
  obtain ⟨Gs, C⟩ := B.ch
  refine ⟨B.fit.mono h, B.sim, B.last, ⟨Gs, C.l1, C.l2, C.num, fun i m H d a b c => ?_, C.tr, C.ch⟩, B.few⟩
  obtain ⟨q1, q2, q3⟩ := C.at' i m H d a b c
  exact ⟨q1, q2.mono h, q3⟩
theorem Both.mark (B : Both G D k) (h : G.marks.length < 64) : Both G.markG ⟨D.s, D.marks ++ [(w64 (D.last + 1), D.s)], w64 (D.last + 1)⟩ k := by
  obtain ⟨Gs, C⟩ := B.ch
  have eG : G.markG = G.wm (G.marks ++ [(w64 (G.last + 1), (G.undo.length : Int))]) (w64 (G.last + 1)) := rfl
  have c1 := C.l1
  have c2 := C.l2
  refine ⟨by rw [eG]; exact B.fit.wm, by rw [eG]; exact B.sim.wm, by rw [B.last]; rfl, ⟨Gs ++ [G], ?_⟩, by show (G.marks ++ [_]).length ≤ 64; simp; omega⟩
  show Chn (G.marks ++ [(w64 (G.last + 1), (G.undo.length : Int))]) _ _ _ _
  refine ⟨by simp [c1], by simp [c2], fun i m d a b => ?_, fun i m H d a b c => ?_, fun i H a => ?_, fun i j H J hij a b => ?_⟩
  · rcases snoc_cases a with ⟨i1, a⟩ | ⟨i1, rfl⟩ <;> rcases snoc_cases b with ⟨i2, b⟩ | ⟨i2, rfl⟩
    · exact C.num i m d a b
    · omega
    · omega
    · rw [B.last]
  · rcases snoc_cases a with ⟨i1, a⟩ | ⟨i1, rfl⟩ <;> rcases snoc_cases b with ⟨i2, b⟩ | ⟨i2, rfl⟩ <;> rcases snoc_cases c with ⟨i3, c⟩ | ⟨i3, rfl⟩ <;> first | omega | skip
    · exact C.at' i m H d a b c
    · exact ⟨rfl, B.fit, B.sim⟩
  · rw [eG]
    rcases snoc_cases a with ⟨_, a⟩ | ⟨_, rfl⟩
    · exact (C.tr i H a).wm
    · exact (Gr.trail.refl _).wm
  · rcases snoc_cases a with ⟨i1, a⟩ | ⟨i1, rfl⟩ <;> rcases snoc_cases b with ⟨i2, b⟩ | ⟨i2, rfl⟩
    · exact C.ch i j H J hij a b
    · rename_i a'
      exact C.tr i H a'
    · omega
    · omega
theorem take_get {α : Type} {l : List α} {m i : Nat} {x : α} (h : (l.take m)[i]? = some x) : i < m ∧ l[i]? = some x := by
  rw [List.getElem?_take] at h
  split at h
  · exact ⟨by omega, h⟩
  · cases h
theorem Both.back (B : Both G D k) {i : Nat} {n d : Int} (h : G.marks[i]? = some (n, d)) : 0 ≤ d ∧ Gr.canN (G.undo.length - d.toNat) { G with marks := G.marks.take (i + 1) } ∧
    ∃ S, D.marks[i]? = some (n, S) ∧ Both (Gr.unwind (G.undo.length - d.toNat) { G with marks := G.marks.take (i + 1) }) ⟨S, D.marks.take (i + 1), D.last⟩ k ∧ (Gr.unwind (G.undo.length - d.toNat) { G with marks := G.marks.take (i + 1) }).undo.length ≤ G.undo.length := by
  obtain ⟨Gs, C⟩ := B.ch
  have c1 := C.l1
  have c2 := C.l2
  have hi := (List.getElem?_eq_some_iff.1 h).1
  obtain ⟨H, hH⟩ : ∃ H, Gs[i]? = some H := ⟨_, List.getElem?_eq_getElem (by omega)⟩
  obtain ⟨q, hq⟩ : ∃ q, D.marks[i]? = some q := ⟨_, List.getElem?_eq_getElem (by omega)⟩
  obtain ⟨e1, F, S⟩ := C.at' i _ H q h hH hq
  have e2 := C.num i _ q h hq
  obtain ⟨n', s⟩ := q
  simp only at e1 e2 S
  subst e1
  subst e2
  have t := C.tr i H hH
  obtain ⟨g1, g2⟩ := t.gone (G.marks.take (i + 1))
  rw [Int.toNat_natCast, g2]
  refine ⟨by omega, g1, s, hq, ⟨F.wm, S.wm, B.last, ⟨Gs.take (i + 1), ?_⟩, ?_⟩, t.le⟩
  · show Chn (G.marks.take (i + 1)) _ _ _ _
    refine ⟨by simp only [List.length_take]; omega, by simp only [List.length_take]; omega, fun j m d a b => C.num j m d (take_get a).2 (take_get b).2, fun j m J d a b c => C.at' j m J d (take_get a).2 (take_get b).2 (take_get c).2, fun j J a => ?_, fun p j P J hpj a b => C.ch p j P J hpj (take_get a).2 (take_get b).2⟩
    obtain ⟨a1, a2⟩ := take_get a
    by_cases hj : j = i
    · subst hj
      rw [hH] at a2
      obtain rfl := Option.some.inj a2
      exact (Gr.trail.refl _).wm
    · exact (C.ch j i J H (by omega) a2 hH).wm
  · have := B.few
    show (G.marks.take (i + 1)).length ≤ 64
    rw [List.length_take]; omega
/-- The mark of a number stands at the same place in both. -/
theorem Both.find (B : Both G D k) (n : Int) : (∀ m ∈ G.marks, m.1 ≠ n) ↔ ∀ d ∈ D.marks, d.1 ≠ n := by
  obtain ⟨Gs, C⟩ := B.ch
  have c1 := C.l1
  constructor
  · intro h d hd
    obtain ⟨i, hi, rfl⟩ := List.getElem_of_mem hd
    rw [C.num i _ _ (List.getElem?_eq_getElem (by omega)) (List.getElem?_eq_getElem hi)]
    exact h _ (List.getElem_mem _)
  · intro h m hm
    obtain ⟨i, hi, rfl⟩ := List.getElem_of_mem hm
    rw [← C.num i _ _ (List.getElem?_eq_getElem hi) (List.getElem?_eq_getElem (by omega))]
    exact h _ (List.getElem_mem _)
theorem Both.num (B : Both G D k) {i : Nat} {m : Int × Int} {d : Int × RS} (h : G.marks[i]? = some m) (h2 : D.marks[i]? = some d) : d.1 = m.1 := by
  obtain ⟨Gs, C⟩ := B.ch
  exact C.num i m d h h2
theorem Both.mlen (B : Both G D k) : D.marks.length = G.marks.length := by
  obtain ⟨Gs, C⟩ := B.ch
  exact C.l1
end
end Go.X
namespace Go.X
section
variable {G : Gr} {s : RS} {v : Int} {k : Nat}
/-- A node's place; -1: none. -/
def RS.pl (s : RS) (v : Int) : Int := match s.nodeAt v with | some i => (i : Int) | none => -1
def RS.net (s : RS) : List (Int × Int) := s.es.map fun x => (s.pl x.2.1, s.pl x.2.2)
theorem Sim.pl (S : Sim G s) (h : v ∈ G.ns) : s.pl v = toV G.nodes v.toNat := by
  obtain ⟨a, b, c⟩ := toV_at h
  unfold RS.pl
  cases hi : s.nodeAt v with
  | none => rw [S.node] at hi; rw [Gr.node_iff.2 h] at hi; cases hi
  | some i =>
    rw [RS.nodeAt, S.ns] at hi
    obtain ⟨y, hy, rfl⟩ := (take_drop (f := fun x : Int => x) (idsN_sorted _ _) hi).2
    have e : i = (toV G.nodes y.toNat).toNat := by
      rcases Nat.lt_trichotomy i (toV G.nodes y.toNat).toNat with q | q | q
      · have := sorted_get (f := fun x : Int => x) (idsN_sorted G.nodes 0) hy c q; omega
      · exact q
      · have := sorted_get (f := fun x : Int => x) (idsN_sorted G.nodes 0) c hy q; omega
    show (i : Int) = _
    omega
theorem Sim.net (S : Sim G s) (g : G.good) : s.net = netE G.nodes G.edges := by
  rw [RS.net, netE_lv _ _ 0, S.es]
  apply List.map_congr_left
  intro x hx
  obtain ⟨a, b⟩ := g x hx
  rw [S.pl a, S.pl b]
end
end Go.X
