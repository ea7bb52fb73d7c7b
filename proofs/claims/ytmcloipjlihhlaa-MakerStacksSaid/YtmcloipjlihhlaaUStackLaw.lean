/- Plain laws of the stacked nets. Conditions: none. -/
import Derived.Test.YtmcloipjlihhlaaUStack
namespace Go.Proofs.Ytmcloipjlihhlaa
open Go.X

def Near (es : List (Int × Int)) (x y : Int) : Prop := (x, y) ∈ es ∨ (y, x) ∈ es
theorem Near.app {es : List (Int × Int)} {x y : Int} (h : Near es x y) (r : List (Int × Int)) : Near (es ++ r) x y :=
  h.imp (List.mem_append_left _) (List.mem_append_left _)
theorem Near.symm {es : List (Int × Int)} {x y : Int} (h : Near es x y) : Near es y x := Or.symm h

structure TriOK (es : List (Int × Int)) (v : Int) (t : Tri) : Prop where
  r1 : 0 ≤ t.1 ∧ t.1 < v
  r2 : 0 ≤ t.2.1 ∧ t.2.1 < v
  r3 : 0 ≤ t.2.2 ∧ t.2.2 < v
  n1 : t.1 ≠ t.2.1
  n2 : t.2.1 ≠ t.2.2
  n3 : t.2.2 ≠ t.1
  e1 : Near es t.1 t.2.1
  e2 : Near es t.2.1 t.2.2
  e3 : Near es t.2.2 t.1

structure SInv (q : SS) (k : Nat) : Prop where
  len : q.es.length = 3 + 3 * k
  tl : q.ts.length = 2 + 2 * k
  tri : ∀ t ∈ q.ts, TriOK q.es (3 + k) t
  edge : ∀ u w, (u, w) ∈ q.es → 0 ≤ u ∧ u < 3 + k ∧ 0 ≤ w ∧ w < 3 + k ∧ u ≠ w
  simple : q.es.Pairwise fun p q => pairF p ≠ pairF q
  came : ∀ v : Nat, 3 ≤ v → v < 3 + k → ∃ t, TriOK q.es v t ∧ q.es[3 * v - 6]? = some ((v : Int), t.1) ∧ q.es[3 * v - 5]? = some ((v : Int), t.2.1) ∧ q.es[3 * v - 4]? = some ((v : Int), t.2.2)

theorem TriOK.mono {es : List (Int × Int)} {v w : Int} {t : Tri} (h : TriOK es v t) (hw : v ≤ w) (r : List (Int × Int)) : TriOK (es ++ r) w t :=
  ⟨⟨h.r1.1, by have := h.r1.2; omega⟩, ⟨h.r2.1, by have := h.r2.2; omega⟩, ⟨h.r3.1, by have := h.r3.2; omega⟩, h.n1, h.n2, h.n3, h.e1.app r, h.e2.app r, h.e3.app r⟩

theorem pairF_big {u v x : Int} (h : x < v) (a b : Int) (ha : a < v) (hb : b < v) : pairF (a, b) ≠ pairF (v, x) := by
  simp only [pairF]
  rw [if_pos (show v > x by omega)]
  split <;> simp [Prod.ext_iff] <;> omega
theorem pairF_inj {v x y : Int} (hx : x < v) (hy : y < v) (h : x ≠ y) : pairF (v, x) ≠ pairF (v, y) := by
  simp only [pairF]
  rw [if_pos (show v > x by omega), if_pos (show v > y by omega)]
  simpa [Prod.ext_iff] using h

theorem SInv.start (seed : Int) : SInv (SS.start seed) 0 := by
  have he : (SS.start seed).es = [(0, 1), (1, 2), (2, 0)] := by simp [SS.start, cycleE, pathE, List.range_succ]
  refine ⟨by rw [he]; rfl, rfl, ?_, ?_, ?_, fun v h1 h2 => by omega⟩
  · rw [he]
    intro t ht
    simp [SS.start] at ht
    rcases ht with rfl | rfl <;> exact ⟨by simp, by simp, by simp, by simp, by simp, by simp, by simp [Near], by simp [Near], by simp [Near]⟩
  · rw [he]; intro u w h; simp at h; omega
  · rw [he]; simp [pairF]

theorem SInv.next {q : SS} {k : Nat} (h : SInv q k) (hk : k ≤ 1024) : SInv (q.step (3 + k : Nat)) (k + 1) := by
  obtain ⟨r1, r2, r3⟩ := at_lt q (by have := h.tl; omega) (by have := h.tl; omega)
  have ht := h.tri q.tri (List.mem_of_getElem? r3)
  generalize hT : q.tri = t at *
  obtain ⟨x, y, z⟩ := t
  have hes : (q.step (3 + k : Nat)).es = q.es ++ triE (3 + k : Nat) (x, y, z) := by simp [SS.step, hT]
  have hts : (q.step (3 + k : Nat)).ts = q.ts.set q.at (x, y, ((3 + k : Nat) : Int)) ++ [(y, z, ((3 + k : Nat) : Int)), (z, x, ((3 + k : Nat) : Int))] := by simp [SS.step, hT]
  obtain ⟨a1, a2, a3, a4, a5, a6, a7, a8, a9⟩ := ht
  simp only at a1 a2 a3 a4 a5 a6 a7 a8 a9
  have mem : ∀ w, w = x ∨ w = y ∨ w = z → (((3 + k : Nat) : Int), w) ∈ q.es ++ triE (3 + k : Nat) (x, y, z) := by
    intro w hw; apply List.mem_append_right; simp [triE]; omega
  refine ⟨?_, ?_, ?_, ?_, ?_, ?_⟩
  · rw [hes]; simp [triE, h.len]; omega
  · rw [hts]; simp [h.tl]; omega
  · rw [hes, hts]
    intro t hm
    have new : ∀ u w, (u = x ∧ w = y) ∨ (u = y ∧ w = z) ∨ (u = z ∧ w = x) → TriOK (q.es ++ triE (3 + k : Nat) (x, y, z)) (3 + (k + 1 : Nat)) (u, w, ((3 + k : Nat) : Int)) := by
      intro u w huw
      refine ⟨?_, ?_, ?_, ?_, ?_, ?_, ?_, ?_, ?_⟩ <;> simp only
      · omega
      · omega
      · omega
      · omega
      · omega
      · omega
      · rcases huw with ⟨rfl, rfl⟩ | ⟨rfl, rfl⟩ | ⟨rfl, rfl⟩
        · exact a7.app _
        · exact a8.app _
        · exact a9.app _
      · exact .inr (mem w (by omega))
      · exact .inl (mem u (by omega))
    rcases List.mem_append.1 hm with hm | hm
    · rcases List.mem_or_eq_of_mem_set hm with hm | rfl
      · exact (h.tri t hm).mono (by omega) _
      · exact new x y (.inl ⟨rfl, rfl⟩)
    · simp only [List.mem_cons, List.not_mem_nil, or_false] at hm
      rcases hm with rfl | rfl
      · exact new y z (.inr (.inl ⟨rfl, rfl⟩))
      · exact new z x (.inr (.inr ⟨rfl, rfl⟩))
  · rw [hes]
    intro u w hm
    rcases List.mem_append.1 hm with hm | hm
    · have := h.edge u w hm; omega
    · simp [triE] at hm; omega
  · rw [hes, List.pairwise_append]
    refine ⟨h.simple, ?_, ?_⟩
    · simp only [triE, List.pairwise_cons, List.mem_cons, List.not_mem_nil, or_false, false_implies, implies_true, List.Pairwise.nil, and_true, forall_eq]
      refine ⟨?_, ?_⟩
      · rintro w (rfl | rfl)
        · exact pairF_inj (by omega) (by omega) a4
        · exact pairF_inj (by omega) (by omega) (fun e => a6 e.symm)
      · exact pairF_inj (by omega) (by omega) a5
    · rintro ⟨u, w⟩ hp ⟨u', w'⟩ hq
      have := h.edge u w hp
      simp [triE] at hq
      rcases hq with ⟨rfl, rfl⟩ | ⟨rfl, rfl⟩ | ⟨rfl, rfl⟩ <;> exact pairF_big (u := 0) (by omega) u w (by omega) (by omega)
  · rw [hes]
    intro v hv1 hv2
    by_cases hvk : v < 3 + k
    · obtain ⟨t, t1, t2, t3, t4⟩ := h.came v hv1 hvk
      have hl := h.len
      exact ⟨t, t1.mono (Int.le_refl _) _, by rw [List.getElem?_append_left (by omega)]; exact t2, by rw [List.getElem?_append_left (by omega)]; exact t3, by rw [List.getElem?_append_left (by omega)]; exact t4⟩
    · have hv : v = 3 + k := by omega
      subst hv
      have hl := h.len
      refine ⟨(x, y, z), (TriOK.mk a1 a2 a3 a4 a5 a6 a7 a8 a9 : TriOK q.es ((3 : Int) + k) (x, y, z)).mono (by omega) _, ?_, ?_, ?_⟩
      · rw [List.getElem?_append_right (by omega), show 3 * (3 + k) - 6 - q.es.length = 0 by omega]; rfl
      · rw [List.getElem?_append_right (by omega), show 3 * (3 + k) - 5 - q.es.length = 1 by omega]; rfl
      · rw [List.getElem?_append_right (by omega), show 3 * (3 + k) - 4 - q.es.length = 2 by omega]; rfl

theorem SInv.run (seed : Int) : ∀ k, k ≤ 1024 → SInv (SS.run seed k) k
  | 0, _ => SInv.start seed
  | k + 1, h => (SInv.run seed k (by omega)).next (by omega)

theorem loops0 {es : List (Int × Int)} (h : ∀ u w, (u, w) ∈ es → u ≠ w) : loopsF es = 0 := by
  have : es.countP (fun p => p.1 == p.2) = 0 := by
    rw [List.countP_eq_zero]; rintro ⟨u, w⟩ hm; simpa using h u w hm
  simp [loopsF, this]
theorem pars0 {es : List (Int × Int)} (h : es.Pairwise fun p q => pairF p ≠ pairF q) (k : Nat) : parsF es k = 0 := by
  have : (List.range k).countP (parF es) = 0 := by
    rw [List.countP_eq_zero]
    intro e _
    simp only [parF, Bool.not_eq_true]
    split
    · rename_i p hp
      rw [← Bool.not_eq_true, List.any_eq_true]
      rintro ⟨q, hq, hqp⟩
      obtain ⟨j, hj, rfl⟩ := List.getElem_of_mem hq
      simp at hj
      rw [List.getElem_take] at hqp
      rw [List.pairwise_iff_getElem] at h
      have he := (List.getElem?_eq_some_iff.1 hp)
      obtain ⟨he1, he2⟩ := he
      have := h j e (by omega) he1 (by omega)
      rw [he2] at this
      exact this (by simpa using hqp)
    · rfl
  simp [parsF, this]

end Go.Proofs.Ytmcloipjlihhlaa
