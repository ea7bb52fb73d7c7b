/- A shortest cycle, and how long it is. Conditions: none. -/
import Derived.Test.YtmcloipjlihhlaaTWalkL
import Derived.Test.YtmcloipjlihhlaaNPartsR
namespace Go.Proofs.Ytmcloipjlihhlaa.N
open Go.X Go.Proofs.Ytmcloipjlihhlaa
set_option maxRecDepth 100000

/-! ### What leaves a node, without an edge -/
theorem range_erase {m e : Nat} (he : e < m) : (List.range (2 * m)).filter (fun h => decide (h / 2 ≠ e)) = (List.range (2 * (m - 1))).map (rho e) := by
  have h1 : List.range (2 * m) = List.range (2 * e) ++ (([2 * e, 2 * e + 1] : List Nat) ++ (List.range (2 * m - 2 * e - 2)).map fun i => 2 * e + 2 + i) := by
    have a : 2 * m = 2 * e + (2 + (2 * m - 2 * e - 2)) := by omega
    conv => lhs; rw [a]
    rw [List.range_add, List.range_add, List.map_append, List.map_map]
    congr 1
    congr 1
    apply List.map_congr_left
    intro i _
    simp; omega
  have h2 : List.range (2 * (m - 1)) = List.range (2 * e) ++ (List.range (2 * m - 2 * e - 2)).map fun i => 2 * e + i := by
    have a : 2 * (m - 1) = 2 * e + (2 * m - 2 * e - 2) := by omega
    conv => lhs; rw [a]
    rw [List.range_add]
  rw [h1, h2, List.filter_append, List.filter_append, List.map_append, List.map_map]
  have f1 : (List.range (2 * e)).filter (fun h => decide (h / 2 ≠ e)) = (List.range (2 * e)).map (rho e) := by
    rw [List.filter_eq_self.2]
    · have : (List.range (2 * e)).map (rho e) = (List.range (2 * e)).map id := by
        apply List.map_congr_left
        intro i hi
        have := List.mem_range.1 hi
        unfold rho; rw [if_pos this]; rfl
      rw [this, List.map_id]
    · intro i hi
      have := List.mem_range.1 hi
      simp; omega
  have f2 : ([2 * e, 2 * e + 1] : List Nat).filter (fun h => decide (h / 2 ≠ e)) = [] := by
    rw [List.filter_eq_nil_iff]
    intro a ha
    simp at ha
    simp; omega
  have f3 : ((List.range (2 * m - 2 * e - 2)).map fun i => 2 * e + 2 + i).filter (fun h => decide (h / 2 ≠ e)) = (List.range (2 * m - 2 * e - 2)).map (rho e ∘ fun i => 2 * e + i) := by
    rw [List.filter_eq_self.2]
    · apply List.map_congr_left
      intro i _
      simp only [Function.comp, rho]
      rw [if_neg (by omega)]; omega
    · intro a ha
      obtain ⟨i, _, rfl⟩ := List.mem_map.1 ha
      simp; omega
  rw [f1, f2, f3]; rfl
theorem outV_erase {es : Es} {e : Nat} (he : e < es.length) (v : Int) : (outV es v).filter (fun x => decide (x.toNat / 2 ≠ e)) = (outV (es.eraseIdx e) v).map (rhoI e) := by
  unfold outV outL
  rw [List.filter_map, List.filter_filter, List.map_map, erase_len he]
  have a : ∀ l : List Nat, l.filter (fun a => ((fun x : Int => decide (x.toNat / 2 ≠ e)) ∘ fun h : Nat => (h : Int)) a && (fromH es a == ((v.toNat : Nat) : Int))) = (l.filter fun h => decide (h / 2 ≠ e)).filter fun h => fromH es h == ((v.toNat : Nat) : Int) := fun l => by
    rw [List.filter_filter]
    apply List.filter_congr
    intro x _
    simp only [Function.comp, Int.toNat_natCast, Bool.and_comm]
  rw [a, range_erase he, List.filter_map, List.map_map]
  have b : (fun h => fromH es h == ((v.toNat : Nat) : Int)) ∘ rho e = fun h => fromH (es.eraseIdx e) h == ((v.toNat : Nat) : Int) := by
    funext h
    simp only [Function.comp, from_rho]
  rw [b]
  apply List.map_congr_left
  intro h _
  simp only [Function.comp, rhoI_nat]
theorem fold_skip {es : Es} {e : Nat} : ∀ (l : List Int) (t : WT), l.foldl (wH es e) t = (l.filter fun x => decide (x.toNat / 2 ≠ e)).foldl (wH es e) t
  | [], t => rfl
  | x :: l, t => by
    rw [List.foldl_cons, List.filter_cons]
    by_cases h : x.toNat / 2 = e
    · have : wH es e t x = t := by unfold wH; rw [if_pos h]
      rw [this, if_neg (by simp [h]), fold_skip l]
    · rw [if_pos (by simp [h]), List.foldl_cons, fold_skip l]
theorem wFold_eq {g s v : Int} {es : Es} {e : Nat} (he : e < es.length) (m : MayN g es) : ∀ (l : List Int) (t : BT), (∀ x ∈ l, ∃ n : Nat, x = n ∧ n < 2 * (es.eraseIdx e).length ∧ fromH (es.eraseIdx e) n = v) → BI g (es.eraseIdx e) s t → v ∈ t.ord →
    (l.map (rhoI e)).foldl (wH es e) (wOf e t) = wOf e (l.foldl (bH (es.eraseIdx e) v) t)
  | [], t, _, _, _ => rfl
  | x :: l, t, hl, i, hv => by
    obtain ⟨n, rfl, hn, hf⟩ := hl x (by simp)
    rw [List.map_cons, List.foldl_cons, List.foldl_cons, rhoI_nat, wH_rho he m i hv hn]
    exact wFold_eq he m l _ (fun y hy => hl y (List.mem_cons_of_mem _ hy)) (i.stepH (may_erase m e) hv hn hf) (bH_ord _ hv)
/-- Nodes and how far they are stay as they were found. -/
theorem bK_keep {g s : Int} {es : Es} (m : MayN g es) (h0 : 0 ≤ s) (h1 : s < g) (k : Nat) : ∀ d, ∀ x ∈ (bK g es s k).ord, x ∈ (bK g es s (k + d)).ord ∧ (bK g es s (k + d)).far.getD x.toNat 0 = (bK g es s k).far.getD x.toNat 0
  | 0 => fun x hx => ⟨hx, rfl⟩
  | d + 1 => fun x hx => by
    obtain ⟨a, b⟩ := bK_keep m h0 h1 k d x hx
    have i := bK_BI m h0 h1 (k + d)
    rw [← Nat.add_assoc, bK]
    split
    · rename_i q
      have hv : (bK g es s (k + d)).ord.getD (k + d) 0 ∈ (bK g es s (k + d)).ord := by
        rw [List.getD_eq_getElem?_getD, List.getElem?_eq_getElem q]
        exact List.getElem_mem q
      generalize (bK g es s (k + d)).ord.getD (k + d) 0 = v at *
      have fold : ∀ (l : List Int) (t : BT), (∀ x ∈ l, ∃ n : Nat, x = n ∧ n < 2 * es.length ∧ fromH es n = v) → BI g es s t → v ∈ t.ord → x ∈ t.ord → x ∈ (l.foldl (bH es v) t).ord ∧ (l.foldl (bH es v) t).far.getD x.toNat 0 = t.far.getD x.toNat 0 := fun l => by
        induction l with
        | nil => exact fun t _ _ _ hx => ⟨hx, rfl⟩
        | cons y l ih =>
          intro t hl i hv hx
          obtain ⟨n, rfl, hn, hf⟩ := hl y (by simp)
          have := ih (bH es v t n) (fun z hz => hl z (List.mem_cons_of_mem _ hz)) (i.stepH m hv hn hf) (bH_ord _ hv) (bH_ord _ hx)
          rw [List.foldl_cons]
          exact ⟨this.1, this.2.trans (bH_far m i hn x hx)⟩
      have := fold (outV es v) (bK g es s (k + d)) (fun x hx => outV_mem (i.rng v hv).1 hx) i hv a
      exact ⟨this.1, this.2.trans b⟩
    · exact ⟨a, b⟩
/-- The way round is as breadth first goes without the edge, up to where it stops. -/
theorem wK_eq {g s t : Int} {es : Es} {e : Nat} (he : e < es.length) (m : MayN g es) (h0 : 0 ≤ s) (h1 : s < g) (t0 : 0 ≤ t) (t1 : t < g) : ∀ k, ∃ j, j ≤ k ∧ wK g es e s t k = wOf e (bK g (es.eraseIdx e) s j) ∧ (j < k → t ∈ (bK g (es.eraseIdx e) s j).ord ∨ (bK g (es.eraseIdx e) s j).ord.length ≤ j)
  | 0 => ⟨0, Nat.le_refl _, (wOf_start e).symm, fun h => by omega⟩
  | k + 1 => by
    obtain ⟨j, hj, e1, e2⟩ := wK_eq (t := t) he m h0 h1 t0 t1 k
    have i := bK_BI (may_erase m e) h0 h1 j
    have seen : (wOf e (bK g (es.eraseIdx e) s j)).seen.getD t.toNat false = decide (0 ≤ (bK g (es.eraseIdx e) s j).far.getD t.toNat 0) := getD_map (by rw [i.lf]; omega)
    rw [wK]
    by_cases q : k < (wK g es e s t k).q.length ∧ (wK g es e s t k).seen.getD t.toNat false = false
    · rw [if_pos q]
      rw [e1] at q ⊢
      rw [seen] at q
      have ht : t ∉ (bK g (es.eraseIdx e) s j).ord := fun z => by
        have := (i.mem t t0 t1).2 z
        rw [decide_eq_true this] at q
        cases q.2
      have hjk : j = k := by
        apply Decidable.byContradiction
        intro z
        rcases e2 (by omega) with y | y
        · exact ht y
        · have : k < (bK g (es.eraseIdx e) s j).ord.length := q.1
          omega
      subst hjk
      have hk : j < (bK g (es.eraseIdx e) s j).ord.length := q.1
      have hx : (bK g (es.eraseIdx e) s j).ord[j]? = some ((bK g (es.eraseIdx e) s j).ord[j]'hk) := List.getElem?_eq_getElem hk
      have hg : (wOf e (bK g (es.eraseIdx e) s j)).q.getD j 0 = (bK g (es.eraseIdx e) s j).ord[j]'hk := by
        show (bK g (es.eraseIdx e) s j).ord.getD j 0 = _
        rw [List.getD_eq_getElem?_getD, hx]; rfl
      generalize (bK g (es.eraseIdx e) s j).ord[j]'hk = v at *
      refine ⟨j + 1, Nat.le_refl _, ?_, fun h => by omega⟩
      have hv : v ∈ (bK g (es.eraseIdx e) s j).ord := List.mem_of_getElem? hx
      rw [hg, fold_skip, outV_erase he, wFold_eq he m _ _ (fun x hx => outV_mem (i.rng v hv).1 hx) i hv, bK_succ hx]
      rfl
    · rw [if_neg q]
      refine ⟨j, by omega, e1, fun _ => ?_⟩
      by_cases hjk : j < k
      · exact e2 hjk
      · have : j = k := by omega
        subst this
        by_cases z : t ∈ (bK g (es.eraseIdx e) s j).ord
        · exact .inl z
        · right
          rw [e1, seen] at q
          have : ¬ 0 ≤ (bK g (es.eraseIdx e) s j).far.getD t.toNat 0 := fun y => z ((i.mem t t0 t1).1 y)
          rw [decide_eq_false this] at q
          have : ¬ j < (bK g (es.eraseIdx e) s j).ord.length := fun y => q ⟨y, rfl⟩
          omega
/-- What the way round is. -/
structure WayOf (g : Int) (es : Es) (e : Nat) (s t : Int) (way : List Int) : Prop where
  none' : way = [] → ¬ Reach (es.eraseIdx e) s t
  chain : way ≠ [] → Chain es way s t
  half : HalfIn es way
  len : way ≠ [] → (way.length : Int) = (bfs g (es.eraseIdx e) s).far.getD t.toNat 0
  edges : (((2 * e : Nat) : Int) :: way |> edgesOf).Nodup
  nodes : way ≠ [] → (way.map fun x => fromH es x.toNat).Nodup ∧ ∀ x ∈ way, fromH es x.toNat ≠ t
theorem back_up {es : Es} {e : Nat} {g s : Int} {b : BT} (i : BI g (es.eraseIdx e) s b) : ∀ (n : Nat) (v : Int), v ∈ b.ord → farN b v = n → ∀ k, n ≤ k → (backL es (wOf e b).by' s k v).reverse.length = n ∧ Chain es (backL es (wOf e b).by' s k v).reverse s v ∧
    (∀ x ∈ (backL es (wOf e b).by' s k v), ∃ w h, w ∈ b.ord ∧ Par (es.eraseIdx e) b w h ∧ x = ((rho e h : Nat) : Int) ∧ farN b w ≤ n) ∧ (edgesOf (backL es (wOf e b).by' s k v)).Nodup ∧ ((backL es (wOf e b).by' s k v).map fun x => fromH es x.toNat).Nodup ∧ HalfIn es (backL es (wOf e b).by' s k v)
  | 0, v, hv, hn, k, _ => by
    have := (i.far0 hv).1 hn
    subst this
    have : backL es (wOf e b).by' v k v = [] := by cases k with
      | zero => rfl
      | succ k => rw [backL, if_pos rfl]
    rw [this]
    exact ⟨rfl, .nil _, fun x hx => (by cases hx), List.nodup_nil, List.nodup_nil, HalfIn.nil _⟩
  | n + 1, v, hv, hn, k, hk => by
    have hs : v ≠ s := fun z => by have := (i.far0 hv).2 z; omega
    obtain ⟨h, p⟩ := i.par hv hs
    obtain ⟨k', rfl⟩ : ∃ k', k = k' + 1 := ⟨k - 1, by omega⟩
    have pf := p.far
    have hvr := i.rng v hv
    have eb : (wOf e b).by'.getD v.toNat 0 = ((rho e h : Nat) : Int) := by
      have : (wOf e b).by'.getD v.toNat 0 = rhoI e (b.by'.getD v.toNat 0) := getD_map (by rw [i.lb]; omega)
      rw [this, p.e, rhoI_nat]
    have eu : backL es (wOf e b).by' s (k' + 1) v = ((rho e h : Nat) : Int) :: backL es (wOf e b).by' s k' (fromH (es.eraseIdx e) h) := by
      rw [backL, if_neg hs, eb, Int.toNat_natCast, from_rho]
    obtain ⟨a1, a2, a3, a4, a5, a6⟩ := back_up i n _ p.fr (by omega) k' (by omega)
    have he : rho e h < 2 * es.length := by
      have := p.hh
      by_cases q : e < es.length
      · exact rho_lt q this
      · rw [List.eraseIdx_of_length_le (by omega)] at this
        unfold rho; rw [if_pos (by omega)]; exact this
    rw [eu]
    refine ⟨by simp at a1 ⊢; exact a1, ?_, fun x hx => ?_, ?_, ?_, fun x hx => ?_⟩
    · rw [List.reverse_cons]
      refine a2.app ?_
      have := Chain.one he
      rw [from_rho, to_rho, p.to'] at this
      exact this
    · rcases List.mem_cons.1 hx with rfl | hx
      · exact ⟨v, h, hv, p, rfl, by omega⟩
      · obtain ⟨w, h2, b1, b2, b3, b4⟩ := a3 x hx
        exact ⟨w, h2, b1, b2, b3, by omega⟩
    · show (((rho e h : Nat) : Int).toNat / 2 :: edgesOf _).Nodup
      rw [List.nodup_cons]
      refine ⟨fun hm => ?_, a4⟩
      obtain ⟨y, hy, ey⟩ := List.mem_map.1 hm
      obtain ⟨w, h2, b1, b2, b3, b4⟩ := a3 y hy
      rw [b3, Int.toNat_natCast, Int.toNat_natCast] at ey
      have : h2 / 2 = h / 2 := by
        unfold rho at ey
        split at ey <;> split at ey <;> omega
      have := par_inj b2 p this
      subst this
      omega
    · rw [List.map_cons, List.nodup_cons]
      refine ⟨fun hm => ?_, a5⟩
      obtain ⟨y, hy, ey⟩ := List.mem_map.1 hm
      obtain ⟨w, h2, b1, b2, b3, b4⟩ := a3 y hy
      rw [b3, Int.toNat_natCast, Int.toNat_natCast, from_rho, from_rho] at ey
      have := b2.far
      rw [ey] at this
      omega
    · rcases List.mem_cons.1 hx with rfl | hx
      · exact ⟨_, rfl, he⟩
      · exact a6 x hx
theorem wayM_of {g s t : Int} {es : Es} {e : Nat} (he : e < es.length) (m : MayN g es) (h0 : 0 ≤ s) (h1 : s < g) (t0 : 0 ≤ t) (t1 : t < g) (hst : t ≠ s) : WayOf g es e s t (wayM g es e s t) := by
  have m' := may_erase m e
  obtain ⟨j, hj, e1, e2⟩ := wK_eq (t := t) he m h0 h1 t0 t1 g.toNat
  have i := bK_BI m' h0 h1 j
  have seen : (wOf e (bK g (es.eraseIdx e) s j)).seen.getD t.toNat false = decide (0 ≤ (bK g (es.eraseIdx e) s j).far.getD t.toNat 0) := getD_map (by rw [i.lf]; omega)
  have eE : wEnd g es e s t = wOf e (bK g (es.eraseIdx e) s j) := e1
  have keep := bK_keep m' h0 h1 j (g.toNat - j)
  rw [show j + (g.toNat - j) = g.toNat by omega] at keep
  unfold wayM
  rw [eE, seen]
  by_cases q : 0 ≤ (bK g (es.eraseIdx e) s j).far.getD t.toNat 0
  · rw [decide_eq_true q, if_pos rfl]
    have ht := (i.mem t t0 t1).1 q
    have fb := i.farB ht
    obtain ⟨a1, a2, a3, a4, a5, a6⟩ := back_up i _ t ht rfl g.toNat (by omega)
    have hpos : farN (bK g (es.eraseIdx e) s j) t ≠ 0 := fun z => hst ((i.far0 ht).1 z)
    generalize backL es (wOf e (bK g (es.eraseIdx e) s j)).by' s g.toNat t = B at *
    refine ⟨fun z => ?_, fun _ => a2, fun x hx => a6 x (by simpa using hx), fun _ => ?_, ?_, fun _ => ⟨?_, fun x hx => ?_⟩⟩
    · rw [z] at a1; simp at a1; omega
    · rw [a1, fb.1]
      exact (keep t ht).2.symm
    · show (((2 * e : Nat) : Int).toNat / 2 :: edgesOf B.reverse).Nodup
      rw [List.nodup_cons]
      constructor
      · intro hm
        obtain ⟨y, hy, ey⟩ := List.mem_map.1 hm
        obtain ⟨w, h2, b1, b2, b3, b4⟩ := a3 y (by simpa using hy)
        rw [b3, Int.toNat_natCast, Int.toNat_natCast] at ey
        exact rho_div e h2 (by omega)
      · unfold edgesOf
        rw [List.map_reverse]
        exact List.pairwise_reverse.2 (List.Pairwise.imp (fun h => h.symm) a4)
    · rw [List.map_reverse]
      exact List.pairwise_reverse.2 (List.Pairwise.imp (fun h => h.symm) a5)
    · obtain ⟨w, h2, b1, b2, b3, b4⟩ := a3 x (by simpa using hx)
      rw [b3, Int.toNat_natCast, from_rho]
      intro z
      have := b2.far
      rw [z] at this
      omega
  · rw [decide_eq_false q, if_neg (by decide)]
    refine ⟨fun _ r => ?_, fun z => absurd rfl z, HalfIn.nil _, fun z => absurd rfl z, ?_, fun z => absurd rfl z⟩
    · have hin := (bfs_mem m' h0 h1).2 r
      have hlen : (bK g (es.eraseIdx e) s j).ord.length ≤ j ∨ j = g.toNat := by
        by_cases z : j < g.toNat
        · rcases e2 z with y | y
          · exact absurd ((i.mem t t0 t1).2 y) q
          · exact .inl y
        · exact .inr (by omega)
      have : bK g (es.eraseIdx e) s j = bfs g (es.eraseIdx e) s := by
        unfold bfs
        rcases hlen with z | z
        · have := bK_stay z (g.toNat - j)
          rw [show j + (g.toNat - j) = g.toNat by omega] at this
          exact this.symm
        · rw [z]
      rw [← this] at hin
      exact q ((i.mem t t0 t1).2 hin)
    · show ([((2 * e : Nat) : Int).toNat / 2] : List Nat).Nodup
      simp
end Go.Proofs.Ytmcloipjlihhlaa.N
