/- Components, as plain data. Conditions: none. -/
import Derived.Test.YtmcloipjlihhlaaNBfs
namespace Go.Proofs.Ytmcloipjlihhlaa.N
open Go.X Go.Proofs.Ytmcloipjlihhlaa
set_option maxRecDepth 100000

open Classical in
/-- A node is looked at: if nothing is told of it, its component gets the next number. -/
noncomputable def pStep (g : Int) (es : Es) (s : Nat) (c : List Int × Nat) : List Int × Nat :=
  if 0 ≤ c.1.getD s 0 then c else ((List.range g.toNat).map fun (w : Nat) => if Reach es s w then (c.2 : Int) else c.1.getD w 0, c.2 + 1)
noncomputable def pK (g : Int) (es : Es) : Nat → List Int × Nat
  | 0 => (List.replicate g.toNat (-1), 0)
  | k + 1 => pStep g es k (pK g es k)
noncomputable def parts (g : Int) (es : Es) : List Int × Nat := pK g es g.toNat
structure PI (g : Int) (es : Es) (k : Nat) (c : List Int × Nat) : Prop where
  len : c.1.length = g.toNat
  cnt : c.2 ≤ k
  rng : ∀ w : Nat, w < g.toNat → -1 ≤ c.1.getD w 0 ∧ c.1.getD w 0 < c.2
  set : ∀ w : Nat, w < g.toNat → (0 ≤ c.1.getD w 0 ↔ ∃ u : Nat, u < k ∧ Reach es u w)
  same : ∀ v w : Nat, v < g.toNat → w < g.toNat → 0 ≤ c.1.getD v 0 → (c.1.getD v 0 = c.1.getD w 0 ↔ Reach es v w)
theorem getD_map_range {n w : Nat} (f : Nat → Int) (hw : w < n) : ((List.range n).map f).getD w 0 = f w := by
  simp [List.getD_eq_getElem?_getD, hw]
theorem PI.start (g : Int) (es : Es) : PI g es 0 (pK g es 0) := by
  have e : ∀ w : Nat, w < g.toNat → (pK g es 0).1.getD w 0 = -1 := fun w hw => by
    simp [pK, List.getD_eq_getElem?_getD, List.getElem?_replicate, hw]
  refine ⟨by simp [pK], Nat.le_refl _, fun w hw => ?_, fun w hw => ?_, fun v w hv hw q => ?_⟩
  · rw [e w hw]; simp [pK]
  · rw [e w hw]
    exact ⟨fun q => by omega, fun ⟨u, q, _⟩ => by omega⟩
  · rw [e v hv] at q; omega
theorem PI.next {g : Int} {es : Es} {k : Nat} {c : List Int × Nat} (hk : k < g.toNat) (i : PI g es k c) : PI g es (k + 1) (pStep g es k c) := by
  unfold pStep
  split
  · rename_i h
    refine ⟨i.len, by have := i.cnt; omega, i.rng, fun w hw => ?_, i.same⟩
    rw [i.set w hw]
    refine ⟨fun ⟨u, hu, r⟩ => ⟨u, by omega, r⟩, fun ⟨u, hu, r⟩ => ?_⟩
    by_cases e : u < k
    · exact ⟨u, e, r⟩
    · obtain rfl : u = k := by omega
      obtain ⟨z, hz, r2⟩ := (i.set u hk).1 h
      exact ⟨z, hz, r2.trans r⟩
  · rename_i h
    have nk : ∀ w : Nat, w < g.toNat → Reach es k w → c.1.getD w 0 < 0 := fun w hw r => by
      apply Int.lt_of_not_ge
      intro q
      obtain ⟨z, hz, r2⟩ := (i.set w hw).1 q
      exact h ((i.set k hk).2 ⟨z, hz, r2.trans r.symm⟩)
    refine ⟨by simp, by have := i.cnt; dsimp only; omega, fun w hw => ?_, fun w hw => ?_, fun v w hv hw q => ?_⟩
    · dsimp only
      rw [getD_map_range _ hw]
      have := i.rng w hw
      split <;> omega
    · dsimp only
      rw [getD_map_range _ hw]
      by_cases r : Reach es k w
      · rw [if_pos r]
        exact ⟨fun _ => ⟨k, by omega, r⟩, fun _ => by omega⟩
      · rw [if_neg r, i.set w hw]
        refine ⟨fun ⟨u, hu, r⟩ => ⟨u, by omega, r⟩, fun ⟨u, hu, r2⟩ => ⟨u, ?_, r2⟩⟩
        by_cases e : u = k
        · subst e; exact absurd r2 r
        · omega
    · dsimp only at q ⊢
      rw [getD_map_range _ hv] at q
      rw [getD_map_range _ hv, getD_map_range _ hw]
      have bv := i.rng v hv
      have bw := i.rng w hw
      by_cases r : Reach es k v
      · rw [if_pos r]
        by_cases r2 : Reach es k w
        · rw [if_pos r2]; exact ⟨fun _ => r.symm.trans r2, fun _ => rfl⟩
        · rw [if_neg r2]
          exact ⟨fun e => by omega, fun e => absurd (r.trans e) r2⟩
      · rw [if_neg r] at q ⊢
        by_cases r2 : Reach es k w
        · rw [if_pos r2]
          exact ⟨fun e => by omega, fun e => absurd (r2.trans e.symm) r⟩
        · rw [if_neg r2]; exact i.same v w hv hw q
theorem pK_PI {g : Int} (es : Es) : ∀ k, k ≤ g.toNat → PI g es k (pK g es k)
  | 0, _ => PI.start g es
  | k + 1, h => (pK_PI es k (by omega)).next (by omega)
theorem parts_PI (g : Int) (es : Es) : PI g es g.toNat (parts g es) := pK_PI es _ (Nat.le_refl _)
theorem pStep_old {g : Int} {es : Es} {k : Nat} {c : List Int × Nat} (h : 0 ≤ c.1.getD k 0) : pStep g es k c = c := by unfold pStep; rw [if_pos h]
/-- The next number is written for those that are reached. -/
theorem pStep_new {g : Int} {es : Es} {k : Nat} {c : List Int × Nat} {l : List Int} (h : ¬ 0 ≤ c.1.getD k 0) (hl : l.length = g.toNat) (hc : c.1.length = g.toNat)
    (h1 : ∀ w : Nat, w < g.toNat → Reach es k w → l.getD w 0 = c.2) (h2 : ∀ w : Nat, w < g.toNat → ¬ Reach es k w → l.getD w 0 = c.1.getD w 0) : pStep g es k c = (l, c.2 + 1) := by
  unfold pStep
  rw [if_neg h]
  congr 1
  apply List.ext_getElem?
  intro w
  by_cases hw : w < g.toNat
  · have hlw : l[w]? = some (l.getD w 0) := by rw [List.getD_eq_getElem?_getD, List.getElem?_eq_getElem (by omega)]; rfl
    rw [hlw, List.getElem?_map, List.getElem?_range hw]
    simp only [Option.map_some]
    by_cases r : Reach es k w
    · rw [if_pos r, h1 w hw r]
    · rw [if_neg r, h2 w hw r]
  · rw [List.getElem?_eq_none (by simp; omega), List.getElem?_eq_none (by omega)]
/-- So many numbers are written. -/
def fillAll (x : Int) (l : List Int) (ws : List Int) : List Int := ws.foldl (fun l w => l.set w.toNat x) l
theorem fillAll_len (x : Int) : ∀ (ws l : List Int), (fillAll x l ws).length = l.length
  | [], _ => rfl
  | w :: ws, l => by
    show (fillAll x (l.set w.toNat x) ws).length = _
    rw [fillAll_len x ws]; simp
theorem fillAll_succ {x : Int} {l ws : List Int} {j : Nat} {w : Int} (h : ws[j]? = some w) : fillAll x l (ws.take (j + 1)) = (fillAll x l (ws.take j)).set w.toNat x := by
  unfold fillAll
  rw [List.take_add_one, h, List.foldl_append]; rfl
theorem fillAll_get (x : Int) (n : Nat) : ∀ (ws l : List Int), l.length = n → (∀ w ∈ ws, 0 ≤ w ∧ w.toNat < n) → ∀ v : Nat, v < n → ((v : Int) ∈ ws → (fillAll x l ws).getD v 0 = x) ∧ ((v : Int) ∉ ws → (fillAll x l ws).getD v 0 = l.getD v 0)
  | [], l, hl, _, v, hv => ⟨fun h => (by cases h), fun _ => rfl⟩
  | w :: ws, l, hl, hw, v, hv => by
    have e : fillAll x l (w :: ws) = fillAll x (l.set w.toNat x) ws := rfl
    have ih := fillAll_get x n ws (l.set w.toNat x) (by simpa using hl) (fun z hz => hw z (List.mem_cons_of_mem _ hz)) v hv
    have hw0 := hw w (by simp)
    rw [e]
    by_cases hv2 : (v : Int) ∈ ws
    · exact ⟨fun _ => ih.1 hv2, fun q => absurd (List.mem_cons_of_mem _ hv2) q⟩
    · rw [ih.2 hv2, getD_set _ _ _ _ (by omega)]
      by_cases q : w = (v : Int)
      · rw [if_pos (by omega)]
        exact ⟨fun _ => rfl, fun z => absurd (by rw [q]; simp) z⟩
      · rw [if_neg (by omega)]
        refine ⟨fun z => ?_, fun _ => rfl⟩
        rcases List.mem_cons.1 z with z | z
        · exact absurd z.symm q
        · exact absurd z hv2
/-- As breadth first does it. -/
theorem pStep_bfs {g : Int} {es : Es} (m : MayN g es) {k : Nat} {c : List Int × Nat} (hk : k < g.toNat) (h : ¬ 0 ≤ c.1.getD k 0) (hc : c.1.length = g.toNat) :
    pStep g es k c = (fillAll c.2 c.1 (bfs g es k).ord, c.2 + 1) := by
  have h0 : (0 : Int) ≤ (k : Int) := by omega
  have h1 : ((k : Nat) : Int) < g := by omega
  have i := bfs_BI m h0 h1
  have hr : ∀ w ∈ (bfs g es k).ord, 0 ≤ w ∧ w.toNat < g.toNat := fun w hw => by have := i.rng w hw; omega
  refine pStep_new h (by rw [fillAll_len]; exact hc) hc ?_ ?_
  · intro w hw r
    exact (fillAll_get _ _ _ _ hc hr w hw).1 ((bfs_mem m h0 h1).2 r)
  · intro w hw r
    exact (fillAll_get _ _ _ _ hc hr w hw).2 fun q => r ((bfs_mem m h0 h1).1 q)
def unl (c : List Int) : Nat := c.countP fun x => decide (x < 0)
theorem unl_set : ∀ {c : List Int} {i : Nat} {x : Int}, i < c.length → c.getD i 0 < 0 → 0 ≤ x → unl (c.set i x) + 1 = unl c
  | [], _, _, h, _, _ => absurd h (by simp)
  | a :: c, 0, x, _, h, hx => by
    have h : a < 0 := by simpa using h
    simp only [List.set_cons_zero, unl, List.countP_cons]
    simp [h]; omega
  | a :: c, i + 1, x, hi, h, hx => by
    have := unl_set (c := c) (i := i) (x := x) (by simpa using hi) (by simpa using h) hx
    simp only [List.set_cons_succ, unl, List.countP_cons] at *
    omega
/-- v, half-edges in D of it done, is being looked at. -/
structure DI (g : Int) (es : Es) (s n : Nat) (c0 c todo : List Int) (D : Nat → Prop) : Prop where
  len : c.length = g.toNat
  val : ∀ w : Nat, w < g.toNat → c.getD w 0 = c0.getD w 0 ∨ (c0.getD w 0 < 0 ∧ c.getD w 0 = n ∧ Reach es s w)
  st : c.getD s 0 = n
  td : ∀ v ∈ todo, 0 ≤ v ∧ v < g ∧ c.getD v.toNat 0 = n
  clos : ∀ h : Nat, h < 2 * es.length → c.getD (fromH es h).toNat 0 = n → fromH es h ∈ todo ∨ 0 ≤ c.getD (toH es h).toNat 0 ∨ D h
theorem DI.start {g : Int} {es : Es} {s : Nat} {c0 : List Int × Nat} (hs : s < g.toNat) (m : MayN g es) (p : PI g es s c0) (h : ¬ 0 ≤ c0.1.getD s 0) : DI g es s c0.2 c0.1 (c0.1.set s c0.2) [(s : Int)] fun _ => False := by
  have e : ∀ w : Nat, w < g.toNat → (c0.1.set s (c0.2 : Int)).getD w 0 = if s = w then (c0.2 : Int) else c0.1.getD w 0 := fun w hw => getD_set _ _ _ _ (by rw [p.len]; exact hs)
  refine ⟨by simp [p.len], fun w hw => ?_, ?_, ?_, ?_⟩
  · rw [e w hw]
    by_cases q : s = w
    · subst q
      rw [if_pos rfl]
      exact .inr ⟨by omega, rfl, .start _⟩
    · rw [if_neg q]; exact .inl rfl
  · rw [e s hs, if_pos rfl]
  · intro v hv
    have : v = s := by simpa using hv
    subst this
    rw [Int.toNat_natCast, e s hs, if_pos rfl]
    exact ⟨by omega, by omega, rfl⟩
  · intro x hx q
    have hr := fromH_in m hx
    rw [e _ (by omega)] at q
    left
    split at q
    · simp; omega
    · have := p.rng (fromH es x).toNat (by omega); omega
theorem DI.pop {g : Int} {es : Es} {s n : Nat} {c0 c todo : List Int} {v : Int} (i : DI g es s n c0 c (todo ++ [v]) fun _ => False) : DI g es s n c0 c todo fun h => fromH es h = v := by
  refine ⟨i.len, i.val, i.st, fun w hw => i.td w (List.mem_append_left _ hw), fun h hh q => ?_⟩
  rcases i.clos h hh q with a | a | a
  · rcases List.mem_append.1 a with a | a
    · exact .inl a
    · exact .inr (.inr (by simpa using a))
  · exact .inr (.inl a)
  · exact a.elim
theorem DI.old {g : Int} {es : Es} {s n : Nat} {c0 c todo : List Int} {D : Nat → Prop} {h : Nat} (i : DI g es s n c0 c todo D) (hw : 0 ≤ c.getD (toH es h).toNat 0) : DI g es s n c0 c todo fun e => D e ∧ e ≠ h := by
  refine ⟨i.len, i.val, i.st, i.td, fun e he q => ?_⟩
  rcases i.clos e he q with a | a | a
  · exact .inl a
  · exact .inr (.inl a)
  · by_cases q2 : e = h
    · subst q2; exact .inr (.inl hw)
    · exact .inr (.inr ⟨a, q2⟩)
theorem DI.new {g : Int} {es : Es} {s n : Nat} {c0 c todo : List Int} {D : Nat → Prop} {h : Nat} (m : MayN g es) (i : DI g es s n c0 c todo D) (hh : h < 2 * es.length) (hf : Reach es s (fromH es h)) (hw : ¬ 0 ≤ c.getD (toH es h).toNat 0) :
    DI g es s n c0 (c.set (toH es h).toNat n) (todo ++ [toH es h]) fun e => D e ∧ e ≠ h := by
  have hr := toH_in m hh
  have e : ∀ w : Nat, w < g.toNat → (c.set (toH es h).toNat (n : Int)).getD w 0 = if (toH es h).toNat = w then (n : Int) else c.getD w 0 := fun w hw => getD_set _ _ _ _ (by rw [i.len]; omega)
  have up : ∀ w : Nat, w < g.toNat → 0 ≤ c.getD w 0 → 0 ≤ (c.set (toH es h).toNat (n : Int)).getD w 0 := fun w hw q => by
    rw [e w hw]; split <;> omega
  refine ⟨by simp [i.len], fun w hw2 => ?_, ?_, ?_, ?_⟩
  · rw [e w hw2]
    split
    · rename_i q
      right
      refine ⟨?_, rfl, ?_⟩
      · rcases i.val w hw2 with a | a
        · rw [← a, ← q]; omega
        · exact a.1
      · have : (w : Int) = toH es h := by omega
        rw [this]; exact .step h hh hf
    · exact i.val w hw2
  · by_cases hs : s < g.toNat
    · rw [e s hs]; split
      · rfl
      · exact i.st
    · have : (c.set (toH es h).toNat (n : Int)).getD s 0 = c.getD s 0 := by
        rw [List.getD_eq_getElem?_getD, List.getD_eq_getElem?_getD, List.getElem?_eq_none (by simp [i.len]; omega), List.getElem?_eq_none (by rw [i.len]; omega)]
      rw [this]; exact i.st
  · intro v hv
    rcases List.mem_append.1 hv with q | q
    · obtain ⟨a, b, d⟩ := i.td v q
      refine ⟨a, b, ?_⟩
      rw [e _ (by omega)]; split
      · rfl
      · exact d
    · have : v = toH es h := by simpa using q
      subst this
      exact ⟨hr.1, hr.2, by rw [e _ (by omega), if_pos rfl]⟩
  · intro x hx q
    have hxf := fromH_in m hx
    have hxt := toH_in m hx
    rw [e _ (by omega)] at q
    by_cases q1 : (toH es h).toNat = (fromH es x).toNat
    · left
      rw [show fromH es x = toH es h by omega]; simp
    · rw [if_neg q1] at q
      rcases i.clos x hx q with a | a | a
      · exact .inl (List.mem_append_left _ a)
      · exact .inr (.inl (up _ (by omega) a))
      · by_cases q2 : x = h
        · subst q2
          right; left
          rw [e _ (by omega), if_pos rfl]; omega
        · exact .inr (.inr ⟨a, q2⟩)
theorem DI.weak {g : Int} {es : Es} {s n : Nat} {c0 c todo : List Int} {D E : Nat → Prop} (i : DI g es s n c0 c todo D) (k : ∀ h, h < 2 * es.length → D h → E h) : DI g es s n c0 c todo E :=
  ⟨i.len, i.val, i.st, i.td, fun h hh q => (i.clos h hh q).imp id fun a => a.imp id (k h hh)⟩
theorem DI.reach {g : Int} {es : Es} {s : Nat} {c0 : List Int × Nat} {c todo : List Int} {D : Nat → Prop} {v : Int} (hs : s < g.toNat) (p : PI g es s c0) (i : DI g es s c0.2 c0.1 c todo D) (h0 : 0 ≤ v) (h1 : v < g) (hv : c.getD v.toNat 0 = c0.2) : Reach es s v := by
  rcases i.val v.toNat (by omega) with a | ⟨_, _, a⟩
  · have := p.rng v.toNat (by omega); omega
  · rwa [Int.toNat_of_nonneg h0] at a
/-- All that is reached is told, when nothing is to do any more. -/
theorem DI.fin {g : Int} {es : Es} {s : Nat} {c0 : List Int × Nat} {c : List Int} (m : MayN g es) (hs : s < g.toNat) (p : PI g es s c0) (h : ¬ 0 ≤ c0.1.getD s 0) (i : DI g es s c0.2 c0.1 c [] fun _ => False) : pStep g es s c0 = (c, c0.2 + 1) := by
  have all : ∀ w : Int, Reach es s w → c.getD w.toNat 0 = c0.2 := fun w r => by
    induction r with
    | start => rw [Int.toNat_natCast]; exact i.st
    | step x hx r ih =>
      have hxf := fromH_in m hx
      have hxt := toH_in m hx
      rcases i.clos x hx ih with a | a | a
      · cases a
      · rcases i.val (toH es x).toNat (by omega) with b | b
        · exfalso
          rw [b] at a
          obtain ⟨u, hu, r2⟩ := (p.set _ (by omega)).1 a
          rw [Int.toNat_of_nonneg hxt.1] at r2
          exact h ((p.set s hs).2 ⟨u, hu, r2.trans (Reach.step x hx r).symm⟩)
        · exact b.2.1
      · exact a.elim
  refine pStep_new h i.len p.len (fun w hw r => ?_) fun w hw r => ?_
  · have := all _ r
    rwa [Int.toNat_natCast] at this
  · rcases i.val w hw with a | a
    · exact a
    · exact absurd a.2.2 r
end Go.Proofs.Ytmcloipjlihhlaa.N
