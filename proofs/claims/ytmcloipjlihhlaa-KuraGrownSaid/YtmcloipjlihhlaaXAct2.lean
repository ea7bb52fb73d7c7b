/- Stores, appends, calls over an abstract state; the model's operation does so. Conditions: the table of types is the program's; a called function has a body. -/
import Derived.Test.YtmcloipjlihhlaaXAct
namespace Go.X

def one1 (v : Value) (K : Prop) : Prop :=
  match v.oneCell' with
  | true => K
  | false => False
/-- These cells may be written. -/
def stW (h : Heap) (b : Nat) : Nat → List Value → Prop → Prop
  | _, [], K => K
  | o, v :: r, K => one1 v ((∃ u, hcell h b o = some u) ∧ hfree h b o = true ∧ stW h b (o + 1) r K)
def stP : List Value → Prop → Prop
  | [], K => K
  | v :: r, K => one1 v (stP r K)
def hsets (h : Heap) (b : Nat) : Nat → List Value → Heap
  | _, [] => h
  | o, v :: r => hsets (hset h b o v) b (o + 1) r
def vcells (v : Value) : List Value :=
  match v with
  | .agg cs => cs.toList
  | v => [v]
theorem vcells_eq (v : Value) : v.cells.toList = vcells v := by cases v <;> rfl
theorem one1_elim {v : Value} {K : Prop} (h : one1 v K) : v.oneCell' = true ∧ K := by
  unfold one1 at h
  cases hv : v.oneCell' with
  | true => rw [hv] at h; exact ⟨rfl, h⟩
  | false => rw [hv] at h; exact h.elim
theorem stW_elim {h : Heap} {b : Nat} : ∀ {vs : List Value} {o : Nat} {K : Prop}, stW h b o vs K →
    (∀ v ∈ vs, v.oneCell' = true) ∧ (∀ j, j < vs.length → (∃ u, hcell h b (o + j) = some u) ∧ hfree h b (o + j) = true) ∧ K
  | [], _, _, hk => ⟨by simp, by simp, hk⟩
  | v :: r, o, K, hk => by
    obtain ⟨h1, h2, h3, h4⟩ := one1_elim hk
    obtain ⟨q1, q2, q3⟩ := stW_elim h4
    refine ⟨by simpa using ⟨h1, q1⟩, fun j hj => ?_, q3⟩
    cases j with
    | zero => exact ⟨h2, h3⟩
    | succ j => have := q2 j (by simpa using hj); rwa [show o + (j + 1) = o + 1 + j by omega]
theorem stP_elim : ∀ {vs : List Value} {K : Prop}, stP vs K → (∀ v ∈ vs, v.oneCell' = true) ∧ K
  | [], K, hk => ⟨by simp, hk⟩
  | v :: r, K, hk => by
    obtain ⟨h1, h2⟩ := one1_elim hk
    obtain ⟨q1, q2⟩ := stP_elim h2
    exact ⟨by simpa using ⟨h1, q1⟩, q2⟩
theorem hset_cells {h : Heap} {b o : Nat} {v : Value} {b' o' : Nat} : (∃ u, hcell h b' o' = some u) → ∃ u, hcell (hset h b o v) b' o' = some u := by
  rintro ⟨u, hu⟩
  by_cases hb : b' = b
  · subst hb
    unfold hcell at *
    simp only [hset, Array.getElem?_modify, if_true]
    cases hh : h[b']? with
    | none => simp [hh] at hu
    | some x =>
      cases x <;> simp [hh] at hu ⊢
      rename_i c e f
      by_cases ho : o = o'
      · subst ho
        have := (Array.getElem?_eq_some_iff.1 hu).1
        exact ⟨v, by simp [this]⟩
      · exact ⟨u, by rw [Array.getElem?_setIfInBounds_ne ho]; exact hu⟩
  · exact ⟨u, by rw [hcell_congr (hset_ne hb)]; exact hu⟩
theorem hset_hfree {h : Heap} {b o : Nat} {v : Value} {b' o' : Nat} (hf : hfree h b' o' = true) : hfree (hset h b o v) b' o' = true := by
  by_cases hb : b' = b
  · subst hb
    unfold hfree at *
    simp only [hset, Array.getElem?_modify, if_true]
    cases hh : h[b']? with
    | none => simp [hh] at hf
    | some x => cases x <;> simp [hh] at hf ⊢; exact hf
  · rw [hfree_congr (hset_ne hb)]; exact hf
theorem run_storeCells_h {P : Program} (b o : Nat) : ∀ (vs : List Value) (i : Nat) (w : World), (∀ v ∈ vs, v.oneCell' = true) →
    (∀ j, j < vs.length → (∃ u, hcell w.heap b (o + i + j) = some u) ∧ hfree w.heap b (o + i + j) = true) →
    ∃ w', (storeCells ⟨b, o, none⟩ vs i).run P w = .ok () w' ∧ w'.heap = hsets w.heap b (o + i) vs ∧ Rest w w'
  | [], i, w, _, _ => ⟨w, by simp [storeCells], rfl, Rest.refl w⟩
  | v :: r, i, w, h1, h2 => by
    obtain ⟨⟨u, hu⟩, hf⟩ := h2 0 (by simp)
    have hc : w.cell? ⟨b, o + i, none⟩ = some u := by rw [cell_hcell]; exact hu
    have hfz : w.frozen? ⟨b, o + i, none⟩ = false := free_hfree hf
    have hst : (store ((⟨b, o, none⟩ : Addr).add i) v).run P w = .ok () (w.setCell ⟨b, o + i, none⟩ v) := by
      rw [add_none, run_store P w _ v _ (h1 v (by simp)), hc]
      simp [hfz]
    have h2' : ∀ j, j < r.length → (∃ u, hcell (w.setCell ⟨b, o + i, none⟩ v).heap b (o + (i + 1) + j) = some u) ∧ hfree (w.setCell ⟨b, o + i, none⟩ v).heap b (o + (i + 1) + j) = true := by
      intro j hj
      obtain ⟨q1, q2⟩ := h2 (j + 1) (by simpa using hj)
      rw [heap_setCell, show o + (i + 1) + j = o + i + (j + 1) by omega]
      exact ⟨hset_cells q1, hset_hfree q2⟩
    obtain ⟨w', e1, e2, e3⟩ := run_storeCells_h (P := P) b o r (i + 1) (w.setCell ⟨b, o + i, none⟩ v) (fun x hx => h1 x (by simp [hx])) h2'
    have e0 : Rest w (w.setCell ⟨b, o + i, none⟩ v) := ⟨rfl, rfl, rfl⟩
    refine ⟨w', ?_, ?_, e0.trans e3⟩
    · simp only [storeCells, Sem.run_bind, hst, Result.andThen_ok, e1]
    · rw [e2, heap_setCell]; rfl
theorem hsets_fr (b : Nat) : ∀ (vs : List Value) (o : Nat) (h : Heap), Fr [b] h (hsets h b o vs)
  | [], _, h => Fr.refl _ h
  | v :: r, o, h => (Fr.hset h b o v).trans (hsets_fr b r (o + 1) _)
theorem hsets_blk {b : Nat} {t : TypeId} {f : Nat × Nat} : ∀ (vs : List Value) (o : Nat) (h : Heap) (cs : List Value), h[b]? = some (.cells cs.toArray t f) →
    (hsets h b o vs)[b]? = some (.cells (put1 cs o vs).toArray t f)
  | [], _, _, _, hb => hb
  | v :: r, o, h, cs, hb => by
    refine hsets_blk r (o + 1) (hset h b o v) (cs.set o v) ?_
    rw [hset_of hb]
    simp
/-- The slice is the call's own: nil, or a whole unfrozen block from its head on, whose first cells are xs. -/
def Own (h : Heap) (e sz : Nat) (a : Option Addr) (n c : Nat) (xs : List Value) : Prop :=
  xs.length = n * sz ∧ ((a = none ∧ n = 0 ∧ c = 0) ∨
    ∃ g cur, a = some ⟨g, 0, none⟩ ∧ h[g]? = some (.cells cur e (0, 0)) ∧ n ≤ c ∧ c ≤ maxLen ∧ c * sz ≤ cur.size ∧ cur.toList.take (n * sz) = xs)
/-- The slice reads so. -/
def Reads (h : Heap) (sz : Nat) (a : Option Addr) (n : Nat) (xs : List Value) : Prop :=
  xs.length = n * sz ∧ ((a = none ∧ n = 0) ∨ ∃ b o, a = some ⟨b, o, none⟩ ∧ ∀ j v, xs[j]? = some v → hcell h b (o + j) = some v)
def blkOf (a : Option Addr) : List Nat :=
  match a with
  | none => []
  | some a => [a.block]
theorem append_run {P : Program} {t ty e : TypeId} {ei : TI} (hu : P.underlying t = some (.slice e)) (he : TyOK P e ei) (w : World)
    {a : Option Addr} {n c : Nat} {old : List Value} (hown : Own w.heap e ei.shs.length a n c old)
    {xa : Option Addr} {m xc : Nat} {xs : List Value} (hx : Reads w.heap ei.shs.length xa m xs) (hxc : xa = none → xc = 0) (h1 : ∀ v ∈ xs, v.oneCell' = true)
    (hb : (n + m) * ei.bytes ≤ 140737488355328) (hm : n + m ≤ maxLen) :
    ∃ a' c' w', (Builtin.append_ #[t, t] ty #[.slice a n c, .slice xa m xc]).run P w = .ok (.slice a' (n + m) c') w' ∧ Own w'.heap e ei.shs.length a' (n + m) c' (old ++ xs) ∧
      Fr (blkOf a) w.heap w'.heap ∧ Rest w w' ∧ ((a' = a ∧ c' = c) ∨ ∃ g, a' = some ⟨g, 0, none⟩ ∧ w.heap.size ≤ g) ∧ (c < n + m → Fr [] w.heap w'.heap) := by
  obtain ⟨dd, i, z, q1, q2, q3, q4, q5, q6, q7, q8, q9⟩ := he.ex
  have hzs : z.cells.size = ei.shs.length := by rw [← he.zl, ← q6]; simp
  have h63 : n + m ≤ 9223372036854775807 := by simpa [maxLen] using hm
  have hlen : (old ++ xs).length = (n + m) * ei.shs.length := by rw [List.length_append, hown.1, hx.1, Nat.add_mul]
  rw [← q4] at hb
  -- what a new block owns
  have grown : ∀ (o : Nat), o < n + m → Own (w.drew.alloc (.cells (old.toArray ++ xs.toArray ++ Builtin.zeroCells z.cells (grownCap w (n + m) o e - (n + m))) e)).heap e ei.shs.length (some ⟨w.heap.size, 0, none⟩) (n + m) (grownCap w (n + m) o e) (old ++ xs) := by
    intro o ho
    have hge := grownCap_ge w (n + m) o e
    have hcm : grownCap w (n + m) o e ≤ maxLen := grownCap_le_maxLen w (n + m) o e hm
    refine ⟨hlen, .inr ⟨w.heap.size, _, rfl, heap_alloc_new w.drew _, hge, hcm, ?_, ?_⟩⟩
    · simp only [Array.size_append, List.size_toArray, size_zeroCells, hzs, hown.1, hx.1, ← Nat.add_mul]
      exact Nat.mul_le_mul_right _ (by omega)
    · simp only [Array.toList_append]
      rw [← hlen]
      exact List.take_left
  have frAlloc : ∀ ob : Obj, Fr (blkOf a) w.heap (w.drew.alloc ob).heap := fun ob => (Fr.push w.heap ob).nil
  have hsource : ∀ j v, xs[j]? = some v → ∀ b o, xa = some ⟨b, o, none⟩ → (∀ j v, xs[j]? = some v → hcell w.heap b (o + j) = some v) → w.cell? ((⟨b, o, none⟩ : Addr).add j) = some v := fun j v hv b o _ hr => by rw [add_none, cell_hcell]; exact hr j v hv
  rcases hx.2 with ⟨rfl, rfl⟩ | ⟨b, o, rfl, hr⟩
  · -- nothing to append, from nil
    have hxs : xs = [] := List.eq_nil_of_length_eq_zero (by simpa using hx.1)
    subst hxs
    obtain rfl := hxc rfl
    refine ⟨a, c, w, ?_, by simpa using hown, Fr.refl _ _, Rest.refl w, .inl ⟨rfl, rfl⟩, fun _ => Fr.refl _ _⟩
    rcases hown.2 with ⟨rfl, rfl, rfl⟩ | ⟨g, cur, rfl, hg, hnc, _⟩
    · simp [Builtin.append_, run_underlying hu, sizeOf, typeInfo, q2, Builtin.lenOf, Builtin.firstCells]
    · simp [Builtin.append_, run_underlying hu, sizeOf, typeInfo, q2, Builtin.lenOf, Builtin.firstCells, hnc, storeCells]
  · have hnews : ∀ j v, xs[j]? = some v → w.cell? ((⟨b, o, none⟩ : Addr).add j) = some v := fun j v hv => hsource j v hv b o rfl hr
    have hl : xs.length = m * i.size := by rw [hx.1, q3]
    rcases hown.2 with ⟨rfl, rfl, rfl⟩ | ⟨g, cur, rfl, hg, hnc, hcm, hcs, htake⟩
    · have ho : old = [] := List.eq_nil_of_length_eq_zero (by simpa using hown.1)
      subst ho
      by_cases hm0 : m = 0
      · subst hm0
        have hxs : xs = [] := List.eq_nil_of_length_eq_zero (by simpa using hx.1)
        subst hxs
        refine ⟨none, 0, w, ?_, by simpa using hown, Fr.refl _ _, Rest.refl w, .inl ⟨rfl, rfl⟩, fun _ => Fr.refl _ _⟩
        simp [Builtin.append_, run_underlying hu, sizeOf, typeInfo, q2, Builtin.lenOf, Builtin.firstCells, loadCells, loadCellsFrom]
      · have hrun := run_append_nil (P := P) w t ty e i z hu q2 q5 ⟨b, o, none⟩ m xc xs hl hnews (by omega) (by omega) (by have hb' := hb; simp only [Nat.zero_add] at hb'; omega)
        have hgr := grown 0 (by omega)
        simp only [Nat.zero_add, List.nil_append, Array.empty_append] at hgr ⊢
        exact ⟨_, _, _, hrun, hgr, frAlloc _, ⟨rfl, rfl, rfl⟩, .inr ⟨_, rfl, Nat.le_refl _⟩, fun _ => Fr.push w.heap _⟩
    · by_cases hroom : n + m ≤ c
      · have hfit : n * i.size + xs.length ≤ cur.size := by rw [hx.1, q3, ← Nat.add_mul]; exact Nat.le_trans (Nat.mul_le_mul_right _ hroom) hcs
        have hrun := run_append_room (P := P) w t ty e i hu q2 g n c cur hg ⟨b, o, none⟩ m xc xs hl hnews h1 hroom hfit
        refine ⟨_, _, _, hrun, ⟨hlen, .inr ⟨g, _, rfl, setRow_heap w g cur _ e _ hg, hroom, hcm, ?_, ?_⟩⟩, ⟨by simp, fun k _ hk => setRow_other w g k _ (by simpa [blkOf] using hk)⟩, ⟨rfl, rfl, rfl⟩, .inl ⟨rfl, rfl⟩, fun q => absurd hroom (by omega)⟩
        · simp only [List.size_toArray, List.length_append, List.length_take, List.length_drop, Array.length_toList]
          omega
        · rw [q3, htake, ← hlen]
          exact List.take_left
      · have holds : ∀ j v, old[j]? = some v → w.cell? ((⟨g, 0, none⟩ : Addr).add j) = some v := by
          intro j v hv
          rw [add_none, cell_hcell, hcell_of hg]
          rw [← htake, List.getElem?_take] at hv
          split at hv
          · simpa using hv
          · cases hv
        have hrun := run_append_grow (P := P) w t ty e i z hu q2 q5 ⟨g, 0, none⟩ n c old (by rw [hown.1, q3]) holds ⟨b, o, none⟩ m xc xs hl hnews (by omega) (by omega) (growslice_fits (by omega) hb)
        have hgr := grown c (by omega)
        exact ⟨_, _, _, hrun, hgr, frAlloc _, ⟨rfl, rfl, rfl⟩, .inr ⟨_, rfl, Nat.le_refl _⟩, fun _ => Fr.push w.heap _⟩
end Go.X
