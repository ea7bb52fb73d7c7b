/- Breadth first, as plain data: what is found, how far, that nothing nearer is missed. Conditions: none. -/
import Derived.Test.YtmcloipjlihhlaaNNet
namespace Go.Proofs.Ytmcloipjlihhlaa.N
open Go.X Go.Proofs.Ytmcloipjlihhlaa
set_option maxRecDepth 100000

theorem nodup_bound : ∀ (n : Nat) (l : List Nat), l.Nodup → (∀ x ∈ l, x < n) → l.length ≤ n := by
  intro n
  induction n with
  | zero =>
    intro l _ h
    cases l with
    | nil => exact Nat.le_refl _
    | cons a t => exact absurd (h a (by simp)) (by omega)
  | succ n ih =>
    intro l nd h
    by_cases hn : n ∈ l
    · have h1 := ih (l.erase n) (nd.erase n) fun x hx => by
        have h2 := h x (List.mem_of_mem_erase hx)
        have h3 : x ≠ n := fun e => by subst e; exact (nd.not_mem_erase) hx
        omega
      rw [List.length_erase_of_mem hn] at h1
      omega
    · have := ih l nd fun x hx => by
        have h2 := h x hx
        have h3 : x ≠ n := fun e => hn (e ▸ hx)
        omega
      omega
theorem nodup_boundI {g : Int} {l : List Int} (nd : l.Nodup) (h : ∀ x ∈ l, 0 ≤ x ∧ x < g) : l.length ≤ g.toNat := by
  have h1 : (l.map Int.toNat).Nodup := by
    refine List.pairwise_map.2 (List.Pairwise.imp_of_mem (fun {x y} hx hy hne e => ?_) nd)
    have := h x hx; have := h y hy
    have : x.toNat = y.toNat := e
    omega
  have := nodup_bound g.toNat _ h1 fun x hx => by
    obtain ⟨y, hy, rfl⟩ := List.mem_map.1 hx
    have := h y hy
    omega
  simpa using this
inductive Reach (es : Es) : Int → Int → Prop
  | start (u : Int) : Reach es u u
  | step {u : Int} (h : Nat) (hh : h < 2 * es.length) (r : Reach es u (fromH es h)) : Reach es u (toH es h)
/-- The other half. -/
def mate (h : Nat) : Nat := if h % 2 = 0 then h + 1 else h - 1
theorem mate_lt {m h : Nat} (hh : h < 2 * m) : mate h < 2 * m := by unfold mate; split <;> omega
theorem mate_div (h : Nat) : mate h / 2 = h / 2 := by unfold mate; split <;> omega
theorem from_mate (es : Es) (h : Nat) : fromH es (mate h) = toH es h := by
  unfold fromH toH
  rw [mate_div]
  congr 1
  unfold mate; split <;> omega
theorem to_mate (es : Es) (h : Nat) : toH es (mate h) = fromH es h := by
  unfold fromH toH
  rw [mate_div]
  congr 1
  unfold mate; split <;> omega
theorem Reach.trans {es : Es} {u v w : Int} (a : Reach es u v) (b : Reach es v w) : Reach es u w := by
  induction b with
  | start => exact a
  | step h hh _ ih => exact .step h hh ih
theorem Reach.one {es : Es} {h : Nat} (hh : h < 2 * es.length) : Reach es (fromH es h) (toH es h) := .step h hh (.start _)
theorem Reach.symm {es : Es} {u v : Int} (a : Reach es u v) : Reach es v u := by
  induction a with
  | start => exact .start _
  | step h hh _ ih =>
    have := Reach.one (mate_lt hh)
    rw [from_mate, to_mate] at this
    exact this.trans ih
theorem Reach.in {g : Int} {es : Es} (m : MayN g es) {u v : Int} (a : Reach es u v) (hu : 0 ≤ u ∧ u < g) : 0 ≤ v ∧ v < g := by
  cases a with
  | start => exact hu
  | step h hh _ => exact toH_in m hh
structure BT where
  ord : List Int
  by' : List Int
  far : List Int
/-- A half-edge is looked at, from v. -/
def bH (es : Es) (v : Int) (t : BT) (h : Int) : BT :=
  if t.far.getD (toH es h.toNat).toNat 0 < 0 then ⟨t.ord ++ [toH es h.toNat], t.by'.set (toH es h.toNat).toNat h, t.far.set (toH es h.toNat).toNat (t.far.getD v.toNat 0 + 1)⟩ else t
def outV (es : Es) (v : Int) : List Int := outL es (2 * es.length) v.toNat
def bV (es : Es) (v : Int) (t : BT) : BT := (outV es v).foldl (bH es v) t
def bStart (g s : Int) : BT := ⟨[s], List.replicate g.toNat (-1), (List.replicate g.toNat (-1)).set s.toNat 0⟩
def bK (g : Int) (es : Es) (s : Int) : Nat → BT
  | 0 => bStart g s
  | k + 1 => if k < (bK g es s k).ord.length then bV es ((bK g es s k).ord.getD k 0) (bK g es s k) else bK g es s k
/-- What breadth first finds. -/
def bfs (g : Int) (es : Es) (s : Int) : BT := bK g es s g.toNat
theorem outV_mem {es : Es} {v : Int} {x : Int} (hv : 0 ≤ v) (h : x ∈ outV es v) : ∃ n : Nat, x = n ∧ n < 2 * es.length ∧ fromH es n = v := by
  obtain ⟨n, h1, h2, h3⟩ := outL_mem h
  exact ⟨n, h1, h2, by omega⟩
theorem outV_of {es : Es} {v : Int} {h : Nat} (hh : h < 2 * es.length) (hv : fromH es h = v) (h0 : 0 ≤ v) : (h : Int) ∈ outV es v := by
  unfold outV outL
  rw [List.mem_map]
  exact ⟨h, by rw [List.mem_filter]; exact ⟨by simpa using hh, by simp; omega⟩, rfl⟩
/-- What holds all the time. -/
structure BI (g : Int) (es : Es) (s : Int) (t : BT) : Prop where
  lb : t.by'.length = g.toNat
  lf : t.far.length = g.toNat
  nd : t.ord.Nodup
  rng : ∀ x ∈ t.ord, 0 ≤ x ∧ x < g
  mem : ∀ v : Int, 0 ≤ v → v < g → (0 ≤ t.far.getD v.toNat 0 ↔ v ∈ t.ord)
  bnd : ∀ v : Int, 0 ≤ v → v < g → -1 ≤ t.far.getD v.toNat 0 ∧ t.far.getD v.toNat 0 < t.ord.length
  hd : t.ord[0]? = some s
  fs : t.far.getD s.toNat 0 = 0
  bs : t.by'.getD s.toNat 0 = -1
  no : ∀ v : Int, 0 ≤ v → v < g → v ∉ t.ord → t.by'.getD v.toNat 0 = -1
  tree : ∀ v ∈ t.ord, v ≠ s → ∃ h : Nat, t.by'.getD v.toNat 0 = h ∧ h < 2 * es.length ∧ toH es h = v ∧ fromH es h ∈ t.ord ∧ t.far.getD (fromH es h).toNat 0 + 1 = t.far.getD v.toNat 0
  rch : ∀ v ∈ t.ord, Reach es s v
theorem getD_set (l : List Int) (i j : Nat) (x : Int) (hi : i < l.length) : (l.set i x).getD j 0 = if i = j then x else l.getD j 0 := by
  simp only [List.getD_eq_getElem?_getD, List.getElem?_set]
  split
  · simp [hi]
  · rfl
theorem BI.s_mem {g : Int} {es : Es} {s : Int} {t : BT} (i : BI g es s t) : s ∈ t.ord := List.mem_of_getElem? i.hd
theorem BI.len {g : Int} {es : Es} {s : Int} {t : BT} (i : BI g es s t) : t.ord.length ≤ g.toNat := nodup_boundI i.nd i.rng
theorem BI.pos {g : Int} {es : Es} {s : Int} {t : BT} (i : BI g es s t) : 0 < t.ord.length := (List.getElem?_eq_some_iff.1 i.hd).1
theorem BI.start {g s : Int} {es : Es} (h0 : 0 ≤ s) (h1 : s < g) : BI g es s (bStart g s) := by
  have e : ∀ v : Int, 0 ≤ v → v < g → (bStart g s).far.getD v.toNat 0 = if v = s then 0 else -1 := fun v a b => by
    unfold bStart
    rw [getD_set _ _ _ _ (by simp; omega)]
    by_cases h : v = s
    · simp [h]
    · rw [if_neg (by omega), if_neg h, List.getD_eq_getElem?_getD, List.getElem?_replicate, if_pos (by omega)]; rfl
  have eb : ∀ v : Int, 0 ≤ v → v < g → (bStart g s).by'.getD v.toNat 0 = -1 := fun v a b => by
    unfold bStart
    rw [List.getD_eq_getElem?_getD, List.getElem?_replicate, if_pos (by omega)]; rfl
  refine ⟨by simp [bStart], by simp [bStart], by simp [bStart], ?_, ?_, ?_, rfl, ?_, eb s h0 h1, fun v a b _ => eb v a b, ?_, ?_⟩
  · intro x hx
    have : x = s := by simpa [bStart] using hx
    subst this; exact ⟨h0, h1⟩
  · intro v a b
    rw [e v a b]
    simp only [bStart, List.mem_singleton]
    split
    · rename_i h; simp [h]
    · rename_i h; simp [h]
  · intro v a b
    rw [e v a b]
    simp only [bStart, List.length_singleton]
    split <;> omega
  · rw [e s h0 h1, if_pos rfl]
  · intro v hv hne
    exact absurd (by simpa [bStart] using hv) hne
  · intro v hv
    have : v = s := by simpa [bStart] using hv
    subst this; exact .start _
theorem BI.stepH {g : Int} {es : Es} {s v : Int} {t : BT} (m : MayN g es) (i : BI g es s t) (hv : v ∈ t.ord) {h : Nat} (hh : h < 2 * es.length) (hf : fromH es h = v) : BI g es s (bH es v t h) := by
  have hw := toH_in m hh
  have hvr := i.rng v hv
  unfold bH
  rw [Int.toNat_natCast]
  split
  · rename_i hneg
    have hnm : toH es h ∉ t.ord := fun q => by have := (i.mem _ hw.1 hw.2).2 q; omega
    have hs : s ≠ toH es h := fun e => hnm (e ▸ i.s_mem)
    have hvw : v ≠ toH es h := fun e => hnm (e ▸ hv)
    have hsr := i.rng s i.s_mem
    have ef : ∀ x : Int, 0 ≤ x → x < g → (t.far.set (toH es h).toNat (t.far.getD v.toNat 0 + 1)).getD x.toNat 0 = if x = toH es h then t.far.getD v.toNat 0 + 1 else t.far.getD x.toNat 0 := fun x a b => by
      rw [getD_set _ _ _ _ (by rw [i.lf]; omega)]
      by_cases q : x = toH es h
      · simp [q]
      · rw [if_neg (by omega), if_neg q]
    have eb : ∀ x : Int, 0 ≤ x → x < g → (t.by'.set (toH es h).toNat (h : Int)).getD x.toNat 0 = if x = toH es h then (h : Int) else t.by'.getD x.toNat 0 := fun x a b => by
      rw [getD_set _ _ _ _ (by rw [i.lb]; omega)]
      by_cases q : x = toH es h
      · simp [q]
      · rw [if_neg (by omega), if_neg q]
    have hbv := i.bnd v hvr.1 hvr.2
    have hv0 := (i.mem v hvr.1 hvr.2).2 hv
    refine ⟨by simp [i.lb], by simp [i.lf], ?_, ?_, ?_, ?_, ?_, ?_, ?_, ?_, ?_, ?_⟩
    · refine List.nodup_append.2 ⟨i.nd, by simp, ?_⟩
      intro a ha b hb
      have : b = toH es h := by simpa using hb
      subst this
      exact fun e => hnm (e ▸ ha)
    · intro x hx
      rcases List.mem_append.1 hx with q | q
      · exact i.rng x q
      · have : x = toH es h := by simpa using q
        subst this; exact hw
    · intro x a b
      dsimp only
      rw [ef x a b, List.mem_append, List.mem_singleton]
      by_cases q : x = toH es h
      · rw [if_pos q]; exact ⟨fun _ => .inr q, fun _ => by omega⟩
      · rw [if_neg q]; exact (i.mem x a b).trans ⟨.inl, fun z => z.elim id fun y => absurd y q⟩
    · intro x a b
      dsimp only
      rw [ef x a b, List.length_append, List.length_singleton]
      have hb2 := i.bnd x a b
      by_cases q : x = toH es h
      · rw [if_pos q]; omega
      · rw [if_neg q]; omega
    · dsimp only
      rw [List.getElem?_append_left i.pos]; exact i.hd
    · dsimp only
      rw [ef s hsr.1 hsr.2, if_neg hs]; exact i.fs
    · dsimp only
      rw [eb s hsr.1 hsr.2, if_neg hs]; exact i.bs
    · intro x a b hx
      dsimp only at hx ⊢
      rw [List.mem_append, List.mem_singleton] at hx
      rw [eb x a b, if_neg (fun q => hx (.inr q))]
      exact i.no x a b fun q => hx (.inl q)
    · intro x hx hne
      dsimp only at hx ⊢
      by_cases q : x = toH es h
      · subst q
        refine ⟨h, ?_, hh, rfl, List.mem_append_left _ (hf ▸ hv), ?_⟩
        · rw [eb _ hw.1 hw.2, if_pos rfl]
        · rw [hf, ef v hvr.1 hvr.2, if_neg hvw, ef _ hw.1 hw.2, if_pos rfl]
      · have hx : x ∈ t.ord := (List.mem_append.1 hx).elim id fun z => absurd (by simpa using z) q
        have hxr := i.rng x hx
        obtain ⟨k, h1, h2, h3, h4, h5⟩ := i.tree x hx hne
        have hkr := i.rng _ h4
        have hkw : fromH es k ≠ toH es h := fun e => hnm (e ▸ h4)
        refine ⟨k, ?_, h2, h3, List.mem_append_left _ h4, ?_⟩
        · rw [eb x hxr.1 hxr.2, if_neg q]; exact h1
        · rw [ef _ hkr.1 hkr.2, if_neg hkw, ef x hxr.1 hxr.2, if_neg q]; exact h5
    · intro x hx
      dsimp only at hx
      rcases List.mem_append.1 hx with q | q
      · exact i.rch x q
      · have : x = toH es h := by simpa using q
        subst this
        exact .step h hh (hf ▸ i.rch v hv)
  · exact i
/-- Half-edges that leave v are looked at, one by one. -/
def bJ (es : Es) (v : Int) (t : BT) (j : Nat) : BT := ((outV es v).take j).foldl (bH es v) t
theorem bJ_succ {es : Es} {v : Int} {t : BT} {j : Nat} {h : Int} (hj : (outV es v)[j]? = some h) : bJ es v t (j + 1) = bH es v (bJ es v t j) h := by
  unfold bJ
  rw [List.take_add_one, hj, List.foldl_append]; rfl
theorem bJ_all (es : Es) (v : Int) (t : BT) : bJ es v t (outV es v).length = bV es v t := by
  unfold bJ bV; rw [List.take_length]
theorem bH_ord {es : Es} {v h : Int} {t : BT} : ∀ x ∈ t.ord, x ∈ (bH es v t h).ord := fun x hx => by
  unfold bH; split
  · exact List.mem_append_left _ hx
  · exact hx
theorem BI.stepJ {g : Int} {es : Es} {s v : Int} {t : BT} (m : MayN g es) (i : BI g es s t) (hv : v ∈ t.ord) : ∀ j, j ≤ (outV es v).length → BI g es s (bJ es v t j) ∧ v ∈ (bJ es v t j).ord
  | 0, _ => ⟨i, hv⟩
  | j + 1, hj => by
    obtain ⟨h1, h2⟩ := BI.stepJ m i hv j (by omega)
    have hx : (outV es v)[j]? = some ((outV es v)[j]'(by omega)) := List.getElem?_eq_getElem (by omega)
    generalize (outV es v)[j]'(by omega) = h at hx
    obtain ⟨n, rfl, hn, hf⟩ := outV_mem (i.rng v hv).1 (List.mem_of_getElem? hx)
    rw [bJ_succ hx]
    exact ⟨h1.stepH m h2 hn hf, bH_ord _ h2⟩
theorem BI.stepV {g : Int} {es : Es} {s v : Int} {t : BT} (m : MayN g es) (i : BI g es s t) (hv : v ∈ t.ord) : BI g es s (bV es v t) := by
  rw [← bJ_all]; exact (i.stepJ m hv _ (Nat.le_refl _)).1
theorem bK_BI {g : Int} {es : Es} {s : Int} (m : MayN g es) (h0 : 0 ≤ s) (h1 : s < g) : ∀ k, BI g es s (bK g es s k)
  | 0 => BI.start h0 h1
  | k + 1 => by
    have i := bK_BI m h0 h1 k
    unfold bK
    split
    · rename_i hk
      refine i.stepV m ?_
      rw [List.getD_eq_getElem?_getD, List.getElem?_eq_getElem hk]
      exact List.getElem_mem hk
    · exact i
theorem bK_succ {g : Int} {es : Es} {s : Int} {k : Nat} {v : Int} (hk : (bK g es s k).ord[k]? = some v) : bK g es s (k + 1) = bV es v (bK g es s k) := by
  have h1 := (List.getElem?_eq_some_iff.1 hk).1
  rw [bK, if_pos h1, List.getD_eq_getElem?_getD, hk]; rfl
theorem bK_stay {g : Int} {es : Es} {s : Int} {k : Nat} (hk : (bK g es s k).ord.length ≤ k) : ∀ d, bK g es s (k + d) = bK g es s k
  | 0 => rfl
  | d + 1 => by
    have e := bK_stay hk d
    rw [← Nat.add_assoc, bK, if_neg (by rw [e]; omega), e]
/-- Where the walk ends. -/
theorem bK_done {g : Int} {es : Es} {s : Int} (m : MayN g es) (h0 : 0 ≤ s) (h1 : s < g) {k : Nat} (hk : k = (bK g es s k).ord.length) : bK g es s k = bfs g es s := by
  have := (bK_BI m h0 h1 k).len
  unfold bfs
  rw [show g.toNat = k + (g.toNat - k) by omega, bK_stay (by omega)]
theorem bH_far {g : Int} {es : Es} {s v : Int} {t : BT} (m : MayN g es) (i : BI g es s t) {h : Nat} (hh : h < 2 * es.length) : ∀ x ∈ t.ord, (bH es v t h).far.getD x.toNat 0 = t.far.getD x.toNat 0 := fun x hx => by
  have hw := toH_in m hh
  have hxr := i.rng x hx
  unfold bH
  rw [Int.toNat_natCast]
  split
  · rename_i hneg
    dsimp only
    rw [getD_set _ _ _ _ (by rw [i.lf]; omega), if_neg]
    intro e
    have e2 : toH es h = x := by omega
    have := (i.mem _ hxr.1 hxr.2).2 hx
    rw [e2] at hneg
    omega
  · rfl
theorem bH_old {es : Es} {v h : Int} {t : BT} : (bH es v t h).ord = t.ord ∨ (bH es v t h).ord = t.ord ++ [toH es h.toNat] := by
  unfold bH; split
  · exact .inr rfl
  · exact .inl rfl
/-- While the half-edges of v are looked at: those in D have been. -/
structure BP (g : Int) (es : Es) (t : BT) (k : Nat) (v : Int) (D : Nat → Prop) : Prop where
  le : k ≤ t.ord.length
  mono : ∀ (i j : Nat) (x y : Int), i ≤ j → t.ord[i]? = some x → t.ord[j]? = some y → t.far.getD x.toNat 0 ≤ t.far.getD y.toNat 0
  top : ∀ x ∈ t.ord, t.far.getD x.toNat 0 ≤ t.far.getD v.toNat 0 + 1
  done : ∀ (i : Nat) (x : Int), i < k → t.ord[i]? = some x → ∀ h : Nat, h < 2 * es.length → fromH es h = x → toH es h ∈ t.ord ∧ t.far.getD (toH es h).toNat 0 ≤ t.far.getD x.toNat 0 + 1
  part : ∀ h : Nat, h < 2 * es.length → D h → toH es h ∈ t.ord
theorem BP.stepH {g : Int} {es : Es} {s v : Int} {t : BT} {k : Nat} {D : Nat → Prop} (m : MayN g es) (i : BI g es s t) (b : BP g es t k v D) (hv : v ∈ t.ord) {h : Nat} (hh : h < 2 * es.length) (hf : fromH es h = v) :
    BP g es (bH es v t h) k v fun e => e = h ∨ D e := by
  have hw := toH_in m hh
  have hvr := i.rng v hv
  have keep := bH_far (v := v) m i hh
  have i' := i.stepH m hv hh hf
  by_cases hneg : t.far.getD (toH es h).toNat 0 < 0
  · have hnm : toH es h ∉ t.ord := fun q => by have := (i.mem _ hw.1 hw.2).2 q; omega
    have eo : (bH es v t h).ord = t.ord ++ [toH es h] := by unfold bH; rw [Int.toNat_natCast, if_pos hneg]
    have ew : (bH es v t h).far.getD (toH es h).toNat 0 = t.far.getD v.toNat 0 + 1 := by
      unfold bH
      rw [Int.toNat_natCast, if_pos hneg]
      dsimp only
      rw [getD_set _ _ _ _ (by rw [i.lf]; omega), if_pos rfl]
    have old : ∀ (n : Nat) (x : Int), (t.ord ++ [toH es h])[n]? = some x → (n < t.ord.length ∧ t.ord[n]? = some x) ∨ (n = t.ord.length ∧ x = toH es h) := fun n x hx => by
      by_cases hn : n < t.ord.length
      · rw [List.getElem?_append_left hn] at hx; exact .inl ⟨hn, hx⟩
      · rw [List.getElem?_append_right (by omega)] at hx
        have h2 := (List.getElem?_eq_some_iff.1 hx).1
        simp at h2
        have : n = t.ord.length := by omega
        subst this
        simp at hx
        exact .inr ⟨rfl, hx.symm⟩
    have bl := b.le
    refine ⟨by rw [eo]; simp; omega, ?_, ?_, ?_, ?_⟩
    · intro a c x y hac hx hy
      rw [eo] at hx hy
      rcases old a x hx with ⟨h1, h2⟩ | ⟨h1, rfl⟩
      · rw [keep x (List.mem_of_getElem? h2)]
        rcases old c y hy with ⟨h3, h4⟩ | ⟨h3, rfl⟩
        · rw [keep y (List.mem_of_getElem? h4)]; exact b.mono a c x y hac h2 h4
        · rw [ew]; exact b.top x (List.mem_of_getElem? h2)
      · rcases old c y hy with ⟨h3, h4⟩ | ⟨h3, rfl⟩
        · omega
        · exact Int.le_refl _
    · intro x hx
      rw [eo] at hx
      rw [keep v hv]
      rcases List.mem_append.1 hx with q | q
      · rw [keep x q]; exact b.top x q
      · have : x = toH es h := by simpa using q
        subst this
        rw [ew]; exact Int.le_refl _
    · intro a x ha hx e he hfe
      rw [eo] at hx ⊢
      rcases old a x hx with ⟨h1, h2⟩ | ⟨h1, rfl⟩
      · have := b.done a x ha h2 e he hfe
        rw [keep _ this.1, keep x (List.mem_of_getElem? h2)]
        exact ⟨List.mem_append_left _ this.1, this.2⟩
      · omega
    · intro e he hD
      rw [eo]
      rcases hD with rfl | hD
      · exact List.mem_append_right _ (by simp)
      · exact List.mem_append_left _ (b.part e he hD)
  · have eo : bH es v t h = t := by unfold bH; rw [Int.toNat_natCast, if_neg hneg]
    rw [eo]
    have := (i.mem _ hw.1 hw.2).1 (by omega)
    exact ⟨b.le, b.mono, b.top, b.done, fun e he hD => hD.elim (fun q => q ▸ this) (b.part e he)⟩
/-- Where nodes are gone over. -/
structure BM (es : Es) (t : BT) (k : Nat) : Prop where
  le : k ≤ t.ord.length
  mono : ∀ (i j : Nat) (x y : Int), i ≤ j → t.ord[i]? = some x → t.ord[j]? = some y → t.far.getD x.toNat 0 ≤ t.far.getD y.toNat 0
  top : ∀ v : Int, t.ord[k]? = some v → ∀ x ∈ t.ord, t.far.getD x.toNat 0 ≤ t.far.getD v.toNat 0 + 1
  done : ∀ (i : Nat) (x : Int), i < k → t.ord[i]? = some x → ∀ h : Nat, h < 2 * es.length → fromH es h = x → toH es h ∈ t.ord ∧ t.far.getD (toH es h).toNat 0 ≤ t.far.getD x.toNat 0 + 1
theorem bJ_BP {g : Int} {es : Es} {s v : Int} {t : BT} {k : Nat} (m : MayN g es) (i : BI g es s t) (b : BM es t k) (hk : t.ord[k]? = some v) :
    ∀ j, j ≤ (outV es v).length → BP g es (bJ es v t j) k v (fun e => (e : Int) ∈ (outV es v).take j) ∧ (bJ es v t j).ord[k]? = some v
  | 0, _ => ⟨⟨b.le, b.mono, b.top v hk, b.done, fun h _ q => by simp at q⟩, hk⟩
  | j + 1, hj => by
    obtain ⟨h1, h2⟩ := bJ_BP m i b hk j (by omega)
    have hv : v ∈ t.ord := List.mem_of_getElem? hk
    obtain ⟨i1, i2⟩ := i.stepJ m hv j (by omega)
    have hx : (outV es v)[j]? = some ((outV es v)[j]'(by omega)) := List.getElem?_eq_getElem (by omega)
    generalize (outV es v)[j]'(by omega) = h at hx
    obtain ⟨n, rfl, hn, hf⟩ := outV_mem (i.rng v hv).1 (List.mem_of_getElem? hx)
    have h3 := h1.stepH m i1 i2 hn hf
    rw [bJ_succ hx]
    refine ⟨⟨h3.le, h3.mono, h3.top, h3.done, fun e he q => ?_⟩, ?_⟩
    · rw [List.take_add_one, hx] at q
      rcases List.mem_append.1 q with q | q
      · exact h3.part e he (.inr q)
      · exact h3.part e he (.inl (by simp at q; omega))
    · have hl := (List.getElem?_eq_some_iff.1 h2).1
      rcases bH_old (es := es) (v := v) (h := (n : Int)) (t := bJ es v t j) with e | e
      · rw [e]; exact h2
      · rw [e, List.getElem?_append_left hl]; exact h2
theorem bK_BM {g : Int} {es : Es} {s : Int} (m : MayN g es) (h0 : 0 ≤ s) (h1 : s < g) : ∀ k, (k ≤ (bK g es s k).ord.length → BM es (bK g es s k) k)
  | 0, _ => by
    refine ⟨Nat.zero_le _, ?_, ?_, fun i _ hi => by omega⟩
    · intro i j x y hij hx hy
      have hi := (List.getElem?_eq_some_iff.1 hx).1
      have hj := (List.getElem?_eq_some_iff.1 hy).1
      simp [bK, bStart] at hi hj
      subst hi; subst hj
      rw [hx] at hy
      rw [Option.some.inj hy]; exact Int.le_refl _
    · intro v hv x hx
      have e1 : s = v := by simpa [bK, bStart] using hv
      have e2 : x = s := by simpa [bK, bStart] using hx
      rw [e2, e1]; omega
  | k + 1, hk => by
    by_cases q : k < (bK g es s k).ord.length
    · have b := bK_BM m h0 h1 k (by omega)
      have i := bK_BI m h0 h1 k
      have hx : (bK g es s k).ord[k]? = some ((bK g es s k).ord[k]'q) := List.getElem?_eq_getElem q
      generalize (bK g es s k).ord[k]'q = v at hx
      rw [bK_succ hx] at hk ⊢
      have p := bJ_BP m i b hx _ (Nat.le_refl _)
      have hv : v ∈ (bK g es s k).ord := List.mem_of_getElem? hx
      have iv := i.stepV m hv
      rw [bJ_all, List.take_length] at p
      obtain ⟨p, hk2⟩ := p
      refine ⟨hk, p.mono, ?_, ?_⟩
      · intro w hw x hx2
        have a1 := p.top x hx2
        have a2 := p.mono k (k + 1) v w (by omega) hk2 hw
        omega
      · intro a x ha hx2 h hh hf
        by_cases e : a < k
        · exact p.done a x e hx2 h hh hf
        · have : a = k := by omega
          subst this
          rw [hk2] at hx2
          obtain rfl := Option.some.inj hx2
          have hin := p.part h hh (outV_of hh hf (i.rng _ hv).1)
          exact ⟨hin, p.top _ hin⟩
    · exfalso
      rw [bK, if_neg q] at hk
      omega
theorem bJ_le (es : Es) (v : Int) (t : BT) (j : Nat) : t.ord.length ≤ (bJ es v t j).ord.length := by
  have : ∀ (l : List Int) (t : BT), t.ord.length ≤ (l.foldl (bH es v) t).ord.length := fun l => by
    induction l with
    | nil => intro t; exact Nat.le_refl _
    | cons a l ih2 =>
      intro t
      refine Nat.le_trans ?_ (ih2 _)
      rcases bH_old (es := es) (v := v) (h := a) (t := t) with e | e
      · rw [e]; exact Nat.le_refl _
      · rw [e]; simp
  exact this _ _
/-- There is a step at which the walk ends. -/
theorem bK_end {g : Int} {es : Es} {s : Int} (m : MayN g es) (h0 : 0 ≤ s) (h1 : s < g) : ∃ k, k = (bK g es s k).ord.length := by
  have : ∀ k, (k ≤ (bK g es s k).ord.length) ∨ ∃ j, j = (bK g es s j).ord.length := fun k => by
    induction k with
    | zero => exact .inl (Nat.zero_le _)
    | succ k ih =>
      rcases ih with ih | ih
      · by_cases e : k = (bK g es s k).ord.length
        · exact .inr ⟨k, e⟩
        · left
          have hlt : k < (bK g es s k).ord.length := by omega
          have hx : (bK g es s k).ord[k]? = some ((bK g es s k).ord[k]'hlt) := List.getElem?_eq_getElem hlt
          rw [bK_succ hx]
          have : ∀ (l : List Int) (v : Int) (t : BT), t.ord.length ≤ (l.foldl (bH es v) t).ord.length := fun l v => by
            induction l with
            | nil => intro t; exact Nat.le_refl _
            | cons a l ih2 =>
              intro t
              refine Nat.le_trans ?_ (ih2 _)
              rcases bH_old (es := es) (v := v) (h := a) (t := t) with e | e
              · rw [e]; exact Nat.le_refl _
              · rw [e]; simp
          have := this (outV es ((bK g es s k).ord[k]'hlt)) ((bK g es s k).ord[k]'hlt) (bK g es s k)
          unfold bV
          omega
      · exact .inr ih
  rcases this (g.toNat + 1) with h | h
  · have := (bK_BI m h0 h1 (g.toNat + 1)).len; omega
  · exact h
/-- What breadth first finds. -/
theorem bfs_BI {g : Int} {es : Es} {s : Int} (m : MayN g es) (h0 : 0 ≤ s) (h1 : s < g) : BI g es s (bfs g es s) := bK_BI m h0 h1 _
theorem bfs_done {g : Int} {es : Es} {s : Int} (m : MayN g es) (h0 : 0 ≤ s) (h1 : s < g) {h : Nat} (hh : h < 2 * es.length) (hf : fromH es h ∈ (bfs g es s).ord) :
    toH es h ∈ (bfs g es s).ord ∧ (bfs g es s).far.getD (toH es h).toNat 0 ≤ (bfs g es s).far.getD (fromH es h).toNat 0 + 1 := by
  obtain ⟨k, hk⟩ := bK_end m h0 h1
  have b := bK_BM m h0 h1 k (by omega)
  rw [bK_done m h0 h1 hk] at b hk
  obtain ⟨i, hi, e⟩ := List.getElem_of_mem hf
  exact b.done i _ (by omega) (by rw [List.getElem?_eq_getElem hi, e]) h hh rfl
theorem bfs_mem {g : Int} {es : Es} {s : Int} (m : MayN g es) (h0 : 0 ≤ s) (h1 : s < g) {v : Int} : v ∈ (bfs g es s).ord ↔ Reach es s v := by
  refine ⟨(bfs_BI m h0 h1).rch v, fun r => ?_⟩
  induction r with
  | start => exact (bfs_BI m h0 h1).s_mem
  | step h hh _ ih => exact (bfs_done m h0 h1 hh ih).1
end Go.Proofs.Ytmcloipjlihhlaa.N
