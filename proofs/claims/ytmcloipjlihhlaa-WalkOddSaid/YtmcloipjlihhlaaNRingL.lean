/- The law of the shortest cycle. Conditions: none. -/
import Derived.Test.YtmcloipjlihhlaaNShort
namespace Go.Proofs.Ytmcloipjlihhlaa.N
open Go.X Go.Proofs.Ytmcloipjlihhlaa
set_option maxRecDepth 100000

/-! ### How far: the least -/
theorem bfs_min {g s : Int} {es : Es} (m : MayN g es) (h0 : 0 ≤ s) (h1 : s < g) : ∀ {l : List Int} {u v : Int}, Chain es l u v → u ∈ (bfs g es s).ord → v ∈ (bfs g es s).ord ∧ (bfs g es s).far.getD v.toNat 0 ≤ (bfs g es s).far.getD u.toNat 0 + l.length := by
  intro l u v c
  induction c with
  | nil u => exact fun hu => ⟨hu, by simp⟩
  | cons h hh _ ih =>
    intro hu
    have a := bfs_done m h0 h1 hh hu
    have b := ih a.1
    refine ⟨b.1, ?_⟩
    have := b.2
    have := a.2
    simp only [List.length_cons]
    omega
theorem bfs_way {g s t : Int} {es : Es} (m : MayN g es) (h0 : 0 ≤ s) (h1 : s < g) (ht : t ∈ (bfs g es s).ord) : ∃ l, Chain es l t s ∧ (l.length : Int) = (bfs g es s).far.getD t.toNat 0 := by
  have i := bfs_BI m h0 h1
  refine ⟨upF es (bfs g es s) t, upF_chain i t ht, ?_⟩
  rw [upF_len i t ht]; exact (i.farB ht).1
theorem bfs_le {g s t : Int} {es : Es} (m : MayN g es) (h0 : 0 ≤ s) (h1 : s < g) (t0 : 0 ≤ t) (t1 : t < g) (r : Reach es s t) : (bfs g es t).far.getD s.toNat 0 ≤ (bfs g es s).far.getD t.toNat 0 := by
  obtain ⟨l, c, hl⟩ := bfs_way m h0 h1 ((bfs_mem m h0 h1).2 r)
  have i := bfs_BI m t0 t1
  have := (bfs_min m t0 t1 c i.s_mem).2
  rw [i.fs] at this
  omega
/-- As far there as back. -/
theorem bfs_sym {g s t : Int} {es : Es} (m : MayN g es) (h0 : 0 ≤ s) (h1 : s < g) (t0 : 0 ≤ t) (t1 : t < g) (r : Reach es s t) : (bfs g es t).far.getD s.toNat 0 = (bfs g es s).far.getD t.toNat 0 := by
  have a := bfs_le m h0 h1 t0 t1 r
  have b := bfs_le m t0 t1 h0 h1 r.symm
  omega
theorem bfs_no {g s t : Int} {es : Es} (m : MayN g es) (h0 : 0 ≤ s) (h1 : s < g) (t0 : 0 ≤ t) (t1 : t < g) : 0 ≤ (bfs g es s).far.getD t.toNat 0 ↔ Reach es s t := by
  rw [(bfs_BI m h0 h1).mem t t0 t1, bfs_mem m h0 h1]

/-! ### The document's: breadth first, parts of a net -/
theorem okBreadthR {g s : Int} {es : Es} {R : List Int → List Int → List Int → List Int → Prop} (m : MayN g es) (h0 : 0 ≤ s) (h1 : s < g) (h : R (bfs g es s).ord (bfs g es s).by' (bfs g es s).far []) : Ok84 g es s R := by
  apply ok84
  unfold T84
  have m0 := m.g0
  have m2 := m.g1
  have m3 := m.m
  refine ⟨fun a b c => a = [s] ∧ b = List.replicate g.toNat (-1) ∧ c = List.replicate g.toNat (-1), okBlank m0 (by omega) (okBlank m0 (by omega) ⟨rfl, rfl, rfl⟩), ?_⟩
  rintro _ _ _ ⟨rfl, rfl, rfl⟩
  refine ⟨h0, by simp; omega, okOutsR m ?_⟩
  have eo : outsM g.toNat es (2 * es.length) = outsA g es := rfl
  rw [eo]
  refine ⟨fun i a b c d => ∃ k : Nat, i = k ∧ k ≤ (bK g es s k).ord.length ∧ a = (bK g es s k).ord ∧ b = (bK g es s k).by' ∧ c = (bK g es s k).far ∧ d = [], fun i _ _ _ _ => (g - i).toNat, ⟨0, rfl, Nat.zero_le _, rfl, rfl, rfl, rfl⟩, ?_⟩
  rintro _ _ _ _ _ ⟨k, rfl, hk, rfl, rfl, rfl, rfl⟩
  have i := bK_BI m h0 h1 k
  have il := i.len
  refine cnd_dec (fun hlt => ⟨by omega, hlt, fun v hv => ?_⟩) fun hlt => ?_
  · rw [Int.toNat_natCast] at hv
    have hvm : v ∈ (bK g es s k).ord := List.mem_of_getElem? hv
    have hvr := i.rng v hvm
    refine ⟨fun x a b c d => ∃ j : Nat, x = j ∧ j ≤ (outV es v).length ∧ a = (bJ es v (bK g es s k) j).ord ∧ b = (bJ es v (bK g es s k) j).by' ∧ c = (bJ es v (bK g es s k) j).far ∧ d = [], fun x _ _ _ _ => ((outV es v).length - x).toNat, ⟨0, rfl, Nat.zero_le _, rfl, rfl, rfl, rfl⟩, ?_⟩
    have hol : (outV es v).length ≤ 2 * es.length := outL_len _ _ _
    rintro _ _ _ _ _ ⟨j, rfl, hj, rfl, rfl, rfl, rfl⟩
    obtain ⟨ij, hvj⟩ := i.stepJ m hvm j hj
    refine ⟨hvr.1, by rw [outsA_len]; omega, fun l hl => ?_⟩
    obtain rfl := outsA_get hvr.2 hvr.1 hl
    refine cnd_dec (fun hlt2 => ⟨hvr.1, by rw [outsA_len]; omega, fun l hl => ?_⟩) fun hlt2 => ?_
    · obtain rfl := outsA_get hvr.2 hvr.1 hl
      refine ⟨by omega, hlt2, fun x hx => ?_⟩
      rw [Int.toNat_natCast] at hx
      obtain ⟨n, rfl, hn, hf⟩ := outV_mem hvr.1 (List.mem_of_getElem? hx)
      have hw := toH_in m hn
      have es1 := bJ_succ (t := bK g es s k) hx
      generalize hB : bJ es v (bK g es s k) j = B at *
      have iln := ij.len
      refine okTo hn (by omega) ⟨hw.1, by rw [ij.lf]; omega, fun y hy => ?_⟩
      have hy := getD_of hy
      refine ⟨fun a b c d => a = (bH es v B n).ord ∧ b = (bH es v B n).by' ∧ c = (bH es v B n).far ∧ d = [], cnd_dec (fun q => ⟨hvr.1, by rw [ij.lf]; omega, fun z hz => ?_⟩) (fun q => ?_), ?_⟩
      · have hz := getD_of hz
        have hbv := ij.bnd v hvr.1 hvr.2
        rw [wr (by omega) (by omega)]
        refine ⟨hw.1, by rw [ij.lf]; omega, hw.1, by rw [ij.lb]; omega, by omega, ?_⟩
        unfold bH
        rw [Int.toNat_natCast, if_pos (by rw [hy]; exact q), hz]
        exact ⟨rfl, rfl, rfl, rfl⟩
      · unfold bH
        rw [Int.toNat_natCast, if_neg (by rw [hy]; exact q)]
        exact ⟨rfl, rfl, rfl, rfl⟩
      · rintro _ _ _ _ ⟨rfl, rfl, rfl, rfl⟩
        rw [wr (by omega) (by omega)]
        exact ⟨⟨j + 1, by simp, by omega, by rw [es1], by rw [es1], by rw [es1], rfl⟩, by dsimp only; omega⟩
    · have : j = (outV es v).length := by omega
      subst this
      rw [wr (by omega) (by omega)]
      have e := bK_succ hv
      rw [bJ_all, ← e]
      have hl : k + 1 ≤ (bK g es s (k + 1)).ord.length := by
        have := bJ_le es v (bK g es s k) (outV es v).length
        rw [bJ_all, ← e] at this
        omega
      exact ⟨⟨k + 1, by simp, hl, rfl, rfl, rfl, rfl⟩, by dsimp only; omega⟩
  · have hk2 : k = (bK g es s k).ord.length := by omega
    have e := bK_done m h0 h1 hk2
    rw [e]; exact h
theorem okChosen {l : List Int} {n : Int} {R : Int → Prop} (hl : l.length ≤ 1000000) (hr : ∀ x ∈ l, 0 ≤ x ∧ x < n) (nd : l.Nodup) (h : R 0) : Ok150 l n R := by
  apply ok150
  unfold T150
  refine ⟨fun i => ∃ k : Nat, i = k ∧ k ≤ l.length, fun i => ((l.length : Int) - i).toNat, ⟨0, rfl, Nat.zero_le _⟩, ?_⟩
  rintro _ ⟨i, rfl, hi⟩
  refine cnd_dec (fun hlt => ⟨by omega, hlt, fun x hx => ?_⟩) fun _ => h
  rw [Int.toNat_natCast] at hx
  have hxr := hr x (List.mem_of_getElem? hx)
  refine cnd_dec (fun q => by omega) fun _ => cnd_dec (fun q => by omega) fun _ => ⟨fun k => ∃ a : Nat, k = a, fun k => ((i : Int) - k).toNat, ⟨0, rfl⟩, ?_⟩
  rintro _ ⟨k, rfl⟩
  refine cnd_dec (fun hlt2 => ⟨by omega, by omega, fun y hy => ⟨by omega, hlt, fun z hz => ?_⟩⟩) fun hlt2 => ?_
  · rw [Int.toNat_natCast] at hy hz
    rw [wr (by omega) (by omega)]
    exact cnd_eq (fun q => absurd q (nodup_get nd (by omega) hy hz)) fun _ => ⟨⟨k + 1, by simp⟩, by dsimp only; omega⟩
  · rw [wr (by omega) (by omega)]
    exact ⟨⟨i + 1, by simp, by omega⟩, by dsimp only; omega⟩
def subM (es : Es) (keep : List Int) : Es := keep.map fun i => es.getD i.toNat (0, 0)
theorem okSub {g : Int} {es : Es} {keep : List Int} {R : Int → Es → Int → Prop} (hl : keep.length ≤ 1000000) (hr : ∀ x ∈ keep, 0 ≤ x ∧ x < (es.length : Int)) (nd : keep.Nodup) (h : R g (subM es keep) 0) : Ok184 g es keep R := by
  apply ok184
  unfold T184
  refine okChosen hl hr nd (cnd_ne (fun q => absurd rfl q) fun _ => ⟨fun i a b => ∃ k : Nat, i = k ∧ k ≤ keep.length ∧ a = g ∧ b = subM es (keep.take k), fun i _ _ => ((keep.length : Int) - i).toNat, ⟨0, rfl, Nat.zero_le _, rfl, rfl⟩, ?_⟩)
  rintro _ _ _ ⟨k, rfl, hk, rfl, rfl⟩
  refine cnd_dec (fun hlt => ⟨by omega, hlt, fun x hx => ?_⟩) fun hlt => ?_
  · rw [Int.toNat_natCast] at hx
    have hxr := hr x (List.mem_of_getElem? hx)
    refine ⟨hxr.1, hxr.2, fun y hy => ⟨by simp [subM]; omega, ?_⟩⟩
    rw [wr (by omega) (by omega)]
    refine ⟨⟨k + 1, by simp, by omega, rfl, ?_⟩, by dsimp only; omega⟩
    unfold N.subM
    rw [List.take_add_one, hx, List.map_append]
    simp [List.getD, hy]
  · have : k = keep.length := by omega
    subst this
    rw [List.take_length]; exact h
theorem range_but (m e : Nat) (he : e < m) : (List.range m).filter (fun i => decide (i ≠ e)) = List.range e ++ (List.range (m - e - 1)).map fun i => e + 1 + i := by
  have a : m = e + (1 + (m - e - 1)) := by omega
  conv => lhs; rw [a]
  rw [List.range_add, List.range_add, List.filter_append, List.map_append, List.filter_append]
  have f1 : (List.range e).filter (fun i => decide (i ≠ e)) = List.range e := by
    rw [List.filter_eq_self]
    intro i hi
    have := List.mem_range.1 hi
    simp; omega
  have f2 : ((List.range 1).map fun x => e + x).filter (fun i => decide (i ≠ e)) = [] := by simp
  have f3 : (((List.range (m - e - 1)).map fun x => 1 + x).map fun x => e + x).filter (fun i => decide (i ≠ e)) = (List.range (m - e - 1)).map fun i => e + 1 + i := by
    rw [List.map_map, List.filter_eq_self.2]
    · apply List.map_congr_left
      intro i _
      simp only [Function.comp]; omega
    · intro x hx
      obtain ⟨i, _, rfl⟩ := List.mem_map.1 hx
      simp only [Function.comp, decide_eq_true_eq]; omega
  rw [f1, f2, f3]; rfl
def keepM (m e : Nat) : List Int := ((List.range m).filter fun i => decide (i ≠ e)).map fun i : Nat => (i : Int)
theorem sub_erase {es : Es} {e : Nat} (he : e < es.length) : subM es (keepM es.length e) = es.eraseIdx e := by
  unfold N.subM keepM
  rw [range_but _ _ he, List.map_append, List.map_append, List.map_map, List.map_map, List.map_map]
  apply List.ext_getElem?
  intro i
  rw [List.getElem?_eraseIdx]
  by_cases hi : i < e
  · rw [if_pos hi, List.getElem?_append_left (by simpa using hi)]
    have : es[i]? = some (es[i]'(by omega)) := List.getElem?_eq_getElem (by omega)
    simp [List.getElem?_range, hi, List.getD, this]
  · rw [if_neg hi, List.getElem?_append_right (by simp; omega)]
    simp only [List.length_map, List.length_range]
    by_cases h2 : i + 1 < es.length
    · have : es[i + 1]? = some (es[i + 1]'h2) := List.getElem?_eq_getElem h2
      rw [List.getElem?_map, List.getElem?_range (by omega), this]
      have e3 : e + 1 + (i - e) = i + 1 := by omega
      simp [List.getD, e3, this]
    · rw [List.getElem?_eq_none (by simp; omega), List.getElem?_eq_none (by omega)]
/-- How far the way round an edge is; less than nought: there is none. -/
def farE (g : Int) (es : Es) (e : Nat) : Int := (bfs g (es.eraseIdx e) (es.getD e (0, 0)).1).far.getD (es.getD e (0, 0)).2.toNat 0
def shortK (g : Int) (es : Es) : Nat → Int
  | 0 => 0
  | k + 1 => if 0 ≤ farE g es k ∧ (shortK g es k = 0 ∨ farE g es k + 1 < shortK g es k) then farE g es k + 1 else shortK g es k
theorem okShort {g : Int} {es : Es} {R : Int → Prop} (m : MayN g es) (h : R (shortK g es es.length)) : Ok94 g es R := by
  apply ok94
  unfold T94
  have m1 := m.g1
  have m3 := m.m
  refine ⟨fun b e => ∃ k : Nat, e = k ∧ k ≤ es.length ∧ b = shortK g es k, fun _ e => ((es.length : Int) - e).toNat, ⟨0, rfl, Nat.zero_le _, rfl⟩, ?_⟩
  rintro _ _ ⟨k, rfl, hk, rfl⟩
  refine cnd_dec (fun hlt => ?_) fun hlt => ?_
  · have hx : es[k]? = some (es.getD k (0, 0)) := by simp [List.getD, List.getElem?_eq_getElem (show k < es.length by omega)]
    have hxr := m.e k _ hx
    have m' := may_erase m k
    have i := bfs_BI m' hxr.1.1 hxr.1.2
    have ib := i.bnd _ hxr.2.1 hxr.2.2
    have il := i.len
    have ef : (bfs g (es.eraseIdx k) (es.getD k (0, 0)).1).far.getD (es.getD k (0, 0)).2.toNat 0 = farE g es k := rfl
    refine ⟨fun _ _ b => b = shortK g es (k + 1), ?_, ?_⟩
    · refine ⟨fun keep i => ∃ a : Nat, i = a ∧ a ≤ es.length ∧ keep = keepM a k, fun _ i => ((es.length : Int) - i).toNat, ⟨0, rfl, Nat.zero_le _, rfl⟩, ?_⟩
      rintro _ _ ⟨a, rfl, ha, rfl⟩
      have kl : (keepM a k).length ≤ a := by
        unfold keepM
        rw [List.length_map]
        refine Nat.le_trans (List.length_filter_le _ _) (by simp)
      refine cnd_dec (fun hlt2 => ?_) fun hlt2 => ?_
      · refine ⟨fun l => l = keepM (a + 1) k, ?_, ?_⟩
        · have e1 : keepM (a + 1) k = if a = k then keepM a k else keepM a k ++ [(a : Int)] := by
            unfold keepM
            rw [List.range_succ, List.filter_append, List.map_append]
            by_cases q : a = k
            · simp [q]
            · simp [q, List.filter_cons]
          refine cnd_ne (fun q => ⟨by omega, ?_⟩) fun q => ?_
          · rw [e1, if_neg (by omega)]
          · rw [e1, if_pos (by omega)]
        · rintro _ rfl
          rw [wr (by omega) (by omega)]
          exact ⟨⟨a + 1, by simp, by omega, rfl⟩, by dsimp only; omega⟩
      · have : a = es.length := by omega
        subst this
        have hkr : ∀ x ∈ keepM es.length k, 0 ≤ x ∧ x < (es.length : Int) := fun x hx => by
          obtain ⟨y, hy, rfl⟩ := List.mem_map.1 hx
          have := List.mem_range.1 (List.mem_filter.1 hy).1
          omega
        have hknd : (keepM es.length k).Nodup := by
          unfold keepM
          exact List.pairwise_map.2 (List.Pairwise.imp (fun h e => h (by omega)) (List.Pairwise.filter _ List.nodup_range))
        refine okSub (by omega) hkr hknd ?_
        rw [sub_erase (by omega)]
        refine ⟨by omega, hlt, fun x hx2 => ?_⟩
        rw [Int.toNat_natCast, hx] at hx2
        obtain rfl := Option.some.inj hx2
        refine okBreadthR m' hxr.1.1 hxr.1.2 ⟨hxr.2.1, by rw [i.lf]; omega, fun y hy => ?_⟩
        have hy := getD_of hy
        rw [ef] at hy ib
        subst hy
        rw [wr (x := farE g es k + 1) (by omega) (by omega)]
        refine cnd_dec (fun q => cnd_eq (fun q2 => ?_) fun q2 => ?_) fun q => ?_
        · rw [shortK, if_pos ⟨q, .inl q2⟩]
        · refine ⟨fun b => b = shortK g es (k + 1), cnd_dec (fun q3 => ?_) (fun q3 => ?_), ?_⟩
          · rw [shortK, if_pos ⟨q, .inr q3⟩]
          · rw [shortK, if_neg (fun z => z.2.elim q2 q3)]
          · rintro _ rfl
            rw [wr (by omega) (by omega)]
            exact ⟨⟨k + 1, by simp, by omega, rfl⟩, by dsimp only; omega⟩
        · rw [shortK, if_neg (fun z => q z.1)]
    · rintro _ _ _ rfl
      rw [wr (by omega) (by omega)]
      exact ⟨⟨k + 1, by simp, by omega, rfl⟩, by dsimp only; omega⟩
  · have : k = es.length := by omega
    subst this
    exact h

/-! ### The law -/
structure RingOK (es : Es) (l : List Int) : Prop where
  c : ∃ u, Chain es l u u
  half : HalfIn es l
  edges : (edgesOf l).Nodup
  nodes : (l.map fun x => fromH es x.toNat).Nodup
theorem farE_loop {g : Int} {es : Es} {k : Nat} (m : MayN g es) (hk : k < es.length) (h : (es.getD k (0, 0)).1 = (es.getD k (0, 0)).2) : farE g es k = 0 := by
  have hx : es[k]? = some (es.getD k (0, 0)) := by simp [List.getD, List.getElem?_eq_getElem hk]
  have hxr := m.e k _ hx
  unfold farE
  rw [← h]
  exact (bfs_BI (may_erase m k) hxr.1.1 hxr.1.2).fs
theorem farE_ge {g : Int} {es : Es} {k : Nat} (m : MayN g es) (hk : k < es.length) (h : (es.getD k (0, 0)).1 ≠ (es.getD k (0, 0)).2) (h2 : 0 ≤ farE g es k) : 1 ≤ farE g es k := by
  have hx : es[k]? = some (es.getD k (0, 0)) := by simp [List.getD, List.getElem?_eq_getElem hk]
  have hxr := m.e k _ hx
  have i := bfs_BI (may_erase m k) hxr.1.1 hxr.1.2
  have ht := (i.mem _ hxr.2.1 hxr.2.2).1 h2
  have a := i.farB ht
  have b : farN (bfs g (es.eraseIdx k) (es.getD k (0, 0)).1) (es.getD k (0, 0)).2 ≠ 0 := fun z => h ((i.far0 ht).1 z).symm
  have : farE g es k = (farN (bfs g (es.eraseIdx k) (es.getD k (0, 0)).1) (es.getD k (0, 0)).2 : Int) := a.1.symm
  omega
theorem shortK_nonneg {g : Int} {es : Es} : ∀ k, 0 ≤ shortK g es k
  | 0 => Int.le_refl _
  | k + 1 => by
    have := shortK_nonneg (g := g) (es := es) k
    rw [shortK]
    split <;> omega
/-- A cycle of the way round an edge. -/
theorem cycle_ok {g : Int} {es : Es} {k : Nat} (m : MayN g es) (hk : k < es.length) (h : (es.getD k (0, 0)).1 ≠ (es.getD k (0, 0)).2) (hw : wayM g es k (es.getD k (0, 0)).2 (es.getD k (0, 0)).1 ≠ []) :
    RingOK es (((2 * k : Nat) : Int) :: wayM g es k (es.getD k (0, 0)).2 (es.getD k (0, 0)).1) := by
  have hx : es[k]? = some (es.getD k (0, 0)) := by simp [List.getD, List.getElem?_eq_getElem hk]
  have hxr := m.e k _ hx
  obtain ⟨f1, t1, _, _⟩ := half_of hx
  have w := wayM_of hk m hxr.2.1 hxr.2.2 hxr.1.1 hxr.1.2 h
  refine ⟨⟨_, .cons (2 * k) (by omega) (by rw [t1, f1]; exact w.chain hw)⟩, fun x hx => ?_, w.edges, ?_⟩
  · rcases List.mem_cons.1 hx with rfl | hx
    · exact ⟨2 * k, rfl, by omega⟩
    · exact w.half x hx
  · rw [List.map_cons, List.nodup_cons]
    refine ⟨fun hm => ?_, (w.nodes hw).1⟩
    obtain ⟨y, hy, ey⟩ := List.mem_map.1 hm
    rw [Int.toNat_natCast, f1] at ey
    exact (w.nodes hw).2 y hy ey
theorem loop_ok {es : Es} {k : Nat} (hk : k < es.length) (h : (es.getD k (0, 0)).1 = (es.getD k (0, 0)).2) : RingOK es [((2 * k : Nat) : Int)] := by
  have hx : es[k]? = some (es.getD k (0, 0)) := by simp [List.getD, List.getElem?_eq_getElem hk]
  obtain ⟨f1, t1, _, _⟩ := half_of hx
  refine ⟨⟨(es.getD k (0, 0)).1, ?_⟩, fun x hx => ⟨2 * k, by simpa using hx, by omega⟩, by simp [edgesOf], by simp⟩
  have := Chain.one (es := es) (h := 2 * k) (by omega)
  rw [f1, t1, ← h] at this
  exact this
/-- How long the way round is. -/
theorem way_len {g : Int} {es : Es} {k : Nat} (m : MayN g es) (hk : k < es.length) (h : (es.getD k (0, 0)).1 ≠ (es.getD k (0, 0)).2) :
    (wayM g es k (es.getD k (0, 0)).2 (es.getD k (0, 0)).1 ≠ [] ↔ 0 ≤ farE g es k) ∧ (wayM g es k (es.getD k (0, 0)).2 (es.getD k (0, 0)).1 ≠ [] → ((wayM g es k (es.getD k (0, 0)).2 (es.getD k (0, 0)).1).length : Int) = farE g es k) := by
  have hx : es[k]? = some (es.getD k (0, 0)) := by simp [List.getD, List.getElem?_eq_getElem hk]
  have hxr := m.e k _ hx
  have m' := may_erase m k
  have w := wayM_of hk m hxr.2.1 hxr.2.2 hxr.1.1 hxr.1.2 h
  have no := bfs_no m' hxr.1.1 hxr.1.2 hxr.2.1 hxr.2.2
  have ln : wayM g es k (es.getD k (0, 0)).2 (es.getD k (0, 0)).1 ≠ [] → ((wayM g es k (es.getD k (0, 0)).2 (es.getD k (0, 0)).1).length : Int) = farE g es k := fun z => by
    have hl := w.len z
    have hr : Reach (es.eraseIdx k) (es.getD k (0, 0)).2 (es.getD k (0, 0)).1 := by
      apply (bfs_no m' hxr.2.1 hxr.2.2 hxr.1.1 hxr.1.2).1
      rw [← hl]; omega
    rw [hl]
    exact bfs_sym m' hxr.1.1 hxr.1.2 hxr.2.1 hxr.2.2 hr.symm |>.trans rfl
  refine ⟨⟨fun z => by rw [← ln z]; omega, fun z e => ?_⟩, ln⟩
  exact w.none' e (no.1 z).symm
/-- Step by step: the shortest so far, and its length. -/
theorem ring_short {g : Int} {es : Es} (m : MayN g es) : ∀ k, k ≤ es.length →
    (∀ best, rK g es k = .inl best → (best.length : Int) = shortK g es k ∧ (best ≠ [] → RingOK es best) ∧ ∀ j, j < k → (es.getD j (0, 0)).1 ≠ (es.getD j (0, 0)).2) ∧
    (∀ l, rK g es k = .inr l → (l.length : Int) = 1 ∧ shortK g es k = 1 ∧ RingOK es l)
  | 0, _ => by
    refine ⟨fun best h => ?_, fun l h => by cases h⟩
    have : ([] : List Int) = best := Sum.inl.inj h
    subst this
    exact ⟨rfl, fun z => absurd rfl z, fun j hj => by omega⟩
  | k + 1, hk => by
    obtain ⟨h1, h2⟩ := ring_short m k (by omega)
    have sn := shortK_nonneg (g := g) (es := es) k
    cases hr : rK g es k with
    | inr l =>
      obtain ⟨a, b, c⟩ := h2 l hr
      have e : rK g es (k + 1) = .inr l := by rw [rK, hr]
      refine ⟨fun best h => (by rw [e] at h; cases h), fun l' h => ?_⟩
      rw [e] at h
      obtain rfl := Sum.inr.inj h
      refine ⟨a, ?_, c⟩
      rw [shortK, b]
      split
      · rename_i q; omega
      · rfl
    | inl best =>
      obtain ⟨a, b, c⟩ := h1 best hr
      have e : rK g es (k + 1) = rStep g es k best := by rw [rK, hr]
      rw [e]
      unfold rStep
      by_cases q : (es.getD k (0, 0)).1 = (es.getD k (0, 0)).2
      · rw [if_pos q]
        refine ⟨fun best' h => (by cases h), fun l h => ?_⟩
        obtain rfl := Sum.inr.inj h
        have f0 := farE_loop m (by omega) q
        have ge : shortK g es k = 0 ∨ 2 ≤ shortK g es k := by
          -- without loops nothing is shorter than two
          have : ∀ j, j ≤ k → shortK g es j = 0 ∨ 2 ≤ shortK g es j := fun j => by
            induction j with
            | zero => exact fun _ => .inl rfl
            | succ j ih =>
              intro hj
              rw [shortK]
              split
              · rename_i z
                have := farE_ge m (by omega) (c j (by omega)) z.1
                right; omega
              · exact ih (by omega)
          exact this k (Nat.le_refl _)
        refine ⟨rfl, ?_, loop_ok (by omega) q⟩
        rw [shortK, f0, if_pos ⟨Int.le_refl _, by omega⟩]; rfl
      · rw [if_neg q]
        have wl := way_len m (by omega) q
        have cyc := cycle_ok (k := k) m (by omega) q
        generalize wayM g es k (es.getD k (0, 0)).2 (es.getD k (0, 0)).1 = way at *
        have noloop : ∀ j, j < k + 1 → (es.getD j (0, 0)).1 ≠ (es.getD j (0, 0)).2 := fun j hj => by
          by_cases z : j = k
          · subst z; exact q
          · exact c j (by omega)
        have bz : best.isEmpty = true ↔ shortK g es k = 0 := by
          rw [List.isEmpty_iff]
          constructor
          · intro z; rw [z] at a; simp at a; omega
          · intro z; rw [z] at a; exact List.eq_nil_of_length_eq_zero (by omega)
        by_cases z : way.isEmpty = false ∧ (best.isEmpty = true ∨ way.length + 1 < best.length)
        · rw [if_pos z]
          have wne : way ≠ [] := fun y => by rw [y] at z; cases z.1
          have fl := wl.2 wne
          refine ⟨fun best' h => ?_, fun l h => by cases h⟩
          obtain rfl := Sum.inl.inj h
          refine ⟨?_, fun _ => cyc wne, noloop⟩
          rw [shortK, if_pos ⟨wl.1.1 wne, z.2.imp bz.1 fun y => by omega⟩]
          simp only [List.length_cons]; omega
        · rw [if_neg z]
          refine ⟨fun best' h => ?_, fun l h => by cases h⟩
          obtain rfl := Sum.inl.inj h
          refine ⟨?_, b, noloop⟩
          rw [shortK, if_neg]
          · exact a
          · rintro ⟨y1, y2⟩
            have wne := wl.1.2 y1
            have fl := wl.2 wne
            refine z ⟨by cases way with | nil => exact absurd rfl wne | cons => rfl, y2.imp bz.2 fun y => by omega⟩
theorem okRingL {g : Int} {es : Es} {R : Bool → Prop} (h : R true) : Ok19 g es R := by
  apply ok19
  unfold T19
  refine okBegunW (cnd_not (fun q => by cases q) fun _ => ⟨es.length ≤ 60 ∨ mayB g es = false, cnd_dec (fun q => okMayR (cnd_b (fun _ => h) fun q2 => .inr q2)) fun q => .inl (by omega), fun hsm => ?_⟩)
  refine okRing (fun q => okMayR (cnd_not (fun _ => cnd_eq (fun _ => h) fun q2 => absurd rfl q2) fun q2 => absurd q2 (by rw [q]; decide))) fun q => okMayR (cnd_not (fun q2 => absurd q2 (by rw [q]; decide)) fun _ => ?_)
  have m := mayN q
  refine okShort m ?_
  obtain ⟨h1, h2⟩ := ring_short m es.length (Nat.le_refl _)
  have fin : ∀ l : List Int, (l.length : Int) = shortK g es es.length → shortK g es es.length ≠ 0 → RingOK es l → (∃ Jv_2 : Prop,
        ( cnd ((0 : Int) == (0 : Int))
           (cnd (((l.length : Nat) : Int) == shortK g es es.length)
             (Ok91 g es l true (fun r5 =>
             cnd r5
               (Ok92 g es l true (fun r6 =>
               R r6))
               (Jv_2)))
             (Jv_2))
           (Jv_2)) ∧
        (Jv_2 →
        R false)) := fun l e1 e2 ok => by
    obtain ⟨u, c⟩ := ok.c
    have ll : l.length ≤ 1000000 := by
      have hb : l.length ≤ es.length := by
        have := nodup_bound es.length (edgesOf l) ok.edges fun x hx => by
          obtain ⟨y, hy, rfl⟩ := List.mem_map.1 hx
          obtain ⟨n, rfl, hn⟩ := ok.half y hy
          rw [Int.toNat_natCast]; omega
        simpa [edgesOf] using this
      have := m.m
      omega
    exact ⟨False, cnd_eq (fun _ => cnd_eq (fun _ => okWalkT m c ll (cnd_b (fun _ => okOnceT m ok.half ll ok.edges (fun _ => ok.nodes) h) fun q => by cases q)) fun q => absurd e1 q) fun q => absurd rfl q, False.elim⟩
  cases hr : rK g es es.length with
  | inr l =>
    have e : ringM g es = (l, 0) := by unfold ringM; rw [hr]
    rw [e]
    obtain ⟨a, b, c⟩ := h2 l hr
    exact cnd_eq (fun q => absurd q (by omega)) fun q => fin l (by omega) q c
  | inl best =>
    obtain ⟨a, b, _⟩ := h1 best hr
    by_cases z : best = []
    · have e : ringM g es = ([], 14) := by unfold ringM; rw [hr, z]; rfl
      rw [e]
      rw [z] at a
      exact cnd_eq (fun _ => cnd_eq (fun _ => h) fun q => absurd rfl q) fun q => absurd (by simpa using a.symm) q
    · have e : ringM g es = (best, 0) := by
        unfold ringM
        rw [hr]
        cases best with
        | nil => exact absurd rfl z
        | cons => rfl
      rw [e]
      have : 0 < best.length := by cases best with
        | nil => exact absurd rfl z
        | cons => simp
      exact cnd_eq (fun q => absurd q (by omega)) fun q => fin best a q (b z)
end Go.Proofs.Ytmcloipjlihhlaa.N
namespace Go.Proofs.Ytmcloipjlihhlaa
open Go.X in
theorem WalkRing_ok {g : Int} {es : List (Int × Int)} {h : Heap} {a0 : Option Addr} {l0 c0 : Nat} (hp : Hp h [Ck.vw eP a0 l0 c0 es]) :
    CallsH Try.prog 19 #[.agg #[.int .i64 g, .slice a0 l0 c0]] h fun v h' => Fr [] h h' ∧ v = .bool true :=
  (N.okRingL (R := fun b => b = true) rfl h _ _ _ hp).mono fun _ _ ⟨_, Y, e, q⟩ => ⟨Y.fr, q ▸ e⟩
end Go.Proofs.Ytmcloipjlihhlaa
