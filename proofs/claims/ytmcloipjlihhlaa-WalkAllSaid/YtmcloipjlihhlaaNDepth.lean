/- Depth first: what the walk's Low holds when all is done. Conditions: none. -/
import Derived.Test.YtmcloipjlihhlaaNDfs
set_option linter.unusedVariables false
set_option linter.unusedSimpArgs false
namespace Go.Proofs.Ytmcloipjlihhlaa.N
open Go.X Go.Proofs.Ytmcloipjlihhlaa
set_option maxRecDepth 100000

theorem lowV_congr {es : Es} {v : Int} {by1 by2 pl1 pl2 lo1 lo2 : List Int} (hv : by1.getD v.toNat 0 = by2.getD v.toNat 0) (hp : pl1.getD v.toNat 0 = pl2.getD v.toNat 0)
    (h : ∀ x ∈ outV es v, by1.getD (toH es x.toNat).toNat 0 = by2.getD (toH es x.toNat).toNat 0 ∧ pl1.getD (toH es x.toNat).toNat 0 = pl2.getD (toH es x.toNat).toNat 0 ∧ (by1.getD (toH es x.toNat).toNat 0 = x → lo1.getD (toH es x.toNat).toNat 0 = lo2.getD (toH es x.toNat).toNat 0)) :
    lowV es by1 pl1 lo1 v = lowV es by2 pl2 lo2 v := by
  unfold lowV
  rw [hp]
  have key : ∀ (l : List Int) (acc : Int), (∀ x ∈ l, x ∈ outV es v) → l.foldl (lowStep es by1 pl1 lo1 v) acc = l.foldl (lowStep es by2 pl2 lo2 v) acc := by
    intro l
    induction l with
    | nil => intro acc _; rfl
    | cons x l ih =>
      intro acc hl
      have e : lowStep es by1 pl1 lo1 v acc x = lowStep es by2 pl2 lo2 v acc x := by
        obtain ⟨h1, h2, h3⟩ := h x (hl x (by simp))
        unfold lowStep
        rw [hv, ← h1, ← h2]
        by_cases q : by1.getD (toH es x.toNat).toNat 0 = x
        · rw [if_pos q, if_pos q, h3 q]
        · rw [if_neg q, if_neg q]
      rw [List.foldl_cons, List.foldl_cons, e]
      exact ih _ fun y hy => hl y (by simp [hy])
  exact key _ _ fun _ hx => hx
structure DX (g : Int) (es : Es) (s : Int) (d : DS) : Prop where
  par : ∀ (i : Nat) (w : Int) (h : Nat), d.t.ord[i]? = some w → d.t.by'.getD w.toNat 0 = (h : Int) → ∃ j, j < i ∧ d.t.ord[j]? = some (fromH es h)
  fix : ∀ v ∈ d.t.ord, v ∉ d.path → d.low.getD v.toNat 0 = lowV es d.t.by' d.place d.low v
  out : ∀ v : Int, 0 ≤ v → v < g → v ∉ d.t.ord → d.low.getD v.toNat 0 = -1
theorem nodup_at {l : List Int} (nd : l.Nodup) {i j : Nat} {x : Int} (hi : l[i]? = some x) (hj : l[j]? = some x) : i = j := by
  obtain ⟨a, e1⟩ := List.getElem?_eq_some_iff.1 hi
  obtain ⟨b, e2⟩ := List.getElem?_eq_some_iff.1 hj
  rcases Nat.lt_trichotomy i j with h | h | h
  · exact absurd (e1.trans e2.symm) (List.pairwise_iff_getElem.1 nd i j a b h)
  · exact h
  · exact absurd (e2.trans e1.symm) (List.pairwise_iff_getElem.1 nd j i b a h)
section
variable {g s : Int} {es : Es} {d : DS}
/-- A node's way up is not from itself. -/
theorem DX.up_ne (i : DV g es s d) (x : DX g es s d) {v : Int} (hv : v ∈ d.t.ord) {n : Nat} (hb : d.t.by'.getD v.toNat 0 = (n : Int)) : fromH es n ≠ v := fun e => by
  obtain ⟨k, hk⟩ := List.mem_iff_getElem?.1 hv
  obtain ⟨j, hj, hj2⟩ := x.par k v n hk hb
  rw [e] at hj2
  have := nodup_at i.bi.nd hk hj2
  omega
theorem setD_ne {l : List Int} {a b : Int} {x : Int} (ha : 0 ≤ a) (hb : 0 ≤ b) (h : a ≠ b) : (l.set a.toNat x).getD b.toNat 0 = l.getD b.toNat 0 := by
  rw [List.getD_eq_getElem?_getD, List.getD_eq_getElem?_getD, List.getElem?_set_ne (by omega)]
theorem setD_eq {l : List Int} {a : Int} {x : Int} (h : a.toNat < l.length) : (l.set a.toNat x).getD a.toNat 0 = x := by
  rw [List.getD_eq_getElem?_getD, List.getElem?_set_self h]; rfl
theorem DX.pop {v : Int} {p : List Int} (m : MayN g es) (i : DV g es s d) (x : DX g es s d) (hp : d.path = p ++ [v]) : DX g es s (dPop es v p d) := by
  have hv : v ∈ d.t.ord := i.pm v (by rw [hp]; simp)
  have hvr := i.bi.rng v hv
  have hvl : v.toNat < d.low.length := by rw [i.ll]; omega
  refine ⟨x.par, fun u hu hup => ?_, fun u h0 h1 hu => ?_⟩
  · have hu : u ∈ d.t.ord := hu
    have hup : u ∉ p := hup
    have hur := i.bi.rng u hu
    show (d.low.set v.toNat (lowV es d.t.by' d.place d.low v)).getD u.toNat 0 = lowV es d.t.by' d.place (d.low.set v.toNat (lowV es d.t.by' d.place d.low v)) u
    generalize hL : lowV es d.t.by' d.place d.low v = L
    by_cases e : u = v
    · subst e
      rw [setD_eq hvl, ← hL]
      refine lowV_congr rfl rfl fun y hy => ⟨rfl, rfl, fun hb => ?_⟩
      obtain ⟨n, rfl, hn, hf⟩ := outV_mem hvr.1 hy
      rw [Int.toNat_natCast] at hb ⊢
      have hw := toH_in m hn
      refine (setD_ne hvr.1 hw.1 fun z => ?_).symm
      rw [← z] at hb
      exact x.up_ne i hv hb hf
    · rw [setD_ne hvr.1 hur.1 fun z => e z.symm]
      have hnp : u ∉ d.path := by rw [hp, mem_path]; exact fun z => z.elim hup e
      rw [x.fix u hu hnp]
      refine lowV_congr rfl rfl fun y hy => ⟨rfl, rfl, fun hb => ?_⟩
      obtain ⟨n, rfl, hn, hf⟩ := outV_mem hur.1 hy
      rw [Int.toNat_natCast] at hb ⊢
      have hw := toH_in m hn
      refine (setD_ne hvr.1 hw.1 fun z => ?_).symm
      rw [← z] at hb
      -- then u stands on the path, below v
      rcases List.eq_nil_or_concat p with rfl | ⟨p', y, rfl⟩
      · rcases i.p0 with q | q
        · rw [hp] at q; cases q
        · rw [hp] at q
          have : v = s := by simpa using q
          subst this
          rw [i.bi.bs] at hb; omega
      · rw [List.concat_eq_append] at hp hup
        have e1 : d.path[p'.length]? = some y := by rw [hp, List.append_assoc, List.getElem?_append_right (Nat.le_refl _)]; simp
        have e2 : d.path[p'.length + 1]? = some v := by rw [hp, List.append_assoc, List.getElem?_append_right (by omega)]; simp
        obtain ⟨_, h, hb2, _, hf2, _⟩ := i.chain p'.length y v e1 e2
        have : h = n := by omega
        subst this
        exact hup (by rw [← hf, hf2]; simp)
  · have hu : u ∉ d.t.ord := hu
    show (d.low.set v.toNat _).getD u.toNat 0 = -1
    rw [setD_ne hvr.1 h0 fun z => hu (z ▸ hv)]
    exact x.out u h0 h1 hu
theorem DX.old {v : Int} (x : DX g es s d) : DX g es s (dOld v d) := ⟨x.par, x.fix, x.out⟩
theorem DX.new {v : Int} {p : List Int} {h : Nat} (m : MayN g es) (i : DV g es s d) (x : DX g es s d) (hp : d.path = p ++ [v]) (nh : NextH g es v d h) (hw : d.t.far.getD (toH es h).toNat 0 < 0) : DX g es s (dNew es v h d) := by
  have hv : v ∈ d.t.ord := i.pm v (by rw [hp]; simp)
  have hwr := toH_in m nh.hh
  have hwo : toH es h ∉ d.t.ord := fun z => by have := (i.bi.mem _ hwr.1 hwr.2).2 z; omega
  have hwl : (toH es h).toNat < d.t.by'.length := by rw [i.bi.lb]; omega
  obtain ⟨w, hwe⟩ : ∃ w, w = toH es h := ⟨_, rfl⟩
  rw [← hwe] at hwr hwo hwl hw
  have e0 : dNew es v (h : Int) d = ⟨⟨d.t.ord ++ [w], d.t.by'.set w.toNat h, d.t.far.set w.toNat (d.t.far.getD v.toNat 0 + 1)⟩, d.place.set w.toNat d.t.ord.length, d.low, d.next.set v.toNat (d.next.getD v.toNat 0 + 1), d.path ++ [w]⟩ := by
    unfold dNew; rw [Int.toNat_natCast, hwe]
  rw [e0]
  refine ⟨fun k u n hk hb => ?_, fun u hu hup => ?_, fun u h0 h1 hu => ?_⟩
  · dsimp only at hk hb ⊢
    by_cases q : k < d.t.ord.length
    · rw [List.getElem?_append_left q] at hk
      have hum := List.mem_of_getElem? hk
      have hur := i.bi.rng u hum
      rw [setD_ne hwr.1 hur.1 fun z => hwo (z ▸ hum)] at hb
      obtain ⟨j, hj, hj2⟩ := x.par k u n hk hb
      exact ⟨j, hj, by rw [List.getElem?_append_left (by omega)]; exact hj2⟩
    · rw [List.getElem?_append_right (by omega)] at hk
      have hlt := (List.getElem?_eq_some_iff.1 hk).1
      simp at hlt
      have ek : k = d.t.ord.length := by omega
      subst ek
      have : u = w := by simpa using hk.symm
      subst this
      rw [setD_eq hwl] at hb
      have : n = h := by omega
      subst this
      rw [nh.hf]
      obtain ⟨j, hj⟩ := List.mem_iff_getElem?.1 hv
      have hjl := (List.getElem?_eq_some_iff.1 hj).1
      exact ⟨j, hjl, by rw [List.getElem?_append_left hjl]; exact hj⟩
  · dsimp only at hu hup ⊢
    have hnw : u ≠ w := fun z => hup (by rw [z]; simp)
    have huo : u ∈ d.t.ord := by
      rcases List.mem_append.1 hu with z | z
      · exact z
      · exact absurd (List.mem_singleton.1 z) hnw
    have hnp : u ∉ d.path := fun z => hup (by simp [z])
    have hur := i.bi.rng u huo
    rw [x.fix u huo hnp]
    refine lowV_congr (setD_ne hwr.1 hur.1 hnw.symm).symm (setD_ne hwr.1 hur.1 hnw.symm).symm fun y hy => ?_
    obtain ⟨j, hj⟩ := List.mem_iff_getElem?.1 hy
    obtain ⟨n, rfl, hn, hf⟩ := outV_mem hur.1 hy
    have hjl := (List.getElem?_eq_some_iff.1 hj).1
    have hto := (i.rel u huo j n (by rw [i.fin u huo hnp]; omega) hj).1
    rw [Int.toNat_natCast]
    have htr := toH_in m hn
    have hne : w ≠ toH es n := fun z => hwo (z ▸ hto)
    exact ⟨(setD_ne hwr.1 htr.1 hne).symm, (setD_ne hwr.1 htr.1 hne).symm, fun _ => rfl⟩
  · dsimp only at hu ⊢
    exact x.out u h0 h1 fun z => hu (by simp [z])
end
theorem DX.start {g s : Int} {es : Es} (h0 : 0 ≤ s) (h1 : s < g) : DX g es s (dStart g s) := by
  have i := DV.start (es := es) h0 h1
  refine ⟨fun k w h hk hb => ?_, fun v hv hnp => ?_, fun v a b _ => ?_⟩
  · have hm := List.mem_of_getElem? hk
    have : w = s := by simpa [dStart, bStart] using hm
    subst this
    rw [i.bi.bs] at hb; omega
  · have : v = s := by simpa [dStart, bStart] using hv
    exact absurd (by simp [dStart, this]) hnp
  · show (List.replicate g.toNat (-1 : Int)).getD v.toNat 0 = -1
    exact getD_rep (by omega)
theorem dK_DX {g s : Int} {es : Es} (m : MayN g es) (h0 : 0 ≤ s) (h1 : s < g) : ∀ k, DX g es s (dK g es s k)
  | 0 => DX.start h0 h1
  | k + 1 => by
    have i := dK_DV m h0 h1 k
    have x := dK_DX m h0 h1 k
    by_cases hne : (dK g es s k).path = []
    · rw [dK, dStep_nil hne]; exact x
    · obtain ⟨p, v, hp⟩ : ∃ p v, (dK g es s k).path = p ++ [v] := ⟨_, _, (List.dropLast_concat_getLast hne).symm⟩
      rw [dK]
      by_cases hn : (dK g es s k).next.getD v.toNat 0 = (outV es v).length
      · rw [dStep_pop hp hn]; exact x.pop m i hp
      · obtain ⟨h, nh⟩ := i.next hp hn
        by_cases hw : (dK g es s k).t.far.getD (toH es h).toNat 0 < 0
        · rw [dStep_new hp hn nh hw]; exact x.new m i hp nh hw
        · rw [dStep_old hp hn nh hw]; exact x.old
theorem dfs_DX {g s : Int} {es : Es} (m : MayN g es) (h0 : 0 ≤ s) (h1 : s < g) : DX g es s (dfs g es s) := dK_DX m h0 h1 _
/-- How far the end of the path is: as long as the path. -/
theorem path_far {g s : Int} {es : Es} {d : DS} (i : DV g es s d) : ∀ (k : Nat) (v : Int), d.path[k]? = some v → d.t.far.getD v.toNat 0 = k
  | 0, v, h => by
    rcases i.p0 with q | q
    · rw [q] at h; cases h
    · rw [h] at q
      have : v = s := Option.some.inj q
      subst this
      exact i.bi.fs
  | k + 1, v, h => by
    have hk := (List.getElem?_eq_some_iff.1 h).1
    have e := List.getElem?_eq_getElem (show k < d.path.length by omega)
    obtain ⟨hs, n, hb, _, hf, _⟩ := i.chain k _ v e h
    have hv := i.pm v (List.mem_of_getElem? h)
    obtain ⟨n', hb', _, _, _, h5⟩ := i.bi.tree v hv hs
    have : n' = n := by omega
    subst this
    have := path_far i k _ e
    rw [hf, this] at h5
    omega
end Go.Proofs.Ytmcloipjlihhlaa.N
