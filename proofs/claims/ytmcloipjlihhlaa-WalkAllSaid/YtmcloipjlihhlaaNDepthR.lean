/- The document's walk depth first is the walk's. Conditions: none. -/
import Derived.Test.YtmcloipjlihhlaaNDepth
import Derived.Test.YtmcloipjlihhlaaTWalkA
import Derived.Test.YtmcloipjlihhlaaNRingL
set_option linter.unusedVariables false
set_option linter.unusedSimpArgs false
namespace Go.Proofs.Ytmcloipjlihhlaa.N
open Go.X Go.Proofs.Ytmcloipjlihhlaa
set_option maxRecDepth 100000

theorem list_eq_getD {a b : List Int} (h : a.length = b.length) (e : ∀ i, i < a.length → a.getD i 0 = b.getD i 0) : a = b := by
  apply List.ext_getElem h
  intro i h1 h2
  have := e i h1
  rw [List.getD_eq_getElem?_getD, List.getD_eq_getElem?_getD, List.getElem?_eq_getElem h1, List.getElem?_eq_getElem h2] at this
  exact this
theorem getD_of'' {l : List Int} {i : Nat} {x : Int} (h : l[i]? = some x) : l.getD i 0 = x := by simp [List.getD_eq_getElem?_getD, h]
/-- One half-edge for the document's Low. -/
theorem doc_step {g s : Int} {es : Es} {d : DS} (i : DV g es s d) (x : DX g es s d) {v : Int} (hv : v ∈ d.t.ord) {n : Nat} (hf : fromH es n = v) (hb : 0 ≤ d.t.by'.getD v.toNat 0) :
    ((n : Int) = mateI (d.t.by'.getD v.toNat 0)) ↔ Int.tdiv (n : Int) 2 = Int.tdiv (d.t.by'.getD v.toNat 0) 2 := by
  obtain ⟨k, hk⟩ : ∃ k : Nat, d.t.by'.getD v.toNat 0 = k := ⟨_, (Int.toNat_of_nonneg hb).symm⟩
  rw [hk]
  have hne := x.up_ne i hv hk
  have hs : v ≠ s := fun e => by subst e; rw [i.bi.bs] at hk; omega
  obtain ⟨k', hk', _, hto, _, _⟩ := i.bi.tree v hv hs
  have : k' = k := by omega
  subst this
  have e1 : Int.tdiv (n : Int) 2 = ((n / 2 : Nat) : Int) := rfl
  have e2 : Int.tdiv (k' : Int) 2 = ((k' / 2 : Nat) : Int) := rfl
  rw [e1, e2]
  unfold mateI
  rw [Int.toNat_natCast]
  have md := mate_div k'
  constructor
  · intro h
    have : n = mate k' := by omega
    rw [this, md]
  · intro h
    have h' : n / 2 = k' / 2 := by omega
    have hnk : n ≠ k' := fun z => by subst z; exact hne hf
    have mm : mate k' ≠ k' := by unfold mate; split <;> omega
    omega
theorem okDepthR {g s : Int} {es : Es} {R : List Int → List Int → List Int → List Int → Prop} (m : MayN g es) (h0 : 0 ≤ s) (h1 : s < g) (h : R (dfs g es s).t.ord (dfs g es s).t.by' (dfs g es s).t.far (dfs g es s).low) : Ok85 g es s R := by
  apply ok85
  unfold T85
  have m0 := m.g0
  have m2 := m.g1
  have m3 := m.m
  refine ⟨fun a b c e => a = [s] ∧ b = List.replicate g.toNat (-1) ∧ c = List.replicate g.toNat (-1) ∧ e = List.replicate g.toNat (-1), okBlank m0 (by omega) (okBlank m0 (by omega) (okBlank m0 (by omega) ⟨rfl, rfl, rfl, rfl⟩)), ?_⟩
  rintro _ _ _ _ ⟨rfl, rfl, rfl, rfl⟩
  refine ⟨h0, by simp; omega, okOutsR m ?_⟩
  have eo : outsM g.toNat es (2 * es.length) = outsA g es := rfl
  rw [eo]
  refine ⟨m0, by omega, fun a b c e _ => a = (dfs g es s).t.ord ∧ b = (dfs g es s).t.by' ∧ c = (dfs g es s).t.far ∧ e = List.replicate g.toNat (-1), ?_, ?_⟩
  · refine ⟨fun v a b c e nx => e = List.replicate g.toNat (-1) ∧ ∃ (k : Nat) (p : List Int), (dK g es s k).path = p ++ [v] ∧ a = (dK g es s k).t.ord ∧ b = (dK g es s k).t.by' ∧ c = (dK g es s k).t.far ∧ nx = (dK g es s k).next,
      fun v _ _ c _ nx => 2 * leftN es g.toNat nx + (c.getD v.toNat 0 + 1).toNat, ⟨rfl, 0, [], rfl, rfl, rfl, rfl, rfl⟩, ?_⟩
    rintro v _ _ _ _ _ ⟨rfl, k, p, hp, rfl, rfl, rfl, rfl⟩
    have i := dK_DV m h0 h1 k
    have hv : v ∈ (dK g es s k).t.ord := i.pm v (by rw [hp]; simp)
    have hvr := i.bi.rng v hv
    have nv := i.nx v hvr.1 hvr.2
    have hst := i.step m (by rw [hp]; simp)
    have hfar : (dK g es s k).t.far.getD v.toNat 0 = p.length := path_far i p.length v (by rw [hp, List.getElem?_append_right (Nat.le_refl _)]; simp)
    have hmeas : meas g es (dK g es s k) = 2 * leftN es g.toNat (dK g es s k).next + ((dK g es s k).t.far.getD v.toNat 0 + 1).toNat := by
      unfold meas; rw [hp, hfar]; simp
    have eK : dK g es s (k + 1) = dStep es (dK g es s k) := rfl
    refine cnd_dec (fun _ => ?_) fun q => by omega
    refine ⟨fun v' a b c e nx => e = List.replicate g.toNat (-1) ∧ ∃ p' : List Int, (dK g es s (k + 1)).path = p' ++ [v'] ∧ a = (dK g es s (k + 1)).t.ord ∧ b = (dK g es s (k + 1)).t.by' ∧ c = (dK g es s (k + 1)).t.far ∧ nx = (dK g es s (k + 1)).next, ?_, ?_⟩
    · refine ⟨hvr.1, by omega, fun x9 hx9 => ⟨hvr.1, by rw [outsA_len]; omega, fun l hl => ?_⟩⟩
      have hx9 := getD_of'' hx9
      obtain rfl := outsA_get hvr.2 hvr.1 hl
      refine cnd_eq (fun q => ?_) fun q => ?_
      · -- all is looked at: back
        have hn : (dK g es s k).next.getD v.toNat 0 = (outV es v).length := by omega
        have eP := dStep_pop (es := es) hp hn
        refine ⟨hvr.1, by rw [i.bi.lb]; omega, fun c hc => ?_⟩
        have hc := getD_of'' hc
        refine cnd_dec (fun q2 => ?_) fun q2 => ⟨hvr.1, by rw [i.bi.lb]; omega, fun c' hc' => ?_⟩
        · -- it is the first one
          have hvs : v = s := Decidable.byContradiction fun hne => by
            obtain ⟨n, hb, _⟩ := i.bi.tree v hv hne
            rw [hc] at hb
            omega
          have hpn : p = [] := by
            have : p.length = 0 := by
              have := i.bi.fs
              have hf := hfar
              rw [hvs] at hf
              omega
            exact List.eq_nil_of_length_eq_zero this
          have hd : dK g es s (k + 1) = dfs g es s := dK_done m h0 h1 (by rw [eK, eP]; exact hpn)
          have ht : (dfs g es s).t = (dK g es s k).t := by rw [← hd, eK, eP]; rfl
          exact ⟨by rw [ht], by rw [ht], by rw [ht], rfl⟩
        · have hc' := getD_of'' hc'
          have hvs : v ≠ s := fun e => by
            have := i.bi.bs
            rw [e] at hc
            omega
          obtain ⟨n, hb, hn2, hto, hfo, _⟩ := i.bi.tree v hv hvs
          have : c' = (n : Int) := hc'.symm.trans hb
          subst this
          refine okFrom hn2 (by omega) ?_
          rcases List.eq_nil_or_concat p with rfl | ⟨p', y, rfl⟩
          · rcases i.p0 with z | z
            · rw [hp] at z; cases z
            · rw [hp] at z
              exact absurd (by simpa using z) hvs
          · rw [List.concat_eq_append] at hp eP
            have e1 : (dK g es s k).path[p'.length]? = some y := by rw [hp, List.append_assoc, List.getElem?_append_right (Nat.le_refl _)]; simp
            have e2 : (dK g es s k).path[p'.length + 1]? = some v := by rw [hp, List.append_assoc, List.getElem?_append_right (by omega)]; simp
            obtain ⟨_, h', hb2, _, hf2, _⟩ := i.chain p'.length y v e1 e2
            have : h' = n := by omega
            subst this
            refine ⟨rfl, p', ?_, ?_, ?_, ?_, ?_⟩ <;> rw [eK, eP]
            · rw [hf2]; rfl
            all_goals rfl
      · -- the next half-edge
        have hn : (dK g es s k).next.getD v.toNat 0 ≠ (outV es v).length := by omega
        obtain ⟨n, nh⟩ := i.next hp hn
        have hat := nh.at'
        rw [hx9] at hat
        refine ⟨by omega, by omega, fun x10 hx10 => ⟨hvr.1, by omega, fun x11 hx11 => ?_⟩⟩
        have hx11 := getD_of'' hx11
        have : x10 = (n : Int) := Option.some.inj (hx10.symm.trans hat)
        subst this
        have htr := toH_in m nh.hh
        refine okTo nh.hh (by omega) ⟨htr.1, by rw [i.bi.lf]; omega, fun c3 hc3 => ?_⟩
        have hc3 := getD_of'' hc3
        have iln := i.bi.len
        have hol : (outV es v).length ≤ 2 * es.length := outL_len _ _ _
        refine ⟨fun v' a b c e => (if c3 < 0 then v' = toH es n ∧ a = (dK g es s k).t.ord ++ [toH es n] ∧ b = (dK g es s k).t.by'.set (toH es n).toNat n ∧ c = (dK g es s k).t.far.set (toH es n).toNat ((dK g es s k).t.far.getD v.toNat 0 + 1) else v' = v ∧ a = (dK g es s k).t.ord ∧ b = (dK g es s k).t.by' ∧ c = (dK g es s k).t.far) ∧ e = List.replicate g.toNat (-1), ?_, ?_⟩
        · refine cnd_dec (fun q3 => ⟨hvr.1, by rw [i.bi.lf]; omega, fun c4 hc4 => ?_⟩) fun q3 => ⟨by rw [if_neg q3]; exact ⟨rfl, rfl, rfl, rfl⟩, rfl⟩
          have hc4 := getD_of'' hc4
          have hb := i.bi.bnd v hvr.1 hvr.2
          rw [wr (by omega) (by omega)]
          exact ⟨htr.1, by rw [i.bi.lf]; omega, htr.1, by rw [i.bi.lb]; omega, by omega, by rw [if_pos q3]; exact ⟨rfl, rfl, rfl, by rw [hc4]⟩, rfl⟩
        · rintro v' a b c e ⟨hcc, rfl⟩
          rw [wr (by omega) (by omega)]
          refine ⟨rfl, ?_⟩
          by_cases q3 : c3 < 0
          · rw [if_pos q3] at hcc
            obtain ⟨ev, ea, eb, ec⟩ := hcc
            subst ea eb ec
            have eN := dStep_new (es := es) hp hn nh (by rw [hc3]; exact q3)
            have e2 : x11 = (dK g es s k).next.getD v.toNat 0 := hx11.symm
            refine ⟨p ++ [v], ?_, ?_, ?_, ?_, ?_⟩ <;> rw [eK, eN] <;> simp only [dNew, Int.toNat_natCast]
            · rw [hp, ev]
            · rw [e2]
          · rw [if_neg q3] at hcc
            obtain ⟨ev, ea, eb, ec⟩ := hcc
            subst ea eb ec
            have eO := dStep_old (es := es) hp hn nh (by rw [hc3]; exact q3)
            have e2 : x11 = (dK g es s k).next.getD v.toNat 0 := hx11.symm
            refine ⟨p, ?_, ?_, ?_, ?_, ?_⟩ <;> rw [eK, eO] <;> simp only [dOld]
            · rw [hp, ev]
            · rw [e2]
    · rintro v' _ _ _ _ _ ⟨rfl, p', hp', rfl, rfl, rfl, rfl⟩
      refine ⟨⟨rfl, k + 1, p', hp', rfl, rfl, rfl, rfl⟩, ?_⟩
      have i' := dK_DV m h0 h1 (k + 1)
      have hfar' : (dK g es s (k + 1)).t.far.getD v'.toNat 0 = p'.length := path_far i' p'.length v' (by rw [hp', List.getElem?_append_right (Nat.le_refl _)]; simp)
      have hmeas' : meas g es (dK g es s (k + 1)) = 2 * leftN es g.toNat (dK g es s (k + 1)).next + ((dK g es s (k + 1)).t.far.getD v'.toNat 0 + 1).toNat := by
        unfold meas; rw [hp', hfar']; simp
      have := hst.2
      rw [← eK] at this
      dsimp only
      omega
  · -- the places, and Low
    rintro _ _ _ _ nx ⟨rfl, rfl, rfl, rfl⟩
    have i := dfs_DV m h0 h1
    have x := dfs_DX m h0 h1
    have hnil := dfs_nil m h0 h1
    generalize dfs g es s = d at *
    have il := i.bi.len
    refine okBlank m0 (by omega) ?_
    have hpl : ∀ (l : List Int), l.length = g.toNat → (∀ (j : Nat) (v : Int), d.t.ord[j]? = some v → l.getD v.toNat 0 = j) → (∀ v : Int, 0 ≤ v → v < g → v ∉ d.t.ord → l.getD v.toNat 0 = -1) → l = d.place := fun l hl hj hn => by
      refine list_eq_getD (hl.trans i.lp.symm) fun k hk => ?_
      by_cases q : (k : Int) ∈ d.t.ord
      · obtain ⟨j, hj2⟩ := List.mem_iff_getElem?.1 q
        have a := hj j _ hj2
        have b := i.pl j _ hj2
        rw [Int.toNat_natCast] at a b
        rw [a, b]
      · have a := hn (k : Int) (by omega) (by omega) q
        have b := i.pn (k : Int) (by omega) (by omega) q
        rw [Int.toNat_natCast] at a b
        rw [a, b]
    refine ⟨fun q c r => ∃ k : Nat, q = k ∧ k ≤ d.t.ord.length ∧ c = r ∧ c.length = g.toNat ∧ (∀ (j : Nat) (v : Int), j < k → d.t.ord[j]? = some v → c.getD v.toNat 0 = j) ∧ (∀ v : Int, 0 ≤ v → v < g → v ∉ d.t.ord.take k → c.getD v.toNat 0 = -1), fun q _ _ => ((d.t.ord.length : Int) - q).toNat,
      ⟨0, rfl, Nat.zero_le _, rfl, by simp, fun j v h => by omega, fun v a b _ => getD_rep (by omega)⟩, ?_⟩
    rintro _ c _ ⟨k, rfl, hk, rfl, hcl, hcj, hcn⟩
    refine cnd_dec (fun hlt => ⟨by omega, hlt, fun v hv => ?_⟩) fun hlt => ?_
    · rw [Int.toNat_natCast] at hv
      have hvm := List.mem_of_getElem? hv
      have hvr := i.bi.rng v hvm
      refine ⟨hvr.1, by simp; omega, by omega, hlt, fun v' hv' => ?_⟩
      rw [Int.toNat_natCast] at hv'
      obtain rfl := Option.some.inj (hv.symm.trans hv')
      rw [wr (by omega) (by omega)]
      refine ⟨hvr.1, by simp; omega, ⟨k + 1, by simp, by omega, rfl, by simpa using hcl, fun j u hj hu => ?_, fun u a b hu => ?_⟩, by dsimp only; omega⟩
      · have hur := i.bi.rng u (List.mem_of_getElem? hu)
        by_cases e : j = k
        · subst e
          obtain rfl := Option.some.inj (hv.symm.trans hu)
          exact setD_eq (by omega)
        · rw [setD_ne hvr.1 hur.1 fun z => e (by subst z; exact nodup_at i.bi.nd hu hv)]
          exact hcj j u (by omega) hu
      · rw [List.take_add_one, hv] at hu
        rw [setD_ne hvr.1 a fun z => hu (by simp [z])]
        exact hcn u a b fun z => hu (by simp [z])
    · have hke : k = d.t.ord.length := by omega
      subst hke
      rw [List.take_length] at hcn
      have hcp := hpl c hcl (fun j v hj => hcj j v (List.getElem?_eq_some_iff.1 hj).1 hj) hcn
      subst hcp
      clear hcl hcj hcn hk hlt
      rw [wr (by omega) (by omega)]
      refine ⟨fun q c => ∃ k : Nat, q = (k : Int) - 1 ∧ k ≤ d.t.ord.length ∧ c.length = g.toNat ∧ (∀ (j : Nat) (v : Int), d.t.ord[j]? = some v → c.getD v.toNat 0 = if k ≤ j then d.low.getD v.toNat 0 else (j : Int)) ∧ (∀ v : Int, 0 ≤ v → v < g → v ∉ d.t.ord → c.getD v.toNat 0 = -1), fun q _ => (q + 1).toNat,
        ⟨d.t.ord.length, rfl, Nat.le_refl _, i.lp, fun j v hj => by rw [if_neg (by have := (List.getElem?_eq_some_iff.1 hj).1; omega)]; exact i.pl j v hj, i.pn⟩, ?_⟩
      rintro _ c ⟨k, rfl, hk, hcl, hcj, hcn⟩
      refine cnd_dec (fun hge => ?_) fun hge => ?_
      · obtain ⟨k, rfl⟩ : ∃ k', k = k' + 1 := ⟨k - 1, by omega⟩
        refine ⟨by omega, by omega, fun v hv => ?_⟩
        rw [show (((k + 1 : Nat) : Int) - 1).toNat = k by omega] at hv
        have hvm := List.mem_of_getElem? hv
        have hvr := i.bi.rng v hvm
        have hvl : v.toNat < c.length := by omega
        have hol : (outV es v).length ≤ 2 * es.length := outL_len _ _ _
        refine ⟨fun q c' => ∃ j : Nat, q = j ∧ j ≤ (outV es v).length ∧ c' = c.set v.toNat (((outV es v).take j).foldl (lowStep es d.t.by' d.place d.low v) (d.place.getD v.toNat 0)), fun q _ => ((outV es v).length - q).toNat, ⟨0, rfl, Nat.zero_le _, ?_⟩, ?_⟩
        · rw [List.take_zero, List.foldl_nil, i.pl k v hv]
          have e := hcj k v hv
          rw [if_neg (by omega)] at e
          refine list_eq_getD (by simp) fun u hu => ?_
          rw [getD_set _ _ _ _ hvl]
          split
          · rename_i z; rw [← z]; exact e
          · rfl
        rintro _ _ ⟨j, rfl, hj, rfl⟩
        generalize hacc : ((outV es v).take j).foldl (lowStep es d.t.by' d.place d.low v) (d.place.getD v.toNat 0) = acc
        refine ⟨hvr.1, by rw [outsA_len]; omega, fun l hl => ?_⟩
        obtain rfl := outsA_get hvr.2 hvr.1 hl
        refine cnd_dec (fun hlt2 => ?_) fun hlt2 => ?_
        · have hj2 : j < (outV es v).length := by omega
          obtain ⟨y, hy⟩ : ∃ y, (outV es v)[j]? = some y := ⟨_, List.getElem?_eq_getElem hj2⟩
          obtain ⟨n, rfl, hn, hf⟩ := outV_mem hvr.1 (List.mem_of_getElem? hy)
          have htr := toH_in m hn
          have hto : toH es n ∈ d.t.ord := (i.rel v hvm j n (by rw [i.fin v hvm (by rw [hnil]; simp)]; omega) hy).1
          have next : ∀ c', c' = c.set v.toNat (lowStep es d.t.by' d.place d.low v acc n) → (∃ j' : Nat, IntKind.i64.wrap ((j : Int) + 1) = j' ∧ j' ≤ (outV es v).length ∧ c' = c.set v.toNat (((outV es v).take j').foldl (lowStep es d.t.by' d.place d.low v) (d.place.getD v.toNat 0))) := fun c' hc' => by
            refine ⟨j + 1, by rw [wr (by omega) (by omega)]; simp, by omega, ?_⟩
            rw [hc', List.take_add_one, hy, List.foldl_append, hacc]; rfl
          have hcv : (c.set v.toNat acc).getD v.toNat 0 = acc := setD_eq hvl
          have lowc : d.t.by'.getD (toH es n).toNat 0 = (n : Int) → (c.set v.toNat acc).getD (toH es n).toNat 0 = d.low.getD (toH es n).toNat 0 ∧ toH es n ≠ v := fun hb => by
            obtain ⟨q, hq⟩ := List.mem_iff_getElem?.1 hto
            obtain ⟨q', hq1, hq2⟩ := x.par q (toH es n) n hq hb
            rw [hf] at hq2
            have hqk : q' = k := nodup_at i.bi.nd hq2 hv
            have hne : toH es n ≠ v := fun z => x.up_ne i hto hb (hf.trans z.symm)
            refine ⟨?_, hne⟩
            rw [setD_ne hvr.1 htr.1 fun z => hne z.symm, hcj q _ hq, if_pos (by omega)]
          have less : ∀ (a b : Int), (if a < b then a else b) = min b a := fun a b => by
            rw [Int.min_def]; split <;> split <;> omega
          refine ⟨fun c' => c' = c.set v.toNat (lowStep es d.t.by' d.place d.low v acc n), ⟨by omega, hlt2, fun y' hy' => ?_⟩, ?_⟩
          · rw [Int.toNat_natCast] at hy'
            obtain rfl := Option.some.inj (hy.symm.trans hy')
            refine okTo hn (by omega) ⟨hvr.1, by rw [i.bi.lb]; omega, fun bv hbv => ?_⟩
            have hbv := getD_of'' hbv
            -- what stands behind the first test
            have tail : (¬ (0 ≤ d.t.by'.getD v.toNat 0 ∧ (n : Int) = mateI (d.t.by'.getD v.toNat 0))) → ∀ K : List Int → Prop, K (c.set v.toNat (lowStep es d.t.by' d.place d.low v acc n)) →
                (0 ≤ toH es n ∧ toH es n < ((d.t.by'.length : Nat) : Int) ∧ ∀ cw : Int, d.t.by'[(Int.toNat (toH es n))]? = some cw → ∃ J : List Int → Prop,
                  (cnd (cw == (n : Int))
                    (0 ≤ v ∧ v < (((List.replicate g.toNat (-1 : Int)).length : Nat) : Int) ∧ ∀ a : Int, (c.set v.toNat acc)[(Int.toNat v)]? = some a → 0 ≤ toH es n ∧ toH es n < (((List.replicate g.toNat (-1 : Int)).length : Nat) : Int) ∧ ∀ b : Int, (c.set v.toNat acc)[(Int.toNat (toH es n))]? = some b → J ((c.set v.toNat acc).set (Int.toNat v) (if b < a then b else a)))
                    (0 ≤ v ∧ v < (((List.replicate g.toNat (-1 : Int)).length : Nat) : Int) ∧ ∀ a : Int, (c.set v.toNat acc)[(Int.toNat v)]? = some a → 0 ≤ toH es n ∧ toH es n < (((List.replicate g.toNat (-1 : Int)).length : Nat) : Int) ∧ ∀ b : Int, d.place[(Int.toNat (toH es n))]? = some b → J ((c.set v.toNat acc).set (Int.toNat v) (if b < a then b else a)))) ∧
                  ∀ c' : List Int, J c' → K c') := by
              intro hno K hK
              refine ⟨htr.1, by rw [i.bi.lb]; omega, fun cw hcw => ?_⟩
              have hcw := getD_of'' hcw
              refine ⟨fun c' => c' = c.set v.toNat (lowStep es d.t.by' d.place d.low v acc n), cnd_eq (fun q => ?_) fun q => ?_, fun c' hc' => by rw [hc']; exact hK⟩
              · refine ⟨hvr.1, by simp; omega, fun a ha => ⟨htr.1, by simp; omega, fun b hb => ?_⟩⟩
                have ha := getD_of'' ha
                have hb := getD_of'' hb
                rw [List.set_set, less]
                unfold lowStep
                rw [Int.toNat_natCast, if_neg hno, if_pos (by rw [hcw]; exact q), ← (lowc (by rw [hcw]; exact q)).1, hb, ← ha, hcv]
              · refine ⟨hvr.1, by simp; omega, fun a ha => ⟨htr.1, by simp; omega, fun b hb => ?_⟩⟩
                have ha := getD_of'' ha
                have hb := getD_of'' hb
                rw [List.set_set, less]
                unfold lowStep
                rw [Int.toNat_natCast, if_neg hno, if_neg (by rw [hcw]; exact q), hb, ← ha, hcv]
            refine cnd_dec (fun q => ?_) fun q => ?_
            · have hdoc := doc_step i x hvm hf (by rw [hbv]; exact q)
              rw [hbv] at hdoc
              refine ⟨by decide, by decide, fun c' => c' = c.set v.toNat (lowStep es d.t.by' d.place d.low v acc n), ?_, fun _ hc' => hc'⟩
              have hn3 : n ≤ 6144 := by omega
              have hbr : bv ≤ 6144 := by
                by_cases hs : v = s
                · have := i.bi.bs; rw [← hs, hbv] at this; omega
                · obtain ⟨n', hb', hl', _⟩ := i.bi.tree v hvm hs
                  rw [hbv] at hb'; omega
              have d1 : Int.tdiv (n : Int) 2 = ((n / 2 : Nat) : Int) := rfl
              have d2 : 0 ≤ Int.tdiv bv 2 ∧ Int.tdiv bv 2 ≤ 6144 := by
                obtain ⟨b', rfl⟩ : ∃ b' : Nat, bv = b' := ⟨_, (Int.toNat_of_nonneg q).symm⟩
                have : Int.tdiv (b' : Int) 2 = ((b' / 2 : Nat) : Int) := rfl
                omega
              rw [wr (x := Int.tdiv (n : Int) 2) (by omega) (by omega), wr (x := Int.tdiv bv 2) (by omega) (by omega)]
              refine cnd_eq (fun q2 => ?_) fun q2 => ?_
              · unfold lowStep
                rw [if_pos ⟨by rw [hbv]; exact q, by rw [hbv]; exact hdoc.2 q2⟩]
              · exact tail (fun z => q2 (hdoc.1 (by rw [hbv] at z; exact z.2))) (fun c' => c' = c.set v.toNat (lowStep es d.t.by' d.place d.low v acc n)) rfl
            · exact tail (fun z => q (by rw [← hbv]; exact z.1)) (fun c' => c' = c.set v.toNat (lowStep es d.t.by' d.place d.low v acc n)) rfl
          · rintro _ rfl
            refine ⟨next _ rfl, ?_⟩
            rw [wr (by omega) (by omega)]
            dsimp only; omega
        · have hje : j = (outV es v).length := by omega
          subst hje
          rw [List.take_length] at hacc
          have hfix := x.fix v hvm (by rw [hnil]; simp)
          have hacc' : acc = d.low.getD v.toNat 0 := by rw [hfix, ← hacc]; rfl
          rw [wr (by omega) (by omega)]
          refine ⟨⟨k, by simp, by omega, by simpa using hcl, fun j u hu => ?_, fun u a b hu => ?_⟩, by dsimp only; omega⟩
          · have hur := i.bi.rng u (List.mem_of_getElem? hu)
            by_cases e : u = v
            · subst e
              have hjk : j = k := nodup_at i.bi.nd hu hv
              subst hjk
              rw [setD_eq hvl, if_pos (Nat.le_refl _), hacc']
            · rw [setD_ne hvr.1 hur.1 fun z => e z.symm, hcj j u hu]
              have hjk : j ≠ k := fun z => e (by subst z; exact Option.some.inj (hu.symm.trans hv))
              by_cases q : k ≤ j
              · rw [if_pos q, if_pos (by omega)]
              · rw [if_neg q, if_neg (by omega)]
          · rw [setD_ne hvr.1 a fun z => hu (z ▸ hvm)]
            exact hcn u a b hu
      · have hk0 : k = 0 := by omega
        subst hk0
        have hcd : c = d.low := by
          refine list_eq_getD (hcl.trans i.ll.symm) fun u hu => ?_
          by_cases q : (u : Int) ∈ d.t.ord
          · obtain ⟨j, hj⟩ := List.mem_iff_getElem?.1 q
            have a := hcj j _ hj
            rw [if_pos (Nat.zero_le _), Int.toNat_natCast] at a
            exact a
          · have a := hcn (u : Int) (by omega) (by omega) q
            have b := x.out (u : Int) (by omega) (by omega) q
            rw [Int.toNat_natCast] at a b
            rw [a, b]
        rw [hcd]; exact h
end Go.Proofs.Ytmcloipjlihhlaa.N
