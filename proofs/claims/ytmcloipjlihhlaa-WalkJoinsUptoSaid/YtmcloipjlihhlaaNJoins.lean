/- An edge more joins two components, or none; how many there are. Conditions: none. -/
import Derived.Test.YtmcloipjlihhlaaTWalkM
import Derived.Test.YtmcloipjlihhlaaNPartsR
namespace Go.Proofs.Ytmcloipjlihhlaa.N
open Go.X Go.Proofs.Ytmcloipjlihhlaa
set_option maxRecDepth 100000

/-! ### How many components -/
open Classical in
/-- Is it the first of its component? -/
noncomputable def firstN (es : Es) (w : Nat) : Nat := if ∃ u : Nat, u < w ∧ Reach es u w then 0 else 1
theorem pK_cnt {g : Int} (es : Es) : ∀ k, k ≤ g.toNat → (pK g es k).2 = ((List.range k).map (firstN es)).sum
  | 0, _ => rfl
  | k + 1, hk => by
    have ih := pK_cnt (g := g) es k (by omega)
    have p := pK_PI (g := g) es k (by omega)
    rw [List.range_succ, List.map_append, List.sum_append, ← ih]
    simp only [List.map_cons, List.map_nil, List.sum_cons, List.sum_nil, Nat.add_zero]
    rw [pK]
    have hs := p.set k (by omega)
    unfold firstN
    by_cases h : 0 ≤ (pK g es k).1.getD k 0
    · rw [pStep_old h, if_pos (hs.1 h), Nat.add_zero]
    · rw [if_neg (fun z => h (hs.2 z))]
      unfold pStep
      rw [if_neg h]
theorem parts_cnt (g : Int) (es : Es) : (parts g es).2 = ((List.range g.toNat).map (firstN es)).sum := pK_cnt es _ (Nat.le_refl _)
theorem first_ex {es : Es} : ∀ n w : Nat, w ≤ n → ∃ p : Nat, p ≤ w ∧ Reach es p w ∧ ∀ u : Nat, u < p → ¬ Reach es u p
  | 0, w, h => ⟨w, Nat.le_refl _, .start _, fun u hu => by omega⟩
  | n + 1, w, h => by
    by_cases q : ∃ u : Nat, u < w ∧ Reach es u w
    · obtain ⟨u, hu, r⟩ := q
      obtain ⟨p, h1, h2, h3⟩ := first_ex n u (by omega)
      exact ⟨p, by omega, h2.trans r, h3⟩
    · exact ⟨w, Nat.le_refl _, .start _, fun u hu r => q ⟨u, hu, r⟩⟩

/-! ### An edge more -/
theorem half_app {es : Es} {x : Int × Int} {h : Nat} (hh : h < 2 * es.length) : fromH (es ++ [x]) h = fromH es h ∧ toH (es ++ [x]) h = toH es h := by
  have : (es ++ [x]).getD (h / 2) (0, 0) = es.getD (h / 2) (0, 0) := by
    simp only [List.getD_eq_getElem?_getD]
    rw [List.getElem?_append_left (by omega)]
  unfold fromH toH
  rw [this]; exact ⟨rfl, rfl⟩
theorem reach_mono {es : Es} {x : Int × Int} {a b : Int} (r : Reach es a b) : Reach (es ++ [x]) a b := by
  induction r with
  | start => exact .start _
  | step h hh _ ih =>
    have e := half_app (x := x) hh
    rw [← e.1] at ih
    rw [← e.2]
    exact .step h (by simp; omega) ih
theorem reach_new {es : Es} {u v : Int} : Reach (es ++ [(u, v)]) u v := by
  have hx : (es ++ [(u, v)])[es.length]? = some (u, v) := by simp
  have e := half_of hx
  have := Reach.one (es := es ++ [(u, v)]) (h := 2 * es.length) (by simp)
  rw [e.1, e.2.1] at this
  exact this
theorem reach_app {es : Es} {u v a b : Int} (r : Reach (es ++ [(u, v)]) a b) : Reach es a b ∨ (Reach es a u ∧ Reach es v b) ∨ (Reach es a v ∧ Reach es u b) := by
  induction r with
  | start => exact .inl (.start _)
  | step h hh _ ih =>
    by_cases q : h < 2 * es.length
    · have e := half_app (x := (u, v)) q
      rw [e.1] at ih
      rw [e.2]
      have st := Reach.one q
      exact ih.imp (fun z => z.trans st) fun z => z.imp (fun z => ⟨z.1, z.2.trans st⟩) fun z => ⟨z.1, z.2.trans st⟩
    · have hx : (es ++ [(u, v)])[es.length]? = some (u, v) := by simp
      have e := half_of hx
      have hl : (es ++ [(u, v)]).length = es.length + 1 := by simp
      rw [hl] at hh
      have : h = 2 * es.length ∨ h = 2 * es.length + 1 := by omega
      rcases this with rfl | rfl
      · rw [e.1] at ih
        rw [e.2.1]
        rcases ih with z | z | z
        · exact .inr (.inl ⟨z, .start _⟩)
        · exact .inr (.inl ⟨z.1, .start _⟩)
        · exact .inl z.1
      · rw [e.2.2.1] at ih
        rw [e.2.2.2]
        rcases ih with z | z | z
        · exact .inr (.inr ⟨z, .start _⟩)
        · exact .inl z.1
        · exact .inr (.inr ⟨z.1, .start _⟩)
theorem parts_app {g : Int} {es : Es} {u v : Int} (u0 : 0 ≤ u) (u1 : u < g) (v0 : 0 ≤ v) (v1 : v < g) :
    (Reach es u v → (parts g (es ++ [(u, v)])).2 = (parts g es).2) ∧ (¬ Reach es u v → (parts g (es ++ [(u, v)])).2 + 1 = (parts g es).2) := by
  rw [parts_cnt, parts_cnt]
  constructor
  · intro r
    congr 1
    apply List.map_congr_left
    intro w _
    have : ∀ x : Nat, Reach (es ++ [(u, v)]) x w ↔ Reach es x w := fun x => ⟨fun z => by
      rcases reach_app z with z | z | z
      · exact z
      · exact (z.1.trans r).trans z.2
      · exact (z.1.trans r.symm).trans z.2, reach_mono⟩
    unfold firstN
    by_cases z : ∃ x : Nat, x < w ∧ Reach es x w
    · obtain ⟨x, hx, r⟩ := z
      rw [if_pos ⟨x, hx, reach_mono r⟩, if_pos ⟨x, hx, r⟩]
    · rw [if_neg fun ⟨x, hx, r⟩ => z ⟨x, hx, (this x).1 r⟩, if_neg z]
  · intro nr
    obtain ⟨p, hp1, hp2, hp3⟩ := first_ex (es := es) u.toNat u.toNat (Nat.le_refl _)
    obtain ⟨q, hq1, hq2, hq3⟩ := first_ex (es := es) v.toNat v.toNat (Nat.le_refl _)
    rw [Int.toNat_of_nonneg u0] at hp2
    rw [Int.toNat_of_nonneg v0] at hq2
    have hpq : p ≠ q := fun e => nr (by subst e; exact hp2.symm.trans hq2)
    -- the greater of the two is no first any more
    have main : ∀ a b : Nat, a < b → (a = p ∧ b = q ∨ a = q ∧ b = p) → ((List.range g.toNat).map (firstN (es ++ [(u, v)]))).sum + 1 = ((List.range g.toNat).map (firstN es)).sum := fun a b hab hor => by
      have hb : b < g.toNat := by omega
      refine sum_less _ _ b _ hb (fun w hw => ?_) ?_
      · unfold firstN
        by_cases z : ∃ x : Nat, x < w ∧ Reach es x w
        · obtain ⟨x, hx, r⟩ := z
          rw [if_pos ⟨x, hx, reach_mono r⟩, if_pos ⟨x, hx, r⟩]
        · rw [if_neg z, if_neg]
          rintro ⟨x, hx, r⟩
          rcases reach_app r with r | r | r
          · exact z ⟨x, hx, r⟩
          · -- w is v's, so w = q; x is u's
            have hwq : w = q := by
              have h1 : ¬ q < w := fun h => z ⟨q, h, hq2.trans r.2⟩
              have h2 : ¬ w < q := fun h => hq3 w h (r.2.symm.trans hq2.symm)
              omega
            have h3 : ¬ x < p := fun h => hp3 x h (r.1.trans hp2.symm)
            omega
          · have hwp : w = p := by
              have h1 : ¬ p < w := fun h => z ⟨p, h, hp2.trans r.2⟩
              have h2 : ¬ w < p := fun h => hp3 w h (r.2.symm.trans hp2.symm)
              omega
            have h3 : ¬ x < q := fun h => hq3 x h (r.1.trans hq2.symm)
            omega
      · unfold firstN
        rcases hor with ⟨rfl, rfl⟩ | ⟨rfl, rfl⟩
        · rw [if_pos ⟨a, hab, ((reach_mono hp2).trans reach_new).trans (reach_mono hq2.symm)⟩, if_neg (fun ⟨x, hx, r⟩ => hq3 x hx r)]
        · rw [if_pos ⟨a, hab, ((reach_mono hq2).trans reach_new.symm).trans (reach_mono hp2.symm)⟩, if_neg (fun ⟨x, hx, r⟩ => hp3 x hx r)]
    rcases Nat.lt_or_ge p q with h | h
    · exact main p q h (.inl ⟨rfl, rfl⟩)
    · exact main q p (by omega) (.inr ⟨rfl, rfl⟩)

/-! ### How many are found -/
theorem unl_fill {x : Int} (hx : 0 ≤ x) {n : Nat} : ∀ (ws l : List Int), l.length = n → ws.Nodup → (∀ w ∈ ws, 0 ≤ w ∧ w.toNat < n ∧ l.getD w.toNat 0 < 0) → unl (fillAll x l ws) + ws.length = unl l
  | [], l, _, _, _ => rfl
  | w :: ws, l, hl, hn, hw => by
    have e : fillAll x l (w :: ws) = fillAll x (l.set w.toNat x) ws := rfl
    have hw0 := hw w (by simp)
    have hnd := List.nodup_cons.1 hn
    have ih := unl_fill hx ws (l.set w.toNat x) (by simpa using hl) hnd.2 fun z hz => by
      have hz0 := hw z (List.mem_cons_of_mem _ hz)
      refine ⟨hz0.1, hz0.2.1, ?_⟩
      rw [getD_set _ _ _ _ (by omega), if_neg]
      · exact hz0.2.2
      · intro e2
        have : w = z := by omega
        exact hnd.1 (this ▸ hz)
    have h2 := unl_set (c := l) (i := w.toNat) (x := x) (by omega) hw0.2.2 hx
    rw [e, List.length_cons]
    omega
theorem unl_le (l : List Int) : unl l ≤ l.length := List.countP_le_length
theorem pK_found {g : Int} {es : Es} (m : MayN g es) {k : Nat} (hk : k < g.toNat) : unl (pK g es (k + 1)).1 + (if 0 ≤ (pK g es k).1.getD k 0 then 0 else (bfs g es k).ord.length) = unl (pK g es k).1 := by
  have p := pK_PI (g := g) es k (by omega)
  have h0 : (0 : Int) ≤ (k : Int) := by omega
  have h1 : ((k : Nat) : Int) < g := by omega
  have b := bfs_BI m h0 h1
  rw [pK]
  by_cases h : 0 ≤ (pK g es k).1.getD k 0
  · rw [pStep_old h, if_pos h]; rfl
  · rw [pStep_bfs m hk h p.len, if_neg h]
    refine unl_fill (by omega) _ _ p.len b.nd fun w hw => ?_
    have hr := b.rng w hw
    refine ⟨hr.1, by omega, ?_⟩
    apply Int.lt_of_not_ge
    intro z
    obtain ⟨x, hx, r⟩ := (p.set w.toNat (by omega)).1 z
    rw [Int.toNat_of_nonneg hr.1] at r
    exact h ((p.set k hk).2 ⟨x, hx, r.trans ((bfs_mem m h0 h1).1 hw).symm⟩)
theorem parts_all {g : Int} {es : Es} : unl (parts g es).1 = 0 := by
  have p := parts_PI g es
  unfold unl
  rw [List.countP_eq_zero]
  intro x hx
  obtain ⟨i, hi, e⟩ := List.getElem_of_mem hx
  have := parts_pos (g := g) (es := es) (v := i) (by rw [← p.len]; exact hi)
  rw [List.getD_eq_getElem?_getD, List.getElem?_eq_getElem hi, e] at this
  have : 0 ≤ x := this
  simp; omega
theorem len_same {a b : List Int} (ha : a.Nodup) (hb : b.Nodup) (h : ∀ x, x ∈ a ↔ x ∈ b) : a.length = b.length :=
  ((List.perm_ext_iff_of_nodup ha hb).2 h).length_eq
def lightB (g : Int) (es : Es) : Bool := decide (es.length ≤ 300) && (decide (g ≤ 300) || !mayB g es)
theorem okLight {g : Int} {es : Es} {R : Bool → Prop} (h : R (lightB g es)) : Ok59 g es R := by
  apply ok59
  unfold T59
  unfold lightB at h
  refine cnd_dec (fun q => cnd_dec (fun q2 => ?_) fun q2 => okMayR ?_) fun q => ?_
  · rw [decide_eq_true (show es.length ≤ 300 by omega), decide_eq_true q2] at h; exact h
  · rw [decide_eq_true (show es.length ≤ 300 by omega), decide_eq_false q2] at h; exact h
  · rw [decide_eq_false (show ¬ es.length ≤ 300 by omega)] at h; exact h
theorem okCopy {g : Int} {es : Es} {R : Int → Es → Prop} (hl : es.length ≤ 1000000) (h : R g es) : Ok95 g es R := by
  apply ok95
  unfold T95
  exact ⟨by omega, h⟩
theorem may_app {g u v : Int} {es : Es} (m : mayB g es = true) (hl : es.length ≤ 3071) (u0 : 0 ≤ u) (u1 : u < g) (v0 : 0 ≤ v) (v1 : v < g) : mayB g (es ++ [(u, v)]) = true := by
  obtain ⟨h1, h2, h3⟩ := mayB_iff.1 m
  refine mayB_iff.2 ⟨h1, by simp; omega, fun e he => ?_⟩
  rcases List.mem_append.1 he with he | he
  · exact h3 e he
  · have : e = (u, v) := by simpa using he
    subst this
    exact endB_iff.2 ⟨⟨u0, u1⟩, v0, v1⟩
theorem okJoinsL {g u v : Int} {es : Es} {R : Bool → Prop} (h : R true) : Ok20 g es u v R := by
  apply ok20
  unfold T20
  refine okBegunW (cnd_not (fun q => by cases q) fun _ => ⟨True, okLight (cnd_not (fun _ => trivial) fun q0 => okMayR (cnd_not (fun _ => trivial) fun q => ?_)), fun _ => h⟩)
  refine cnd_dec (fun _ => trivial) fun u0 => cnd_dec (fun _ => trivial) fun v0 => cnd_dec (fun _ => trivial) fun u1 => cnd_dec (fun _ => h) fun v1 => ?_
  have m := mayN q
  have m0 := m.g0
  have m1 := m.g1
  have hl : es.length ≤ 300 := by
    unfold lightB at q0
    rw [Bool.and_eq_true, decide_eq_true_eq] at q0
    exact q0.1
  have q' := may_app q (u := u) (v := v) (by omega) (by omega) (by omega) (by omega) (by omega)
  have pl := (parts_PI g es).len
  have pc := (parts_PI g es).cnt
  have pc2 := (parts_PI g (es ++ [(u, v)])).cnt
  refine okParts (fun q2 => absurd q2 (by rw [q]; decide)) fun _ => okCopy (by omega) ⟨by omega, okParts (fun q2 => absurd q2 (by rw [q']; decide)) fun _ => ?_⟩
  have pa := parts_app (g := g) (es := es) (u := u) (v := v) (by omega) (by omega) (by omega) (by omega)
  have ps := parts_same (g := g) (es := es) (v := u.toNat) (w := v.toNat) (by omega) (by omega)
  rw [Int.toNat_of_nonneg (show 0 ≤ u by omega), Int.toNat_of_nonneg (show 0 ≤ v by omega)] at ps
  refine ⟨True, ⟨True, ⟨¬ Reach es u v, ⟨by omega, by omega, fun a ha => ⟨by omega, by omega, fun b hb => ?_⟩⟩, fun nr => ?_⟩, fun _ => trivial⟩, fun _ => ?_⟩
  · have ha := getD_of ha
    have hb := getD_of hb
    rw [ha, hb] at ps
    refine cnd_eq (fun e => cnd_ne (fun z => absurd ?_ z) fun _ => cnd_ne (fun z => absurd e z) fun _ => trivial) fun e => cnd_ne (fun _ r => e (ps.2 r)) fun z => absurd z e
    rw [pa.1 (ps.1 e)]
  · have := pa.2 nr
    rw [wr (by omega) (by omega)]
    exact cnd_ne (fun z => absurd (by omega) z) fun _ => trivial
  · refine ⟨fun n f s => ∃ k : Nat, s = k ∧ k ≤ g.toNat ∧ n = ((parts g es).2 : Int) - ((pK g es k).2 : Int) ∧ f + (unl (pK g es k).1 : Int) = g.toNat, fun _ _ s => (g - s).toNat, ⟨0, rfl, Nat.zero_le _, by simp [pK], ?_⟩, ?_⟩
    · have : unl (pK g es 0).1 = g.toNat := by
        unfold unl pK
        rw [List.countP_replicate]; simp
      rw [this]; omega
    · rintro _ f _ ⟨k, rfl, hk, rfl, hf⟩
      have p := pK_PI (g := g) es k hk
      have hcn := p.cnt
      have hcnt1 := pK_cnt (g := g) es k hk
      refine cnd_dec (fun hlt => ?_) fun hlt => ?_
      · have hkg : k < g.toNat := by omega
        have pf := pK_found m hkg
        have c1 := pK_cnt (g := g) es (k + 1) (by omega)
        rw [List.range_succ, List.map_append, List.sum_append, ← hcnt1] at c1
        simp only [List.map_cons, List.map_nil, List.sum_cons, List.sum_nil, Nat.add_zero] at c1
        have hset := p.set k hkg
        have b := bfs_BI m (s := k) (by omega) (by omega)
        have bl := b.len
        have ul := unl_le (pK g es k).1
        rw [p.len] at ul
        refine ⟨fun n f => n = ((parts g es).2 : Int) - ((pK g es (k + 1)).2 : Int) ∧ f + (unl (pK g es (k + 1)).1 : Int) = g.toNat, ?_, ?_⟩
        · refine ⟨fun fi w => ∃ j : Nat, w = j ∧ j ≤ k ∧ (fi = true ↔ ∀ x : Nat, x < j → ¬ Reach es x k), fun _ w => ((k : Int) - w).toNat, ⟨0, rfl, Nat.zero_le _, by simp⟩, ?_⟩
          rintro fi _ ⟨j, rfl, hj, hfi⟩
          refine cnd_dec (fun hlt2 => cnd_b (fun qf => ⟨by omega, by omega, fun a ha => ⟨by omega, by omega, fun c hc => ?_⟩⟩) fun qf => ?_) fun hlt2 => ?_
          · have ha := getD_of ha
            have hc := getD_of hc
            rw [Int.toNat_natCast] at ha hc
            have ps2 := parts_same (g := g) (es := es) (v := j) (w := k) (by omega) hkg
            rw [ha, hc] at ps2
            rw [wr (by omega) (by omega)]
            refine ⟨⟨j + 1, by simp, by omega, ?_⟩, by dsimp only; omega⟩
            constructor
            · intro z x hx r
              by_cases e : x < j
              · exact hfi.1 qf x e r
              · obtain rfl : x = j := by omega
                have := ps2.2 r
                simp [this] at z
            · intro z
              have := z j (by omega)
              rw [bne_iff_ne]
              exact fun e => this (ps2.1 e)
          · rw [wr (by omega) (by omega)]
            refine ⟨⟨j + 1, by simp, by omega, ?_⟩, by dsimp only; omega⟩
            constructor
            · intro z; cases z
            · intro z
              have := hfi.2 fun x hx => z x (by omega)
              rw [qf] at this; cases this
          · obtain rfl : j = k := by omega
            refine cnd_not (fun qf => ?_) fun qf => ?_
            · have hpos : 0 ≤ (pK g es j).1.getD j 0 := by
                apply Decidable.byContradiction
                intro z
                have : fi = true := hfi.2 fun x hx r => z (hset.2 ⟨x, hx, r⟩)
                rw [qf] at this; cases this
              rw [if_pos hpos] at pf
              unfold firstN at c1
              rw [if_pos (hset.1 hpos)] at c1
              exact ⟨by omega, by omega⟩
            · have hneg : ¬ 0 ≤ (pK g es j).1.getD j 0 := fun z => by
                obtain ⟨x, hx, r⟩ := hset.1 z
                exact hfi.1 qf x hx r
              rw [if_neg hneg] at pf
              unfold firstN at c1
              rw [if_neg (fun z => hneg (hset.2 z))] at c1
              have f0 : faultyE g es j = 0 := by unfold faultyE; rw [if_neg (by rw [q]; decide), if_neg (by omega)]
              have eb : breadthR g es j = bfs g es j := by unfold breadthR; rw [if_pos f0]
              refine okBreadth (okDepth (fun z => absurd f0 z) fun _ => ?_)
              rw [eb]
              have d := dfs_DV m (s := (j : Int)) (by omega) (by omega)
              have same : (bfs g es j).ord.length = (dfs g es j).t.ord.length := len_same b.nd d.bi.nd fun x => by
                rw [bfs_mem m (by omega) (by omega), dfs_mem m (by omega) (by omega)]
              have cle : (pK g es (j + 1)).2 ≤ j + 1 := (pK_PI (g := g) es (j + 1) (by omega)).cnt
              refine cnd_ne (fun z => absurd (by rw [same]) z) fun _ => ?_
              rw [wr (by omega) (by omega), wr (by omega) (by omega)]
              exact ⟨by omega, by omega⟩
        · rintro n2 f2 ⟨rfl, hf2⟩
          rw [wr (by omega) (by omega)]
          exact ⟨⟨k + 1, by simp, by omega, rfl, hf2⟩, by dsimp only; omega⟩
      · have hkg : k = g.toNat := by omega
        subst hkg
        have e1 : pK g es g.toNat = parts g es := rfl
        rw [e1] at hf ⊢
        rw [parts_all] at hf
        refine cnd_eq (fun _ => ?_) fun z => absurd (by omega) z
        have : (((parts g es).2 : Int) - ((parts g es).2 : Int) == 0) = true := by simp
        rw [this]; exact h
end Go.Proofs.Ytmcloipjlihhlaa.N
namespace Go.Proofs.Ytmcloipjlihhlaa
open Go.X in
theorem WalkJoins_ok {g u v : Int} {es : List (Int × Int)} {h : Heap} {a0 : Option Addr} {l0 c0 : Nat} (_ : es.length ≤ 1048576) (hp : Hp h [Ck.vw eP a0 l0 c0 es]) :
    CallsH Try.prog 20 #[.agg #[.int .i64 g, .slice a0 l0 c0], .int .i64 u, .int .i64 v] h fun v h' => Fr [] h h' ∧ v = .bool true :=
  (N.okJoinsL (R := fun b => b = true) rfl h _ _ _ hp).mono fun _ _ ⟨_, Y, e, q⟩ => ⟨Y.fr, q ▸ e⟩
end Go.Proofs.Ytmcloipjlihhlaa
