/- Laws of breadth first and depth first. Conditions: none. -/
import Derived.Test.YtmcloipjlihhlaaTWalkL
import Derived.Test.YtmcloipjlihhlaaNBegunW
namespace Go.Proofs.Ytmcloipjlihhlaa.N
open Go.X Go.Proofs.Ytmcloipjlihhlaa
set_option maxRecDepth 100000

theorem half_of {es : Es} {i : Nat} {x : Int × Int} (h : es[i]? = some x) : fromH es (2 * i) = x.1 ∧ toH es (2 * i) = x.2 ∧ fromH es (2 * i + 1) = x.2 ∧ toH es (2 * i + 1) = x.1 := by
  have e1 : es.getD (2 * i / 2) (0, 0) = x := by rw [show 2 * i / 2 = i by omega]; simp [List.getD, h]
  have e2 : es.getD ((2 * i + 1) / 2) (0, 0) = x := by rw [show (2 * i + 1) / 2 = i by omega]; simp [List.getD, h]
  unfold fromH toH
  rw [e1, e2, show 2 * i % 2 = 0 by omega, show (2 * i + 1) % 2 = 1 by omega]
  exact ⟨rfl, rfl, rfl, rfl⟩
theorem okFarL {g s : Int} {es : Es} {R : Bool → Prop} (h : R true) : Ok16 g es s R := by
  apply ok16
  unfold T16
  refine okBegunW (cnd_not (fun q => by cases q) fun _ => okBreadth (okParts (fun q => ?_) fun q => ?_))
  · have e : faultyE g es s = 1 := by unfold faultyE; rw [if_pos q]
    have e2 : breadthR g es s = ⟨[], [], []⟩ := by unfold breadthR; rw [if_neg (by omega)]
    rw [e, e2]
    exact cnd_ne (fun _ => h) fun q => absurd q (by decide)
  have m := mayN q
  have m0 := m.g0
  have m1 := m.g1
  have m3 := m.m
  by_cases q0 : faultyE g es s = 0
  · obtain ⟨_, h0, h1⟩ := faulty_zero q0
    have e2 : breadthR g es s = bfs g es s := by unfold breadthR; rw [if_pos q0]
    rw [q0, e2]
    have i := bfs_BI m h0 h1
    have il := i.len
    have pl := (parts_PI g es).len
    refine cnd_ne (fun q => absurd rfl q) fun _ => ⟨False, cnd_ne (fun q => absurd rfl q) fun _ => cnd_ne (fun q => q (by rw [i.lf]; omega)) fun _ => ⟨h0, by rw [i.lf]; omega, fun x hx => ?_⟩, False.elim⟩
    have hx := getD_of hx
    rw [i.fs] at hx
    refine cnd_ne (fun q => q hx.symm) fun _ => ⟨by omega, by have := i.pos; omega, fun x hx => ?_⟩
    have hx : (bfs g es s).ord[0]? = some x := hx
    rw [i.hd] at hx
    refine cnd_ne (fun q => absurd (Option.some.inj hx).symm q) fun _ => ⟨fun i => ∃ k : Nat, i = k ∧ k ≤ es.length, fun i => ((es.length : Int) - i).toNat, ⟨0, rfl, Nat.zero_le _⟩, ?_⟩
    rintro _ ⟨k, rfl, hk⟩
    refine cnd_dec (fun hlt => ⟨by omega, hlt, fun x hx => ?_⟩) fun hlt => ?_
    · rw [Int.toNat_natCast] at hx
      have hxr := m.e k x hx
      obtain ⟨f1, t1, f2, t2⟩ := half_of hx
      refine ⟨hxr.1.1, by rw [i.lf]; omega, fun a ha => ⟨hxr.2.1, by rw [i.lf]; omega, fun b hb => ?_⟩⟩
      have ha := getD_of ha
      have hb := getD_of hb
      have d1 := fun z => bfs_done m h0 h1 (h := 2 * k) (by omega) (s := s) z
      have d2 := fun z => bfs_done m h0 h1 (h := 2 * k + 1) (by omega) (s := s) z
      rw [f1, t1, ha, hb] at d1
      rw [f2, t2, ha, hb] at d2
      have ma := i.mem x.1 hxr.1.1 hxr.1.2
      have mb := i.mem x.2 hxr.2.1 hxr.2.2
      have ba := i.bnd x.1 hxr.1.1 hxr.1.2
      have bb := i.bnd x.2 hxr.2.1 hxr.2.2
      rw [ha] at ma ba
      rw [hb] at mb bb
      have both : 0 ≤ a ↔ 0 ≤ b := ⟨fun z => mb.2 (d1 (ma.1 z)).1, fun z => ma.2 (d2 (mb.1 z)).1⟩
      have dif : a - b ≤ 1 ∧ b - a ≤ 1 := by
        by_cases z : 0 ≤ a
        · have := (d1 (ma.1 z)).2
          have := (d2 (mb.1 (both.1 z))).2
          omega
        · have : ¬ 0 ≤ b := fun y => z (both.2 y)
          omega
      refine ⟨False, ?_, False.elim⟩
      have e : (decide (a < 0) == decide (b < 0)) = true := by
        rw [beq_iff_eq, decide_eq_decide]; omega
      rw [e, wr (x := a - b) (by omega) (by omega), wr (x := b - a) (by omega) (by omega), wr (x := (k : Int) + 1) (by omega) (by omega)]
      exact cnd_not (fun q => by cases q) fun _ => cnd_dec (fun q => by omega) fun _ => cnd_dec (fun q => by omega) fun _ => ⟨⟨k + 1, by simp, by omega⟩, by dsimp only; omega⟩
    · refine ⟨fun i => ∃ k : Nat, i = k ∧ k ≤ g.toNat, fun i => (g - i).toNat, ⟨0, rfl, Nat.zero_le _⟩, ?_⟩
      rintro _ ⟨v, rfl, hv⟩
      refine cnd_dec (fun hlt => ?_) fun hlt => h
      have hlt2 : v < g.toNat := by omega
      refine ⟨True, ⟨by omega, by rw [i.lf]; omega, fun a ha => ⟨by omega, by omega, fun b hb => ⟨h0, by omega, fun c hc => ?_⟩⟩⟩, fun _ => ?_⟩
      · have ha := getD_of ha
        have hb := getD_of hb
        have hc := getD_of hc
        have mv := i.mem v (by omega) hlt
        rw [ha, bfs_mem m h0 h1] at mv
        have ps := parts_same (g := g) (es := es) (v := s.toNat) (w := v) (by omega) hlt2
        rw [Int.toNat_natCast] at hb
        rw [hb, hc, Int.toNat_of_nonneg h0] at ps
        have e : (decide (a < 0) == (b != c)) = true := by
          rw [beq_iff_eq]
          by_cases z : b = c
          · have := mv.2 (ps.1 z.symm)
            simp [z]; omega
          · have : ¬ 0 ≤ a := fun y => z (ps.2 (mv.1 y)).symm
            have z2 : (b != c) = true := by simpa using z
            rw [z2]; simp; omega
        rw [e]
        refine cnd_not (fun q => by cases q) fun _ => ⟨True, cnd_ne (fun q2 => cnd_dec (fun q3 => ?_) fun _ => trivial) fun _ => trivial, fun _ => trivial⟩
        have hvo := (bfs_mem m h0 h1).2 (mv.1 q3)
        obtain ⟨hh, e1, e2, e3, e4, e5⟩ := i.tree v hvo q2
        refine ⟨by omega, by rw [i.lb]; omega, fun y hy => ?_⟩
        have hy := getD_of hy
        rw [e1] at hy
        subst hy
        have hf := i.rng _ e4
        rw [ha] at e5
        have bv := i.bnd v (by omega) hlt
        rw [ha] at bv
        refine okTo (by omega) (by omega) (cnd_ne (fun q4 => absurd e3 q4) fun _ => okFrom (by omega) (by omega) ⟨hf.1, by rw [i.lf]; omega, fun z hz => ?_⟩)
        have hz := getD_of hz
        rw [wr (by omega) (by omega)]
        exact cnd_ne (fun q4 => absurd (by omega) q4) fun _ => trivial
      · rw [wr (by omega) (by omega)]
        exact ⟨⟨v + 1, by simp, by omega⟩, by dsimp only; omega⟩
  · have e2 : breadthR g es s = ⟨[], [], []⟩ := by unfold breadthR; rw [if_neg q0]
    rw [e2]
    exact cnd_ne (fun _ => h) fun q => absurd q q0

/-! ### Above -/
theorem okAbove {g s a b : Int} {es : Es} {t : BT} {o f l : List Int} {R : Bool → Prop} (m : MayN g es) (i : BI g es s t) (hb : b ∈ t.ord) (ht : R true) (hf : ¬ Anc es t.by' a b → R false) : Ok89 g es o t.by' f l a b R := by
  apply ok89
  unfold T89
  have m1 := m.g1
  have m3 := m.m
  have il := i.len
  have bb := i.bnd b (i.rng b hb).1 (i.rng b hb).2
  refine ⟨fun c x => ∃ k : Nat, x = k ∧ c ∈ t.ord ∧ (k : Int) + t.far.getD c.toNat 0 = t.far.getD b.toNat 0 ∧ (Anc es t.by' a b → Anc es t.by' a c), fun c _ => (t.far.getD c.toNat 0).toNat, ⟨0, rfl, hb, by omega, id⟩, ?_⟩
  rintro c _ ⟨k, rfl, hc, hk, ha⟩
  have cr := i.rng c hc
  have cf := (i.mem c cr.1 cr.2).2 hc
  refine cnd_dec (fun _ => cnd_eq (fun _ => ht) fun q => ⟨cr.1, by rw [i.lb]; omega, fun x hx => ?_⟩) fun q => by omega
  have hx := getD_of hx
  refine cnd_dec (fun q2 => hf fun z => ?_) fun q2 => ⟨cr.1, by rw [i.lb]; omega, fun y hy => ?_⟩
  · have := ha z
    cases this with
    | here => exact q rfl
    | up h e r => rw [hx] at e; omega
  · have hy := getD_of hy
    have hyx : y = x := by rw [← hy, hx]
    subst hyx
    have hs : c ≠ s := fun e => by rw [e, i.bs] at hx; omega
    obtain ⟨h, e, hh, _, h4, h5⟩ := i.tree c hc hs
    have ey : y = h := by rw [← hx, e]
    subst ey
    have ff := (i.mem _ (i.rng _ h4).1 (i.rng _ h4).2).2 h4
    rw [wr (by omega) (by omega)]
    refine okFrom hh (by omega) ⟨⟨k + 1, by simp, h4, by omega, fun z => ?_⟩, by dsimp only; omega⟩
    have := ha z
    cases this with
    | here => exact absurd rfl q
    | up h2 e2 r =>
      rw [e] at e2
      have : h = h2 := by omega
      subst this; exact r
theorem okDeepL {g s : Int} {es : Es} {R : Bool → Prop} (h : R true) : Ok17 g es s R := by
  apply ok17
  unfold T17
  refine okBegunW (cnd_not (fun q => by cases q) fun _ => okDepth (fun q0 => ?_) fun q0 => ?_)
  · exact ⟨True, cnd_ne (fun _ => trivial) fun q => absurd q q0, fun _ => cnd_eq (fun q => absurd q q0) fun _ => h⟩
  obtain ⟨m, h0, h1⟩ := faulty_zero q0
  have m0 := m.g0
  have m1 := m.g1
  have m3 := m.m
  refine ⟨True, ?_, fun _ => cnd_eq (fun _ => h) fun q => absurd rfl q⟩
  have i := dfs_DV m h0 h1
  have hrel := fun (k : Nat) hk hf => dfs_rel (s := s) m h0 h1 (h := k) hk hf
  have hnp := dfs_nil m h0 h1
  generalize dfs g es s = d at *
  have b := i.bi
  have il := b.len
  refine cnd_ne (fun q => absurd rfl q) fun _ => cnd_dec (fun _ => trivial) fun _ => cnd_dec (fun _ => cnd_eq (fun _ => h) fun q => absurd rfl q) fun _ => ?_
  refine ⟨m0, by omega, fun x p => ∃ k : Nat, x = k ∧ k ≤ d.t.ord.length ∧ p.length = g.toNat ∧ ∀ w : Int, 0 ≤ w → w < g → p.getD w.toNat 0 ≠ 0 → w ∈ d.t.ord, fun x _ => ((d.t.ord.length : Int) - x).toNat, ⟨0, rfl, Nat.zero_le _, by simp, fun w a c q => absurd (getD_rep (by omega)) q⟩, ?_⟩
  rintro _ p ⟨k, rfl, hk, hpl, hp⟩
  refine cnd_dec (fun hlt => ⟨by omega, hlt, fun w hw => ?_⟩) fun hlt => ?_
  · rw [Int.toNat_natCast] at hw
    have hwm := List.mem_of_getElem? hw
    have hwr := b.rng w hwm
    rw [wr (by omega) (by omega)]
    refine ⟨hwr.1, by omega, ⟨k + 1, by simp, by omega, by simpa using hpl, fun u u0 u1 hu => ?_⟩, by dsimp only; omega⟩
    rw [getD_set _ _ _ _ (by omega)] at hu
    by_cases e : w = u
    · rw [← e]; exact hwm
    · rw [if_neg (by omega)] at hu; exact hp u u0 u1 hu
  · refine ⟨fun i => ∃ k : Nat, i = k ∧ k ≤ es.length, fun i => ((es.length : Int) - i).toNat, ⟨0, rfl, Nat.zero_le _⟩, ?_⟩
    rintro _ ⟨j, rfl, hj⟩
    refine cnd_dec (fun hlt2 => ?_) fun hlt2 => ?_
    · refine ⟨True, ⟨by omega, hlt2, fun x hx => ?_⟩, fun _ => ?_⟩
      · rw [Int.toNat_natCast] at hx
        have hxr := m.e j x hx
        obtain ⟨f1, t1, f2, t2⟩ := half_of hx
        have r1 := hrel (2 * j) (by omega)
        have r2 := hrel (2 * j + 1) (by omega)
        rw [f1, t1] at r1
        rw [f2, t2] at r2
        refine ⟨x.1 ∈ d.t.ord ∨ x.2 ∈ d.t.ord, ⟨hxr.1.1, by omega, fun u hu => ?_⟩, fun hin => ?_⟩
        · have hu := getD_of hu
          refine cnd_eq (fun q => ⟨hxr.2.1, by omega, fun w hw => ?_⟩) fun q => .inl (hp _ hxr.1.1 hxr.1.2 (by rw [hu]; exact q))
          have hw := getD_of hw
          exact cnd_eq (fun _ => trivial) fun q => .inr (hp _ hxr.2.1 hxr.2.2 (by rw [hw]; exact q))
        · refine cnd_eq (fun _ => trivial) fun _ => ?_
          have hall : x.1 ∈ d.t.ord ∧ x.2 ∈ d.t.ord ∧ Rel es d.t.by' x.1 x.2 := by
            rcases hin with z | z
            · exact ⟨z, r1 z⟩
            · exact ⟨(r2 z).1, z, (r2 z).2.symm⟩
          refine okAbove m b hall.2.1 (cnd_not (fun q => by cases q) fun _ => trivial) fun q => cnd_not (fun _ => ?_) fun q => by cases q
          exact okAbove m b hall.1 (cnd_not (fun q => by cases q) fun _ => trivial) fun q2 => absurd hall.2.2 fun z => z.elim q q2
      · rw [wr (by omega) (by omega)]
        exact ⟨⟨j + 1, by simp, by omega⟩, by dsimp only; omega⟩
    · refine ⟨fun i => ∃ k : Nat, i = k ∧ 1 ≤ k ∧ k ≤ d.t.ord.length, fun i => ((d.t.ord.length : Int) - i).toNat, ⟨1, rfl, Nat.le_refl _, b.pos⟩, ?_⟩
      rintro _ ⟨j, rfl, hj1, hj⟩
      refine cnd_dec (fun hlt3 => ⟨by omega, hlt3, fun v hv => ?_⟩) fun _ => h
      rw [Int.toNat_natCast] at hv
      have hvm := List.mem_of_getElem? hv
      have hvr := b.rng v hvm
      refine ⟨hvr.1, by rw [i.ll]; omega, fun a ha => ?_⟩
      have ha := getD_of ha
      have hl := i.lw v hvm (by rw [hnp]; simp)
      rw [i.pl j v hv, ha] at hl
      refine cnd_dec (fun q => by omega) fun _ => ⟨hvr.1, by rw [b.lf]; omega, fun c hc => ⟨hvr.1, by rw [b.lb]; omega, fun e he => ?_⟩⟩
      have hc := getD_of hc
      have he := getD_of he
      have hs : v ≠ s := fun z => by
        have h2 := i.pl 0 s b.hd
        rw [← z, i.pl j v hv] at h2
        omega
      obtain ⟨hh, e1, e2, e3, e4, e5⟩ := b.tree v hvm hs
      rw [e1] at he
      subst he
      have hf := b.rng _ e4
      have bf := b.bnd _ hf.1 hf.2
      refine okFrom (by omega) (by omega) ⟨hf.1, by rw [b.lf]; omega, fun z hz => ?_⟩
      have hz := getD_of hz
      rw [hz] at e5 bf
      rw [wr (by omega) (by omega), wr (by omega) (by omega)]
      exact cnd_ne (fun q => absurd (by omega) q) fun _ => ⟨⟨j + 1, by simp, by omega, by omega⟩, by dsimp only; omega⟩
end Go.Proofs.Ytmcloipjlihhlaa.N
namespace Go.Proofs.Ytmcloipjlihhlaa
open Go.X in
theorem WalkFar_ok {g s : Int} {es : List (Int × Int)} {h : Heap} {a0 : Option Addr} {l0 c0 : Nat} (hp : Hp h [Ck.vw eP a0 l0 c0 es]) :
    CallsH Try.prog 16 #[.agg #[.int .i64 g, .slice a0 l0 c0], .int .i64 s] h fun v h' => Fr [] h h' ∧ v = .bool true :=
  (N.okFarL (R := fun b => b = true) rfl h _ _ _ hp).mono fun _ _ ⟨_, Y, e, q⟩ => ⟨Y.fr, q ▸ e⟩
open Go.X in
theorem WalkDeep_ok {g s : Int} {es : List (Int × Int)} {h : Heap} {a0 : Option Addr} {l0 c0 : Nat} (hp : Hp h [Ck.vw eP a0 l0 c0 es]) :
    CallsH Try.prog 17 #[.agg #[.int .i64 g, .slice a0 l0 c0], .int .i64 s] h fun v h' => Fr [] h h' ∧ v = .bool true :=
  (N.okDeepL (R := fun b => b = true) rfl h _ _ _ hp).mono fun _ _ ⟨_, Y, e, q⟩ => ⟨Y.fr, q ▸ e⟩
end Go.Proofs.Ytmcloipjlihhlaa
