/- Two sides and odd cycles; an edge split twice. Conditions: none. -/
import Derived.Test.YtmcloipjlihhlaaTWalkM
import Derived.Test.YtmcloipjlihhlaaNRingL
namespace Go.Proofs.Ytmcloipjlihhlaa.N
open Go.X Go.Proofs.Ytmcloipjlihhlaa
set_option maxRecDepth 100000

theorem first_ex {es : Es} : ∀ n w : Nat, w ≤ n → ∃ p : Nat, p ≤ w ∧ Reach es p w ∧ ∀ u : Nat, u < p → ¬ Reach es u p
  | 0, w, h => ⟨w, Nat.le_refl _, .start _, fun u hu => by omega⟩
  | n + 1, w, h => by
    by_cases q : ∃ u : Nat, u < w ∧ Reach es u w
    · obtain ⟨u, hu, r⟩ := q
      obtain ⟨p, h1, h2, h3⟩ := first_ex n u (by omega)
      exact ⟨p, by omega, h2.trans r, h3⟩
    · exact ⟨w, Nat.le_refl _, .start _, fun u hu r => q ⟨u, hu, r⟩⟩

theorem okCopy {g : Int} {es : Es} {R : Int → Es → Prop} (hl : es.length ≤ 1000000) (h : R g es) : Ok95 g es R := by
  apply ok95
  unfold T95
  exact ⟨by omega, h⟩
/-! ### Two colours -/
structure Two (es : Es) (f : Int → Int) : Prop where
  v : ∀ x, f x = 0 ∨ f x = 1
  e : ∀ (i : Nat) (x : Int × Int), es[i]? = some x → f x.1 ≠ f x.2
theorem Two.h {es : Es} {f : Int → Int} (t : Two es f) {h : Nat} (hh : h < 2 * es.length) : f (fromH es h) + f (toH es h) = 1 := by
  have hx := half_at (es := es) (h := h) hh
  have hne := t.e _ _ hx
  obtain ⟨a, b, c, d⟩ := half_of hx
  have : f (fromH es h) ≠ f (toH es h) := by
    have : h = 2 * (h / 2) ∨ h = 2 * (h / 2) + 1 := by omega
    rcases this with q | q
    · rw [q, a, b]; exact hne
    · rw [q, c, d]; exact hne.symm
  have := t.v (fromH es h)
  have := t.v (toH es h)
  omega
theorem Two.chain {es : Es} {f : Int → Int} (t : Two es f) {l : List Int} {u v : Int} (c : Chain es l u v) : (f u + f v + l.length) % 2 = 0 := by
  induction c with
  | nil u => have := t.v u; simp; omega
  | cons h hh _ ih =>
    have := t.h hh
    simp only [List.length_cons]
    omega
theorem Two.even {es : Es} {f : Int → Int} (t : Two es f) {l : List Int} {u : Int} (c : Chain es l u u) : l.length % 2 = 0 := by
  have := t.chain c
  have := t.v u
  omega
theorem Two.reach {es : Es} {f f' : Int → Int} (t : Two es f) (t' : Two es f') {p v : Int} (h : f p = f' p) (r : Reach es p v) : f v = f' v := by
  induction r with
  | start => exact h
  | step h hh _ ih =>
    have := t.h hh
    have := t'.h hh
    omega
theorem side_two {g : Int} {es : Es} (m : MayN g es) {side : List Int} (I : SI g es g.toNat side) : Two es fun x => side.getD x.toNat 0 := by
  refine ⟨fun x => ?_, fun i x hx => ?_⟩
  · by_cases hx : x.toNat < g.toNat
    · have a := I.two _ hx
      have b := (I.set _ hx).2 ⟨x.toNat, hx, .start _⟩
      omega
    · left
      rw [List.getD_eq_getElem?_getD, List.getElem?_eq_none (by rw [I.len]; omega)]; rfl
  · have hxr := m.e i x hx
    obtain ⟨a, b, _, _⟩ := half_of hx
    have hi := (List.getElem?_eq_some_iff.1 hx).1
    have := I.edge (2 * i) (by omega)
    rw [a, b] at this
    exact (this ((I.set _ (by omega)).2 ⟨x.1.toNat, by omega, .start _⟩)).symm
/-- Sides are told, or there are none. -/
theorem sides_or {g : Int} {es : Es} (m : MayN g es) : (∃ side, sidesM g es = (side, []) ∧ SI g es g.toNat side ∧ Two es fun x => side.getD x.toNat 0) ∨
    (∃ l u, sidesM g es = ([], l) ∧ Chain es l u u ∧ l.length % 2 = 1 ∧ HalfIn es l ∧ (edgesOf l).Nodup ∧ ∀ f, ¬ Two es f) := by
  unfold sidesM
  cases hs : sK g es g.toNat with
  | inl side =>
    have I := sK_SI m _ (Nat.le_refl _) hs
    exact .inl ⟨side, rfl, I, side_two m I⟩
  | inr l =>
    obtain ⟨u, c, h1, h2, h3, _⟩ := sK_round m _ (Nat.le_refl _) hs
    exact .inr ⟨l, u, rfl, c, h1, h2, h3, fun f t => by have := t.even c; omega⟩

/-! ### No cycle, no odd round -/
theorem chain_erase {es : Es} {e : Nat} (he : e < es.length) : ∀ {l : List Int} {u v : Int}, Chain es l u v → e ∉ edgesOf l → Reach (es.eraseIdx e) u v := by
  intro l u v c
  induction c with
  | nil => exact fun _ => .start _
  | cons h hh _ ih =>
    intro hn
    have h1 : h / 2 ≠ e := fun z => hn (by simp [edgesOf, z])
    have h2 := ih fun z => hn (by simp only [edgesOf, List.map_cons, List.mem_cons] at z ⊢; exact .inr z)
    have := Reach.one (unrho_lt he hh h1)
    rw [← from_rho, ← to_rho, rho_unrho h1] at this
    exact this.trans h2
theorem shortK_zero {g : Int} {es : Es} : ∀ k, shortK g es k = 0 → ∀ j, j < k → farE g es j < 0
  | 0, _, j, hj => by omega
  | k + 1, h, j, hj => by
    have sn := shortK_nonneg (g := g) (es := es) k
    rw [shortK] at h
    split at h
    · rename_i q; omega
    · rename_i q
      by_cases z : j = k
      · subst z
        apply Int.lt_of_not_ge
        intro y
        exact q ⟨y, .inl h⟩
      · exact shortK_zero k h j (by omega)
theorem odd_ring {g : Int} {es : Es} (m : MayN g es) {l : List Int} {u : Int} (c : Chain es l u u) (ho : l.length % 2 = 1) (hn : (edgesOf l).Nodup) : (ringM g es).2 = 0 := by
  obtain ⟨h1, h2⟩ := ring_short m es.length (Nat.le_refl _)
  unfold ringM
  cases hr : rK g es es.length with
  | inr l => rfl
  | inl best =>
    obtain ⟨a, _, _⟩ := h1 best hr
    cases best with
    | cons => rfl
    | nil =>
      exfalso
      have a : shortK g es es.length = 0 := by simpa using a.symm
      cases c with
      | nil => simp at ho
      | cons h hh c2 =>
        have hn : (((h : Nat) : Int).toNat / 2 :: edgesOf _).Nodup := hn
        rw [List.nodup_cons, Int.toNat_natCast] at hn
        have hlt : h / 2 < es.length := by omega
        have r := chain_erase hlt c2 hn.1
        have hf := shortK_zero _ a (h / 2) hlt
        have hx := half_at (es := es) (h := h) hh
        have hxr := m.e _ _ hx
        have m' := may_erase m (h / 2)
        have no := bfs_no m' hxr.1.1 hxr.1.2 hxr.2.1 hxr.2.2
        obtain ⟨e1, e2, e3, e4⟩ := half_of hx
        have : Reach (es.eraseIdx (h / 2)) (es.getD (h / 2) (0, 0)).1 (es.getD (h / 2) (0, 0)).2 := by
          have : h = 2 * (h / 2) ∨ h = 2 * (h / 2) + 1 := by omega
          rcases this with q | q
          · rw [q, e1, e2, ← q] at r; exact r.symm
          · rw [q, e3, e4, ← q] at r; exact r
        have := no.2 this
        have : 0 ≤ farE g es (h / 2) := this
        omega

/-! ### An edge split -/
def splitE (g : Int) (es : Es) (k : Nat) : Es := es.set k ((es.getD k (0, 0)).1, g) ++ [(g, (es.getD k (0, 0)).2)]
theorem splitE_len (g : Int) (es : Es) (k : Nat) : (splitE g es k).length = es.length + 1 := by simp [splitE]
theorem splitE_may {g : Int} {es : Es} {k : Nat} (m : MayN g es) (hk : k < es.length) (hg : g ≤ 1023) (hl : es.length ≤ 3071) : mayB (g + 1) (splitE g es k) = true := by
  have g0 := m.g0
  have hx : es[k]? = some (es.getD k (0, 0)) := by simp [List.getD, List.getElem?_eq_getElem hk]
  have hxr := m.e k _ hx
  refine mayB_iff.2 ⟨by omega, by rw [splitE_len]; omega, fun e he => ?_⟩
  rcases List.mem_append.1 he with he | he
  · obtain ⟨i, hi, e1⟩ := List.getElem_of_mem he
    rw [List.getElem_set] at e1
    split at e1
    · subst e1; exact endB_iff.2 ⟨⟨hxr.1.1, by omega⟩, by omega, by omega⟩
    · have := m.e i e (by rw [List.getElem?_eq_getElem (by simpa using hi), e1])
      exact endB_iff.2 ⟨⟨this.1.1, by omega⟩, this.2.1, by omega⟩
  · have : e = (g, (es.getD k (0, 0)).2) := by simpa using he
    subst this
    exact endB_iff.2 ⟨⟨by omega, by omega⟩, hxr.2.1, by omega⟩
theorem okSplitR {g : Int} {es : Es} {k : Nat} {R : Int → Es → Int → Prop} (m : MayN g es) (hk : k < es.length) (hg : g ≤ 1023) (hl : es.length ≤ 3071) (h : R (g + 1) (splitE g es k) 0) : Ok96 g es k R := by
  apply ok96
  unfold T96
  have g0 := m.g0
  refine cnd_dec (fun q => by omega) fun _ => cnd_dec (fun q => by omega) fun _ => okCopy (by omega) ⟨by omega, by omega, fun x hx => ⟨by omega, by omega, fun y hy => ⟨by omega, ?_⟩⟩⟩
  rw [Int.toNat_natCast] at hx hy
  have ex : es.getD k (0, 0) = x := by simp [List.getD, hx]
  rw [hx] at hy
  obtain rfl := Option.some.inj hy
  have e : es.set ((k : Nat) : Int).toNat (x.1, g) ++ [(g, x.2)] = splitE g es k := by unfold splitE; rw [ex, Int.toNat_natCast]
  rw [e, wr (by omega) (by omega)]
  exact okMayR (cnd_not (fun q => absurd q (by rw [splitE_may m hk hg hl]; decide)) fun _ => h)
/-- An edge split twice, its parts. -/
theorem split2 {g : Int} {es : Es} {k : Nat} (hk : k < es.length) : splitE (g + 1) (splitE g es k) k = es.set k ((es.getD k (0, 0)).1, g + 1) ++ [(g, (es.getD k (0, 0)).2)] ++ [(g + 1, g)] := by
  have e : (splitE g es k).getD k (0, 0) = ((es.getD k (0, 0)).1, g) := by
    unfold splitE
    rw [List.getD_eq_getElem?_getD, List.getElem?_append_left (by simpa using hk), List.getElem?_set, if_pos rfl, if_pos hk]; rfl
  have e2 : splitE (g + 1) (splitE g es k) k = (splitE g es k).set k (((splitE g es k).getD k (0, 0)).1, g + 1) ++ [(g + 1, ((splitE g es k).getD k (0, 0)).2)] := rfl
  rw [e2, e]
  unfold splitE
  rw [List.set_append_left _ _ (by simpa using hk), List.set_set]
theorem split_at {g : Int} {es : Es} {k : Nat} (hk : k < es.length) {i : Nat} {x : Int × Int} (h : (splitE (g + 1) (splitE g es k) k)[i]? = some x) :
    (i ≠ k ∧ i < es.length ∧ es[i]? = some x) ∨ x = ((es.getD k (0, 0)).1, g + 1) ∨ x = (g, (es.getD k (0, 0)).2) ∨ x = (g + 1, g) := by
  have hm := List.mem_of_getElem? h
  rw [split2 hk] at h hm
  by_cases hi : i < es.length
  · rw [List.append_assoc, List.getElem?_append_left (by simpa using hi), List.getElem?_set] at h
    by_cases q : k = i
    · subst q
      rw [if_pos rfl, if_pos hk] at h
      exact .inr (.inl (Option.some.inj h).symm)
    · rw [if_neg q] at h
      exact .inl ⟨fun z => q z.symm, hi, h⟩
  · rw [List.append_assoc, List.getElem?_append_right (by simp; omega)] at h
    have := List.mem_of_getElem? h
    simp at this
    rcases this with q | q
    · exact .inr (.inr (.inl q))
    · exact .inr (.inr (.inr q))
theorem split_get {g : Int} {es : Es} {k : Nat} (hk : k < es.length) : (∀ i x, i ≠ k → es[i]? = some x → (splitE (g + 1) (splitE g es k) k)[i]? = some x) ∧ (splitE (g + 1) (splitE g es k) k)[k]? = some ((es.getD k (0, 0)).1, g + 1) ∧
    (splitE (g + 1) (splitE g es k) k)[es.length]? = some (g, (es.getD k (0, 0)).2) ∧ (splitE (g + 1) (splitE g es k) k)[es.length + 1]? = some (g + 1, g) := by
  rw [split2 hk]
  refine ⟨fun i x hi hx => ?_, ?_, ?_, ?_⟩
  · have := (List.getElem?_eq_some_iff.1 hx).1
    rw [List.append_assoc, List.getElem?_append_left (by simpa using this), List.getElem?_set, if_neg (fun z => hi z.symm)]; exact hx
  · rw [List.append_assoc, List.getElem?_append_left (by simpa using hk), List.getElem?_set, if_pos rfl, if_pos hk]
  · rw [List.append_assoc, List.getElem?_append_right (by simp)]; simp
  · rw [List.append_assoc, List.getElem?_append_right (by simp)]; simp
theorem two_down {g : Int} {es : Es} {k : Nat} (hk : k < es.length) {f : Int → Int} (t : Two (splitE (g + 1) (splitE g es k) k) f) : Two es f := by
  obtain ⟨a, b, c, d⟩ := split_get (g := g) hk
  refine ⟨t.v, fun i x hx => ?_⟩
  by_cases q : i = k
  · subst q
    have ex : es.getD i (0, 0) = x := by simp [List.getD, hx]
    rw [ex] at b c
    have e1 := t.e _ _ b
    have e2 := t.e _ _ c
    have e3 := t.e _ _ d
    have v1 := t.v x.1
    have v2 := t.v x.2
    have v3 := t.v g
    have v4 := t.v (g + 1)
    dsimp only at e1 e2 e3
    omega
  · exact t.e i x (a i x q hx)
theorem two_up {g : Int} {es : Es} {k : Nat} (m : MayN g es) (hk : k < es.length) {f : Int → Int} (t : Two es f) : ∃ f', Two (splitE (g + 1) (splitE g es k) k) f' := by
  have hx : es[k]? = some (es.getD k (0, 0)) := by simp [List.getD, List.getElem?_eq_getElem hk]
  have hxr := m.e k _ hx
  have hne := t.e k _ hx
  generalize hX : es.getD k (0, 0) = X at *
  have va := t.v X.1
  have vb := t.v X.2
  refine ⟨fun x => if x = g + 1 then 1 - f X.1 else if x = g then f X.1 else f x, fun x => ?_, fun i x hi => ?_⟩
  · split
    · omega
    · split
      · exact va
      · exact t.v x
  · rcases split_at hk hi with ⟨h1, h2, h3⟩ | h1 | h1 | h1
    · have := m.e i x h3
      rw [if_neg (by omega), if_neg (by omega), if_neg (by omega), if_neg (by omega)]
      exact t.e i x h3
    · subst h1
      rw [hX]
      dsimp only
      rw [if_neg (by omega), if_neg (by omega), if_pos rfl]
      omega
    · subst h1
      rw [hX]
      dsimp only
      rw [if_neg (by omega), if_pos rfl, if_neg (by omega), if_neg (by omega)]
      exact hne
    · subst h1
      dsimp only
      rw [if_pos rfl, if_neg (by omega), if_pos rfl]
      omega
/-- Ways in the split net lead along ways in the old one. -/
theorem split_reach {g : Int} {es : Es} {k : Nat} (m : MayN g es) (hk : k < es.length) {a b : Int} (r : Reach (splitE (g + 1) (splitE g es k) k) a b) :
    Reach es (if g ≤ a then (es.getD k (0, 0)).1 else a) (if g ≤ b then (es.getD k (0, 0)).1 else b) := by
  have hx : es[k]? = some (es.getD k (0, 0)) := by simp [List.getD, List.getElem?_eq_getElem hk]
  have hxr := m.e k _ hx
  induction r with
  | start => exact .start _
  | step h hh _ ih =>
    refine ih.trans ?_
    have hy := half_at (es := splitE (g + 1) (splitE g es k) k) (h := h) hh
    obtain ⟨e1, e2, e3, e4⟩ := half_of hy
    generalize (splitE (g + 1) (splitE g es k) k).getD (h / 2) (0, 0) = y at *
    have main : Reach es (if g ≤ y.1 then (es.getD k (0, 0)).1 else y.1) (if g ≤ y.2 then (es.getD k (0, 0)).1 else y.2) := by
      rcases split_at hk hy with ⟨h1, h2, h3⟩ | h1 | h1 | h1
      · have yr := m.e _ _ h3
        rw [if_neg (by omega), if_neg (by omega)]
        obtain ⟨f1, f2, _, _⟩ := half_of h3
        have := Reach.one (es := es) (h := 2 * (h / 2)) (by omega)
        rw [f1, f2] at this
        exact this
      · subst h1
        dsimp only
        rw [if_neg (by omega), if_pos (by omega)]; exact .start _
      · subst h1
        dsimp only
        rw [if_pos (by omega), if_neg (by omega)]
        obtain ⟨f1, f2, _, _⟩ := half_of hx
        have := Reach.one (es := es) (h := 2 * k) (by omega)
        rw [f1, f2] at this
        exact this
      · subst h1
        dsimp only
        rw [if_pos (by omega), if_pos (by omega)]; exact .start _
    have : h = 2 * (h / 2) ∨ h = 2 * (h / 2) + 1 := by omega
    rcases this with q | q
    · rw [q, e1, e2]; exact main
    · rw [q, e3, e4]; exact main.symm
theorem okIntsR {a b : List Int} {R : Bool → Prop} (hl : a.length ≤ 1000000) (e : a = b) (h : R true) : Ok68 a b R := by
  subst e
  apply ok68
  unfold T68
  refine cnd_ne (fun q => absurd rfl q) fun _ => ⟨fun i => ∃ k : Nat, i = k ∧ k ≤ a.length, fun i => ((a.length : Int) - i).toNat, ⟨0, rfl, Nat.zero_le _⟩, ?_⟩
  rintro _ ⟨i, rfl, hi⟩
  refine cnd_dec (fun hlt => ⟨by omega, hlt, fun x hx => ⟨by omega, hlt, fun y hy => ?_⟩⟩) fun _ => h
  rw [hx] at hy
  obtain rfl := Option.some.inj hy
  rw [wr (by omega) (by omega)]
  exact cnd_ne (fun q => absurd rfl q) fun _ => ⟨⟨i + 1, by simp, by omega⟩, by dsimp only; omega⟩
theorem okOddL {g ev : Int} {es : Es} {R : Bool → Prop} (h : R true) : Ok21 g es ev R := by
  apply ok21
  unfold T21
  refine okBegunW (cnd_not (fun q => by cases q) fun _ => ⟨True, okMayR (cnd_not (fun _ => trivial) fun q => ?_), fun _ => h⟩)
  refine cnd_eq (fun _ => trivial) fun l0 => cnd_dec (fun _ => trivial) fun l1 => cnd_dec (fun _ => trivial) fun g1 => cnd_dec (fun _ => h) fun e0 => ?_
  have m := mayN q
  have g0 := m.g0
  refine okSides (fun q2 => absurd q2 (by rw [q]; decide)) fun _ => okRing (fun q2 => absurd q2 (by rw [q]; decide)) fun _ => ?_
  obtain ⟨k, hk, ek⟩ : ∃ k : Nat, k < es.length ∧ Int.tmod ev ((es.length : Nat) : Int) = k := by
    refine ⟨ev.toNat % es.length, Nat.mod_lt _ (by omega), ?_⟩
    rw [Int.tmod_eq_emod_of_nonneg (by omega)]
    have : ev = ((ev.toNat : Nat) : Int) := by omega
    rw [this]
    exact (Int.natCast_emod _ _).symm
  rw [ek]
  have q1 := splitE_may m hk (by omega) (by omega)
  have m1 := mayN q1
  have l1' := splitE_len g es k
  have q2 := splitE_may m1 (k := k) (by omega) (by omega) (by omega)
  have m2 := mayN q2
  have rest : ∀ S : List Int × List Int, (S.2.length = 0 → ∃ side, S = (side, []) ∧ SI g es g.toNat side ∧ Two es fun x => side.getD x.toNat 0) → (S.2.length ≠ 0 → ∀ f, ¬ Two es f) →
      ((es.length : Nat) : Int) ≠ 0 ∧ Ok96 g es k (fun ra ra_4 rb2 => Ok96 ra ra_4 k (fun ra2 ra_5 rb3 => Ok90 ra2 ra_5 (fun ra_6 rb_3 rc2 =>
               cnd (rc2 == (0 : Int))
                 (cnd ((((S.2.length : Nat) : Int) == (0 : Int)) == (((rb_3.length : Nat) : Int) == (0 : Int)))
                   (cnd (decide (((S.2.length : Nat) : Int) > (0 : Int)))
                     (R true)
                     (cnd (((ra_6.length : Nat) : Int) == (IntKind.i64.wrap (g + (2 : Int))))
                       (0 ≤ g ∧ g ≤ ((ra_6.length : Nat) : Int) ∧ Ok68 (ra_6.take (Int.toNat g)) S.1 (fun r3 =>
                       R r3))
                       (R false)))
                   (R false))
                 (R false)))) := fun S hS0 hS1 => by
    refine ⟨by omega, okSplitR m hk (by omega) (by omega) (okSplitR m1 (by omega) (by omega) (by omega) (okSides (fun q3 => absurd q3 (by rw [q2]; decide)) fun _ => cnd_eq (fun _ => ?_) fun z => absurd rfl z))⟩
    rcases sides_or m2 with ⟨side, e, I, t⟩ | ⟨l, u, e, c, ho, _, _, no⟩
    · rw [e]
      by_cases z : S.2.length = 0
      · obtain ⟨s0, rfl, I0, t0⟩ := hS0 z
        refine cnd_b (fun _ => cnd_dec (fun z => by simp at z) fun _ => ?_) fun z => by simp at z
        have tl : side.length = (g + 1 + 1).toNat := I.len
        rw [wr (by omega) (by omega)]
        refine cnd_eq (fun _ => ⟨g0, by dsimp only; omega, okIntsR (by simp; omega) ?_ h⟩) fun z => absurd (by dsimp only; omega) z
        -- the same sides
        apply List.ext_getElem?
        intro i
        rw [List.getElem?_take]
        by_cases hi : i < g.toNat
        · rw [if_pos hi]
          have td := two_down hk t
          obtain ⟨p, hp1, hp2, hp3⟩ := first_ex (es := es) i i (Nat.le_refl _)
          have f0 := I0.first p (by omega) (by omega) hp3
          have f1 := I.first p (by omega) (by omega) fun u hu r => by
            have := split_reach m hk r
            rw [if_neg (by omega), if_neg (by omega)] at this
            exact hp3 u hu this
          have same := t0.reach td (p := (p : Int)) (v := (i : Int)) (by
            rw [Int.toNat_natCast, f0, f1]) hp2
          rw [Int.toNat_natCast] at same
          have a1 : s0[i]? = some (s0.getD i 0) := by rw [List.getD_eq_getElem?_getD, List.getElem?_eq_getElem (by rw [I0.len]; omega)]; rfl
          have a2 : side[i]? = some (side.getD i 0) := by rw [List.getD_eq_getElem?_getD, List.getElem?_eq_getElem (by omega)]; rfl
          rw [a1, a2, same]
        · rw [if_neg hi, List.getElem?_eq_none (by rw [I0.len]; omega)]
      · exact absurd (two_down hk t) (hS1 z _)
    · rw [e]
      by_cases z : S.2.length = 0
      · obtain ⟨s0, rfl, I0, t0⟩ := hS0 z
        obtain ⟨f', t'⟩ := two_up m hk t0
        exact absurd t' (no f')
      · refine cnd_b (fun _ => cnd_dec (fun _ => h) fun y => by omega) fun y => ?_
        have a1 : (((S.2.length : Nat) : Int) == 0) = false := by simpa using z
        have a2 : (((l.length : Nat) : Int) == 0) = false := by simp; intro w; rw [w] at ho; simp at ho
        simp only [a1, a2] at y
        cases y
  rcases sides_or m with ⟨side, e, I, t⟩ | ⟨l, u, e, c, ho, hh, hnd, no⟩
  · rw [e]
    refine ⟨True, ⟨True, fun _ => cnd_dec (fun z => by simp at z) fun _ => trivial, cnd_eq (fun _ => cnd_eq (fun zr => ⟨by decide, cnd_eq (fun zo => ?_) fun _ => cnd_dec (fun z => by simp at z) fun _ => trivial⟩) fun _ => trivial) fun _ => trivial⟩, fun _ => rest (side, []) (fun _ => ⟨side, rfl, I, t⟩) fun z => absurd rfl z⟩
    exfalso
    rw [Int.tmod_eq_emod_of_nonneg (by omega)] at zo
    obtain ⟨h1, h2⟩ := ring_short m es.length (Nat.le_refl _)
    have even : ∀ r : List Int, RingOK es r → r.length % 2 = 0 := fun r ok => by
      obtain ⟨u, c⟩ := ok.c
      exact t.even c
    cases hr : rK g es es.length with
    | inr r =>
      have e2 : ringM g es = (r, 0) := by unfold ringM; rw [hr]
      rw [e2] at zo
      have := even r (h2 r hr).2.2
      dsimp only at zo
      omega
    | inl best =>
      cases best with
      | nil =>
        have e2 : ringM g es = ([], 14) := by unfold ringM; rw [hr]; rfl
        rw [e2] at zo
        simp at zo
      | cons b bs =>
        have e2 : ringM g es = (b :: bs, 0) := by unfold ringM; rw [hr]; rfl
        rw [e2] at zo
        have := even (b :: bs) ((h1 _ hr).2.1 (by simp))
        dsimp only at zo
        omega
  · rw [e]
    have hr := odd_ring m c ho hnd
    refine ⟨True, ⟨True, fun _ => cnd_dec (fun _ => cnd_ne (fun z => absurd hr z) fun _ => trivial) fun _ => trivial, cnd_eq (fun z => ?_) fun _ => trivial⟩, fun _ => rest ([], l) (fun z => ?_) fun _ => no⟩
    · dsimp only at z; omega
    · dsimp only at z; omega
end Go.Proofs.Ytmcloipjlihhlaa.N
namespace Go.Proofs.Ytmcloipjlihhlaa
open Go.X in
theorem WalkOdd_ok {g e : Int} {es : List (Int × Int)} {h : Heap} {a0 : Option Addr} {l0 c0 : Nat} (hp : Hp h [Ck.vw eP a0 l0 c0 es]) :
    CallsH Try.prog 21 #[.agg #[.int .i64 g, .slice a0 l0 c0], .int .i64 e] h fun v h' => Fr [] h h' ∧ v = .bool true :=
  (N.okOddL (R := fun b => b = true) rfl h _ _ _ hp).mono fun _ _ ⟨_, Y, e, q⟩ => ⟨Y.fr, q ▸ e⟩
end Go.Proofs.Ytmcloipjlihhlaa
