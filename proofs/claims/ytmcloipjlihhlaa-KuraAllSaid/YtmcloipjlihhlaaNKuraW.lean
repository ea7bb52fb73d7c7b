/- Package kura: what it answers; what is begun. Conditions: none. -/
import Derived.Test.YtmcloipjlihhlaaNKuraG
import Derived.Test.YtmcloipjlihhlaaTKuraL
import Derived.Test.YtmcloipjlihhlaaNKinds2
set_option linter.unusedSimpArgs false
set_option linter.unusedVariables false
namespace Go.Proofs.Ytmcloipjlihhlaa.N
open Go.X Go.Proofs.Ytmcloipjlihhlaa
set_option maxRecDepth 100000

section
variable {g : Int} {es : Es} {sel : List Int}
theorem okKindK {R : Int → Int → Prop} (hs : sel.length ≤ 1000000) (b0 : mayB g es = false → R 0 1) (bad : mayB g es = true → ¬ ChosenK es.length sel → R 0 2 ∧ R 0 18)
    (z : mayB g es = true → ChosenK es.length sel → (¬ ∃ k b p, Good g es sel k b p) → R 0 0) (s : mayB g es = true → ChosenK es.length sel → ∀ k b p, Good g es sel k b p → R k 0) : Ok64 g es sel R := by
  apply ok64
  unfold T64
  refine okFaultyK hs (fun q => cnd_ne (fun _ => b0 q) fun z => absurd z (by decide)) (fun q c => ⟨cnd_ne (fun _ => (bad q c).1) fun z => absurd z (by decide), cnd_ne (fun _ => (bad q c).2) fun z => absurd z (by decide)⟩) fun q c => cnd_ne (fun z => absurd rfl z) fun _ => ?_
  exact okOf (mayN q) c hs (fun n _ _ => z q c n) fun k b p y => s q c k b p y
/-- A form that is one. -/
theorem okFound {k : Int} {b : List Int} {p : List (List Int)} {R : Bool → Int → List (List Int) → List Int → List (List Int) → Int → Int → Prop} (hs : sel.length ≤ 1000000) (q : mayB g es = true) (c : ChosenK es.length sel) (hk : k ≠ 0) (y : Good g es sel k b p)
    (u : ∀ k' b' p', Good g es sel k' b' p' → R false g (outsF g es sel) b' p' k' 0) : Ok158 g es sel R := by
  apply ok158
  unfold T158
  refine okFaultyK hs (fun w => by rw [q] at w; cases w) (fun _ w => absurd c w) fun _ _ => cnd_ne (fun z => absurd rfl z) fun _ => ?_
  refine okOf (mayN q) c hs (fun n => absurd ⟨k, b, p, y⟩ n) fun k' b' p' y' => cnd_eq (fun z => ?_) fun _ => u k' b' p' y'
  rcases y' with ⟨e, _⟩ | ⟨e, _⟩ <;> rw [e] at z <;> cases z
end
theorem okUpto {n : Int} {R : List Int → Prop} (h0 : 0 ≤ n) (h1 : n ≤ 1000000) (h : R ((List.range n.toNat).map fun i : Nat => (i : Int))) : Ok111 n R := by
  apply ok111
  unfold T111
  refine ⟨fun l i => ∃ k : Nat, i = k ∧ (k : Int) ≤ n ∧ l = (List.range k).map fun i : Nat => (i : Int), fun _ i => (n - i).toNat, ⟨0, rfl, h0, rfl⟩, ?_⟩
  rintro _ _ ⟨k, rfl, hk, rfl⟩
  refine cnd_dec (fun hlt => ⟨by simp; omega, ?_⟩) fun hlt => ?_
  · rw [wr (by omega) (by omega)]
    refine ⟨⟨k + 1, by simp, by omega, ?_⟩, by dsimp only; omega⟩
    rw [List.range_succ, List.map_append]; rfl
  · have : k = n.toNat := by omega
    subst this; exact h
def k5 : Es := [(0, 1), (0, 2), (0, 3), (0, 4), (1, 2), (1, 3), (1, 4), (2, 3), (2, 4), (3, 4)]
def k33 : Es := [(0, 3), (0, 4), (0, 5), (1, 3), (1, 4), (1, 5), (2, 3), (2, 4), (2, 5)]
def sel10 : List Int := [0, 1, 2, 3, 4, 5, 6, 7, 8, 9]
def sel9 : List Int := [0, 1, 2, 3, 4, 5, 6, 7, 8]
theorem k5_may : mayB 5 k5 = true := by decide
theorem k33_may : mayB 6 k33 = true := by decide
theorem sel10_ok : ChosenK k5.length sel10 := ⟨by decide, by decide⟩
theorem sel9_ok : ChosenK k33.length sel9 := ⟨by decide, by decide⟩
def selB (es : Es) (paths : List (List Int)) (pairs : List (Int × Int)) (ix : List Nat) : Bool := (List.range ix.length).all fun j => decide (betw es paths (pairs.getD j (0, 0)).1 (pairs.getD j (0, 0)).2 = some (ix.getD j 0))
theorem sel_of {es : Es} {paths : List (List Int)} {pairs : List (Int × Int)} {ix : List Nat} (h : selB es paths pairs ix = true) : Sel es paths pairs ix := by
  intro j i q hj hq
  unfold selB at h
  rw [List.all_eq_true] at h
  have hlt := (List.getElem?_eq_some_iff.1 hj).1
  have := of_decide_eq_true (h j (List.mem_range.2 hlt))
  rw [List.getD_eq_getElem?_getD, List.getD_eq_getElem?_getD, hj, hq] at this
  exact this
def allB (outs : List (List Int)) (d : Int) : Bool := outs.all fun l => !brP l || decide ((l.length : Int) = d)
theorem all_of {outs : List (List Int)} {d : Int} (h : allB outs d = true) : ∀ (v : Nat) (l : List Int), outs[v]? = some l → brP l = true → (l.length : Int) = d := by
  intro v l hv hp
  unfold allB at h
  rw [List.all_eq_true] at h
  have := h l (List.mem_of_getElem? hv)
  rw [hp] at this
  simpa using this
theorem k5_good : ∃ p, p.length = 10 ∧ Good 5 k5 sel10 5 [0, 1, 2, 3, 4] p := by
  refine ⟨_, ?_, .inl ⟨rfl, ⟨.inl ⟨rfl, rfl⟩, all_of (by decide +kernel), by decide +kernel⟩, by decide +kernel, [0, 1, 2, 3, 5, 6, 7, 10, 11, 15], by decide +kernel, sel_of (by decide +kernel), rfl⟩⟩
  rfl
end Go.Proofs.Ytmcloipjlihhlaa.N

/- Package kura: an edge more, or less, is none; law KuraLess. Conditions: none. -/
set_option linter.unusedSimpArgs false
set_option linter.unusedVariables false
namespace Go.Proofs.Ytmcloipjlihhlaa.N
open Go.X Go.Proofs.Ytmcloipjlihhlaa
set_option maxRecDepth 100000

theorem Good.br {g k : Int} {es : Es} {sel b : List Int} {p : List (List Int)} (y : Good g es sel k b p) : ∃ d b0, BrOK (outsF g es sel) d b0 ∧ totL (pathsB g es sel b0) = 2 * sel.length := by
  rcases y with ⟨_, y, t, _⟩ | ⟨_, u, rest, y, t, _⟩
  · exact ⟨_, _, y, t⟩
  · exact ⟨_, _, y, t⟩
section
variable {g : Int} {es : Es} {sel : List Int}
theorem BrOK.nd {outs : List (List Int)} {d : Int} {b : List Int} (z : BrOK outs d b) : b.Nodup := by
  rw [z.eq]; exact brL_nodup _ _
end
section
variable {g e : Int} {es : Es} {A B : List Int}
end

theorem filter_two {β : Type} (f : β → Bool) : ∀ l : List β, (l.filter f).length + (l.filter fun x => !f x).length = l.length
  | [] => rfl
  | x :: l => by
    have := filter_two f l
    rw [List.filter_cons, List.filter_cons]
    cases f x <;> simp <;> omega
def idxL (v : Int) : List Int → Nat → Int
  | [], _ => -1
  | x :: r, n => if v = x then n else idxL v r (n + 1)
theorem idxL_drop {v : Int} {l : List Int} {n : Nat} {x : Int} (h : l[n]? = some x) : idxL v (l.drop n) n = if v = x then (n : Int) else idxL v (l.drop (n + 1)) (n + 1) := by
  have hl := (List.getElem?_eq_some_iff.1 h).1
  rw [List.drop_eq_getElem_cons hl, idxL]
  obtain rfl : l[n] = x := (List.getElem?_eq_some_iff.1 h).2
  rfl
theorem okIdx {v : Int} {l : List Int} {R : Int → Prop} (hl : l.length ≤ 1000000) (h : R (idxL v l 0)) : Ok160 l v R := by
  apply ok160
  unfold T160
  refine ⟨fun i => ∃ k : Nat, i = k ∧ k ≤ l.length ∧ idxL v l 0 = idxL v (l.drop k) k, fun i => ((l.length : Int) - i).toNat, ⟨0, rfl, Nat.zero_le _, rfl⟩, ?_⟩
  rintro _ ⟨k, rfl, hk, hi⟩
  refine cnd_dec (fun hlt => ⟨by omega, hlt, fun s hs => ?_⟩) fun hlt => ?_
  · rw [Int.toNat_natCast] at hs
    rw [idxL_drop hs] at hi
    refine cnd_eq (fun q => ?_) fun q => ?_
    · rw [if_pos q] at hi
      rw [← hi]; exact h
    · rw [if_neg q] at hi
      rw [wr (by omega) (by omega)]
      exact ⟨⟨k + 1, by simp, by omega, hi⟩, by dsimp only; omega⟩
  · rw [List.drop_of_length_le (by omega)] at hi
    have : idxL v l 0 = -1 := hi
    rw [this] at h; exact h
section
variable {g : Int} {es : Es} {sel : List Int}
theorem okBranch {k : Int} {b : List Int} {p : List (List Int)} {R : List Int → Int → Prop} (hs : sel.length ≤ 1000000) (q : mayB g es = true) (c : ChosenK es.length sel) (hk : k ≠ 0) (y : Good g es sel k b p)
    (u : ∀ k' b' p', Good g es sel k' b' p' → R b' 0) : Ok65 g es sel R := by
  apply ok65
  unfold T65
  exact okFound hs q c hk y fun k' b' p' y' => cnd_b (fun z => by cases z) fun _ => cnd_ne (fun z => absurd rfl z) fun _ => u k' b' p' y'
theorem okPaths {k : Int} {b : List Int} {p : List (List Int)} {R : List (List Int) → Int → Prop} (hs : sel.length ≤ 1000000) (q : mayB g es = true) (c : ChosenK es.length sel) (hk : k ≠ 0) (y : Good g es sel k b p)
    (u : ∀ k' b' p', Good g es sel k' b' p' → R p' 0) : Ok66 g es sel R := by
  apply ok66
  unfold T66
  exact okFound hs q c hk y fun k' b' p' y' => cnd_b (fun z => by cases z) fun _ => cnd_ne (fun z => absurd rfl z) fun _ => u k' b' p' y'
/-- What a path shrinks to. -/
def shr (es : Es) (b p : List Int) : Int × Int := (idxL (endsP es p).1 b 0, idxL (endsP es p).2 b 0)
theorem sel_paths {paths : List (List Int)} {pairs : List (Int × Int)} {ix : List Nat} (hl : ix.length = pairs.length) (s : Sel es paths pairs ix) : ∀ x ∈ ix.map fun i => paths.getD i [], x ∈ paths := by
  intro x hx
  obtain ⟨i, hi, rfl⟩ := List.mem_map.1 hx
  obtain ⟨j, hj⟩ := List.mem_iff_getElem?.1 hi
  have hjl := (List.getElem?_eq_some_iff.1 hj).1
  have := (s.ends hj (List.getElem?_eq_getElem (show j < pairs.length by omega))).1
  rw [List.getD_eq_getElem?_getD, List.getElem?_eq_getElem this]
  exact List.getElem_mem this
theorem Good.paths_ok (m : MayN g es) (c : ChosenK (es.length : Int) sel) {k : Int} {b : List Int} {p : List (List Int)} (y : Good g es sel k b p) : (∀ x ∈ p, HIn es x ∧ x.length ≤ 2 * es.length + 1) ∧ b.length ≤ 6 ∧ p.length ≤ 36 := by
  rcases y with ⟨_, y, t, ix, h1, h2, rfl⟩ | ⟨_, u, rest, y, t, h3, rfl, ix, h1, h2, rfl⟩
  · have hb := (brOK_len y).1
    refine ⟨fun x hx => pathsB_ok m c y (fun v hv => hv) x (sel_paths h1 h2 x hx), hb, ?_⟩
    have lp : ∀ n, n ≤ b.length → (preP b n).length ≤ n * b.length := by
      intro n
      induction n with
      | zero => simp [preP]
      | succ n ih =>
        intro hn
        have := ih (by omega)
        rw [preP_succ, List.length_append, List.length_map, List.length_drop, Nat.add_mul]; omega
    have := lp b.length (Nat.le_refl _)
    have : b.length * b.length ≤ 6 * 6 := Nat.mul_le_mul hb hb
    rw [List.length_map]; omega
  · have hb := (brOK_len y).1
    rw [List.length_cons] at hb
    have la : (sideA es (pathsB g es sel (u :: rest)) u rest).length ≤ 6 := by
      unfold sideA
      rw [List.length_cons]
      have := List.length_filter_le (isNo es (pathsB g es sel (u :: rest)) u) rest
      omega
    refine ⟨fun x hx => pathsB_ok m c y (fun v hv => hv) x (sel_paths h1 h2 x hx), ?_, ?_⟩
    · have hsum : (rest.filter (isNo es (pathsB g es sel (u :: rest)) u)).length + (rest.filter fun v => !isNo es (pathsB g es sel (u :: rest)) u v).length = rest.length := by
        have := filter_two (isNo es (pathsB g es sel (u :: rest)) u) rest
        omega
      rw [List.length_append]
      unfold sideA sideB
      rw [List.length_cons]
      omega
    · rw [List.length_map, h1, pairsOf_len, h3]
      omega
theorem okShrink {k : Int} {b : List Int} {p : List (List Int)} {R : Int → Es → Int → Prop} (hs : sel.length ≤ 1000000) (q : mayB g es = true) (c : ChosenK es.length sel) (hk : k ≠ 0) (y : Good g es sel k b p)
    (u : ∀ k' b' p', Good g es sel k' b' p' → R (b'.length : Nat) (p'.map (shr es b')) 0) : Ok67 g es sel R := by
  have m := mayN q
  have mm := m.m
  apply ok67
  unfold T67
  refine okFound hs q c hk y fun k' b' p' y' => cnd_b (fun z => by cases z) fun _ => cnd_ne (fun z => absurd rfl z) fun _ => ?_
  obtain ⟨po, bl, pl⟩ := y'.paths_ok m c
  have U := u k' b' p' y'
  refine ⟨fun i n l => ∃ a : Nat, i = a ∧ a ≤ p'.length ∧ n = (b'.length : Nat) ∧ l = (p'.take a).map (shr es b'), fun i _ _ => ((p'.length : Int) - i).toNat, ⟨0, rfl, Nat.zero_le _, rfl, rfl⟩, ?_⟩
  rintro _ _ _ ⟨a, rfl, ha, rfl, rfl⟩
  refine cnd_dec (fun hlt => ⟨by omega, hlt, fun x hx => ?_⟩) fun hlt => ?_
  · rw [Int.toNat_natCast] at hx
    have px := po x (List.mem_of_getElem? hx)
    have x0 : 0 < x.length := List.length_pos_iff.2 px.1.1
    refine ⟨by decide, by omega, fun h1 hh1 => ?_⟩
    rw [wr (x := (x.length : Int) - 1) (by omega) (by omega)]
    refine ⟨by omega, by omega, fun h2 hh2 => ?_⟩
    rw [show (0 : Int).toNat = 0 from rfl] at hh1
    rw [show ((x.length : Int) - 1).toNat = x.length - 1 by omega] at hh2
    obtain ⟨n1, rfl, l1⟩ := px.1.2 h1 (List.mem_of_getElem? hh1)
    obtain ⟨n2, rfl, l2⟩ := px.1.2 h2 (List.mem_of_getElem? hh2)
    rw [kxor (by omega)]
    refine okToF (mate_lt l1) (by omega) (okToF l2 (by omega) (okIdx (by omega) (okIdx (by omega) ⟨by simp; omega, ?_⟩)))
    rw [mate_to]
    rw [wr (by omega) (by omega)]
    refine ⟨⟨a + 1, by simp, by omega, rfl, ?_⟩, by dsimp only; omega⟩
    rw [List.take_add_one, hx, List.map_append]
    congr 1
    show _ = [shr es b' x]
    unfold shr endsP
    rw [getD_of' hh1, getD_of' hh2, Int.toNat_natCast, Int.toNat_natCast]
  · rw [List.take_of_length_le (show p'.length ≤ a by omega)]
    exact U
end

theorem k33_good : ∃ b p, Good 6 k33 sel9 33 b p := by
  refine ⟨_, _, .inr ⟨rfl, 0, [1, 2, 3, 4, 5], ⟨.inr ⟨rfl, rfl⟩, all_of (by decide +kernel), by decide +kernel⟩, by decide +kernel, by decide +kernel, rfl, [0, 1, 2, 3, 4, 5, 6, 7, 8], by decide +kernel, sel_of (by decide +kernel), rfl⟩⟩
theorem k33_any {k : Int} {b : List Int} {p : List (List Int)} (y : Good 6 k33 sel9 k b p) : k = 33 ∧ b.length = 6 := by
  have z : BrOK (outsF 6 k33 sel9) 3 [0, 1, 2, 3, 4, 5] := ⟨.inr ⟨rfl, rfl⟩, all_of (by decide +kernel), by decide +kernel⟩
  rcases y with ⟨_, y, _⟩ | ⟨e, u, rest, y, _, h3, rfl, _⟩
  · exact absurd (z.uniq y).1 (by decide)
  · refine ⟨e, ?_⟩
    have hr : rest.length = 5 := by have := congrArg List.length (z.uniq y).2; simpa using this.symm
    have := filter_two (isNo k33 (pathsB 6 k33 sel9 (u :: rest)) u) rest
    rw [List.length_append]
    unfold sideA sideB
    rw [List.length_cons]
    omega
theorem k5_any {k : Int} {b : List Int} {p : List (List Int)} (y : Good 5 k5 sel10 k b p) : k = 5 ∧ p.length = 10 := by
  have z : BrOK (outsF 5 k5 sel10) 4 [0, 1, 2, 3, 4] := ⟨.inl ⟨rfl, rfl⟩, all_of (by decide +kernel), by decide +kernel⟩
  rcases y with ⟨e, y, _, ix, h1, _, rfl⟩ | ⟨e, u, rest, y, _⟩
  · refine ⟨e, ?_⟩
    rw [List.length_map, h1, ← (z.uniq y).2]
    decide
  · exact absurd (z.uniq y).1 (by decide)
theorem okLightK {g : Int} {es : Es} {R : Bool → Prop} (h : es.length ≤ 300 → R true) (h2 : R false) : Ok59 g es R := by
  apply ok59
  unfold T59
  refine cnd_dec (fun q => cnd_dec (fun _ => h (by omega)) fun _ => okMayR ?_) fun _ => h2
  cases mayB g es
  · exact h (by omega)
  · exact h2
theorem upto10 : (List.range (10 : Int).toNat).map (fun i : Nat => (i : Int)) = sel10 := by decide
theorem upto9 : (List.range (9 : Int).toNat).map (fun i : Nat => (i : Int)) = sel9 := by decide
theorem okBegun58 {R : Bool → Prop} (h : R true) : Ok58 R := by
  apply ok58
  unfold T58
  obtain ⟨p5, _, g5⟩ := k5_good
  obtain ⟨b3, p3, g3⟩ := k33_good
  have U10 : ∀ {R : List Int → Prop}, R sel10 → Ok111 10 R := fun z => okUpto (by decide) (by decide) (by rw [upto10]; exact z)
  have U9 : ∀ {R : List Int → Prop}, R sel9 → Ok111 9 R := fun z => okUpto (by decide) (by decide) (by rw [upto9]; exact z)
  have s10 : sel10.length ≤ 1000000 := by decide
  have s9 : sel9.length ≤ 1000000 := by decide
  refine kindComplete ?_
  show sayK _ (5, k5, 0)
  unfold sayK
  refine kindTwo ?_
  show sayK _ (6, k33, 0)
  unfold sayK
  refine U10 (okKindK s10 (fun q => by rw [k5_may] at q; cases q) (fun _ q => absurd sel10_ok q) (fun _ _ q => absurd ⟨_, _, _, g5⟩ q) fun _ _ k b p y => ?_)
  obtain ⟨rfl, _⟩ := k5_any y
  refine U9 (okKindK s9 (fun q => by rw [k33_may] at q; cases q) (fun _ q => absurd sel9_ok q) (fun _ _ q => absurd ⟨_, _, _, g3⟩ q) fun _ _ k b p y => ?_)
  obtain ⟨rfl, _⟩ := k33_any y
  refine U9 (okBranch s9 k33_may sel9_ok (by decide) g3 fun k' b' p' y' => ?_)
  refine U10 (okPaths s10 k5_may sel10_ok (by decide) g5 fun k2 b2 p2 y2 => ?_)
  refine ⟨fun _ l e => l.length = 10 ∧ e = 0, U10 (okShrink s10 k5_may sel10_ok (by decide) g5 fun k3 b3 p3 y3 => ⟨by rw [List.length_map]; exact (k5_any y3).2, rfl⟩), ?_⟩
  rintro c l e ⟨hl, rfl⟩
  have l6 := (k33_any y').2
  have l10 := (k5_any y2).2
  refine cnd_eq (fun _ => cnd_eq (fun _ => cnd_eq (fun _ => cnd_eq (fun _ => cnd_eq (fun _ => cnd_eq (fun _ => cnd_eq (fun _ => cnd_eq (fun _ => cnd_eq (fun _ => h) fun q => ?_) fun q => ?_) fun q => ?_) fun q => ?_) fun q => ?_) fun q => ?_) fun q => ?_) fun q => ?_) fun q => ?_ <;> first | exact absurd rfl q | omega
end Go.Proofs.Ytmcloipjlihhlaa.N
namespace Go.Proofs.Ytmcloipjlihhlaa
end Go.Proofs.Ytmcloipjlihhlaa

/- Package kura: a net whose chosen edges are paths, one for each edge of another net, is of that form. Conditions: none. -/
set_option linter.unusedSimpArgs false
set_option linter.unusedVariables false
namespace Go.Proofs.Ytmcloipjlihhlaa.N
open Go.X Go.Proofs.Ytmcloipjlihhlaa
set_option maxRecDepth 100000

section
variable {nb : Nat} {g : Int} {es : Es} {sel : List Int} {B : List (Int × Int)} {P : List (List Nat)} {J : List (List Int)}
theorem hits_count (es : Es) (u v : Int) (paths : List (List Int)) : ∀ k, k ≤ paths.length → (hits es paths u v k).length = (paths.take k).countP fun p => decide (endsP es p = (u, v))
  | 0, _ => by simp [hits]
  | k + 1, hk => by
    have e := List.getElem?_eq_getElem (show k < paths.length by omega)
    rw [hits_succ, List.length_append, hits_count es u v paths k (by omega), List.take_add_one, e, List.countP_append]
    congr 1
    rw [List.getD_eq_getElem?_getD, e]
    simp only [Option.getD_some, Option.toList_some, List.countP_cons, List.countP_nil]
    split <;> rename_i q
    · simp [q]
    · simp [q]
/-- For each of some pairs, the way between them. -/
theorem sel_ex {paths : List (List Int)} : ∀ {pairs : List (Int × Int)}, (∀ q ∈ pairs, ∃ i, N.betw es paths q.1 q.2 = some i) → ∃ ix : List Nat, ix.length = pairs.length ∧ Sel es paths pairs ix
  | [], _ => ⟨[], rfl, fun j i q h => by cases h⟩
  | q :: r, h => by
    obtain ⟨ix, h1, h2⟩ := sel_ex (pairs := r) fun q hq => h q (by simp [hq])
    obtain ⟨i, hi⟩ := h q (by simp)
    refine ⟨i :: ix, by simp [h1], fun j i' q' e1 e2 => ?_⟩
    match j with
    | 0 =>
      rw [List.getElem?_cons_zero] at e1 e2
      obtain rfl := Option.some.inj e1
      obtain rfl := Option.some.inj e2
      exact hi
    | j + 1 => exact h2 j i' q' (by simpa using e1) (by simpa using e2)
end
section
variable {g : Int} {es : Es} {sel : List Int} {P : List (List Nat)} {J : List (List Int)}
end

end Go.Proofs.Ytmcloipjlihhlaa.N
