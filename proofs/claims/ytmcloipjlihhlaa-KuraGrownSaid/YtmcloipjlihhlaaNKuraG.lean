/- Package kura: the form of chosen edges, its kind. Conditions: none. -/
import Derived.Test.YtmcloipjlihhlaaNKuraO
set_option linter.unusedSimpArgs false
set_option linter.unusedVariables false
namespace Go.Proofs.Ytmcloipjlihhlaa.N
open Go.X Go.Proofs.Ytmcloipjlihhlaa
set_option maxRecDepth 100000

theorem map_setI {n : Nat} {i : Int} {f : Nat → List Int} {a : Int} (h0 : 0 ≤ i) (hi : i < n) : ((List.range n).map f).set i.toNat (f i.toNat ++ [a]) = (List.range n).map fun v => f v ++ if i = (v : Int) then [a] else [] := by
  rw [map_set (by omega)]
  apply List.map_congr_left
  intro v _
  by_cases q : i.toNat = v
  · rw [if_pos q, if_pos (by omega)]
  · rw [if_neg q, if_neg (by omega)]
theorem outF_app (es : Es) (sel : List Int) (e v : Int) : outF es (sel ++ [e]) v = outF es sel v ++ halfOf es e v := by simp [outF]
def pathsB (g : Int) (es : Es) (sel b : List Int) : List (List Int) := b.flatMap fun v => (outF es sel v).map fun x => folF es (outsF g es sel) x.toNat
theorem pathsB_app (g : Int) (es : Es) (sel b : List Int) (v : Int) : pathsB g es sel (b ++ [v]) = pathsB g es sel b ++ (outF es sel v).map fun x => folF es (outsF g es sel) x.toNat := by simp [pathsB, List.flatMap_append]
def totL : List (List Int) → Nat
  | [] => 0
  | p :: r => p.length + totL r
theorem totL_app : ∀ a b : List (List Int), totL (a ++ b) = totL a + totL b
  | [], b => by simp [totL]
  | p :: a, b => by simp [totL, totL_app a b]; omega
theorem totL_le {l : List (List Int)} {c : Nat} (h : ∀ p ∈ l, p.length ≤ c) : totL l ≤ l.length * c := by
  induction l with
  | nil => simp [totL]
  | cons p r ih =>
    have := ih fun q hq => h q (by simp [hq])
    have := h p (by simp)
    rw [totL, List.length_cons, Nat.add_mul, Nat.one_mul]; omega
/-- What makes a form a subdivision: its kind, branch nodes, paths. -/
def Good (g : Int) (es : Es) (sel : List Int) (k : Int) (b : List Int) (p : List (List Int)) : Prop :=
  (k = 5 ∧ BrOK (outsF g es sel) 4 b ∧ totL (pathsB g es sel b) = 2 * sel.length ∧ ∃ ix : List Nat, ix.length = (preP b b.length).length ∧ Sel es (pathsB g es sel b) (preP b b.length) ix ∧ p = ix.map fun i => (pathsB g es sel b).getD i []) ∨
  (k = 33 ∧ ∃ (u : Int) (rest : List Int), BrOK (outsF g es sel) 3 (u :: rest) ∧ totL (pathsB g es sel (u :: rest)) = 2 * sel.length ∧ (sideB es (pathsB g es sel (u :: rest)) u rest).length = 3 ∧
    b = sideA es (pathsB g es sel (u :: rest)) u rest ++ sideB es (pathsB g es sel (u :: rest)) u rest ∧
    ∃ ix : List Nat, ix.length = (pairsOf (sideA es (pathsB g es sel (u :: rest)) u rest) (sideB es (pathsB g es sel (u :: rest)) u rest)).length ∧ Sel es (pathsB g es sel (u :: rest)) (pairsOf (sideA es (pathsB g es sel (u :: rest)) u rest) (sideB es (pathsB g es sel (u :: rest)) u rest)) ix ∧ p = ix.map fun i => (pathsB g es sel (u :: rest)).getD i [])
theorem BrOK.uniq {outs : List (List Int)} {d d' : Int} {b b' : List Int} (x : BrOK outs d b) (y : BrOK outs d' b') : d = d' ∧ b = b' := by
  have e : b = b' := x.eq.trans y.eq.symm
  subst e
  refine ⟨?_, rfl⟩
  rcases x.shape with ⟨e1, e2⟩ | ⟨e1, e2⟩ <;> rcases y.shape with ⟨e3, e4⟩ | ⟨e3, e4⟩ <;> omega
theorem Sel.none {es : Es} {paths : List (List Int)} {pairs : List (Int × Int)} {ix : List Nat} (hl : ix.length = pairs.length) (s : Sel es paths pairs ix) (h : ∃ q ∈ pairs, betw es paths q.1 q.2 = none) : False := by
  obtain ⟨q, hq, hn⟩ := h
  obtain ⟨j, hj⟩ := List.mem_iff_getElem?.1 hq
  have hjl := (List.getElem?_eq_some_iff.1 hj).1
  have := s j _ q (List.getElem?_eq_getElem (show j < ix.length by omega)) hj
  rw [hn] at this; cases this
theorem brL_nodup (outs : List (List Int)) (n : Nat) : (brL outs n).Nodup := by
  unfold brL
  refine List.Pairwise.map _ (fun a b hab e => hab (by omega)) (List.nodup_range.filter _)
section
variable {g : Int} {es : Es} {sel : List Int}
theorem brOK_at (m : MayN g es) {d : Int} {b : List Int} (z : BrOK (outsF g es sel) d b) {v : Int} (hv : v ∈ b) : (0 ≤ v ∧ v < g) ∧ ((outF es sel v).length : Int) = d ∧ (outF es sel v).length ≠ 2 := by
  have g0 := m.g0
  rw [z.eq] at hv
  unfold brL at hv
  obtain ⟨n, hn, rfl⟩ := List.mem_map.1 hv
  rw [List.mem_filter, List.mem_range, outsF_len] at hn
  have e := outsF_get (es := es) (sel := sel) (g := g) (v := (n : Int)) (by omega) (by omega)
  rw [Int.toNat_natCast] at e
  rw [getD_of'' e] at hn
  exact ⟨by omega, z.all n _ e hn.2, (brP_iff.1 hn.2).2⟩
theorem brOK_len {outs : List (List Int)} {d : Int} {b : List Int} (z : BrOK outs d b) : b.length ≤ 6 ∧ d ≤ 4 := by
  rcases z.shape with ⟨e, f⟩ | ⟨e, f⟩ <;> omega
theorem pathsB_len (m : MayN g es) {d : Int} {b : List Int} (z : BrOK (outsF g es sel) d b) : ∀ l : List Int, (∀ v ∈ l, v ∈ b) → (pathsB g es sel l).length ≤ l.length * 4
  | [], _ => by simp [pathsB]
  | v :: l, h => by
    have ih := pathsB_len m z l fun w hw => h w (by simp [hw])
    have h1 := (brOK_at m z (h v (by simp))).2.1
    have h2 := (brOK_len z).2
    have e0 : pathsB g es sel (v :: l) = ((outF es sel v).map fun x => folF es (outsF g es sel) x.toNat) ++ pathsB g es sel l := by simp [pathsB]
    rw [e0, List.length_append, List.length_map, List.length_cons, Nat.add_mul]; omega
theorem pathsB_ok (m : MayN g es) (c : ChosenK (es.length : Int) sel) {d : Int} {b : List Int} (z : BrOK (outsF g es sel) d b) {l : List Int} (hl : ∀ v ∈ l, v ∈ b) : ∀ p ∈ pathsB g es sel l, HIn es p ∧ p.length ≤ 2 * es.length + 1 := by
  intro p hp
  unfold pathsB at hp
  obtain ⟨v, hv, hp⟩ := List.mem_flatMap.1 hp
  obtain ⟨x, hx, rfl⟩ := List.mem_map.1 hp
  obtain ⟨n, rfl, h1, h2⟩ := inH_out c hx
  rw [Int.toNat_natCast]
  exact folF_ok m c h1 (by rw [h2]; exact (brOK_at m z (hl v hv)).2.2)
theorem okOf {R : Int → List (List Int) → List Int → List (List Int) → Int → Prop} (m : MayN g es) (c : ChosenK (es.length : Int) sel) (hs : sel.length ≤ 1000000) (z : (¬ ∃ k b p, Good g es sel k b p) → ∀ b p, R g (outsF g es sel) b p 0) (s : ∀ k b p, Good g es sel k b p → R g (outsF g es sel) b p k) : Ok157 g es sel R := by
  have g0 := m.g0
  have g1 := m.g1
  have mm := m.m
  apply ok157
  unfold T157
  refine ⟨g0, by omega, fun x y => ∃ n : Nat, x = n ∧ n ≤ sel.length ∧ y = outsF g es (sel.take n), fun x _ => ((sel.length : Int) - x).toNat, ⟨0, rfl, Nat.zero_le _, ?_⟩, ?_⟩
  · unfold outsF
    apply List.ext_getElem?
    intro i
    rw [List.getElem?_replicate, List.getElem?_map]
    by_cases q : i < g.toNat
    · rw [if_pos q, List.getElem?_range q]; rfl
    · rw [if_neg q, List.getElem?_eq_none (by simpa using q)]; rfl
  rintro _ _ ⟨n, rfl, hn, rfl⟩
  refine cnd_dec (fun hlt => ⟨by omega, hlt, fun e he => ?_⟩) fun hlt => ?_
  · rw [Int.toNat_natCast] at he
    have her := c.1 e (List.mem_of_getElem? he)
    refine ⟨her.1, her.2, fun q hq => ?_⟩
    have qr := m.e _ q hq
    have hqd : es.getD e.toNat (0, 0) = q := by simp [List.getD, hq]
    have hlen : ∀ v, (outF es (sel.take n) v).length ≤ 2 * sel.length := fun v => Nat.le_trans (outF_len _ _ _) (by rw [List.length_take]; omega)
    have e1 : outsF g es (sel.take (n + 1)) = (List.range g.toNat).map fun v : Nat => (outF es (sel.take n) v ++ if q.1 = (v : Int) then [2 * e] else []) ++ if q.2 = (v : Int) then [2 * e + 1] else [] := by
      unfold outsF
      apply List.map_congr_left
      intro v _
      rw [List.take_add_one, he]
      show outF es (sel.take n ++ [e]) v = _
      rw [outF_app, List.append_assoc]
      unfold halfOf
      rw [hqd]
    refine ⟨fun x y => (x = 0 ∧ y = outsF g es (sel.take n)) ∨ (x = 1 ∧ y = (List.range g.toNat).map fun v : Nat => outF es (sel.take n) v ++ if q.1 = (v : Int) then [2 * e] else []) ∨ (x = 2 ∧ y = outsF g es (sel.take (n + 1))), fun x _ => (2 - x).toNat, .inl ⟨rfl, rfl⟩, ?_⟩
    rintro _ _ (⟨rfl, rfl⟩ | ⟨rfl, rfl⟩ | ⟨rfl, rfl⟩)
    · refine cnd_dec (fun _ => ⟨by decide, by decide, q.1, rfl, qr.1.1, by rw [outsF_len]; omega, fun l hl => ?_⟩) fun z => absurd (by decide) z
      have el := outsF_get (g := g) (es := es) (sel := sel.take n) qr.1.1 qr.1.2
      rw [el] at hl
      obtain rfl := Option.some.inj hl
      have := hlen q.1
      rw [wr (x := 2 * e) (by omega) (by omega), wr (x := 2 * e + 0) (by omega) (by omega), wr (x := (0 : Int) + 1) (by omega) (by omega), Int.add_zero]
      refine ⟨by omega, qr.1.1, by rw [outsF_len]; omega, .inr (.inl ⟨rfl, ?_⟩), by dsimp only; omega⟩
      have := map_setI (n := g.toNat) (i := q.1) (f := fun v : Nat => outF es (sel.take n) v) (a := 2 * e) qr.1.1 (by omega)
      rw [Int.toNat_of_nonneg qr.1.1] at this
      exact this
    · refine cnd_dec (fun _ => ⟨by decide, by decide, q.2, rfl, qr.2.1, by simp; omega, fun l hl => ?_⟩) fun z => absurd (by decide) z
      rw [List.getElem?_map, List.getElem?_range (by omega)] at hl
      obtain rfl := Option.some.inj hl
      have hh := hlen q.2
      dsimp only
      rw [Int.toNat_of_nonneg qr.2.1]
      rw [wr (x := 2 * e) (by omega) (by omega), wr (x := 2 * e + 1) (by omega) (by omega), wr (x := (1 : Int) + 1) (by omega) (by omega)]
      refine ⟨?_, qr.2.1, by simp; omega, .inr (.inr ⟨rfl, ?_⟩), by show ((2 : Int) - (1 + 1)).toNat < ((2 : Int) - 1).toNat; decide⟩
      · rw [List.length_append]
        split
        · simp; omega
        · simp; omega
      · rw [e1]
        have := map_setI (n := g.toNat) (i := q.2) (f := fun v : Nat => outF es (sel.take n) v ++ if q.1 = (v : Int) then [2 * e] else []) (a := 2 * e + 1) qr.2.1 (by omega)
        rw [Int.toNat_of_nonneg qr.2.1] at this
        exact this
    · refine cnd_dec (fun z => absurd z (by decide)) fun _ => ?_
      rw [wr (by omega) (by omega)]
      exact ⟨⟨n + 1, by simp, by omega, rfl⟩, by dsimp only; omega⟩
  · have hne : sel.take n = sel := List.take_of_length_le (by omega)
    rw [hne]
    have hol := outsF_len g es sel
    have goods : ∀ {k b p d b'}, Good g es sel k b p → BrOK (outsF g es sel) d b' → totL (pathsB g es sel b') = 2 * sel.length := by
      intro k b p d b' y x
      rcases y with ⟨_, y, t, _⟩ | ⟨_, u, rest, y, t, _⟩
      · rw [(x.uniq y).2]; exact t
      · rw [(x.uniq y).2]; exact t
    refine okBr (by omega) (fun l hl => ?_) (fun hb b d => cnd_not (fun _ => z (fun ⟨k, b, p, y⟩ => hb ?_) b []) fun z => by cases z) fun d b x => ?_
    · unfold outsF at hl
      obtain ⟨v, _, rfl⟩ := List.mem_map.1 hl
      have := outF_len es (v : Int) sel
      have : sel.length ≤ es.length := by
        have := nodup_boundI c.2 c.1
        omega
      omega
    · rcases y with ⟨_, y, _⟩ | ⟨_, u, rest, y, _⟩
      · exact ⟨_, _, y⟩
      · exact ⟨_, _, y⟩
    refine cnd_not (fun q => by cases q) fun _ => ?_
    have bl := brOK_len x
    have pl := pathsB_len m x
    have po := fun l hl => pathsB_ok m c x (l := l) hl
    have bt : ∀ n, ∀ v ∈ b.take n, v ∈ b := fun n v hv => List.mem_of_mem_take hv
    refine ⟨fun x7 y3 y4 y5 => ∃ n : Nat, x7 = n ∧ n ≤ b.length ∧ g = y3 ∧ y5 = 0 ∧ y4 = pathsB g es sel (b.take n), fun x7 _ _ _ => ((b.length : Int) - x7).toNat, ⟨0, rfl, Nat.zero_le _, rfl, rfl, rfl⟩, ?_⟩
    rintro _ _ _ _ ⟨n, rfl, hn2, rfl, rfl, rfl⟩
    refine cnd_dec (fun hlt2 => ⟨by omega, hlt2, fun v hv => ?_⟩) fun hlt2 => ?_
    · rw [Int.toNat_natCast] at hv
      have va := brOK_at m x (List.mem_of_getElem? hv)
      refine ⟨va.1.1, by omega, fun l hl => ?_⟩
      rw [outsF_get va.1.1 va.1.2] at hl
      obtain rfl := Option.some.inj hl
      have ep : pathsB g es sel (b.take (n + 1)) = pathsB g es sel (b.take n) ++ (outF es sel v).map fun x => folF es (outsF g es sel) x.toNat := by
        rw [List.take_add_one, hv]; exact pathsB_app _ _ _ _ _
      refine ⟨fun x9 y3 y4 y5 => ∃ a : Nat, x9 = a ∧ a ≤ (outF es sel v).length ∧ g = y3 ∧ y5 = 0 ∧ y4 = pathsB g es sel (b.take n) ++ ((outF es sel v).take a).map fun x => folF es (outsF g es sel) x.toNat, fun x9 _ _ _ => (((outF es sel v).length : Int) - x9).toNat, ⟨0, rfl, Nat.zero_le _, rfl, rfl, by simp⟩, ?_⟩
      rintro _ _ _ _ ⟨a, rfl, ha, rfl, rfl, rfl⟩
      refine cnd_dec (fun hlt3 => ⟨by omega, hlt3, fun y hy => ?_⟩) fun hlt3 => ?_
      · rw [Int.toNat_natCast] at hy
        obtain ⟨h, rfl, ih, fh⟩ := inH_out c (List.mem_of_getElem? hy)
        refine okFollow m c ih (by rw [fh]; exact va.2.2) ?_ ?_
        · have := pl (b.take n) (bt n)
          rw [List.length_append, List.length_map, List.length_take]
          rw [List.length_take] at this
          omega
        · rw [wr (by omega) (by omega)]
          refine ⟨⟨a + 1, by simp, by omega, rfl, rfl, ?_⟩, by dsimp only; omega⟩
          rw [List.take_add_one, hy, List.append_assoc]
          simp
      · have hae : a = (outF es sel v).length := by omega
        subst hae
        rw [List.take_length, ← ep]
        rw [wr (by omega) (by omega)]
        exact ⟨⟨n + 1, by simp, by omega, rfl, rfl, rfl⟩, by dsimp only; omega⟩
    · have hnb : b.take n = b := List.take_of_length_le (by omega)
      rw [hnb]
      have hp := po b fun v hv => hv
      have pl1 := pl b fun v hv => hv
      have tot : ∀ a, totL ((pathsB g es sel b).take a) ≤ 24 * 7000 := fun a => by
        have := totL_le (l := (pathsB g es sel b).take a) (c := 7000) fun p hp' => by
          have := (hp p (List.mem_of_mem_take hp')).2; omega
        rw [List.length_take] at this
        have : min a (pathsB g es sel b).length * 7000 ≤ 24 * 7000 := Nat.mul_le_mul_right _ (by omega)
        omega
      refine ⟨fun t x => ∃ a : Nat, x = a ∧ a ≤ (pathsB g es sel b).length ∧ t = (totL ((pathsB g es sel b).take a) : Nat), fun _ x => (((pathsB g es sel b).length : Int) - x).toNat, ⟨0, rfl, Nat.zero_le _, rfl⟩, ?_⟩
      rintro _ _ ⟨a, rfl, ha, rfl⟩
      refine cnd_dec (fun hlt4 => ⟨by omega, hlt4, fun p hp1 => ?_⟩) fun hlt4 => ?_
      · rw [Int.toNat_natCast] at hp1
        have hpl := (hp p (List.mem_of_getElem? hp1)).2
        have t1 := tot a
        rw [wr (x := (a : Int) + 1) (by omega) (by omega), wr (by omega) (by omega)]
        refine ⟨⟨a + 1, by simp, by omega, ?_⟩, by dsimp only; omega⟩
        rw [List.take_add_one, hp1, totL_app]
        simp [totL]
      · rw [List.take_of_length_le (show (pathsB g es sel b).length ≤ a by omega)]
        rw [wr (x := 2 * (sel.length : Int)) (by omega) (by omega)]
        refine cnd_ne (fun q => z (fun ⟨k, b', p, y⟩ => q (by have := goods y x; omega)) _ _) fun q => ?_
        have ht : totL (pathsB g es sel b) = 2 * sel.length := by omega
        have ndb : b.Nodup := by rw [x.eq]; exact brL_nodup _ _
        have hp' : ∀ p ∈ pathsB g es sel b, HIn es p ∧ p.length ≤ 1000000 := fun p h => ⟨(hp p h).1, by have := (hp p h).2; omega⟩
        refine ⟨fun y9 y10 y11 y12 => R y9 (outsF g es sel) y10 y11 y12, cnd_eq (fun q4 => ?_) fun q4 => ?_, fun _ _ _ _ w => w⟩
        · -- four: perhaps five nodes, each to each
          subst q4
          refine okFive (by omega) (by omega) hp' ndb (by omega) (fun hb => z (fun ⟨k, b', p, y⟩ => ?_) _ _) fun ix h1 h2 => s 5 b _ (.inl ⟨rfl, x, ht, ix, h1, h2, rfl⟩)
          rcases y with ⟨_, y, _, ix, h1, h2, _⟩ | ⟨_, u, rest, y, _⟩
          · rw [(x.uniq y).2] at hb
            exact h2.none h1 hb
          · exact absurd (x.uniq y).1 (by decide)
        · -- three: perhaps two sides
          have hd3 : d = 3 := by rcases x.shape with ⟨e, _⟩ | ⟨e, _⟩ <;> omega
          subst hd3
          have hb6 : b.length = 6 := by rcases x.shape with ⟨e, _⟩ | ⟨_, e⟩ <;> omega
          match b, hb6, ndb, x, ht, hp', pl1 with
          | u :: rest, hb6, ndb, x, ht, hp', pl1 =>
            have nog : ¬ (sideB es (pathsB g es sel (u :: rest)) u rest).length = 3 ∨ (∃ q ∈ pairsOf (sideA es (pathsB g es sel (u :: rest)) u rest) (sideB es (pathsB g es sel (u :: rest)) u rest), betw es (pathsB g es sel (u :: rest)) q.1 q.2 = none) → ¬ ∃ k b p, Good g es sel k b p := by
              rintro w ⟨k, b', p, y⟩
              rcases y with ⟨_, y, _⟩ | ⟨_, u', rest', y, _, h3, _, ix, h1, h2, _⟩
              · exact absurd (x.uniq y).1 (by decide)
              · obtain ⟨rfl, rfl⟩ := List.cons.inj (x.uniq y).2
                rcases w with w | w
                · exact w h3
                · exact h2.none h1 w
            exact okParted (by omega) (by omega) hp' (by simpa using hb6) ndb (fun w => z (nog (.inl w)) _ _) (fun w1 w2 => z (nog (.inr w2)) _ _) fun w ix h1 h2 => s 33 _ _ (.inr ⟨rfl, u, rest, x, ht, w, rfl, ix, h1, h2, rfl⟩)
end
end Go.Proofs.Ytmcloipjlihhlaa.N
