/- Package kura: an edge more, or less, is none; law KuraLess. Conditions: none. -/
import Derived.Test.YtmcloipjlihhlaaNKuraK
set_option linter.unusedSimpArgs false
set_option linter.unusedVariables false
namespace Go.Proofs.Ytmcloipjlihhlaa.N
open Go.X Go.Proofs.Ytmcloipjlihhlaa
set_option maxRecDepth 100000

/-! ### One edge more -/
theorem outF_ins (es : Es) (A B : List Int) (e v : Int) : outF es (A ++ e :: B) v = outF es A v ++ (halfOf es e v ++ outF es B v) := by simp [outF]
theorem outF_two (es : Es) (A B : List Int) (v : Int) : outF es (A ++ B) v = outF es A v ++ outF es B v := by simp [outF]
theorem halfOf_len (es : Es) (e v : Int) : (halfOf es e v).length = (if (es.getD e.toNat (0, 0)).1 = v then 1 else 0) + if (es.getD e.toNat (0, 0)).2 = v then 1 else 0 := by
  unfold halfOf
  rw [List.length_append]
  split <;> split <;> rfl
theorem sub_lenI {a b : List Int} (na : a.Nodup) (nb : b.Nodup) (h : ∀ x ∈ a, x ∈ b) : a.length ≤ b.length := by
  have e : a.length = (b.filter fun x => decide (x ∈ a)).length := ((List.perm_ext_iff_of_nodup na (nb.filter _)).2 fun x => by
    rw [List.mem_filter]
    exact ⟨fun y => ⟨h x y, decide_eq_true y⟩, fun y => of_decide_eq_true y.2⟩).length_eq
  rw [e]; exact List.length_filter_le _ _
theorem Good.br {g k : Int} {es : Es} {sel b : List Int} {p : List (List Int)} (y : Good g es sel k b p) : ∃ d b0, BrOK (outsF g es sel) d b0 ∧ totL (pathsB g es sel b0) = 2 * sel.length := by
  rcases y with ⟨_, y, t, _⟩ | ⟨_, u, rest, y, t, _⟩
  · exact ⟨_, _, y, t⟩
  · exact ⟨_, _, y, t⟩
section
variable {g : Int} {es : Es} {sel : List Int}
theorem BrOK.nd {outs : List (List Int)} {d : Int} {b : List Int} (z : BrOK outs d b) : b.Nodup := by
  rw [z.eq]; exact brL_nodup _ _
theorem brOK_mem (m : MayN g es) {d : Int} {b : List Int} (z : BrOK (outsF g es sel) d b) {v : Int} (h0 : 0 ≤ v) (h1 : v < g) (h2 : (outF es sel v).length ≠ 0) (h3 : (outF es sel v).length ≠ 2) : v ∈ b := by
  rw [z.eq]
  unfold brL
  refine List.mem_map.2 ⟨v.toNat, ?_, by omega⟩
  rw [List.mem_filter, List.mem_range, outsF_len]
  refine ⟨by omega, ?_⟩
  rw [getD_of'' (outsF_get h0 h1)]
  exact brP_iff.2 ⟨h2, h3⟩
theorem brOK_deg (m : MayN g es) {d : Int} {b : List Int} (z : BrOK (outsF g es sel) d b) {v : Int} (h0 : 0 ≤ v) (h1 : v < g) : (outF es sel v).length = 0 ∨ (outF es sel v).length = 2 ∨ ((outF es sel v).length : Int) = d := by
  by_cases q : (outF es sel v).length = 0
  · exact .inl q
  · by_cases q2 : (outF es sel v).length = 2
    · exact .inr (.inl q2)
    · exact .inr (.inr (brOK_at m z (brOK_mem m z h0 h1 q q2)).2.1)
end
section
variable {g e : Int} {es : Es} {A B : List Int}
theorem fol_same (m : MayN g es) (c1 : ChosenK (es.length : Int) (A ++ B)) {p : Int} (hp : outF es (A ++ B) p = []) (hv : ∀ v, v ≠ p → outF es (A ++ e :: B) v = outF es (A ++ B) v) :
    ∀ (f h : Nat), InH es (A ++ B) h → fol es (outsF g es (A ++ e :: B)) f h = fol es (outsF g es (A ++ B)) f h
  | 0, h, _ => rfl
  | f + 1, h, hh => by
    have t := toH_in m hh.1
    have hm : ((mate h : Nat) : Int) ∈ outF es (A ++ B) (toH es h) := (outF_mem (chK c1)).2 ⟨mate h, rfl, by rw [mate_div]; exact hh.2, from_mate es h⟩
    have hne : toH es h ≠ p := fun q => by rw [q, hp] at hm; cases hm
    have e1 : (outsF g es (A ++ e :: B)).getD (toH es h).toNat [] = (outsF g es (A ++ B)).getD (toH es h).toNat [] := by
      rw [getD_of'' (outsF_get t.1 t.2), getD_of'' (outsF_get t.1 t.2), hv _ hne]
    have e2 : nxt es (outsF g es (A ++ e :: B)) h = nxt es (outsF g es (A ++ B)) h := by unfold nxt; rw [e1]
    rw [fol, fol, e1, e2]
    by_cases q : ((outsF g es (A ++ B)).getD (toH es h).toNat []).length = 2
    · rw [if_pos q, if_pos q, fol_same m c1 hp hv f _ (two_ways m c1 hh fun z => z q).1]
    · rw [if_neg q, if_neg q]
theorem good_ins (m : MayN g es) (c1 : ChosenK (es.length : Int) (A ++ B)) (c2 : ChosenK (es.length : Int) (A ++ e :: B)) (y1 : ∃ k b p, Good g es (A ++ B) k b p) (y2 : ∃ k b p, Good g es (A ++ e :: B) k b p) : False := by
  obtain ⟨_, _, _, y1⟩ := y1
  obtain ⟨_, _, _, y2⟩ := y2
  obtain ⟨d1, b1, z1, t1⟩ := y1.br
  obtain ⟨d2, b2, z2, t2⟩ := y2.br
  have her := c2.1 e (by simp)
  obtain ⟨pq, hpq⟩ : ∃ pq, es[e.toNat]? = some pq := ⟨_, List.getElem?_eq_getElem (by omega)⟩
  have qr := m.e _ pq hpq
  have hl : ∀ v, (outF es (A ++ e :: B) v).length = (outF es (A ++ B) v).length + ((if pq.1 = v then 1 else 0) + if pq.2 = v then 1 else 0) := fun v => by
    rw [outF_ins, outF_two, List.length_append, List.length_append, List.length_append, halfOf_len]
    simp only [List.getD_eq_getElem?_getD, hpq, Option.getD_some]
    omega
  have D1 := fun {v} h0 h1 => brOK_deg m z1 (v := v) h0 h1
  have D2 := fun {v} h0 h1 => brOK_deg m z2 (v := v) h0 h1
  have sub : ∀ v ∈ b1, v ∈ b2 := fun v hv => by
    have h := brOK_at m z1 hv
    have := hl v
    have : d1 = 3 ∨ d1 = 4 := by rcases z1.shape with ⟨q, _⟩ | ⟨q, _⟩ <;> omega
    exact brOK_mem m z2 h.1.1 h.1.2 (by omega) (by omega)
  have s1 := z1.shape
  have s2 := z2.shape
  have no2 : ∀ v, (outF es (A ++ B) v).length = 2 → v ∉ b1 := fun v q hv => (brOK_at m z1 hv).2.2 q
  have le0 := sub_lenI z1.nd z2.nd sub
  by_cases hpq' : pq.1 = pq.2
  · have l1 := hl pq.1
    rw [if_pos rfl, if_pos hpq'.symm] at l1
    have E1 := D1 qr.1.1 qr.1.2
    have E2 := D2 qr.1.1 qr.1.2
    rcases E1 with E1 | E1 | E1
    · -- a loop at a node that nothing else touches
      have hv : ∀ v, v ≠ pq.1 → outF es (A ++ e :: B) v = outF es (A ++ B) v := fun v hv => by
        rw [outF_ins, outF_two]
        have : halfOf es e v = [] := List.eq_nil_of_length_eq_zero (by
          rw [halfOf_len]
          simp only [List.getD_eq_getElem?_getD, hpq, Option.getD_some]
          rw [if_neg fun q => hv q.symm, if_neg fun q => hv (q.symm.trans hpq'.symm)])
        rw [this, List.nil_append]
      have hp : outF es (A ++ B) pq.1 = [] := List.eq_nil_of_length_eq_zero E1
      have hb : b1 = b2 := by
        rw [z1.eq, z2.eq, outsF_len, outsF_len]
        unfold brL
        congr 1
        apply List.filter_congr
        intro v hv'
        have hvr := List.mem_range.1 hv'
        have g1 := outsF_get (g := g) (es := es) (sel := A ++ B) (v := (v : Int)) (by omega) (by omega)
        have g2 := outsF_get (g := g) (es := es) (sel := A ++ e :: B) (v := (v : Int)) (by omega) (by omega)
        rw [Int.toNat_natCast] at g1 g2
        rw [getD_of'' g1, getD_of'' g2]
        by_cases q : (v : Int) = pq.1
        · rw [q]
          have a1 : brP (outF es (A ++ B) pq.1) = false := by
            rw [← Bool.not_eq_true]; intro w; exact (brP_iff.1 w).1 E1
          have a2 : brP (outF es (A ++ e :: B) pq.1) = false := by
            rw [← Bool.not_eq_true]; intro w; have := (brP_iff.1 w).2; omega
          rw [a1, a2]
        · rw [hv _ q]
      have hpath : pathsB g es (A ++ e :: B) b1 = pathsB g es (A ++ B) b1 := by
        unfold pathsB
        have key : ∀ l : List Int, (∀ v ∈ l, v ∈ b1) → (l.flatMap fun v => (outF es (A ++ e :: B) v).map fun x => folF es (outsF g es (A ++ e :: B)) x.toNat) = l.flatMap fun v => (outF es (A ++ B) v).map fun x => folF es (outsF g es (A ++ B)) x.toNat := by
          intro l
          induction l with
          | nil => intro _; rfl
          | cons v l ih =>
            intro hin
            rw [List.flatMap_cons, List.flatMap_cons, ih fun w hw => hin w (by simp [hw])]
            congr 1
            have hvp : v ≠ pq.1 := fun q => by
              have := (brOK_at m z1 (hin v (by simp))).2.1
              rw [q, E1] at this
              omega
            rw [hv v hvp]
            apply List.map_congr_left
            intro x hx
            obtain ⟨n, rfl, h1, h2⟩ := inH_out c1 hx
            rw [Int.toNat_natCast]
            unfold folF
            rw [fol_same m c1 hp hv _ _ h1]
        exact key b1 fun _ h => h
      rw [← hb, hpath, t1] at t2
      simp only [List.length_append, List.length_cons] at t2
      omega
    · have h2 : pq.1 ∈ b2 := brOK_mem m z2 qr.1.1 qr.1.2 (by omega) (by omega)
      have h3 := sub_lenI (List.nodup_cons.2 ⟨no2 _ E1, z1.nd⟩) z2.nd fun x hx => by
        rcases List.mem_cons.1 hx with rfl | hx
        · exact h2
        · exact sub x hx
      rw [List.length_cons] at h3
      omega
    · omega
  · have l1 := hl pq.1
    have l2 := hl pq.2
    rw [if_pos rfl, if_neg fun q => hpq' q.symm] at l1
    rw [if_neg hpq', if_pos rfl] at l2
    have E1 := D1 qr.1.1 qr.1.2
    have E2 := D2 qr.1.1 qr.1.2
    have F1 := D1 qr.2.1 qr.2.2
    have F2 := D2 qr.2.1 qr.2.2
    rcases E1 with E1 | E1 | E1
    · omega
    · rcases F1 with F1 | F1 | F1
      · omega
      · have h2 : pq.1 ∈ b2 := brOK_mem m z2 qr.1.1 qr.1.2 (by omega) (by omega)
        have h2' : pq.2 ∈ b2 := brOK_mem m z2 qr.2.1 qr.2.2 (by omega) (by omega)
        have h3 := sub_lenI (a := pq.1 :: pq.2 :: b1) (List.nodup_cons.2 ⟨fun w => by
          rcases List.mem_cons.1 w with w | w
          · exact hpq' w
          · exact no2 _ E1 w, List.nodup_cons.2 ⟨no2 _ F1, z1.nd⟩⟩) z2.nd fun x hx => by
          rcases List.mem_cons.1 hx with rfl | hx
          · exact h2
          · rcases List.mem_cons.1 hx with rfl | hx
            · exact h2'
            · exact sub x hx
        rw [List.length_cons, List.length_cons] at h3
        omega
      · omega
    · omega
end

theorem filter_two {β : Type} (f : β → Bool) : ∀ l : List β, (l.filter f).length + (l.filter fun x => !f x).length = l.length
  | [] => rfl
  | x :: l => by
    have := filter_two f l
    rw [List.filter_cons, List.filter_cons]
    cases f x <;> simp <;> omega

/-! ### Branch, Paths, Shrink of what is one -/
def idxL (v : Int) : List Int → Nat → Int
  | [], _ => -1
  | x :: r, n => if v = x then n else idxL v r (n + 1)
theorem idxL_drop {v : Int} {l : List Int} {n : Nat} {x : Int} (h : l[n]? = some x) : idxL v (l.drop n) n = if v = x then (n : Int) else idxL v (l.drop (n + 1)) (n + 1) := by
  have hl := (List.getElem?_eq_some_iff.1 h).1
  rw [List.drop_eq_getElem_cons hl, idxL]
  obtain rfl : l[n] = x := (List.getElem?_eq_some_iff.1 h).2
  rfl
theorem okIdx {v : Int} {l : List Int} {R : Int → Prop} (hl : l.length ≤ 1000000) (h : R (idxL v l 0)) : Ok160 l v R := by
  apply ok160
  unfold T160
  refine ⟨fun i => ∃ k : Nat, i = k ∧ k ≤ l.length ∧ idxL v l 0 = idxL v (l.drop k) k, fun i => ((l.length : Int) - i).toNat, ⟨0, rfl, Nat.zero_le _, rfl⟩, ?_⟩
  rintro _ ⟨k, rfl, hk, hi⟩
  refine cnd_dec (fun hlt => ⟨by omega, hlt, fun s hs => ?_⟩) fun hlt => ?_
  · rw [Int.toNat_natCast] at hs
    rw [idxL_drop hs] at hi
    refine cnd_eq (fun q => ?_) fun q => ?_
    · rw [if_pos q] at hi
      rw [← hi]; exact h
    · rw [if_neg q] at hi
      rw [wr (by omega) (by omega)]
      exact ⟨⟨k + 1, by simp, by omega, hi⟩, by dsimp only; omega⟩
  · rw [List.drop_of_length_le (by omega)] at hi
    have : idxL v l 0 = -1 := hi
    rw [this] at h; exact h
section
variable {g : Int} {es : Es} {sel : List Int}
theorem okBranch {k : Int} {b : List Int} {p : List (List Int)} {R : List Int → Int → Prop} (hs : sel.length ≤ 1000000) (q : mayB g es = true) (c : ChosenK es.length sel) (hk : k ≠ 0) (y : Good g es sel k b p)
    (u : ∀ k' b' p', Good g es sel k' b' p' → R b' 0) : Ok65 g es sel R := by
  apply ok65
  unfold T65
  exact okFound hs q c hk y fun k' b' p' y' => cnd_b (fun z => by cases z) fun _ => cnd_ne (fun z => absurd rfl z) fun _ => u k' b' p' y'
theorem okPaths {k : Int} {b : List Int} {p : List (List Int)} {R : List (List Int) → Int → Prop} (hs : sel.length ≤ 1000000) (q : mayB g es = true) (c : ChosenK es.length sel) (hk : k ≠ 0) (y : Good g es sel k b p)
    (u : ∀ k' b' p', Good g es sel k' b' p' → R p' 0) : Ok66 g es sel R := by
  apply ok66
  unfold T66
  exact okFound hs q c hk y fun k' b' p' y' => cnd_b (fun z => by cases z) fun _ => cnd_ne (fun z => absurd rfl z) fun _ => u k' b' p' y'
/-- What a path shrinks to. -/
def shr (es : Es) (b p : List Int) : Int × Int := (idxL (endsP es p).1 b 0, idxL (endsP es p).2 b 0)
theorem sel_paths {paths : List (List Int)} {pairs : List (Int × Int)} {ix : List Nat} (hl : ix.length = pairs.length) (s : Sel es paths pairs ix) : ∀ x ∈ ix.map fun i => paths.getD i [], x ∈ paths := by
  intro x hx
  obtain ⟨i, hi, rfl⟩ := List.mem_map.1 hx
  obtain ⟨j, hj⟩ := List.mem_iff_getElem?.1 hi
  have hjl := (List.getElem?_eq_some_iff.1 hj).1
  have := (s.ends hj (List.getElem?_eq_getElem (show j < pairs.length by omega))).1
  rw [List.getD_eq_getElem?_getD, List.getElem?_eq_getElem this]
  exact List.getElem_mem this
theorem Good.paths_ok (m : MayN g es) (c : ChosenK (es.length : Int) sel) {k : Int} {b : List Int} {p : List (List Int)} (y : Good g es sel k b p) : (∀ x ∈ p, HIn es x ∧ x.length ≤ 2 * es.length + 1) ∧ b.length ≤ 6 ∧ p.length ≤ 36 := by
  rcases y with ⟨_, y, t, ix, h1, h2, rfl⟩ | ⟨_, u, rest, y, t, h3, rfl, ix, h1, h2, rfl⟩
  · have hb := (brOK_len y).1
    refine ⟨fun x hx => pathsB_ok m c y (fun v hv => hv) x (sel_paths h1 h2 x hx), hb, ?_⟩
    have lp : ∀ n, n ≤ b.length → (preP b n).length ≤ n * b.length := by
      intro n
      induction n with
      | zero => simp [preP]
      | succ n ih =>
        intro hn
        have := ih (by omega)
        rw [preP_succ, List.length_append, List.length_map, List.length_drop, Nat.add_mul]; omega
    have := lp b.length (Nat.le_refl _)
    have : b.length * b.length ≤ 6 * 6 := Nat.mul_le_mul hb hb
    rw [List.length_map]; omega
  · have hb := (brOK_len y).1
    rw [List.length_cons] at hb
    have la : (sideA es (pathsB g es sel (u :: rest)) u rest).length ≤ 6 := by
      unfold sideA
      rw [List.length_cons]
      have := List.length_filter_le (isNo es (pathsB g es sel (u :: rest)) u) rest
      omega
    refine ⟨fun x hx => pathsB_ok m c y (fun v hv => hv) x (sel_paths h1 h2 x hx), ?_, ?_⟩
    · have hsum : (rest.filter (isNo es (pathsB g es sel (u :: rest)) u)).length + (rest.filter fun v => !isNo es (pathsB g es sel (u :: rest)) u v).length = rest.length := by
        have := filter_two (isNo es (pathsB g es sel (u :: rest)) u) rest
        omega
      rw [List.length_append]
      unfold sideA sideB
      rw [List.length_cons]
      omega
    · rw [List.length_map, h1, pairsOf_len, h3]
      omega
theorem okShrink {k : Int} {b : List Int} {p : List (List Int)} {R : Int → Es → Int → Prop} (hs : sel.length ≤ 1000000) (q : mayB g es = true) (c : ChosenK es.length sel) (hk : k ≠ 0) (y : Good g es sel k b p)
    (u : ∀ k' b' p', Good g es sel k' b' p' → R (b'.length : Nat) (p'.map (shr es b')) 0) : Ok67 g es sel R := by
  have m := mayN q
  have mm := m.m
  apply ok67
  unfold T67
  refine okFound hs q c hk y fun k' b' p' y' => cnd_b (fun z => by cases z) fun _ => cnd_ne (fun z => absurd rfl z) fun _ => ?_
  obtain ⟨po, bl, pl⟩ := y'.paths_ok m c
  have U := u k' b' p' y'
  refine ⟨fun i n l => ∃ a : Nat, i = a ∧ a ≤ p'.length ∧ n = (b'.length : Nat) ∧ l = (p'.take a).map (shr es b'), fun i _ _ => ((p'.length : Int) - i).toNat, ⟨0, rfl, Nat.zero_le _, rfl, rfl⟩, ?_⟩
  rintro _ _ _ ⟨a, rfl, ha, rfl, rfl⟩
  refine cnd_dec (fun hlt => ⟨by omega, hlt, fun x hx => ?_⟩) fun hlt => ?_
  · rw [Int.toNat_natCast] at hx
    have px := po x (List.mem_of_getElem? hx)
    have x0 : 0 < x.length := List.length_pos_iff.2 px.1.1
    refine ⟨by decide, by omega, fun h1 hh1 => ?_⟩
    rw [wr (x := (x.length : Int) - 1) (by omega) (by omega)]
    refine ⟨by omega, by omega, fun h2 hh2 => ?_⟩
    rw [show (0 : Int).toNat = 0 from rfl] at hh1
    rw [show ((x.length : Int) - 1).toNat = x.length - 1 by omega] at hh2
    obtain ⟨n1, rfl, l1⟩ := px.1.2 h1 (List.mem_of_getElem? hh1)
    obtain ⟨n2, rfl, l2⟩ := px.1.2 h2 (List.mem_of_getElem? hh2)
    rw [kxor (by omega)]
    refine okToF (mate_lt l1) (by omega) (okToF l2 (by omega) (okIdx (by omega) (okIdx (by omega) ⟨by simp; omega, ?_⟩)))
    rw [mate_to]
    rw [wr (by omega) (by omega)]
    refine ⟨⟨a + 1, by simp, by omega, rfl, ?_⟩, by dsimp only; omega⟩
    rw [List.take_add_one, hx, List.map_append]
    congr 1
    show _ = [shr es b' x]
    unfold shr endsP
    rw [getD_of' hh1, getD_of' hh2, Int.toNat_natCast, Int.toNat_natCast]
  · rw [List.take_of_length_le (show p'.length ≤ a by omega)]
    exact U
end

/-! ### K3,3 -/
theorem k33_good : ∃ b p, Good 6 k33 sel9 33 b p := by
  refine ⟨_, _, .inr ⟨rfl, 0, [1, 2, 3, 4, 5], ⟨.inr ⟨rfl, rfl⟩, all_of (by decide +kernel), by decide +kernel⟩, by decide +kernel, by decide +kernel, rfl, [0, 1, 2, 3, 4, 5, 6, 7, 8], by decide +kernel, sel_of (by decide +kernel), rfl⟩⟩
theorem k33_any {k : Int} {b : List Int} {p : List (List Int)} (y : Good 6 k33 sel9 k b p) : k = 33 ∧ b.length = 6 := by
  have z : BrOK (outsF 6 k33 sel9) 3 [0, 1, 2, 3, 4, 5] := ⟨.inr ⟨rfl, rfl⟩, all_of (by decide +kernel), by decide +kernel⟩
  rcases y with ⟨_, y, _⟩ | ⟨e, u, rest, y, _, h3, rfl, _⟩
  · exact absurd (z.uniq y).1 (by decide)
  · refine ⟨e, ?_⟩
    have hr : rest.length = 5 := by have := congrArg List.length (z.uniq y).2; simpa using this.symm
    have := filter_two (isNo k33 (pathsB 6 k33 sel9 (u :: rest)) u) rest
    rw [List.length_append]
    unfold sideA sideB
    rw [List.length_cons]
    omega
theorem k5_any {k : Int} {b : List Int} {p : List (List Int)} (y : Good 5 k5 sel10 k b p) : k = 5 ∧ p.length = 10 := by
  have z : BrOK (outsF 5 k5 sel10) 4 [0, 1, 2, 3, 4] := ⟨.inl ⟨rfl, rfl⟩, all_of (by decide +kernel), by decide +kernel⟩
  rcases y with ⟨e, y, _, ix, h1, _, rfl⟩ | ⟨e, u, rest, y, _⟩
  · refine ⟨e, ?_⟩
    rw [List.length_map, h1, ← (z.uniq y).2]
    decide
  · exact absurd (z.uniq y).1 (by decide)
theorem okLightK {g : Int} {es : Es} {R : Bool → Prop} (h : es.length ≤ 300 → R true) (h2 : R false) : Ok59 g es R := by
  apply ok59
  unfold T59
  refine cnd_dec (fun q => cnd_dec (fun _ => h (by omega)) fun _ => okMayR ?_) fun _ => h2
  cases mayB g es
  · exact h (by omega)
  · exact h2
theorem upto10 : (List.range (10 : Int).toNat).map (fun i : Nat => (i : Int)) = sel10 := by decide
theorem upto9 : (List.range (9 : Int).toNat).map (fun i : Nat => (i : Int)) = sel9 := by decide
theorem okBegun58 {R : Bool → Prop} (h : R true) : Ok58 R := by
  apply ok58
  unfold T58
  obtain ⟨p5, _, g5⟩ := k5_good
  obtain ⟨b3, p3, g3⟩ := k33_good
  have U10 : ∀ {R : List Int → Prop}, R sel10 → Ok111 10 R := fun z => okUpto (by decide) (by decide) (by rw [upto10]; exact z)
  have U9 : ∀ {R : List Int → Prop}, R sel9 → Ok111 9 R := fun z => okUpto (by decide) (by decide) (by rw [upto9]; exact z)
  have s10 : sel10.length ≤ 1000000 := by decide
  have s9 : sel9.length ≤ 1000000 := by decide
  refine kindComplete ?_
  show sayK _ (5, k5, 0)
  unfold sayK
  refine kindTwo ?_
  show sayK _ (6, k33, 0)
  unfold sayK
  refine U10 (okKindK s10 (fun q => by rw [k5_may] at q; cases q) (fun _ q => absurd sel10_ok q) (fun _ _ q => absurd ⟨_, _, _, g5⟩ q) fun _ _ k b p y => ?_)
  obtain ⟨rfl, _⟩ := k5_any y
  refine U9 (okKindK s9 (fun q => by rw [k33_may] at q; cases q) (fun _ q => absurd sel9_ok q) (fun _ _ q => absurd ⟨_, _, _, g3⟩ q) fun _ _ k b p y => ?_)
  obtain ⟨rfl, _⟩ := k33_any y
  refine U9 (okBranch s9 k33_may sel9_ok (by decide) g3 fun k' b' p' y' => ?_)
  refine U10 (okPaths s10 k5_may sel10_ok (by decide) g5 fun k2 b2 p2 y2 => ?_)
  refine ⟨fun _ l e => l.length = 10 ∧ e = 0, U10 (okShrink s10 k5_may sel10_ok (by decide) g5 fun k3 b3 p3 y3 => ⟨by rw [List.length_map]; exact (k5_any y3).2, rfl⟩), ?_⟩
  rintro c l e ⟨hl, rfl⟩
  have l6 := (k33_any y').2
  have l10 := (k5_any y2).2
  refine cnd_eq (fun _ => cnd_eq (fun _ => cnd_eq (fun _ => cnd_eq (fun _ => cnd_eq (fun _ => cnd_eq (fun _ => cnd_eq (fun _ => cnd_eq (fun _ => cnd_eq (fun _ => h) fun q => ?_) fun q => ?_) fun q => ?_) fun q => ?_) fun q => ?_) fun q => ?_) fun q => ?_) fun q => ?_) fun q => ?_ <;> first | exact absurd rfl q | omega

/-! ### The law -/
theorem okKuraLess {g outv inv : Int} {es : Es} {sel : List Int} {R : Bool → Prop} (h : R true) : Ok13 g es sel outv inv R := by
  apply ok13
  unfold T13
  refine okBegun58 (cnd_not (fun q => by cases q) fun _ => ⟨True, okLightK (fun hl => cnd_not (fun _ => trivial) fun _ => cnd_dec (fun _ => trivial) fun hs => cnd_dec (fun _ => h) fun ho => ?_) (cnd_not (fun _ => trivial) fun q => by cases q), fun _ => h⟩)
  have hs2 : sel.length ≤ 300 := by omega
  refine okKindK (by omega) (fun _ => cnd_ne (fun _ => h) fun q => by omega) (fun _ _ => ⟨cnd_ne (fun _ => h) fun q => by omega, cnd_ne (fun _ => h) fun q => by omega⟩)
    (fun _ _ _ => cnd_ne (fun q => absurd rfl q) fun _ => cnd_eq (fun _ => h) fun q => absurd rfl q) fun q c k b p y => cnd_ne (fun q => absurd rfl q) fun _ => cnd_eq (fun z => ?_) fun _ => ?_
  · rcases y with ⟨e, _⟩ | ⟨e, _⟩ <;> rw [e] at z <;> cases z
  have m := mayN q
  have hne : sel.length ≠ 0 := fun w => by
    obtain rfl : sel = [] := List.eq_nil_of_length_eq_zero w
    obtain ⟨d, b0, z, _⟩ := y.br
    have hb : b0 ≠ [] := fun w => by
      subst w
      rcases z.shape with ⟨_, e⟩ | ⟨_, e⟩ <;> cases e
    obtain ⟨v, hv⟩ := List.exists_mem_of_ne_nil b0 hb
    have h1 := (brOK_at m z hv).2.1
    rcases z.shape with ⟨e, _⟩ | ⟨e, _⟩ <;> rw [e] at h1 <;> simp [outF] at h1
  have t0 : 0 ≤ Int.tmod outv (sel.length : Int) := Int.tmod_nonneg _ (by omega)
  have t1 : Int.tmod outv (sel.length : Int) < (sel.length : Int) := Int.tmod_lt_of_pos _ (by omega)
  obtain ⟨at', hat⟩ : ∃ n : Nat, Int.tmod outv (sel.length : Int) = n := ⟨_, (Int.toNat_of_nonneg t0).symm⟩
  rw [hat] at t0 t1 ⊢
  rw [wr (by omega) (by omega), Int.toNat_natCast, show ((at' : Int) + 1).toNat = at' + 1 by omega, List.nil_append, List.nil_append]
  have hlt : at' < sel.length := by omega
  have hsel : sel = sel.take at' ++ sel[at'] :: sel.drop (at' + 1) := by
    rw [List.getElem_cons_drop, List.take_append_drop]
  have c1 : ChosenK (es.length : Int) (sel.take at' ++ sel.drop (at' + 1)) := by
    have sl : (sel.take at' ++ sel.drop (at' + 1)).Sublist sel := by
      conv => rhs; rw [hsel]
      exact List.Sublist.append_left (List.sublist_cons_self _ _) _
    exact ⟨fun x hx => c.1 x (sl.subset hx), c.2.sublist sl⟩
  refine ⟨by omega, by omega, by omega, by omega, by omega, by omega, by simp; omega, okKindK (by simp; omega) (fun w => by rw [q] at w; cases w) (fun _ w => absurd c1 w) (fun _ _ _ => cnd_ne (fun q => absurd rfl q) fun _ => cnd_ne (fun q => absurd rfl q) fun _ => ?_) fun _ _ k' b' p' y' => ?_⟩
  · refine ⟨fun m f => m = 0 ∧ (f = 0 ∨ f = 2 ∨ f = 18), ⟨by omega, by omega, okKindK (by simp; omega) (fun w => by rw [q] at w; cases w) (fun _ _ => ⟨⟨rfl, .inr (.inl rfl)⟩, rfl, .inr (.inr rfl)⟩) (fun _ _ _ => ⟨rfl, .inl rfl⟩) fun _ c2 k' b' p' y' => ?_⟩, ?_⟩
    · refine (good_ins (A := sel) (B := []) (e := inv) m (by rw [List.append_nil]; exact c) c2 ⟨k, b, p, by rw [List.append_nil]; exact y⟩ ⟨_, _, _, y'⟩).elim
    · rintro _ f ⟨rfl, hf⟩
      refine cnd_eq (fun _ => cnd_eq (fun _ => h) fun q0 => cnd_eq (fun _ => h) fun q2 => ?_) fun q => absurd rfl q
      obtain rfl : f = 18 := by omega
      exact h
  · rw [hsel] at y c
    exact (good_ins m c1 c ⟨_, _, _, y'⟩ ⟨_, _, _, y⟩).elim
end Go.Proofs.Ytmcloipjlihhlaa.N
namespace Go.Proofs.Ytmcloipjlihhlaa
open Go.X in
theorem KuraLess_ok {g outv inv : Int} {es : List (Int × Int)} {sel : List Int} {h : Heap} {a0 a1 : Option Addr} {l0 l1 c0 c1 : Nat} (hp : Hp h [Ck.vw eP a0 l0 c0 es, Ck.vw eI a1 l1 c1 sel]) :
    CallsH Try.prog 13 #[.agg #[.int .i64 g, .slice a0 l0 c0], .slice a1 l1 c1, .int .i64 outv, .int .i64 inv] h fun v h' => Fr [] h h' ∧ v = .bool true :=
  (N.okKuraLess (R := fun b => b = true) rfl h _ _ _ _ _ _ hp).mono fun _ _ ⟨_, Y, e, q⟩ => ⟨Y.fr, q ▸ e⟩
end Go.Proofs.Ytmcloipjlihhlaa
