/- Package kura: ways from branch node to branch node. Conditions: none. -/
import Derived.Test.YtmcloipjlihhlaaNKura
set_option linter.unusedSimpArgs false
set_option linter.unusedVariables false
namespace Go.Proofs.Ytmcloipjlihhlaa.N
open Go.X Go.Proofs.Ytmcloipjlihhlaa
set_option maxRecDepth 100000

theorem from_even (es : Es) (n : Nat) : fromH es (2 * n) = (es.getD n (0, 0)).1 ∧ fromH es (2 * n + 1) = (es.getD n (0, 0)).2 := by
  unfold fromH
  rw [show 2 * n / 2 = n by omega, show 2 * n % 2 = 0 by omega, show (2 * n + 1) / 2 = n by omega, show (2 * n + 1) % 2 = 1 by omega]
  exact ⟨rfl, rfl⟩
theorem halfOf_mem {es : Es} {e v x : Int} (he : 0 ≤ e) : x ∈ halfOf es e v ↔ ∃ n : Nat, x = n ∧ n / 2 = e.toNat ∧ fromH es n = v := by
  have f := from_even es e.toNat
  unfold halfOf
  rw [List.mem_append]
  constructor
  · rintro (h | h)
    · split at h
      · rename_i q
        rcases List.mem_singleton.1 h with rfl
        exact ⟨2 * e.toNat, by omega, by omega, by rw [f.1]; exact q⟩
      · cases h
    · split at h
      · rename_i q
        rcases List.mem_singleton.1 h with rfl
        exact ⟨2 * e.toNat + 1, by omega, by omega, by rw [f.2]; exact q⟩
      · cases h
  · rintro ⟨n, rfl, h1, h2⟩
    rcases Nat.mod_two_eq_zero_or_one n with q | q
    · have : n = 2 * e.toNat := by omega
      subst this
      rw [f.1] at h2
      left; rw [if_pos h2]; simp; omega
    · have : n = 2 * e.toNat + 1 := by omega
      subst this
      rw [f.2] at h2
      right; rw [if_pos h2]; simp; omega
theorem halfOf_nodup (es : Es) (e v : Int) : (halfOf es e v).Nodup := by
  unfold halfOf
  split <;> split <;> simp
  omega
theorem outF_mem {es : Es} {sel : List Int} {v x : Int} (hs : ∀ e ∈ sel, 0 ≤ e) : x ∈ outF es sel v ↔ ∃ n : Nat, x = n ∧ ((n / 2 : Nat) : Int) ∈ sel ∧ fromH es n = v := by
  unfold outF
  rw [List.mem_flatMap]
  constructor
  · rintro ⟨e, he, h⟩
    obtain ⟨n, h1, h2, h3⟩ := (halfOf_mem (hs e he)).1 h
    refine ⟨n, h1, ?_, h3⟩
    rw [h2, Int.toNat_of_nonneg (hs e he)]; exact he
  · rintro ⟨n, h1, h2, h3⟩
    exact ⟨_, h2, (halfOf_mem (by omega)).2 ⟨n, h1, by omega, h3⟩⟩
theorem outF_nodup {es : Es} {v : Int} : ∀ {sel : List Int}, (∀ e ∈ sel, 0 ≤ e) → sel.Nodup → (outF es sel v).Nodup
  | [], _, _ => by simp [outF]
  | e :: sel, hs, nd => by
    obtain ⟨h1, h2⟩ := List.nodup_cons.1 nd
    have ih := outF_nodup (es := es) (v := v) (fun e he => hs e (by simp [he])) h2
    have e0 : outF es (e :: sel) v = halfOf es e v ++ outF es sel v := by simp [outF]
    rw [e0]
    refine List.nodup_append.2 ⟨halfOf_nodup es e v, ih, fun a ha b hb hab => ?_⟩
    subst hab
    obtain ⟨n, q1, q2, _⟩ := (halfOf_mem (hs e (by simp))).1 ha
    obtain ⟨m, p1, p2, _⟩ := (outF_mem (fun e he => hs e (by simp [he]))).1 hb
    have : n = m := by omega
    subst this
    rw [q2, Int.toNat_of_nonneg (hs e (by simp))] at p2
    exact h1 p2
theorem outF_len (es : Es) (v : Int) : ∀ sel : List Int, (outF es sel v).length ≤ 2 * sel.length
  | [] => by simp [outF]
  | e :: sel => by
    have ih := outF_len es v sel
    have e0 : outF es (e :: sel) v = halfOf es e v ++ outF es sel v := by simp [outF]
    have : (halfOf es e v).length ≤ 2 := by
      unfold halfOf
      rw [List.length_append]
      split <;> split <;> simp
    rw [e0, List.length_append, List.length_cons]; omega
def nxt (es : Es) (outs : List (List Int)) (h : Nat) : Nat :=
  (if (outs.getD (toH es h).toNat []).getD 0 0 = ((mate h : Nat) : Int) then (outs.getD (toH es h).toNat []).getD 1 0 else (outs.getD (toH es h).toNat []).getD 0 0).toNat
def stopH (es : Es) (outs : List (List Int)) (h : Nat) : Prop := (outs.getD (toH es h).toNat []).length ≠ 2
def itH (es : Es) (outs : List (List Int)) (h : Nat) : Nat → Nat
  | 0 => h
  | n + 1 => nxt es outs (itH es outs h n)
/-- The way, as far as some steps. -/
def wayL (es : Es) (outs : List (List Int)) (h n : Nat) : List Int := (List.range (n + 1)).map fun i => ((itH es outs h i : Nat) : Int)
def fol (es : Es) (outs : List (List Int)) : Nat → Nat → List Nat
  | 0, h => [h]
  | f + 1, h => if (outs.getD (toH es h).toNat []).length = 2 then h :: fol es outs f (nxt es outs h) else [h]
theorem itH_shift (es : Es) (outs : List (List Int)) (h : Nat) : ∀ n, itH es outs h (n + 1) = itH es outs (nxt es outs h) n
  | 0 => rfl
  | n + 1 => by rw [itH, itH_shift es outs h n, itH]
theorem fol_eq (es : Es) (outs : List (List Int)) : ∀ (f j h : Nat), j ≤ f → (∀ i, i < j → ¬ stopH es outs (itH es outs h i)) → stopH es outs (itH es outs h j) → fol es outs f h = (List.range (j + 1)).map (itH es outs h)
  | 0, j, h, hj, _, _ => by
    obtain rfl : j = 0 := by omega
    rfl
  | f + 1, 0, h, _, _, hs => by
    have hs' : ¬ (outs.getD (toH es h).toNat []).length = 2 := hs
    rw [fol, if_neg hs']; rfl
  | f + 1, j + 1, h, hj, hn, hs => by
    have h0 : (outs.getD (toH es h).toNat []).length = 2 := Decidable.not_not.1 (hn 0 (by omega))
    rw [fol, if_pos h0, fol_eq es outs f j (nxt es outs h) (by omega) (fun i hi => by rw [← itH_shift]; exact hn (i + 1) (by omega)) (by rw [← itH_shift]; exact hs)]
    rw [List.range_succ_eq_map (n := j + 1), List.map_cons, List.map_map]
    congr 1
    apply List.map_congr_left
    intro i _
    exact (itH_shift es outs h i).symm
def folF (es : Es) (outs : List (List Int)) (h : Nat) : List Int := (fol es outs (2 * es.length) h).map fun n : Nat => (n : Int)
section
variable {g : Int} {es : Es} {sel : List Int}
/-- A half-edge of a chosen edge. -/
def InH (es : Es) (sel : List Int) (h : Nat) : Prop := h < 2 * es.length ∧ ((h / 2 : Nat) : Int) ∈ sel
theorem outsAt (m : MayN g es) (c : ChosenK es.length sel) {h : Nat} (hh : InH es sel h) : (outsF g es sel).getD (toH es h).toNat [] = outF es sel (toH es h) := by
  have := toH_in m hh.1
  exact getD_of'' (outsF_get this.1 this.2)
theorem chK (c : ChosenK (es.length : Int) sel) : ∀ e ∈ sel, 0 ≤ e := fun e he => (c.1 e he).1
theorem InH.mate {h : Nat} (hh : InH es sel h) : InH es sel (mate h) := ⟨mate_lt hh.1, by rw [mate_div]; exact hh.2⟩
theorem inH_out (c : ChosenK (es.length : Int) sel) {v x : Int} (hx : x ∈ outF es sel v) : ∃ n : Nat, x = n ∧ InH es sel n ∧ fromH es n = v := by
  obtain ⟨n, h1, h2, h3⟩ := (outF_mem (chK c)).1 hx
  have := (c.1 _ h2).2
  exact ⟨n, h1, ⟨by omega, h2⟩, h3⟩
/-- At a node of two half-edges: one leads back, the other one on. -/
theorem two_ways (m : MayN g es) (c : ChosenK (es.length : Int) sel) {h : Nat} (hh : InH es sel h) (hs : ¬ stopH es (outsF g es sel) h) :
    InH es sel (nxt es (outsF g es sel) h) ∧ fromH es (nxt es (outsF g es sel) h) = toH es h ∧ ((nxt es (outsF g es sel) h : Nat) : Int) ≠ mate h ∧ (outF es sel (toH es h) = [((mate h : Nat) : Int), ((nxt es (outsF g es sel) h : Nat) : Int)] ∨ outF es sel (toH es h) = [((nxt es (outsF g es sel) h : Nat) : Int), ((mate h : Nat) : Int)]) := by
  have e := outsAt m c hh
  unfold stopH at hs
  rw [e] at hs
  have hl : (outF es sel (toH es h)).length = 2 := Decidable.not_not.1 hs
  have nd := outF_nodup (es := es) (v := toH es h) (chK c) c.2
  have hm : ((mate h : Nat) : Int) ∈ outF es sel (toH es h) := (outF_mem (chK c)).2 ⟨mate h, rfl, by rw [mate_div]; exact hh.2, from_mate es h⟩
  unfold nxt
  rw [e]
  match hL : outF es sel (toH es h), hl with
  | [x, y], _ =>
    rw [hL] at hm nd
    have hxy : x ≠ y := fun z => by subst z; simp at nd
    obtain ⟨nx, rfl, ix, fx⟩ := inH_out c (v := toH es h) (x := x) (by rw [hL]; simp)
    obtain ⟨ny, rfl, iy, fy⟩ := inH_out c (v := toH es h) (x := y) (by rw [hL]; simp)
    have g0 : ([((nx : Nat) : Int), ((ny : Nat) : Int)] : List Int).getD 0 0 = nx := rfl
    have g1 : ([((nx : Nat) : Int), ((ny : Nat) : Int)] : List Int).getD 1 0 = ny := rfl
    rw [g0, g1]
    by_cases q : ((nx : Nat) : Int) = mate h
    · rw [if_pos q, Int.toNat_natCast]
      exact ⟨iy, fy, fun z => hxy (q.trans z.symm), .inl (by rw [q])⟩
    · rw [if_neg q, Int.toNat_natCast]
      refine ⟨ix, fx, q, .inr ?_⟩
      have : ((mate h : Nat) : Int) = ny := by
        simp at hm
        omega
      rw [this]
theorem itH_in (m : MayN g es) (c : ChosenK (es.length : Int) sel) {h : Nat} (hh : InH es sel h) : ∀ n, (∀ i, i < n → ¬ stopH es (outsF g es sel) (itH es (outsF g es sel) h i)) → InH es sel (itH es (outsF g es sel) h n)
  | 0, _ => hh
  | n + 1, hn => (two_ways m c (itH_in m c hh n fun i hi => hn i (by omega)) (hn n (by omega))).1
theorem nxt_inj (m : MayN g es) (c : ChosenK (es.length : Int) sel) {h k : Nat} (hh : InH es sel h) (hk : InH es sel k) (sh : ¬ stopH es (outsF g es sel) h) (sk : ¬ stopH es (outsF g es sel) k) (e : nxt es (outsF g es sel) h = nxt es (outsF g es sel) k) : h = k := by
  obtain ⟨_, a2, a3, a4⟩ := two_ways m c hh sh
  obtain ⟨_, b2, b3, b4⟩ := two_ways m c hk sk
  have ev : toH es h = toH es k := by rw [← a2, ← b2, e]
  rw [ev] at a4
  rw [← e] at b4 b3
  have em : ((mate h : Nat) : Int) = mate k := by
    rcases a4 with a4 | a4 <;> rcases b4 with b4 | b4 <;> rw [a4] at b4 <;> simp at b4 <;> omega
  have := congrArg mate (show mate h = mate k by omega)
  rwa [mate_mate, mate_mate] at this
theorem itH_ne (m : MayN g es) (c : ChosenK (es.length : Int) sel) {h : Nat} (hh : InH es sel h) (h0 : (outF es sel (fromH es h)).length ≠ 2) {n : Nat} (hn : ∀ i, i < n → ¬ stopH es (outsF g es sel) (itH es (outsF g es sel) h i)) :
    ∀ a b, a < b → b ≤ n → itH es (outsF g es sel) h a ≠ itH es (outsF g es sel) h b
  | 0, b + 1, _, hb => fun e => by
    have ib := itH_in m c hh b fun i hi => hn i (by omega)
    have sb := hn b (by omega)
    obtain ⟨_, b2, _, _⟩ := two_ways m c ib sb
    have : fromH es h = toH es (itH es (outsF g es sel) h b) := by rw [← b2]; exact congrArg _ e
    rw [this] at h0
    unfold stopH at sb
    rw [outsAt m c ib] at sb
    exact sb h0
  | a + 1, b + 1, hab, hb => fun e => itH_ne m c hh h0 hn a b (by omega) (by omega)
    (nxt_inj m c (itH_in m c hh a fun i hi => hn i (by omega)) (itH_in m c hh b fun i hi => hn i (by omega)) (hn a (by omega)) (hn b (by omega)) e)
theorem ends_way (m : MayN g es) (c : ChosenK (es.length : Int) sel) {h : Nat} (hh : InH es sel h) (h0 : (outF es sel (fromH es h)).length ≠ 2) :
    ∃ j, j ≤ 2 * es.length ∧ (∀ i, i < j → ¬ stopH es (outsF g es sel) (itH es (outsF g es sel) h i)) ∧ stopH es (outsF g es sel) (itH es (outsF g es sel) h j) := by
  have dec : ∀ n, (∃ j, j ≤ n ∧ (∀ i, i < j → ¬ stopH es (outsF g es sel) (itH es (outsF g es sel) h i)) ∧ stopH es (outsF g es sel) (itH es (outsF g es sel) h j)) ∨ ∀ i, i < n + 1 → ¬ stopH es (outsF g es sel) (itH es (outsF g es sel) h i) := by
    intro n
    induction n with
    | zero =>
      by_cases q : stopH es (outsF g es sel) (itH es (outsF g es sel) h 0)
      · exact .inl ⟨0, Nat.le_refl _, fun i hi => by omega, q⟩
      · exact .inr fun i hi => by obtain rfl : i = 0 := by omega
                                  exact q
    | succ n ih =>
      rcases ih with ⟨j, h1, h2, h3⟩ | ih
      · exact .inl ⟨j, by omega, h2, h3⟩
      · by_cases q : stopH es (outsF g es sel) (itH es (outsF g es sel) h (n + 1))
        · exact .inl ⟨n + 1, Nat.le_refl _, ih, q⟩
        · refine .inr fun i hi => ?_
          by_cases e : i = n + 1
          · subst e; exact q
          · exact ih i (by omega)
  rcases dec (2 * es.length) with h1 | h1
  · exact h1
  · exfalso
    have nd : ((List.range (2 * es.length + 1)).map (itH es (outsF g es sel) h)).Nodup := by
      refine List.pairwise_iff_getElem.2 fun a b ha hb hab => ?_
      simp only [List.getElem_map, List.getElem_range]
      simp only [List.length_map, List.length_range] at ha hb
      exact itH_ne m c hh h0 h1 a b hab (by omega)
    have := nodup_bound (2 * es.length) _ nd fun x hx => by
      obtain ⟨i, hi, rfl⟩ := List.mem_map.1 hx
      have := List.mem_range.1 hi
      exact (itH_in m c hh i fun a ha => h1 a (by omega)).1
    simp at this
    omega
end
end Go.Proofs.Ytmcloipjlihhlaa.N
