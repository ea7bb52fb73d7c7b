/- Package kura: which edges may be chosen, the half-edges of each node, branch nodes, ways. Conditions: none. -/
import Derived.Test.YtmcloipjlihhlaaNKuraP
set_option linter.unusedSimpArgs false
set_option linter.unusedVariables false
namespace Go.Proofs.Ytmcloipjlihhlaa.N
open Go.X Go.Proofs.Ytmcloipjlihhlaa
set_option maxRecDepth 100000

def ChosenK (n : Int) (l : List Int) : Prop := (∀ x ∈ l, 0 ≤ x ∧ x < n) ∧ l.Nodup
theorem okChosenK {l : List Int} {n : Int} {R : Int → Prop} (hl : l.length ≤ 1000000) (n0 : 0 ≤ n) (n1 : n ≤ 1000000) (bad : ¬ ChosenK n l → R 2 ∧ R 18) (good : ChosenK n l → R 0) : Ok223 l n R := by
  apply ok223
  unfold T223
  refine ⟨n0, by omega, fun x s => ∃ k : Nat, x = k ∧ k ≤ l.length ∧ s.length = n.toNat ∧ (∀ y ∈ l.take k, 0 ≤ y ∧ y < n) ∧ (l.take k).Nodup ∧ ∀ i : Nat, s.getD i false = true ↔ (i : Int) ∈ l.take k, fun x _ => ((l.length : Int) - x).toNat, ⟨0, rfl, Nat.zero_le _, by simp, by simp, by simp, fun i => by simp [List.getD_eq_getElem?_getD, List.getElem?_replicate]; split <;> simp⟩, ?_⟩
  rintro _ s ⟨k, rfl, hk, hs, hr, nd, hm⟩
  refine cnd_dec (fun hlt => ⟨by omega, hlt, fun x hx => ?_⟩) fun hlt => ?_
  · rw [Int.toNat_natCast] at hx
    have xm := List.mem_of_getElem? hx
    refine cnd_dec (fun q => (bad fun c => by have := c.1 x xm; omega).1) fun q1 => cnd_dec (fun q => (bad fun c => by have := c.1 x xm; omega).1) fun q2 => ⟨by omega, by omega, fun y hy => ?_⟩
    have hy' : s.getD x.toNat false = y := by simp [List.getD_eq_getElem?_getD, hy]
    have hmx := hm x.toNat
    rw [hy', Int.toNat_of_nonneg (by omega)] at hmx
    have etk : l.take (k + 1) = l.take k ++ [x] := by rw [List.take_add_one, hx]; rfl
    refine cnd_b' (fun q => (bad fun c => ?_).2) fun q => ?_
    · have h1 := hmx.1 q
      have nd2 : (l.take (k + 1)).Nodup := c.2.sublist (List.take_sublist _ _)
      rw [etk] at nd2
      exact (List.nodup_append.1 nd2).2.2 x h1 x (by simp) rfl
    · have hnm : x ∉ l.take k := fun z => by rw [hmx.2 z] at q; cases q
      rw [wr (by omega) (by omega)]
      refine ⟨⟨k + 1, by simp, by omega, by simpa using hs, ?_, ?_, fun i => ?_⟩, by dsimp only; omega⟩
      · rw [etk]
        intro y' hy'
        rcases List.mem_append.1 hy' with hy' | hy'
        · exact hr y' hy'
        · rcases List.mem_singleton.1 hy' with rfl; omega
      · rw [etk]
        refine List.nodup_append.2 ⟨nd, by simp, fun a ha b hb e => ?_⟩
        rcases List.mem_singleton.1 hb with rfl
        exact hnm (e ▸ ha)
      · rw [etk, List.mem_append, List.mem_singleton, ← hm i]
        by_cases e : i = x.toNat
        · subst e
          rw [List.getD_eq_getElem?_getD, List.getElem?_set_self (by omega), Int.toNat_of_nonneg (by omega)]
          simp
        · rw [List.getD_eq_getElem?_getD, List.getElem?_set_ne (fun z => e z.symm), ← List.getD_eq_getElem?_getD]
          constructor
          · exact fun z => .inl z
          · rintro (z | z)
            · exact z
            · omega
  · have hkl : l.take k = l := List.take_of_length_le (by omega)
    rw [hkl] at hr nd
    exact good ⟨hr, nd⟩
def subK (es : Es) (keep : List Int) : Es := keep.map fun i => es.getD i.toNat (0, 0)
theorem okSubK {g : Int} {es : Es} {l : List Int} {R : Int → Es → Int → Prop} (hl : l.length ≤ 1000000) (b0 : mayB g es = false → R 0 [] 1) (bad : mayB g es = true → ¬ ChosenK es.length l → R 0 [] 2 ∧ R 0 [] 18)
    (good : mayB g es = true → ChosenK es.length l → R g (subK es l) 0) : Ok206 g es l R := by
  apply ok206
  unfold T206
  refine okMay (cnd_not (fun q => b0 q) fun q => ?_)
  have m := mayN q
  have mm := m.m
  refine okChosenK hl (by omega) (by omega) (fun c => ⟨cnd_ne (fun _ => (bad q c).1) (fun z => absurd z (by decide)), cnd_ne (fun _ => (bad q c).2) (fun z => absurd z (by decide))⟩) fun c => cnd_ne (fun z => absurd rfl z) fun _ => ?_
  refine ⟨fun i a b => ∃ k : Nat, i = k ∧ k ≤ l.length ∧ a = g ∧ b = subK es (l.take k), fun i _ _ => ((l.length : Int) - i).toNat, ⟨0, rfl, Nat.zero_le _, rfl, rfl⟩, ?_⟩
  rintro _ _ _ ⟨k, rfl, hk, rfl, rfl⟩
  refine cnd_dec (fun hlt => ⟨by omega, hlt, fun x hx => ?_⟩) fun hlt => ?_
  · rw [Int.toNat_natCast] at hx
    have hxr := c.1 x (List.mem_of_getElem? hx)
    refine ⟨hxr.1, hxr.2, fun y hy => ⟨by simp [subK]; omega, ?_⟩⟩
    rw [wr (by omega) (by omega)]
    refine ⟨⟨k + 1, by simp, by omega, rfl, ?_⟩, by dsimp only; omega⟩
    unfold N.subK
    rw [List.take_add_one, hx, List.map_append]
    simp [List.getD, hy]
  · have : k = l.length := by omega
    subst this
    rw [List.take_length]; exact good q c
theorem okFaultyK {g : Int} {es : Es} {l : List Int} {R : Int → Prop} (hl : l.length ≤ 1000000) (b0 : mayB g es = false → R 1) (bad : mayB g es = true → ¬ ChosenK es.length l → R 2 ∧ R 18) (good : mayB g es = true → ChosenK es.length l → R 0) : Ok156 g es l R := by
  apply ok156
  unfold T156
  exact okMay (cnd_not (fun q => b0 q) fun _ => okSubK hl b0 bad good)
def halfOf (es : Es) (e v : Int) : List Int := (if (es.getD e.toNat (0, 0)).1 = v then [2 * e] else []) ++ (if (es.getD e.toNat (0, 0)).2 = v then [2 * e + 1] else [])
def outF (es : Es) (sel : List Int) (v : Int) : List Int := sel.flatMap fun e => halfOf es e v
def outsF (g : Int) (es : Es) (sel : List Int) : List (List Int) := (List.range g.toNat).map fun v : Nat => outF es sel (v : Int)
theorem outsF_len (g : Int) (es : Es) (sel : List Int) : (outsF g es sel).length = g.toNat := by simp [outsF]
theorem outsF_get {g v : Int} {es : Es} {sel : List Int} (h0 : 0 ≤ v) (h1 : v < g) : (outsF g es sel)[v.toNat]? = some (outF es sel v) := by
  unfold outsF
  rw [List.getElem?_map, List.getElem?_range (by omega)]
  simp [Int.toNat_of_nonneg h0]
theorem map_set {n i : Nat} {f : Nat → List Int} {a : Int} (hi : i < n) : ((List.range n).map f).set i (f i ++ [a]) = (List.range n).map fun v => f v ++ if i = v then [a] else [] := by
  apply List.ext_getElem?
  intro j
  rw [List.getElem?_set, List.length_map, List.length_range, List.getElem?_map, List.getElem?_map]
  by_cases h : i = j
  · subst h
    rw [if_pos rfl, if_pos hi, List.getElem?_range hi]
    simp
  · rw [if_neg h]
    by_cases hj : j < n
    · rw [List.getElem?_range hj]; simp [h]
    · rw [List.getElem?_eq_none (by simpa using hj)]; rfl
def brP (l : List Int) : Bool := decide (l.length ≠ 0) && decide (l.length ≠ 2)
def brL (outs : List (List Int)) (n : Nat) : List Int := ((List.range n).filter fun v => brP (outs.getD v [])).map fun v : Nat => (v : Int)
structure BrOK (outs : List (List Int)) (d : Int) (b : List Int) : Prop where
  shape : (d = 4 ∧ b.length = 5) ∨ (d = 3 ∧ b.length = 6)
  all : ∀ (v : Nat) (l : List Int), outs[v]? = some l → brP l = true → (l.length : Int) = d
  eq : b = brL outs outs.length
theorem brP_iff {l : List Int} : brP l = true ↔ l.length ≠ 0 ∧ l.length ≠ 2 := by simp [brP]
theorem brL_succ {outs : List (List Int)} {n : Nat} {l : List Int} (h : outs[n]? = some l) : brL outs (n + 1) = brL outs n ++ if brP l = true then [(n : Int)] else [] := by
  unfold brL
  rw [List.range_succ, List.filter_append, List.map_append]
  congr 1
  have e := getD_of'' h
  cases q : brP l with
  | true => rw [List.filter_cons_of_pos (by rw [e]; exact q)]; rfl
  | false => rw [List.filter_cons_of_neg (by rw [e, q]; decide)]; rfl
theorem brL_len (outs : List (List Int)) (n : Nat) : (brL outs n).length ≤ n := by
  unfold brL
  rw [List.length_map]
  exact Nat.le_trans (List.length_filter_le _ _) (by simp)
theorem okBr {g k : Int} {es : Es} {outs paths : List (List Int)} {R : Int → List Int → Int → Int → Bool → Prop} (hn : outs.length ≤ 100000) (hl : ∀ l ∈ outs, l.length ≤ 1000000) (bad : (¬ ∃ d b, BrOK outs d b) → ∀ b d, R g b k d false) (good : ∀ d b, BrOK outs d b → R g b k d true) :
    Ok207 g es outs [] paths k R := by
  apply ok207
  unfold T207
  refine ⟨fun d x b => ∃ n : Nat, x = n ∧ n ≤ outs.length ∧ b = brL outs n ∧ (d = 0 ∨ d = 3 ∨ d = 4) ∧ (∀ (v : Nat) (l : List Int), v < n → outs[v]? = some l → brP l = true → (l.length : Int) = d) ∧ (d ≠ 0 → ∃ (v : Nat) (l : List Int), v < n ∧ outs[v]? = some l ∧ brP l = true),
    fun _ x _ => ((outs.length : Int) - x).toNat, ⟨0, rfl, Nat.zero_le _, rfl, .inl rfl, fun v l h => by omega, fun h => absurd rfl h⟩, ?_⟩
  rintro d _ _ ⟨n, rfl, hn2, rfl, hd, hall, hwit⟩
  refine cnd_dec (fun hlt => ?_) fun hlt => ?_
  · refine ⟨fun d' b' => (d' = 0 ∨ d' = 3 ∨ d' = 4) ∧ b' = brL outs (n + 1) ∧ (∀ (v : Nat) (l : List Int), v < n + 1 → outs[v]? = some l → brP l = true → (l.length : Int) = d') ∧ (d' ≠ 0 → ∃ (v : Nat) (l : List Int), v < n + 1 ∧ outs[v]? = some l ∧ brP l = true),
      ⟨by omega, hlt, fun l hx => ?_⟩, ?_⟩
    · rw [Int.toNat_natCast] at hx
      have hll := hl l (List.mem_of_getElem? hx)
      have hb := brL_succ hx
      have step : brP l = false → (d = 0 ∨ d = 3 ∨ d = 4) ∧ brL outs n = brL outs (n + 1) ∧ (∀ (v : Nat) (l : List Int), v < n + 1 → outs[v]? = some l → brP l = true → (l.length : Int) = d) ∧ (d ≠ 0 → ∃ (v : Nat) (l : List Int), v < n + 1 ∧ outs[v]? = some l ∧ brP l = true) := by
        intro q
        refine ⟨hd, by rw [hb, q]; simp, fun v l' hv hl' hp => ?_, fun z => ?_⟩
        · by_cases e : v = n
          · subst e
            rw [hx] at hl'
            rw [← Option.some.inj hl', q] at hp; cases hp
          · exact hall v l' (by omega) hl' hp
        · obtain ⟨v, l', h1, h2, h3⟩ := hwit z
          exact ⟨v, l', by omega, h2, h3⟩
      have isb : l.length ≠ 0 → l.length ≠ 2 → brP l = true := fun a b => brP_iff.2 ⟨a, b⟩
      have fail : (∀ dd bb, BrOK outs dd bb → False) → ∀ b d, R g b k d false := fun h => bad fun ⟨dd, bb, z⟩ => h dd bb z
      have new : ∀ {d'}, d' = (l.length : Int) → (d' = 3 ∨ d' = 4) → (∀ (v : Nat) (l' : List Int), v < n → outs[v]? = some l' → brP l' = true → (l'.length : Int) = d') → brP l = true →
          (d' = 0 ∨ d' = 3 ∨ d' = 4) ∧ brL outs n ++ [(n : Int)] = brL outs (n + 1) ∧ (∀ (v : Nat) (l : List Int), v < n + 1 → outs[v]? = some l → brP l = true → (l.length : Int) = d') ∧ (d' ≠ 0 → ∃ (v : Nat) (l : List Int), v < n + 1 ∧ outs[v]? = some l ∧ brP l = true) := by
        intro d' e1 e2 e3 q
        refine ⟨.inr e2, by rw [hb, if_pos q], fun v l' hv hl' hp => ?_, fun _ => ⟨n, l, by omega, hx, q⟩⟩
        by_cases e : v = n
        · subst e
          rw [hx] at hl'
          rw [← Option.some.inj hl', e1]
        · exact e3 v l' (by omega) hl' hp
      have hbl := brL_len outs n
      refine cnd_eq (fun q => step (by rw [← Bool.not_eq_true]; intro z; have := brP_iff.1 z; omega)) fun q0 => ⟨fun d' b' => (d' = 0 ∨ d' = 3 ∨ d' = 4) ∧ b' = brL outs (n + 1) ∧ (∀ (v : Nat) (l : List Int), v < n + 1 → outs[v]? = some l → brP l = true → (l.length : Int) = d') ∧ (d' ≠ 0 → ∃ (v : Nat) (l : List Int), v < n + 1 ∧ outs[v]? = some l ∧ brP l = true), ?_, fun _ _ z => z⟩
      refine cnd_eq (fun q => step (by rw [← Bool.not_eq_true]; intro z; have := brP_iff.1 z; omega)) fun q2 => cnd_dec (fun q => ?_) fun q4 => cnd_eq (fun q => ?_) fun q1 => cnd_ne (fun qd => cnd_ne (fun q => ?_) fun q => ?_) fun qd => ?_
      · refine fail (fun dd bb z => ?_) _ _
        have := z.all n l hx (isb (by omega) (by omega))
        rcases z.shape with ⟨e, _⟩ | ⟨e, _⟩ <;> omega
      · refine fail (fun dd bb z => ?_) _ _
        have := z.all n l hx (isb (by omega) (by omega))
        rcases z.shape with ⟨e, _⟩ | ⟨e, _⟩ <;> omega
      · refine fail (fun dd bb z => ?_) _ _
        have h1 := z.all n l hx (isb (by omega) (by omega))
        obtain ⟨v, l', hv, hl', hp⟩ := hwit qd
        have h2 := z.all v l' hl' hp
        have h3 := hall v l' hv hl' hp
        omega
      · refine ⟨by omega, ?_⟩
        rw [q]
        exact new q.symm (by omega) hall (isb (by omega) (by omega))
      · refine ⟨by omega, new (d' := (l.length : Int)) rfl (by omega) (fun v l' hv hl' hp => ?_) (isb (by omega) (by omega))⟩
        have h3 := hall v l' hv hl' hp
        have := brP_iff.1 hp
        omega
    · rintro d' _ ⟨h1, rfl, h3, h4⟩
      rw [wr (by omega) (by omega)]
      exact ⟨⟨n + 1, by simp, by omega, rfl, h1, h3, h4⟩, by dsimp only; omega⟩
  · have hne : n = outs.length := by omega
    subst hne
    have ok : ∀ {dd : Int}, dd = d → ((d = 4 ∧ (brL outs outs.length).length = 5) ∨ (d = 3 ∧ (brL outs outs.length).length = 6)) → R g (brL outs outs.length) k d true := fun _ z =>
      good d _ ⟨z, fun v l hv hp => hall v l (List.getElem?_eq_some_iff.1 hv).1 hv hp, rfl⟩
    have no : ¬ ((d = 4 ∧ (brL outs outs.length).length = 5) ∨ (d = 3 ∧ (brL outs outs.length).length = 6)) → R g (brL outs outs.length) k d false := fun z =>
      bad (fun ⟨dd, bb, y⟩ => z (by
        have y2 := y.eq
        subst y2
        by_cases h0 : d = 0
        · -- none is a branch node
          exfalso
          have hemp : brL outs outs.length = [] := by
            unfold brL
            rw [List.filter_eq_nil_iff.2, List.map_nil]
            intro v hv hp
            have hvl := List.mem_range.1 hv
            have e := List.getElem?_eq_getElem hvl
            rw [getD_of'' e] at hp
            have := hall v _ hvl e hp
            have := brP_iff.1 hp
            omega
          rcases y.shape with ⟨_, e⟩ | ⟨_, e⟩ <;> rw [hemp] at e <;> simp at e
        · obtain ⟨v, l', hv, hl', hp⟩ := hwit h0
          have h2 := y.all v l' hl' hp
          have h3 := hall v l' hv hl' hp
          have : dd = d := by omega
          subst this
          exact y.shape)) _ _
    refine ⟨R g (brL outs outs.length) k d false, ⟨fun q => R g (brL outs outs.length) k d q, ?_, fun _ z => z⟩, fun z => z⟩
    have six : d = 3 → R g (brL outs outs.length) k d (((brL outs outs.length).length : Int) == 6) := fun e => by
      by_cases q : (brL outs outs.length).length = 6
      · rw [show (((brL outs outs.length).length : Int) == 6) = true by simp; omega]
        exact ok rfl (.inr ⟨e, q⟩)
      · rw [show (((brL outs outs.length).length : Int) == 6) = false by simp; omega]
        exact no (by omega)
    exact cnd_eq (fun q4 => cnd_eq (fun q5 => ok rfl (.inl ⟨q4, by omega⟩)) fun q5 => cnd_eq (fun q3 => six q3) fun q3 => no (by omega)) fun q4 => cnd_eq (fun q3 => six q3) fun q3 => no (by omega)
end Go.Proofs.Ytmcloipjlihhlaa.N
