/- What traceryref3's From, pair, Parallel, Degrees yield. Conditions: none. -/
import Derived.Test.YtmcloipjlihhlaaUMaker3
namespace Go.Proofs.Ytmcloipjlihhlaa
open Go.X

/-- The half-edges' starts. -/
def halves : List (Int × Int) → List Int
  | [] => []
  | (u, v) :: r => u :: v :: halves r
theorem halves_length : ∀ (l : List (Int × Int)), (halves l).length = 2 * l.length
  | [] => rfl
  | (u, v) :: l => by simp [halves, halves_length l]; omega
theorem halves_get : ∀ {l : List (Int × Int)} {i : Nat} {u v : Int}, l[i]? = some (u, v) → (halves l)[2 * i]? = some u ∧ (halves l)[2 * i + 1]? = some v
  | [], i, u, v, h => by simp at h
  | (a, b) :: l, 0, u, v, h => by simp at h; simp [halves, h]
  | (a, b) :: l, i + 1, u, v, h => by
    have := halves_get (l := l) (i := i) (u := u) (v := v) (by simpa using h)
    rw [show 2 * (i + 1) = 2 * i + 1 + 1 by omega]
    simpa [halves] using this
theorem halves_mem : ∀ {l : List (Int × Int)} {x : Int}, x ∈ halves l → ∃ u v, (u, v) ∈ l ∧ (x = u ∨ x = v)
  | [], x, h => by simp [halves] at h
  | (a, b) :: l, x, h => by
    simp only [halves, List.mem_cons] at h
    rcases h with rfl | rfl | h
    · exact ⟨x, b, by simp, .inl rfl⟩
    · exact ⟨a, x, by simp, .inr rfl⟩
    · obtain ⟨u, v, h1, h2⟩ := halves_mem h
      exact ⟨u, v, List.mem_cons_of_mem _ h1, h2⟩

theorem From_ok {h : Heap} {a : Option Addr} {c : Nat} {es : List (Int × Int)} (r : Reads h 2 a es.length (flat es)) (hl : es.length ≤ 1000000) (N : Int) {k : Nat} {x : Int} (hx : (halves es)[k]? = some x) :
    CallsH Try.prog 88 #[.agg #[.int .i64 N, .slice a es.length c], .int .i64 k] h fun v h' => Fr [] h h' ∧ v = .int .i64 x := by
  apply calls88
  unfold S88
  intro h2
  have hk : k < 2 * es.length := by rw [← halves_length]; exact (List.getElem?_eq_some_iff.1 hx).1
  have e1 : Int.tdiv (k : Int) 2 = ((k / 2 : Nat) : Int) := rfl
  have e2 : Int.tmod (k : Int) 2 = ((k % 2 : Nat) : Int) := rfl
  obtain ⟨⟨u, v⟩, he⟩ : ∃ p, es[k / 2]? = some p := ⟨_, List.getElem?_eq_getElem (by omega)⟩
  obtain ⟨b, o, rfl, q1, q2⟩ := (r.fr (Fr.push h _) (by simp) : Reads h2 2 a es.length (flat es)).pair he
  rw [e1, e2, wr (by omega) (by omega)]
  obtain ⟨g1, g2⟩ := halves_get he
  refine ⟨by decide, by decide, b, o, rfl, by omega, by omega, by omega, by omega, x, ?_, Fr.push _ _, rfl⟩
  simp only [Int.toNat_natCast]
  rcases Nat.mod_two_eq_zero_or_one k with hm | hm
  · have : 2 * (k / 2) = k := by omega
    rw [this] at g1; rw [g1] at hx; simp at hx; subst hx
    rw [hm]; simpa using q1
  · have : 2 * (k / 2) + 1 = k := by omega
    rw [this] at g2; rw [g2] at hx; simp at hx; subst hx
    rw [hm]; simpa using q2

def pairF (p : Int × Int) : Int × Int := if p.1 > p.2 then (p.2, p.1) else p
theorem pair_ok (u v : Int) (h : Heap) : CallsH Try.prog 198 #[.agg #[.int .i64 u, .int .i64 v]] h fun r h' => Fr [] h h' ∧ r = .agg #[.int .i64 (pairF (u, v)).1, .int .i64 (pairF (u, v)).2] := by
  apply calls198
  unfold S198
  intro h1 h2
  have f : Fr [] h h2 := (Fr.push h _).pushr _
  have hs : h.size ≤ h1.size := (Fr.push h _).size
  refine cnd_dec (fun hd => ⟨(f.hsetr (.inl hs)).hsetr (.inl hs), by simp [pairF, hd]⟩) fun hd => ⟨(f.hsetr (.inl hs)).hsetr (.inl hs), by simp [pairF, hd]⟩

/-- Is the edge parallel to an earlier one? -/
def parF (es : List (Int × Int)) (e : Nat) : Bool := match es[e]? with
  | some p => (es.take e).any fun q => pairF q == pairF p
  | none => false

theorem Parallel_ok {h : Heap} {a : Option Addr} {c : Nat} {es : List (Int × Int)} (r : Reads h 2 a es.length (flat es)) (hl : es.length ≤ 1000000) (N : Int) {e : Nat} (he : e < es.length) :
    CallsH Try.prog 118 #[.agg #[.int .i64 N, .slice a es.length c], .int .i64 e] h fun v h' => Fr [] h h' ∧ v = .bool (parF es e) := by
  apply calls118
  unfold S118
  intro h1
  obtain ⟨⟨x3, x4⟩, hp⟩ : ∃ p, es[e]? = some p := ⟨_, List.getElem?_eq_getElem he⟩
  refine ⟨fun l h' => ∃ i : Nat, l = [.int .i64 i] ∧ i ≤ e ∧ Fr [] h h' ∧ (es.take i).any (fun q => pairF q == pairF (x3, x4)) = false, mI e, ⟨0, rfl, by omega, Fr.push _ _, by simp⟩, ?_⟩
  rintro x h2 ⟨i, e', hi, f, hn⟩
  simp at e'; subst e'
  refine cnd_dec (fun hlt => ?_) fun hlt => ?_
  · obtain ⟨⟨x1, x2⟩, hq⟩ : ∃ p, es[i]? = some p := ⟨_, List.getElem?_eq_getElem (by omega)⟩
    obtain ⟨b, o, e1, q1, q2⟩ := (r.fr f (by simp)).pair hq
    obtain ⟨b', o', e2, q3, q4⟩ := (r.fr f (by simp)).pair hp
    refine ⟨b, o, e1, by omega, by omega, x1, by simpa using q1, x2, by simpa using q2, b', o', e2, by omega, by omega, x3, by simpa using q3, x4, by simpa using q4, ?_⟩
    refine callX_nil (pair_ok x1 x2 h2) ?_
    rintro v h3 f3 rfl
    refine ⟨_, _, rfl, f3, callX_nil (pair_ok x3 x4 h3) ?_⟩
    rintro v h4 f4 rfl
    have f14 := (f.trans f3).trans f4
    have hb : ((pairF (x1, x2)).fst == (pairF (x3, x4)).fst && (pairF (x1, x2)).snd == (pairF (x3, x4)).snd) = (pairF (x1, x2) == pairF (x3, x4)) := rfl
    have ht : es.take (i + 1) = es.take i ++ [(x1, x2)] := by rw [List.take_add_one, hq]; rfl
    refine ⟨_, _, rfl, f3.trans f4, ?_⟩
    rw [hb]
    refine cnd_b (fun hc => ⟨f14, ?_⟩) fun hc => ⟨⟨i + 1, by rw [wr (by omega) (by omega)]; simp, by omega, f14, by rw [ht]; simp [hn, hc]⟩, by rw [wr (by omega) (by omega)]; simp only [mI]; omega⟩
    have : (es.take e).any (fun q => pairF q == pairF (x3, x4)) = true := by
      rw [List.any_eq_true]
      exact ⟨(x1, x2), by rw [List.mem_take_iff_getElem]; exact ⟨i, by omega, by rw [List.getElem?_eq_getElem (by omega)] at hq; simpa using hq⟩, hc⟩
    simp [parF, hp, this]
  · have : i = e := by omega
    subst this
    exact ⟨f, by simp [parF, hp, hn]⟩

/-- How often each number below N stands in a list. -/
def degL (N : Nat) (l : List Int) : List Int := (List.range N).map fun (v : Nat) => (l.count (v : Int) : Int)
@[simp] theorem degL_length (N : Nat) (l : List Int) : (degL N l).length = N := by simp [degL]
theorem degL_get {N : Nat} (l : List Int) {v : Nat} (hv : v < N) : (degL N l)[v]? = some (l.count (v : Int) : Int) := by simp [degL, hv]
theorem degL_snoc {N : Nat} (l : List Int) {v : Nat} (hv : v < N) : degL N (l ++ [(v : Int)]) = (degL N l).set v ((l.count (v : Int) : Int) + 1) := by
  apply List.ext_getElem?
  intro i
  rw [List.getElem?_set]
  by_cases hi : i < N
  · rw [degL_get _ hi]
    by_cases hvi : v = i
    · subst hvi; simp [hv]
    · rw [if_neg hvi, degL_get _ hi]
      have : (v : Int) ≠ (i : Int) := by omega
      simp [List.count_cons, this]
  · simp [degL, hi]; omega

theorem Degrees_ok {h : Heap} {a : Option Addr} {c : Nat} {es : List (Int × Int)} (r : Reads h 2 a es.length (flat es)) (hl : es.length ≤ 1000000) {N : Nat} (hN : N ≤ 1000000) (hb : ∀ x ∈ halves es, 0 ≤ x ∧ x < (N : Int)) :
    CallsH Try.prog 119 #[.agg #[.int .i64 N, .slice a es.length c]] h fun v h' => Fr [] h h' ∧ ∃ g, h.size ≤ g ∧ v = .slice (some ⟨g, 0, none⟩) N N ∧ Own h' 3 1 (some ⟨g, 0, none⟩) N N (ints (degL N (halves es))) := by
  apply calls119
  unfold S119
  intro h1
  refine ⟨by omega, by omega, by omega, by omega, ?_⟩
  intro h2
  have s1 : h1.size = h.size + 1 := by simp [h1]
  have o2 : Own h2 3 1 (some ⟨h1.size, 0, none⟩) N N (ints (degL N [])) := by
    have := own_made (h := h1) (e := 3) (n := N) (.int .i64 0) (by simp [maxLen]; omega)
    have e : ints (degL N []) = List.replicate N (.int .i64 0) := by simp [ints, degL, Function.comp_def, List.map_const']
    rw [e]; simpa [h2] using this
  have w2 : IntKind.i64.wrap (2 * (es.length : Int)) = ((2 * es.length : Nat) : Int) := by rw [wr (by omega) (by omega)]; simp
  rw [w2]
  refine ⟨fun l h' => ∃ k : Nat, l = [.int .i64 k] ∧ k ≤ 2 * es.length ∧ Fr [] h h' ∧ Own h' 3 1 (some ⟨h1.size, 0, none⟩) N N (ints (degL N ((halves es).take k))), mI (2 * es.length : Nat), ⟨0, rfl, by omega, (Fr.push h _).pushr _, by simpa using o2⟩, ?_⟩
  rintro x h3 ⟨k, e', hk, f, o⟩
  simp at e'; subst e'
  refine cnd_dec (fun hlt => ?_) fun hlt => ?_
  · obtain ⟨x, hx⟩ : ∃ x, (halves es)[k]? = some x := ⟨_, List.getElem?_eq_getElem (by rw [halves_length]; omega)⟩
    obtain ⟨b1, b2⟩ := hb x (List.mem_of_getElem? hx)
    obtain ⟨v, rfl⟩ : ∃ v : Nat, x = v := ⟨x.toNat, by omega⟩
    refine callX_nil (From_ok (r.fr f (by simp)) hl N hx) ?_
    rintro _ h4 f4 rfl
    have o4 := o.fr f4 (by simp)
    have hv : v < N := by omega
    have hd := degL_get (N := N) ((halves es).take k) hv
    have hc := o4.cell (ints_get hd)
    have hcnt : ((halves es).take k).count (v : Int) ≤ k := Nat.le_trans List.count_le_length (by simp; omega)
    refine ⟨_, rfl, h1.size, 0, rfl, by omega, by omega, _, by simpa using hc, h1.size, 0, rfl, by omega, by omega, by omega, ⟨_, by simpa using hc⟩, o4.free _, ?_⟩
    intro h5
    have ht : (halves es).take (k + 1) = (halves es).take k ++ [(v : Int)] := by rw [List.take_add_one, hx]; rfl
    refine ⟨⟨k + 1, by rw [wr (by omega) (by omega)]; simp, by omega, (f.trans f4).hsetr (.inl (by omega)), ?_⟩, by rw [wr (by omega) (by omega)]; simp only [mI]; omega⟩
    rw [ht, degL_snoc _ hv, ← ints_set]
    have := o4.set v (.int .i64 ((((halves es).take k).count (v : Int) : Int) + 1))
    have w : IntKind.i64.wrap ((((halves es).take k).count (v : Int) : Int) + 1) = (((halves es).take k).count (v : Int) : Int) + 1 := wr (by omega) (by omega)
    simpa [h5, w] using this
  · have hke : k = 2 * es.length := by omega
    refine ⟨f, h1.size, by omega, by simp, ?_⟩
    rw [hke, ← halves_length, List.take_length] at o
    exact o

end Go.Proofs.Ytmcloipjlihhlaa
