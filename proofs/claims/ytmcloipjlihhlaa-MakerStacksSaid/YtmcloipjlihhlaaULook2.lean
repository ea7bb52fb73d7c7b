/- What traceryref3's Look yields; begun of law 5. Conditions: none. -/
import Derived.Test.YtmcloipjlihhlaaULook
namespace Go.Proofs.Ytmcloipjlihhlaa
open Go.X

theorem off {h : Heap} {e sz n c b k : Nat} {a : Option Addr} {xs : List Value} {v : Value} (o : Own h e sz a n c xs) (hb : b ∉ blkOf a) : Own (hset h b k v) e sz a n c xs :=
  o.blk fun x hx => hset_ne (by rintro rfl; exact hb hx)

def loopsF (es : List (Int × Int)) : Int := (es.countP fun p => p.1 == p.2 : Nat)
def parsF (es : List (Int × Int)) (k : Nat) : Int := ((List.range k).countP (parF es) : Nat)
def leastP (d : List Int) : Nat → Int
  | 0 => 0
  | v + 1 => if v = 0 ∨ d.getD v 0 < leastP d v then d.getD v 0 else leastP d v
def greatP (d : List Int) : Nat → Int
  | 0 => 0
  | v + 1 => if d.getD v 0 > greatP d v then d.getD v 0 else greatP d v

theorem loopsF_snoc (es : List (Int × Int)) (u v : Int) : loopsF (es ++ [(u, v)]) = loopsF es + if u = v then 1 else 0 := by
  by_cases h : u = v <;> simp [loopsF, List.countP_cons, h]
theorem parsF_succ (es : List (Int × Int)) (k : Nat) : parsF es (k + 1) = parsF es k + if parF es k = true then 1 else 0 := by
  by_cases h : parF es k = true <;> simp [parsF, List.range_succ, List.countP_cons, h]
theorem loopsF_le (es : List (Int × Int)) : 0 ≤ loopsF es ∧ loopsF es ≤ es.length := by
  have := List.countP_le_length (p := fun p : Int × Int => p.1 == p.2) (l := es)
  simp only [loopsF]; omega
theorem parsF_le (es : List (Int × Int)) (k : Nat) : 0 ≤ parsF es k ∧ parsF es k ≤ k := by
  have := List.countP_le_length (p := parF es) (l := List.range k)
  simp at this
  simp only [parsF]; omega

/-- What 'Look' tells of a net. -/
def lookV (N : Nat) (es : List (Int × Int)) : Value :=
  .agg #[.int .i64 (loopsF es), .int .i64 (parsF es es.length), .int .i64 (leastP (degL N (halves es)) N), .int .i64 (greatP (degL N (halves es)) N), .bool (loopsF es == 0 && parsF es es.length == 0)]

theorem Look_ok {h : Heap} {a : Option Addr} {c : Nat} {es : List (Int × Int)} (r : Reads h 2 a es.length (flat es)) (hl : es.length ≤ 1000000) {N : Nat} (hN : N ≤ 1000000) (hb : ∀ x ∈ halves es, 0 ≤ x ∧ x < (N : Int)) :
    CallsH Try.prog 29 #[.agg #[.int .i64 N, .slice a es.length c]] h fun v h' => Fr [] h h' ∧ v = lookV N es := by
  apply calls29
  unfold S29
  intro h1 h2 h3
  have s1 : h1.size = h.size + 1 := by simp [h1]
  have s2 : h2.size = h.size + 2 := by simp [h2, s1]
  have s3 : h3.size = h.size + 3 := by simp [h3, s2]
  refine ⟨fun l h' => ∃ k : Nat, l = [.int .i64 k, .int .i64 (loopsF (es.take k)), .int .i64 (parsF es k), .int .i64 0, .int .i64 0, .bool false] ∧ k ≤ es.length ∧ Fr [] h h' ∧ h3.size ≤ h'.size, mI es.length, ⟨0, by simp [loopsF, parsF], by omega, ((Fr.push h _).pushr _).pushr _, Nat.le_refl _⟩, ?_⟩
  rintro x c0 c1 c2 c3 c4 h4 ⟨i, e, hi, f, sz⟩
  simp at e; obtain ⟨rfl, rfl, rfl, rfl, rfl, rfl⟩ := e
  refine cnd_dec (fun hlt => ?_) fun hlt => ?_
  · obtain ⟨⟨u, v⟩, hq⟩ : ∃ p, es[i]? = some p := ⟨_, List.getElem?_eq_getElem (by omega)⟩
    obtain ⟨b, o, e1, q1, q2⟩ := (r.fr f (by simp)).pair hq
    have ht : es.take (i + 1) = es.take i ++ [(u, v)] := by rw [List.take_add_one, hq]; rfl
    have b1 := loopsF_le (es.take i)
    have b2 := parsF_le es i
    have b3 : (es.take i).length ≤ i := by simp; omega
    refine ⟨b, o, e1, by omega, by omega, u, by simpa using q1, b, o, e1, by omega, by omega, v, by simpa using q2, ?_⟩
    refine ⟨fun l h' => l = [.int .i64 (loopsF (es.take (i + 1))), .int .i64 (parsF es i), .int .i64 0, .int .i64 0, .bool false] ∧ Fr [] h h' ∧ h3.size ≤ h'.size, ?_, ?_⟩
    · rw [ht, loopsF_snoc]
      refine cnd_eq (fun hc => ?_) fun hc => ?_
      · refine ⟨?_, f.hsetr (.inl (by omega)), by simpa using sz⟩
        rw [wr (by omega) (by omega)]; simp [hc]
      · exact ⟨by simp [hc], f, sz⟩
    rintro c0 c1 c2 c3 c4 h6 ⟨e, f6, sz6⟩
    simp at e; obtain ⟨rfl, rfl, rfl, rfl, rfl⟩ := e
    refine callX_nil (Parallel_ok (r.fr f6 (by simp)) hl N (e := i) (by omega)) ?_
    rintro _ h7 f7 rfl
    refine ⟨_, rfl, fun l h' => l = [.int .i64 (loopsF (es.take (i + 1))), .int .i64 (parsF es (i + 1)), .int .i64 0, .int .i64 0, .bool false] ∧ Fr [] h h' ∧ h3.size ≤ h'.size, ?_, ?_⟩
    · have f67 := f6.trans f7
      have sz7 := Nat.le_trans sz6 f7.size
      rw [parsF_succ]
      refine cnd_b (fun hc => ?_) fun hc => ?_
      · refine ⟨?_, f67.hsetr (.inl (by omega)), by simpa using sz7⟩
        rw [wr (by omega) (by omega)]; simp [hc]
      · exact ⟨by simp [hc], f67, sz7⟩
    rintro c0 c1 c2 c3 c4 h9 ⟨e, f9, sz9⟩
    simp at e; obtain ⟨rfl, rfl, rfl, rfl, rfl⟩ := e
    exact ⟨⟨i + 1, by rw [wr (by omega) (by omega)]; simp, by omega, f9, sz9⟩, by rw [wr (by omega) (by omega)]; simp only [mI]; omega⟩
  · have hie : i = es.length := by omega
    subst hie
    rw [List.take_length]
    refine callX_nil (Degrees_ok (r.fr f (by simp)) hl hN hb) ?_
    rintro _ h10 f10 ⟨g, hg, rfl, o10⟩
    have ngA : h2.size ∉ blkOf (some (⟨g, 0, none⟩ : Addr)) := by simp [blkOf]; omega
    generalize hd : degL N (halves es) = d at *
    have hdl : d.length = N := by rw [← hd]; simp
    refine ⟨_, _, _, rfl, ?_⟩
    refine ⟨fun l h' => ∃ k : Nat, l = [.int .i64 k, .int .i64 (loopsF es), .int .i64 (parsF es es.length), .int .i64 (leastP d k), .int .i64 (greatP d k), .bool false] ∧ k ≤ N ∧ Fr [] h h' ∧ Own h' 3 1 (some ⟨g, 0, none⟩) N N (ints d), mI N, ⟨0, by simp [leastP, greatP], by omega, f.trans f10, o10⟩, ?_⟩
    rintro x c0 c1 c2 c3 c4 h11 ⟨k, e, hk, f11, o11⟩
    simp at e; obtain ⟨rfl, rfl, rfl, rfl, rfl, rfl⟩ := e
    refine cnd_dec (fun hlt => ?_) fun hlt => ?_
    · obtain ⟨y, hy⟩ : ∃ y, d[k]? = some y := ⟨_, List.getElem?_eq_getElem (by omega)⟩
      have hyd : d.getD k 0 = y := by simp [List.getD, hy]
      have hc := o11.cell (ints_get hy)
      have hcn : ∀ {h' : Heap}, Own h' 3 1 (some ⟨g, 0, none⟩) N N (ints d) → hcell h' g (0 + Int.toNat (k : Int) * 1) = some (.int .i64 y) := fun o => by simpa using o.cell (ints_get hy)
      have fin : ∀ z w h', z = leastP d (k + 1) → w = greatP d (k + 1) → Fr [] h h' → Own h' 3 1 (some ⟨g, 0, none⟩) N N (ints d) →
          (∃ k' : Nat, [Value.int .i64 (IntKind.i64.wrap ((k : Int) + 1)), .int .i64 (loopsF es), .int .i64 (parsF es es.length), .int .i64 z, .int .i64 w, .bool false] = [.int .i64 k', .int .i64 (loopsF es), .int .i64 (parsF es es.length), .int .i64 (leastP d k'), .int .i64 (greatP d k'), .bool false] ∧ k' ≤ N ∧ Fr [] h h' ∧ Own h' 3 1 (some ⟨g, 0, none⟩) N N (ints d)) := by
        rintro z w h' rfl rfl q1 q2
        exact ⟨k + 1, by rw [wr (by omega) (by omega)]; simp, by omega, q1, q2⟩
      refine cnd_eq (fun h0 => ?_) fun h0 => ?_
      · refine ⟨g, 0, rfl, by omega, by omega, y, hcn o11, ?_⟩
        intro h12
        have o12 : Own h12 3 1 (some ⟨g, 0, none⟩) N N (ints d) := off o11 ngA
        refine ⟨g, 0, rfl, by omega, by omega, y, hcn o12, ?_⟩
        intro h13
        have o13 : Own h13 3 1 (some ⟨g, 0, none⟩) N N (ints d) := off o12 ngA
        refine ⟨fin _ _ _ ?_ ?_ ((f11.hsetr (.inl (by omega))).hsetr (.inl (by omega))) o13, by rw [wr (by omega) (by omega)]; simp only [mI]; omega⟩
        · simp only [leastP, hyd]; rw [if_pos (.inl (by omega))]
        · simp only [greatP, hyd]
      · refine ⟨g, 0, rfl, by omega, by omega, y, hcn o11, ?_⟩
        refine ⟨fun l h' => l = [.int .i64 (loopsF es), .int .i64 (parsF es es.length), .int .i64 (leastP d (k + 1)), .int .i64 (greatP d k), .bool false] ∧ Fr [] h h' ∧ Own h' 3 1 (some ⟨g, 0, none⟩) N N (ints d), ?_, ?_⟩
        · refine cnd_dec (fun hc => ?_) fun hc => ?_
          · refine ⟨g, 0, rfl, by omega, by omega, y, hcn o11, ?_⟩
            intro h14
            refine ⟨?_, f11.hsetr (.inl (by omega)), off o11 ngA⟩
            simp only [leastP, hyd]; rw [if_pos (.inr hc)]
          · refine ⟨?_, f11, o11⟩
            simp only [leastP, hyd]; rw [if_neg (by omega)]
        rintro c0 c1 c2 c3 c4 h15 ⟨e, f15, o15⟩
        simp at e; obtain ⟨rfl, rfl, rfl, rfl, rfl⟩ := e
        refine ⟨g, 0, rfl, by omega, by omega, y, hcn o15, ?_⟩
        intro h16
        refine ⟨fin _ _ _ rfl ?_ (f15.hsetr (.inl (by omega))) (off o15 ngA), by rw [wr (by omega) (by omega)]; simp only [mI]; omega⟩
        simp only [greatP, hyd]
    · have hkN : k = N := by omega
      subst hkN
      have fe : ∀ {h' : Heap} (v0 v1 v2 v3 v4 : Value), Fr [] h h' → Fr [] h (hset (hset (hset (hset (hset h' h1.size 0 v0) h1.size (0 + 1) v1) h1.size ((0 + 1) + 1) v2) h1.size (((0 + 1) + 1) + 1) v3) h1.size ((((0 + 1) + 1) + 1) + 1) v4) := fun v0 v1 v2 v3 v4 f =>
        ((((f.hsetr (.inl (by omega))).hsetr (.inl (by omega))).hsetr (.inl (by omega))).hsetr (.inl (by omega))).hsetr (.inl (by omega))
      refine cnd_eq (fun h0 => ?_) fun h0 => ?_
      · refine ⟨fe _ _ _ _ _ (f11.hsetr (.inl (by omega))), ?_⟩
        simp [lookV, hd, h0]
      · refine ⟨fe _ _ _ _ _ (f11.hsetr (.inl (by omega))), ?_⟩
        simp [lookV, hd, h0]

theorem begun5_ok (h : Heap) : CallsH Try.prog 27 #[] h fun v h' => Fr [] h h' ∧ v = .bool true := by
  apply calls27
  unfold S27
  refine callX_nil (Cycle_ok 3 h) ?_
  rintro _ h1 f1 ⟨a1, c1, rfl, o1, g1⟩
  refine ⟨_, _, _, _, _, rfl, ?_⟩
  intro h2 h3
  have f3 : Fr [] h h3 := ((f1.pushr _).hsetr (.inl f1.size)).hsetr (.inl f1.size)
  refine callX_nil (Grid_ok 2 2 h3) ?_
  rintro _ h4 f4 ⟨a2, c2, rfl, o2, g2⟩
  refine ⟨_, _, _, _, _, rfl, ?_⟩
  intro h5 h6
  have f34 := f3.trans f4
  have f6 : Fr [] h h6 := ((f34.pushr _).hsetr (.inl f34.size)).hsetr (.inl f34.size)
  refine callX_nil (Complete_ok 79 h6) ?_
  rintro _ h7 f7 ⟨a3, c3, rfl, o3, g3⟩
  refine ⟨_, _, _, _, _, rfl, ?_⟩
  intro h8 h9
  have f67 := f6.trans f7
  have f9 : Fr [] h h9 := ((f67.pushr _).hsetr (.inl f67.size)).hsetr (.inl f67.size)
  have e1 : (((cycleM 3).es.length : Nat) : Int) = 3 ∧ (cycleM 3).e = 0 := by decide
  have e2 : (((gridM 2 2).es.length : Nat) : Int) = 4 ∧ (gridM 2 2).e = 0 := by decide
  have e3 : (completeM 79).e = 3 := by
    have : completeK 79 = 3081 := by decide
    rw [completeM, this]; decide
  rw [e1.1, e1.2, e2.1, e2.2, e3]
  exact cnd_t rfl (cnd_t rfl (cnd_t rfl (cnd_t rfl ⟨f9, rfl⟩)))

end Go.Proofs.Ytmcloipjlihhlaa
