/- What package maker's functions do: contracts over the heap. Conditions: none. -/
import Derived.Test.YtmcloipjlihhlaaSMaker
import Derived.Test.YtmcloipjlihhlaaXU
namespace Go.Proofs.Ytmcloipjlihhlaa
open Go.X

/-- A net that is being made. -/
structure Dr (h : Heap) (b : Nat) (a : Option Addr) (c : Nat) (N : Int) (es : List (Int × Int)) : Prop where
  blk : h[b]? = some (.cells #[.int .i64 N, .slice a es.length c] 229 (0, 0))
  own : Own h 35 2 a es.length c (flat es)
  ap : b ∉ blkOf a

/-- What a step may have touched. -/
def Grow (h : Heap) (a a' : Option Addr) : Prop := ∀ g ∈ blkOf a', g ∈ blkOf a ∨ h.size ≤ g
theorem Grow.refl (h : Heap) (a : Option Addr) : Grow h a a := fun _ hg => .inl hg
theorem Grow.trans {h h' : Heap} {a b c : Option Addr} (x : Grow h a b) (y : Grow h' b c) (hs : h.size ≤ h'.size) : Grow h a c := fun g hg => by
  rcases y g hg with k | k
  · exact x g k
  · exact .inr (by omega)

/-- A draft after some steps. -/
def Drawn (h : Heap) (b : Nat) (a : Option Addr) (N : Int) (es : List (Int × Int)) (h' : Heap) : Prop :=
  Fr (b :: blkOf a) h h' ∧ ∃ a' c', Dr h' b a' c' N es ∧ Grow h a a'

theorem Drawn.start {h : Heap} {b : Nat} {a : Option Addr} {c : Nat} {N : Int} {es : List (Int × Int)} (d : Dr h b a c N es) : Drawn h b a N es h :=
  ⟨Fr.refl _ _, a, c, d, Grow.refl h a⟩

theorem Dr.fr {h h' : Heap} {b : Nat} {a : Option Addr} {c : Nat} {N : Int} {es : List (Int × Int)} {M : List Nat} (d : Dr h b a c N es) (f : Fr M h h') (hb : b ∉ M) (ha : ∀ g ∈ blkOf a, g ∉ M) : Dr h' b a c N es :=
  ⟨f.blk_some d.blk hb, d.own.fr f ha, d.ap⟩

theorem Drawn.then {h h1 h2 : Heap} {b : Nat} {a a1 : Option Addr} {N : Int} {es : List (Int × Int)} (f : Fr (b :: blkOf a) h h1) (g : Grow h a a1) (D : Drawn h1 b a1 N es h2) : Drawn h b a N es h2 := by
  obtain ⟨f2, a2, c2, d2, g2⟩ := D
  refine ⟨f.comp f2 fun x hx => ?_, a2, c2, d2, g.trans g2 f.size⟩
  rcases List.mem_cons.1 hx with rfl | hx
  · exact .inl (List.mem_cons_self ..)
  · exact (g x hx).imp (List.mem_cons_of_mem _) id

/-- A function that draws more edges is called. -/
theorem callX_draw {f : FuncId} {args : Array Value} {h h1 : Heap} {b : Nat} {a : Option Addr} {N : Int} {es new : List (Int × Int)} {H : List Nat} {K : Value → Heap → Prop} (D : Drawn h b a N es h1)
    (c : ∀ a1 c1, Dr h1 b a1 c1 N es → CallsH Try.prog f args h1 fun r h' => r = .tuple #[] ∧ Drawn h1 b a1 N (es ++ new) h')
    (hH : ∀ x ∈ H, x < h.size ∧ x ≠ b ∧ x ∉ blkOf a) (k : ∀ h2, Drawn h b a N (es ++ new) h2 → K (.tuple #[]) h2) : callX Try.prog f args h1 H K := by
  obtain ⟨f1, a1, c1, d1, g1⟩ := D
  refine callX_of (b :: blkOf a1) (R := fun r h' => r = .tuple #[] ∧ Drawn h1 b a1 N (es ++ new) h') ((c a1 c1 d1).mono fun v h' q => ⟨q.2.1, q⟩) (fun x hx => ?_) fun v h2 f2 q => ?_
  · obtain ⟨q1, q2, q3⟩ := hH x hx
    simp only [List.mem_cons, not_or]
    refine ⟨q2, fun hx2 => ?_⟩
    rcases g1 x hx2 with g | g
    · exact q3 g
    · omega
  · obtain ⟨rfl, D2⟩ := q
    exact k h2 (Drawn.then f1 g1 D2)

theorem to_ok {h : Heap} {b : Nat} {a : Option Addr} {c : Nat} {N : Int} {es : List (Int × Int)} (d : Dr h b a c N es) (hl : es.length ≤ 1000000000) (u v : Int) :
    CallsH Try.prog 117 #[.pointer (some ⟨b, 0, none⟩), .int .i64 u, .int .i64 v] h fun r h' => r = .tuple #[] ∧ Drawn h b a N (es ++ [(u, v)]) h' := by
  apply calls117
  have hb := blk_lt d.blk
  have hlt := d.own.lt
  refine ⟨b, 0, rfl, a, es.length, c, ?_, ?_⟩
  · rw [hcell_of d.blk]; simp
  intro hv
  refine ⟨flat es, d.own.fr (Fr.push h _) (by simp), ?_, by omega, by simp [maxLen]; omega, ?_⟩
  · simp only [List.mem_singleton]; rintro x rfl hx; have := hlt _ hx; omega
  intro sA sC h3 o3 f3 g3
  have f1 : Fr (blkOf a) h h3 := (Fr.push h _).nil.trans f3
  have b3 : h3[b]? = some (.cells #[.int .i64 N, .slice a es.length c] 229 (0, 0)) := f1.blk_some d.blk d.ap
  refine ⟨b, 0, rfl, by omega, ⟨_, by rw [hcell_of b3]; rfl⟩, hfree_of b3 _, ?_⟩
  have hne : b ∉ blkOf sA := by
    rcases g3 with ⟨rfl, _⟩ | ⟨g, rfl, hg⟩
    · exact d.ap
    · simp [blkOf]; simp [hv] at hg; omega
  have hgr : Grow h a sA := by
    rcases g3 with ⟨rfl, _⟩ | ⟨g, rfl, hg⟩
    · exact Grow.refl _ _
    · intro x hx; simp [blkOf] at hx; subst hx; simp [hv] at hg; exact .inr (by omega)
  have hF : Fr (b :: blkOf a) h (hset h3 b (0 + 1) (.slice sA (es.length + 1) sC)) := (f1.mono fun x hx => List.mem_cons_of_mem _ hx).hsetr (by simp)
  refine ⟨rfl, hF, sA, sC, ⟨?_, ?_, hne⟩, hgr⟩
  · rw [hset_of b3]; simp
  · have : flat (es ++ [(u, v)]) = flat es ++ [.int .i64 u, .int .i64 v] := by rw [flat_append]; rfl
    rw [this]
    simp only [List.length_append, List.length_singleton]
    exact o3.blk fun x hx => by rw [hset_ne]; rintro rfl; exact hne hx

theorem callX_to {h h1 : Heap} {b : Nat} {a : Option Addr} {N : Int} {es : List (Int × Int)} {H : List Nat} {K : Value → Heap → Prop} (D : Drawn h b a N es h1) (hl : es.length ≤ 1000000000) {u v u' v' : Int} (hu : u = u') (hv : v = v')
    (hH : ∀ x ∈ H, x < h.size ∧ x ≠ b ∧ x ∉ blkOf a) (k : ∀ h2, Drawn h b a N (es ++ [(u', v')]) h2 → K (.tuple #[]) h2) : callX Try.prog 117 #[.pointer (some ⟨b, 0, none⟩), .int .i64 u, .int .i64 v] h1 H K := by
  subst hu; subst hv
  exact callX_draw D (fun a1 c1 d1 => to_ok d1 hl u v) hH k

/-- The edges of a path, of a cycle. -/
def pathE (f : Int) (n : Nat) : List (Int × Int) := (List.range n).map fun (i : Nat) => (f + i, f + i + 1)
def cycleE (f n : Int) : List (Int × Int) := pathE f (n - 1).toNat ++ [(f + n - 1, f)]
theorem pathE_succ (f : Int) (n : Nat) : pathE f (n + 1) = pathE f n ++ [(f + n, f + n + 1)] := by simp [pathE, List.range_succ]
@[simp] theorem pathE_length (f : Int) (n : Nat) : (pathE f n).length = n := by simp [pathE]

theorem cycle_ok {h : Heap} {b : Nat} {a : Option Addr} {c : Nat} {N : Int} {es : List (Int × Int)} (d : Dr h b a c N es) {f n : Int} (hf : 0 ≤ f) (hf' : f ≤ 100000) (hn : 1 ≤ n) (hn' : n ≤ 100000) (hl : es.length ≤ 100000) :
    CallsH Try.prog 115 #[.pointer (some ⟨b, 0, none⟩), .int .i64 f, .int .i64 n] h fun r h' => r = .tuple #[] ∧ Drawn h b a N (es ++ cycleE f n) h' := by
  apply calls115
  refine ⟨fun l h' => ∃ i : Nat, l = [.int .i64 i] ∧ (i : Int) ≤ n - 1 ∧ Drawn h b a N (es ++ pathE f i) h', mI n, ⟨0, rfl, by omega, by simpa [pathE] using Drawn.start d⟩, ?_⟩
  rintro x h1 ⟨i, e, hi, D⟩
  simp at e; subst e
  have w1 : IntKind.i64.wrap (n - 1) = n - 1 := wr (by omega) (by omega)
  have w2 : IntKind.i64.wrap (f + i) = f + i := wr (by omega) (by omega)
  have w3 : IntKind.i64.wrap (f + i + 1) = f + i + 1 := wr (by omega) (by omega)
  have w4 : IntKind.i64.wrap ((i : Int) + 1) = (i + 1 : Nat) := by rw [wr (by omega) (by omega)]; simp
  have w5 : IntKind.i64.wrap (f + n) = f + n := wr (by omega) (by omega)
  have w6 : IntKind.i64.wrap (f + n - 1) = f + n - 1 := wr (by omega) (by omega)
  simp only [w1, w2, w3, w4, w5, w6]
  refine cnd_dec (fun hlt => ?_) fun hlt => ?_
  · refine callX_to D (by simp; omega) rfl rfl (by simp) fun h2 D2 => ⟨rfl, ⟨i + 1, rfl, by omega, ?_⟩, ?_⟩
    · rw [pathE_succ, ← List.append_assoc]; exact D2
    · simp only [mI]; omega
  · refine callX_to D (by simp; omega) rfl rfl (by simp) fun h2 D2 => ⟨rfl, by trivial, ?_⟩
    have : (n - 1).toNat = i := by omega
    rw [cycleE, this, ← List.append_assoc]; exact D2

/-- The error of numbers. -/
def sizedF (least : Int) (l : List Int) (n m : Int) : Int :=
  if l.any (fun k => decide (k < least)) then 1 else if l.any (fun k => decide (3072 < k)) then 3 else if n > 1024 then 3 else if m > 3072 then 3 else 0

theorem sized_ok {h : Heap} {a : Option Addr} {c : Nat} {l : List Int} (r : Reads h 1 a l.length (ints l)) (hl : l.length ≤ 100) (least n m : Int) :
    CallsH Try.prog 113 #[.int .i64 least, .slice a l.length c, .int .i64 n, .int .i64 m] h fun r h' => Fr [] h h' ∧ h' = h ∧ r = .int .i64 (sizedF least l n m) := by
  apply calls113
  refine ⟨fun s h' => ∃ i : Nat, s = [.int .i64 i] ∧ i ≤ l.length ∧ h' = h ∧ ∀ j v, j < i → l[j]? = some v → ¬ v < least, mI l.length, ⟨0, rfl, by omega, rfl, by omega⟩, ?_⟩
  rintro x h1 ⟨i, e, hi, rfl, hb⟩
  simp at e; subst e
  refine cnd_dec (fun hlt => ?_) fun hlt => ?_
  · obtain ⟨b, o, e1, e2⟩ := r.int (i := i) (List.getElem?_eq_getElem (by omega))
    refine ⟨b, o, e1, by omega, hlt, l[i], by simpa using e2, cnd_dec (fun hk => ?_) fun hk => ⟨⟨i + 1, ?_, by omega, rfl, ?_⟩, ?_⟩⟩
    · refine ⟨Fr.refl _ _, rfl, ?_⟩
      have : l.any (fun k => decide (k < least)) = true := by
        rw [List.any_eq_true]; exact ⟨l[i], List.getElem_mem _, by simpa using hk⟩
      simp [sizedF, this]
    · rw [wr (by omega) (by omega)]; simp
    · intro j v hj hv
      by_cases h : j = i
      · subst h; rw [List.getElem?_eq_getElem (by omega)] at hv; simp at hv; subst hv; exact hk
      · exact hb j v (by omega) hv
    · rw [wr (by omega) (by omega)]; simp only [mI]; omega
  · have hil : i = l.length := by omega
    have hany : l.any (fun k => decide (k < least)) = false := by
      rw [← Bool.not_eq_true, List.any_eq_true]
      rintro ⟨v, hv, hk⟩
      obtain ⟨j, hj, rfl⟩ := List.getElem_of_mem hv
      exact hb j _ (by omega) (List.getElem?_eq_getElem hj) (by simpa using hk)
    refine ⟨fun s h' => ∃ i : Nat, s = [.int .i64 i] ∧ i ≤ l.length ∧ h' = h1 ∧ ∀ j v, j < i → l[j]? = some v → ¬ 3072 < v, mI l.length, ⟨0, rfl, by omega, rfl, by omega⟩, ?_⟩
    rintro x h2 ⟨i, e, hi, rfl, hb⟩
    simp at e; subst e
    refine cnd_dec (fun hlt => ?_) fun hlt => ?_
    · obtain ⟨b, o, e1, e2⟩ := r.int (i := i) (List.getElem?_eq_getElem (by omega))
      refine ⟨b, o, e1, by omega, hlt, l[i], by simpa using e2, cnd_dec (fun hk => ?_) fun hk => ⟨⟨i + 1, ?_, by omega, rfl, ?_⟩, ?_⟩⟩
      · refine ⟨Fr.refl _ _, rfl, ?_⟩
        have : l.any (fun k => decide (3072 < k)) = true := by
          rw [List.any_eq_true]; exact ⟨l[i], List.getElem_mem _, by simpa using hk⟩
        simp [sizedF, this, hany]
      · rw [wr (by omega) (by omega)]; simp
      · intro j v hj hv
        by_cases h : j = i
        · subst h; rw [List.getElem?_eq_getElem (by omega)] at hv; simp at hv; subst hv; exact hk
        · exact hb j v (by omega) hv
      · rw [wr (by omega) (by omega)]; simp only [mI]; omega
    · have hany2 : l.any (fun k => decide (3072 < k)) = false := by
        rw [← Bool.not_eq_true, List.any_eq_true]
        rintro ⟨v, hv, hk⟩
        obtain ⟨j, hj, rfl⟩ := List.getElem_of_mem hv
        exact hb j _ (by omega) (List.getElem?_eq_getElem hj) (by simpa using hk)
      have key : ∀ z, z = sizedF least l n m → Fr [] h2 h2 ∧ h2 = h2 ∧ Value.int .i64 z = .int .i64 (sizedF least l n m) := fun z hz => ⟨Fr.refl _ _, rfl, by rw [hz]⟩
      refine cnd_dec (fun h3 => key _ (by simp [sizedF, hany, hany2, h3])) fun h3 => cnd_dec (fun h4 => key _ ?_) fun h4 => key _ ?_
      · simp [sizedF, hany, hany2, h4]
      · simp [sizedF, hany, hany2]; omega

/-- What a maker of nets yields: error, count of nodes, edges, in memory of its own. -/
structure NetM where
  e : Int
  n : Int
  es : List (Int × Int)
def NetIs (h : Heap) (q : NetM) (v : Value) (h' : Heap) : Prop :=
  ∃ a c, v = .tuple #[.agg #[.int .i64 q.n, .slice a q.es.length c], .int .i64 q.e] ∧ Own h' 35 2 a q.es.length c (flat q.es) ∧ ∀ g ∈ blkOf a, h.size ≤ g
def madeM (e n : Int) (es : List (Int × Int)) : NetM := if e = 0 then ⟨0, n, es⟩ else ⟨e, 0, []⟩

theorem NetIs.mono {h h1 h' : Heap} {q : NetM} {v : Value} (x : NetIs h1 q v h') (hs : h.size ≤ h1.size) : NetIs h q v h' := by
  obtain ⟨a, c, e1, e2, e3⟩ := x
  exact ⟨a, c, e1, e2, fun g hg => Nat.le_trans hs (e3 g hg)⟩

theorem made_S {e n : Int} {f : Nat} {Y : List Value} {h : Heap} {es : List (Int × Int)}
    (hc : e = 0 → ∀ h1 b, Fr [] h h1 → h.size ≤ b → Dr h1 b none 0 n [] → CallsH Try.prog f (List.toArray (.pointer (some ⟨b, 0, none⟩) :: Y)) h1 fun r h' => r = .tuple #[] ∧ Drawn h1 b none n es h') :
    S112 e n f Y h fun v h' => Fr [] h h' ∧ NetIs h (madeM e n es) v h' := by
  unfold S112
  intro hv
  refine cnd_ne (fun he => ?_) fun he => ?_
  · refine ⟨(((Fr.push h _).hsetr (.inl (Nat.le_refl _))).hsetr (.inl (Nat.le_refl _))), none, 0, ?_, ?_, by simp [blkOf]⟩
    · simp [madeM, he]
    · simp only [madeM, he, if_false]; exact Own.nil _ _ _
  · intro hv3
    have f3 : Fr [] h hv3 := (Fr.push h _).pushr _
    have d : Dr hv3 hv.size none 0 n [] := ⟨by simp [hv3], Own.nil _ _ _, by simp [blkOf]⟩
    have hsz : hv.size = h.size + 1 := by simp [hv]
    refine callX_of (hv.size :: blkOf none) (R := fun r h' => r = .tuple #[] ∧ Drawn hv3 hv.size none n es h') ((hc he hv3 hv.size f3 (by omega) d).mono fun v h' q => ⟨q.2.1, q⟩) (by simp [blkOf, hsz]) ?_
    rintro v h4 f4 ⟨rfl, _, a, c, d4, g4⟩
    refine ⟨rfl, n, by rw [hcell_of d4.blk]; rfl, a, es.length, c, by rw [hcell_of d4.blk]; rfl, ?_⟩
    have hfr : ∀ g ∈ blkOf a, hv3.size ≤ g := fun g hg => (g4 g hg).resolve_left (by simp [blkOf])
    have hs3 : hv3.size = h.size + 2 := by simp [hv3, hsz]
    have f5 : Fr [] h h4 := f3.comp f4 (by simp [blkOf, hsz])
    refine ⟨(f5.hsetr (.inl (Nat.le_refl _))).hsetr (.inl (Nat.le_refl _)), a, c, ?_, ?_, fun g hg => by have := hfr g hg; omega⟩
    · simp [madeM, he]
    · simp only [madeM, he, if_true]
      exact d4.own.blk fun g hg => by rw [hset_ne, hset_ne] <;> · have := hfr g hg; omega

end Go.Proofs.Ytmcloipjlihhlaa
