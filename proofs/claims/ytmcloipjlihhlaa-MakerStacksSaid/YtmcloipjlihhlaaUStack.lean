/- What maker.Stack yields. Conditions: none. -/
import Derived.Test.YtmcloipjlihhlaaULook2
namespace Go.Proofs.Ytmcloipjlihhlaa
open Go.X

/-! ### Dice -/
def drawS (s : Int) : Int := IntKind.u64.wrap (IntKind.u64.wrap (s * 6364136223846793005) + 1442695040888963407)
def drawR (s n : Int) : Int := IntKind.i64.wrap (Int.tmod (Int.fdiv s (2 ^ (min (Int.toNat (33 : Int)) 64))) (IntKind.u64.wrap n))
theorem u64_pos (x : Int) : 0 ≤ IntKind.u64.wrap x := by rw [IntKind.wrap_u64]; omega
theorem u64_id {x : Int} (h : 0 ≤ x) (h' : x < 18446744073709551616) : IntKind.u64.wrap x = x := by rw [IntKind.wrap_u64]; omega
theorem drawS_pos (s : Int) : 0 ≤ drawS s := u64_pos _
theorem drawR_lim {s n : Int} (hs : 0 ≤ s) (hn : 1 ≤ n) (hn' : n ≤ 1000000) : 0 ≤ drawR s n ∧ drawR s n < n := by
  unfold drawR
  rw [u64_id (x := n) (by omega) (by omega)]
  have h1 : 0 ≤ Int.fdiv s (2 ^ (min (Int.toNat (33 : Int)) 64)) := Int.fdiv_nonneg hs (by decide)
  generalize Int.fdiv s (2 ^ (min (Int.toNat (33 : Int)) 64)) = y at *
  have h2 := Int.tmod_nonneg n h1
  have h3 := Int.tmod_lt_of_pos y (show 0 < n by omega)
  rw [wr (by omega) (by omega)]
  exact ⟨h2, h3⟩

theorem draw_ok {h : Heap} {b : Nat} {s : Int} {e : Nat} (hb : h[b]? = some (.cells #[.int .u64 s] e (0, 0))) {n : Int} (hn : 1 ≤ n) (hn' : n ≤ 1000000) :
    CallsH Try.prog 116 #[.pointer (some ⟨b, 0, none⟩), .int .i64 n] h fun v h' => h' = hset h b 0 (.int .u64 (drawS s)) ∧ v = .int .i64 (drawR (drawS s) n) := by
  apply calls116
  refine ⟨b, 0, rfl, s, by rw [hcell_of hb]; rfl, b, 0, rfl, ⟨_, by rw [hcell_of hb]; rfl⟩, hfree_of hb _, ?_⟩
  intro hv
  refine ⟨b, 0, rfl, drawS s, ?_, by decide, ?_, rfl, rfl⟩
  · have : hv[b]? = _ := hset_of hb
    rw [hcell_of this]; simp [drawS]
  · rw [u64_id (by omega) (by omega)]; omega

/-! ### Triangles -/
abbrev Tri := Int × Int × Int
def flat3 : List Tri → List Value
  | [] => []
  | (x, y, z) :: r => .int .i64 x :: .int .i64 y :: .int .i64 z :: flat3 r
theorem flat3_append : ∀ (l r : List Tri), flat3 (l ++ r) = flat3 l ++ flat3 r
  | [], r => rfl
  | (x, y, z) :: l, r => by simp [flat3, flat3_append l r]
theorem flat3_length : ∀ (l : List Tri), (flat3 l).length = l.length * 3
  | [] => rfl
  | (x, y, z) :: l => by simp [flat3, flat3_length l]; omega
theorem flat3_get : ∀ {l : List Tri} {i : Nat} {x y z : Int}, l[i]? = some (x, y, z) → (flat3 l)[i * 3]? = some (.int .i64 x) ∧ (flat3 l)[i * 3 + 1]? = some (.int .i64 y) ∧ (flat3 l)[i * 3 + 1 + 1]? = some (.int .i64 z)
  | [], i, _, _, _, h => by simp at h
  | (a, b, c) :: l, 0, x, y, z, h => by simp at h; simp [flat3, h]
  | (a, b, c) :: l, i + 1, x, y, z, h => by
    have := flat3_get (l := l) (i := i) (x := x) (y := y) (z := z) (by simpa using h)
    rw [show (i + 1) * 3 = i * 3 + 1 + 1 + 1 by omega]
    simpa [flat3] using this
theorem flat3_set : ∀ (l : List Tri) (i : Nat) (x y z : Int), (((flat3 l).set (i * 3) (.int .i64 x)).set (i * 3 + 1) (.int .i64 y)).set (i * 3 + 1 + 1) (.int .i64 z) = flat3 (l.set i (x, y, z))
  | [], i, x, y, z => by simp [flat3]
  | (a, b, c) :: l, 0, x, y, z => by simp [flat3]
  | (a, b, c) :: l, i + 1, x, y, z => by
    rw [show (i + 1) * 3 = i * 3 + 1 + 1 + 1 by omega]
    simp only [flat3, List.set_cons_succ]
    rw [← flat3_set l i x y z]

/-! ### The net that grows -/
structure SS where
  s : Int
  ts : List Tri
  es : List (Int × Int)
def triE (v : Int) (t : Tri) : List (Int × Int) := [(v, t.1), (v, t.2.1), (v, t.2.2)]
def SS.at (q : SS) : Nat := (drawR (drawS q.s) q.ts.length).toNat
def SS.tri (q : SS) : Tri := q.ts.getD q.at (0, 0, 0)
def SS.step (q : SS) (v : Int) : SS :=
  ⟨drawS q.s, q.ts.set q.at (q.tri.1, q.tri.2.1, v) ++ [(q.tri.2.1, q.tri.2.2, v), (q.tri.2.2, q.tri.1, v)], q.es ++ triE v q.tri⟩
def SS.start (seed : Int) : SS := ⟨seed, [(0, 1, 2), (0, 2, 1)], cycleE 0 3⟩
def SS.run (seed : Int) : Nat → SS
  | 0 => SS.start seed
  | k + 1 => (SS.run seed k).step (3 + k : Nat)
def stackE (n seed : Int) : List (Int × Int) := (SS.run seed (n - 3).toNat).es
theorem run_len (seed : Int) : ∀ k, (SS.run seed k).ts.length = 2 + 2 * k ∧ (SS.run seed k).es.length = 3 + 3 * k
  | 0 => ⟨rfl, rfl⟩
  | k + 1 => by
    obtain ⟨h1, h2⟩ := run_len seed k
    simp [SS.run, SS.step, triE, h1, h2]; omega

theorem at_lt (q : SS) (h1 : 1 ≤ q.ts.length) (h2 : q.ts.length ≤ 100000) : (drawR (drawS q.s) q.ts.length) = q.at ∧ q.at < q.ts.length ∧ q.ts[q.at]? = some q.tri := by
  have := drawR_lim (drawS_pos q.s) (n := q.ts.length) (by omega) (by omega)
  have e : q.at = (drawR (drawS q.s) q.ts.length).toNat := rfl
  refine ⟨by omega, by omega, ?_⟩
  have hlt : q.at < q.ts.length := by omega
  simp [SS.tri, List.getD, List.getElem?_eq_getElem hlt]

/-- The growing net between two steps. -/
structure StI (h h' : Heap) (b db : Nat) (N : Int) (q : SS) (lA : Option Addr) (lC : Nat) : Prop where
  fr : Fr [b] h h'
  dr : ∃ a c, Dr h' b a c N q.es ∧ db ∉ blkOf a ∧ (∀ x ∈ blkOf lA, x ∉ blkOf a) ∧ ∀ x ∈ blkOf a, h.size ≤ x
  dice : h'[db]? = some (.cells #[.int .u64 q.s] 166 (0, 0))
  tri : Own h' 167 3 lA q.ts.length lC (flat3 q.ts)
  lne : ∀ x ∈ blkOf lA, x ≠ db ∧ x ≠ b ∧ h.size ≤ x
  ge : h.size ≤ db
  lt : b < h.size

theorem clos114 {h : Heap} {b : Nat} {N n seed : Int} {nb sb : Nat} (d : Dr h b none 0 N []) (hs : hcell h sb 0 = some (.int .u64 seed)) (hc : hcell h nb 0 = some (.int .i64 n)) (hnb : nb ≠ b) (hsb : sb ≠ b) (hn : 3 ≤ n) (hn' : n ≤ 1024) :
    CallsH Try.prog 114 #[.pointer (some ⟨b, 0, none⟩), .pointer (some ⟨sb, 0, none⟩), .pointer (some ⟨nb, 0, none⟩)] h fun r h' => r = .tuple #[] ∧ Drawn h b none N (stackE n seed) h' := by
  apply calls114
  unfold S114
  have hbl := blk_lt d.blk
  refine callX_draw (new := cycleE 0 3) (Drawn.start d) (fun a1 c1 d1 => cycle_ok d1 (by omega) (by omega) (by omega) (by omega) (by simp)) (by simp) fun h1 D1 => ⟨rfl, ?_⟩
  obtain ⟨f1, a1, c1, d1, g1⟩ := D1
  have f1' : Fr [b] h h1 := f1.mono (by simp [blkOf])
  refine ⟨sb, 0, rfl, seed, f1'.cell hs (by simpa using hsb), ?_⟩
  intro h2 h3
  have s2 : h2.size = h1.size + 1 := by simp [h2]
  have s3 : h3.size = h1.size + 2 := by simp [h3, s2]
  have f13 : Fr [] h1 h3 := (Fr.push h1 _).pushr _
  have a1lt := d1.own.lt
  have a1ge : ∀ x ∈ blkOf a1, h.size ≤ x := fun x hx => (g1 x hx).resolve_left (by simp [blkOf])
  have st : StI h h3 b h1.size N (SS.run seed 0) (some ⟨h2.size, 0, none⟩) 2 := by
    refine ⟨f1'.trans f13.nil, ⟨a1, c1, d1.fr f13 (by simp) (by simp), fun hx => by have := a1lt _ hx; omega, ?_, a1ge⟩, ?_, ?_, ?_, f1.size, hbl⟩
    · intro x hx hx2; simp [blkOf] at hx; subst hx; have := a1lt _ hx2; omega
    · rw [show h3[h1.size]? = h2[h1.size]? from blk_push (by omega)]; exact blk_push_new
    · exact own_new (n := 2) (by decide) (by simp [maxLen])
    · intro x hx; simp [blkOf] at hx; subst hx; have := f1.size; exact ⟨by omega, by omega, by omega⟩
  refine ⟨fun l h' => ∃ (k : Nat) (lA : Option Addr) (lC : Nat), l = [.slice lA (SS.run seed k).ts.length lC, .int .i64 (3 + k : Nat)] ∧ (3 + k : Int) ≤ n ∧ StI h h' b h1.size N (SS.run seed k) lA lC,
    fun l _ => match l with | [_, .int _ x] => (n - x).toNat | _ => 0, ⟨0, _, _, rfl, by omega, st⟩, ?_⟩
  rintro lA lL lC v h4 ⟨k, _, _, e, hk, S⟩
  simp at e; obtain ⟨⟨rfl, rfl, rfl⟩, rfl⟩ := e
  obtain ⟨L1, L2⟩ := run_len seed k
  generalize hq : SS.run seed k = q at *
  refine ⟨nb, 0, rfl, n, S.fr.cell hc (by simpa using hnb), ?_⟩
  obtain ⟨fr, ⟨a, c, dr, n1, n2, n3⟩, dice, tri, lne, ge, lt⟩ := S
  refine cnd_dec (fun hlt => ?_) fun hlt => ?_
  · obtain ⟨r1, r2, r3⟩ := at_lt q (by omega) (by omega)
    obtain ⟨⟨x, y, z⟩, ht⟩ : ∃ t, q.tri = t := ⟨_, rfl⟩
    rw [ht] at r3
    have hdr := draw_ok dice (n := (q.ts.length : Int)) (by omega) (by omega)
    refine callX_of [h1.size] (R := fun v h' => h' = hset h4 h1.size 0 (.int .u64 (drawS q.s)) ∧ v = .int .i64 (drawR (drawS q.s) q.ts.length)) (hdr.mono fun v h' w => ⟨?_, w⟩) (by simp) ?_
    · rw [w.1]; exact Fr.hset _ _ _ _
    rintro _ h5 f5 ⟨e5, rfl⟩
    have hbdb : h1.size ≠ b := by have := f1.size; omega
    have dr5 : Dr h5 b a c N q.es := dr.fr f5 (by simpa using hbdb.symm) (fun g hg => by simp; rintro rfl; exact n1 hg)
    have tri5 : Own h5 167 3 lA q.ts.length lC (flat3 q.ts) := tri.fr f5 (fun g hg => by simpa using (lne g hg).1)
    have dice5 : h5[h1.size]? = some (.cells #[.int .u64 (drawS q.s)] 166 (0, 0)) := by rw [e5, hset_of dice]; rfl
    have fr5 : Fr [b] h h5 := by rw [e5]; exact fr.hsetr (.inl ge)
    obtain ⟨g, cur, rfl, q1, q2, q3⟩ := tri5.at (by omega)
    have hgl : g < h5.size := blk_lt q1
    obtain ⟨t1, t2, t3⟩ := flat3_get r3
    have c1' := tri5.cell t1
    have c2' := tri5.cell t2
    have c3' := tri5.cell t3
    rw [r1]
    refine ⟨_, rfl, g, 0, rfl, by omega, by omega, x, by simpa using c1', y, by simpa using c2', z, by simpa using c3', ?_⟩
    intro h6 h7
    have s6 : h6.size = h5.size + 1 := by simp [h6]
    have s7 : h7.size = h5.size + 1 := by simp [h7, s6]
    have f57 : Fr [] h5 h7 := (((Fr.push h5 _).hsetr (.inl (Nat.le_refl _))).hsetr (.inl (Nat.le_refl _))).hsetr (.inl (Nat.le_refl _))
    have dr7 : Dr h7 b a c N q.es := dr5.fr f57 (by simp) (by simp)
    have alt := dr5.own.lt
    have hH : ∀ w ∈ [h5.size], w < h7.size ∧ w ≠ b ∧ w ∉ blkOf a := by
      intro w hw; simp at hw; subst hw
      have := blk_lt dr5.blk
      exact ⟨by omega, by omega, fun hx => by have := alt _ hx; omega⟩
    refine ⟨fun l h' => ∃ j : Nat, l = [.int .i64 j] ∧ j ≤ 3 ∧ Drawn h7 b a N (q.es ++ (triE (3 + k : Nat) (x, y, z)).take j) h', mI 3, ⟨0, rfl, by omega, by simpa using Drawn.start dr7⟩, ?_⟩
    rintro w h8 ⟨j, e, hj, D8⟩
    simp at e; subst e
    refine cnd_dec (fun hlt2 => ?_) fun hlt2 => ?_
    · obtain ⟨u, hu1, hu2⟩ : ∃ u : Int, (#[Value.int .i64 x, .int .i64 y, .int .i64 z])[j]? = some (.int .i64 u) ∧ (triE (3 + k : Nat) (x, y, z)).take (j + 1) = (triE (3 + k : Nat) (x, y, z)).take j ++ [(((3 + k : Nat) : Int), u)] := by
        have : j = 0 ∨ j = 1 ∨ j = 2 := by omega
        rcases this with rfl | rfl | rfl
        · exact ⟨x, rfl, rfl⟩
        · exact ⟨y, rfl, rfl⟩
        · exact ⟨z, rfl, rfl⟩
      refine ⟨by omega, by omega, u, by simpa using hu1, ?_⟩
      refine callX_to D8 (by simp; omega) rfl rfl hH fun h9 D9 => ⟨rfl, ⟨j + 1, by rw [wr (by omega) (by omega)]; simp, by omega, ?_⟩, by rw [wr (by omega) (by omega)]; simp only [mI]; omega⟩
      rw [hu2, ← List.append_assoc]; exact D9
    · have hj3 : j = 3 := by omega
      subst hj3
      obtain ⟨f8, a8, c8, d8, g8⟩ := D8
      have ga : g ∉ blkOf a := n2 g (by simp [blkOf])
      have gb : g ≠ b := (lne g (by simp [blkOf])).2.1
      have gd : g ≠ h1.size := (lne g (by simp [blkOf])).1
      have gM : g ∉ b :: blkOf a := by simp [gb, ga]
      have tri8 : Own h8 167 3 (some ⟨g, 0, none⟩) q.ts.length lC (flat3 q.ts) := (tri5.fr f57 (by simp)).fr f8 (by simpa [blkOf] using ⟨gb, ga⟩)
      have dice8 : h8[h1.size]? = some (.cells #[.int .u64 (drawS q.s)] 166 (0, 0)) := f8.blk_some (f57.blk_some dice5 (by simp)) (by simp [hbdb, n1])
      have a8ge : ∀ w ∈ blkOf a8, w ∈ blkOf a ∨ h7.size ≤ w := g8
      have ga8 : g ∉ blkOf a8 := fun hx => by rcases g8 g hx with k1 | k1; exact ga k1; omega
      have da8 : h1.size ∉ blkOf a8 := fun hx => by rcases g8 _ hx with k1 | k1; exact n1 k1; have := blk_lt dice5; omega
      have fr8 : Fr [b] h h8 := (fr5.trans f57.nil).comp f8 fun w hw => by
        rcases List.mem_cons.1 hw with rfl | hw
        · exact .inl (by simp)
        · exact .inr (n3 w hw)
      have hgH : g ≠ h5.size := by omega
      have cc : ∀ j, j < q.ts.length * 3 → ∃ u, hcell h8 g j = some u := fun j hj => ⟨_, tri8.cell (List.getElem?_eq_getElem (by rw [flat3_length]; omega))⟩
      refine ⟨g, 0, rfl, by omega, by omega, hgH, cc _ (by simp; omega), tri8.free _, cc _ (by simp; omega), tri8.free _, cc _ (by simp; omega), tri8.free _, ?_⟩
      intro h10 h11
      have s10 : h10.size = h8.size := by simp [h10]
      have f10 : Fr [g] h8 h10 := ((Fr.hset _ _ _ _).trans (Fr.hset _ _ _ _)).trans (Fr.hset _ _ _ _)
      have tri10 : Own h10 167 3 (some ⟨g, 0, none⟩) q.ts.length lC (flat3 (q.ts.set q.at (x, y, ((3 + k : Nat) : Int)))) := by
        have := ((tri8.set (q.at * 3) (.int .i64 x)).set (q.at * 3 + 1) (.int .i64 y)).set (q.at * 3 + 1 + 1) (.int .i64 ((3 + k : Nat) : Int))
        rw [flat3_set] at this
        simpa [h10] using this
      have f11 : Fr [] h10 h11 := Fr.push _ _
      have tri11 := tri10.fr f11 (by simp)
      refine ⟨_, tri11, ?_, by omega, by simp [maxLen]; omega, ?_⟩
      · intro w hw; simp [blkOf] at hw ⊢
        have := blk_lt q1
        have := f57.size; have := f8.size
        rcases hw with rfl | rfl <;> omega
      intro sA sC h13 o13 f13' g13
      have w1 : IntKind.i64.wrap (3 + (k : Int) + 1) = ((3 + (k + 1) : Nat) : Int) := by rw [wr (by omega) (by omega)]; omega
      rw [w1]
      have er : SS.run seed (k + 1) = ⟨drawS q.s, q.ts.set q.at (x, y, ((3 + k : Nat) : Int)) ++ [(y, z, ((3 + k : Nat) : Int)), (z, x, ((3 + k : Nat) : Int))], q.es ++ triE (3 + k : Nat) (x, y, z)⟩ := by
        simp [SS.run, hq, SS.step, ht]
      have sz11 : h11.size = h8.size + 1 := by simp [h11, s10]
      have snA : ∀ w ∈ blkOf sA, w = g ∨ h11.size ≤ w := by
        rcases g13 with ⟨rfl, _⟩ | ⟨g', rfl, hg'⟩
        · intro w hw; simp [blkOf] at hw; exact .inl hw
        · intro w hw; simp [blkOf] at hw; subst hw; exact .inr hg'
      have f811 : Fr [g] h8 h11 := f10.trans f11.nil
      have f813 : Fr [g] h8 h13 := f811.trans (f13'.mono (by simp [blkOf]))
      have a8lt := d8.own.lt
      have gge : h.size ≤ g := (lne g (by simp [blkOf])).2.2
      refine ⟨⟨k + 1, sA, sC, ?_, by omega, ?_⟩, ?_⟩
      · rw [er]; simp
      · rw [er]
        refine ⟨fr8.comp f813 (by simpa using Or.inr gge), ⟨a8, c8, ?_, da8, ?_, ?_⟩, ?_, ?_, ?_, ge, lt⟩
        · have := d8.fr f813 (by simpa using gb.symm) (fun w hw => by simp; rintro rfl; exact ga8 hw)
          simpa [triE] using this
        · intro w hw hx
          rcases snA w hw with rfl | hw
          · exact ga8 hx
          · have := a8lt w hx; omega
        · intro w hw
          rcases g8 w hw with k1 | k1
          · exact n3 w k1
          · have := fr5.size; omega
        · exact f813.blk_some dice8 (by simpa using gd.symm)
        · have e3 : flat3 (q.ts.set q.at (x, y, ((3 + k : Nat) : Int)) ++ [(y, z, ((3 + k : Nat) : Int)), (z, x, ((3 + k : Nat) : Int))]) = flat3 (q.ts.set q.at (x, y, ((3 + k : Nat) : Int))) ++ [.int .i64 y, .int .i64 z, .int .i64 ((3 + k : Nat) : Int), .int .i64 z, .int .i64 x, .int .i64 ((3 + k : Nat) : Int)] := by
            rw [flat3_append]; rfl
          rw [e3]; simpa using o13
        · intro w hw
          rcases snA w hw with rfl | hw
          · exact ⟨gd, gb, gge⟩
          · have := blk_lt dice8; have := fr8.size
            exact ⟨by omega, by omega, by omega⟩
      · simp only; omega
  · refine ⟨rfl, fr.mono (by simp [blkOf]), a, c, ?_, fun x hx => .inr (n3 x hx)⟩
    have : (n - 3).toNat = k := by omega
    rw [stackE, this, hq]; exact dr

end Go.Proofs.Ytmcloipjlihhlaa
