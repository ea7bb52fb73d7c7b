/- MakerStacks answers true. Conditions: none. -/
import Derived.Test.YtmcloipjlihhlaaUStackLaw
import Derived.Test.YtmcloipjlihhlaaXRows
namespace Go.Proofs.Ytmcloipjlihhlaa
open Go.X

def stackK (n : Int) : Int := IntKind.i64.wrap ((IntKind.i64.wrap (3 * (if 3072 < n then 3072 else n))) - 6)
def stackM (n seed : Int) : NetM := madeM (sizedF 3 [n] n (stackK n)) n (stackE n seed)

theorem Stack_ok (n seed : Int) (h : Heap) : CallsH Try.prog 28 #[.int .i64 n, .int .u64 seed] h fun v h' => Fr [] h h' ∧ NetIs h (stackM n seed) v h' := by
  apply calls28
  unfold S28
  intro hv hv2 hv3
  have s1 : hv.size = h.size + 1 := by simp [hv]
  have s2 : hv2.size = h.size + 2 := by simp [hv2, s1]
  have s3 : hv3.size = h.size + 3 := by simp [hv3, s2]
  have c2 : hcell hv3 h.size 0 = some (.int .i64 n) := cellp _ (cellp _ (by simp [hv, hcell_push_new]))
  have cs : hcell hv3 hv.size 0 = some (.int .u64 seed) := cellp _ (by simp [hv2, hcell_push_new])
  refine ⟨n, c2, n, c2, n, c2, n, c2, ?_⟩
  intro hv4
  have f4 : Fr [] hv3 hv4 := Fr.push _ _
  refine ⟨f4, ?_⟩
  refine callX_nil (sized_ok (l := [n]) (one_new n) (by simp) 3 n (stackK n)) ?_
  rintro v h5 f5 ⟨rfl, rfl⟩
  refine ⟨_, rfl, f4, ?_⟩
  have f0 : Fr [] h hv4 := (((Fr.push h _).pushr _).pushr _).pushr _
  have s4 : hv4.size = h.size + 4 := by simp [hv4, s3]
  have hm := calls112_114 (ev := sizedF 3 [n] n (stackK n)) (n := n) (c0P := some ⟨hv.size, 0, none⟩) (c1P := some ⟨h.size, 0, none⟩) (made_S (h := hv4) (es := stackE n seed) fun he h1 b f1 hb d1 => by
    obtain ⟨q1, q2, q3⟩ := sizedF_ok he
    have := q1 n (by simp)
    exact clos114 d1 (f1.cell (f4.cell cs (by simp)) (by simp)) (f1.cell (f4.cell c2 (by simp)) (by simp)) (by omega) (by omega) (by omega) (by omega))
  refine callX_nil hm ?_
  intro v h5 f5 x5
  have f05 := f0.trans f5
  obtain ⟨a, c, rfl, o, fr⟩ := x5
  refine ⟨_, _, _, _, _, rfl, f4.trans f5, ?_⟩
  have hne : ∀ y ∈ blkOf a, y ≠ hv2.size := fun y hy => by have := fr y hy; omega
  refine ⟨(f05.hsetr (.inl (by omega))).hsetr (.inl (by omega)), a, c, rfl, o.blk fun y hy => by rw [hset_ne (hne y hy), hset_ne (hne y hy)], fun y hy => ?_⟩
  have := fr y hy
  exact Nat.le_trans f0.size this

/-- A square of bools, in rows of their own. -/
def Sq (n : Nat) (rs : List Row) : Prop := rs.length = n ∧ ∀ (i : Nat) (r : Row), rs[i]? = some r → ∃ b l, r = ⟨some ⟨b, 0, none⟩, n, n, bools l⟩ ∧ l.length = n
def Set2 (rs : List Row) (x y : Nat) : Prop := ∃ r, rs[x]? = some r ∧ r.xs[y]? = some (.bool true)

theorem Sq.at {n : Nat} {rs : List Row} (s : Sq n rs) {i : Nat} (hi : i < n) : ∃ b l, rs[i]? = some ⟨some ⟨b, 0, none⟩, n, n, bools l⟩ ∧ l.length = n := by
  have h1 : i < rs.length := by rw [s.1]; exact hi
  obtain ⟨b, l, h2, h3⟩ := s.2 i _ (List.getElem?_eq_getElem h1)
  exact ⟨b, l, by rw [List.getElem?_eq_getElem h1, h2], h3⟩
theorem Sq.put {n : Nat} {rs : List Row} (s : Sq n rs) {i b y : Nat} {l : List Bool} (hl : l.length = n) : Sq n (rs.set i ⟨some ⟨b, 0, none⟩, n, n, (bools l).set y (.bool true)⟩) := by
  refine ⟨by simp [s.1], fun j r hr => ?_⟩
  rw [List.getElem?_set] at hr
  split at hr
  · split at hr <;> simp at hr
    subst hr
    exact ⟨b, l.set y true, by rw [bools_set], by simp [hl]⟩
  · exact s.2 j r hr
theorem Set2.new {n : Nat} {rs : List Row} {i b y : Nat} {l : List Bool} (hr : rs[i]? = some ⟨some ⟨b, 0, none⟩, n, n, bools l⟩) (hl : l.length = n) (hy : y < n) :
    Set2 (rs.set i ⟨some ⟨b, 0, none⟩, n, n, (bools l).set y (.bool true)⟩) i y := by
  have hi := (List.getElem?_eq_some_iff.1 hr).1
  refine ⟨⟨some ⟨b, 0, none⟩, n, n, (bools l).set y (.bool true)⟩, by simp [hi], ?_⟩
  simp [hl, hy]
theorem Set2.keep {n : Nat} {rs : List Row} {i b y : Nat} {l : List Bool} (hr : rs[i]? = some ⟨some ⟨b, 0, none⟩, n, n, bools l⟩) {u w : Nat} (h : Set2 rs u w) :
    Set2 (rs.set i ⟨some ⟨b, 0, none⟩, n, n, (bools l).set y (.bool true)⟩) u w := by
  obtain ⟨r, h1, h2⟩ := h
  have hi := (List.getElem?_eq_some_iff.1 hr).1
  by_cases hu : i = u
  · subst hu
    rw [hr] at h1; simp at h1; subst h1
    refine ⟨⟨some ⟨b, 0, none⟩, n, n, (bools l).set y (.bool true)⟩, by simp [hi], ?_⟩
    simp only at h2
    show ((bools l).set y (.bool true))[w]? = some (.bool true)
    rw [List.getElem?_set]
    have hw := (List.getElem?_eq_some_iff.1 h2).1
    split
    · rename_i e; subst e; rw [if_pos hw]
    · exact h2
  · exact ⟨r, by rw [List.getElem?_set_ne hu]; exact h1, h2⟩

/-- While the rows are being laid. -/
def Laid (n k : Nat) (rs : List Row) : Prop := rs.length = n ∧ ∀ (i : Nat) (r : Row), rs[i]? = some r → (k ≤ i ∧ r = ⟨none, 0, 0, []⟩) ∨ ∃ b l, r = ⟨some ⟨b, 0, none⟩, n, n, bools l⟩ ∧ l.length = n

theorem MakerStacks_ok (n seed : Int) (h : Heap) : CallsH Try.prog 3 #[.int .i64 n, .int .u64 seed] h fun v h' => Fr [] h h' ∧ v = .bool true := by
  apply calls3
  unfold S3
  refine callX_nil (begun5_ok h) ?_
  rintro _ h1 f1 rfl
  refine ⟨true, rfl, cnd_f rfl (cnd_dec (fun hn3 => ⟨f1, rfl⟩) fun hn3 => cnd_dec (fun hn60 => ⟨f1, rfl⟩) fun hn60 => ?_)⟩
  refine callX_nil (Stack_ok n seed h1) ?_
  intro v h2 f2 x2
  have hsz : sizedF 3 [n] n (stackK n) = 0 := by
    have : stackK n = 3 * n - 6 := by rw [stackK, if_neg (by omega), wr (x := 3 * n) (by omega) (by omega), wr (by omega) (by omega)]
    rw [this, sizedF]; simp; omega
  have hM : stackM n seed = ⟨0, n, stackE n seed⟩ := by rw [stackM, hsz]; rfl
  rw [hM] at x2
  clear hM hsz
  obtain ⟨k, rfl⟩ : ∃ k : Nat, n = ((3 + k : Nat) : Int) := ⟨(n - 3).toNat, by omega⟩
  have hk : (((3 + k : Nat) : Int) - 3).toNat = k := by omega
  have I := SInv.run seed k (by omega)
  have hE : stackE ((3 + k : Nat) : Int) seed = (SS.run seed k).es := by rw [stackE, hk]
  rw [hE] at x2
  clear hE
  generalize SS.run seed k = q at *
  generalize hN : 3 + k = N at *
  have hl := I.len
  obtain ⟨a, c, rfl, o2, g2⟩ := x2
  refine ⟨(N : Int), a, q.es.length, c, 0, rfl, ?_⟩
  intro h3 h4
  have f12 := f1.trans f2
  have f4 : Fr [] h h4 := ((f12.pushr _).hsetr (.inl f12.size)).hsetr (.inl f12.size)
  have s4 : h4.size = h2.size + 1 := by simp [h4, h3]
  have alt := o2.lt
  have o4 : Own h4 35 2 a q.es.length c (flat q.es) := by
    have f23 : Fr [] h2 h3 := Fr.push h2 _
    have o3 : Own h3 35 2 a q.es.length c (flat q.es) := o2.fr f23 (by simp)
    refine o3.blk fun x hx => ?_
    have := alt x hx
    show (hset (hset h3 h2.size 0 _) h2.size (0 + 1) _)[x]? = _
    rw [hset_ne (by omega), hset_ne (by omega)]
  intro k1 k2
  have hk2 : k2 := by
    refine callX_nil (Look_ok o4.reads (by omega) (N := N) (by omega) ?_) ?_
    · intro x hx
      obtain ⟨u, w, h1, h2⟩ := halves_mem hx
      have := I.edge u w h1
      omega
    rintro _ h5 f5 rfl
    refine ⟨_, _, _, _, _, rfl, ?_⟩
    rw [loops0 fun u w hm => (I.edge u w hm).2.2.2.2, pars0 I.simple]
    refine cnd_f rfl ⟨by omega, by omega, by omega, by omega, ?_⟩
    have f05 := f4.trans f5
    have o5 := o4.fr f5 (by simp)
    have a5 := o5.lt
    intro h6
    have R6 : Rws h6 34 4 1 h5.size (List.replicate N ⟨none, 0, 0, []⟩) := by
      have := Rws.made h5 34 4 1 (n := N) (by simp [maxLen]; omega)
      simpa [h6] using this
    have f56 : Fr [] h5 h6 := Fr.push _ _
    have dis : ∀ rs : List Row, (∀ (i : Nat) (r : Row), rs[i]? = some r → ∀ x ∈ blkOf r.a, h5.size < x) → ∀ (i : Nat) (r : Row), rs[i]? = some r → ∀ x ∈ blkOf r.a, x ∉ blkOf a := fun rs hr i r hi x hx hxa => by
      have := hr i r hi x hx; have := a5 x hxa; omega
    have h25 : h2.size < h5.size := by have := f5.size; omega
    refine ⟨fun l h' => ∃ (j : Nat) (rs : List Row), l = [.int .i64 j] ∧ j ≤ N ∧ Fr [] h5 h' ∧ Rws h' 34 4 1 h5.size rs ∧ Laid N j rs ∧ ∀ (i : Nat) (r : Row), rs[i]? = some r → ∀ x ∈ blkOf r.a, h5.size < x, mI N,
      ⟨0, _, rfl, by omega, f56, R6, ⟨by simp, fun i r hr => ?_⟩, fun i r hr x hx => ?_⟩, ?_⟩
    · rw [List.getElem?_replicate] at hr; split at hr <;> simp at hr
      exact .inl ⟨by omega, hr.symm⟩
    · rw [List.getElem?_replicate] at hr; split at hr <;> simp at hr
      subst hr; simp [blkOf] at hx
    rintro x h8 ⟨j, rs, e, hj, f8, R8, L8, B8⟩
    simp at e; subst e
    refine cnd_dec (fun hlt => ?_) fun hlt => ?_
    · refine ⟨by omega, by omega, by omega, by omega, ?_⟩
      intro h9
      have f9 : Fr [] h8 h9 := Fr.push _ _
      have R9 := R8.fr0 f9
      have hg := R8.g_lt
      have hc := R9.get (i := j) (List.getElem?_eq_getElem (by rw [L8.1]; omega))
      refine ⟨h5.size, 0, rfl, by omega, by omega, by omega, ⟨_, by simpa using hc⟩, R9.out.free _, ?_⟩
      intro h10
      have ow : Own h9 4 1 (some ⟨h8.size, 0, none⟩) N N (bools (List.replicate N false)) := by
        have := own_made (h := h8) (e := 4) (n := N) (.bool false) (by simp [maxLen]; omega)
        simpa [h9, bools] using this
      have R10 := R9.setRow (i := j) (r := ⟨some ⟨h8.size, 0, none⟩, N, N, bools (List.replicate N false)⟩) ow (by simp [blkOf]; omega) (fun i s _ hs x hx => by
        simp [blkOf] at hx; subst hx
        intro hx; have := (R8.row i s hs).lt _ hx; omega)
      have e10 : h10 = hset h9 h5.size j (.slice (some ⟨h8.size, 0, none⟩) N N) := by simp [h10]
      refine ⟨⟨j + 1, _, by rw [wr (by omega) (by omega)]; simp, by omega, (f8.trans f9).hsetr (.inl (Nat.le_refl _)), e10 ▸ R10, ⟨by simp [L8.1], fun i r hr => ?_⟩, fun i r hr x hx => ?_⟩, by rw [wr (by omega) (by omega)]; simp only [mI]; omega⟩
      · rw [List.getElem?_set] at hr
        split at hr
        · split at hr <;> simp at hr
          subst hr
          exact .inr ⟨_, _, rfl, by simp⟩
        · rcases L8.2 i r hr with ⟨k1, k2⟩ | k
          · exact .inl ⟨by omega, k2⟩
          · exact .inr k
      · rw [List.getElem?_set] at hr
        split at hr
        · split at hr <;> simp at hr
          subst hr
          simp [blkOf] at hx; omega
        · exact B8 i r hr x hx
    · have hjN : j = N := by omega
      subst hjN
      have S8 : Sq j rs := ⟨L8.1, fun i r hr => by
        rcases L8.2 i r hr with ⟨k1, _⟩ | k
        · have := (List.getElem?_eq_some_iff.1 hr).1; rw [L8.1] at this; omega
        · exact k⟩
      refine ⟨fun l h' => ∃ (i : Nat) (rs : List Row), l = [.int .i64 i] ∧ i ≤ q.es.length ∧ Fr [] h5 h' ∧ Rws h' 34 4 1 h5.size rs ∧ Sq j rs ∧ (∀ (i : Nat) (r : Row), rs[i]? = some r → ∀ x ∈ blkOf r.a, h5.size < x) ∧
          ∀ u w : Nat, ((u : Int), (w : Int)) ∈ q.es.take i → Set2 rs u w ∧ Set2 rs w u, mI q.es.length, ⟨0, rs, rfl, by omega, f8, R8, S8, B8, by simp⟩, ?_⟩
      rintro x h11 ⟨i, rs, e, hi, f11, R11, S11, B11, N11⟩
      simp at e; subst e
      refine cnd_dec (fun hlt2 => ?_) fun hlt2 => ?_
      · obtain ⟨⟨u, w⟩, hq⟩ : ∃ p, q.es[i]? = some p := ⟨_, List.getElem?_eq_getElem (by omega)⟩
        have hrange := I.edge u w (List.mem_of_getElem? hq)
        obtain ⟨u, rfl⟩ : ∃ u' : Nat, u = u' := ⟨u.toNat, by omega⟩
        obtain ⟨w, rfl⟩ : ∃ w' : Nat, w = w' := ⟨w.toNat, by omega⟩
        obtain ⟨b, o, e1, q1, q2⟩ := (o5.reads.fr f11 (by simp)).pair hq
        refine ⟨b, o, e1, by omega, by omega, u, by simpa using q1, b, o, e1, by omega, by omega, w, by simpa using q2, ?_⟩
        obtain ⟨b1, l1, r1, ll1⟩ := S11.at (i := u) (by omega)
        have hc1 := R11.get r1
        have ow1 := R11.row u _ r1
        have hb1 := B11 u _ r1 b1 (by simp [blkOf])
        refine ⟨h5.size, 0, rfl, by omega, by omega, _, _, _, by simpa using hc1, b1, 0, rfl, by omega, by omega, by omega, ⟨_, by simpa using ow1.cell (bools_get (List.getElem?_eq_getElem (i := w) (by omega)))⟩, ow1.free _, ?_⟩
        intro h12
        have e12 : h12 = hset h11 b1 w (.bool true) := by simp [h12]
        have R12 := R11.write (k := w) (v := .bool true) r1
        rw [← e12] at R12
        have S12 : Sq j _ := S11.put (i := u) (b := b1) (y := w) ll1
        have B12 : ∀ (i : Nat) (r : Row), (rs.set u ⟨some ⟨b1, 0, none⟩, j, j, (bools l1).set w (.bool true)⟩)[i]? = some r → ∀ x ∈ blkOf r.a, h5.size < x := by
          intro i r hr x hx
          rw [List.getElem?_set] at hr
          split at hr
          · split at hr <;> simp at hr
            subst hr; simp [blkOf] at hx; omega
          · exact B11 i r hr x hx
        have Snew := Set2.new r1 ll1 (y := w) (by omega)
        have Skeep : ∀ {u' w' : Nat}, Set2 rs u' w' → Set2 _ u' w' := fun h => Set2.keep (y := w) r1 h
        generalize hrs : rs.set u ⟨some ⟨b1, 0, none⟩, j, j, (bools l1).set w (.bool true)⟩ = rs2 at *
        obtain ⟨b2, l2, r2, ll2⟩ := S12.at (i := w) (by omega)
        have hc2 := R12.get r2
        have ow2 := R12.row w _ r2
        have hb2 := B12 w _ r2 b2 (by simp [blkOf])
        refine ⟨h5.size, 0, rfl, by omega, by omega, _, _, _, by simpa using hc2, b2, 0, rfl, by omega, by omega, by omega, ⟨_, by simpa using ow2.cell (bools_get (List.getElem?_eq_getElem (i := u) (by omega)))⟩, ow2.free _, ?_⟩
        intro h13
        have e13 : h13 = hset h12 b2 u (.bool true) := by simp [h13]
        have R13 := R12.write (k := u) (v := .bool true) r2
        rw [← e13] at R13
        have S13 : Sq j _ := S12.put (i := w) (b := b2) (y := u) ll2
        have f13 : Fr [] h5 h13 := by
          rw [e13, e12]; exact (f11.hsetr (.inl (by omega))).hsetr (.inl (by omega))
        have ht : q.es.take (i + 1) = q.es.take i ++ [((u : Int), (w : Int))] := by rw [List.take_add_one, hq]; rfl
        refine ⟨⟨i + 1, _, by rw [wr (by omega) (by omega)]; simp, by omega, f13, R13, S13, ?_, ?_⟩, by rw [wr (by omega) (by omega)]; simp only [mI]; omega⟩
        · intro i r hr x hx
          rw [List.getElem?_set] at hr
          split at hr
          · split at hr <;> simp at hr
            subst hr; simp [blkOf] at hx; omega
          · exact B12 i r hr x hx
        · intro u' w' hm
          rw [ht] at hm
          rcases List.mem_append.1 hm with hm | hm
          · obtain ⟨n1, n2⟩ := N11 u' w' hm
            exact ⟨Set2.keep r2 (Skeep n1), Set2.keep r2 (Skeep n2)⟩
          · simp at hm
            obtain ⟨hm1, hm2⟩ := hm
            have hm3 : u' = u := Int.ofNat.inj hm1
            have hm4 : w' = w := Int.ofNat.inj hm2
            subst hm3; subst hm4
            exact ⟨Set2.keep r2 Snew, Set2.new r2 ll2 (by omega)⟩
      · have hie : i = q.es.length := by omega
        subst hie
        rw [List.take_length] at N11
        have near : ∀ x y : Nat, Near q.es x y → Set2 rs x y := fun x y hxy => hxy.elim (fun h => (N11 x y h).1) fun h => (N11 y x h).2
        refine ⟨fun l h' => ∃ v : Nat, l = [.int .i64 v] ∧ 3 ≤ v ∧ v ≤ j ∧ Fr [] h5 h' ∧ Rws h' 34 4 1 h5.size rs, mI j, ⟨3, rfl, by omega, by omega, f11, R11⟩, ?_⟩
        rintro x h14 ⟨v, e, hv3, hv, f14, R14⟩
        simp at e; subst e
        refine cnd_dec (fun hlt3 => ?_) fun hlt3 => ⟨f05.trans f14, rfl⟩
        obtain ⟨⟨x, y, z⟩, ⟨t1, t2, t3, t4, t5, t6, t7, t8, t9⟩, p1, p2, p3⟩ := I.came v hv3 (by omega)
        simp only at t1 t2 t3 t4 t5 t6 t7 t8 t9 p1 p2 p3
        obtain ⟨x, rfl⟩ : ∃ u' : Nat, x = u' := ⟨x.toNat, by omega⟩
        obtain ⟨y, rfl⟩ : ∃ u' : Nat, y = u' := ⟨y.toNat, by omega⟩
        obtain ⟨z, rfl⟩ : ∃ u' : Nat, z = u' := ⟨z.toNat, by omega⟩
        have w6 : IntKind.i64.wrap (IntKind.i64.wrap ((3 : Int) * v) - 6) = ((3 * v - 6 : Nat) : Int) := by rw [wr (x := (3 : Int) * v) (by omega) (by omega), wr (by omega) (by omega)]; omega
        have w5 : IntKind.i64.wrap (IntKind.i64.wrap ((3 : Int) * v) - 5) = ((3 * v - 5 : Nat) : Int) := by rw [wr (x := (3 : Int) * v) (by omega) (by omega), wr (by omega) (by omega)]; omega
        have w4 : IntKind.i64.wrap (IntKind.i64.wrap ((3 : Int) * v) - 4) = ((3 * v - 4 : Nat) : Int) := by rw [wr (x := (3 : Int) * v) (by omega) (by omega), wr (by omega) (by omega)]; omega
        rw [w4, w5, w6]
        have l1 := (List.getElem?_eq_some_iff.1 p1).1
        have l2 := (List.getElem?_eq_some_iff.1 p2).1
        have l3 := (List.getElem?_eq_some_iff.1 p3).1
        have rd : ∀ {h' : Heap}, Fr [] h5 h' → Reads h' 2 a q.es.length (flat q.es) := fun f => o5.reads.fr f (by simp)
        have tmp : ∀ {h' : Heap} (v0 v1 : Value) (x : Obj), Fr [] h5 h' → Fr [] h5 (hset (hset (h'.push x) h'.size 0 v0) h'.size (0 + 1) v1) := fun v0 v1 x f => ((f.pushr x).hsetr (.inl f.size)).hsetr (.inl f.size)
        obtain ⟨b1, o1, e1, q1, q1'⟩ := (rd f14).pair p1
        refine ⟨b1, o1, e1, by omega, by omega, v, q1, x, q1', ?_⟩
        intro h15 h16
        have f16 : Fr [] h5 h16 := tmp _ _ _ f14
        obtain ⟨b2, o2, e2, q2, q2'⟩ := (rd f16).pair p2
        refine ⟨b2, o2, e2, by omega, by omega, v, q2, y, q2', ?_⟩
        intro h17 h18
        have f18 : Fr [] h5 h18 := tmp _ _ _ f16
        obtain ⟨b3, o3, e3, q3, q3'⟩ := (rd f18).pair p3
        refine ⟨b3, o3, e3, by omega, by omega, v, q3, z, q3', ?_⟩
        intro h19 h20
        have f20 : Fr [] h5 h20 := tmp _ _ _ f18
        have keepR : ∀ {h' : Heap} (v0 v1 : Value) (x : Obj), Rws h' 34 4 1 h5.size rs → Rws (hset (hset (h'.push x) h'.size 0 v0) h'.size (0 + 1) v1) 34 4 1 h5.size rs := fun {h'} v0 v1 x R => by
          refine (R.fr0 (Fr.push h' x)).blk ?_ fun i r hr y hy => ?_
          · have := R.g_lt; rw [hset_ne (by omega), hset_ne (by omega)]
          · have := (R.row i r hr).lt y hy; rw [hset_ne (by omega), hset_ne (by omega)]
        have R20 : Rws h20 34 4 1 h5.size rs := keepR _ _ _ (keepR _ _ _ (keepR _ _ _ R14))
        refine cnd_f (by simp) (cnd_f (by simp) (cnd_f (by simp) (cnd_f (by simp; omega) (cnd_f (by simp; omega) (cnd_f (by simp; omega) ?_)))))
        have look : ∀ x y : Nat, x < j → y < j → Near q.es x y → ∃ b l, rs[x]? = some ⟨some ⟨b, 0, none⟩, j, j, bools l⟩ ∧ hcell h20 h5.size x = some (.slice (some ⟨b, 0, none⟩) j j) ∧ hcell h20 b y = some (.bool true) := by
          intro x y hx hy hxy
          obtain ⟨b, l, r, ll⟩ := S11.at hx
          obtain ⟨r', s1, s2⟩ := near x y hxy
          rw [r] at s1; simp at s1; subst s1
          exact ⟨b, l, r, R20.get r, (R20.row x _ r).cell s2⟩
        obtain ⟨bx, _, _, x1, x2⟩ := look x y (by omega) (by omega) t7
        refine ⟨h5.size, 0, rfl, by omega, by omega, _, _, _, by simpa using x1, bx, 0, rfl, by omega, by omega, true, by simpa using x2, cnd_f rfl ?_⟩
        obtain ⟨by', _, _, y1, y2⟩ := look y z (by omega) (by omega) t8
        refine ⟨h5.size, 0, rfl, by omega, by omega, _, _, _, by simpa using y1, by', 0, rfl, by omega, by omega, true, by simpa using y2, cnd_f rfl ?_⟩
        obtain ⟨bz, _, _, z1, z2⟩ := look z x (by omega) (by omega) t9
        refine ⟨h5.size, 0, rfl, by omega, by omega, _, _, _, by simpa using z1, bz, 0, rfl, by omega, by omega, true, by simpa using z2, cnd_f rfl ?_⟩
        exact ⟨⟨v + 1, by rw [wr (by omega) (by omega)]; simp, by omega, by omega, f20, R20⟩, by rw [wr (by omega) (by omega)]; simp only [mI]; omega⟩
  have hl3 : 3 < N → 1 ≤ k := by omega
  have hw : IntKind.i64.wrap (IntKind.i64.wrap ((3 : Int) * N) - 6) = ((q.es.length : Nat) : Int) := by rw [wr (x := (3 : Int) * N) (by omega) (by omega), wr (by omega) (by omega)]; omega
  have hk1 : N = 3 → k1 := fun h3 => cnd_f (by have : q.es.length = 3 := by omega
                                               simp [this]) hk2
  rw [hw]
  exact cnd_f rfl (cnd_f (by simp) (cnd_dec (fun h3 => cnd_f (by simp) (cnd_eq (fun h4 => hk1 (by omega)) fun _ => hk2)) fun h3 => cnd_eq (fun h4 => hk1 (by omega)) fun _ => hk2))

end Go.Proofs.Ytmcloipjlihhlaa
