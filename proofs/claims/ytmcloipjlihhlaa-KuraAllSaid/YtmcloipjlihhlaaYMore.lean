/- More of chunks: pieces of slices, wide elements, places in arrays, drawn regions. Conditions: none. -/
import Derived.Test.YtmcloipjlihhlaaYTwo
namespace Go.X

def nth2 (x : Int × Int) (i : Int) : Int := if i = 0 then x.1 else x.2
theorem nth2_cell {h : Heap} {b o i : Nat} {x : Int × Int} {j : Int} (h0 : hcell h b (o + i * 2 + 0) = some (.int .i64 x.1)) (h1 : hcell h b (o + i * 2 + 1) = some (.int .i64 x.2)) (j0 : 0 ≤ j) (j1 : j < ((2 : Nat) : Int)) :
    hcell h b (o + i * 2 + j.toNat * 1) = some (.int .i64 (nth2 x j)) := by
  by_cases hj : j = 0
  · subst hj; simpa [nth2] using h0
  · have : j = 1 := by omega
    subst this; simpa [nth2] using h1
section
variable {α : Type} {E : En α} {h0 h h' : Heap} {M : List Nat} {cs : List Ck} {ty t1 t2 : TypeId} {a : Option Addr} {n c : Nat} {xs ys : List α} {xss : List (List α)} {rs : List RowH} {b o : Nat} {cells : List Value} {P : Nat → Bool}

theorem Reads.takeR {h : Heap} {a : Option Addr} {n : Nat} {xs : List α} (r : Reads h E.sz a n (E.l xs)) (m : Nat) (hm : m ≤ n) : Reads h E.sz a m (E.l (xs.take m)) := by
  have hl := r.1
  rw [En.l_len] at hl
  have hl : xs.length = n := Nat.eq_of_mul_eq_mul_right E.pos hl
  refine ⟨by rw [En.l_len, List.length_take, Nat.min_eq_left (by omega)], ?_⟩
  rcases r.2 with ⟨rfl, h0⟩ | ⟨b, o, e, hc⟩
  · exact .inl ⟨rfl, by omega⟩
  · refine .inr ⟨b, o, e, fun j v hj => hc j v ?_⟩
    rw [← En.l_take, List.getElem?_take] at hj
    split at hj
    · exact hj
    · cases hj
theorem Reads.dropR {h : Heap} {a : Option Addr} {n c : Nat} {xs : List α} (r : Reads h E.sz a n (E.l xs)) (m : Nat) (hm : m ≤ n) (hc : n ≤ c) (hn : a = none → c = 0) {n' : Nat} (e : n' = n - m) :
    Reads h E.sz (if c = m then a else Option.map (fun addr => Addr.add addr (m * E.sz)) a) n' (E.l (xs.drop m)) := by
  subst e
  have hl := r.1
  rw [En.l_len] at hl
  have hl : xs.length = n := Nat.eq_of_mul_eq_mul_right E.pos hl
  refine ⟨by rw [En.l_len, List.length_drop, hl], ?_⟩
  rcases r.2 with ⟨rfl, h0⟩ | ⟨b, o, e, hc2⟩
  · left; exact ⟨by simp, by omega⟩
  · subst e
    right
    split
    · rename_i e
      have : xs.drop m = [] := List.drop_of_length_le (by omega)
      exact ⟨b, o, rfl, fun j v hj => by rw [this] at hj; simp [En.l] at hj⟩
    · refine ⟨b, o + m * E.sz, by simp [Addr.add], fun j v hj => ?_⟩
      rw [← En.l_drop, List.getElem?_drop] at hj
      rw [Nat.add_assoc]
      exact hc2 _ v hj
theorem To.vwT (m : Nat) (hm : m ≤ n) : To (Ck.vw E a n c xs) (Ck.vw E a m c (xs.take m)) :=
  ⟨fun h o => ⟨o.1.takeR m hm, by have := o.2.1; simp; omega, Nat.le_trans hm o.2.2.1, o.2.2.2⟩, by simp [Ck.vw], fun b hb => .inr (by
    have hb : b ∈ rdOf a m := hb
    show b ∈ rdOf a n
    cases m with
    | zero => simp [rdOf] at hb
    | succ m => cases n with
      | zero => omega
      | succ n => exact hb)⟩
theorem To.trans {c d e : Ck} (x : To c d) (y : To d e) : To c e :=
  ⟨fun h q => y.1 h (x.1 h q), fun b hb => x.2.1 b (y.2.1 b hb), fun b hb => (y.2.2 b hb).elim (fun q => .inl (x.2.1 b q)) (fun q => x.2.2 b q)⟩
theorem To.slvwT (m : Nat) (hm : m ≤ n) : To (Ck.sl E ty a n c xs) (Ck.vw E a m c (xs.take m)) := To.slvw.trans (To.vwT m hm)
theorem Sy.rowLenR (Y : Sy h0 M h cs) (k : Nat) (hk : cs[k]? = some (Ck.rows E t1 t2 a n c rs xss)) {i : Nat} {r : RowH} {x : List α} (hr : rs[i]? = some r) (hx : xss[i]? = some x) : x.length = r.n := ((Y.ok hk : RowsOK ..).row i r x hr hx rfl).2
theorem Sy.nilR (Y : Sy h0 M h cs) (E : En α) (t1 t2 : TypeId) : Sy h0 M h (cs ++ [Ck.rows E t1 t2 none 0 0 [] []]) :=
  Y.addN _ ⟨Ownd.nil _ _ _, rfl, rfl, fun i r x h => by simp at h, fun i j r s _ h => by simp at h, fun i r h => by simp at h⟩ rfl rfl
theorem Sy.fnS (_ : Sy h0 M h cs) {k : Nat} (_ : cs[k]? = some (Ck.sl E ty a n c xs)) : ∃ F, F = Ck.sl E ty a n c := ⟨_, rfl⟩
theorem Sy.fnR (_ : Sy h0 M h cs) {k : Nat} (_ : cs[k]? = some (Ck.rows E t1 t2 a n c rs xss)) : ∃ F, F = Ck.rows E t1 t2 a n c := ⟨_, rfl⟩
theorem Sy.fnO (_ : Sy h0 M h cs) {k : Nat} (js : List Nat) (_ : cs[k]? = some (Ck.ob b ty cells)) : ∃ F, F = fun vs => Ck.ob b ty (setL cells js vs) := ⟨_, rfl⟩
theorem Sy.fnX (_ : Sy h0 M h cs) {k : Nat} (_ : cs[k]? = some (Ck.rows E t1 t2 a n c rs xss)) : ∃ F, F = fun i => Ck.rowsX E i t1 t2 a n c := ⟨_, rfl⟩
theorem Sy.putXe (Y : Sy h0 M h cs) (k j : Nat) (hkj : Nat.beq k j = false) {i i' : Nat} (e : i' = i) (hk : cs[k]? = some (Ck.rowsX E i t1 t2 a n c rs xss)) (ha : a = some ⟨b, 0, none⟩) {a' : Option Addr} {n' c' : Nat} {x' : List α} (hj : cs[j]? = some (Ck.sl E t2 a' n' c' x')) (hi : i' < n) :
    Sy h0 M (hset h b (0 + i' * 1) (.slice a' n' c')) ((cs.set k (Ck.rows E t1 t2 a n c (rs.set i' ⟨a', n', c'⟩) (xss.set i' x'))).set j Ck.no) := by
  subst e; exact Y.putX k j hkj hk ha hj hi
theorem readsAt {h : Heap} {a : Option Addr} {n : Nat} {xs : List α} (r : Reads h E.sz a n (E.l xs)) {i : Int} (hi : 0 ≤ i) (hn : i < (n : Int)) :
    ∃ b o, a = some ⟨b, o, none⟩ ∧ ∃ x, xs[i.toNat]? = some x ∧ ∀ t v, (E.enc x)[t]? = some v → hcell h b (o + i.toNat * E.sz + t) = some v := by
  have hl := r.1
  rw [En.l_len] at hl
  have hl : xs.length = n := Nat.eq_of_mul_eq_mul_right E.pos hl
  obtain ⟨b, o, e, hc⟩ := r.at (by omega)
  have hx : xs[i.toNat]? = some (xs[i.toNat]'(by omega)) := List.getElem?_eq_getElem (by omega)
  refine ⟨b, o, e, _, hx, fun t v hv => ?_⟩
  rw [Nat.add_assoc]
  exact hc _ _ (En.l_get hx hv)
theorem app_in {N : List Nat} {g : Nat} {a a2 : Option Addr} {c c2 s : Nat} (old : ∀ x ∈ blkOf a, x ∈ N ∨ g ≤ x) (ga : (a2 = a ∧ c2 = c) ∨ ∃ q, a2 = some ⟨q, 0, none⟩ ∧ s ≤ q) (hs : g ≤ s) : ∀ x ∈ blkOf a2, x ∈ N ∨ g ≤ x := by
  rcases ga with ⟨rfl, _⟩ | ⟨q, rfl, hq⟩
  · exact old
  · intro x hx; simp [blkOf] at hx; subst hx; exact .inr (Nat.le_trans hs hq)
theorem Fr.appIn {N : List Nat} {h0 h1 : Heap} (_ : Fr N h0 h1) {a a2 : Option Addr} {c c2 s : Nat} (old : ∀ x ∈ blkOf a, x ∈ N ∨ h0.size ≤ x) (ga : (a2 = a ∧ c2 = c) ∨ ∃ q, a2 = some ⟨q, 0, none⟩ ∧ s ≤ q) (hs : h0.size ≤ s) : ∀ x ∈ blkOf a2, x ∈ N ∨ h0.size ≤ x := app_in old ga hs
theorem Sy.cellEx (Y : Sy h0 M h cs) (k : Nat) (hk : cs[k]? = some (Ck.sl E ty a n c xs)) (ha : a = some ⟨b, 0, none⟩) {i t : Nat} (hi : i < n) (ht : t < E.sz) : ∃ u, hcell h b (0 + i * E.sz + t) = some u := by
  have hl := Y.lenS k hk
  have hx : xs[i]? = some (xs[i]'(by omega)) := List.getElem?_eq_getElem (by omega)
  have hlt : t < (E.enc (xs[i]'(by omega))).length := by rw [E.len]; exact ht
  exact ⟨_, Y.cellS k hk ha hx (List.getElem?_eq_getElem hlt)⟩
theorem memR (ha : a = some ⟨b, o, none⟩) : b ∈ (Ck.rowsG E P t1 t2 a n c rs xss).own := by simp [Ck.rowsG, ha, blkOf]
/-- What the head of a drawn region writes: these chunks, and the rows of those. -/
def Mt (cs : List Ck) (l r : List Nat) : List Nat := owns (pk cs l) ++ (pk cs r).flatMap fun c => c.own.tail
theorem Sy.mt (_ : Sy h0 M h cs) (l r : List Nat) : ∃ N, N = Mt cs l r := ⟨_, rfl⟩
theorem Sy.frM (_ : Sy h0 M h cs) (l r : List Nat) : Fr (Mt cs l r) h h := Fr.refl _ _
theorem mem_owns_pk {l : List Nat} (hc : chkI cs.length l = true) {x : Nat} (h : x ∈ owns (pk cs l)) : ∃ (k : Nat) (c : Ck), k ∈ l ∧ cs[k]? = some c ∧ x ∈ c.own := by
  simp only [owns, List.mem_flatMap] at h
  obtain ⟨d, h1, h2⟩ := h
  obtain ⟨p, hp, rfl⟩ := List.getElem_of_mem h1
  obtain ⟨q, hq, hq2⟩ := pk_get hc (List.getElem?_eq_getElem hp)
  exact ⟨q, _, List.mem_of_getElem? hq, hq2, h2⟩
theorem mem_Mt {l r : List Nat} (hl : chkI cs.length l = true) (hr : chkI cs.length r = true) {x : Nat} (h : x ∈ Mt cs l r) : ∃ (k : Nat) (c : Ck), (k ∈ l ∨ k ∈ r) ∧ cs[k]? = some c ∧ x ∈ c.own ∧ (k ∈ l ∨ x ∈ c.own.tail) := by
  simp only [Mt, List.mem_append] at h
  rcases h with h | h
  · obtain ⟨k, c, h1, h2, h3⟩ := mem_owns_pk hl h
    exact ⟨k, c, .inl h1, h2, h3, .inl h1⟩
  · simp only [List.mem_flatMap] at h
    obtain ⟨d, h1, h2⟩ := h
    obtain ⟨p, hp, rfl⟩ := List.getElem_of_mem h1
    obtain ⟨q, hq, hq2⟩ := pk_get hr (List.getElem?_eq_getElem hp)
    exact ⟨q, _, .inr (List.mem_of_getElem? hq), hq2, List.mem_of_mem_tail h2, .inr h2⟩
def chkM (n k : Nat) (l r : List Nat) : Bool := chkI n l && chkI n r && !(l.any (Nat.beq k)) && !(r.any (Nat.beq k))
theorem chkM_el {n k : Nat} {l r : List Nat} (h : chkM n k l r = true) : chkI n l = true ∧ chkI n r = true ∧ k ∉ l ∧ k ∉ r := by
  simp only [chkM, Bool.and_eq_true, Bool.not_eq_true'] at h
  obtain ⟨⟨⟨h1, h2⟩, h3⟩, h4⟩ := h
  refine ⟨h1, h2, fun hk => ?_, fun hk => ?_⟩
  · have : l.any (Nat.beq k) = true := List.any_eq_true.2 ⟨k, hk, by simp⟩
    rw [h3] at this; cases this
  · have : r.any (Nat.beq k) = true := List.any_eq_true.2 ⟨k, hk, by simp⟩
    rw [h4] at this; cases this
/-- What another chunk has is not written. -/
theorem Sy.nMo (Y : Sy h0 M h cs) (k : Nat) (l r : List Nat) (hc : chkM cs.length k l r = true) {d : Ck} (hk : cs[k]? = some d) {x : Nat} (hx : x ∈ d.own) : x ∉ Mt cs l r := by
  obtain ⟨h1, h2, h3, h4⟩ := chkM_el hc
  intro hm
  obtain ⟨q, e, q1, q2, q3, _⟩ := mem_Mt h1 h2 hm
  have hne : k ≠ q := by rintro rfl; exact q1.elim h3 h4
  exact (Y.hp.ap k q d e hne hk q2 x hx).1 q3
theorem Sy.nMJ (Y : Sy h0 M h cs) (k : Nat) (l r : List Nat) (hc : chkM cs.length k l r = true) {y : Nat} (hk : cs[k]? = some (Ck.junk y)) : y ∉ Mt cs l r := Y.nMo k l r hc hk (by simp [Ck.junk])
/-- Of rows the head's block is not written. -/
theorem Sy.nMr (Y : Sy h0 M h cs) (k : Nat) (l r : List Nat) (hc : (chkI cs.length l && chkI cs.length r && !(l.any (Nat.beq k))) = true) (hk : cs[k]? = some (Ck.rows E t1 t2 a n c rs xss)) (ha : a = some ⟨b, 0, none⟩) : b ∉ Mt cs l r := by
  simp only [Bool.and_eq_true, Bool.not_eq_true'] at hc
  obtain ⟨⟨h1, h2⟩, h3⟩ := hc
  have hb : b ∈ (Ck.rows E t1 t2 a n c rs xss).own := by simp [Ck.rows, Ck.rowsG, ha, blkOf]
  intro hm
  obtain ⟨q, e, q1, q2, q3, q4⟩ := mem_Mt h1 h2 hm
  by_cases hkq : k = q
  · subst hkq
    rw [hk] at q2; simp at q2; subst q2
    rcases q4 with q4 | q4
    · have : l.any (Nat.beq k) = true := List.any_eq_true.2 ⟨k, q4, by simp⟩
      rw [h3] at this; cases this
    · have R : RowsOK .. := Y.ok hk
      subst ha
      simp only [Ck.rows, Ck.rowsG, blkOf, List.cons_append, List.nil_append, List.tail_cons] at q4
      obtain ⟨j, s, w1, w2, w3⟩ := mem_rblk.1 q4
      exact R.na j s w1 rfl b w3 (by simp [blkOf])
  · exact (Y.hp.ap k q _ e hkq hk q2 b hb).1 q3
theorem mem_pk {l : List Nat} {k : Nat} {d : Ck} (hk : cs[k]? = some d) (hl : k ∈ l) : d ∈ pk cs l := by
  induction l with
  | nil => cases hl
  | cons i l ih =>
    simp only [pk]
    rcases List.mem_cons.1 hl with rfl | hl
    · rw [hk]; exact List.mem_cons_self ..
    · split
      · exact List.mem_cons_of_mem _ (ih hl)
      · exact ih hl
theorem Sy.inMr (Y : Sy h0 M h cs) (k : Nat) (l r : List Nat) (hl : r.any (Nat.beq k) = true) (hk : cs[k]? = some (Ck.rows E t1 t2 a n c rs xss)) {i : Nat} {s : RowH} (hr : rs[i]? = some s) {g : Nat} : ∀ x ∈ blkOf s.a, x ∈ Mt cs l r ∨ g ≤ x := by
  intro x hx
  obtain ⟨k', h1, h2⟩ := List.any_eq_true.1 hl
  have := Nat.eq_of_beq_eq_true h2
  subst this
  have R : RowsOK .. := Y.ok hk
  have hn : 0 < n := by have := (List.getElem?_eq_some_iff.1 hr).1; rw [R.ln] at this; omega
  obtain ⟨q, cur, e, _⟩ := R.out.at hn
  refine .inl (List.mem_append_right _ ?_)
  simp only [List.mem_flatMap]
  refine ⟨_, mem_pk hk h1, ?_⟩
  subst e
  simp only [Ck.rows, Ck.rowsG, blkOf, List.cons_append, List.nil_append, List.tail_cons]
  exact mem_rblk.2 ⟨i, s, hr, rfl, hx⟩
theorem nil_in {N : List Nat} {g0 : Nat} : ∀ x ∈ blkOf (none : Option Addr), x ∈ N ∨ g0 ≤ x := by intro x hx; simp [blkOf] at hx
end
end Go.X
