/- Rows in chunks; calls, loops over chunks. Conditions: none. -/
import Derived.Test.YtmcloipjlihhlaaYCk
namespace Go.X

def eH : En RowH := ⟨1, fun r => [r.val], by decide, fun _ => rfl, fun r v h => by simp at h; subst h; rfl⟩
theorem eH_l : ∀ (rs : List RowH), eH.l rs = rs.map RowH.val
  | [] => rfl
  | r :: rs => by simp [En.l, eH_l rs]; rfl
section
variable {α : Type} {E : En α} {h0 h h' : Heap} {M : List Nat} {cs : List Ck} {ty t1 t2 : TypeId} {a : Option Addr} {n c : Nat} {xs ys : List α} {xss : List (List α)} {rs : List RowH} {b o : Nat} {cells : List Value} {P : Nat → Bool}

theorem Sy.mkR (Y : Sy h0 M h cs) (E : En α) (t2 : TypeId) (m n : Nat) (hnm : n ≤ m) (hm : m ≤ maxLen) :
    Sy h0 M (h.push (.cells (madeCells (List.toArray [.slice none 0 0]) (m * 1)) ty)) (cs ++ [Ck.rows E ty t2 (some ⟨h.size, 0, none⟩) n m (List.replicate n ⟨none, 0, 0⟩) (List.replicate n [])]) := by
  have hr : ∀ (i : Nat) (r : RowH), (List.replicate n (⟨none, 0, 0⟩ : RowH))[i]? = some r → r = ⟨none, 0, 0⟩ := by
    intro i r h; rw [List.getElem?_replicate] at h; split at h <;> simp at h; exact h.symm
  have hx : ∀ (i : Nat) (r : List α), (List.replicate n ([] : List α))[i]? = some r → r = [] := by
    intro i r h; rw [List.getElem?_replicate] at h; split at h <;> simp at h; exact h.symm ▸ rfl
  refine Y.add (Fr.push h _) _ ⟨?_, by simp, by simp, fun i r x h1 h2 _ => ?_, fun i j r s _ h1 _ _ _ d hd => ?_, fun i r h1 _ d hd => ?_⟩ ?_ (by simp [Ck.rows, Ck.rowsG])
  · have o : Own (h.push (.cells (madeCells (eH.enc ⟨none, 0, 0⟩).toArray (m * eH.sz)) ty)) ty 1 (some ⟨h.size, 0, none⟩) n m (eH.l (List.replicate n ⟨none, 0, 0⟩)) := by
      refine ⟨by simp [En.l_len, eH], .inr ⟨h.size, _, rfl, blk_push_new, hnm, hm, by simp [size_madeCells, eH], ?_⟩⟩
      rw [madeCells_l]
      have := En.l_take (E := eH) (List.replicate m ⟨none, 0, 0⟩) n
      rw [List.take_replicate, Nat.min_eq_left hnm] at this
      exact this
    rw [eH_l] at o
    exact o
  · rw [hr i r h1, hx i x h2]; exact ⟨Own.nil _ _ _, rfl⟩
  · rw [hr i r h1] at hd; simp [blkOf] at hd
  · rw [hr i r h1] at hd; simp [blkOf] at hd
  · intro d hd
    simp only [Ck.rows, Ck.rowsG, List.mem_append] at hd
    rcases hd with hd | hd
    · simp [blkOf] at hd; omega
    · obtain ⟨j, r, h1, _, h3⟩ := mem_rblk.1 hd
      rw [hr j r h1] at h3; simp [blkOf] at h3
theorem Sy.lenR (Y : Sy h0 M h cs) (k : Nat) (hk : cs[k]? = some (Ck.rowsG E P t1 t2 a n c rs xss)) : n = xss.length := (Y.ok hk : RowsOK ..).lx.symm
theorem Sy.atR (Y : Sy h0 M h cs) (k : Nat) (hk : cs[k]? = some (Ck.rowsG E P t1 t2 a n c rs xss)) {i : Int} (hi : 0 ≤ i) (hn : i < (n : Int)) :
    ∃ b, a = some ⟨b, 0, none⟩ ∧ b ∈ (Ck.rowsG E P t1 t2 a n c rs xss).own ∧ ∃ x, xss[i.toNat]? = some x ∧ ∃ r, rs[i.toNat]? = some r := by
  have R : RowsOK .. := Y.ok hk
  obtain ⟨g, cur, e, _⟩ := R.out.at (by omega)
  have l1 := R.ln
  have l2 := R.lx
  exact ⟨g, e, by show g ∈ blkOf a ++ _; simp [e, blkOf], _, List.getElem?_eq_getElem (by omega), _, List.getElem?_eq_getElem (by omega)⟩
theorem Sy.cellR (Y : Sy h0 M h cs) (k : Nat) (hk : cs[k]? = some (Ck.rows E t1 t2 a n c rs xss)) (ha : a = some ⟨b, 0, none⟩) {i : Nat} {r : RowH} {x : List α} (hr : rs[i]? = some r) (hx : xss[i]? = some x) :
    hcell h b (0 + i * 1) = some (.slice r.a x.length r.c) := by
  have R : RowsOK .. := Y.ok hk
  have := (R.row i r x hr hx rfl).2
  subst ha
  have hc := R.out.cell (k := i) (v := r.val) (by simp [hr])
  rw [this]
  simpa [RowH.val] using hc
theorem Sy.freeR (Y : Sy h0 M h cs) (k : Nat) (hk : cs[k]? = some (Ck.rowsG E P t1 t2 a n c rs xss)) (ha : a = some ⟨b, 0, none⟩) (o : Nat) : hfree h b o = true := by
  subst ha
  exact (Y.ok hk : RowsOK ..).out.free o
/-- The cell of a row that may be out. -/
theorem Sy.cellRX (Y : Sy h0 M h cs) (k : Nat) (hk : cs[k]? = some (Ck.rowsG E P t1 t2 a n c rs xss)) (ha : a = some ⟨b, 0, none⟩) {i : Nat} (hi : i < n) : ∃ u, hcell h b (0 + i * 1) = some u := by
  have R : RowsOK .. := Y.ok hk
  subst ha
  have hl : i < rs.length := by rw [R.ln]; exact hi
  exact ⟨_, by have := R.out.cell (k := i) (v := (rs[i]).val) (by simp [hl]); simpa using this⟩
theorem Sy.rowS (Y : Sy h0 M h cs) (k : Nat) (hk : cs[k]? = some (Ck.rows E t1 t2 a n c rs xss)) {i : Nat} {r : RowH} {x : List α} (hr : rs[i]? = some r) (hx : xss[i]? = some x) : Own h t2 E.sz r.a x.length r.c (E.l x) := by
  have R : RowsOK .. := Y.ok hk
  have := R.row i r x hr hx rfl
  rw [this.2]; exact this.1
/-- A place in a row. -/
theorem Sy.atRow (Y : Sy h0 M h cs) (k : Nat) (hk : cs[k]? = some (Ck.rows E t1 t2 a n c rs xss)) {j : Nat} {r : RowH} {x : List α} (hr : rs[j]? = some r) (hx : xss[j]? = some x) {i : Int} (hi : 0 ≤ i) (hn : i < (x.length : Int)) :
    ∃ b, r.a = some ⟨b, 0, none⟩ ∧ b ∈ (Ck.rows E t1 t2 a n c rs xss).own ∧ ∃ y, x[i.toNat]? = some y := by
  have ow := Y.rowS k hk hr hx
  obtain ⟨g, cur, e, _⟩ := ow.at (by omega)
  exact ⟨g, e, List.mem_append_right _ (mem_rblk.2 ⟨j, r, hr, rfl, by simp [e, blkOf]⟩), _, List.getElem?_eq_getElem (by omega)⟩
theorem Sy.cellRow (Y : Sy h0 M h cs) (k : Nat) (hk : cs[k]? = some (Ck.rows E t1 t2 a n c rs xss)) {j : Nat} {r : RowH} {x : List α} (hr : rs[j]? = some r) (hx : xss[j]? = some x) (ha : r.a = some ⟨b, 0, none⟩) {i t : Nat} {y : α} {v : Value} (hy : x[i]? = some y) (hv : (E.enc y)[t]? = some v) :
    hcell h b (0 + i * E.sz + t) = some v := by
  have ow := Y.rowS k hk hr hx
  rw [ha] at ow
  rw [Nat.zero_add]
  exact ow.cell (En.l_get hy hv)
theorem Own.row {h : Heap} {e sz n c : Nat} {b : Nat} {xs : List Value} (o : Own h e sz (some ⟨b, 0, none⟩) n c xs) (k : Nat) (v : Value) : Own (hset h b k v) e sz (some ⟨b, 0, none⟩) n c (xs.set k v) := o.set k v
/-- A row is taken out. -/
theorem Sy.takeR (Y : Sy h0 M h cs) (k : Nat) (hk : cs[k]? = some (Ck.rows E t1 t2 a n c rs xss)) {j : Nat} {r : RowH} {x : List α} (hr : rs[j]? = some r) (hx : xss[j]? = some x) :
    Sy h0 M h (cs.set k (Ck.rowsX E j t1 t2 a n c rs xss) ++ [Ck.sl E t2 r.a x.length r.c x]) := by
  have R : RowsOK .. := Y.ok hk
  have ow := Y.rowS k hk hr hx
  have Y1 : Sy h0 M h (cs.set k (Ck.rowsX E j t1 t2 a n c rs xss)) := by
    refine Y.turn k hk ⟨fun h' R => ⟨R.out, R.ln, R.lx, fun i r x h1 h2 _ => R.row i r x h1 h2 rfl, fun i j r s hij h1 h2 _ _ => R.ap i j r s hij h1 h2 rfl rfl, fun i r h1 _ => R.na i r h1 rfl⟩, fun d hd => ?_, fun d hd => by simp [Ck.rowsX, Ck.rowsG] at hd⟩
    simp only [Ck.rowsX, Ck.rows, Ck.rowsG, List.mem_append] at hd ⊢
    refine hd.imp id fun hd => ?_
    obtain ⟨i, s, q1, q2, q3⟩ := mem_rblk.1 hd
    exact mem_rblk.2 ⟨i, s, q1, rfl, q3⟩
  have hkl := (List.getElem?_eq_some_iff.1 hk).1
  have inR : ∀ d ∈ blkOf r.a, d ∈ (Ck.rows E t1 t2 a n c rs xss).own := fun d hd => List.mem_append_right _ (mem_rblk.2 ⟨j, r, hr, rfl, hd⟩)
  have old : ∀ (i : Nat) (d : Ck), (cs.set k (Ck.rowsX E j t1 t2 a n c rs xss) ++ [Ck.sl E t2 r.a x.length r.c x])[i]? = some d → (i = cs.length ∧ d = Ck.sl E t2 r.a x.length r.c x) ∨ (i ≠ cs.length ∧ (cs.set k (Ck.rowsX E j t1 t2 a n c rs xss))[i]? = some d) := by
    intro i d hd
    by_cases hi : i < cs.length
    · rw [List.getElem?_append_left (by simpa using hi)] at hd; exact .inr ⟨by omega, hd⟩
    · rw [List.getElem?_append_right (by simpa using hi)] at hd
      have hlt := (List.getElem?_eq_some_iff.1 hd).1
      simp at hlt
      have e0 : i - (cs.set k (Ck.rowsX E j t1 t2 a n c rs xss)).length = 0 := by simp; omega
      rw [e0] at hd; simp at hd
      exact .inl ⟨by omega, hd.symm⟩
  -- the row lies apart from all that stays
  have apart : ∀ (i : Nat) (d : Ck), (cs.set k (Ck.rowsX E j t1 t2 a n c rs xss))[i]? = some d → ∀ b ∈ blkOf r.a, b ∉ d.own ∧ b ∉ d.rd := by
    intro i d hd b hb
    rw [List.getElem?_set] at hd
    split at hd
    · rename_i e; subst e; simp [hkl] at hd; subst hd
      refine ⟨fun q => ?_, by simp [Ck.rowsX, Ck.rowsG]⟩
      simp only [Ck.rowsX, Ck.rowsG, List.mem_append] at q
      rcases q with q | q
      · exact R.na j r hr rfl b hb q
      · obtain ⟨i', s, q1, q2, q3⟩ := mem_rblk.1 q
        rw [Nat.zero_add] at q2
        exact R.ap j i' r s (fun e => by subst e; simp at q2) hr q1 rfl rfl b hb q3
    · rename_i e
      exact Y.hp.ap k i _ d e hk hd b (inR b hb)
  refine ⟨Y1.fr, ⟨fun i d hd => ?_, fun i i' d e hij hd he => ?_⟩, fun i d hd b hb => ?_⟩
  · rcases old i d hd with ⟨_, rfl⟩ | ⟨_, hd⟩
    · exact ⟨ow, rfl⟩
    · exact Y1.hp.ok i d hd
  · rcases old i d hd with ⟨e1, e2⟩ | ⟨_, hd1⟩
    · rcases old i' e he with ⟨e3, _⟩ | ⟨_, he1⟩
      · exact absurd (e1.trans e3.symm) hij
      · subst e2; exact fun b hb => apart i' e he1 b hb
    · rcases old i' e he with ⟨e1, e2⟩ | ⟨_, he1⟩
      · subst e2
        exact fun b hb => ⟨fun q => (apart i d hd1 b q).1 hb, by simp [Ck.sl]⟩
      · exact Y1.hp.ap i i' d e hij hd1 he1
  · rcases old i d hd with ⟨_, rfl⟩ | ⟨_, hd⟩
    · exact Y.ow k _ hk b (inR b hb)
    · exact Y1.ow i d hd b hb
/-- A slice of one's own becomes a row. -/
theorem Sy.putX (Y : Sy h0 M h cs) (k j : Nat) (hkj : Nat.beq k j = false) {i : Nat} (hk : cs[k]? = some (Ck.rowsX E i t1 t2 a n c rs xss)) (ha : a = some ⟨b, 0, none⟩) {a' : Option Addr} {n' c' : Nat} {x' : List α} (hj : cs[j]? = some (Ck.sl E t2 a' n' c' x')) (hi : i < n) :
    Sy h0 M (hset h b (0 + i * 1) (.slice a' n' c')) ((cs.set k (Ck.rows E t1 t2 a n c (rs.set i ⟨a', n', c'⟩) (xss.set i x'))).set j Ck.no) := by
  have R : RowsOK .. := Y.ok hk
  have S : Own .. ∧ _ := Y.ok hj
  have hne : k ≠ j := fun e => by subst e; simp at hkj
  have hbo : b ∈ (Ck.rowsX E i t1 t2 a n c rs xss).own := by simp [Ck.rowsX, Ck.rowsG, ha, blkOf]
  have hbj : b ∉ blkOf a' := (Y.hp.ap k j _ _ hne hk hj b hbo).1
  have nx : ∀ (p : Nat) (r : RowH), (rs.set i ⟨a', n', c'⟩)[p]? = some r → (p = i ∧ r = ⟨a', n', c'⟩) ∨ (p ≠ i ∧ rs[p]? = some r) := by
    intro p r h
    rw [List.getElem?_set] at h
    split at h
    · split at h <;> simp at h
      rename_i e _; exact .inl ⟨e.symm, h.symm⟩
    · rename_i e; exact .inr ⟨fun e' => e e'.symm, h⟩
  have nxb : ∀ p, p ≠ i → Nat.beq i p = false := fun p hp => by
    rw [← Bool.not_eq_true]; intro e; exact hp (Nat.eq_of_beq_eq_true e).symm
  have inX : ∀ (p : Nat) (r : RowH), p ≠ i → rs[p]? = some r → ∀ d ∈ blkOf r.a, d ∈ (Ck.rowsX E i t1 t2 a n c rs xss).own := fun p r hp hr d hd =>
    List.mem_append_right _ (mem_rblk.2 ⟨p, r, hr, by rw [Nat.zero_add]; exact nxb p hp, hd⟩)
  -- first the row goes into the rows' own part of memory: two steps in one
  have hil : i < rs.length := by rw [R.ln]; exact hi
  have okn : RowsOK E (fun _ => false) t1 t2 a n c (rs.set i ⟨a', n', c'⟩) (xss.set i x') (hset h b (0 + i * 1) (.slice a' n' c')) := by
    refine ⟨?_, by simp [R.ln], by simp [R.lx], fun p r x h1 h2 _ => ?_, fun p q r s hpq h1 h2 _ _ d hd => ?_, fun p r h1 _ d hd => ?_⟩
    · have := R.out
      rw [ha] at this ⊢
      have := this.set (0 + i * 1) (.slice a' n' c')
      rw [List.map_set]
      simpa [RowH.val] using this
    · rcases nx p r h1 with ⟨rfl, rfl⟩ | ⟨hp, h1⟩
      · have hx : x = x' := by
          have hl := (List.getElem?_eq_some_iff.1 h2).1
          simp at hl
          rw [List.getElem?_set_self hl] at h2
          exact (Option.some.inj h2).symm
        subst hx
        exact ⟨S.1.blk fun d hd => hset_ne (by rintro rfl; exact hbj hd), S.2⟩
      · rw [List.getElem?_set_ne (fun e => hp e.symm)] at h2
        obtain ⟨q1, q2⟩ := R.row p r x h1 h2 (nxb p hp)
        exact ⟨q1.blk fun d hd => hset_ne (by rintro rfl; exact R.na p r h1 (nxb p hp) d hd (by simp [ha, blkOf])), q2⟩
    · rcases nx p r h1 with ⟨e1, e2⟩ | ⟨hp, h1b⟩
      · rcases nx q s h2 with ⟨e3, _⟩ | ⟨hq, h2b⟩
        · exact absurd (e1.trans e3.symm) hpq
        · subst e2; exact fun hd2 => (Y.hp.ap k j _ _ hne hk hj d (inX q s hq h2b d hd2)).1 hd
      · rcases nx q s h2 with ⟨_, e4⟩ | ⟨hq, h2b⟩
        · subst e4; exact (Y.hp.ap k j _ _ hne hk hj d (inX p r hp h1b d hd)).1
        · exact R.ap p q r s hpq h1b h2b (nxb p hp) (nxb q hq) d hd
    · rcases nx p r h1 with ⟨rfl, rfl⟩ | ⟨hp, h1⟩
      · exact fun hd2 => (Y.hp.ap k j _ _ hne hk hj d (List.mem_append_left _ hd2)).1 hd
      · exact R.na p r h1 (nxb p hp) d hd
  have owns' : ∀ d ∈ (Ck.rows E t1 t2 a n c (rs.set i ⟨a', n', c'⟩) (xss.set i x')).own, d ∈ (Ck.rowsX E i t1 t2 a n c rs xss).own ∨ d ∈ blkOf a' := by
    intro d hd
    simp only [Ck.rows, Ck.rowsG, List.mem_append] at hd
    rcases hd with hd | hd
    · exact .inl (List.mem_append_left _ hd)
    · obtain ⟨p, r, q1, _, q3⟩ := mem_rblk.1 hd
      rcases nx p r q1 with ⟨rfl, rfl⟩ | ⟨hp, q1⟩
      · exact .inr q3
      · exact .inl (inX p r hp q1 d q3)
  have hkl := (List.getElem?_eq_some_iff.1 hk).1
  have hjl := (List.getElem?_eq_some_iff.1 hj).1
  have old : ∀ (p : Nat) (d : Ck), ((cs.set k (Ck.rows E t1 t2 a n c (rs.set i ⟨a', n', c'⟩) (xss.set i x'))).set j Ck.no)[p]? = some d →
      (p = j ∧ d = Ck.no) ∨ (p = k ∧ d = Ck.rows E t1 t2 a n c (rs.set i ⟨a', n', c'⟩) (xss.set i x')) ∨ (p ≠ j ∧ p ≠ k ∧ cs[p]? = some d) := by
    intro p d hd
    rw [List.getElem?_set] at hd
    split at hd
    · split at hd <;> simp at hd
      rename_i e _; exact .inl ⟨e.symm, hd.symm⟩
    · rename_i e
      rw [List.getElem?_set] at hd
      split at hd
      · rename_i e'
        subst e'
        simp [hkl] at hd
        exact .inr (.inl ⟨rfl, hd.symm⟩)
      · rename_i e'; exact .inr (.inr ⟨fun x => e x.symm, fun x => e' x.symm, hd⟩)
  have keep : ∀ (p : Nat) (d : Ck), p ≠ k → cs[p]? = some d → d.ok (hset h b (0 + i * 1) (.slice a' n' c')) := by
    intro p d hp hd
    have hok := Y.hp.ok p d hd
    have aa := Y.hp.ap k p _ d (fun e => hp e.symm) hk hd b hbo
    exact d.fr h _ (fun x hx => hset_ne (by rintro rfl; exact aa.1 hx)) (fun x hx => hset_ne (by rintro rfl; exact aa.2 hx)) hok
  refine ⟨Y.fr.hsetr ?_, ⟨fun p d hd => ?_, fun p q d e hpq hd he => ?_⟩, fun p d hd x hx => ?_⟩
  · rcases Y.ow k _ hk b hbo with q | q
    · exact .inr q
    · exact .inl q
  · rcases old p d hd with ⟨_, rfl⟩ | ⟨_, rfl⟩ | ⟨_, h2, h3⟩
    · trivial
    · exact okn
    · exact keep p d h2 h3
  · rcases old p d hd with ⟨_, rfl⟩ | ⟨e1, rfl⟩ | ⟨p1, p2, p3⟩
    · intro x hx; simp [Ck.no] at hx
    · rcases old q e he with ⟨_, rfl⟩ | ⟨e2, rfl⟩ | ⟨q1, q2, q3⟩
      · intro x hx; simp [Ck.no]
      · exact absurd (e1.trans e2.symm) hpq
      · intro x hx
        rcases owns' x hx with hx | hx
        · exact Y.hp.ap k q _ e (fun e => q2 e.symm) hk q3 x hx
        · exact Y.hp.ap j q _ e (fun e => q1 e.symm) hj q3 x hx
    · rcases old q e he with ⟨_, rfl⟩ | ⟨e2, rfl⟩ | ⟨q1, q2, q3⟩
      · intro x hx; simp [Ck.no]
      · intro x hx
        refine ⟨fun hx2 => ?_, by simp [Ck.rows, Ck.rowsG]⟩
        rcases owns' x hx2 with hx2 | hx2
        · exact (Y.hp.ap p k d _ p2 p3 hk x hx).1 hx2
        · exact (Y.hp.ap p j d _ p1 p3 hj x hx).1 hx2
      · exact Y.hp.ap p q d e hpq p3 q3
  · rcases old p d hd with ⟨_, rfl⟩ | ⟨_, rfl⟩ | ⟨_, _, h3⟩
    · simp [Ck.no] at hx
    · rcases owns' x hx with hx | hx
      · exact Y.ow k _ hk x hx
      · exact Y.ow j _ hj x hx
    · exact Y.ow p d h3 x hx
/-- A slice of one's own takes a row's place. -/
theorem To.rowsX (i : Nat) : To (Ck.rows E t1 t2 a n c rs xss) (Ck.rowsX E i t1 t2 a n c rs xss) := by
  refine ⟨fun h' R => ⟨R.out, R.ln, R.lx, fun i r x h1 h2 _ => R.row i r x h1 h2 rfl, fun i j r s hij h1 h2 _ _ => R.ap i j r s hij h1 h2 rfl rfl, fun i r h1 _ => R.na i r h1 rfl⟩, fun d hd => ?_, fun d hd => by simp [Ck.rowsX, Ck.rowsG] at hd⟩
  simp only [Ck.rowsX, Ck.rows, Ck.rowsG, List.mem_append] at hd ⊢
  refine hd.imp id fun hd => ?_
  obtain ⟨i, s, q1, q2, q3⟩ := mem_rblk.1 hd
  exact mem_rblk.2 ⟨i, s, q1, rfl, q3⟩
theorem To.rowsv : To (Ck.rows E t1 t2 a n c rs xss) (Ck.vrows E a n c rs xss) := by
  refine ⟨fun h' R => ⟨R.out.reads, R.ln, R.lx, ⟨R.out.cap.1, R.out.nc⟩, fun i r x h1 h2 => ?_⟩, by simp [Ck.vrows], fun d hd => .inl ?_⟩
  · have := R.row i r x h1 h2 rfl
    exact ⟨this.1.reads, this.2, this.1.cap.1, this.1.nc⟩
  · simp only [Ck.vrows, List.mem_append] at hd
    simp only [Ck.rows, Ck.rowsG, List.mem_append]
    refine hd.imp rdOf_sub fun hd => ?_
    obtain ⟨j, r, q1, q3⟩ := mem_vblk.1 hd
    exact mem_rblk.2 ⟨j, r, q1, rfl, rdOf_sub q3⟩
theorem Sy.lenW (Y : Sy h0 M h cs) (k : Nat) (hk : cs[k]? = some (Ck.vrows E a n c rs xss)) : n = xss.length := (Y.ok hk : VRowsOK ..).lx.symm
theorem Sy.atW (Y : Sy h0 M h cs) (k : Nat) (hk : cs[k]? = some (Ck.vrows E a n c rs xss)) {i : Int} (hi : 0 ≤ i) (hn : i < (n : Int)) :
    ∃ b o, a = some ⟨b, o, none⟩ ∧ b ∈ (Ck.vrows E a n c rs xss).rd ∧ ∃ x, xss[i.toNat]? = some x ∧ ∃ r, rs[i.toNat]? = some r := by
  have R : VRowsOK .. := Y.ok hk
  obtain ⟨b, o, e, _⟩ := R.out.at (by omega)
  have l1 := R.ln
  have l2 := R.lx
  exact ⟨b, o, e, List.mem_append_left _ (rd_mem e (by omega)), _, List.getElem?_eq_getElem (by omega), _, List.getElem?_eq_getElem (by omega)⟩
theorem Sy.cellWR (Y : Sy h0 M h cs) (k : Nat) (hk : cs[k]? = some (Ck.vrows E a n c rs xss)) (ha : a = some ⟨b, o, none⟩) {i : Nat} {r : RowH} {x : List α} (hr : rs[i]? = some r) (hx : xss[i]? = some x) :
    hcell h b (o + i * 1) = some (.slice r.a x.length r.c) := by
  have R : VRowsOK .. := Y.ok hk
  have hl := (R.row i r x hr hx).2.1
  rcases R.out.2 with ⟨_, h0⟩ | ⟨b', o', e, hc⟩
  · have := (List.getElem?_eq_some_iff.1 hr).1; have := R.ln; omega
  · rw [e] at ha; simp at ha; obtain ⟨rfl, rfl⟩ := ha
    rw [hl, Nat.mul_one]
    exact hc i r.val (by simp [hr])
theorem Sy.rowW (Y : Sy h0 M h cs) (k : Nat) (hk : cs[k]? = some (Ck.vrows E a n c rs xss)) {i : Nat} {r : RowH} {x : List α} (hr : rs[i]? = some r) (hx : xss[i]? = some x) : Reads h E.sz r.a x.length (E.l x) ∧ x.length ≤ r.c ∧ (r.a = none → r.c = 0) := by
  have R : VRowsOK .. := Y.ok hk
  obtain ⟨q1, q2, q3⟩ := R.row i r x hr hx
  rw [q2]; exact ⟨q1, q3⟩
theorem Sy.rowLen0 (Y : Sy h0 M h cs) (k : Nat) (hk : cs[k]? = some (Ck.vrows E a n c rs xss)) {i : Nat} {r : RowH} {x : List α} (hr : rs[i]? = some r) (hx : xss[i]? = some x) : x.length = r.n := ((Y.ok hk : VRowsOK ..).row i r x hr hx).2.1
theorem Sy.atRowW (Y : Sy h0 M h cs) (k : Nat) (hk : cs[k]? = some (Ck.vrows E a n c rs xss)) {j : Nat} {r : RowH} {x : List α} (hr : rs[j]? = some r) (hx : xss[j]? = some x) {i : Int} (hi : 0 ≤ i) (hn : i < (x.length : Int)) :
    ∃ b o, r.a = some ⟨b, o, none⟩ ∧ b ∈ (Ck.vrows E a n c rs xss).rd ∧ ∃ y, x[i.toNat]? = some y := by
  obtain ⟨q1, _⟩ := Y.rowW k hk hr hx
  obtain ⟨b, o, e, _⟩ := q1.at (by omega)
  exact ⟨b, o, e, List.mem_append_right _ (mem_vblk.2 ⟨j, r, hr, by rw [← Y.rowLen0 k hk hr hx]; exact rd_mem e (by omega)⟩), _, List.getElem?_eq_getElem (by omega)⟩
theorem Sy.cellRowW (Y : Sy h0 M h cs) (k : Nat) (hk : cs[k]? = some (Ck.vrows E a n c rs xss)) {j : Nat} {r : RowH} {x : List α} (hr : rs[j]? = some r) (hx : xss[j]? = some x) (ha : r.a = some ⟨b, o, none⟩) {i t : Nat} {y : α} {v : Value} (hy : x[i]? = some y) (hv : (E.enc y)[t]? = some v) :
    hcell h b (o + i * E.sz + t) = some v := by
  obtain ⟨q1, _⟩ := Y.rowW k hk hr hx
  rcases q1.2 with ⟨_, h0⟩ | ⟨b', o', e, hc⟩
  · have := (List.getElem?_eq_some_iff.1 hy).1; omega
  · rw [e] at ha; simp at ha; obtain ⟨rfl, rfl⟩ := ha
    rw [Nat.add_assoc]
    exact hc _ _ (En.l_get hy hv)
theorem Sy.startM (H : Hp h cs) (e : owns cs = M) : Sy h M h cs := e ▸ Sy.start H
theorem Sy.call2 {A B cs' : List Ck} {MA : List Nat} (Y : Sy h0 M h cs) (l : List Nat) (hl : chkI cs.length l = true) (e : pk cs l = A ++ B) (hM : owns A = MA) (P : Sy h MA h' cs') (nv : Nv cs') : Sy h0 M h' (cs' ++ B) := by
  subst hM
  exact Sy.call (e ▸ Y.pick l hl) P nv
theorem Sy.callV {cs' : List Ck} (Y : Sy h0 M h cs) (P : Sy h [] h' cs') (nv : Nv cs') : Sy h0 M h' (cs ++ cs') := by
  have Y1 : Sy h0 M h' (cs' ++ cs) := Sy.call (A := []) Y P nv
  have g1 : ∀ (i : Nat) (d : Ck), (cs ++ cs')[i]? = some d → ∃ j, (cs' ++ cs)[j]? = some d ∧ j = if i < cs.length then cs'.length + i else i - cs.length := by
    intro i d hd
    by_cases hi : i < cs.length
    · rw [List.getElem?_append_left hi] at hd
      exact ⟨cs'.length + i, by rw [List.getElem?_append_right (by omega)]; simpa using hd, by simp [hi]⟩
    · rw [List.getElem?_append_right (by omega)] at hd
      have := (List.getElem?_eq_some_iff.1 hd).1
      exact ⟨i - cs.length, by rw [List.getElem?_append_left this]; exact hd, by simp [hi]⟩
  refine ⟨Y1.fr, ⟨fun i d hd => ?_, fun i j d e hij hd he => ?_⟩, fun i d hd => ?_⟩
  · obtain ⟨p, h1, _⟩ := g1 i d hd; exact Y1.hp.ok p d h1
  · obtain ⟨p, h1, h2⟩ := g1 i d hd
    obtain ⟨q, h3, h4⟩ := g1 j e he
    refine Y1.hp.ap p q d e ?_ h1 h3
    have l1 := (List.getElem?_eq_some_iff.1 hd).1
    have l2 := (List.getElem?_eq_some_iff.1 he).1
    simp at l1 l2
    split at h2 <;> split at h4 <;> omega
  · obtain ⟨p, h1, _⟩ := g1 i d hd; exact Y1.ow p d h1
theorem callX_sy {Pr : Program} {f : FuncId} {args : Array Value} {H MA : List Nat} {R K : Value → Heap → Prop} (c : CallsH Pr f args h R) (hf : ∀ v h', R v h' → Fr MA h h') (hH : ∀ b ∈ H, b ∉ MA) (k : ∀ v h', R v h' → K v h') : callX Pr f args h H K :=
  ⟨MA, R, c.mono fun v h' r => ⟨hf v h' r, r⟩, hH, fun v h' _ r => k v h' r⟩
theorem alln {P : Nat → Prop} : ∀ b ∈ ([] : List Nat), P b := fun _ h => by cases h
theorem allc {P : Nat → Prop} {x : Nat} {l : List Nat} (h : P x) (t : ∀ b ∈ l, P b) : ∀ b ∈ x :: l, P b := List.forall_mem_cons.2 ⟨h, t⟩
/-- A view once more. -/
theorem Hp.dup {d : Ck} (H : Hp h cs) (k : Nat) (hk : cs[k]? = some d) (ho : d.own = []) : Hp h (d :: cs) :=
  Hp.cons (H.ok k d hk) (fun i e he => ⟨by simp [Ap, ho], fun b hb => by
    by_cases hik : i = k
    · subst hik; rw [hk] at he; simp at he; subst he; rw [ho] at hb; cases hb
    · exact H.ap i k e d hik he hk b hb⟩) H
theorem cnd_imp {x : Bool} {A B A' B' : Prop} (T : cnd x A B) (a : A → A') (b : B → B') : cnd x A' B' := ⟨fun h => a (T.1 h), fun h => b (T.2 h)⟩
open Classical in
/-- The least count. -/
noncomputable def Lm (J : Nat → List Value → Heap → Prop) (l : List Value) (h : Heap) : Nat := if e : ∃ k, J k l h then (least e).choose else 0
theorem loopIn {J : Nat → List Value → Heap → Prop} {l : List Value} (e : ∃ k, J k l h) : ∃ k, J k l h ∧ Lm J l h = k := by
  refine ⟨(least e).choose, (least e).choose_spec.1, ?_⟩
  rw [Lm, dif_pos e]
theorem loopBack {J : Nat → List Value → Heap → Prop} {l l' : List Value} {k k' : Nat} (hm : Lm J l h = k) (j : J k' l' h') (lt : k' < k) : (∃ k, J k l' h') ∧ Lm J l' h' < Lm J l h := by
  refine ⟨⟨k', j⟩, ?_⟩
  have e : ∃ k, J k l' h' := ⟨k', j⟩
  rw [hm, Lm, dif_pos e]
  exact Nat.lt_of_le_of_lt ((least e).choose_spec.2 k' j) lt
/-- What stays, behind what changes. -/
theorem Sy.cut (Y : Sy h0 M h cs) (v f : List Nat) (hc : chkI cs.length (v ++ f) = true) : ∃ B, B = pk cs f ∧ Sy h0 M h (pk cs v ++ B) := by
  refine ⟨_, rfl, ?_⟩
  have e : ∀ (v : List Nat), pk cs (v ++ f) = pk cs v ++ pk cs f := by
    intro v
    induction v with
    | nil => rfl
    | cons i v ih => simp only [List.cons_append, pk]; split <;> simp [ih]
  rw [← e]
  exact Y.pick _ hc
theorem fnS {k : Nat} (_ : cs[k]? = some (Ck.sl E ty a n c xs)) : ∃ F, F = Ck.sl E ty a n c := ⟨_, rfl⟩
def setL (cells : List Value) : List Nat → List Value → List Value
  | j :: js, v :: vs => setL (cells.set j v) js vs
  | _, _ => cells
theorem fnO {k : Nat} (js : List Nat) (_ : cs[k]? = some (Ck.ob b ty cells)) : ∃ F, F = fun vs => Ck.ob b ty (setL cells js vs) := ⟨_, rfl⟩
end
end Go.X
