/- Rows that go out one by one, and come in one by one; a literal of slices. Conditions: none. -/
import Derived.Test.YtmcloipjlihhlaaYTwo
import Derived.Test.YtmcloipjlihhlaaYMore
set_option linter.unusedVariables false
namespace Go.X
section
variable {α : Type} {E : En α} {h0 h h' : Heap} {M : List Nat} {cs : List Ck} {ty t1 t2 : TypeId} {a : Option Addr} {n c : Nat} {xs ys : List α} {xss : List (List α)} {rs : List RowH} {b o : Nat} {k j : Nat} {P P' : Nat → Bool}
theorem Sy.rowG (Y : Sy h0 M h cs) (k : Nat) (hk : cs[k]? = some (Ck.rowsG E P t1 t2 a n c rs xss)) {i : Nat} {r : RowH} {x : List α} (hr : rs[i]? = some r) (hx : xss[i]? = some x) (hp : P i = false) : Ownd h t2 E.sz r.a x.length r.c (E.l x) := by
  have R : RowsOK .. := Y.ok hk
  have := R.row i r x hr hx hp
  rw [this.2]; exact this.1
theorem Sy.cellG (Y : Sy h0 M h cs) (k : Nat) (hk : cs[k]? = some (Ck.rowsG E P t1 t2 a n c rs xss)) (ha : a = some ⟨b, 0, none⟩) {i : Nat} {r : RowH} {x : List α} (hr : rs[i]? = some r) (hx : xss[i]? = some x) (hp : P i = false) :
    hcell h b (0 + i * 1) = some (.slice r.a x.length r.c) := by
  have R : RowsOK .. := Y.ok hk
  have := (R.row i r x hr hx hp).2
  subst ha
  have hc := R.out.cell (k := i) (v := r.val) (by simp [hr])
  rw [this]
  simpa [RowH.val] using hc
/-- Less is said of rows. -/
theorem To.rowsP (hp : ∀ q, P' q = false → P q = false) : To (Ck.rowsG E P t1 t2 a n c rs xss) (Ck.rowsG E P' t1 t2 a n c rs xss) := by
  refine ⟨fun h' R => ⟨R.out, R.ln, R.lx, fun i r x h1 h2 h3 => R.row i r x h1 h2 (hp _ h3), fun i j r s hij h1 h2 h3 h4 => R.ap i j r s hij h1 h2 (hp _ h3) (hp _ h4), fun i r h1 h2 => R.na i r h1 (hp _ h2)⟩, fun d hd => ?_, fun d hd => by simp [Ck.rowsG] at hd⟩
  simp only [Ck.rowsG, List.mem_append] at hd ⊢
  refine hd.imp id fun hd => ?_
  obtain ⟨i, s, q1, q2, q3⟩ := mem_rblk.1 hd
  rw [Nat.zero_add] at q2
  exact mem_rblk.2 ⟨i, s, q1, by rw [Nat.zero_add]; exact hp _ q2, q3⟩
/-- A row that is in goes out. -/
theorem Sy.takeG (Y : Sy h0 M h cs) (k : Nat) (hk : cs[k]? = some (Ck.rowsG E P t1 t2 a n c rs xss)) {j : Nat} {r : RowH} {x : List α} (hr : rs[j]? = some r) (hx : xss[j]? = some x) (hj : P j = false) (hp : ∀ q, P' q = false → P q = false ∧ q ≠ j) :
    Sy h0 M h (cs.set k (Ck.rowsG E P' t1 t2 a n c rs xss) ++ [Ck.sl E t2 r.a x.length r.c x]) := by
  have R : RowsOK .. := Y.ok hk
  have ow := Y.rowG k hk hr hx hj
  have Y1 : Sy h0 M h (cs.set k (Ck.rowsG E P' t1 t2 a n c rs xss)) := Y.turn k hk (To.rowsP fun q z => (hp q z).1)
  have hkl := (List.getElem?_eq_some_iff.1 hk).1
  have inR : ∀ d ∈ blkOf r.a, d ∈ (Ck.rowsG E P t1 t2 a n c rs xss).own := fun d hd => List.mem_append_right _ (mem_rblk.2 ⟨j, r, hr, by rw [Nat.zero_add]; exact hj, hd⟩)
  have old : ∀ (i : Nat) (d : Ck), (cs.set k (Ck.rowsG E P' t1 t2 a n c rs xss) ++ [Ck.sl E t2 r.a x.length r.c x])[i]? = some d → (i = cs.length ∧ d = Ck.sl E t2 r.a x.length r.c x) ∨ (i ≠ cs.length ∧ (cs.set k (Ck.rowsG E P' t1 t2 a n c rs xss))[i]? = some d) := by
    intro i d hd
    by_cases hi : i < cs.length
    · rw [List.getElem?_append_left (by simpa using hi)] at hd; exact .inr ⟨by omega, hd⟩
    · rw [List.getElem?_append_right (by simpa using hi)] at hd
      have hlt := (List.getElem?_eq_some_iff.1 hd).1
      simp at hlt
      have e0 : i - (cs.set k (Ck.rowsG E P' t1 t2 a n c rs xss)).length = 0 := by simp; omega
      rw [e0] at hd; simp at hd
      exact .inl ⟨by omega, hd.symm⟩
  have apart : ∀ (i : Nat) (d : Ck), (cs.set k (Ck.rowsG E P' t1 t2 a n c rs xss))[i]? = some d → ∀ b ∈ blkOf r.a, b ∉ d.own ∧ b ∉ d.rd := by
    intro i d hd b hb
    rw [List.getElem?_set] at hd
    split at hd
    · rename_i e; subst e; simp [hkl] at hd; subst hd
      refine ⟨fun q => ?_, by simp [Ck.rowsG]⟩
      simp only [Ck.rowsG, List.mem_append] at q
      rcases q with q | q
      · exact R.na j r hr hj b hb q
      · obtain ⟨i', s, q1, q2, q3⟩ := mem_rblk.1 q
        rw [Nat.zero_add] at q2
        exact R.ap j i' r s (fun e => (hp i' q2).2 e.symm) hr q1 hj (hp i' q2).1 b hb q3
    · rename_i e
      exact Y.hp.ap k i _ d e hk hd b (inR b hb)
  refine ⟨Y1.fr, ⟨fun i d hd => ?_, fun i i' d e hij hd he => ?_⟩, fun i d hd b hb => ?_⟩
  · rcases old i d hd with ⟨_, rfl⟩ | ⟨_, hd⟩
    · exact ⟨ow, rfl⟩
    · exact Y1.hp.ok i d hd
  · rcases old i d hd with ⟨e1, e2⟩ | ⟨_, hd1⟩
    · rcases old i' e he with ⟨e3, _⟩ | ⟨_, he1⟩
      · exact absurd (e1.trans e3.symm) hij
      · subst e2; exact fun b hb => apart i' e he1 b hb
    · rcases old i' e he with ⟨e1, e2⟩ | ⟨_, he1⟩
      · subst e2
        exact fun b hb => ⟨fun q => (apart i d hd1 b q).1 hb, by simp [Ck.sl]⟩
      · exact Y1.hp.ap i i' d e hij hd1 he1
  · rcases old i d hd with ⟨_, rfl⟩ | ⟨_, hd⟩
    · exact Y.ow k _ hk b (inR b hb)
    · exact Y1.ow i d hd b hb
/-- A slice of one's own comes in as the row whose header it is. -/
theorem Sy.giveG (Y : Sy h0 M h cs) (k j : Nat) (hkj : Nat.beq k j = false) (hk : cs[k]? = some (Ck.rowsG E P t1 t2 a n c rs xss)) {a' : Option Addr} {n' c' : Nat} {x' : List α} (hj : cs[j]? = some (Ck.sl E t2 a' n' c' x')) {i : Nat}
    (hr : rs[i]? = some ⟨a', n', c'⟩) (hx : xss[i]? = some x') (hp : ∀ q, P' q = false → q = i ∨ P q = false) : Sy h0 M h ((cs.set k (Ck.rowsG E P' t1 t2 a n c rs xss)).set j Ck.no) := by
  have hne : k ≠ j := fun e => by subst e; simp at hkj
  have R : RowsOK .. := Y.ok hk
  have S : Ownd .. ∧ _ := Y.ok hj
  have inA : ∀ d ∈ blkOf a, d ∈ (Ck.rowsG E P t1 t2 a n c rs xss).own := fun d hd => List.mem_append_left _ hd
  have inR : ∀ (p : Nat) (r : RowH), rs[p]? = some r → P p = false → ∀ d ∈ blkOf r.a, d ∈ (Ck.rowsG E P t1 t2 a n c rs xss).own := fun p r hr hp d hd => List.mem_append_right _ (mem_rblk.2 ⟨p, r, hr, by rw [Nat.zero_add]; exact hp, hd⟩)
  have jap : ∀ d ∈ (Ck.rowsG E P t1 t2 a n c rs xss).own, d ∉ blkOf a' := fun d hd => (Y.hp.ap k j _ _ hne hk hj d hd).1
  refine Y.mut2 hne hk hj _ _ (Nat.le_refl _) (fun d _ _ => rfl) ?_ trivial (fun d hd => ?_) (fun d hd => by simp [Ck.no] at hd) (fun d hd => by simp [Ck.rowsG] at hd) (fun d hd => by simp [Ck.no] at hd) Ap.no Ap.ofno
  · refine ⟨R.out, R.ln, R.lx, fun p r x h1 h2 h3 => ?_, fun p q r s hpq h1 h2 h3 h4 d hd => ?_, fun p r h1 h2 d hd => ?_⟩
    · by_cases e : p = i
      · subst e
        rw [hr] at h1; rw [hx] at h2
        obtain rfl := Option.some.inj h1
        obtain rfl := Option.some.inj h2
        exact S
      · exact R.row p r x h1 h2 ((hp p h3).resolve_left e)
    · by_cases e : p = i
      · subst e
        rw [hr] at h1
        obtain rfl := Option.some.inj h1
        have q4 := (hp q h4).resolve_left (fun z => hpq z.symm)
        exact fun z => jap d (inR q s h2 q4 d z) hd
      · have q3 := (hp p h3).resolve_left e
        by_cases e2 : q = i
        · subst e2
          rw [hr] at h2
          obtain rfl := Option.some.inj h2
          exact jap d (inR p r h1 q3 d hd)
        · exact R.ap p q r s hpq h1 h2 q3 ((hp q h4).resolve_left e2) d hd
    · by_cases e : p = i
      · subst e
        rw [hr] at h1
        obtain rfl := Option.some.inj h1
        exact fun z => jap d (inA d z) hd
      · exact R.na p r h1 ((hp p h2).resolve_left e) d hd
  · simp only [Ck.rowsG, List.mem_append] at hd
    rcases hd with hd | hd
    · exact .inl (inA d hd)
    · obtain ⟨p, r, q1, q2, q3⟩ := mem_rblk.1 hd
      rw [Nat.zero_add] at q2
      by_cases e : p = i
      · subst e
        rw [hr] at q1
        obtain rfl := Option.some.inj q1
        exact .inr (.inl q3)
      · exact .inl (inR p r q1 ((hp p q2).resolve_left e) d q3)
/-- Out: from the i-th on; up to the i-th. -/
def Pge (i q : Nat) : Bool := decide (i ≤ q)
def Plt (i q : Nat) : Bool := decide (q < i)
theorem ge_step {i : Nat} : ∀ q, Pge (i + 1) q = false → q = i ∨ Pge i q = false := fun q h => by
  simp only [Pge, decide_eq_false_iff_not] at h ⊢
  omega
theorem ge_all {i m : Nat} (h : m ≤ i) : ∀ q, q < m → Pge i q = false := fun q hq => by
  simp only [Pge, decide_eq_false_iff_not]
  omega
theorem ge_zero {q : Nat} : Pge 0 q = true := by simp [Pge]
theorem no_rblk {rs : List RowH} : ∀ i, rblk (Pge 0) i rs = [] := by
  induction rs with
  | nil => intro i; rfl
  | cons r rs ih => intro i; simp [rblk, ih, ge_zero]
/-- A literal of slices: its rows are not in yet. -/
theorem Sy.litG (Y : Sy h0 M h cs) (E : En α) (t1 t2 : TypeId) (rs : List RowH) (xss : List (List α)) {vs : Array Value} (hv : (eH.l rs).toArray = vs) (hl : xss.length = rs.length) (hm : rs.length ≤ maxLen) :
    Sy h0 M (h.push (.cells vs t1)) (cs ++ [Ck.rowsG E (Pge 0) t1 t2 (some ⟨h.size, 0, none⟩) rs.length rs.length rs xss]) := by
  subst hv
  have no : ∀ {q : Nat} {A : Prop}, Pge 0 q = false → A := fun z => by rw [ge_zero] at z; cases z
  refine Y.add (Fr.push h _) _ ⟨?_, rfl, hl, fun i r x _ _ q => no q, fun i j r s _ _ _ q => no q, fun i r _ q => no q⟩ (fun d hd => ?_) (by simp [Ck.rowsG])
  · have := own_new (h := h) (e := t1) (En.l_len (E := eH) rs) hm
    rw [eH_l] at this ⊢
    exact this
  · simp [Ck.rowsG, no_rblk, blkOf] at hd
    omega
/-- All are in. -/
theorem To.rowsAll (hp : ∀ q, q < rs.length → P q = false) : To (Ck.rowsG E P t1 t2 a n c rs xss) (Ck.rows E t1 t2 a n c rs xss) := by
  have lt : ∀ {i : Nat} {r : RowH}, rs[i]? = some r → P i = false := fun h => hp _ (List.getElem?_eq_some_iff.1 h).1
  refine ⟨fun h' R => ⟨R.out, R.ln, R.lx, fun i r x h1 h2 _ => R.row i r x h1 h2 (lt h1), fun i j r s hij h1 h2 _ _ => R.ap i j r s hij h1 h2 (lt h1) (lt h2), fun i r h1 _ => R.na i r h1 (lt h1)⟩, fun d hd => ?_, fun d hd => by simp [Ck.rows, Ck.rowsG] at hd⟩
  simp only [Ck.rows, Ck.rowsG, List.mem_append] at hd ⊢
  refine hd.imp id fun hd => ?_
  obtain ⟨i, s, q1, q2, q3⟩ := mem_rblk.1 hd
  exact mem_rblk.2 ⟨i, s, q1, by rw [Nat.zero_add]; exact lt q1, q3⟩
/-- One's own; behind its end stand others. -/
def Ck.slm (E : En α) (ty : TypeId) (a : Option Addr) (n c : Nat) (xs zs : List α) : Ck :=
  ⟨blkOf a, [], fun h => Ownd h ty E.sz a (n + zs.length) c (E.l (xs ++ zs)) ∧ xs.length = n, fun h o => ⟨o.1.lt, by simp⟩, fun h h' he _ o => ⟨o.1.blk he, o.2⟩⟩
/-- Looked at; behind its end stand others. -/
def Ck.vwm (E : En α) (a : Option Addr) (n c : Nat) (xs zs : List α) : Ck :=
  ⟨[], rdOf a (n + zs.length), fun h => Reads h E.sz a (n + zs.length) (E.l (xs ++ zs)) ∧ xs.length = n ∧ n + zs.length ≤ c ∧ (a = none → c = 0), fun h o => ⟨by simp, o.1.lt E.pos⟩, fun h h' _ he o => ⟨o.1.at2 he, o.2⟩⟩
theorem To.slm (zs : List α) : To (Ck.sl E ty a (n + zs.length) c (xs ++ zs)) (Ck.slm E ty a n c xs zs) :=
  ⟨fun h o => ⟨o.1, by have := o.2; simp at this; omega⟩, fun b hb => hb, fun b hb => by simp [Ck.slm] at hb⟩
theorem To.slmvwm {zs : List α} : To (Ck.slm E ty a n c xs zs) (Ck.vwm E a n c xs zs) :=
  ⟨fun h o => ⟨o.1.reads, o.2, o.1.cap.1, o.1.nc⟩, fun b hb => by simp [Ck.vwm] at hb, fun b hb => .inl (rdOf_sub hb)⟩
theorem To.vwmvw {zs : List α} : To (Ck.vwm E a n c xs zs) (Ck.vw E a n c xs) := by
  refine ⟨fun h o => ⟨?_, o.2.1, by have := o.2.2.1; omega, o.2.2.2⟩, fun b hb => by simp [Ck.vw] at hb, fun b hb => .inr ?_⟩
  · have r := Reads.takeR o.1 n (by omega)
    rwa [List.take_append_of_le_length (by have := o.2.1; omega), List.take_of_length_le (by have := o.2.1; omega)] at r
  · show b ∈ rdOf a (n + zs.length)
    have hb' : b ∈ rdOf a n := hb
    cases n with
    | zero => simp [rdOf] at hb'
    | succ n => rw [Nat.succ_add]; exact hb'
theorem To.slmvw {zs : List α} : To (Ck.slm E ty a n c xs zs) (Ck.vw E a n c xs) := To.slmvwm.trans To.vwmvw
theorem Sy.lenM {zs : List α} (Y : Sy h0 M h cs) (k : Nat) (hk : cs[k]? = some (Ck.slm E ty a n c xs zs)) : n = xs.length := (Y.ok hk).2.symm
theorem Sy.lenN {zs : List α} (Y : Sy h0 M h cs) (k : Nat) (hk : cs[k]? = some (Ck.vwm E a n c xs zs)) : n = xs.length := (Y.ok hk).2.1.symm
end
end Go.X
