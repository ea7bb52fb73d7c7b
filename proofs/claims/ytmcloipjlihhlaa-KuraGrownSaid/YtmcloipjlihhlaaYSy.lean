/- A symbolic heap: chunks that lie apart; what operations and calls make of them. Conditions: none. -/
import Derived.Test.YtmcloipjlihhlaaXU
namespace Go.X

structure En (α : Type) where
  sz : Nat
  enc : α → List Value
  pos : 0 < sz
  len : ∀ x, (enc x).length = sz
  one : ∀ x, ∀ v ∈ enc x, v.oneCell' = true
def En.l {α : Type} (E : En α) : List α → List Value
  | [] => []
  | x :: r => E.enc x ++ E.l r
section
variable {α : Type} {E : En α}
theorem En.l_append : ∀ (xs ys : List α), E.l (xs ++ ys) = E.l xs ++ E.l ys
  | [], ys => rfl
  | x :: xs, ys => by simp [En.l, En.l_append xs ys]
theorem En.l_len : ∀ (xs : List α), (E.l xs).length = xs.length * E.sz
  | [] => by simp [En.l]
  | x :: xs => by simp [En.l, En.l_len xs, E.len, Nat.add_mul]; omega
theorem En.l_one : ∀ (xs : List α), ∀ v ∈ E.l xs, v.oneCell' = true
  | [], v, h => by simp [En.l] at h
  | x :: xs, v, h => by
    simp only [En.l, List.mem_append] at h
    rcases h with h | h
    · exact E.one x v h
    · exact En.l_one xs v h
theorem En.l_get : ∀ {xs : List α} {i t : Nat} {x : α} {v : Value}, xs[i]? = some x → (E.enc x)[t]? = some v → (E.l xs)[i * E.sz + t]? = some v
  | [], i, t, x, v, h, _ => by simp at h
  | y :: xs, 0, t, x, v, h, hv => by
    simp at h; subst h
    have ht : t < (E.enc y).length := (List.getElem?_eq_some_iff.1 hv).1
    simp only [En.l, Nat.zero_mul, Nat.zero_add]
    rw [List.getElem?_append_left ht]; exact hv
  | y :: xs, i + 1, t, x, v, h, hv => by
    simp only [En.l]
    rw [List.getElem?_append_right (by rw [E.len, Nat.add_mul]; omega), E.len]
    have := En.l_get (xs := xs) (i := i) (by simpa using h) hv
    rw [show (i + 1) * E.sz + t - E.sz = i * E.sz + t by rw [Nat.add_mul]; omega]
    exact this
theorem En.l_set : ∀ {xs : List α} {i t : Nat} {x x' : α} {v : Value}, xs[i]? = some x → t < E.sz → E.enc x' = (E.enc x).set t v → (E.l xs).set (i * E.sz + t) v = E.l (xs.set i x')
  | [], i, t, x, x', v, h, _, _ => by simp at h
  | y :: xs, 0, t, x, x', v, h, ht, hv => by
    simp at h; subst h
    simp only [En.l, Nat.zero_mul, Nat.zero_add, List.set_cons_zero]
    rw [List.set_append_left _ _ (by rw [E.len]; exact ht), hv]
  | y :: xs, i + 1, t, x, x', v, h, ht, hv => by
    simp only [En.l, List.set_cons_succ]
    rw [List.set_append_right _ _ (by rw [E.len, Nat.add_mul]; omega), E.len]
    have := En.l_set (xs := xs) (i := i) (by simpa using h) ht hv
    rw [show (i + 1) * E.sz + t - E.sz = i * E.sz + t by rw [Nat.add_mul]; omega, this]
theorem En.l_take : ∀ (xs : List α) (k : Nat), (E.l xs).take (k * E.sz) = E.l (xs.take k)
  | [], k => by simp [En.l]
  | x :: xs, 0 => by simp [En.l]
  | x :: xs, k + 1 => by
    simp only [En.l, List.take_succ_cons]
    rw [List.take_append, E.len, show (k + 1) * E.sz - E.sz = k * E.sz by rw [Nat.add_mul]; omega, En.l_take xs k, List.take_of_length_le (by rw [E.len, Nat.add_mul]; omega)]
theorem En.l_drop : ∀ (xs : List α) (k : Nat), (E.l xs).drop (k * E.sz) = E.l (xs.drop k)
  | [], k => by simp [En.l]
  | x :: xs, 0 => by simp [En.l]
  | x :: xs, k + 1 => by
    simp only [En.l, List.drop_succ_cons]
    rw [List.drop_append, E.len, show (k + 1) * E.sz - E.sz = k * E.sz by rw [Nat.add_mul]; omega, En.l_drop xs k, List.drop_of_length_le (by rw [E.len, Nat.add_mul]; omega), List.nil_append]
end

def eK (k : IntKind) : En Int := ⟨1, fun x => [.int k x], by decide, fun _ => rfl, fun x v h => by simp at h; subst h; rfl⟩
def eI : En Int := ⟨1, fun x => [.int .i64 x], by decide, fun _ => rfl, fun x v h => by simp at h; subst h; rfl⟩
def eB : En Bool := ⟨1, fun x => [.bool x], by decide, fun _ => rfl, fun x v h => by simp at h; subst h; rfl⟩
def eP : En (Int × Int) := ⟨2, fun x => [.int .i64 x.1, .int .i64 x.2], by decide, fun _ => rfl, fun x v h => by simp at h; rcases h with rfl | rfl <;> rfl⟩
def e3 : En (Int × Int × Int) := ⟨3, fun x => [.int .i64 x.1, .int .i64 x.2.1, .int .i64 x.2.2], by decide, fun _ => rfl, fun x v h => by simp at h; rcases h with rfl | rfl | rfl <;> rfl⟩
def e4 : En (Int × Int × Int × Int) := ⟨4, fun x => [.int .i64 x.1, .int .i64 x.2.1, .int .i64 x.2.2.1, .int .i64 x.2.2.2], by decide, fun _ => rfl, fun x v h => by simp at h; rcases h with rfl | rfl | rfl | rfl <;> rfl⟩
structure Ck where
  own : List Nat
  rd : List Nat
  ok : Heap → Prop
  lt : ∀ h, ok h → (∀ b ∈ own, b < h.size) ∧ (∀ b ∈ rd, b < h.size)
  fr : ∀ h h', (∀ b ∈ own, h'[b]? = h[b]?) → (∀ b ∈ rd, h'[b]? = h[b]?) → ok h → ok h'
def Ap (c d : Ck) : Prop := ∀ b ∈ c.own, b ∉ d.own ∧ b ∉ d.rd
structure Hp (h : Heap) (cs : List Ck) : Prop where
  ok : ∀ (k : Nat) (c : Ck), cs[k]? = some c → c.ok h
  ap : ∀ (i j : Nat) (c d : Ck), i ≠ j → cs[i]? = some c → cs[j]? = some d → Ap c d
/-- From h0 to h no old block is touched but those of M; these chunks stand in h; what they own is of M or new. -/
structure Sy (h0 : Heap) (M : List Nat) (h : Heap) (cs : List Ck) : Prop where
  fr : Fr M h0 h
  hp : Hp h cs
  ow : ∀ (k : Nat) (c : Ck), cs[k]? = some c → ∀ b ∈ c.own, b ∈ M ∨ h0.size ≤ b
def owns (cs : List Ck) : List Nat := cs.flatMap Ck.own
theorem Hp.nil (h : Heap) : Hp h [] := ⟨fun k c hk => by simp at hk, fun i j c d _ hc => by simp at hc⟩
theorem Hp.cons {h : Heap} {c : Ck} {cs : List Ck} (hc : c.ok h) (ha : ∀ (k : Nat) (d : Ck), cs[k]? = some d → Ap c d ∧ Ap d c) (H : Hp h cs) : Hp h (c :: cs) := by
  refine ⟨fun k d hk => ?_, fun i j d e hij hd he => ?_⟩
  · cases k with
    | zero => simp at hk; subst hk; exact hc
    | succ k => exact H.ok k d (by simpa using hk)
  · cases i with
    | zero =>
      simp at hd; subst hd
      cases j with
      | zero => exact absurd rfl hij
      | succ j => exact (ha j e (by simpa using he)).1
    | succ i =>
      cases j with
      | zero => simp at he; subst he; exact (ha i d (by simpa using hd)).2
      | succ j => exact H.ap i j d e (by omega) (by simpa using hd) (by simpa using he)
/-- Views beside each other. -/
theorem Hp.view {h : Heap} {c : Ck} {cs : List Ck} (hc : c.ok h) (ho : c.own = []) (H : Hp h cs) (hn : ∀ (k : Nat) (d : Ck), cs[k]? = some d → ∀ b ∈ d.own, b ∉ c.rd) : Hp h (c :: cs) :=
  Hp.cons hc (fun k d hd => ⟨fun b hb => by simp [ho] at hb, fun b hb => ⟨by simp [ho], hn k d hd b hb⟩⟩) H
theorem Hp.one {h : Heap} {c : Ck} (hc : c.ok h) : Hp h [c] := Hp.cons hc (fun k d hd => by simp at hd) (Hp.nil h)
theorem Ck.size_le {c : Ck} {h h' : Heap} (hc : c.ok h) (f : Fr [] h h') : c.ok h' := by
  obtain ⟨l1, l2⟩ := c.lt h hc
  exact c.fr h h' (fun b hb => f.blk b (l1 b hb) (by simp)) (fun b hb => f.blk b (l2 b hb) (by simp)) hc
theorem Sy.start {h : Heap} {cs : List Ck} (H : Hp h cs) : Sy h (owns cs) h cs :=
  ⟨Fr.refl _ _, H, fun k c hk b hb => .inl (by simp only [owns, List.mem_flatMap]; exact ⟨c, List.mem_of_getElem? hk, hb⟩)⟩
section
variable {h0 h h' : Heap} {M : List Nat} {cs : List Ck} {c d : Ck} {i j k : Nat}

theorem Sy.ok (Y : Sy h0 M h cs) (hk : cs[k]? = some c) : c.ok h := Y.hp.ok k c hk
theorem Sy.le (Y : Sy h0 M h cs) : h0.size ≤ h.size := Y.fr.size
/-- The heap has grown. -/
theorem Sy.gr (Y : Sy h0 M h cs) (f : Fr [] h h') : Sy h0 M h' cs :=
  ⟨Y.fr.comp f (by simp), ⟨fun k c hk => Ck.size_le (Y.hp.ok k c hk) f, Y.hp.ap⟩, Y.ow⟩
/-- One chunk is made another one, by what is done to what it owns, or new. -/
theorem Sy.mut (Y : Sy h0 M h cs) (hk : cs[k]? = some c) (c' : Ck) (hs : h.size ≤ h'.size) (hb : ∀ b, b < h.size → b ∉ c.own → h'[b]? = h[b]?) (hc : c'.ok h')
    (ho : ∀ b ∈ c'.own, b ∈ c.own ∨ h.size ≤ b) (hr : ∀ b ∈ c'.rd, b ∈ c.own ∨ b ∈ c.rd ∨ h.size ≤ b) : Sy h0 M h' (cs.set k c') := by
  have hkl := (List.getElem?_eq_some_iff.1 hk).1
  have old : ∀ (i : Nat) (d : Ck), (cs.set k c')[i]? = some d → (i = k ∧ d = c') ∨ (i ≠ k ∧ cs[i]? = some d) := by
    intro i d hd
    rw [List.getElem?_set] at hd
    split at hd
    · rename_i e; subst e; simp [hkl] at hd; exact .inl ⟨rfl, hd.symm⟩
    · rename_i e; exact .inr ⟨fun x => e x.symm, hd⟩
  refine ⟨⟨Nat.le_trans Y.le hs, fun b hb0 hbm => ?_⟩, ⟨fun i d hd => ?_, fun i j d e hij hd he => ?_⟩, fun i d hd b hbo => ?_⟩
  · rw [hb b (Nat.lt_of_lt_of_le hb0 Y.le) fun hbo => ?_]
    · exact Y.fr.blk b hb0 hbm
    · rcases Y.ow k c hk b hbo with q | q
      · exact hbm q
      · omega
  · rcases old i d hd with ⟨rfl, rfl⟩ | ⟨hik, hd⟩
    · exact hc
    · have hok := Y.hp.ok i d hd
      obtain ⟨l1, l2⟩ := d.lt h hok
      exact d.fr h h' (fun b hbd => hb b (l1 b hbd) fun q => (Y.hp.ap k i c d (fun e => hik e.symm) hk hd b q).1 hbd)
        (fun b hbd => hb b (l2 b hbd) fun q => (Y.hp.ap k i c d (fun e => hik e.symm) hk hd b q).2 hbd) hok
  · rcases old i d hd with ⟨e1, e2⟩ | ⟨hik, hd1⟩
    · rcases old j e he with ⟨e3, _⟩ | ⟨hjk, he1⟩
      · exact absurd (e1.trans e3.symm) hij
      · subst e1; subst e2
        intro b hbo
        have hok := Y.hp.ok j e he1
        obtain ⟨l1, l2⟩ := e.lt h hok
        rcases ho b hbo with q | q
        · exact Y.hp.ap i j c e (by omega) hk he1 b q
        · exact ⟨fun q2 => by have := l1 b q2; omega, fun q2 => by have := l2 b q2; omega⟩
    · rcases old j e he with ⟨e1, e2⟩ | ⟨hjk, he1⟩
      · subst e1; subst e2
        intro b hbo
        have hok := Y.hp.ok i d hd1
        obtain ⟨l1, l2⟩ := d.lt h hok
        have a := Y.hp.ap i j d c (by omega) hd1 hk b hbo
        refine ⟨fun q => ?_, fun q => ?_⟩
        · rcases ho b q with q | q
          · exact a.1 q
          · have := l1 b hbo; omega
        · rcases hr b q with q | q | q
          · exact a.1 q
          · exact a.2 q
          · have := l1 b hbo; omega
      · exact Y.hp.ap i j d e hij hd1 he1
  · rcases old i d hd with ⟨rfl, rfl⟩ | ⟨hik, hd⟩
    · rcases ho b hbo with q | q
      · exact Y.ow i c hk b q
      · have := Y.le; exact .inr (by omega)
    · exact Y.ow i d hd b hbo
/-- A chunk says less. -/
def To (c c' : Ck) : Prop := (∀ h, c.ok h → c'.ok h) ∧ (∀ b ∈ c'.own, b ∈ c.own) ∧ (∀ b ∈ c'.rd, b ∈ c.own ∨ b ∈ c.rd)
theorem To.refl (c : Ck) : To c c := ⟨fun _ h => h, fun _ h => h, fun _ h => .inr h⟩
theorem Sy.turn (Y : Sy h0 M h cs) (k : Nat) (hk : cs[k]? = some c) {c' : Ck} (t : To c c') : Sy h0 M h (cs.set k c') :=
  Y.mut hk c' (Nat.le_refl _) (fun _ _ _ => rfl) (t.1 h (Y.ok hk)) (fun b hb => .inl (t.2.1 b hb)) (fun b hb => (t.2.2 b hb).imp id .inl)
/-- A further chunk, new. -/
theorem Sy.add (Y : Sy h0 M h cs) (f : Fr [] h h') (c : Ck) (hc : c.ok h') (ho : ∀ b ∈ c.own, h.size ≤ b) (hr : ∀ b ∈ c.rd, h.size ≤ b) : Sy h0 M h' (cs ++ [c]) := by
  have Y' := Y.gr f
  have old : ∀ (i : Nat) (d : Ck), (cs ++ [c])[i]? = some d → (i = cs.length ∧ d = c) ∨ (i ≠ cs.length ∧ cs[i]? = some d) := by
    intro i d hd
    by_cases hi : i < cs.length
    · rw [List.getElem?_append_left hi] at hd; exact .inr ⟨by omega, hd⟩
    · rw [List.getElem?_append_right (by omega)] at hd
      have hlt := (List.getElem?_eq_some_iff.1 hd).1
      simp at hlt
      have e0 : i - cs.length = 0 := by omega
      rw [e0] at hd; simp at hd
      exact .inl ⟨by omega, hd.symm⟩
  refine ⟨Y'.fr, ⟨fun i d hd => ?_, fun i j d e hij hd he => ?_⟩, fun i d hd b hbo => ?_⟩
  · rcases old i d hd with ⟨rfl, rfl⟩ | ⟨_, hd⟩
    · exact hc
    · exact Y'.hp.ok i d hd
  · rcases old i d hd with ⟨e1, e2⟩ | ⟨hi, hd1⟩
    · rcases old j e he with ⟨e3, _⟩ | ⟨hj, he1⟩
      · exact absurd (e1.trans e3.symm) hij
      · subst e2
        intro b hbo
        obtain ⟨l1, l2⟩ := e.lt h (Y.hp.ok j e he1)
        have := ho b hbo
        exact ⟨fun q => by have := l1 b q; omega, fun q => by have := l2 b q; omega⟩
    · rcases old j e he with ⟨e1, e2⟩ | ⟨hj, he1⟩
      · subst e2
        intro b hbo
        obtain ⟨l1, l2⟩ := d.lt h (Y.hp.ok i d hd1)
        have := l1 b hbo
        exact ⟨fun q => by have := ho b q; omega, fun q => by have := hr b q; omega⟩
      · exact Y'.hp.ap i j d e hij hd1 he1
  · rcases old i d hd with ⟨rfl, rfl⟩ | ⟨_, hd⟩
    · have := ho b hbo; have := Y.le; exact .inr (by omega)
    · exact Y.ow i d hd b hbo
/-- A further chunk that owns nothing and looks at nothing. -/
theorem Sy.addN (Y : Sy h0 M h cs) (c : Ck) (hc : c.ok h) (ho : c.own = []) (hr : c.rd = []) : Sy h0 M h (cs ++ [c]) :=
  Y.add (Fr.refl _ _) c hc (by simp [ho]) (by simp [hr])
/-- Some chunks, in another order. -/
def pk (cs : List Ck) : List Nat → List Ck
  | [] => []
  | i :: r => match cs[i]? with
    | some c => c :: pk cs r
    | none => pk cs r
def chkI (n : Nat) : List Nat → Bool
  | [] => true
  | i :: r => Nat.blt i n && !(r.any (Nat.beq i)) && chkI n r
theorem pk_get : ∀ {l : List Nat} {k : Nat} {c : Ck}, chkI cs.length l = true → (pk cs l)[k]? = some c → ∃ i, l[k]? = some i ∧ cs[i]? = some c
  | [], k, c, _, h => by simp [pk] at h
  | i :: r, k, c, hc, h => by
    simp only [chkI, Bool.and_eq_true] at hc
    have hi : i < cs.length := by simpa using hc.1.1
    simp only [pk, List.getElem?_eq_getElem hi] at h
    cases k with
    | zero => simp at h; subst h; exact ⟨i, rfl, List.getElem?_eq_getElem hi⟩
    | succ k =>
      obtain ⟨j, h1, h2⟩ := pk_get hc.2 (by simpa using h)
      exact ⟨j, by simpa using h1, h2⟩
theorem chkI_nd : ∀ {l : List Nat} {n p q i : Nat}, chkI n l = true → l[p]? = some i → l[q]? = some i → p = q
  | [], _, _, _, _, _, h, _ => by simp at h
  | x :: r, n, p, q, i, hc, hp, hq => by
    simp only [chkI, Bool.and_eq_true, Bool.not_eq_true'] at hc
    have nx : ∀ m, r[m]? ≠ some x := fun m hm => by
      have : r.any (Nat.beq x) = true := List.any_eq_true.2 ⟨x, List.mem_of_getElem? hm, by simp⟩
      rw [hc.1.2] at this; cases this
    cases p with
    | zero =>
      simp at hp; subst hp
      cases q with
      | zero => rfl
      | succ q => exact absurd (by simpa using hq) (nx q)
    | succ p =>
      cases q with
      | zero => simp at hq; subst hq; exact absurd (by simpa using hp) (nx p)
      | succ q => exact congrArg (· + 1) (chkI_nd hc.2 (by simpa using hp) (by simpa using hq))
theorem Hp.pick (H : Hp h cs) (l : List Nat) (hc : chkI cs.length l = true) : Hp h (pk cs l) := by
  refine ⟨fun k c hk => ?_, fun i j c d hij hi hj => ?_⟩
  · obtain ⟨i, _, h2⟩ := pk_get hc hk
    exact H.ok i c h2
  · obtain ⟨p, h1, h2⟩ := pk_get hc hi
    obtain ⟨q, h3, h4⟩ := pk_get hc hj
    exact H.ap p q c d (fun e => hij (by subst e; exact chkI_nd hc h1 h3)) h2 h4
theorem Sy.pick (Y : Sy h0 M h cs) (l : List Nat) (hc : chkI cs.length l = true) : Sy h0 M h (pk cs l) :=
  ⟨Y.fr, Y.hp.pick l hc, fun k c hk b hb => by obtain ⟨i, _, h2⟩ := pk_get hc hk; exact Y.ow i c h2 b hb⟩
/-- No views. -/
def Nv : List Ck → Prop
  | [] => True
  | c :: cs => c.rd = [] ∧ Nv cs
theorem Nv.get : ∀ {cs : List Ck} {k : Nat} {c : Ck}, Nv cs → cs[k]? = some c → c.rd = []
  | [], k, c, _, h => by simp at h
  | d :: cs, 0, c, n, h => by simp at h; subst h; exact n.1
  | d :: cs, k + 1, c, n, h => Nv.get n.2 (by simpa using h)
/-- Behind a call that works on the first chunks. -/
theorem Sy.call {A B cs' : List Ck} (Y : Sy h0 M h (A ++ B)) (P : Sy h (owns A) h' cs') (nv : Nv cs') : Sy h0 M h' (cs' ++ B) := by
  have inA : ∀ b ∈ owns A, ∃ (k : Nat) (c : Ck), (A ++ B)[k]? = some c ∧ k < A.length ∧ b ∈ c.own := by
    intro b hb
    simp only [owns, List.mem_flatMap] at hb
    obtain ⟨c, hc, hb⟩ := hb
    obtain ⟨k, hk, rfl⟩ := List.getElem_of_mem hc
    exact ⟨k, A[k], by rw [List.getElem?_append_left hk]; exact List.getElem?_eq_getElem hk, hk, hb⟩
  have ofB : ∀ (k : Nat) (c : Ck), B[k]? = some c → (A ++ B)[A.length + k]? = some c := by
    intro k c hk; rw [List.getElem?_append_right (by omega)]; simpa using hk
  have okB : ∀ (k : Nat) (c : Ck), B[k]? = some c → c.ok h' := by
    intro k c hk
    have hk' := ofB k c hk
    have hok := Y.hp.ok _ c hk'
    obtain ⟨l1, l2⟩ := c.lt h hok
    refine c.fr h h' (fun b hb => P.fr.blk b (l1 b hb) fun q => ?_) (fun b hb => P.fr.blk b (l2 b hb) fun q => ?_) hok
    · obtain ⟨i, d, h1, h2, h3⟩ := inA b q
      exact (Y.hp.ap i (A.length + k) d c (by omega) h1 hk' b h3).1 hb
    · obtain ⟨i, d, h1, h2, h3⟩ := inA b q
      exact (Y.hp.ap i (A.length + k) d c (by omega) h1 hk' b h3).2 hb
  have parts : ∀ (k : Nat) (c : Ck), (cs' ++ B)[k]? = some c → (k < cs'.length ∧ cs'[k]? = some c) ∨ (cs'.length ≤ k ∧ B[k - cs'.length]? = some c) := by
    intro k c hk
    by_cases hl : k < cs'.length
    · rw [List.getElem?_append_left hl] at hk; exact .inl ⟨hl, hk⟩
    · rw [List.getElem?_append_right (by omega)] at hk; exact .inr ⟨by omega, hk⟩
  -- what a chunk of the callee owns is of A, or new
  have own' : ∀ (k : Nat) (c : Ck), cs'[k]? = some c → ∀ b ∈ c.own, b ∈ owns A ∨ h.size ≤ b := P.ow
  refine ⟨Y.fr.comp P.fr fun b hb => ?_, ⟨fun k c hk => ?_, fun i j c d hij hi hj => ?_⟩, fun k c hk b hb => ?_⟩
  · obtain ⟨i, d, h1, _, h3⟩ := inA b hb
    exact Y.ow i d h1 b h3
  · rcases parts k c hk with ⟨_, hk⟩ | ⟨_, hk⟩
    · exact P.hp.ok k c hk
    · exact okB _ c hk
  · rcases parts i c hi with ⟨hl, hi⟩ | ⟨hl, hi⟩
    · rcases parts j d hj with ⟨hl2, hj⟩ | ⟨hl2, hj⟩
      · exact P.hp.ap i j c d hij hi hj
      · intro b hb
        have hj' := ofB _ d hj
        obtain ⟨l1, l2⟩ := d.lt h (Y.hp.ok _ d hj')
        rcases own' i c hi b hb with q | q
        · obtain ⟨p, e, h1, h2, h3⟩ := inA b q
          exact Y.hp.ap p _ e d (by omega) h1 hj' b h3
        · exact ⟨fun x => by have := l1 b x; omega, fun x => by have := l2 b x; omega⟩
    · rcases parts j d hj with ⟨hl2, hj⟩ | ⟨hl2, hj⟩
      · intro b hb
        have hi' := ofB _ c hi
        obtain ⟨l1, l2⟩ := c.lt h (Y.hp.ok _ c hi')
        have hbl := l1 b hb
        refine ⟨fun x => ?_, fun x => ?_⟩
        · rcases own' j d hj b x with q | q
          · obtain ⟨p, e, h1, h2, h3⟩ := inA b q
            exact (Y.hp.ap p _ e c (by omega) h1 hi' b h3).1 hb
          · omega
        · rw [nv.get hj] at x; simp at x
      · exact Y.hp.ap _ _ c d (by omega) (ofB _ c hi) (ofB _ d hj)
  · rcases parts k c hk with ⟨_, hk⟩ | ⟨_, hk⟩
    · rcases own' k c hk b hb with q | q
      · obtain ⟨i, d, h1, _, h3⟩ := inA b q
        exact Y.ow i d h1 b h3
      · have := Y.le; exact .inr (by omega)
    · exact Y.ow _ c (ofB _ c hk) b hb
end

end Go.X
