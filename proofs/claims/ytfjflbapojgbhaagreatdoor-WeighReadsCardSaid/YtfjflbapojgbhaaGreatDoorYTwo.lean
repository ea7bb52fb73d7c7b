/- A symbolic heap: chunks that lie apart; what operations and calls make of them. Conditions: none. -/
import Derived.Test.YtfjflbapojgbhaaGreatDoorXU
namespace Go.X

structure En (α : Type) where
  sz : Nat
  enc : α → List Value
  pos : 0 < sz
  len : ∀ x, (enc x).length = sz
  one : ∀ x, ∀ v ∈ enc x, v.oneCell' = true
def En.l {α : Type} (E : En α) : List α → List Value
  | [] => []
  | x :: r => E.enc x ++ E.l r
section
variable {α : Type} {E : En α}
theorem En.l_append : ∀ (xs ys : List α), E.l (xs ++ ys) = E.l xs ++ E.l ys
  | [], ys => rfl
  | x :: xs, ys => by simp [En.l, En.l_append xs ys]
theorem En.l_len : ∀ (xs : List α), (E.l xs).length = xs.length * E.sz
  | [] => by simp [En.l]
  | x :: xs => by simp [En.l, En.l_len xs, E.len, Nat.add_mul]; omega
theorem En.l_one : ∀ (xs : List α), ∀ v ∈ E.l xs, v.oneCell' = true
  | [], v, h => by simp [En.l] at h
  | x :: xs, v, h => by
    simp only [En.l, List.mem_append] at h
    rcases h with h | h
    · exact E.one x v h
    · exact En.l_one xs v h
theorem En.l_get : ∀ {xs : List α} {i t : Nat} {x : α} {v : Value}, xs[i]? = some x → (E.enc x)[t]? = some v → (E.l xs)[i * E.sz + t]? = some v
  | [], i, t, x, v, h, _ => by simp at h
  | y :: xs, 0, t, x, v, h, hv => by
    simp at h; subst h
    have ht : t < (E.enc y).length := (List.getElem?_eq_some_iff.1 hv).1
    simp only [En.l, Nat.zero_mul, Nat.zero_add]
    rw [List.getElem?_append_left ht]; exact hv
  | y :: xs, i + 1, t, x, v, h, hv => by
    simp only [En.l]
    rw [List.getElem?_append_right (by rw [E.len, Nat.add_mul]; omega), E.len]
    have := En.l_get (xs := xs) (i := i) (by simpa using h) hv
    rw [show (i + 1) * E.sz + t - E.sz = i * E.sz + t by rw [Nat.add_mul]; omega]
    exact this
theorem En.l_set : ∀ {xs : List α} {i t : Nat} {x x' : α} {v : Value}, xs[i]? = some x → t < E.sz → E.enc x' = (E.enc x).set t v → (E.l xs).set (i * E.sz + t) v = E.l (xs.set i x')
  | [], i, t, x, x', v, h, _, _ => by simp at h
  | y :: xs, 0, t, x, x', v, h, ht, hv => by
    simp at h; subst h
    simp only [En.l, Nat.zero_mul, Nat.zero_add, List.set_cons_zero]
    rw [List.set_append_left _ _ (by rw [E.len]; exact ht), hv]
  | y :: xs, i + 1, t, x, x', v, h, ht, hv => by
    simp only [En.l, List.set_cons_succ]
    rw [List.set_append_right _ _ (by rw [E.len, Nat.add_mul]; omega), E.len]
    have := En.l_set (xs := xs) (i := i) (by simpa using h) ht hv
    rw [show (i + 1) * E.sz + t - E.sz = i * E.sz + t by rw [Nat.add_mul]; omega, this]
theorem En.l_take : ∀ (xs : List α) (k : Nat), (E.l xs).take (k * E.sz) = E.l (xs.take k)
  | [], k => by simp [En.l]
  | x :: xs, 0 => by simp [En.l]
  | x :: xs, k + 1 => by
    simp only [En.l, List.take_succ_cons]
    rw [List.take_append, E.len, show (k + 1) * E.sz - E.sz = k * E.sz by rw [Nat.add_mul]; omega, En.l_take xs k, List.take_of_length_le (by rw [E.len, Nat.add_mul]; omega)]
theorem En.l_drop : ∀ (xs : List α) (k : Nat), (E.l xs).drop (k * E.sz) = E.l (xs.drop k)
  | [], k => by simp [En.l]
  | x :: xs, 0 => by simp [En.l]
  | x :: xs, k + 1 => by
    simp only [En.l, List.drop_succ_cons]
    rw [List.drop_append, E.len, show (k + 1) * E.sz - E.sz = k * E.sz by rw [Nat.add_mul]; omega, En.l_drop xs k, List.drop_of_length_le (by rw [E.len, Nat.add_mul]; omega), List.nil_append]
end

def eK (k : IntKind) : En Int := ⟨1, fun x => [.int k x], by decide, fun _ => rfl, fun x v h => by simp at h; subst h; rfl⟩
def eI : En Int := ⟨1, fun x => [.int .i64 x], by decide, fun _ => rfl, fun x v h => by simp at h; subst h; rfl⟩
def eB : En Bool := ⟨1, fun x => [.bool x], by decide, fun _ => rfl, fun x v h => by simp at h; subst h; rfl⟩
def eS : En ByteArray := ⟨1, fun x => [.string x], by decide, fun _ => rfl, fun x v h => by simp at h; subst h; rfl⟩
def eP : En (Int × Int) := ⟨2, fun x => [.int .i64 x.1, .int .i64 x.2], by decide, fun _ => rfl, fun x v h => by simp at h; rcases h with rfl | rfl <;> rfl⟩
def e3 : En (Int × Int × Int) := ⟨3, fun x => [.int .i64 x.1, .int .i64 x.2.1, .int .i64 x.2.2], by decide, fun _ => rfl, fun x v h => by simp at h; rcases h with rfl | rfl | rfl <;> rfl⟩
def e4 : En (Int × Int × Int × Int) := ⟨4, fun x => [.int .i64 x.1, .int .i64 x.2.1, .int .i64 x.2.2.1, .int .i64 x.2.2.2], by decide, fun _ => rfl, fun x v h => by simp at h; rcases h with rfl | rfl | rfl | rfl <;> rfl⟩
def e2B : En (Int × Int × Bool) := ⟨3, fun x => [.int .i64 x.1, .int .i64 x.2.1, .bool x.2.2], by decide, fun _ => rfl, fun x v h => by simp at h; rcases h with rfl | rfl | rfl <;> rfl⟩
structure Ck where
  own : List Nat
  rd : List Nat
  ok : Heap → Prop
  lt : ∀ h, ok h → (∀ b ∈ own, b < h.size) ∧ (∀ b ∈ rd, b < h.size)
  fr : ∀ h h', (∀ b ∈ own, h'[b]? = h[b]?) → (∀ b ∈ rd, h'[b]? = h[b]?) → ok h → ok h'
def Ap (c d : Ck) : Prop := ∀ b ∈ c.own, b ∉ d.own ∧ b ∉ d.rd
structure Hp (h : Heap) (cs : List Ck) : Prop where
  ok : ∀ (k : Nat) (c : Ck), cs[k]? = some c → c.ok h
  ap : ∀ (i j : Nat) (c d : Ck), i ≠ j → cs[i]? = some c → cs[j]? = some d → Ap c d
/-- From h0 to h no old block is touched but those of M; these chunks stand in h; what they own is of M or new. -/
structure Sy (h0 : Heap) (M : List Nat) (h : Heap) (cs : List Ck) : Prop where
  fr : Fr M h0 h
  hp : Hp h cs
  ow : ∀ (k : Nat) (c : Ck), cs[k]? = some c → ∀ b ∈ c.own, b ∈ M ∨ h0.size ≤ b
def owns (cs : List Ck) : List Nat := cs.flatMap Ck.own
theorem Hp.nil (h : Heap) : Hp h [] := ⟨fun k c hk => by simp at hk, fun i j c d _ hc => by simp at hc⟩
theorem Hp.cons {h : Heap} {c : Ck} {cs : List Ck} (hc : c.ok h) (ha : ∀ (k : Nat) (d : Ck), cs[k]? = some d → Ap c d ∧ Ap d c) (H : Hp h cs) : Hp h (c :: cs) := by
  refine ⟨fun k d hk => ?_, fun i j d e hij hd he => ?_⟩
  · cases k with
    | zero => simp at hk; subst hk; exact hc
    | succ k => exact H.ok k d (by simpa using hk)
  · cases i with
    | zero =>
      simp at hd; subst hd
      cases j with
      | zero => exact absurd rfl hij
      | succ j => exact (ha j e (by simpa using he)).1
    | succ i =>
      cases j with
      | zero => simp at he; subst he; exact (ha i d (by simpa using hd)).2
      | succ j => exact H.ap i j d e (by omega) (by simpa using hd) (by simpa using he)
/-- Views beside each other. -/
theorem Hp.view {h : Heap} {c : Ck} {cs : List Ck} (hc : c.ok h) (ho : c.own = []) (H : Hp h cs) (hn : ∀ (k : Nat) (d : Ck), cs[k]? = some d → ∀ b ∈ d.own, b ∉ c.rd) : Hp h (c :: cs) :=
  Hp.cons hc (fun k d hd => ⟨fun b hb => by simp [ho] at hb, fun b hb => ⟨by simp [ho], hn k d hd b hb⟩⟩) H
theorem Hp.one {h : Heap} {c : Ck} (hc : c.ok h) : Hp h [c] := Hp.cons hc (fun k d hd => by simp at hd) (Hp.nil h)
theorem Ck.size_le {c : Ck} {h h' : Heap} (hc : c.ok h) (f : Fr [] h h') : c.ok h' := by
  obtain ⟨l1, l2⟩ := c.lt h hc
  exact c.fr h h' (fun b hb => f.blk b (l1 b hb) (by simp)) (fun b hb => f.blk b (l2 b hb) (by simp)) hc
theorem Sy.start {h : Heap} {cs : List Ck} (H : Hp h cs) : Sy h (owns cs) h cs :=
  ⟨Fr.refl _ _, H, fun k c hk b hb => .inl (by simp only [owns, List.mem_flatMap]; exact ⟨c, List.mem_of_getElem? hk, hb⟩)⟩
section
variable {h0 h h' : Heap} {M : List Nat} {cs : List Ck} {c d : Ck} {i j k : Nat}

theorem Sy.ok (Y : Sy h0 M h cs) (hk : cs[k]? = some c) : c.ok h := Y.hp.ok k c hk
theorem Sy.le (Y : Sy h0 M h cs) : h0.size ≤ h.size := Y.fr.size
/-- The heap has grown. -/
theorem Sy.gr (Y : Sy h0 M h cs) (f : Fr [] h h') : Sy h0 M h' cs :=
  ⟨Y.fr.comp f (by simp), ⟨fun k c hk => Ck.size_le (Y.hp.ok k c hk) f, Y.hp.ap⟩, Y.ow⟩
/-- One chunk is made another one, by what is done to what it owns, or new. -/
theorem Sy.mut (Y : Sy h0 M h cs) (hk : cs[k]? = some c) (c' : Ck) (hs : h.size ≤ h'.size) (hb : ∀ b, b < h.size → b ∉ c.own → h'[b]? = h[b]?) (hc : c'.ok h')
    (ho : ∀ b ∈ c'.own, b ∈ c.own ∨ h.size ≤ b) (hr : ∀ b ∈ c'.rd, b ∈ c.own ∨ b ∈ c.rd ∨ h.size ≤ b) : Sy h0 M h' (cs.set k c') := by
  have hkl := (List.getElem?_eq_some_iff.1 hk).1
  have old : ∀ (i : Nat) (d : Ck), (cs.set k c')[i]? = some d → (i = k ∧ d = c') ∨ (i ≠ k ∧ cs[i]? = some d) := by
    intro i d hd
    rw [List.getElem?_set] at hd
    split at hd
    · rename_i e; subst e; simp [hkl] at hd; exact .inl ⟨rfl, hd.symm⟩
    · rename_i e; exact .inr ⟨fun x => e x.symm, hd⟩
  refine ⟨⟨Nat.le_trans Y.le hs, fun b hb0 hbm => ?_⟩, ⟨fun i d hd => ?_, fun i j d e hij hd he => ?_⟩, fun i d hd b hbo => ?_⟩
  · rw [hb b (Nat.lt_of_lt_of_le hb0 Y.le) fun hbo => ?_]
    · exact Y.fr.blk b hb0 hbm
    · rcases Y.ow k c hk b hbo with q | q
      · exact hbm q
      · omega
  · rcases old i d hd with ⟨rfl, rfl⟩ | ⟨hik, hd⟩
    · exact hc
    · have hok := Y.hp.ok i d hd
      obtain ⟨l1, l2⟩ := d.lt h hok
      exact d.fr h h' (fun b hbd => hb b (l1 b hbd) fun q => (Y.hp.ap k i c d (fun e => hik e.symm) hk hd b q).1 hbd)
        (fun b hbd => hb b (l2 b hbd) fun q => (Y.hp.ap k i c d (fun e => hik e.symm) hk hd b q).2 hbd) hok
  · rcases old i d hd with ⟨e1, e2⟩ | ⟨hik, hd1⟩
    · rcases old j e he with ⟨e3, _⟩ | ⟨hjk, he1⟩
      · exact absurd (e1.trans e3.symm) hij
      · subst e1; subst e2
        intro b hbo
        have hok := Y.hp.ok j e he1
        obtain ⟨l1, l2⟩ := e.lt h hok
        rcases ho b hbo with q | q
        · exact Y.hp.ap i j c e (by omega) hk he1 b q
        · exact ⟨fun q2 => by have := l1 b q2; omega, fun q2 => by have := l2 b q2; omega⟩
    · rcases old j e he with ⟨e1, e2⟩ | ⟨hjk, he1⟩
      · subst e1; subst e2
        intro b hbo
        have hok := Y.hp.ok i d hd1
        obtain ⟨l1, l2⟩ := d.lt h hok
        have a := Y.hp.ap i j d c (by omega) hd1 hk b hbo
        refine ⟨fun q => ?_, fun q => ?_⟩
        · rcases ho b q with q | q
          · exact a.1 q
          · have := l1 b hbo; omega
        · rcases hr b q with q | q | q
          · exact a.1 q
          · exact a.2 q
          · have := l1 b hbo; omega
      · exact Y.hp.ap i j d e hij hd1 he1
  · rcases old i d hd with ⟨rfl, rfl⟩ | ⟨hik, hd⟩
    · rcases ho b hbo with q | q
      · exact Y.ow i c hk b q
      · have := Y.le; exact .inr (by omega)
    · exact Y.ow i d hd b hbo
/-- A chunk says less. -/
def To (c c' : Ck) : Prop := (∀ h, c.ok h → c'.ok h) ∧ (∀ b ∈ c'.own, b ∈ c.own) ∧ (∀ b ∈ c'.rd, b ∈ c.own ∨ b ∈ c.rd)
theorem To.refl (c : Ck) : To c c := ⟨fun _ h => h, fun _ h => h, fun _ h => .inr h⟩
theorem Sy.turn (Y : Sy h0 M h cs) (k : Nat) (hk : cs[k]? = some c) {c' : Ck} (t : To c c') : Sy h0 M h (cs.set k c') :=
  Y.mut hk c' (Nat.le_refl _) (fun _ _ _ => rfl) (t.1 h (Y.ok hk)) (fun b hb => .inl (t.2.1 b hb)) (fun b hb => (t.2.2 b hb).imp id .inl)
/-- A further chunk, new. -/
theorem Sy.add (Y : Sy h0 M h cs) (f : Fr [] h h') (c : Ck) (hc : c.ok h') (ho : ∀ b ∈ c.own, h.size ≤ b) (hr : ∀ b ∈ c.rd, h.size ≤ b) : Sy h0 M h' (cs ++ [c]) := by
  have Y' := Y.gr f
  have old : ∀ (i : Nat) (d : Ck), (cs ++ [c])[i]? = some d → (i = cs.length ∧ d = c) ∨ (i ≠ cs.length ∧ cs[i]? = some d) := by
    intro i d hd
    by_cases hi : i < cs.length
    · rw [List.getElem?_append_left hi] at hd; exact .inr ⟨by omega, hd⟩
    · rw [List.getElem?_append_right (by omega)] at hd
      have hlt := (List.getElem?_eq_some_iff.1 hd).1
      simp at hlt
      have e0 : i - cs.length = 0 := by omega
      rw [e0] at hd; simp at hd
      exact .inl ⟨by omega, hd.symm⟩
  refine ⟨Y'.fr, ⟨fun i d hd => ?_, fun i j d e hij hd he => ?_⟩, fun i d hd b hbo => ?_⟩
  · rcases old i d hd with ⟨rfl, rfl⟩ | ⟨_, hd⟩
    · exact hc
    · exact Y'.hp.ok i d hd
  · rcases old i d hd with ⟨e1, e2⟩ | ⟨hi, hd1⟩
    · rcases old j e he with ⟨e3, _⟩ | ⟨hj, he1⟩
      · exact absurd (e1.trans e3.symm) hij
      · subst e2
        intro b hbo
        obtain ⟨l1, l2⟩ := e.lt h (Y.hp.ok j e he1)
        have := ho b hbo
        exact ⟨fun q => by have := l1 b q; omega, fun q => by have := l2 b q; omega⟩
    · rcases old j e he with ⟨e1, e2⟩ | ⟨hj, he1⟩
      · subst e2
        intro b hbo
        obtain ⟨l1, l2⟩ := d.lt h (Y.hp.ok i d hd1)
        have := l1 b hbo
        exact ⟨fun q => by have := ho b q; omega, fun q => by have := hr b q; omega⟩
      · exact Y'.hp.ap i j d e hij hd1 he1
  · rcases old i d hd with ⟨rfl, rfl⟩ | ⟨_, hd⟩
    · have := ho b hbo; have := Y.le; exact .inr (by omega)
    · exact Y.ow i d hd b hbo
/-- A further chunk that owns nothing and looks at nothing. -/
theorem Sy.addN (Y : Sy h0 M h cs) (c : Ck) (hc : c.ok h) (ho : c.own = []) (hr : c.rd = []) : Sy h0 M h (cs ++ [c]) :=
  Y.add (Fr.refl _ _) c hc (by simp [ho]) (by simp [hr])
/-- Some chunks, in another order. -/
def pk (cs : List Ck) : List Nat → List Ck
  | [] => []
  | i :: r => match cs[i]? with
    | some c => c :: pk cs r
    | none => pk cs r
def chkI (n : Nat) : List Nat → Bool
  | [] => true
  | i :: r => Nat.blt i n && !(r.any (Nat.beq i)) && chkI n r
theorem pk_get : ∀ {l : List Nat} {k : Nat} {c : Ck}, chkI cs.length l = true → (pk cs l)[k]? = some c → ∃ i, l[k]? = some i ∧ cs[i]? = some c
  | [], k, c, _, h => by simp [pk] at h
  | i :: r, k, c, hc, h => by
    simp only [chkI, Bool.and_eq_true] at hc
    have hi : i < cs.length := by simpa using hc.1.1
    simp only [pk, List.getElem?_eq_getElem hi] at h
    cases k with
    | zero => simp at h; subst h; exact ⟨i, rfl, List.getElem?_eq_getElem hi⟩
    | succ k =>
      obtain ⟨j, h1, h2⟩ := pk_get hc.2 (by simpa using h)
      exact ⟨j, by simpa using h1, h2⟩
theorem chkI_nd : ∀ {l : List Nat} {n p q i : Nat}, chkI n l = true → l[p]? = some i → l[q]? = some i → p = q
  | [], _, _, _, _, _, h, _ => by simp at h
  | x :: r, n, p, q, i, hc, hp, hq => by
    simp only [chkI, Bool.and_eq_true, Bool.not_eq_true'] at hc
    have nx : ∀ m, r[m]? ≠ some x := fun m hm => by
      have : r.any (Nat.beq x) = true := List.any_eq_true.2 ⟨x, List.mem_of_getElem? hm, by simp⟩
      rw [hc.1.2] at this; cases this
    cases p with
    | zero =>
      simp at hp; subst hp
      cases q with
      | zero => rfl
      | succ q => exact absurd (by simpa using hq) (nx q)
    | succ p =>
      cases q with
      | zero => simp at hq; subst hq; exact absurd (by simpa using hp) (nx p)
      | succ q => exact congrArg (· + 1) (chkI_nd hc.2 (by simpa using hp) (by simpa using hq))
theorem Hp.pick (H : Hp h cs) (l : List Nat) (hc : chkI cs.length l = true) : Hp h (pk cs l) := by
  refine ⟨fun k c hk => ?_, fun i j c d hij hi hj => ?_⟩
  · obtain ⟨i, _, h2⟩ := pk_get hc hk
    exact H.ok i c h2
  · obtain ⟨p, h1, h2⟩ := pk_get hc hi
    obtain ⟨q, h3, h4⟩ := pk_get hc hj
    exact H.ap p q c d (fun e => hij (by subst e; exact chkI_nd hc h1 h3)) h2 h4
theorem Sy.pick (Y : Sy h0 M h cs) (l : List Nat) (hc : chkI cs.length l = true) : Sy h0 M h (pk cs l) :=
  ⟨Y.fr, Y.hp.pick l hc, fun k c hk b hb => by obtain ⟨i, _, h2⟩ := pk_get hc hk; exact Y.ow i c h2 b hb⟩
/-- No views. -/
def Nv : List Ck → Prop
  | [] => True
  | c :: cs => c.rd = [] ∧ Nv cs
theorem Nv.get : ∀ {cs : List Ck} {k : Nat} {c : Ck}, Nv cs → cs[k]? = some c → c.rd = []
  | [], k, c, _, h => by simp at h
  | d :: cs, 0, c, n, h => by simp at h; subst h; exact n.1
  | d :: cs, k + 1, c, n, h => Nv.get n.2 (by simpa using h)
/-- Behind a call that works on the first chunks. -/
theorem Sy.call {A B cs' : List Ck} (Y : Sy h0 M h (A ++ B)) (P : Sy h (owns A) h' cs') (nv : Nv cs') : Sy h0 M h' (cs' ++ B) := by
  have inA : ∀ b ∈ owns A, ∃ (k : Nat) (c : Ck), (A ++ B)[k]? = some c ∧ k < A.length ∧ b ∈ c.own := by
    intro b hb
    simp only [owns, List.mem_flatMap] at hb
    obtain ⟨c, hc, hb⟩ := hb
    obtain ⟨k, hk, rfl⟩ := List.getElem_of_mem hc
    exact ⟨k, A[k], by rw [List.getElem?_append_left hk]; exact List.getElem?_eq_getElem hk, hk, hb⟩
  have ofB : ∀ (k : Nat) (c : Ck), B[k]? = some c → (A ++ B)[A.length + k]? = some c := by
    intro k c hk; rw [List.getElem?_append_right (by omega)]; simpa using hk
  have okB : ∀ (k : Nat) (c : Ck), B[k]? = some c → c.ok h' := by
    intro k c hk
    have hk' := ofB k c hk
    have hok := Y.hp.ok _ c hk'
    obtain ⟨l1, l2⟩ := c.lt h hok
    refine c.fr h h' (fun b hb => P.fr.blk b (l1 b hb) fun q => ?_) (fun b hb => P.fr.blk b (l2 b hb) fun q => ?_) hok
    · obtain ⟨i, d, h1, h2, h3⟩ := inA b q
      exact (Y.hp.ap i (A.length + k) d c (by omega) h1 hk' b h3).1 hb
    · obtain ⟨i, d, h1, h2, h3⟩ := inA b q
      exact (Y.hp.ap i (A.length + k) d c (by omega) h1 hk' b h3).2 hb
  have parts : ∀ (k : Nat) (c : Ck), (cs' ++ B)[k]? = some c → (k < cs'.length ∧ cs'[k]? = some c) ∨ (cs'.length ≤ k ∧ B[k - cs'.length]? = some c) := by
    intro k c hk
    by_cases hl : k < cs'.length
    · rw [List.getElem?_append_left hl] at hk; exact .inl ⟨hl, hk⟩
    · rw [List.getElem?_append_right (by omega)] at hk; exact .inr ⟨by omega, hk⟩
  -- what a chunk of the callee owns is of A, or new
  have own' : ∀ (k : Nat) (c : Ck), cs'[k]? = some c → ∀ b ∈ c.own, b ∈ owns A ∨ h.size ≤ b := P.ow
  refine ⟨Y.fr.comp P.fr fun b hb => ?_, ⟨fun k c hk => ?_, fun i j c d hij hi hj => ?_⟩, fun k c hk b hb => ?_⟩
  · obtain ⟨i, d, h1, _, h3⟩ := inA b hb
    exact Y.ow i d h1 b h3
  · rcases parts k c hk with ⟨_, hk⟩ | ⟨_, hk⟩
    · exact P.hp.ok k c hk
    · exact okB _ c hk
  · rcases parts i c hi with ⟨hl, hi⟩ | ⟨hl, hi⟩
    · rcases parts j d hj with ⟨hl2, hj⟩ | ⟨hl2, hj⟩
      · exact P.hp.ap i j c d hij hi hj
      · intro b hb
        have hj' := ofB _ d hj
        obtain ⟨l1, l2⟩ := d.lt h (Y.hp.ok _ d hj')
        rcases own' i c hi b hb with q | q
        · obtain ⟨p, e, h1, h2, h3⟩ := inA b q
          exact Y.hp.ap p _ e d (by omega) h1 hj' b h3
        · exact ⟨fun x => by have := l1 b x; omega, fun x => by have := l2 b x; omega⟩
    · rcases parts j d hj with ⟨hl2, hj⟩ | ⟨hl2, hj⟩
      · intro b hb
        have hi' := ofB _ c hi
        obtain ⟨l1, l2⟩ := c.lt h (Y.hp.ok _ c hi')
        have hbl := l1 b hb
        refine ⟨fun x => ?_, fun x => ?_⟩
        · rcases own' j d hj b x with q | q
          · obtain ⟨p, e, h1, h2, h3⟩ := inA b q
            exact (Y.hp.ap p _ e c (by omega) h1 hi' b h3).1 hb
          · omega
        · rw [nv.get hj] at x; simp at x
      · exact Y.hp.ap _ _ c d (by omega) (ofB _ c hi) (ofB _ d hj)
  · rcases parts k c hk with ⟨_, hk⟩ | ⟨_, hk⟩
    · rcases own' k c hk b hb with q | q
      · obtain ⟨i, d, h1, _, h3⟩ := inA b q
        exact Y.ow i d h1 b h3
      · have := Y.le; exact .inr (by omega)
    · exact Y.ow _ c (ofB _ c hk) b hb
end

end Go.X

/- The chunks: slices of one's own, views, slices of slices, blocks behind pointers; what reads and writes make of them. Conditions: none. -/
namespace Go.X

theorem some_blk {h h' : Heap} {b : Nat} (hb : b < h.size) (e : h'[b]? = h[b]?) : b < h'.size := by
  rw [Array.getElem?_eq_getElem hb] at e
  exact (Array.getElem?_eq_some_iff.1 e).1
def rdOf (a : Option Addr) : Nat → List Nat
  | 0 => []
  | _ + 1 => blkOf a
theorem rdOf_sub {a : Option Addr} {n b : Nat} (h : b ∈ rdOf a n) : b ∈ blkOf a := by
  cases n with
  | zero => simp [rdOf] at h
  | succ n => exact h
theorem rd_mem {a : Option Addr} {b o n : Nat} (e : a = some ⟨b, o, none⟩) (hn : 0 < n) : b ∈ rdOf a n := by
  cases n with
  | zero => omega
  | succ n => simp [rdOf, e, blkOf]
theorem Reads.lt {h : Heap} {sz n : Nat} {a : Option Addr} {xs : List Value} (r : Reads h sz a n xs) (hs : 0 < sz) : ∀ b ∈ rdOf a n, b < h.size := by
  intro b hb
  cases n with
  | zero => simp [rdOf] at hb
  | succ n =>
    rcases r.2 with ⟨_, h0⟩ | ⟨b', o, e, hc⟩
    · omega
    · subst e
      simp [rdOf, blkOf] at hb; subst hb
      have hl : 0 < xs.length := by rw [r.1]; exact Nat.mul_pos (by omega) hs
      exact hcell_lt (hc 0 _ (List.getElem?_eq_getElem hl))
theorem Reads.at2 {h h' : Heap} {sz n : Nat} {a : Option Addr} {xs : List Value} (r : Reads h sz a n xs) (he : ∀ b ∈ rdOf a n, h'[b]? = h[b]?) : Reads h' sz a n xs := by
  obtain ⟨h1, h2⟩ := r
  refine ⟨h1, h2.imp id ?_⟩
  rintro ⟨b, o, rfl, h3⟩
  refine ⟨b, o, rfl, fun j v hj => ?_⟩
  rw [hcell_congr (he b ?_)]
  · exact h3 j v hj
  · cases n with
    | zero => simp at h1; subst h1; simp at hj
    | succ n => simp [rdOf, blkOf]
/-- Laid, and nothing told of it. -/
def Ck.junk (b : Nat) : Ck := ⟨[b], [], fun h => b < h.size, fun h hb => ⟨by simpa using hb, by simp⟩, fun h h' he _ hb => some_blk hb (he b (by simp))⟩
/-- Nothing. -/
def Ck.no : Ck := ⟨[], [], fun _ => True, fun _ _ => ⟨by simp, by simp⟩, fun _ _ _ _ _ => trivial⟩
/-- A slice of one's own. -/
def Ck.sl {α : Type} (E : En α) (ty : TypeId) (a : Option Addr) (n c : Nat) (xs : List α) : Ck :=
  ⟨blkOf a, [], fun h => Ownd h ty E.sz a n c (E.l xs) ∧ xs.length = n, fun h o => ⟨o.1.lt, by simp⟩, fun h h' he _ o => ⟨o.1.blk he, o.2⟩⟩
/-- A slice that is only looked at. -/
def Ck.vw {α : Type} (E : En α) (a : Option Addr) (n c : Nat) (xs : List α) : Ck :=
  ⟨[], rdOf a n, fun h => Reads h E.sz a n (E.l xs) ∧ xs.length = n ∧ n ≤ c ∧ (a = none → c = 0), fun h o => ⟨by simp, o.1.lt E.pos⟩, fun h h' _ he o => ⟨o.1.at2 he, o.2⟩⟩
/-- A block behind a pointer, one's own. -/
def Ck.ob (b : Nat) (ty : TypeId) (cells : List Value) : Ck :=
  ⟨[b], [], fun h => h[b]? = some (.cells cells.toArray ty (0, 0)), fun h o => ⟨by simpa using blk_lt o, by simp⟩, fun h h' he _ o => (he b (by simp)).trans o⟩
/-- Cells behind a pointer that are only looked at. -/
def Ck.vob (b o : Nat) (cells : List Value) : Ck :=
  ⟨[], [b], fun h => b < h.size ∧ ∀ (j : Nat) (v : Value), cells[j]? = some v → hcell h b (o + j) = some v, fun h o => ⟨by simp, by simpa using o.1⟩,
    fun h h' _ he o => ⟨some_blk o.1 (he b (by simp)), fun j v hj => by rw [hcell_congr (he b (by simp))]; exact o.2 j v hj⟩⟩
structure RowH where
  a : Option Addr
  n : Nat
  c : Nat
def RowH.val (r : RowH) : Value := .slice r.a r.n r.c
/-- The blocks of the rows that are in. -/
def rblk (P : Nat → Bool) : Nat → List RowH → List Nat
  | _, [] => []
  | i, r :: rs => (match P i with
    | true => []
    | false => blkOf r.a) ++ rblk P (i + 1) rs
theorem mem_rblk {P : Nat → Bool} : ∀ {rs : List RowH} {i b : Nat}, b ∈ rblk P i rs ↔ ∃ (j : Nat) (r : RowH), rs[j]? = some r ∧ P (i + j) = false ∧ b ∈ blkOf r.a
  | [], i, b => by simp [rblk]
  | r :: rs, i, b => by
    simp only [rblk, List.mem_append]
    constructor
    · rintro (h | h)
      · cases hp : P i with
        | true => rw [hp] at h; simp at h
        | false => rw [hp] at h; exact ⟨0, r, rfl, by simpa using hp, h⟩
      · obtain ⟨j, s, h1, h2, h3⟩ := mem_rblk.1 h
        exact ⟨j + 1, s, by simpa using h1, by rw [show i + (j + 1) = i + 1 + j by omega]; exact h2, h3⟩
    · rintro ⟨j, s, h1, h2, h3⟩
      cases j with
      | zero => simp at h1; subst h1; left; simp at h2; rw [h2]; exact h3
      | succ j => right; exact mem_rblk.2 ⟨j, s, by simpa using h1, by rw [show i + 1 + j = i + (j + 1) by omega]; exact h2, h3⟩
structure RowsOK {α : Type} (E : En α) (P : Nat → Bool) (t1 t2 : TypeId) (a : Option Addr) (n c : Nat) (rs : List RowH) (xss : List (List α)) (h : Heap) : Prop where
  out : Ownd h t1 1 a n c (rs.map RowH.val)
  ln : rs.length = n
  lx : xss.length = n
  row : ∀ (i : Nat) (r : RowH) (xs : List α), rs[i]? = some r → xss[i]? = some xs → P i = false → Ownd h t2 E.sz r.a r.n r.c (E.l xs) ∧ xs.length = r.n
  ap : ∀ (i j : Nat) (r s : RowH), i ≠ j → rs[i]? = some r → rs[j]? = some s → P i = false → P j = false → ∀ b ∈ blkOf r.a, b ∉ blkOf s.a
  na : ∀ (i : Nat) (r : RowH), rs[i]? = some r → P i = false → ∀ b ∈ blkOf r.a, b ∉ blkOf a
theorem RowsOK.xs {α : Type} {E : En α} {P : Nat → Bool} {t1 t2 : TypeId} {a : Option Addr} {n c : Nat} {rs : List RowH} {xss : List (List α)} {h : Heap} (R : RowsOK E P t1 t2 a n c rs xss h) {i : Nat} {r : RowH} (hr : rs[i]? = some r) : ∃ xs, xss[i]? = some xs := by
  have := (List.getElem?_eq_some_iff.1 hr).1
  exact ⟨_, List.getElem?_eq_getElem (by rw [R.lx, ← R.ln]; exact this)⟩
theorem RowsOK.r {α : Type} {E : En α} {P : Nat → Bool} {t1 t2 : TypeId} {a : Option Addr} {n c : Nat} {rs : List RowH} {xss : List (List α)} {h : Heap} (R : RowsOK E P t1 t2 a n c rs xss h) {i : Nat} {xs : List α} (hr : xss[i]? = some xs) : ∃ r, rs[i]? = some r := by
  have := (List.getElem?_eq_some_iff.1 hr).1
  exact ⟨_, List.getElem?_eq_getElem (by rw [R.ln, ← R.lx]; exact this)⟩
def Ck.rowsG {α : Type} (E : En α) (P : Nat → Bool) (t1 t2 : TypeId) (a : Option Addr) (n c : Nat) (rs : List RowH) (xss : List (List α)) : Ck :=
  ⟨blkOf a ++ rblk P 0 rs, [], RowsOK E P t1 t2 a n c rs xss,
    fun h R => ⟨fun b hb => by
      rw [List.mem_append] at hb
      rcases hb with hb | hb
      · exact R.out.lt b hb
      · obtain ⟨j, r, h1, h2, h3⟩ := mem_rblk.1 hb
        rw [Nat.zero_add] at h2
        obtain ⟨xs, hx⟩ := R.xs h1
        exact (R.row j r xs h1 hx h2).1.lt b h3, by simp⟩,
    fun h h' he _ R => ⟨R.out.blk fun b hb => he b (List.mem_append_left _ hb), R.ln, R.lx, fun i r xs h1 h2 h3 => ⟨(R.row i r xs h1 h2 h3).1.blk fun b hb => he b (List.mem_append_right _ (mem_rblk.2 ⟨i, r, h1, by rw [Nat.zero_add]; exact h3, hb⟩)), (R.row i r xs h1 h2 h3).2⟩, R.ap, R.na⟩⟩
/-- Rows of one's own. -/
def Ck.rows {α : Type} (E : En α) (t1 t2 : TypeId) (a : Option Addr) (n c : Nat) (rs : List RowH) (xss : List (List α)) : Ck := Ck.rowsG E (fun _ => false) t1 t2 a n c rs xss
/-- All but one. -/
def Ck.rowsX {α : Type} (E : En α) (i : Nat) (t1 t2 : TypeId) (a : Option Addr) (n c : Nat) (rs : List RowH) (xss : List (List α)) : Ck := Ck.rowsG E (Nat.beq i) t1 t2 a n c rs xss
section
variable {α : Type} {E : En α} {h0 h h' : Heap} {M : List Nat} {cs : List Ck} {ty t1 t2 : TypeId} {a : Option Addr} {n c : Nat} {xs ys : List α} {xss : List (List α)} {rs : List RowH} {b o : Nat} {cells : List Value} {P : Nat → Bool}

theorem Sy.lenS (Y : Sy h0 M h cs) (k : Nat) (hk : cs[k]? = some (Ck.sl E ty a n c xs)) : n = xs.length := (Y.ok hk).2.symm
theorem Sy.ownS (Y : Sy h0 M h cs) (k : Nat) (hk : cs[k]? = some (Ck.sl E ty a n c xs)) : Ownd h ty E.sz a n c (E.l xs) := (Y.ok hk).1
theorem Sy.readsS (Y : Sy h0 M h cs) (k : Nat) (hk : cs[k]? = some (Ck.sl E ty a n c xs)) : Reads h E.sz a n (E.l xs) := (Y.ok hk).1.reads
theorem Ownd.nc {h : Heap} {e sz n c : Nat} {a : Option Addr} {xs : List Value} (o : Ownd h e sz a n c xs) : a = none → c = 0 := by
  rintro rfl
  rcases o.2 with ⟨_, _, h⟩ | ⟨g, cur, h, _⟩
  · exact h
  · cases h
theorem Sy.nilS (Y : Sy h0 M h cs) (E : En α) (ty : TypeId) : Sy h0 M h (cs ++ [Ck.sl E ty none 0 0 []]) :=
  Y.addN _ ⟨Ownd.nil _ _ _, rfl⟩ rfl rfl
theorem madeCells_l (z : α) (n : Nat) : (madeCells (E.enc z).toArray (n * E.sz)).toList = E.l (List.replicate n z) := by
  have hp := E.pos
  apply List.ext_getElem?
  intro j
  have hl : (E.l (List.replicate n z)).length = n * E.sz := by rw [En.l_len]; simp
  by_cases hj : j < n * E.sz
  · have h1 : (madeCells (E.enc z).toArray (n * E.sz)).toList[j]? = some (((E.enc z).toArray)[j % E.sz]!) := by
      simp [madeCells, hj, E.len]
    have hm : j % E.sz < E.sz := Nat.mod_lt _ hp
    have hm2 : j % E.sz < (E.enc z).length := by rw [E.len]; exact hm
    have h2 : (List.replicate n z)[j / E.sz]? = some z := by
      rw [List.getElem?_replicate, if_pos ((Nat.div_lt_iff_lt_mul hp).2 hj)]
    have h3 := En.l_get (E := E) h2 (List.getElem?_eq_getElem hm2)
    rw [show j / E.sz * E.sz + j % E.sz = j by rw [Nat.mul_comm]; exact Nat.div_add_mod j E.sz] at h3
    rw [h1, h3]
    simp [hm2]
  · rw [List.getElem?_eq_none (by simp [size_madeCells]; omega), List.getElem?_eq_none (by omega)]
theorem Sy.mkS (Y : Sy h0 M h cs) (z : α) (m n : Nat) (hnm : n ≤ m) (hm : m ≤ maxLen) :
    Sy h0 M (h.push (.cells (madeCells (E.enc z).toArray (m * E.sz)) ty)) (cs ++ [Ck.sl E ty (some ⟨h.size, 0, none⟩) n m (List.replicate n z)]) := by
  refine Y.add (Fr.push h _) _ ⟨⟨by simp [En.l_len], .inr ⟨h.size, _, rfl, blk_push_new, hnm, hm, by simp [size_madeCells], ?_⟩⟩, by simp⟩ (by simp [Ck.sl, blkOf]) (by simp [Ck.sl])
  rw [madeCells_l, En.l_take, List.take_replicate, Nat.min_eq_left hnm]
theorem Sy.stS (Y : Sy h0 M h cs) (k : Nat) (hk : cs[k]? = some (Ck.sl E ty a n c xs)) (ha : a = some ⟨b, 0, none⟩) {i t : Nat} {x : α} (x' : α) {v : Value} (hx : xs[i]? = some x) (ht : t < E.sz) (hv : E.enc x' = (E.enc x).set t v) :
    Sy h0 M (hset h b (0 + i * E.sz + t) v) (cs.set k (Ck.sl E ty a n c (xs.set i x'))) := by
  subst ha
  obtain ⟨ow, ln⟩ := Y.ok hk
  refine Y.mut hk _ (by simp) (fun d _ hd => hset_ne (by rintro rfl; exact hd (by simp [Ck.sl, blkOf]))) ⟨?_, by simpa using ln⟩ (fun d hd => .inl hd) (fun d hd => by simp [Ck.sl] at hd)
  have := ow.set (0 + i * E.sz + t) v
  rw [Nat.zero_add, En.l_set hx ht hv] at this
  rw [Nat.zero_add]; exact this
theorem Sy.st2 (Y : Sy h0 M h cs) (k : Nat) (hk : cs[k]? = some (Ck.sl E ty a n c xs)) (ha : a = some ⟨b, 0, none⟩) {i : Nat} (x' : α) {v u : Value} (hi : i < n) (hs : E.sz = 2) (hm : ∀ y, ∃ m, E.enc m = (E.enc y).set 0 v) (hv : E.enc x' = [v, u]) :
    Sy h0 M (hset (hset h b (0 + i * E.sz) v) b (0 + i * E.sz + 1) u) (cs.set k (Ck.sl E ty a n c (xs.set i x'))) := by
  have hl := Y.lenS k hk
  have hx : xs[i]? = some xs[i] := List.getElem?_eq_getElem (by omega)
  obtain ⟨m, hm⟩ := hm xs[i]
  have Y1 := Y.stS k hk ha (t := 0) m (v := v) hx (by omega) hm
  have hk1 : (cs.set k (Ck.sl E ty a n c (xs.set i m)))[k]? = some (Ck.sl E ty a n c (xs.set i m)) := by
    have := (List.getElem?_eq_some_iff.1 hk).1
    simp [this]
  have hx1 : (xs.set i m)[i]? = some m := List.getElem?_set_self (by omega)
  obtain ⟨p, q, hpq⟩ : ∃ p q, E.enc xs[i] = [p, q] := by
    have := E.len xs[i]; rw [hs] at this
    match hE : E.enc xs[i], this with
    | [p, q], _ => exact ⟨p, q, rfl⟩
  have Y2 := Y1.stS k hk1 ha (t := 1) x' (v := u) hx1 (by omega) (by rw [hm, hv, hpq]; rfl)
  simpa using Y2
theorem Sy.appS (Y : Sy h0 M h cs) (k : Nat) (hk : cs[k]? = some (Ck.sl E ty a n c xs)) {sA : Option Addr} {sC m : Nat} {vs : List Value} (ys : List α) (ow : Ownd h' ty E.sz sA (n + m) sC (E.l xs ++ vs)) (f : Fr (blkOf a) h h')
    (g : (sA = a ∧ sC = c) ∨ ∃ g, sA = some ⟨g, 0, none⟩ ∧ h.size ≤ g) (hv : E.l ys = vs) (hm : ys.length = m) : Sy h0 M h' (cs.set k (Ck.sl E ty sA (n + m) sC (xs ++ ys))) := by
  have hl := Y.lenS k hk
  refine Y.mut hk _ f.size (fun d hd hn => f.blk d hd hn) ⟨by rw [En.l_append, hv]; exact ow, by simp [hm, hl]⟩ (fun d hd => ?_) (fun d hd => by simp [Ck.sl] at hd)
  rcases g with ⟨rfl, _⟩ | ⟨g, rfl, hg⟩
  · exact .inl hd
  · simp [Ck.sl, blkOf] at hd; exact .inr (by omega)
theorem slice0 (a : Option Addr) (c sz : Nat) : (if c = 0 then a else Option.map (fun addr => Addr.add addr (0 * sz)) a) = a := by
  split
  · rfl
  · cases a with
    | none => rfl
    | some a => simp [Addr.add]
theorem Sy.atV (Y : Sy h0 M h cs) (k : Nat) (hk : cs[k]? = some (Ck.vw E a n c xs)) {i : Int} (hi : 0 ≤ i) (hn : i < (n : Int)) :
    ∃ b o, a = some ⟨b, o, none⟩ ∧ b ∈ (Ck.vw E a n c xs).rd ∧ ∃ x, xs[i.toNat]? = some x := by
  obtain ⟨r, ln, _⟩ := Y.ok hk
  obtain ⟨b, o, e, _⟩ := r.at (by omega)
  exact ⟨b, o, e, rd_mem e (by omega), _, List.getElem?_eq_getElem (by omega)⟩
theorem Sy.cellV (Y : Sy h0 M h cs) (k : Nat) (hk : cs[k]? = some (Ck.vw E a n c xs)) (ha : a = some ⟨b, o, none⟩) {i t : Nat} {x : α} {v : Value} (hx : xs[i]? = some x) (hv : (E.enc x)[t]? = some v) :
    hcell h b (o + i * E.sz + t) = some v := by
  obtain ⟨r, ln, _⟩ := Y.ok hk
  rcases r.2 with ⟨h1, h2⟩ | ⟨b', o', e, hc⟩
  · subst h2; have := (List.getElem?_eq_some_iff.1 hx).1; omega
  · rw [e] at ha; simp at ha; obtain ⟨rfl, rfl⟩ := ha
    rw [Nat.add_assoc]
    exact hc _ _ (En.l_get hx hv)
theorem Sy.lenV (Y : Sy h0 M h cs) (k : Nat) (hk : cs[k]? = some (Ck.vw E a n c xs)) : n = xs.length := (Y.ok hk).2.1.symm
theorem Sy.readsV (Y : Sy h0 M h cs) (k : Nat) (hk : cs[k]? = some (Ck.vw E a n c xs)) : Reads h E.sz a n (E.l xs) := (Y.ok hk).1
theorem Sy.capV (Y : Sy h0 M h cs) (k : Nat) (hk : cs[k]? = some (Ck.vw E a n c xs)) : n ≤ c ∧ (a = none → c = 0) := (Y.ok hk).2.2
theorem To.slvw : To (Ck.sl E ty a n c xs) (Ck.vw E a n c xs) :=
  ⟨fun h o => ⟨o.1.reads, o.2, o.1.cap.1, o.1.nc⟩, by simp [Ck.vw], fun b hb => .inl (rdOf_sub hb)⟩
theorem To.no {d : Ck} : To d Ck.no := ⟨fun _ _ => trivial, by simp [Ck.no], by simp [Ck.no]⟩
theorem Sy.junk (Y : Sy h0 M h cs) (x : Obj) : Sy h0 M (h.push x) (cs ++ [Ck.junk h.size]) :=
  Y.add (Fr.push h x) _ (by simp [Ck.junk]) (by simp [Ck.junk]) (by simp [Ck.junk])
theorem Sy.newO (Y : Sy h0 M h cs) (vs : List Value) : Sy h0 M (h.push (.cells vs.toArray ty)) (cs ++ [Ck.ob h.size ty vs]) :=
  Y.add (Fr.push h _) _ blk_push_new (by simp [Ck.ob]) (by simp [Ck.ob])
theorem Sy.cellO (Y : Sy h0 M h cs) (k : Nat) (hk : cs[k]? = some (Ck.ob b ty cells)) (j : Nat) {v : Value} (hv : cells[j]? = some v) : hcell h b j = some v := by
  rw [hcell_of (Y.ok hk)]; simpa using hv
theorem Sy.freeO (Y : Sy h0 M h cs) (k : Nat) (hk : cs[k]? = some (Ck.ob b ty cells)) (j : Nat) : hfree h b j = true := hfree_of (Y.ok hk) j
theorem Sy.stO (Y : Sy h0 M h cs) (k : Nat) (hk : cs[k]? = some (Ck.ob b ty cells)) (j : Nat) (v : Value) : Sy h0 M (hset h b j v) (cs.set k (Ck.ob b ty (cells.set j v))) :=
  Y.mut hk _ (by simp) (fun d _ hd => hset_ne (by rintro rfl; exact hd (by simp [Ck.ob]))) (by
    have := hset_of (o := j) (v := v) (Y.ok hk)
    simpa [Ck.ob] using this) (fun d hd => .inl hd) (fun d hd => by simp [Ck.ob] at hd)
theorem Sy.cellW (Y : Sy h0 M h cs) (k : Nat) (hk : cs[k]? = some (Ck.vob b o cells)) (j : Nat) {v : Value} (hv : cells[j]? = some v) : hcell h b (o + j) = some v := (Y.ok hk).2 j v hv
theorem To.obvob : To (Ck.ob b ty cells) (Ck.vob b 0 cells) :=
  ⟨fun h hb => ⟨blk_lt hb, fun j v hv => by rw [hcell_of hb, Nat.zero_add]; simpa using hv⟩, by simp [Ck.vob], fun d hd => .inl hd⟩
theorem Sy.ne (Y : Sy h0 M h cs) (i j : Nat) (hij : i ≠ j) {c d : Ck} (hi : cs[i]? = some c) (hj : cs[j]? = some d) {x y : Nat} (hx : x ∈ c.own) (hy : y ∈ d.own) : x ≠ y := by
  rintro rfl
  exact (Y.hp.ap i j c d hij hi hj x hx).1 hy
theorem Sy.neJ (Y : Sy h0 M h cs) (i j : Nat) (hij : Nat.beq i j = false) {c : Ck} {y : Nat} (hi : cs[i]? = some c) (hj : cs[j]? = some (Ck.junk y)) {x : Nat} (hx : x ∈ c.own) : x ≠ y :=
  Y.ne i j (fun e => by subst e; simp at hij) hi hj hx (by simp [Ck.junk])
theorem Sy.nJ (Y : Sy h0 M h cs) (i j : Nat) (hij : Nat.beq i j = false) {c : Ck} {y : Nat} (hi : cs[i]? = some c) (hj : cs[j]? = some (Ck.junk y)) : y ∉ c.own :=
  fun hx => Y.neJ i j hij hi hj hx rfl
end

end Go.X

/- Rows in chunks; calls, loops over chunks. Conditions: none. -/
namespace Go.X

section
variable {α : Type} {E : En α} {h0 h h' : Heap} {M : List Nat} {cs : List Ck} {ty t1 t2 : TypeId} {a : Option Addr} {n c : Nat} {xs ys : List α} {xss : List (List α)} {rs : List RowH} {b o : Nat} {cells : List Value} {P : Nat → Bool}

theorem Sy.atR (Y : Sy h0 M h cs) (k : Nat) (hk : cs[k]? = some (Ck.rowsG E P t1 t2 a n c rs xss)) {i : Int} (hi : 0 ≤ i) (hn : i < (n : Int)) :
    ∃ b, a = some ⟨b, 0, none⟩ ∧ b ∈ (Ck.rowsG E P t1 t2 a n c rs xss).own ∧ ∃ x, xss[i.toNat]? = some x ∧ ∃ r, rs[i.toNat]? = some r := by
  have R : RowsOK .. := Y.ok hk
  obtain ⟨g, cur, e, _⟩ := R.out.at (by omega)
  have l1 := R.ln
  have l2 := R.lx
  exact ⟨g, e, by show g ∈ blkOf a ++ _; simp [e, blkOf], _, List.getElem?_eq_getElem (by omega), _, List.getElem?_eq_getElem (by omega)⟩
theorem Sy.rowS (Y : Sy h0 M h cs) (k : Nat) (hk : cs[k]? = some (Ck.rows E t1 t2 a n c rs xss)) {i : Nat} {r : RowH} {x : List α} (hr : rs[i]? = some r) (hx : xss[i]? = some x) : Ownd h t2 E.sz r.a x.length r.c (E.l x) := by
  have R : RowsOK .. := Y.ok hk
  have := R.row i r x hr hx rfl
  rw [this.2]; exact this.1
theorem Ownd.row {h : Heap} {e sz n c : Nat} {b : Nat} {xs : List Value} (o : Ownd h e sz (some ⟨b, 0, none⟩) n c xs) (k : Nat) (v : Value) : Ownd (hset h b k v) e sz (some ⟨b, 0, none⟩) n c (xs.set k v) := o.set k v
/-- A row is taken out. -/
theorem Sy.takeR (Y : Sy h0 M h cs) (k : Nat) (hk : cs[k]? = some (Ck.rows E t1 t2 a n c rs xss)) {j : Nat} {r : RowH} {x : List α} (hr : rs[j]? = some r) (hx : xss[j]? = some x) :
    Sy h0 M h (cs.set k (Ck.rowsX E j t1 t2 a n c rs xss) ++ [Ck.sl E t2 r.a x.length r.c x]) := by
  have R : RowsOK .. := Y.ok hk
  have ow := Y.rowS k hk hr hx
  have Y1 : Sy h0 M h (cs.set k (Ck.rowsX E j t1 t2 a n c rs xss)) := by
    refine Y.turn k hk ⟨fun h' R => ⟨R.out, R.ln, R.lx, fun i r x h1 h2 _ => R.row i r x h1 h2 rfl, fun i j r s hij h1 h2 _ _ => R.ap i j r s hij h1 h2 rfl rfl, fun i r h1 _ => R.na i r h1 rfl⟩, fun d hd => ?_, fun d hd => by simp [Ck.rowsX, Ck.rowsG] at hd⟩
    simp only [Ck.rowsX, Ck.rows, Ck.rowsG, List.mem_append] at hd ⊢
    refine hd.imp id fun hd => ?_
    obtain ⟨i, s, q1, q2, q3⟩ := mem_rblk.1 hd
    exact mem_rblk.2 ⟨i, s, q1, rfl, q3⟩
  have hkl := (List.getElem?_eq_some_iff.1 hk).1
  have inR : ∀ d ∈ blkOf r.a, d ∈ (Ck.rows E t1 t2 a n c rs xss).own := fun d hd => List.mem_append_right _ (mem_rblk.2 ⟨j, r, hr, rfl, hd⟩)
  have old : ∀ (i : Nat) (d : Ck), (cs.set k (Ck.rowsX E j t1 t2 a n c rs xss) ++ [Ck.sl E t2 r.a x.length r.c x])[i]? = some d → (i = cs.length ∧ d = Ck.sl E t2 r.a x.length r.c x) ∨ (i ≠ cs.length ∧ (cs.set k (Ck.rowsX E j t1 t2 a n c rs xss))[i]? = some d) := by
    intro i d hd
    by_cases hi : i < cs.length
    · rw [List.getElem?_append_left (by simpa using hi)] at hd; exact .inr ⟨by omega, hd⟩
    · rw [List.getElem?_append_right (by simpa using hi)] at hd
      have hlt := (List.getElem?_eq_some_iff.1 hd).1
      simp at hlt
      have e0 : i - (cs.set k (Ck.rowsX E j t1 t2 a n c rs xss)).length = 0 := by simp; omega
      rw [e0] at hd; simp at hd
      exact .inl ⟨by omega, hd.symm⟩
  -- the row lies apart from all that stays
  have apart : ∀ (i : Nat) (d : Ck), (cs.set k (Ck.rowsX E j t1 t2 a n c rs xss))[i]? = some d → ∀ b ∈ blkOf r.a, b ∉ d.own ∧ b ∉ d.rd := by
    intro i d hd b hb
    rw [List.getElem?_set] at hd
    split at hd
    · rename_i e; subst e; simp [hkl] at hd; subst hd
      refine ⟨fun q => ?_, by simp [Ck.rowsX, Ck.rowsG]⟩
      simp only [Ck.rowsX, Ck.rowsG, List.mem_append] at q
      rcases q with q | q
      · exact R.na j r hr rfl b hb q
      · obtain ⟨i', s, q1, q2, q3⟩ := mem_rblk.1 q
        rw [Nat.zero_add] at q2
        exact R.ap j i' r s (fun e => by subst e; simp at q2) hr q1 rfl rfl b hb q3
    · rename_i e
      exact Y.hp.ap k i _ d e hk hd b (inR b hb)
  refine ⟨Y1.fr, ⟨fun i d hd => ?_, fun i i' d e hij hd he => ?_⟩, fun i d hd b hb => ?_⟩
  · rcases old i d hd with ⟨_, rfl⟩ | ⟨_, hd⟩
    · exact ⟨ow, rfl⟩
    · exact Y1.hp.ok i d hd
  · rcases old i d hd with ⟨e1, e2⟩ | ⟨_, hd1⟩
    · rcases old i' e he with ⟨e3, _⟩ | ⟨_, he1⟩
      · exact absurd (e1.trans e3.symm) hij
      · subst e2; exact fun b hb => apart i' e he1 b hb
    · rcases old i' e he with ⟨e1, e2⟩ | ⟨_, he1⟩
      · subst e2
        exact fun b hb => ⟨fun q => (apart i d hd1 b q).1 hb, by simp [Ck.sl]⟩
      · exact Y1.hp.ap i i' d e hij hd1 he1
  · rcases old i d hd with ⟨_, rfl⟩ | ⟨_, hd⟩
    · exact Y.ow k _ hk b (inR b hb)
    · exact Y1.ow i d hd b hb
/-- A slice of one's own takes a row's place. -/
theorem To.rowsX (i : Nat) : To (Ck.rows E t1 t2 a n c rs xss) (Ck.rowsX E i t1 t2 a n c rs xss) := by
  refine ⟨fun h' R => ⟨R.out, R.ln, R.lx, fun i r x h1 h2 _ => R.row i r x h1 h2 rfl, fun i j r s hij h1 h2 _ _ => R.ap i j r s hij h1 h2 rfl rfl, fun i r h1 _ => R.na i r h1 rfl⟩, fun d hd => ?_, fun d hd => by simp [Ck.rowsX, Ck.rowsG] at hd⟩
  simp only [Ck.rowsX, Ck.rows, Ck.rowsG, List.mem_append] at hd ⊢
  refine hd.imp id fun hd => ?_
  obtain ⟨i, s, q1, q2, q3⟩ := mem_rblk.1 hd
  exact mem_rblk.2 ⟨i, s, q1, rfl, q3⟩
theorem Sy.startM (H : Hp h cs) (e : owns cs = M) : Sy h M h cs := e ▸ Sy.start H
theorem Sy.call2 {A B cs' : List Ck} {MA : List Nat} (Y : Sy h0 M h cs) (l : List Nat) (hl : chkI cs.length l = true) (e : pk cs l = A ++ B) (hM : owns A = MA) (P : Sy h MA h' cs') (nv : Nv cs') : Sy h0 M h' (cs' ++ B) := by
  subst hM
  exact Sy.call (e ▸ Y.pick l hl) P nv
theorem callX_sy {Pr : Program} {f : FuncId} {args : Array Value} {H MA : List Nat} {R K : Value → Heap → Prop} (c : CallsH Pr f args h R) (hf : ∀ v h', R v h' → Fr MA h h') (hH : ∀ b ∈ H, b ∉ MA) (k : ∀ v h', R v h' → K v h') : callX Pr f args h H K :=
  ⟨MA, R, c.mono fun v h' r => ⟨hf v h' r, r⟩, hH, fun v h' _ r => k v h' r⟩
theorem alln {P : Nat → Prop} : ∀ b ∈ ([] : List Nat), P b := fun _ h => by cases h
theorem allc {P : Nat → Prop} {x : Nat} {l : List Nat} (h : P x) (t : ∀ b ∈ l, P b) : ∀ b ∈ x :: l, P b := List.forall_mem_cons.2 ⟨h, t⟩
theorem cnd_imp {x : Bool} {A B A' B' : Prop} (T : cnd x A B) (a : A → A') (b : B → B') : cnd x A' B' := ⟨fun h => a (T.1 h), fun h => b (T.2 h)⟩
open Classical in
/-- The least count. -/
noncomputable def Lm (J : Nat → List Value → Heap → Prop) (l : List Value) (h : Heap) : Nat := if e : ∃ k, J k l h then (least e).choose else 0
theorem loopIn {J : Nat → List Value → Heap → Prop} {l : List Value} (e : ∃ k, J k l h) : ∃ k, J k l h ∧ Lm J l h = k := by
  refine ⟨(least e).choose, (least e).choose_spec.1, ?_⟩
  rw [Lm, dif_pos e]
theorem loopBack {J : Nat → List Value → Heap → Prop} {l l' : List Value} {k k' : Nat} (hm : Lm J l h = k) (j : J k' l' h') (lt : k' < k) : (∃ k, J k l' h') ∧ Lm J l' h' < Lm J l h := by
  refine ⟨⟨k', j⟩, ?_⟩
  have e : ∃ k, J k l' h' := ⟨k', j⟩
  rw [hm, Lm, dif_pos e]
  exact Nat.lt_of_le_of_lt ((least e).choose_spec.2 k' j) lt
/-- What stays, behind what changes. -/
theorem Sy.cut (Y : Sy h0 M h cs) (v f : List Nat) (hc : chkI cs.length (v ++ f) = true) : ∃ B, B = pk cs f ∧ Sy h0 M h (pk cs v ++ B) := by
  refine ⟨_, rfl, ?_⟩
  have e : ∀ (v : List Nat), pk cs (v ++ f) = pk cs v ++ pk cs f := by
    intro v
    induction v with
    | nil => rfl
    | cons i v ih => simp only [List.cons_append, pk]; split <;> simp [ih]
  rw [← e]
  exact Y.pick _ hc
end
end Go.X

/- Two chunks at once: rows that come in, rows that are picked out. Conditions: none. -/
namespace Go.X
section
variable {α : Type} {E : En α} {h0 h h' : Heap} {M : List Nat} {cs : List Ck} {ty t1 t2 : TypeId} {a : Option Addr} {n c : Nat} {xs ys : List α} {xss : List (List α)} {rs : List RowH} {b o : Nat} {A B : Ck} {k j : Nat}

theorem Ap.no {c : Ck} : Ap c Ck.no := fun _ _ => ⟨by simp [Ck.no], by simp [Ck.no]⟩
/-- What stands behind a pointer that may be nil. -/
def Ck.opt (w : Bool) (c : Ck) : Ck :=
  match w with
  | true => Ck.no
  | false => c
theorem appB {n k : Nat} (h : n < 1000000000000) (hk : k ≤ 140) : n * k ≤ 140737488355328 := Nat.le_trans (Nat.mul_le_mul (Nat.le_of_lt h) hk) (by decide)
theorem appM {n : Nat} (h : n < 1000000000000) : n ≤ maxLen := by simp only [maxLen]; omega
end
end Go.X
