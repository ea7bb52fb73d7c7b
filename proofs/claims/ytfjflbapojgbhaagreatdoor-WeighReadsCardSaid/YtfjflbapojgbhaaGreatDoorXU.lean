/- Words and lemmas for proofs over S terms: wrapped numbers, calls, heaps, slices of numbers and of pairs. Conditions: none. -/
import Derived.Test.YtfjflbapojgbhaaGreatDoorXFun
namespace Go.X

theorem wr {x : Int} (h1 : -9223372036854775808 ≤ x) (h2 : x ≤ 9223372036854775807) : IntKind.i64.wrap x = x := by
  rw [IntKind.wrap_i64]; omega
theorem cnd_dec {p : Prop} [Decidable p] {A B : Prop} (a : p → A) (b : ¬p → B) : cnd (decide p) A B :=
  ⟨fun h => a (of_decide_eq_true h), fun h => b (of_decide_eq_false h)⟩
theorem cnd_eq {x y : Int} {A B : Prop} (a : x = y → A) (b : x ≠ y → B) : cnd (x == y) A B :=
  ⟨fun h => a (by simpa using h), fun h => b (by simpa using h)⟩
theorem cnd_ne {x y : Int} {A B : Prop} (a : x ≠ y → A) (b : x = y → B) : cnd (x != y) A B :=
  ⟨fun h => a (by simpa using h), fun h => b (by simpa using h)⟩
theorem cnd_not {x : Bool} {A B : Prop} (a : x = false → A) (b : x = true → B) : cnd (!x) A B :=
  ⟨fun h => a (by simpa using h), fun h => b (by simpa using h)⟩
theorem cnd_b {x : Bool} {A B : Prop} (a : x = true → A) (b : x = false → B) : cnd x A B := ⟨a, b⟩
theorem cnd_t {c : Bool} {A B : Prop} (h : c = true) (a : A) : cnd c A B := ⟨fun _ => a, fun g => by simp [h] at g⟩
theorem cnd_f {c : Bool} {A B : Prop} (h : c = false) (b : B) : cnd c A B := ⟨fun g => by simp [h] at g, fun _ => b⟩
theorem callX_of {P : Program} {f : FuncId} {args : Array Value} {h : Heap} {H : List Nat} {K R : Value → Heap → Prop} (M : List Nat)
    (c : CallsH P f args h fun v h' => Fr M h h' ∧ R v h') (hm : ∀ b ∈ H, b ∉ M) (k : ∀ v h', Fr M h h' → R v h' → K v h') : callX P f args h H K :=
  ⟨M, R, c, hm, k⟩
theorem callX_nil {P : Program} {f : FuncId} {args : Array Value} {h : Heap} {H : List Nat} {K R : Value → Heap → Prop}
    (c : CallsH P f args h fun v h' => Fr [] h h' ∧ R v h') (k : ∀ v h', Fr [] h h' → R v h' → K v h') : callX P f args h H K :=
  ⟨[], R, c, by simp, k⟩
theorem blk_push_new {h : Heap} {x : Obj} : (h.push x)[h.size]? = some x := by simp
theorem Fr.lt {M : List Nat} {a b : Heap} (h : Fr M a b) {i : Nat} (hi : i < a.size) : i < b.size := Nat.lt_of_lt_of_le hi h.size
theorem blk_lt {h : Heap} {b : Nat} {x : Obj} (hb : h[b]? = some x) : b < h.size := (Array.getElem?_eq_some_iff.1 hb).1
theorem Fr.comp {M N : List Nat} {a b c : Heap} (h : Fr M a b) (k : Fr N b c) (hn : ∀ x ∈ N, x ∈ M ∨ a.size ≤ x) : Fr M a c :=
  ⟨Nat.le_trans h.size k.size, fun i hi hm => (k.blk i (Nat.lt_of_lt_of_le hi h.size) fun hx => (hn i hx).elim hm fun e => by omega).trans (h.blk i hi hm)⟩
theorem Ownd.nil (h : Heap) (e sz : Nat) : Ownd h e sz none 0 0 [] := ⟨by simp, .inl ⟨rfl, rfl, rfl⟩⟩
theorem Ownd.len {h : Heap} {e sz n c : Nat} {a : Option Addr} {xs : List Value} (o : Ownd h e sz a n c xs) : xs.length = n * sz := o.1
theorem Ownd.blk {h h' : Heap} {e sz n c : Nat} {a : Option Addr} {xs : List Value} (o : Ownd h e sz a n c xs) (hb : ∀ b ∈ blkOf a, h'[b]? = h[b]?) : Ownd h' e sz a n c xs := by
  obtain ⟨h1, h2⟩ := o
  refine ⟨h1, h2.imp id ?_⟩
  rintro ⟨g, cur, rfl, h3, h4⟩
  exact ⟨g, cur, rfl, (hb g (by simp [blkOf])).trans h3, h4⟩
theorem Ownd.lt {h : Heap} {e sz n c : Nat} {a : Option Addr} {xs : List Value} (o : Ownd h e sz a n c xs) : ∀ b ∈ blkOf a, b < h.size := by
  obtain ⟨h1, h2⟩ := o
  rcases h2 with ⟨rfl, _⟩ | ⟨g, cur, rfl, h3, h4⟩
  · simp [blkOf]
  · simpa [blkOf] using blk_lt h3
theorem Ownd.fr {h h' : Heap} {e sz n c : Nat} {a : Option Addr} {xs : List Value} {M : List Nat} (o : Ownd h e sz a n c xs) (f : Fr M h h') (hm : ∀ b ∈ blkOf a, b ∉ M) : Ownd h' e sz a n c xs :=
  o.blk fun b hb => f.blk b (o.lt b hb) (hm b hb)
theorem Ownd.cap {h : Heap} {e sz n c : Nat} {a : Option Addr} {xs : List Value} (o : Ownd h e sz a n c xs) : n ≤ c ∧ c ≤ maxLen := by
  obtain ⟨h1, h2⟩ := o
  rcases h2 with ⟨rfl, rfl, rfl⟩ | ⟨g, cur, rfl, h3, h4, h5, _⟩
  · simp [maxLen]
  · exact ⟨h4, h5⟩
theorem Ownd.reads {h : Heap} {e sz n c : Nat} {a : Option Addr} {xs : List Value} (o : Ownd h e sz a n c xs) : Reads h sz a n xs := by
  obtain ⟨h1, h2⟩ := o
  refine ⟨h1, ?_⟩
  rcases h2 with ⟨rfl, rfl, rfl⟩ | ⟨g, cur, rfl, h3, h4, h5, h6, h7⟩
  · exact .inl ⟨rfl, rfl⟩
  · refine .inr ⟨g, 0, rfl, fun j v hj => ?_⟩
    rw [hcell_of h3, Nat.zero_add]
    rw [← h7] at hj
    rw [List.getElem?_take] at hj
    split at hj
    · simpa using hj
    · simp at hj
theorem Reads.len {h : Heap} {sz n : Nat} {a : Option Addr} {xs : List Value} (r : Reads h sz a n xs) : xs.length = n * sz := r.1
theorem Reads.fr {h h' : Heap} {sz n : Nat} {a : Option Addr} {xs : List Value} {M : List Nat} (r : Reads h sz a n xs) (f : Fr M h h') (hm : ∀ b ∈ blkOf a, b ∉ M) : Reads h' sz a n xs := by
  obtain ⟨h1, h2⟩ := r
  refine ⟨h1, h2.imp id ?_⟩
  rintro ⟨b, o, rfl, h3⟩
  exact ⟨b, o, rfl, fun j v hj => f.cell (h3 j v hj) (hm b (by simp [blkOf]))⟩
/-- A slice that is not empty lies somewhere. -/
theorem Reads.at {h : Heap} {sz n : Nat} {a : Option Addr} {xs : List Value} (r : Reads h sz a n xs) (hn : 0 < n) :
    ∃ b o, a = some ⟨b, o, none⟩ ∧ ∀ j v, xs[j]? = some v → hcell h b (o + j) = some v := by
  rcases r.2 with ⟨_, rfl⟩ | h2
  · omega
  · exact h2
theorem Ownd.at {h : Heap} {e sz n c : Nat} {a : Option Addr} {xs : List Value} (o : Ownd h e sz a n c xs) (hn : 0 < n) :
    ∃ g cur, a = some ⟨g, 0, none⟩ ∧ h[g]? = some (.cells cur e (0, 0)) ∧ c * sz ≤ cur.size ∧ cur.toList.take (n * sz) = xs := by
  rcases o.2 with ⟨_, rfl, _⟩ | ⟨g, cur, h1, h2, h3, h4, h5, h6⟩
  · omega
  · exact ⟨g, cur, h1, h2, h5, h6⟩
/-- A cell of one's own slice is written. -/
theorem Ownd.set {h : Heap} {e sz n c : Nat} {g : Nat} {xs : List Value} (o : Ownd h e sz (some ⟨g, 0, none⟩) n c xs) (k : Nat) (v : Value) :
    Ownd (hset h g k v) e sz (some ⟨g, 0, none⟩) n c (xs.set k v) := by
  obtain ⟨h1, h2⟩ := o
  refine ⟨by simpa using h1, .inr ?_⟩
  rcases h2 with ⟨h2, _⟩ | ⟨g', cur, h2, h3, h4, h5, h6, h7⟩
  · simp at h2
  · simp at h2; subst h2
    refine ⟨g, _, rfl, hset_of h3, h4, h5, by simpa using h6, ?_⟩
    rw [← h7]
    simp [List.take_set]
theorem Ownd.cell {h : Heap} {e sz n c : Nat} {g : Nat} {xs : List Value} (o : Ownd h e sz (some ⟨g, 0, none⟩) n c xs) {k : Nat} {v : Value} (hk : xs[k]? = some v) :
    hcell h g k = some v := by
  rcases o.reads.2 with ⟨h2, _⟩ | ⟨b, o', h2, h3⟩
  · simp at h2
  · simp at h2; obtain ⟨rfl, rfl⟩ := h2
    simpa using h3 k v hk
theorem Ownd.free {h : Heap} {e sz n c : Nat} {g : Nat} {xs : List Value} (o : Ownd h e sz (some ⟨g, 0, none⟩) n c xs) (k : Nat) : hfree h g k = true := by
  rcases o.2 with ⟨h2, _⟩ | ⟨g', cur, h2, h3, _⟩
  · simp at h2
  · simp at h2; subst h2
    exact hfree_of h3 k
def ints (l : List Int) : List Value := l.map (.int .i64)
def bools (l : List Bool) : List Value := l.map .bool
def flat : List (Int × Int) → List Value
  | [] => []
  | (u, v) :: r => .int .i64 u :: .int .i64 v :: flat r
theorem flat_length : ∀ (l : List (Int × Int)), (flat l).length = l.length * 2
  | [] => rfl
  | (u, v) :: l => by simp [flat, flat_length l]; omega
theorem flat_get : ∀ {l : List (Int × Int)} {i : Nat} {u v : Int}, l[i]? = some (u, v) → (flat l)[i * 2]? = some (.int .i64 u) ∧ (flat l)[i * 2 + 1]? = some (.int .i64 v)
  | [], i, u, v, h => by simp at h
  | (a, b) :: l, 0, u, v, h => by simp at h; simp [flat, h]
  | (a, b) :: l, i + 1, u, v, h => by
    have := flat_get (l := l) (i := i) (u := u) (v := v) (by simpa using h)
    rw [show (i + 1) * 2 = i * 2 + 1 + 1 by omega]
    simpa [flat] using this
@[simp] theorem ints_length (l : List Int) : (ints l).length = l.length := by simp [ints]
@[simp] theorem bools_length (l : List Bool) : (bools l).length = l.length := by simp [bools]
theorem ints_get {l : List Int} {i : Nat} {v : Int} (h : l[i]? = some v) : (ints l)[i]? = some (.int .i64 v) := by simp [ints, h]
theorem bools_get {l : List Bool} {i : Nat} {v : Bool} (h : l[i]? = some v) : (bools l)[i]? = some (.bool v) := by simp [bools, h]
/-- The pair at a place. -/
theorem Reads.pair {h : Heap} {n : Nat} {a : Option Addr} {es : List (Int × Int)} (r : Reads h 2 a n (flat es)) {i : Nat} {u v : Int} (hi : es[i]? = some (u, v)) :
    ∃ b o, a = some ⟨b, o, none⟩ ∧ hcell h b (o + i * 2) = some (.int .i64 u) ∧ hcell h b (o + i * 2 + 1) = some (.int .i64 v) := by
  have hl := r.len
  rw [flat_length] at hl
  have : i < es.length := (List.getElem?_eq_some_iff.1 hi).1
  obtain ⟨b, o, h1, h2⟩ := r.at (by omega)
  obtain ⟨g1, g2⟩ := flat_get hi
  exact ⟨b, o, h1, h2 _ _ g1, by have := h2 _ _ g2; rwa [← Nat.add_assoc] at this⟩
theorem Reads.int {h : Heap} {n : Nat} {a : Option Addr} {l : List Int} (r : Reads h 1 a n (ints l)) {i : Nat} {v : Int} (hi : l[i]? = some v) :
    ∃ b o, a = some ⟨b, o, none⟩ ∧ hcell h b (o + i) = some (.int .i64 v) := by
  have hl := r.len
  have : i < l.length := (List.getElem?_eq_some_iff.1 hi).1
  simp at hl
  obtain ⟨b, o, h1, h2⟩ := r.at (by omega)
  exact ⟨b, o, h1, h2 _ _ (ints_get hi)⟩
theorem Reads.bool {h : Heap} {n : Nat} {a : Option Addr} {l : List Bool} (r : Reads h 1 a n (bools l)) {i : Nat} {v : Bool} (hi : l[i]? = some v) :
    ∃ b o, a = some ⟨b, o, none⟩ ∧ hcell h b (o + i) = some (.bool v) := by
  have hl := r.len
  have : i < l.length := (List.getElem?_eq_some_iff.1 hi).1
  simp at hl
  obtain ⟨b, o, h1, h2⟩ := r.at (by omega)
  exact ⟨b, o, h1, h2 _ _ (bools_get hi)⟩
end Go.X
