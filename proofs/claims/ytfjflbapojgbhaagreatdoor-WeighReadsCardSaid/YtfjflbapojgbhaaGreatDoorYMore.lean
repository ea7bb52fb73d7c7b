/- More of chunks: pieces of slices, wide elements, places in arrays, drawn regions. Conditions: none. -/
import Derived.Test.YtfjflbapojgbhaaGreatDoorYTwo
namespace Go.X

section
variable {α : Type} {E : En α} {h0 h h' : Heap} {M : List Nat} {cs : List Ck} {ty t1 t2 : TypeId} {a : Option Addr} {n c : Nat} {xs ys : List α} {xss : List (List α)} {rs : List RowH} {b o : Nat} {cells : List Value} {P : Nat → Bool}

theorem Reads.takeR {h : Heap} {a : Option Addr} {n : Nat} {xs : List α} (r : Reads h E.sz a n (E.l xs)) (m : Nat) (hm : m ≤ n) : Reads h E.sz a m (E.l (xs.take m)) := by
  have hl := r.1
  rw [En.l_len] at hl
  have hl : xs.length = n := Nat.eq_of_mul_eq_mul_right E.pos hl
  refine ⟨by rw [En.l_len, List.length_take, Nat.min_eq_left (by omega)], ?_⟩
  rcases r.2 with ⟨rfl, h0⟩ | ⟨b, o, e, hc⟩
  · exact .inl ⟨rfl, by omega⟩
  · refine .inr ⟨b, o, e, fun j v hj => hc j v ?_⟩
    rw [← En.l_take, List.getElem?_take] at hj
    split at hj
    · exact hj
    · cases hj
theorem Reads.dropR {h : Heap} {a : Option Addr} {n c : Nat} {xs : List α} (r : Reads h E.sz a n (E.l xs)) (m : Nat) (hm : m ≤ n) (hc : n ≤ c) (hn : a = none → c = 0) {n' : Nat} (e : n' = n - m) :
    Reads h E.sz (if c = m then a else Option.map (fun addr => Addr.add addr (m * E.sz)) a) n' (E.l (xs.drop m)) := by
  subst e
  have hl := r.1
  rw [En.l_len] at hl
  have hl : xs.length = n := Nat.eq_of_mul_eq_mul_right E.pos hl
  refine ⟨by rw [En.l_len, List.length_drop, hl], ?_⟩
  rcases r.2 with ⟨rfl, h0⟩ | ⟨b, o, e, hc2⟩
  · left; exact ⟨by simp, by omega⟩
  · subst e
    right
    split
    · rename_i e
      have : xs.drop m = [] := List.drop_of_length_le (by omega)
      exact ⟨b, o, rfl, fun j v hj => by rw [this] at hj; simp [En.l] at hj⟩
    · refine ⟨b, o + m * E.sz, by simp [Addr.add], fun j v hj => ?_⟩
      rw [← En.l_drop, List.getElem?_drop] at hj
      rw [Nat.add_assoc]
      exact hc2 _ v hj
theorem dropNc {a : Option Addr} {c m sz : Nat} (hn : a = none → c = 0) : (if c = m then a else Option.map (fun addr => Addr.add addr (m * sz)) a) = none → c - m = 0 := by
  intro e
  have : a = none := by
    split at e
    · exact e
    · simpa using e
  rw [hn this]; simp
theorem To.trans {c d e : Ck} (x : To c d) (y : To d e) : To c e :=
  ⟨fun h q => y.1 h (x.1 h q), fun b hb => x.2.1 b (y.2.1 b hb), fun b hb => (y.2.2 b hb).elim (fun q => .inl (x.2.1 b q)) (fun q => x.2.2 b q)⟩
theorem readsAt {h : Heap} {a : Option Addr} {n : Nat} {xs : List α} (r : Reads h E.sz a n (E.l xs)) {i : Int} (hi : 0 ≤ i) (hn : i < (n : Int)) :
    ∃ b o, a = some ⟨b, o, none⟩ ∧ ∃ x, xs[i.toNat]? = some x ∧ ∀ t v, (E.enc x)[t]? = some v → hcell h b (o + i.toNat * E.sz + t) = some v := by
  have hl := r.1
  rw [En.l_len] at hl
  have hl : xs.length = n := Nat.eq_of_mul_eq_mul_right E.pos hl
  obtain ⟨b, o, e, hc⟩ := r.at (by omega)
  have hx : xs[i.toNat]? = some (xs[i.toNat]'(by omega)) := List.getElem?_eq_getElem (by omega)
  refine ⟨b, o, e, _, hx, fun t v hv => ?_⟩
  rw [Nat.add_assoc]
  exact hc _ _ (En.l_get hx hv)
/-- What the head of a drawn region writes: these chunks, and the rows of those. -/
def Mt (cs : List Ck) (l r : List Nat) : List Nat := owns (pk cs l) ++ (pk cs r).flatMap fun c => c.own.tail
theorem Sy.mt (_ : Sy h0 M h cs) (l r : List Nat) : ∃ N, N = Mt cs l r := ⟨_, rfl⟩
theorem Sy.frM (_ : Sy h0 M h cs) (l r : List Nat) : Fr (Mt cs l r) h h := Fr.refl _ _
theorem mem_pk {l : List Nat} {k : Nat} {d : Ck} (hk : cs[k]? = some d) (hl : k ∈ l) : d ∈ pk cs l := by
  induction l with
  | nil => cases hl
  | cons i l ih =>
    simp only [pk]
    rcases List.mem_cons.1 hl with rfl | hl
    · rw [hk]; exact List.mem_cons_self ..
    · split
      · exact List.mem_cons_of_mem _ (ih hl)
      · exact ih hl
theorem Sy.inMo (_ : Sy h0 M h cs) (k : Nat) (l r : List Nat) (hl : l.any (Nat.beq k) = true) {d : Ck} (hk : cs[k]? = some d) {g : Nat} : ∀ x ∈ d.own, x ∈ Mt cs l r ∨ g ≤ x := by
  intro x hx
  obtain ⟨k', h1, h2⟩ := List.any_eq_true.1 hl
  have := Nat.eq_of_beq_eq_true h2
  subst this
  exact .inl (List.mem_append_left _ (by simp only [owns, List.mem_flatMap]; exact ⟨d, mem_pk hk h1, hx⟩))
end
end Go.X
