/- More of chunks: pieces of slices, wide elements, places in arrays, drawn regions. Conditions: none. -/
import Derived.Test.YtmcloipjlihhlaaYTwo
namespace Go.X

section
variable {α : Type} {E : En α} {h0 h h' : Heap} {M : List Nat} {cs : List Ck} {ty t1 t2 : TypeId} {a : Option Addr} {n c : Nat} {xs ys : List α} {xss : List (List α)} {rs : List RowH} {b o : Nat} {cells : List Value} {P : Nat → Bool}

theorem To.trans {c d e : Ck} (x : To c d) (y : To d e) : To c e :=
  ⟨fun h q => y.1 h (x.1 h q), fun b hb => x.2.1 b (y.2.1 b hb), fun b hb => (y.2.2 b hb).elim (fun q => .inl (x.2.1 b q)) (fun q => x.2.2 b q)⟩
theorem Sy.fnS (_ : Sy h0 M h cs) {k : Nat} (_ : cs[k]? = some (Ck.sl E ty a n c xs)) : ∃ F, F = Ck.sl E ty a n c := ⟨_, rfl⟩
theorem readsAt {h : Heap} {a : Option Addr} {n : Nat} {xs : List α} (r : Reads h E.sz a n (E.l xs)) {i : Int} (hi : 0 ≤ i) (hn : i < (n : Int)) :
    ∃ b o, a = some ⟨b, o, none⟩ ∧ ∃ x, xs[i.toNat]? = some x ∧ ∀ t v, (E.enc x)[t]? = some v → hcell h b (o + i.toNat * E.sz + t) = some v := by
  have hl := r.1
  rw [En.l_len] at hl
  have hl : xs.length = n := Nat.eq_of_mul_eq_mul_right E.pos hl
  obtain ⟨b, o, e, hc⟩ := r.at (by omega)
  have hx : xs[i.toNat]? = some (xs[i.toNat]'(by omega)) := List.getElem?_eq_getElem (by omega)
  refine ⟨b, o, e, _, hx, fun t v hv => ?_⟩
  rw [Nat.add_assoc]
  exact hc _ _ (En.l_get hx hv)
theorem Sy.cellEx (Y : Sy h0 M h cs) (k : Nat) (hk : cs[k]? = some (Ck.sl E ty a n c xs)) (ha : a = some ⟨b, 0, none⟩) {i t : Nat} (hi : i < n) (ht : t < E.sz) : ∃ u, hcell h b (0 + i * E.sz + t) = some u := by
  have hl := Y.lenS k hk
  have hx : xs[i]? = some (xs[i]'(by omega)) := List.getElem?_eq_getElem (by omega)
  have hlt : t < (E.enc (xs[i]'(by omega))).length := by rw [E.len]; exact ht
  exact ⟨_, Y.cellS k hk ha hx (List.getElem?_eq_getElem hlt)⟩
end
end Go.X
