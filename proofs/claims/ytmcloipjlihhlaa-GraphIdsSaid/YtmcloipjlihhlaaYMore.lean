/- More of chunks: pieces of slices, wide elements, places in arrays, drawn regions. Conditions: none. -/
import Derived.Test.YtmcloipjlihhlaaYTwo
namespace Go.X

def nth2 (x : Int × Int) (i : Int) : Int := if i = 0 then x.1 else x.2
section
variable {α : Type} {E : En α} {h0 h h' : Heap} {M : List Nat} {cs : List Ck} {ty t1 t2 : TypeId} {a : Option Addr} {n c : Nat} {xs ys : List α} {xss : List (List α)} {rs : List RowH} {b o : Nat} {cells : List Value} {P : Nat → Bool}

theorem To.trans {c d e : Ck} (x : To c d) (y : To d e) : To c e :=
  ⟨fun h q => y.1 h (x.1 h q), fun b hb => x.2.1 b (y.2.1 b hb), fun b hb => (y.2.2 b hb).elim (fun q => .inl (x.2.1 b q)) (fun q => x.2.2 b q)⟩
theorem Sy.fnS (_ : Sy h0 M h cs) {k : Nat} (_ : cs[k]? = some (Ck.sl E ty a n c xs)) : ∃ F, F = Ck.sl E ty a n c := ⟨_, rfl⟩
theorem Sy.cellEx (Y : Sy h0 M h cs) (k : Nat) (hk : cs[k]? = some (Ck.sl E ty a n c xs)) (ha : a = some ⟨b, 0, none⟩) {i t : Nat} (hi : i < n) (ht : t < E.sz) : ∃ u, hcell h b (0 + i * E.sz + t) = some u := by
  have hl := Y.lenS k hk
  have hx : xs[i]? = some (xs[i]'(by omega)) := List.getElem?_eq_getElem (by omega)
  have hlt : t < (E.enc (xs[i]'(by omega))).length := by rw [E.len]; exact ht
  exact ⟨_, Y.cellS k hk ha hx (List.getElem?_eq_getElem hlt)⟩
end
end Go.X
