/- Rows that go out one by one, and come in one by one; a literal of slices. Conditions: none. -/
import Derived.Test.YtmcloipjlihhlaaYTwo
import Derived.Test.YtmcloipjlihhlaaYMore
set_option linter.unusedVariables false
namespace Go.X
section
variable {α : Type} {E : En α} {h0 h h' : Heap} {M : List Nat} {cs : List Ck} {ty t1 t2 : TypeId} {a : Option Addr} {n c : Nat} {xs ys : List α} {xss : List (List α)} {rs : List RowH} {b o : Nat} {k j : Nat} {P P' : Nat → Bool}
theorem Sy.cellG (Y : Sy h0 M h cs) (k : Nat) (hk : cs[k]? = some (Ck.rowsG E P t1 t2 a n c rs xss)) (ha : a = some ⟨b, 0, none⟩) {i : Nat} {r : RowH} {x : List α} (hr : rs[i]? = some r) (hx : xss[i]? = some x) (hp : P i = false) :
    hcell h b (0 + i * 1) = some (.slice r.a x.length r.c) := by
  have R : RowsOK .. := Y.ok hk
  have := (R.row i r x hr hx hp).2
  subst ha
  have hc := R.out.cell (k := i) (v := r.val) (by simp [hr])
  rw [this]
  simpa [RowH.val] using hc
end
end Go.X
