/- Rows that go out one by one, and come in one by one; a literal of slices. Conditions: none. -/
import Derived.Test.YtmcloipjlihhlaaYTwo
import Derived.Test.YtmcloipjlihhlaaYMore
set_option linter.unusedVariables false
namespace Go.X
section
variable {α : Type} {E : En α} {h0 h h' : Heap} {M : List Nat} {cs : List Ck} {ty t1 t2 : TypeId} {a : Option Addr} {n c : Nat} {xs ys : List α} {xss : List (List α)} {rs : List RowH} {b o : Nat} {k j : Nat} {P P' : Nat → Bool}
theorem Sy.cellG (Y : Sy h0 M h cs) (k : Nat) (hk : cs[k]? = some (Ck.rowsG E P t1 t2 a n c rs xss)) (ha : a = some ⟨b, 0, none⟩) {i : Nat} {r : RowH} {x : List α} (hr : rs[i]? = some r) (hx : xss[i]? = some x) (hp : P i = false) :
    hcell h b (0 + i * 1) = some (.slice r.a x.length r.c) := by
  have R : RowsOK .. := Y.ok hk
  have := (R.row i r x hr hx hp).2
  subst ha
  have hc := R.out.cell (k := i) (v := r.val) (by simp [hr])
  rw [this]
  simpa [RowH.val] using hc
/-- One's own; behind its end stand others. -/
def Ck.slm (E : En α) (ty : TypeId) (a : Option Addr) (n c : Nat) (xs zs : List α) : Ck :=
  ⟨blkOf a, [], fun h => Ownd h ty E.sz a (n + zs.length) c (E.l (xs ++ zs)) ∧ xs.length = n, fun h o => ⟨o.1.lt, by simp⟩, fun h h' he _ o => ⟨o.1.blk he, o.2⟩⟩
/-- Looked at; behind its end stand others. -/
def Ck.vwm (E : En α) (a : Option Addr) (n c : Nat) (xs zs : List α) : Ck :=
  ⟨[], rdOf a (n + zs.length), fun h => Reads h E.sz a (n + zs.length) (E.l (xs ++ zs)) ∧ xs.length = n ∧ n + zs.length ≤ c ∧ (a = none → c = 0), fun h o => ⟨by simp, o.1.lt E.pos⟩, fun h h' _ he o => ⟨o.1.at2 he, o.2⟩⟩
theorem To.slm (zs : List α) : To (Ck.sl E ty a (n + zs.length) c (xs ++ zs)) (Ck.slm E ty a n c xs zs) :=
  ⟨fun h o => ⟨o.1, by have := o.2; simp at this; omega⟩, fun b hb => hb, fun b hb => by simp [Ck.slm] at hb⟩
theorem To.slmvwm {zs : List α} : To (Ck.slm E ty a n c xs zs) (Ck.vwm E a n c xs zs) :=
  ⟨fun h o => ⟨o.1.reads, o.2, o.1.cap.1, o.1.nc⟩, fun b hb => by simp [Ck.vwm] at hb, fun b hb => .inl (rdOf_sub hb)⟩
theorem To.vwmvw {zs : List α} : To (Ck.vwm E a n c xs zs) (Ck.vw E a n c xs) := by
  refine ⟨fun h o => ⟨?_, o.2.1, by have := o.2.2.1; omega, o.2.2.2⟩, fun b hb => by simp [Ck.vw] at hb, fun b hb => .inr ?_⟩
  · have r := Reads.takeR o.1 n (by omega)
    rwa [List.take_append_of_le_length (by have := o.2.1; omega), List.take_of_length_le (by have := o.2.1; omega)] at r
  · show b ∈ rdOf a (n + zs.length)
    have hb' : b ∈ rdOf a n := hb
    cases n with
    | zero => simp [rdOf] at hb'
    | succ n => rw [Nat.succ_add]; exact hb'
theorem To.slmvw {zs : List α} : To (Ck.slm E ty a n c xs zs) (Ck.vw E a n c xs) := To.slmvwm.trans To.vwmvw
theorem Sy.lenM {zs : List α} (Y : Sy h0 M h cs) (k : Nat) (hk : cs[k]? = some (Ck.slm E ty a n c xs zs)) : n = xs.length := (Y.ok hk).2.symm
theorem Sy.lenN {zs : List α} (Y : Sy h0 M h cs) (k : Nat) (hk : cs[k]? = some (Ck.vwm E a n c xs zs)) : n = xs.length := (Y.ok hk).2.1.symm
end
end Go.X
