/- readFloat as a function: digits scanned, the exponent read. Conditions: none. -/
import Derived.Test.YtfjflbapojgbhaaGreatDoorWRead0
namespace Go.Proofs.YtfjflbapojgbhaaGreatDoor.N
open Go.X Go.Proofs.YtfjflbapojgbhaaGreatDoor
set_option maxRecDepth 100000
set_option maxHeartbeats 2000000

structure RS where
  m : Nat
  tr : Bool
  dot : Bool
  dig : Bool
  nd : Nat
  nm : Nat
  dp : Int
def RS0 : RS := ⟨0, false, false, false, 0, 0, 0⟩
def stepD (st : RS) (d : Nat) : RS :=
  if d = 0 ∧ st.nd = 0 then ⟨st.m, st.tr, st.dot, true, st.nd, st.nm, st.dp - 1⟩
  else if st.nm < 19 then ⟨st.m * 10 + d, st.tr, st.dot, true, st.nd + 1, st.nm + 1, st.dp⟩
  else ⟨st.m, st.tr || decide (d ≠ 0), st.dot, true, st.nd + 1, st.nm, st.dp⟩
def dotS (st : RS) : RS := ⟨st.m, st.tr, true, st.dig, st.nd, st.nm, st.nd⟩
def isD (c : UInt8) : Bool := decide (48 ≤ c.toNat) && decide (c.toNat ≤ 57)
def scan : RS → List UInt8 → RS × List UInt8
  | st, [] => (st, [])
  | st, c :: r => if c = 46 then (if st.dot then (st, c :: r) else scan (dotS st) r) else if isD c then scan (stepD st (c.toNat - 48)) r else (st, c :: r)
def decV (ds : List UInt8) : Nat := ds.foldl (fun a c => a * 10 + (c.toNat - 48)) 0
/-- What stands behind the digits. -/
def eVal : List UInt8 → Int
  | [] => 0
  | _ :: r => if r.head? = some 43 then decV r.tail else if r.head? = some 45 then -(decV r.tail : Int) else decV r
def expV (st : RS) (rest : List UInt8) : Int := if st.m ≠ 0 then (if st.dot then st.dp else (st.nd : Int)) + eVal rest - st.nm else 0
structure Inv (l : List UInt8) (stF : RS) (rest : List UInt8) (st : RS) (k : Nat) : Prop where
  sc : scan st (l.drop k) = (stF, rest)
  nm : st.nm ≤ 19
  m : st.m < 10 ^ st.nm
  nn : st.nm ≤ st.nd
  nd : st.nd ≤ k
  d0 : -(k : Int) ≤ st.dp
  d1 : st.dp ≤ k
  k : k ≤ l.length
theorem Inv.lt64 {l : List UInt8} {stF st : RS} {rest : List UInt8} {k : Nat} (h : Inv l stF rest st k) : st.m < 10000000000000000000 := by
  have := Nat.pow_le_pow_right (n := 10) (by decide) h.nm
  have := h.m
  omega
theorem c95 {c : UInt8} (h : c ≠ 95) : (true == (((UInt8.toNat c : Nat) : Int) == 95)) = false := by
  have : c.toNat ≠ 95 := fun e => h (UInt8.toNat_inj.1 e)
  rw [beq_eq_false_iff_ne]; intro e
  have := (beq_iff_eq.1 e.symm)
  omega
theorem c46 (c : UInt8) : (true == (((UInt8.toNat c : Nat) : Int) == 46)) = decide (c = 46) := by
  by_cases h : c = 46
  · subst h; rfl
  · have : c.toNat ≠ 46 := fun e => h (UInt8.toNat_inj.1 e)
    rw [decide_eq_false h, beq_eq_false_iff_ne]; intro e
    have := (beq_iff_eq.1 e.symm)
    omega
theorem Inv.step {l : List UInt8} {stF st : RS} {rest : List UInt8} {k : Nat} (h : Inv l stF rest st k) {c : UInt8} (hc : l[k]? = some c) (hd : isD c = true) (h46 : c ≠ 46) : Inv l stF rest (stepD st (c.toNat - 48)) (k + 1) := by
  have hk : k < l.length := (List.getElem?_eq_some_iff.1 hc).1
  have hdr : l.drop k = c :: l.drop (k + 1) := by
    rw [List.drop_eq_getElem_cons hk]; congr 1; exact (List.getElem?_eq_some_iff.1 hc).2
  have hs := h.sc
  rw [hdr] at hs
  simp only [scan, if_neg h46, hd, if_true] at hs
  simp only [isD, Bool.and_eq_true, decide_eq_true_eq] at hd
  have := h.nm; have := h.m; have := h.nn; have := h.nd; have := h.d0; have := h.d1
  refine ⟨hs, ?_, ?_, ?_, ?_, ?_, ?_, hk⟩
  all_goals unfold stepD
  · split
    · exact h.nm
    · split
      · show st.nm + 1 ≤ 19; omega
      · exact h.nm
  · split
    · exact h.m
    · split
      · show st.m * 10 + (c.toNat - 48) < 10 ^ (st.nm + 1)
        rw [Nat.pow_succ]; omega
      · exact h.m
  · split
    · exact h.nn
    · split
      · show st.nm + 1 ≤ st.nd + 1; omega
      · show st.nm ≤ st.nd + 1; omega
  · split
    · show st.nd ≤ k + 1; omega
    · split
      · show st.nd + 1 ≤ k + 1; omega
      · show st.nd + 1 ≤ k + 1; omega
  · split
    · show -((k + 1 : Nat) : Int) ≤ st.dp - 1; omega
    · split
      · show -((k + 1 : Nat) : Int) ≤ st.dp; omega
      · show -((k + 1 : Nat) : Int) ≤ st.dp; omega
  · split
    · show st.dp - 1 ≤ ((k + 1 : Nat) : Int); omega
    · split
      · show st.dp ≤ ((k + 1 : Nat) : Int); omega
      · show st.dp ≤ ((k + 1 : Nat) : Int); omega
theorem Inv.dots {l : List UInt8} {stF st : RS} {rest : List UInt8} {k : Nat} (h : Inv l stF rest st k) (hc : l[k]? = some 46) (hd : st.dot = false) : Inv l stF rest (dotS st) (k + 1) := by
  have hk : k < l.length := (List.getElem?_eq_some_iff.1 hc).1
  have hdr : l.drop k = 46 :: l.drop (k + 1) := by
    rw [List.drop_eq_getElem_cons hk]; congr 1; exact (List.getElem?_eq_some_iff.1 hc).2
  have hs := h.sc
  rw [hdr] at hs
  simp only [scan, if_true, hd, Bool.false_eq_true, if_false] at hs
  have := h.nd
  exact ⟨hs, h.nm, h.m, h.nn, by show st.nd ≤ k + 1; omega, by show -((k + 1 : Nat) : Int) ≤ (st.nd : Int); omega, by show (st.nd : Int) ≤ ((k + 1 : Nat) : Int); omega, hk⟩
theorem Inv.stop {l : List UInt8} {stF st : RS} {rest : List UInt8} {k : Nat} (h : Inv l stF rest st k) {c : UInt8} (hc : l[k]? = some c) (hd : (c = 46 ∧ st.dot = true) ∨ (c ≠ 46 ∧ isD c = false)) : st = stF ∧ rest = l.drop k := by
  have hk : k < l.length := (List.getElem?_eq_some_iff.1 hc).1
  have hdr : l.drop k = c :: l.drop (k + 1) := by
    rw [List.drop_eq_getElem_cons hk]; congr 1; exact (List.getElem?_eq_some_iff.1 hc).2
  have hs := h.sc
  rw [hdr] at hs ⊢
  rcases hd with ⟨rfl, hd⟩ | ⟨h46, hd⟩
  · simp only [scan, if_true, hd, Prod.mk.injEq] at hs
    exact ⟨hs.1, hs.2.symm⟩
  · simp only [scan, if_neg h46, hd, Bool.false_eq_true, if_false, Prod.mk.injEq] at hs
    exact ⟨hs.1, hs.2.symm⟩
theorem Inv.fin {l : List UInt8} {stF st : RS} {rest : List UInt8} {k : Nat} (h : Inv l stF rest st k) (hk : ¬ k < l.length) : st = stF ∧ rest = l.drop k := by
  have hdr : l.drop k = [] := List.drop_eq_nil_of_le (by omega)
  have hs := h.sc
  rw [hdr] at hs ⊢
  simp only [scan, Prod.mk.injEq] at hs
  exact ⟨hs.1, hs.2.symm⟩
/-- The exponent's text. -/
structure Expo (rest : List UInt8) (c : UInt8) (sg ds : List UInt8) : Prop where
  eq : rest = c :: (sg ++ ds)
  e : c = 101 ∨ c = 69
  sg : sg = [] ∨ sg = [43] ∨ sg = [45]
  ne : ds ≠ []
  le : ds.length ≤ 4
  dg : ∀ d ∈ ds, isD d = true
end Go.Proofs.YtfjflbapojgbhaaGreatDoor.N
