/- Package kura: what it answers; what is begun. Conditions: none. -/
import Derived.Test.YtmcloipjlihhlaaNKuraG
import Derived.Test.YtmcloipjlihhlaaTKuraL
import Derived.Test.YtmcloipjlihhlaaNKinds2
set_option linter.unusedSimpArgs false
set_option linter.unusedVariables false
namespace Go.Proofs.Ytmcloipjlihhlaa.N
open Go.X Go.Proofs.Ytmcloipjlihhlaa
set_option maxRecDepth 100000

section
variable {g : Int} {es : Es} {sel : List Int}
theorem okKindK {R : Int → Int → Prop} (hs : sel.length ≤ 1000000) (b0 : mayB g es = false → R 0 1) (bad : mayB g es = true → ¬ ChosenK es.length sel → R 0 2 ∧ R 0 18)
    (z : mayB g es = true → ChosenK es.length sel → (¬ ∃ k b p, Good g es sel k b p) → R 0 0) (s : mayB g es = true → ChosenK es.length sel → ∀ k b p, Good g es sel k b p → R k 0) : Ok64 g es sel R := by
  apply ok64
  unfold T64
  refine okFaultyK hs (fun q => cnd_ne (fun _ => b0 q) fun z => absurd z (by decide)) (fun q c => ⟨cnd_ne (fun _ => (bad q c).1) fun z => absurd z (by decide), cnd_ne (fun _ => (bad q c).2) fun z => absurd z (by decide)⟩) fun q c => cnd_ne (fun z => absurd rfl z) fun _ => ?_
  exact okOf (mayN q) c hs (fun n _ _ => z q c n) fun k b p y => s q c k b p y
/-- A form that is one. -/
theorem okFound {k : Int} {b : List Int} {p : List (List Int)} {R : Bool → Int → List (List Int) → List Int → List (List Int) → Int → Int → Prop} (hs : sel.length ≤ 1000000) (q : mayB g es = true) (c : ChosenK es.length sel) (hk : k ≠ 0) (y : Good g es sel k b p)
    (u : ∀ k' b' p', Good g es sel k' b' p' → R false g (outsF g es sel) b' p' k' 0) : Ok158 g es sel R := by
  apply ok158
  unfold T158
  refine okFaultyK hs (fun w => by rw [q] at w; cases w) (fun _ w => absurd c w) fun _ _ => cnd_ne (fun z => absurd rfl z) fun _ => ?_
  refine okOf (mayN q) c hs (fun n => absurd ⟨k, b, p, y⟩ n) fun k' b' p' y' => cnd_eq (fun z => ?_) fun _ => u k' b' p' y'
  rcases y' with ⟨e, _⟩ | ⟨e, _⟩ <;> rw [e] at z <;> cases z
end
theorem okUpto {n : Int} {R : List Int → Prop} (h0 : 0 ≤ n) (h1 : n ≤ 1000000) (h : R ((List.range n.toNat).map fun i : Nat => (i : Int))) : Ok111 n R := by
  apply ok111
  unfold T111
  refine ⟨fun l i => ∃ k : Nat, i = k ∧ (k : Int) ≤ n ∧ l = (List.range k).map fun i : Nat => (i : Int), fun _ i => (n - i).toNat, ⟨0, rfl, h0, rfl⟩, ?_⟩
  rintro _ _ ⟨k, rfl, hk, rfl⟩
  refine cnd_dec (fun hlt => ⟨by simp; omega, ?_⟩) fun hlt => ?_
  · rw [wr (by omega) (by omega)]
    refine ⟨⟨k + 1, by simp, by omega, ?_⟩, by dsimp only; omega⟩
    rw [List.range_succ, List.map_append]; rfl
  · have : k = n.toNat := by omega
    subst this; exact h
def k5 : Es := [(0, 1), (0, 2), (0, 3), (0, 4), (1, 2), (1, 3), (1, 4), (2, 3), (2, 4), (3, 4)]
def k33 : Es := [(0, 3), (0, 4), (0, 5), (1, 3), (1, 4), (1, 5), (2, 3), (2, 4), (2, 5)]
def sel10 : List Int := [0, 1, 2, 3, 4, 5, 6, 7, 8, 9]
def sel9 : List Int := [0, 1, 2, 3, 4, 5, 6, 7, 8]
theorem k5_may : mayB 5 k5 = true := by decide
theorem k33_may : mayB 6 k33 = true := by decide
theorem sel10_ok : ChosenK k5.length sel10 := ⟨by decide, by decide⟩
theorem sel9_ok : ChosenK k33.length sel9 := ⟨by decide, by decide⟩
def selB (es : Es) (paths : List (List Int)) (pairs : List (Int × Int)) (ix : List Nat) : Bool := (List.range ix.length).all fun j => decide (betw es paths (pairs.getD j (0, 0)).1 (pairs.getD j (0, 0)).2 = some (ix.getD j 0))
theorem sel_of {es : Es} {paths : List (List Int)} {pairs : List (Int × Int)} {ix : List Nat} (h : selB es paths pairs ix = true) : Sel es paths pairs ix := by
  intro j i q hj hq
  unfold selB at h
  rw [List.all_eq_true] at h
  have hlt := (List.getElem?_eq_some_iff.1 hj).1
  have := of_decide_eq_true (h j (List.mem_range.2 hlt))
  rw [List.getD_eq_getElem?_getD, List.getD_eq_getElem?_getD, hj, hq] at this
  exact this
def allB (outs : List (List Int)) (d : Int) : Bool := outs.all fun l => !brP l || decide ((l.length : Int) = d)
theorem all_of {outs : List (List Int)} {d : Int} (h : allB outs d = true) : ∀ (v : Nat) (l : List Int), outs[v]? = some l → brP l = true → (l.length : Int) = d := by
  intro v l hv hp
  unfold allB at h
  rw [List.all_eq_true] at h
  have := h l (List.mem_of_getElem? hv)
  rw [hp] at this
  simpa using this
theorem k5_good : ∃ p, p.length = 10 ∧ Good 5 k5 sel10 5 [0, 1, 2, 3, 4] p := by
  refine ⟨_, ?_, .inl ⟨rfl, ⟨.inl ⟨rfl, rfl⟩, all_of (by decide +kernel), by decide +kernel⟩, by decide +kernel, [0, 1, 2, 3, 5, 6, 7, 10, 11, 15], by decide +kernel, sel_of (by decide +kernel), rfl⟩⟩
  rfl
end Go.Proofs.Ytmcloipjlihhlaa.N
