/- Package tracerylaw3: a net's twin, a mark behind its edges; is it as it was? Conditions: none. -/
import Derived.Test.YtmcloipjlihhlaaSKeep
import Derived.Test.YtmcloipjlihhlaaNKeep
set_option linter.unusedSimpArgs false
set_option linter.unusedVariables false
namespace Go.Proofs.Ytmcloipjlihhlaa.N
open Go.X Go.Proofs.Ytmcloipjlihhlaa
set_option maxRecDepth 100000

theorem cnd_neK {x y : Int} {A B : Prop} (a : x ≠ y → A) (b : x = y → B) : cnd (x != y) A B := by
  by_cases q : x = y
  · subst q; rw [bne_self_eq_false]; exact ⟨fun h => (by cases h), fun _ => b rfl⟩
  · exact ⟨fun _ => a q, fun h => absurd (by simpa using h) q⟩
theorem okSameK {g : Int} {es : List (Int × Int)} {R : Bool → Prop} (hl : es.length ≤ 1000000) (h : R true) : Ok40 g es g es R := by
  apply ok40
  unfold T40
  refine cnd_neK (fun q => absurd rfl q) fun _ => cnd_neK (fun q => absurd rfl q) fun _ => ?_
  refine ⟨fun i => ∃ j : Nat, i = j ∧ j ≤ es.length, fun i => ((es.length : Int) - i).toNat, ⟨0, rfl, Nat.zero_le _⟩, ?_⟩
  rintro _ ⟨j, rfl, hj⟩
  refine cnd_dec (fun hlt => ?_) fun hlt => h
  refine ⟨by omega, by omega, fun x hx => ⟨by omega, by omega, fun y hy => ?_⟩⟩
  obtain rfl : x = y := Option.some.inj (hx.symm.trans hy)
  rw [beq_self_eq_true, beq_self_eq_true, wr (by omega) (by omega)]
  exact cnd_not (fun q => by cases q) fun _ => ⟨⟨j + 1, by simp, by omega⟩, by dsimp only; omega⟩
end Go.Proofs.Ytmcloipjlihhlaa.N
