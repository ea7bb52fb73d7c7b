/- The law of the maker: each kind of net is the document's, each time anew. Conditions: none. -/
import Derived.Test.YtmcloipjlihhlaaNKinds3
set_option linter.unusedSimpArgs false
set_option linter.unusedVariables false
namespace Go.Proofs.Ytmcloipjlihhlaa.N
open Go.X Go.Proofs.Ytmcloipjlihhlaa
set_option maxRecDepth 100000

theorem okSpoilE {g : Int} {es : Es} {R : Prop} (hl : es.length ≤ 1000000) (h : R) : Ok41 g es R := by
  apply ok41
  unfold T41
  intro cap hcap
  apply ok139
  unfold T139
  rw [wr (by omega) (by omega)]
  generalize hr : (if (es.length : Int) + 2000 < ((cap : Nat) : Int) then (es.length : Int) + 2000 else ((cap : Nat) : Int)) = r
  have hr2 : r ≤ es.length + 2000 := by rw [← hr]; split <;> omega
  refine ⟨fun _ l => l.length ≤ es.length + 2000, fun _ l => (r - l.length).toNat, by omega, ?_⟩
  rintro _ l hll
  refine cnd_dec (fun hlt => ⟨by omega, by dsimp only; rw [List.length_append, List.length_singleton]; omega, by dsimp only; rw [List.length_append, List.length_singleton]; omega⟩) fun _ => ?_
  refine ⟨fun i c => ∃ j : Nat, i = j ∧ j ≤ l.length ∧ c.length = l.length, fun i _ => ((l.length : Int) - i).toNat, ⟨0, rfl, Nat.zero_le _, rfl⟩, ?_⟩
  rintro _ c ⟨j, rfl, hj, hc⟩
  refine cnd_dec (fun hlt => ?_) fun _ => h
  rw [wr (by omega) (by omega)]
  exact ⟨by omega, by omega, ⟨j + 1, by simp, by omega, by simpa using hc⟩, by dsimp only; omega⟩
theorem each {α : Type} {P : α → Prop} {x : α} {l : List α} (h0 : P x) (h : ∀ (j : Nat) (y : α), l[j]? = some y → P y) : ∀ (j : Nat) (y : α), (x :: l)[j]? = some y → P y
  | 0, y, e => by rw [List.getElem?_cons_zero] at e; exact Option.some.inj e ▸ h0
  | j + 1, y, e => h j y (by simpa using e)
end Go.Proofs.Ytmcloipjlihhlaa.N
namespace Go.Proofs.Ytmcloipjlihhlaa
end Go.Proofs.Ytmcloipjlihhlaa
