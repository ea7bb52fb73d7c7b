/- WeighOrder, WeighSums: the plain laws. Conditions: none. -/
import Derived.Test.YtfjflbapojgbhaaGreatDoorWMono
namespace Go.Proofs.YtfjflbapojgbhaaGreatDoor.N
open Go.X Go.Proofs.YtfjflbapojgbhaaGreatDoor
set_option maxRecDepth 100000
set_option maxHeartbeats 1000000

theorem less_key {a b : Nat} (ha : isNaN a = false) (hb : isNaN b = false) : lessW a b = decide (key a < key b) := by
  unfold lessW; rw [ha, hb, if_neg (by decide), if_neg (by decide), order_lt ha hb]
theorem less_self (a : Nat) : lessW a a = false := by
  cases h : isNaN a
  · rw [less_key h h]; exact decide_eq_false (by omega)
  · unfold lessW; rw [h]; rfl
theorem less_asym {a b : Nat} (h : lessW a b = true) : lessW b a = false := by
  cases ha : isNaN a
  · cases hb : isNaN b
    · rw [less_key ha hb] at h; rw [less_key hb ha]
      have := of_decide_eq_true h
      exact decide_eq_false (by omega)
    · unfold lessW; rw [hb]; rfl
  · unfold lessW at h; rw [ha] at h; cases h
theorem less_trans {a b c : Nat} (h1 : lessW a b = true) (h2 : lessW b c = true) : lessW a c = true := by
  cases ha : isNaN a
  · cases hb : isNaN b
    · cases hc : isNaN c
      · rw [less_key ha hb] at h1; rw [less_key hb hc] at h2; rw [less_key ha hc]
        have := of_decide_eq_true h1; have := of_decide_eq_true h2
        exact decide_eq_true (by omega)
      · unfold lessW; rw [ha, hc]; rfl
    · unfold lessW at h2; rw [hb] at h2; cases h2
  · unfold lessW at h1; rw [ha] at h1; cases h1
theorem okOrder {a b c : Int} {R : Bool → Prop} (r : R true) : Ok5 a b c R := by
  apply ok5; unfold T5
  refine ok9' (cnd_f rfl (callE_of (from13 _) ⟨_, rfl, callE_of (from13 _) ⟨_, rfl, callE_of (from13 _) ⟨_, rfl, ?_⟩⟩⟩))
  generalize a.toNat = x
  generalize b.toNat = y
  generalize c.toNat = z
  refine ⟨True, ⟨True, ⟨fun q => q = false, ⟨False, ok14' (cnd_f (less_self x) (ok14' (cnd_b (fun h1 => ok14' (cnd_f (less_asym h1) (ok14' (cnd_b (fun h => ok14' (cnd_b (fun h2 => ok14' ?_) fun _ => trivial)) fun _ => trivial)))) fun h1 => ok14' (cnd_f h1 trivial)))), fun h => h.elim⟩, ?_⟩, fun _ => trivial⟩, fun _ => ?_⟩
  · rw [less_trans h h2]; rfl
  · rintro _ rfl
    exact cnd_f rfl trivial
  refine ok15' (cnd_b (fun hx => ok14' ?_) fun hx => ⟨False, ⟨fun q => q = true, ok15' (cnd_b (fun hy => ok14' (cnd_t ?_ r)) fun hy => ok15' (cnd_t (by rw [hy]; rfl) (ok14' ?_))), ?_⟩, fun h => h.elim⟩)
  · have : lessW x y = false := by unfold lessW; rw [hx]; rfl
    rw [this]; exact r
  · unfold lessW; rw [hx, hy]; rfl
  · unfold lessW; rw [hx, hy, if_neg (by decide), if_neg (by decide)]
    simp
  · rintro _ rfl; exact r
end Go.Proofs.YtfjflbapojgbhaaGreatDoor.N
