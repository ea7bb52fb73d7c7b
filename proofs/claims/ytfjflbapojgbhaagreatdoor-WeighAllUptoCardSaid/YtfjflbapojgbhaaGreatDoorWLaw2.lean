/- WeighAll: the plain law. Conditions: none. -/
import Derived.Test.YtfjflbapojgbhaaGreatDoorWLaw1
namespace Go.Proofs.YtfjflbapojgbhaaGreatDoor.N
open Go.X Go.Proofs.YtfjflbapojgbhaaGreatDoor
set_option maxRecDepth 100000
set_option maxHeartbeats 1000000

theorem wrapJ {i : Int} (h0 : 0 ≤ i) (h1 : i < 1000000000000) : IntKind.i64.wrap (i + (1 : Int)) = i + 1 := wr (by omega) (by omega)
theorem ok17' {us : List Int} {R : List Nat → Prop} (hl : us.length < 1000000000000) (r : R (us.map Int.toNat)) : Ok17 us R := by
  apply ok17; unfold T17
  refine ⟨fun l i => 0 ≤ i ∧ i ≤ us.length ∧ l = (us.take i.toNat).map Int.toNat, fun _ i => us.length - i.toNat, ⟨by omega, by omega, rfl⟩, ?_⟩
  rintro _ i ⟨h0, h1, rfl⟩
  refine cnd_dec (fun h => ⟨h0, h, fun u hu => callE_of (from13 u) ⟨_, rfl, ?_, ⟨?_, ?_, ?_⟩, ?_⟩⟩) fun h => ?_
  · rw [List.length_map, List.length_take]; omega
  · rw [wrapJ h0 (by omega)]; (try dsimp only); omega
  · rw [wrapJ h0 (by omega)]; (try dsimp only); omega
  · rw [wrapJ h0 (by omega), show (i + 1).toNat = i.toNat + 1 by omega, List.take_add_one, hu, List.map_append]; rfl
  · rw [wrapJ h0 (by omega)]; (try dsimp only); omega
  · have : i.toNat = us.length := by omega
    rw [this, List.take_length]; exact r
theorem has_no {l : List UInt8} (h : Lib.NoAny l [46, 101] l.length) : hasDE l = false := by
  unfold hasDE Lib.containsAny; rw [Lib.indexAny_none h]; rfl
theorem has_hit {l : List UInt8} {i : Nat} {x : UInt8} (h : l[i]? = some x) (hx : x = 46 ∨ x = 101) : hasDE l = true := by
  cases hh : hasDE l with
  | true => rfl
  | false =>
    exfalso
    have hn : Lib.indexAny l [46, 101] < 0 := by unfold hasDE Lib.containsAny at hh; exact Int.not_le.1 (of_decide_eq_false hh)
    have gen : ∀ (l : List UInt8) (i : Nat), l[i]? = some x → 0 ≤ Lib.indexAny l [46, 101] := by
      intro l
      induction l with
      | nil => intro i h; simp at h
      | cons b l ih =>
        intro i h
        unfold Lib.indexAny
        cases i with
        | zero =>
          simp at h; subst h
          rw [if_pos (by rcases hx with rfl | rfl <;> decide)]; decide
        | succ i =>
          have := ih i (by simpa using h)
          split
          · decide
          · rw [if_neg (by simp; omega)]; omega
    have := gen l i h
    omega
theorem ok22' {x : Nat} {R : ByteArray → Prop} (hx : x < 18446744073709551616) (r : R (textM x)) : Ok22 x R := by
  apply ok22; unfold T22
  rw [order_ne]
  unfold textM at r
  refine cnd_b (fun h => ?_) fun h => ok29p (cnd_b (fun h2 => ?_) fun h2 => ok29n (cnd_b (fun h3 => ?_) fun h3 => ?_))
  · rw [if_pos h] at r; exact r
  · rw [if_neg (by rw [h]; decide), if_pos h2] at r; exact r
  · rw [if_neg (by rw [h]; decide), if_neg (by rw [h2]; decide), if_pos h3] at r; exact r
  rw [if_neg (by rw [h]; decide), if_neg (by rw [h2]; decide), if_neg (by rw [h3]; decide)] at r
  have hf := fin_of h h2 h3
  obtain ⟨b1, b2⟩ := txt_bytes hf
  refine ok33' hx hf ?_
  generalize strOf (txtF x) = w at *
  have hsz : w.size = w.data.toList.length := rfl
  refine ⟨fun i => 0 ≤ i ∧ i ≤ w.size ∧ Lib.NoAny w.data.toList [46, 101] i.toNat, fun i => w.size - i.toNat, ⟨by omega, by omega, Lib.NoAny.zero _ _⟩, ?_⟩
  rintro i ⟨h0, h1, hN⟩
  refine cnd_dec (fun hi => ?_) fun hi => ⟨?_, ?_⟩
  · have hil : i.toNat < w.data.toList.length := by omega
    obtain ⟨c, hc⟩ : ∃ c, w.data.toList[i.toNat]? = some c := ⟨_, List.getElem?_eq_getElem hil⟩
    have hcw : w[i.toNat]? = some c := by rw [getB]; exact hc
    refine ⟨h0, hi, c, hcw, cnd_eq (fun e => ?_) fun n1 => ⟨h0, hi, c, hcw, cnd_eq (fun e => ?_) fun n2 => ⟨⟨?_, ?_, ?_⟩, ?_⟩⟩⟩
    · rw [if_pos (has_hit hc (.inl (eqB.1 e)))] at r; exact r
    · rw [if_pos (has_hit hc (.inr (eqB.1 e)))] at r; exact r
    · rw [wrapJ h0 (by omega)]; (try dsimp only); omega
    · rw [wrapJ h0 (by omega)]; (try dsimp only); omega
    · rw [wrapJ h0 (by omega), show (i + 1).toNat = i.toNat + 1 by omega]
      refine hN.succ hc ?_
      have m1 : c ≠ 46 := fun e => n1 (eqB.2 e)
      have m2 : c ≠ 101 := fun e => n2 (eqB.2 e)
      simp [m1, m2]
    · rw [wrapJ h0 (by omega)]; (try dsimp only); omega
  · have : (⟨#[46, 48]⟩ : ByteArray).size = 2 := rfl
    omega
  · have e : i.toNat = w.data.toList.length := by omega
    rw [e] at hN
    rw [if_neg (by rw [has_no hN]; decide)] at r; exact r
theorem okAll {us : List Int} {R : Bool → Prop} (hl : us.length < 1000000000000) (hu : ∀ u ∈ us, 0 ≤ u ∧ u < 18446744073709551616) (r : R true) : Ok7 us R := by
  apply ok7; unfold T7
  refine ok9' (cnd_f rfl (ok17' hl ?_))
  have hx : ∀ (i : Nat) (x : Nat), (us.map Int.toNat)[i]? = some x → x < 18446744073709551616 := by
    intro i x h
    rw [List.getElem?_map] at h
    obtain ⟨u, h1, rfl⟩ := Option.map_eq_some_iff.1 h
    have := hu u (List.mem_of_getElem? h1)
    omega
  generalize us.map Int.toNat = xs at *
  refine ⟨True, ⟨fun i => 0 ≤ i ∧ i ≤ 30, fun i => 30 - i.toNat, ⟨by omega, by omega⟩, ?_⟩, fun _ => r⟩
  rintro i ⟨h0, h1⟩
  refine cnd_dec (fun hi => cnd_dec (fun hi2 => ?_) fun _ => trivial) fun _ => trivial
  refine ⟨True, ⟨False, ⟨h0, hi, fun x ex => ?_⟩, fun h => h.elim⟩, fun _ => ?_⟩
  · have hxx := hx _ _ ex
    refine ok18' (ok19' (cnd_f (by rw [beq_self_eq_true]; rfl) (ok20' (ok21' (ok12' (cnd_f (by rw [beq_self_eq_true]; rfl) (ok16' hxx (ok22' hxx (cnd_f (by rw [beq_self_eq_true]; rfl) ?_)))))))))
    refine ⟨fun k => 0 ≤ k ∧ k ≤ 30, fun k => 30 - k.toNat, ⟨by omega, by omega⟩, ?_⟩
    rintro k ⟨k0, k1⟩
    refine cnd_dec (fun hk => cnd_dec (fun hk2 => ⟨k0, hk, fun y ey => ?_⟩) fun _ => trivial) fun _ => trivial
    refine ok23' (ok24' (ok12' (cnd_f (by rw [beq_self_eq_true]; rfl) (ok14' (ok25' (cnd_f (by rw [beq_self_eq_true]; rfl) ⟨⟨?_, ?_⟩, ?_⟩))))))
    · rw [wrapJ k0 (by omega)]; (try dsimp only); omega
    · rw [wrapJ k0 (by omega)]; (try dsimp only); omega
    · rw [wrapJ k0 (by omega)]; (try dsimp only); omega
  · rw [wrapJ h0 (by omega)]
    exact ⟨⟨by omega, by omega⟩, by dsimp only; omega⟩
end Go.Proofs.YtfjflbapojgbhaaGreatDoor.N
