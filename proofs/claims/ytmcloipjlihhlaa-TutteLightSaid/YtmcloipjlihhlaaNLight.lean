/- TutteLight. Conditions: none. -/
import Derived.Test.YtmcloipjlihhlaaNBegun
namespace Go.Proofs.Ytmcloipjlihhlaa.N
open Go.X Go.Proofs.Ytmcloipjlihhlaa
set_option maxRecDepth 100000

def lightE (n : Int) (k : Nat) : Es := (List.range k).map fun (j : Nat) => (Int.tmod j n, Int.tmod ((j : Int) * 7) n)
theorem lightE_succ (n : Int) (k : Nat) : lightE n (k + 1) = lightE n k ++ [(Int.tmod k n, Int.tmod ((k : Int) * 7) n)] := by simp [lightE, List.range_succ]
theorem lightE_len (n : Int) (k : Nat) : (lightE n k).length = k := by simp [lightE]
theorem light_may {n : Int} (h1 : 1 ≤ n) (h2 : n ≤ 1024) : mayB n (lightE n 3000) = true := by
  rw [mayB_iff]
  refine ⟨by omega, by rw [lightE_len]; omega, fun e he => ?_⟩
  simp only [lightE, List.mem_map] at he
  obtain ⟨j, _, rfl⟩ := he
  rw [endB_iff]
  have a := Int.tmod_nonneg (a := (j : Int)) n (by omega)
  have b := Int.tmod_nonneg (a := (j : Int) * 7) n (by omega)
  have c := Int.tmod_lt_of_pos (j : Int) (show 0 < n by omega)
  have d := Int.tmod_lt_of_pos ((j : Int) * 7) (show 0 < n by omega)
  exact ⟨⟨a, c⟩, b, d⟩
theorem okLight {n k : Int} {R : Bool → Prop} (h : R true) : Ok10 n k R := by
  apply ok10
  unfold T10
  refine okBegun (cnd_not (fun q => absurd q (by decide)) fun _ => ⟨True, cnd_dec (fun _ => trivial) fun h1 => cnd_dec (fun _ => trivial) fun h2 => cnd_dec (fun _ => h) fun h3 => ?_, fun _ => h⟩)
  refine ⟨fun i a es => ∃ j : Nat, i = j ∧ j ≤ 3000 ∧ a = n ∧ es = lightE n j, fun i _ _ => (3000 - i).toNat, ⟨0, rfl, by omega, rfl, rfl⟩, ?_⟩
  rintro _ _ _ ⟨j, rfl, hj, rfl, rfl⟩
  rename_i n
  refine cnd_dec (fun hlt => ?_) fun hlt => ?_
  · rw [wr (x := (j : Int) * 7) (by omega) (by omega), wr (x := (j : Int) + 1) (by omega) (by omega), ← lightE_succ]
    exact ⟨by omega, by omega, by rw [lightE_len]; omega, ⟨j + 1, by simp, by omega, rfl, rfl⟩, by dsimp only; omega⟩
  · have : j = 3000 := by omega
    subst this
    refine ⟨4096 < k ∨ 16777216 < k * (n + 6000), cnd_dec (fun h4 => ?_) fun h4 => .inl (by omega), fun hk => ?_⟩
    · have hb : 0 ≤ n + 6000 ∧ n + 6000 ≤ 8000 := by omega
      have hk : 0 ≤ k * (n + 6000) ∧ k * (n + 6000) ≤ 4096 * 8000 := ⟨Int.mul_nonneg (by omega) hb.1, Int.mul_le_mul (by omega) hb.2 hb.1 (by omega)⟩
      rw [wr (x := n + 6000) (by omega) (by omega), wr (x := k * _) (by omega) (by omega)]
      exact cnd_dec (fun _ => h) fun h5 => .inr (by omega)
    · refine ⟨fun l e => l = [] ∧ e = 3, ⟨by omega, by omega, by omega, by omega, okRounds ?_⟩, ?_⟩
      · have hm := light_may (n := n) (by omega) (by omega)
        have hl1 : ((List.replicate n.toNat ((0 : Nat), (0 : Nat))).length : Int) = n := by simp; omega
        have hl2 : ((List.replicate n.toNat false).length : Int) = n := by simp; omega
        have e : roundsR n (lightE n 3000) (List.replicate n.toNat (0, 0)) (List.replicate n.toNat false) k = ([], 3) := by
          unfold roundsR
          rw [hm, hl1, hl2, lightE_len]
          have h5 : (decide (k > 4096) || decide (k * (n + 2 * ((3000 : Nat) : Int)) > 16777216)) = true := by
            rcases hk with q | q
            · simp; left; omega
            · simp; right; exact q
          rw [h5]
          have h6 : decide (k < 0) = false := by simpa using h3
          simp [h6]
        rw [e]; exact ⟨rfl, rfl⟩
      · rintro _ _ ⟨rfl, rfl⟩
        exact cnd_b (fun _ => h) (fun q => absurd q (by decide))
end Go.Proofs.Ytmcloipjlihhlaa.N
namespace Go.Proofs.Ytmcloipjlihhlaa
theorem TutteLight_ok (n k : Int) (h : Go.X.Heap) : Go.X.CallsH Try.prog 10 #[.int .i64 n, .int .i64 k] h fun v h' => Go.X.Fr [] h h' ∧ v = .bool true :=
  (N.okLight (R := fun b => b = true) rfl h (Go.X.Hp.nil h)).mono fun _ _ ⟨_, Y, e, q⟩ => ⟨Y.fr, q ▸ e⟩
end Go.Proofs.Ytmcloipjlihhlaa
