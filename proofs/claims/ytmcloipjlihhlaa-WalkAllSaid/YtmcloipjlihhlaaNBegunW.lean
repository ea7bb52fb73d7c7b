/- Law 6 begins. Conditions: none. -/
import Derived.Test.YtmcloipjlihhlaaNRing
namespace Go.Proofs.Ytmcloipjlihhlaa.N
open Go.X Go.Proofs.Ytmcloipjlihhlaa
set_option maxRecDepth 100000

theorem okEach {g s : Int} {es : Es} {R : Prop} (hR : R) : Ok173 g es s R := by
  intro h gA gL gC H
  have Y : Sy h [] h _ := Sy.startM H rfl
  obtain rfl := Y.lenV 0 rfl
  apply calls173
  unfold S173
  intro hv
  have hsz : h.size < hv.size := by simp [hv]
  have Y : Sy _ _ hv [_, _] := Y.junk _
  clear_value hv
  refine callX_sy (okBreadth (R := fun _ _ _ _ _ => True) trivial _ _ _ _ (Y.pick [0] rfl).hp) (fun _ _ ⟨_, _, _, _, _, _, _, _, _, _, _, _, _, _, _, _, _, p, _⟩ => p.fr) (allc (fun h => by cases h) alln) ?_
  rintro v hv2 ⟨raA, raL, raC, ra, raA2, raL2, raC2, ra_2, raA3, raL3, raC3, ra_3, raA4, raL4, raC4, ra_4, rb, PP, rfl, T⟩
  have hsz2 := PP.fr.size
  have Y : Sy _ _ hv2 [_, _, _, _, _, _] := Y.callV PP ⟨rfl, ⟨rfl, ⟨rfl, ⟨rfl, trivial⟩⟩⟩⟩
  clear PP
  refine ⟨_, _, _, _, _, _, _, _, _, _, _, _, rb, rfl, ?_⟩
  intro hv3
  have Y : Sy _ _ hv3 [_, _, _, _, _, _, _] := Y.newO (ty := 113) [.slice none 0 0, .slice none 0 0, .slice none 0 0, .slice none 0 0]
  clear_value hv3
  refine ⟨by omega, ⟨_, Y.cellO 6 rfl 0 rfl⟩, Y.freeO 6 rfl 0, ⟨_, Y.cellO 6 rfl 1 rfl⟩, Y.freeO 6 rfl 1, ⟨_, Y.cellO 6 rfl 2 rfl⟩, Y.freeO 6 rfl 2, ⟨_, Y.cellO 6 rfl 3 rfl⟩, Y.freeO 6 rfl 3, ?_⟩
  have Y : Sy _ _ _ [_, _, _, _, _, _, _] := ((((Y.stO 6 rfl 0 (.slice raA raL raC)).stO 6 rfl 1 (.slice raA2 raL2 raC2)).stO 6 rfl 2 (.slice raA3 raL3 raC3)).stO 6 rfl 3 (.slice raA4 raL4 raC4))
  exact ⟨_, _, _, Y.pick [] rfl, rfl, hR⟩
/-- Components by breadth first: it can be computed. -/
def pB (g : Int) (es : Es) : Nat → List Int × Nat
  | 0 => (List.replicate g.toNat (-1), 0)
  | k + 1 => if 0 ≤ (pB g es k).1.getD k 0 then pB g es k else (fillAll (pB g es k).2 (pB g es k).1 (bfs g es k).ord, (pB g es k).2 + 1)
theorem pB_eq {g : Int} {es : Es} (m : MayN g es) : ∀ k, k ≤ g.toNat → pK g es k = pB g es k
  | 0, _ => rfl
  | k + 1, hk => by
    have e := pB_eq m k (by omega)
    have p := pK_PI (g := g) es k (by omega)
    rw [pK, pB, ← e]
    by_cases h : 0 ≤ (pK g es k).1.getD k 0
    · rw [pStep_old h, if_pos h]
    · rw [pStep_bfs m (by omega) h p.len, if_neg h]
abbrev rg : Es := [(0, 1), (1, 2), (2, 0), (1, 0)]
theorem rg_may : mayB 4 rg = true := by decide
theorem rg_faulty : faultyE 4 rg 0 = 0 := by decide
theorem rg_breadth : (breadthR 4 rg 0).ord = [0, 1, 2] := by kernel_rfl
theorem rg_depth : (dfs 4 rg 0).low = [0, 0, 0, -1] := by kernel_rfl
theorem rg_parts : parts 4 rg = ([0, 0, 0, 1], 2) := by
  unfold parts
  rw [pB_eq (mayN rg_may) _ (Nat.le_refl _)]
  kernel_rfl
theorem rg_ring : ringM 4 rg = ([0, 6], 0) := by kernel_rfl
theorem rg_sides : sidesM 4 rg = ([], [2, 4, 0]) := by kernel_rfl
theorem okNet4 {R : Int → Es → Prop} (h : R 4 rg) : Ok172 R := by
  apply ok172
  unfold T172
  exact h
theorem okBegunW {R : Bool → Prop} (h : R true) : Ok80 R := by
  apply ok80
  unfold T80
  refine okNet4 (okBreadth (okNet4 (okDepth (fun q => absurd rg_faulty q) fun _ => okNet4 (okParts (fun q => absurd rg_may (by rw [q]; decide)) fun _ => okNet4 (okRing (fun q => absurd rg_may (by rw [q]; decide)) fun _ => okNet4 (okSides (fun q => absurd rg_may (by rw [q]; decide)) fun _ => okNet4 (okEach ?_)))))))
  rw [rg_breadth, rg_faulty, rg_depth, rg_parts, rg_ring, rg_sides]
  refine ⟨fun q => (by cases q), fun _ => ⟨fun _ => ⟨fun _ => ⟨fun _ => ⟨by decide, by decide, fun x hx => ?_⟩, fun q => absurd q (by decide)⟩, fun q => absurd q (by decide)⟩, fun q => absurd q (by decide)⟩⟩
  have hx : x = 0 := (Option.some.inj hx).symm
  subst hx
  refine ⟨fun _ => ⟨fun _ => ⟨fun _ => ⟨by decide, by decide, fun x hx => ?_⟩, fun q => absurd q (by decide)⟩, fun q => absurd q (by decide)⟩, fun q => absurd q (by decide)⟩
  have hx : x = 1 := (Option.some.inj hx).symm
  subst hx
  exact ⟨fun _ => ⟨fun _ => ⟨fun _ => ⟨fun _ => ⟨fun _ => ⟨fun _ => ⟨fun _ => h, fun q => absurd q (by decide)⟩, fun q => absurd q (by decide)⟩, fun q => absurd q (by decide)⟩, fun q => absurd q (by decide)⟩, fun q => absurd q (by decide)⟩, fun q => absurd q (by decide)⟩, fun q => absurd q (by decide)⟩
end Go.Proofs.Ytmcloipjlihhlaa.N
