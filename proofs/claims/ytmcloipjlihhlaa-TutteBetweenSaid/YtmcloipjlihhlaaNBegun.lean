/- Law 28 begins. Conditions: none. -/
import Derived.Test.YtmcloipjlihhlaaNPath
namespace Go.Proofs.Ytmcloipjlihhlaa.N
open Go.X Go.Proofs.Ytmcloipjlihhlaa
set_option maxRecDepth 100000

theorem begun_rounds : roundsR 3 (pathE 2) [(0, 0), (4621256167635550208, 4621256167635550208), (4611686018427387904, 4616189618054758400)] [true, false, true] 1 = ([(0, 0), (4607182418800017408, 4611686018427387904), (4611686018427387904, 4616189618054758400)], 0) := by kernel_rfl
theorem begun_snap : snapR [(4602678819172646912, 4609434218613702656)] 4607182418800017408 = ([(0, 2)], 0) := by kernel_rfl
theorem begun_moved : movedR [(4607182418800017408, 4611686018427387904)] [(0, 0)] = (4611686018427387904, 0) := by kernel_rfl
theorem okBegun {R : Bool → Prop} (h : R true) : Ok42 R := by
  apply ok42
  unfold T42
  have e : sizedM 1 [3] 3 (IntKind.i64.wrap (3 - 1)) = 0 := by decide
  refine okPath (fun q => absurd e q) fun _ => okRounds ?_
  rw [show Int.toNat 3 - 1 = 2 from rfl, begun_rounds]
  refine okSnap ?_
  rw [begun_snap]
  refine okMoved (by decide) ?_
  rw [begun_moved]
  refine cnd_b (fun _ => ⟨by decide, by decide, fun x hx => ?_⟩) (fun q => absurd q (by decide))
  have hx : x = (4607182418800017408, 4611686018427387904) := (Option.some.inj hx).symm
  subst hx
  refine cnd_b (fun _ => cnd_b (fun _ => cnd_b (fun _ => ⟨by decide, by decide, fun y hy => ?_⟩) (fun q => absurd q (by decide))) (fun q => absurd q (by decide))) (fun q => absurd q (by decide))
  have hy : y = (0, 2) := (Option.some.inj hy).symm
  subst hy
  exact cnd_b (fun _ => cnd_b (fun _ => cnd_b (fun _ => h) (fun q => absurd q (by decide))) (fun q => absurd q (by decide))) (fun q => absurd q (by decide))
end Go.Proofs.Ytmcloipjlihhlaa.N
