/- What every law of this package asks first: some numbers are read and written. Conditions: none. -/
import Derived.Test.YtfjflbapojgbhaaGreatDoorWRd
namespace Go.Proofs.YtfjflbapojgbhaaGreatDoor.N
open Go.X Go.Proofs.YtfjflbapojgbhaaGreatDoor
set_option maxRecDepth 100000
set_option maxHeartbeats 1000000

def s150 : ByteArray := ⟨#[43, 49, 46, 53, 48]⟩
theorem txt150 : Txt s150 ⟨150, false, true, true, 3, 3, 1⟩ [] :=
  ⟨by decide, ⟨43, [49, 46, 53, 48], rfl, .inr ⟨.inl rfl, 49, [46, 53, 48], rfl, by decide⟩⟩, by decide, rfl, rfl, .inl rfl⟩
theorem val150 : (atofV 150 (-2) false).1 = 4609434218613702656 := by decide +kernel
theorem p150 : P37 s150 4609434218613702656 := by
  have := P37.of txt150 rfl
  rwa [show expV (⟨150, false, true, true, 3, 3, 1⟩ : RS) [] = -2 from by decide, show (sgnOf s150.data.toList).1 = false from by decide, val150] at this
theorem d01 : dOf 4591870180066957722 = 1000000000000000 ∧ pOf 4591870180066957722 = -16 := by decide +kernel
theorem d1 : dOf 4607182418800017408 = 1000000000000000 ∧ pOf 4607182418800017408 = -15 := by decide +kernel
theorem n16 : ndg 1000000000000000 = 16 := by
  unfold ndg
  rw [if_neg (by decide)]
  exact Lib.nDigits_unique 15 _ (by decide) (by decide)
theorem t01 : txtF 4591870180066957722 = [48, 46, 49] := by
  unfold txtF
  rw [if_neg (by decide)]
  unfold LOf dpOf
  rw [d01.1, d01.2, n16]
  decide +kernel
theorem t1 : txtF 4607182418800017408 = [49] := by
  unfold txtF
  rw [if_neg (by decide)]
  unfold LOf dpOf
  rw [d1.1, d1.2, n16]
  decide +kernel
theorem text01 : (textM 4591870180066957722).data.toList = [48, 46, 49] := by
  unfold textM
  rw [if_neg (by decide), if_neg (by decide +kernel), if_neg (by decide +kernel), t01, if_pos (by decide)]
  decide
theorem text1 : (textM 4607182418800017408).data.toList = [49, 46, 48] := by
  unfold textM
  rw [if_neg (by decide), if_neg (by decide +kernel), if_neg (by decide +kernel), t1, if_neg (by decide)]
  decide
theorem ok9' {R : Bool → Prop} (r : R true) : Ok9 R := by
  apply ok9; unfold T9
  refine ok10' (s := s150) (V := 4609434218613702656) (by decide) (fun _ _ => p150) ?_
  rw [show readV s150.data.toList 4609434218613702656 = (4609434218613702656, 0) from by decide +kernel]
  refine ok10' (s := ⟨#[105, 110, 102]⟩) (V := 0) (by decide) (fun h => absurd h (by decide)) ?_
  rw [show readV (⟨#[105, 110, 102]⟩ : ByteArray).data.toList 0 = (0, 17) from by decide +kernel]
  refine ⟨False, ok18' (cnd_t (by decide) (ok18' (cnd_t (by decide) (ok16' (by decide) ?_)))), fun h => h.elim⟩
  rw [strEq, text01]
  refine cnd_t (by decide) (ok16' (by decide) ?_)
  rw [strEq, text1]
  refine cnd_t (by decide) (cnd_t (by decide) (cnd_t (by decide) (cnd_t (by decide) (ok14' ?_))))
  rw [show lessW 4607182418800017408 4611686018427387904 = true from by decide]
  exact r
end Go.Proofs.YtfjflbapojgbhaaGreatDoor.N
