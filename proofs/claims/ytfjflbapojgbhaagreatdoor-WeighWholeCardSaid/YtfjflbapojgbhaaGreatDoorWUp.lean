/- Upto statements over laid tables: the witness, and what a bound on bulk says of texts. Conditions: none. -/
import Derived.Test.YtfjflbapojgbhaaGreatDoorWGlOf
import Derived.Test.YtfjflbapojgbhaaGreatDoorXOpen3
import Derived.Test.YtfjflbapojgbhaaGreatDoorXBulk
import Derived.Deep.DeepHandedRow
namespace Go.X
open Go.ChangeShapes Go.WideShapes Go.ChangeAt Go.RowKit Go.Deep
section
variable {H : Type} {enc : TypeId × Value → H} {P : Program} {W : World} {base : Nat}
end
theorem wf_u32 {x : Int} (h : (Lit.int .u32 x).wf = true) : 0 ≤ x ∧ x < 4294967296 := by
  simp only [Lit.wf, Bool.and_eq_true, decide_eq_true_eq] at h
  have e1 : IntKind.u32.min = 0 := by decide
  have e2 : IntKind.u32.max = 4294967295 := by decide
  omega
theorem wf_b8 {x : Int} (h : (Lit.int .u8 x).wf = true) : 0 ≤ x ∧ x < 256 := by
  simp only [Lit.wf, Bool.and_eq_true, decide_eq_true_eq] at h
  have e1 : IntKind.u8.min = 0 := by decide
  have e2 : IntKind.u8.max = 255 := by decide
  omega
end Go.X
namespace Go.Proofs.YtfjflbapojgbhaaGreatDoor
end Go.Proofs.YtfjflbapojgbhaaGreatDoor
