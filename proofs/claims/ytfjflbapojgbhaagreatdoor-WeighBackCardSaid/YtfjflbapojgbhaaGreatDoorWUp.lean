/- Upto statements over laid tables: the witness, and what a bound on bulk says of texts. Conditions: none. -/
import Derived.Test.YtfjflbapojgbhaaGreatDoorWGlOf
import Derived.Test.YtfjflbapojgbhaaGreatDoorXOpen3
import Derived.Test.YtfjflbapojgbhaaGreatDoorXBulk
import Derived.Deep.DeepHandedRow
namespace Go.X
open Go.ChangeShapes Go.WideShapes Go.ChangeAt Go.RowKit Go.Deep
section
variable {H : Type} {enc : TypeId × Value → H} {P : Program} {W : World} {base : Nat}
end
theorem wf_u64 {x : Int} (h : (Lit.int .u64 x).wf = true) : 0 ≤ x ∧ x < 18446744073709551616 := by
  simp only [Lit.wf, Bool.and_eq_true, decide_eq_true_eq] at h
  have e1 : IntKind.u64.min = 0 := by decide
  have e2 : IntKind.u64.max = 18446744073709551615 := by decide
  omega
end Go.X
namespace Go.Proofs.YtfjflbapojgbhaaGreatDoor
end Go.Proofs.YtfjflbapojgbhaaGreatDoor
