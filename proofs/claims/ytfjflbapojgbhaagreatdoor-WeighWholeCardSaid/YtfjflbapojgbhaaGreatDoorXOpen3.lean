/- Slices of numbers that come in, with what their kind bounds. Conditions: none. -/
import Derived.Test.YtfjflbapojgbhaaGreatDoorXOpen2
namespace Go.X
open Go.ChangeShapes Go.WideShapes Go.ChangeAt Go.RowKit Go.Deep

def eR (k : IntKind) : En {x : Int // (Lit.int k x).wf = true} := ⟨1, fun x => [.int k x.1], by decide, fun _ => rfl, fun x v h => by simp at h; subst h; rfl⟩
section
variable {H : Type} {enc : TypeId × Value → H} {P : Program} {W : World} {base : Nat}
end
end Go.X
