/- Slices of numbers that come in, with what their kind bounds. Conditions: none. -/
import Derived.Test.YtfjflbapojgbhaaGreatDoorXOpen2
namespace Go.X
open Go.ChangeShapes Go.WideShapes Go.ChangeAt Go.RowKit Go.Deep

section
variable {H : Type} {enc : TypeId × Value → H} {P : Program} {W : World} {base : Nat}
end
end Go.X
