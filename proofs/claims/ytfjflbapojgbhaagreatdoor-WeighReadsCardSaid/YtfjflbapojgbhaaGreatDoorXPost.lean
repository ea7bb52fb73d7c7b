/- From a contract over heaps to what a row asks of a call that leaves all as it was. Conditions: none. -/
import Derived.Test.YtfjflbapojgbhaaGreatDoorXU
import Derived.WalkKit
import Derived.ProofKit
import Derived.OpenShut
namespace Go.X
open Go.ChangeShapes Go.WideShapes Go.ChangeAt Go.RowKit

end Go.X
