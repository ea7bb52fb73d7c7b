/- What a bound on bulk says of lengths. Conditions: none. -/
import Derived.Test.YtfjflbapojgbhaaGreatDoorRows
import Derived.Test.YtfjflbapojgbhaaGreatDoorXOpen2
import Derived.JoinedCond
namespace Go.Proofs.YtfjflbapojgbhaaGreatDoor
end Go.Proofs.YtfjflbapojgbhaaGreatDoor
