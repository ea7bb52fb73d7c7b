/- A text of the form of a number is one that the scan reads to its end. Conditions: none. -/
import Derived.Test.YtfjflbapojgbhaaGreatDoorWTop2
namespace Go.Proofs.YtfjflbapojgbhaaGreatDoor.N
open Go.X Go.Proofs.YtfjflbapojgbhaaGreatDoor
set_option maxRecDepth 100000
set_option maxHeartbeats 1000000

end Go.Proofs.YtfjflbapojgbhaaGreatDoor.N
