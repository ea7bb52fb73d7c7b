/- WeighOrder, WeighSums: the plain laws. Conditions: none. -/
import Derived.Test.YtfjflbapojgbhaaGreatDoorWMono
namespace Go.Proofs.YtfjflbapojgbhaaGreatDoor.N
open Go.X Go.Proofs.YtfjflbapojgbhaaGreatDoor
set_option maxRecDepth 100000
set_option maxHeartbeats 1000000

end Go.Proofs.YtfjflbapojgbhaaGreatDoor.N
