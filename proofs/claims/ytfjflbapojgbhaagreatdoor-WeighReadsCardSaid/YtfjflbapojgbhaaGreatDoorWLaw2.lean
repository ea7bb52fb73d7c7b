/- What is rounded is not below what could be written exactly. Conditions: none. -/
import Derived.Test.YtfjflbapojgbhaaGreatDoorWBeg
namespace Go.Proofs.YtfjflbapojgbhaaGreatDoor.N
open Go.X Go.Proofs.YtfjflbapojgbhaaGreatDoor
set_option maxRecDepth 100000
set_option maxHeartbeats 1000000

end Go.Proofs.YtfjflbapojgbhaaGreatDoor.N

/- WeighOrder, WeighSums: the plain laws. Conditions: none. -/
namespace Go.Proofs.YtfjflbapojgbhaaGreatDoor.N
open Go.X Go.Proofs.YtfjflbapojgbhaaGreatDoor
set_option maxRecDepth 100000
set_option maxHeartbeats 1000000

end Go.Proofs.YtfjflbapojgbhaaGreatDoor.N

/- WeighAll: the plain law. Conditions: none. -/
namespace Go.Proofs.YtfjflbapojgbhaaGreatDoor.N
open Go.X Go.Proofs.YtfjflbapojgbhaaGreatDoor
set_option maxRecDepth 100000
set_option maxHeartbeats 1000000

theorem wrapJ {i : Int} (h0 : 0 ≤ i) (h1 : i < 1000000000000) : IntKind.i64.wrap (i + (1 : Int)) = i + 1 := wr (by omega) (by omega)
end Go.Proofs.YtfjflbapojgbhaaGreatDoor.N
