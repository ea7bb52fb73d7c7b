/- A shortest cycle, and how long it is. Conditions: none. -/
import Derived.Test.YtmcloipjlihhlaaTWalkL
import Derived.Test.YtmcloipjlihhlaaNPartsR
namespace Go.Proofs.Ytmcloipjlihhlaa.N
open Go.X Go.Proofs.Ytmcloipjlihhlaa
set_option maxRecDepth 100000

end Go.Proofs.Ytmcloipjlihhlaa.N
