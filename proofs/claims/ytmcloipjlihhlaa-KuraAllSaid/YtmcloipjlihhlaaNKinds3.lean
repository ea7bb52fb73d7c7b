/- The kinds that draw: random and stack. Conditions: none. -/
import Derived.Test.YtmcloipjlihhlaaNKinds2
set_option linter.unusedSimpArgs false
set_option linter.unusedVariables false
namespace Go.Proofs.Ytmcloipjlihhlaa.N
open Go.X Go.Proofs.Ytmcloipjlihhlaa
set_option maxRecDepth 100000

end Go.Proofs.Ytmcloipjlihhlaa.N
