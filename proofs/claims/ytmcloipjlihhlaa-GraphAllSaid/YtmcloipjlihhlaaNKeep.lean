/- Package tracerylaw3: lists that are kept, until all are there, are apart. Conditions: none. -/
import Derived.Test.YtmcloipjlihhlaaSKeep
import Derived.Test.YtmcloipjlihhlaaTKeep
import Derived.Test.YtmcloipjlihhlaaNNet
set_option linter.unusedSimpArgs false
set_option linter.unusedVariables false
namespace Go.Proofs.Ytmcloipjlihhlaa.N
open Go.X Go.Proofs.Ytmcloipjlihhlaa
set_option maxRecDepth 100000

end Go.Proofs.Ytmcloipjlihhlaa.N
