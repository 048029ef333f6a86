import Derived.Test.YtdnfnddlciafmaaGreatXOpP
import Derived.Test.YtdnfnddlciafmaaGreatXBl
import Derived.Test.YtdnfnddlciafmaaGreatXBk
import Derived.Test.YtdnfnddlciafmaaGreatXBj
set_option linter.unusedVariables false
set_option linter.unusedSimpArgs false
namespace Go.Proofs.YtdnfnddlciafmaaGreat
open Go.Cx Tab
set_option maxHeartbeats 400000
set_option maxRecDepth 40000
end Go.Proofs.YtdnfnddlciafmaaGreat
