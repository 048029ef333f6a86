import Derived.Test.YtgpkaoombhobmaaGreatJW3
set_option linter.unusedVariables false
set_option linter.unusedSimpArgs false
namespace Go.Proofs.YtgpkaoombhobmaaGreat
open Go.Cx Tab
set_option maxHeartbeats 400000
set_option maxRecDepth 40000
end Go.Proofs.YtgpkaoombhobmaaGreat
