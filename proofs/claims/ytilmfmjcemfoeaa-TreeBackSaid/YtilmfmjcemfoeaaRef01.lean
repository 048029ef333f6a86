/- What the reference's functions of layer 1 compute. -/
import Derived.Test.YtilmfmjcemfoeaaTab
import Derived.Test.YtilmfmjcemfoeaaBe
import Derived.Test.YtilmfmjcemfoeaaBq
import Derived.Test.YtilmfmjcemfoeaaChecked
import Derived.Test.YtilmfmjcemfoeaaBf
set_option linter.unusedVariables false
set_option linter.unusedSimpArgs false
namespace Go.Proofs.Ytilmfmjcemfoeaa
open Go.Cx Tab
set_option maxHeartbeats 400000
set_option maxRecDepth 40000

end Go.Proofs.Ytilmfmjcemfoeaa
