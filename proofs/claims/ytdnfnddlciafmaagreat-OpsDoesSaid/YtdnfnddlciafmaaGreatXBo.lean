import Derived.Test.YtdnfnddlciafmaaGreatXBn
set_option linter.unusedVariables false
set_option linter.unusedSimpArgs false
namespace Go.Cx
end Go.Cx
