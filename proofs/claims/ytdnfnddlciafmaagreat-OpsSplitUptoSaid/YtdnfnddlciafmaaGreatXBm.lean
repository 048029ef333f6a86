import Derived.Test.YtdnfnddlciafmaaGreatXBl
import Derived.Test.YtdnfnddlciafmaaGreatXBk
set_option linter.unusedVariables false
set_option linter.unusedSimpArgs false
namespace Go.Cx
def cA : CallR := ⟨6, 1, 0, 0, 0, T [97], .empty, .empty⟩
def fA : FSR := ⟨[⟨1, 2, 0, .empty, [⟨T [97], 2⟩]⟩, ⟨2, 1, 1, .empty, []⟩], 3⟩
theorem doA : doS newF cA = (fA, ⟨0, 2, 0, 0, .empty, []⟩) := by decide +kernel
theorem doB : doS fA cA = (fA, errR 7) := by decide +kernel
theorem looksA : looksS fA cA = [0, 1, 2] := by decide +kernel
theorem rowsN : rowsOk newF = true := by decide +kernel
theorem rowsA : rowsOk fA = true := by decide +kernel
end Go.Cx
