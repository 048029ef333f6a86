import Derived.Test.YtdnfnddlciafmaaGreatXLaw11b
import Derived.Test.YtdnfnddlciafmaaGreatXBp
set_option linter.unusedVariables false
set_option linter.unusedSimpArgs false
namespace Go.Proofs.YtdnfnddlciafmaaGreat
open Go.Cx Tab
set_option maxHeartbeats 400000
set_option maxRecDepth 40000
theorem few_right {f : FSR} (h : fewOk f = true) : RowsF f ∧ TreeP f ∧ f.next < 1152921504606846976 ∧ fewS f = true := by
  simp only [fewOk, Bool.and_eq_true, decide_eq_true_eq] at h
  obtain ⟨R, F⟩ := (right_iff f).1 h.1.2
  exact ⟨R, F.tree R, h.2, h.1.1⟩
end Go.Proofs.YtdnfnddlciafmaaGreat
