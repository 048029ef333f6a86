import Derived.Test.YtdnfnddlciafmaaGreatXLaw11a
import Derived.Test.YtdnfnddlciafmaaGreatXOpV
set_option linter.unusedVariables false
set_option linter.unusedSimpArgs false
namespace Go.Proofs.YtdnfnddlciafmaaGreat
open Go.Cx Tab
set_option maxHeartbeats 400000
set_option maxRecDepth 40000
def fewOk (f : FSR) : Bool := fewS f && rightF f && decide (f.next < 1152921504606846976)
theorem few11_ok (f : FSR) : PCall Tryz.prog 20 [encF f] (B (fewOk f)) := by
  have h1 := few_ok f
  have h2 := rright08_ok f
  unfold fewOk
  cases q1 : fewS f <;> cases q2 : rightF f <;> by_cases q3 : f.next < 1152921504606846976
  all_goals
    rw [q1] at h1
    rw [q2] at h2
    refine Pm Tryz.func20 fun hfit => ?_
    simp [Tryz.f20, q3]
    have s_ := And.intro @q3 (@FSR.enc.eq_1)
    try simp [s_]
    repeat' ((first | ((first | refine Tp ?_ | refine Tn ?_ | refine T2 ?_ ?_) <;> intro hw_ ew_ nw_) | refine Pg h1 ?_ | refine Pg h2 ?_ | rw [Ip] | rw [In] | rw [Fz] | rw [Gz] | fail) <;> first | simp [ew_, nw_, s_] | simp [s_] | skip)
end Go.Proofs.YtdnfnddlciafmaaGreat
