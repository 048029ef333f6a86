import Derived.Test.YtdnfnddlciafmaaGreatYLaw11a
import Derived.Test.YtdnfnddlciafmaaGreatYOpV
set_option linter.unusedVariables false
set_option linter.unusedSimpArgs false
namespace Go.Proofs.YtdnfnddlciafmaaGreat
open Go.Cx Tab
set_option maxHeartbeats 400000
set_option maxRecDepth 40000
def fewOk (f : FSR) : Bool := fewS f && rightF f && decide (f.next < 1152921504606846976)
theorem few11_ok (f : FSR) : PCall Tryz.prog 20 [encF f] (B (fewOk f)) := by
  have h1 := few_ok f
  have h2 := rright08_ok f
  unfold fewOk
  cases q1 : fewS f <;> cases q2 : rightF f <;> by_cases q3 : f.next < 1152921504606846976
  all_goals
    rw [q1] at h1
    rw [q2] at h2
    refine PCall.mk (fun _ => false) Tryz.func20 rfl rfl rfl (Ent.mk Tryz.func20 (by kernel_rfl) rfl) (by simp) (by simp) fun hfit => ?_
    simp [Tryz.f20, q3]
    try simp [q3, FSR.enc]
    repeat' (first
      | ((first | refine Tst.go (fun hw_ ew_ => ?_) (fun hw_ ew_ => ?_)) <;> first | (exfalso; first | omega | with_reducible exact hw_ (by assumption) | with_reducible exact absurd hw_ (by assumption)) | (have nw_ := Nw.nw hw_; simp [ew_, nw_, q3, FSR.enc]) | simp [ew_, q3, FSR.enc])
      | ((first | (refine Pc.go (h1) ?_ ?_; focus (first | rfl | (simp [q3, FSR.enc]; done))) | (refine Pc.go (h2) ?_ ?_; focus (first | rfl | (simp [q3, FSR.enc]; done))) | rw [if_pos (by first | omega | (simp only [maxLen]; omega))] | rw [if_neg (by first | omega | (simp only [maxLen]; omega))] | rw [frzOwn_neat (by simp) (by simp <;> omega)] | rw [fzOwn_neat (by simp) (by simp <;> omega)]); try simp [q3, FSR.enc])
      | ((first | refine TstB.go (fun hw_ ew_ => ?_) (fun hw_ ew_ => ?_)) <;> first | (exfalso; first | omega | with_reducible exact hw_ (by assumption) | with_reducible exact absurd hw_ (by assumption)) | simp [ew_, q3, FSR.enc])
      | fail)
end Go.Proofs.YtdnfnddlciafmaaGreat
