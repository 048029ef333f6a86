/- The statements of layer 8 hold, part one: TreeRights, TreeBelow. -/
import Derived.Test.YtilmfmjcemfoeaaTreD
import Derived.Test.YtilmfmjcemfoeaaBg
import Derived.Test.YtilmfmjcemfoeaaBe
set_option linter.unusedVariables false
set_option linter.unusedSimpArgs false
namespace Go.Proofs.Ytilmfmjcemfoeaa
open Go.Cx Tab
set_option maxHeartbeats 400000
set_option maxRecDepth 40000

theorem newF_rows : rowsOk newF = true := by decide
theorem newF_right : rightF newF = true := by
  have h1 : countsS newF.l [] = [] := rfl
  simp only [rightF, newF_rows, h1]
  simp [newF, headF, nodeS, getM]
theorem newF_below (a b : Int) : decide (0 < getM (underS newF.l a) b) = false := by
  rw [decide_eq_false_iff_not, below_eq (by simp [newF])]
  intro h
  have := reach_all h
  simp [allKids, newF] at this
theorem shown08_ok : PCall Try.prog 4 [] (B true) := by
  refine PCall.mk (fun _ => false) Try.func4 rfl rfl rfl (Ent.mk Try.func4 (by kernel_rfl) rfl) (by simp) (by simp) fun hfit => ?_
  simp [Try.f4]
  have h0 := new_ok
  have h1 : PCall Try.prog 11 [encF newF, I 1] (I 0) := names_ok newF 1
  have h2 := below_ok newF 1 1 (by simp [newF]) (by simp [newF])
  rw [newF_below] at h2
  have h3 := right_ok newF
  rw [newF_right] at h3
  have hl : newF.l.length = 1 := rfl
  have hn : newF.next = 2 := rfl
  generalize newF = F at *
  try simp [FSR.enc, hl, hn]
  repeat' (first
    | ((first | refine Tst.go (fun hw_ ew_ => ?_) (fun hw_ ew_ => ?_)) <;> first | (exfalso; first | omega | with_reducible exact hw_ (by assumption) | with_reducible exact absurd hw_ (by assumption)) | (have nw_ := Nw.nw hw_; simp [ew_, nw_, FSR.enc, hl, hn]) | simp [ew_, FSR.enc, hl, hn])
    | ((first | (refine Pc.go (h0) ?_ ?_; focus (first | rfl | (simp [FSR.enc, hl, hn]; done))) | (refine Pc.go (h1) ?_ ?_; focus (first | rfl | (simp [FSR.enc, hl, hn]; done))) | (refine Pc.go (h2) ?_ ?_; focus (first | rfl | (simp [FSR.enc, hl, hn]; done))) | (refine Pc.go (h3) ?_ ?_; focus (first | rfl | (simp [FSR.enc, hl, hn]; done))) | rw [if_pos (by first | omega | (simp only [maxLen]; omega))] | rw [if_neg (by first | omega | (simp only [maxLen]; omega))] | rw [frzOwn_neat (by simp) (by simp <;> omega)] | rw [fzOwn_neat (by simp) (by simp <;> omega)]); try simp [FSR.enc, hl, hn])
    | ((first | refine TstB.go (fun hw_ ew_ => ?_) (fun hw_ ew_ => ?_)) <;> first | (exfalso; first | omega | with_reducible exact hw_ (by assumption) | with_reducible exact absurd hw_ (by assumption)) | simp [ew_, FSR.enc, hl, hn])
    | fail)

end Go.Proofs.Ytilmfmjcemfoeaa
