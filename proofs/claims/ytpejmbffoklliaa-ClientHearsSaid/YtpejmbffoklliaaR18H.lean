/- More of the reference's functions of layer 18. -/
import Derived.Test.YtpejmbffoklliaaR18X
import Derived.Test.YtpejmbffoklliaaCliW
set_option linter.unusedVariables false
set_option linter.unusedSimpArgs false
namespace Go.Proofs.Ytpejmbffoklliaa
open Go.Cx Tab
set_option maxHeartbeats 400000
set_option maxRecDepth 4000

theorem rnew_ok (me epoch : Int) (jobs : List (List CallR)) : PCall Try.prog 21 [I me, I epoch, enc1 encCalls jobs] (.tup [.agg (newS me epoch jobs).1.enc, I (newS me epoch jobs).2]) := by
  refine PCall.mk (fun _ => false) Try.func21 rfl rfl rfl (Ent.mk Try.func21 (by kernel_rfl) rfl) (by simp) (by simp) fun hfit => ?_
  simp [Try.f21]
  refine gdK_split _ _ _ (fun h => ?_) (fun h => ?_)
  · simp at h
    simp
    refine condK_split _ _ (fun h2 => ?_) (fun h2 => ?_)
    · simp at h2
      simp [newS, h2, ClientR.enc]
    · simp at h2
      simp
      refine condK_split _ _ (fun h3 => ?_) (fun h3 => ?_)
      · simp at h3
        simp [newS, h3, ClientR.enc, Int.not_lt.2 h, Int.not_lt.2 h2]
      · simp at h3
        simp [newS, h3, ClientR.enc, Int.not_lt.2 h, Int.not_lt.2 h2]
  · simp at h
    simp [newS, h, ClientR.enc]


theorem cright_ok (c : ClientR) (hl : c.told.length ≤ 1000000) : PCall Try.prog 22 [.agg c.enc] (B (rightS c)) := by
  refine PCall.mk (fun _ => false) Try.func22 rfl rfl rfl (Ent.mk Try.func22 (by kernel_rfl) rfl) (by simp) (by simp) fun hfit => ?_
  simp [Try.f22, ClientR.enc]
  refine AW.draw Try.checked.mixed (fun _ => false) [] [] 8 (by kernel_rfl) ?_
  simp
  by_cases h1 : c.me < 0
  · simp [h1, rightS, Int.not_le.2 h1]
  by_cases h2 : c.epoch < 1
  · simp [h1, h2, rightS, Int.not_le.2 h2]
  by_cases h3 : c.seq < 1
  · simp [h1, h2, h3, rightS, Int.not_le.2 h3]
  by_cases h6 : c.n = c.now.length
  case neg => simp [h1, h2, h3, h6, rightS]
  simp [h1, h2, h3, eq_true h6]
  have g1 := Int.not_lt.1 h1
  have g2 := Int.not_lt.1 h2
  have g3 := Int.not_lt.1 h3
  refine AW.loopF (lit := fun _ => false) (fun i : Nat => ⟨158, pat [(1, .ptr 0 0 0), (3, I c.told.length), (4, I c.jobs.length), (35, encL DoneR.enc c.told), (36, I c.told.length), (37, I i)], [.cells 0 c.enc]⟩) (fun i => c.told.length - i) (fun i => i ≤ c.told.length ∧ ∀ j (h : j < c.told.length), j < i → (c.told[j]).seq = 1 + j) 0 ?_ ?_ ?_
  · exact Wk.keep _ (by simp [ClientR.enc])
  · simp
  rintro i ⟨hi, ht⟩
  simp [ClientR.enc]
  by_cases h : i < c.told.length
  · have hw := wrap_nat h (Nat.le_trans hl (by simp [maxLen]))
    by_cases h7 : (c.told[i]).seq = 1 + i
    · have e : (c.told[i]).seq = ((i + 1 : Nat) : Int) := by omega
      simp [h, DoneR.enc, hw, e]
      refine ⟨i + 1, Wk.cut 1 _ (by simp) (by simp) (by simp) (by simp), ⟨by omega, fun j hj hji => ?_⟩, by omega⟩
      rcases Nat.lt_or_ge j i with h8 | h8
      · exact ht j hj h8
      · have : j = i := by omega
        subst this; exact h7
    · have e : ¬ (c.told[i]).seq = (i : Int) + 1 := by omega
      have : seqOk 1 c.told = false := by
        cases hs : seqOk 1 c.told with
        | false => rfl
        | true => exact absurd ((seqOk_iff _ _).1 hs i h) h7
      simp [h, DoneR.enc, hw, e, rightS, this]
  have hseq : seqOk 1 c.told = true := (seqOk_iff _ _).2 fun j hj => ht j hj (by omega)
  simp [h]
  have hw2 : IntKind.i64.wrap (c.seq - 1) = w64 (c.seq - 1) := rfl
  by_cases hp : c.phase = 0
  · by_cases a0 : c.n = 0
    case neg => simp [rightS, hseq, g1, g2, g3, eq_true h6, hp, a0]
    by_cases a1 : c.stamp = 0
    case neg => simp [rightS, hseq, g1, g2, g3, eq_true h6, hp, eq_true a0, a1]
    by_cases a2 : (c.told.length : Int) = w64 (c.seq - 1)
    case neg => simp [rightS, hseq, g1, g2, g3, eq_true h6, hp, eq_true a0, eq_true a1, a2]
    by_cases a3 : c.told.length < c.jobs.length
    case neg => simp [rightS, hseq, g1, g2, g3, eq_true h6, hp, eq_true a0, eq_true a1, eq_true a2, a3]
    simp [rightS, hseq, g1, g2, g3, eq_true h6, hp, eq_true a0, eq_true a1, eq_true a2, eq_true a3]
  by_cases hp1 : c.phase = 1
  · simp [hp1]
    refine AW.draw Try.checked.mixed (fun _ => false) [] [] 19 (by kernel_rfl) ?_
    simp
    refine .pure (job_ok c) (by simp [ClientR.enc, hp1]) ?_
    simp
    by_cases a0 : c.n < (jobS c).length
    case neg => simp [rightS, hseq, g1, g2, g3, eq_true h6, hp1, a0]
    by_cases a1 : (c.told.length : Int) = w64 (c.seq - 1)
    case neg => simp [rightS, hseq, g1, g2, g3, eq_true h6, hp1, eq_true a0, a1]
    by_cases a2 : c.told.length < c.jobs.length
    case neg => simp [rightS, hseq, g1, g2, g3, eq_true h6, hp1, eq_true a0, eq_true a1, a2]
    simp [rightS, hseq, g1, g2, g3, eq_true h6, hp1, eq_true a0, eq_true a1, a2]
  by_cases hp2 : c.phase = 2
  · simp [hp2]
    refine AW.draw Try.checked.mixed (fun _ => false) [] [] 19 (by kernel_rfl) ?_
    simp
    refine .pure (job_ok c) (by simp [ClientR.enc, hp2]) ?_
    simp
    by_cases a0 : c.n = (jobS c).length
    case neg => simp [rightS, hseq, g1, g2, g3, eq_true h6, hp2, a0]
    by_cases a1 : (c.told.length : Int) = w64 (c.seq - 1)
    case neg => simp [rightS, hseq, g1, g2, g3, eq_true h6, hp2, eq_true a0, a1]
    by_cases a2 : c.told.length < c.jobs.length
    case neg => simp [rightS, hseq, g1, g2, g3, eq_true h6, hp2, eq_true a0, eq_true a1, a2]
    simp [rightS, hseq, g1, g2, g3, eq_true h6, hp2, eq_true a0, eq_true a1, a2]
  by_cases hp3 : c.phase = 3
  · by_cases a0 : c.n = 0
    case neg => simp [hp, hp1, hp2, rightS, hseq, g1, g2, g3, eq_true h6, hp3, a0]
    by_cases a1 : c.stamp = 0
    case neg => simp [hp, hp1, hp2, rightS, hseq, g1, g2, g3, eq_true h6, hp3, eq_true a0, a1]
    by_cases a2 : (c.told.length : Int) = c.seq
    case neg => simp [hp, hp1, hp2, rightS, hseq, g1, g2, g3, eq_true h6, hp3, eq_true a0, eq_true a1, a2]
    by_cases a3 : c.told.length ≤ c.jobs.length
    case neg => simp [hp, hp1, hp2, rightS, hseq, g1, g2, g3, eq_true h6, hp3, eq_true a0, eq_true a1, eq_true a2, a3]
    simp [hp, hp1, hp2, rightS, hseq, g1, g2, g3, eq_true h6, hp3, eq_true a0, eq_true a1, eq_true a2, eq_true a3]
  by_cases hp4 : c.phase = 4
  · by_cases a0 : c.n = 0
    case neg => simp [hp, hp1, hp2, rightS, hseq, g1, g2, g3, eq_true h6, hp4, a0]
    by_cases a1 : c.stamp = 0
    case neg => simp [hp, hp1, hp2, rightS, hseq, g1, g2, g3, eq_true h6, hp4, eq_true a0, a1]
    by_cases a2 : (c.told.length : Int) = w64 (c.seq - 1)
    case neg => simp [hp, hp1, hp2, rightS, hseq, g1, g2, g3, eq_true h6, hp4, eq_true a0, eq_true a1, a2]
    by_cases a3 : c.told.length = c.jobs.length
    case neg => simp [hp, hp1, hp2, rightS, hseq, g1, g2, g3, eq_true h6, hp4, eq_true a0, eq_true a1, eq_true a2, a3]
    simp [hp, hp1, hp2, rightS, hseq, g1, g2, g3, eq_true h6, hp4, eq_true a0, eq_true a1, eq_true a2, eq_true a3]
  by_cases q0 : 0 ≤ c.phase
  · have q1 : ¬ c.phase ≤ 4 := by omega
    simp [hp, hp1, hp2, hp3, hp4, rightS, q0, q1]
  · simp [hp, hp1, hp2, hp3, hp4, rightS, q0]
end Go.Proofs.Ytpejmbffoklliaa
