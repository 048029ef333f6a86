import Derived.Test.YtdnfnddlciafmaaGreatXOpZb
set_option linter.unusedVariables false
set_option linter.unusedSimpArgs false
namespace Go.Proofs.YtdnfnddlciafmaaGreat
open Go.Cx Tab
set_option maxHeartbeats 400000
set_option maxRecDepth 40000
theorem rints_ok (a b : List Int) : PCall Tryz.prog 30 [enc1 I a, enc1 I b] (B (decide (a = b))) := by
  refine Pm Tryz.func30 fun hfit => ?_
  simp at hfit
  simp [Tryz.f30]
  by_cases hl : a.length = b.length
  case neg =>
    have : ¬ a = b := fun e => hl (by rw [e])
    simp [hl, this]
  simp [hl]
  refine AW.loopF (lit := fun _ => false) (fun i : Nat => ⟨26, pat [(0, enc1 I a), (1, enc1 I b), (5, I i)], []⟩) (fun i => b.length - i) (fun i => i ≤ b.length ∧ a.take i = b.take i) 0 ?_ ?_ ?_
  · exact Wz
  · simp
  · rintro i ⟨hi, ht⟩
    simp
    refine condK_split _ _ (fun h => ?_) (fun h => ?_)
    · simp at h
      have ha : i < a.length := by omega
      simp
      refine Dg _ 9 [] [] ?_
      have hb : i < b.length := by omega
      simp [ha, hb]
      refine condK_split _ _ (fun h2 => ?_) (fun h2 => ?_)
      · simp at h2
        have : ¬ a = b := fun e => by subst e; exact h2 rfl
        simp [this]
      · simp at h2
        simp [wrap_nat ha hfit.1]
        exact ⟨i + 1, Wz, ⟨by omega, take_step ht ha hb h2⟩, by omega⟩
    · simp at h
      have := take_done ht (by omega) (by omega)
      simp [this]
end Go.Proofs.YtdnfnddlciafmaaGreat
