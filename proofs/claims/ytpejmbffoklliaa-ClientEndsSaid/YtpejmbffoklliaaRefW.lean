/- What the reference's row functions compute. -/
import Derived.Test.YtpejmbffoklliaaTab
import Derived.Test.YtpejmbffoklliaaChecked
import Derived.Test.YtpejmbffoklliaaApiM
set_option linter.unusedVariables false
set_option linter.unusedSimpArgs false
namespace Go.Proofs.Ytpejmbffoklliaa
open Go.Cx Tab
set_option maxHeartbeats 400000
set_option maxRecDepth 4000

theorem strings_ok (a b : List ByteArray) : PCall Try.prog 33 [enc1 S a, enc1 S b] (B (decide (a = b))) := by
  refine PCall.mk (fun _ => false) Try.func33 rfl rfl rfl (Ent.mk Try.func33 (by kernel_rfl) rfl) (by simp) (by simp) fun hfit => ?_
  simp at hfit
  simp [Try.f33]
  by_cases hl : a.length = b.length
  case neg =>
    have : ¬ a = b := fun e => hl (by rw [e])
    simp [hl, this]
  simp [hl]
  refine AW.loopF (lit := fun _ => false) (fun i : Nat => ⟨26, pat [(0, enc1 S a), (1, enc1 S b), (5, I i)], []⟩) (fun i => b.length - i) (fun i => i ≤ b.length ∧ a.take i = b.take i) 0 ?_ ?_ ?_
  · exact Wk.keep _ (by simp)
  · simp
  · rintro i ⟨hi, ht⟩
    simp
    refine condK_split _ _ (fun h => ?_) (fun h => ?_)
    · simp at h
      have ha : i < a.length := by omega
      simp
      refine AW.draw Try.checked.mixed (fun _ => false) [] [] 9 (by kernel_rfl) ?_
      have hb : i < b.length := by omega
      simp [ha, hb]
      refine condK_split _ _ (fun h2 => ?_) (fun h2 => ?_)
      · simp at h2
        have : ¬ a = b := fun e => by subst e; exact h2 rfl
        simp [this]
      · simp at h2
        simp [wrap_nat ha hfit.1]
        exact ⟨i + 1, Wk.keep _ (by simp), ⟨by omega, take_step ht ha hb h2⟩, by omega⟩
    · simp at h
      have := take_done ht (by omega) (by omega)
      simp [this]

theorem reply_ok (a b : ReplyR) : PCall Try.prog 20 [.agg a.enc, .agg b.enc] (B (decide (a = b))) := by
  refine PCall.mk (fun _ => false) Try.func20 rfl rfl rfl (Ent.mk Try.func20 (by kernel_rfl) rfl) (by simp) (by simp) fun hfit => ?_
  simp only [ReplyR.eq_iff]
  simp [ReplyR.enc, Try.f20]
  refine AInv.pure (strings_ok a.names b.names) rfl ?_
  by_cases h1 : a.names = b.names
  case neg => simp [h1]
  by_cases h2 : a.e = b.e
  case neg => simp [h1, h2]
  by_cases h3 : a.a = b.a
  case neg => simp [h1, h2, h3]
  by_cases h4 : a.b = b.b
  case neg => simp [h1, h2, h3, h4]
  by_cases h5 : a.n = b.n
  case neg => simp [h1, h2, h3, h4, h5]
  simp [h1, h2, h3, h4, h5]

theorem all_ok (a b : List ReplyR) : PCall Try.prog 19 [encReplies a, encReplies b] (B (decide (a = b))) := by
  refine PCall.mk (fun _ => false) Try.func19 rfl rfl rfl (Ent.mk Try.func19 (by kernel_rfl) rfl) (by simp) (by simp) fun hfit => ?_
  simp at hfit
  simp [Try.f19]
  by_cases hl : a.length = b.length
  case neg =>
    have : ¬ a = b := fun e => hl (by rw [e])
    simp [hl, this]
  simp [hl]
  refine AW.loopF (lit := fun _ => false) (fun i : Nat => ⟨29, pat [(0, encReplies a), (1, encReplies b), (5, I i)], []⟩) (fun i => b.length - i) (fun i => i ≤ b.length ∧ a.take i = b.take i) 0 ?_ ?_ ?_
  · exact Wk.keep _ (by simp)
  · simp
  · rintro i ⟨hi, ht⟩
    simp
    refine condK_split _ _ (fun h => ?_) (fun h => ?_)
    · simp at h
      have ha : i < a.length := by omega
      simp
      refine AW.draw Try.checked.mixed (fun _ => false) [] [] 8 (by kernel_rfl) ?_
      have hb : i < b.length := by omega
      simp [ha, hb]
      refine AInv.pure (reply_ok a[i] b[i]) rfl ?_
      by_cases h2 : a[i] = b[i]
      · simp [h2, wrap_nat ha hfit.1.1]
        exact ⟨i + 1, Wk.keep _ (by simp), ⟨by omega, take_step ht ha hb h2⟩, by omega⟩
      · have : ¬ a = b := fun e => by subst e; exact h2 rfl
        simp [h2, this]
    · simp at h
      have := take_done ht (by omega) (by omega)
      simp [this]
end Go.Proofs.Ytpejmbffoklliaa
