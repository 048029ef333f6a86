import Derived.Test.YtdnfnddlciafmaaGreatXOpP
import Derived.Test.YtdnfnddlciafmaaGreatXBl
import Derived.Test.YtdnfnddlciafmaaGreatXBk
import Derived.Test.YtdnfnddlciafmaaGreatXBj
set_option linter.unusedVariables false
set_option linter.unusedSimpArgs false
namespace Go.Proofs.YtdnfnddlciafmaaGreat
open Go.Cx Tab
set_option maxHeartbeats 400000
set_option maxRecDepth 40000
theorem strings_ok (a b : List ByteArray) : PCall Tryz.prog 83 [enc1 S a, enc1 S b] (B (decide (a = b))) := by
  refine Pm Tryz.func83 fun hfit => ?_
  simp at hfit
  simp [Tryz.f83]
  by_cases hl : a.length = b.length
  case neg =>
    have : ¬ a = b := fun e => hl (by rw [e])
    simp [hl, this]
  simp [hl]
  refine AW.loopF (lit := fun _ => false) (fun i : Nat => ⟨26, pat [(0, enc1 S a), (1, enc1 S b), (5, I i)], []⟩) (fun i => b.length - i) (fun i => i ≤ b.length ∧ a.take i = b.take i) 0 ?_ ?_ ?_
  · exact Wz
  · simp
  · rintro i ⟨hi, ht⟩
    simp
    refine condK_split _ _ (fun h => ?_) (fun h => ?_)
    · simp at h
      have ha : i < a.length := by omega
      simp
      refine Dg _ 9 [] [] ?_
      have hb : i < b.length := by omega
      simp [ha, hb]
      refine condK_split _ _ (fun h2 => ?_) (fun h2 => ?_)
      · simp at h2
        have : ¬ a = b := fun e => by subst e; exact h2 rfl
        simp [this]
      · simp at h2
        simp [wrap_nat ha hfit.1]
        exact ⟨i + 1, Wz, ⟨by omega, take_step ht ha hb h2⟩, by omega⟩
    · simp at h
      have := take_done ht (by omega) (by omega)
      simp [this]
theorem reply_ok (a b : ReplyR) : PCall Tryz.prog 29 [.agg a.enc, .agg b.enc] (B (decide (a = b))) := by
  refine Pm Tryz.func29 fun hfit => ?_
  simp only [ReplyR.eq_iff]
  simp [ReplyR.enc, Tryz.f29]
  refine AInv.pure (strings_ok a.names b.names) rfl ?_
  by_cases h1 : a.names = b.names
  case neg => simp [h1]
  by_cases h2 : a.e = b.e
  case neg => simp [h1, h2]
  by_cases h3 : a.a = b.a
  case neg => simp [h1, h2, h3]
  by_cases h4 : a.b = b.b
  case neg => simp [h1, h2, h3, h4]
  by_cases h5 : a.n = b.n
  case neg => simp [h1, h2, h3, h4, h5]
  simp [h1, h2, h3, h4, h5]
theorem all_ok (a b : List ReplyR) : PCall Tryz.prog 33 [encReplies a, encReplies b] (B (decide (a = b))) := by
  refine Pm Tryz.func33 fun hfit => ?_
  simp at hfit
  simp [Tryz.f33]
  by_cases hl : a.length = b.length
  case neg =>
    have : ¬ a = b := fun e => hl (by rw [e])
    simp [hl, this]
  simp [hl]
  refine AW.loopF (lit := fun _ => false) (fun i : Nat => ⟨29, pat [(0, encReplies a), (1, encReplies b), (5, I i)], []⟩) (fun i => b.length - i) (fun i => i ≤ b.length ∧ a.take i = b.take i) 0 ?_ ?_ ?_
  · exact Wz
  · simp
  · rintro i ⟨hi, ht⟩
    simp
    refine condK_split _ _ (fun h => ?_) (fun h => ?_)
    · simp at h
      have ha : i < a.length := by omega
      simp
      refine Dg _ 8 [] [] ?_
      have hb : i < b.length := by omega
      simp [ha, hb]
      refine AInv.pure (reply_ok a[i] b[i]) rfl ?_
      by_cases h2 : a[i] = b[i]
      · simp [h2, wrap_nat ha hfit.1.1]
        exact ⟨i + 1, Wz, ⟨by omega, take_step ht ha hb h2⟩, by omega⟩
      · have : ¬ a = b := fun e => by subst e; exact h2 rfl
        simp [h2, this]
    · simp at h
      have := take_done ht (by omega) (by omega)
      simp [this]
theorem small_ok (l : List CallR) : PCall Tryz.prog 21 [encCalls l] (B (smallS l)) := by
  refine Pm Tryz.func21 fun hfit => ?_
  simp at hfit
  simp [Tryz.f21]
  refine AW.loopF (lit := fun _ => false) (fun x : Nat × Int => ⟨46, pat [(0, encCalls l), (3, I x.2), (4, I x.1)], []⟩) (fun x => l.length - x.1) (fun x => x.1 ≤ l.length ∧ smallGo (l.drop x.1) x.2 = smallGo l l.length) (0, l.length) ?_ ?_ ?_
  · exact Wz
  · simp
  · rintro ⟨i, n⟩ ⟨hi, ht⟩
    simp only at hi ht
    simp
    by_cases h : i < l.length
    case neg =>
      have : smallGo l l.length = n := by rw [← ht, List.drop_eq_nil_of_le (by omega)]; rfl
      by_cases h2 : n ≤ 2000
      · by_cases h3 : l.length ≤ 30
        · simp [h, h2, smallS, this]
        · simp [h, h2, smallS, this]
      · simp [h, h2, smallS, this]
    by_cases h2 : n ≤ 2000
    case neg =>
      have : smallGo l l.length = n := by rw [← ht, smallGo_big _ _ h2]
      simp [h, h2, smallS, this]
    simp [h, h2]
    refine Dg _ 22 [] [] ?_
    simp [h, CallR.enc, wrap_nat h hfit.1]
    refine ⟨i + 1, _, Wk.keep _ (by simp; rfl), ⟨by omega, ?_⟩, by omega⟩
    rw [← ht, smallGo_step h n h2]
end Go.Proofs.YtdnfnddlciafmaaGreat
