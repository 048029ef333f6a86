import Derived.Test.YtdnfnddlciafmaaGreatXOpP
import Derived.Test.YtdnfnddlciafmaaGreatXBl
import Derived.Test.YtdnfnddlciafmaaGreatXBk
import Derived.Test.YtdnfnddlciafmaaGreatXBj
set_option linter.unusedVariables false
set_option linter.unusedSimpArgs false
namespace Go.Proofs.YtdnfnddlciafmaaGreat
open Go.Cx Tab
set_option maxHeartbeats 400000
set_option maxRecDepth 40000
theorem small_ok (l : List CallR) : PCall Tryz.prog 21 [encCalls l] (B (smallS l)) := by
  refine Pm Tryz.func21 fun hfit => ?_
  simp at hfit
  simp [Tryz.f21]
  refine AW.loopF (lit := fun _ => false) (fun x : Nat × Int => ⟨46, pat [(0, encCalls l), (3, I x.2), (4, I x.1)], []⟩) (fun x => l.length - x.1) (fun x => x.1 ≤ l.length ∧ smallGo (l.drop x.1) x.2 = smallGo l l.length) (0, l.length) ?_ ?_ ?_
  · exact Wz
  · simp
  · rintro ⟨i, n⟩ ⟨hi, ht⟩
    simp only at hi ht
    simp
    by_cases h : i < l.length
    case neg =>
      have : smallGo l l.length = n := by rw [← ht, List.drop_eq_nil_of_le (by omega)]; rfl
      by_cases h2 : n ≤ 2000
      · by_cases h3 : l.length ≤ 30
        · simp [h, h2, smallS, this]
        · simp [h, h2, smallS, this]
      · simp [h, h2, smallS, this]
    by_cases h2 : n ≤ 2000
    case neg =>
      have : smallGo l l.length = n := by rw [← ht, smallGo_big _ _ h2]
      simp [h, h2, smallS, this]
    simp [h, h2]
    refine Dg _ 22 [] [] ?_
    simp [h, CallR.enc, wrap_nat h hfit.1]
    refine ⟨i + 1, _, Wk.keep _ (by simp; rfl), ⟨by omega, ?_⟩, by omega⟩
    rw [← ht, smallGo_step h n h2]
end Go.Proofs.YtdnfnddlciafmaaGreat
