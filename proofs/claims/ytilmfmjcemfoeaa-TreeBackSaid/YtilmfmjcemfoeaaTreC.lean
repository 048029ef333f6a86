/- What is put in, what is taken out; few. -/
import Derived.Test.YtilmfmjcemfoeaaTreB
set_option linter.unusedVariables false
set_option linter.unusedSimpArgs false
namespace Go.Proofs.Ytilmfmjcemfoeaa
open Go.Cx Tab
set_option maxHeartbeats 400000
set_option maxRecDepth 40000

theorem new_ok : PCall Try.prog 10 [] (encF newF) := by
  refine PCall.mk (fun _ => false) Try.func10 rfl rfl rfl (Ent.mk Try.func10 (by kernel_rfl) rfl) (by simp) (by simp) fun hfit => ?_
  simp [Try.f10, newF, FSR.enc, NodeR.enc]
  try simp
  repeat' (first
    | ((first | refine Tst.go (fun hw_ ew_ => ?_) (fun hw_ ew_ => ?_)) <;> first | (exfalso; first | omega | with_reducible exact hw_ (by assumption) | with_reducible exact absurd hw_ (by assumption)) | (have nw_ := Nw.nw hw_; simp [ew_, nw_]) | simp [ew_])
    | ((first | rw [if_pos (by first | omega | (simp only [maxLen]; omega))] | rw [if_neg (by first | omega | (simp only [maxLen]; omega))] | rw [frzOwn_neat (by simp) (by simp <;> omega)] | rw [fzOwn_neat (by simp) (by simp <;> omega)]); try simp)
    | ((first | refine TstB.go (fun hw_ ew_ => ?_) (fun hw_ ew_ => ?_)) <;> first | (exfalso; first | omega | with_reducible exact hw_ (by assumption) | with_reducible exact absurd hw_ (by assumption)) | simp [ew_])
    | fail)
theorem few_ok (f : FSR) : PCall Try.prog 5 [encF f] (B (fewS f)) := by
  refine PCall.mk (fun _ => false) Try.func5 rfl rfl rfl (Ent.mk Try.func5 (by kernel_rfl) rfl) (by simp) (by simp) fun hfit => ?_
  obtain ⟨l, next⟩ := f
  simp [FSR.enc] at hfit
  have hll := hfit.1
  simp only [maxLen] at hll
  simp [Try.f5, fewS, FSR.enc]
  refine AW.loopG (lit := fun _ => false) (fun x : Nat × Int => ⟨38, pat [(1, .ptr 0 0 0), (3, I x.2), (4, I x.1)], [.cells 0 [encL NodeR.enc l, I next]]⟩) (fun x => l.length - x.1) (fun x => x.1 ≤ l.length ∧ fewFrom x.2 (l.drop x.1) = fewFrom l.length l) (0, (l.length : Int)) ?_ ?_ ?_
  · exact Wk.at _ rfl (by simp) (by simp)
  · simp
  rintro ⟨i, n⟩ ⟨h1, h2⟩ A hA
  simp only at h1 h2
  by_cases hi : i < l.length
  case neg =>
    rw [fewFrom_end hi] at h2
    try simp [hi, ← h2]
    repeat' (first
      | ((first | refine Tst.go (fun hw_ ew_ => ?_) (fun hw_ ew_ => ?_)) <;> first | (exfalso; first | omega | with_reducible exact hw_ (by assumption) | with_reducible exact absurd hw_ (by assumption)) | (have nw_ := Nw.nw hw_; simp [ew_, nw_, hi, ← h2]) | simp [ew_, hi, ← h2])
      | ((first | rw [if_pos (by first | omega | (simp only [maxLen]; omega))] | rw [if_neg (by first | omega | (simp only [maxLen]; omega))] | rw [frzOwn_neat (by simp) (by simp <;> omega)] | rw [fzOwn_neat (by simp) (by simp <;> omega)]); try simp [hi, ← h2])
      | ((first | refine TstB.go (fun hw_ ew_ => ?_) (fun hw_ ew_ => ?_)) <;> first | (exfalso; first | omega | with_reducible exact hw_ (by assumption) | with_reducible exact absurd hw_ (by assumption)) | simp [ew_, hi, ← h2])
      | fail)
  rw [fewFrom_at hi] at h2
  by_cases hn : n ≤ 200
  case neg =>
    rw [if_neg hn] at h2
    try simp [hi, hn, ← h2]
    repeat' (first
      | ((first | refine Tst.go (fun hw_ ew_ => ?_) (fun hw_ ew_ => ?_)) <;> first | (exfalso; first | omega | with_reducible exact hw_ (by assumption) | with_reducible exact absurd hw_ (by assumption)) | (have nw_ := Nw.nw hw_; simp [ew_, nw_, hi, hn, ← h2]) | simp [ew_, hi, hn, ← h2])
      | ((first | rw [if_pos (by first | omega | (simp only [maxLen]; omega))] | rw [if_neg (by first | omega | (simp only [maxLen]; omega))] | rw [frzOwn_neat (by simp) (by simp <;> omega)] | rw [fzOwn_neat (by simp) (by simp <;> omega)]); try simp [hi, hn, ← h2])
      | ((first | refine TstB.go (fun hw_ ew_ => ?_) (fun hw_ ew_ => ?_)) <;> first | (exfalso; first | omega | with_reducible exact hw_ (by assumption) | with_reducible exact absurd hw_ (by assumption)) | simp [ew_, hi, hn, ← h2])
      | fail)
  rw [if_pos hn] at h2
  have hw2 := wrap_nat hi hfit.1
  by_cases ht : 5000 < l[i].text.size
  · rw [if_pos ht] at h2
    try simp [hi, hn, NodeR.enc, ht, ← h2]
    repeat' (first
      | ((first | refine Tst.go (fun hw_ ew_ => ?_) (fun hw_ ew_ => ?_)) <;> first | (exfalso; first | omega | with_reducible exact hw_ (by assumption) | with_reducible exact absurd hw_ (by assumption)) | (have nw_ := Nw.nw hw_; simp [ew_, nw_, hi, hn, NodeR.enc, ht, ← h2]) | simp [ew_, hi, hn, NodeR.enc, ht, ← h2])
      | ((first | rw [if_pos (by first | omega | (simp only [maxLen]; omega))] | rw [if_neg (by first | omega | (simp only [maxLen]; omega))] | rw [frzOwn_neat (by simp) (by simp <;> omega)] | rw [fzOwn_neat (by simp) (by simp <;> omega)]); try simp [hi, hn, NodeR.enc, ht, ← h2])
      | ((first | refine TstB.go (fun hw_ ew_ => ?_) (fun hw_ ew_ => ?_)) <;> first | (exfalso; first | omega | with_reducible exact hw_ (by assumption) | with_reducible exact absurd hw_ (by assumption)) | simp [ew_, hi, hn, NodeR.enc, ht, ← h2])
      | fail)
  · rw [if_neg ht] at h2
    try simp [hi, hn, NodeR.enc, hw2, ht]
    repeat' (first
      | ((first | refine Tst.go (fun hw_ ew_ => ?_) (fun hw_ ew_ => ?_)) <;> first | (exfalso; first | omega | with_reducible exact hw_ (by assumption) | with_reducible exact absurd hw_ (by assumption)) | (have nw_ := Nw.nw hw_; simp [ew_, nw_, hi, hn, NodeR.enc, hw2, ht]) | simp [ew_, hi, hn, NodeR.enc, hw2, ht])
      | (exact hA (i + 1, IntKind.i64.wrap (n + l[i].l.length)) _ (Wk.at _ rfl (by simp) (by simp)) ⟨by simp only; omega, h2⟩ (by simp only; omega))
      | ((first | rw [if_pos (by first | omega | (simp only [maxLen]; omega))] | rw [if_neg (by first | omega | (simp only [maxLen]; omega))] | rw [frzOwn_neat (by simp) (by simp <;> omega)] | rw [fzOwn_neat (by simp) (by simp <;> omega)]); try simp [hi, hn, NodeR.enc, hw2, ht])
      | ((first | refine TstB.go (fun hw_ ew_ => ?_) (fun hw_ ew_ => ?_)) <;> first | (exfalso; first | omega | with_reducible exact hw_ (by assumption) | with_reducible exact absurd hw_ (by assumption)) | simp [ew_, hi, hn, NodeR.enc, hw2, ht])
      | fail)
end Go.Proofs.Ytilmfmjcemfoeaa
