/- What nodes' functions, but for their texts, compute; their reference's. -/
import Derived.Test.YtilmfmjcemfoeaaNameW
import Derived.Test.YtilmfmjcemfoeaaRef01
import Derived.Test.YtilmfmjcemfoeaaBf
set_option linter.unusedVariables false
set_option linter.unusedSimpArgs false
namespace Go.Proofs.Ytilmfmjcemfoeaa
open Go.Cx Tab
set_option maxHeartbeats 400000
set_option maxRecDepth 40000

theorem rsame06_ok (a b : List EntryR) : PCall Try.prog 36 [encL EntryR.enc a, encL EntryR.enc b] (B (decide (a = b))) := by
  refine PCall.mk (fun _ => false) Try.func36 rfl rfl rfl (Ent.mk Try.func36 (by kernel_rfl) rfl) (by simp) (by simp) fun hfit => ?_
  simp at hfit
  simp [Try.f36]
  by_cases hl : a.length = b.length
  case neg =>
    have : ¬ a = b := fun e => hl (by rw [e])
    simp [hl, this]
  simp [hl]
  refine AW.loopG (lit := fun _ => false) (fun i : Nat => ⟨26, pat [(0, encL EntryR.enc a), (1, encL EntryR.enc b), (5, I i)], []⟩) (fun i => b.length - i) (fun i => i ≤ b.length ∧ a.take i = b.take i) 0 ?_ ?_ ?_
  · exact Wk.at _ rfl rfl (by simp [hl])
  · simp
  · rintro i ⟨hi, ht⟩ A hA
    by_cases h : i < b.length
    case neg =>
      have := take_done ht (by omega) (by omega)
      simp [h, hl, eq_true this]
    have ha : i < a.length := by omega
    simp [h, hl]
    refine AW.draw Try.checked.mixed (fun _ => false) [] [] 9 (by kernel_rfl) ?_
    simp [h, ha]
    by_cases h2 : a[i] = b[i]
    · simp [entK, h2, wrap_nat ha hfit.1.1]
      exact hA (i + 1) _ (Wk.at _ rfl (by simp) (by simp)) ⟨by omega, take_step ht ha h h2⟩ (by omega)
    · have : ¬ a = b := fun e => by subst e; exact h2 rfl
      simp [entK, h2, this]

theorem rright_name_ok (l : List EntryR) : PCall Try.prog 32 [encL EntryR.enc l] (B (rowOk l)) := by
  refine PCall.mk (fun _ => false) Try.func32 rfl rfl rfl (Ent.mk Try.func32 (by kernel_rfl) rfl) (by simp) (by simp) fun hfit => ?_
  simp at hfit
  simp [Try.f32, rowOk]
  by_cases hl : l.length ≤ 256
  case neg =>
    try simp [hl]
    repeat' (first
      | ((first | refine Tst.go (fun hw_ ew_ => ?_) (fun hw_ ew_ => ?_)) <;> first | (exfalso; first | omega | with_reducible exact hw_ (by assumption) | with_reducible exact absurd hw_ (by assumption)) | (have nw_ := Nw.nw hw_; simp [ew_, nw_, hl]) | simp [ew_, hl])
      | ((first | refine AW.draw (id := 7) Try.checked.mixed (fun _ => false) [] [] 28 (by kernel_rfl) ?_ | rw [if_pos (by first | omega | (simp only [maxLen]; omega))] | rw [if_neg (by first | omega | (simp only [maxLen]; omega))] | rw [frzOwn_neat (by simp) (by simp <;> omega)] | rw [fzOwn_neat (by simp) (by simp <;> omega)]); try simp [hl])
      | ((first | refine TstB.go (fun hw_ ew_ => ?_) (fun hw_ ew_ => ?_)) <;> first | (exfalso; first | omega | with_reducible exact hw_ (by assumption) | with_reducible exact absurd hw_ (by assumption)) | simp [ew_, hl])
      | fail)
  have hl' := Nat.not_lt.2 hl
  simp [hl']
  refine AW.loopG (lit := fun _ => false) (fun i : Nat => ⟨48, pat [(0, encL EntryR.enc l), (3, I i)], []⟩) (fun i => l.length - i) (fun i => i ≤ l.length ∧ entsOk (prevAt l i) (l.drop i) = entsOk none l) 0 ?_ ?_ ?_
  · exact Wk.at _ rfl rfl (by simp)
  · simp [prevAt]
  rintro i ⟨h5, h6⟩ A hA
  by_cases hi : i < l.length
  case neg =>
    rw [entsOk_end l i (by omega)] at h6
    try simp [← h6, hl]
    repeat' (first
      | ((first | refine Tst.go (fun hw_ ew_ => ?_) (fun hw_ ew_ => ?_)) <;> first | (exfalso; first | omega | with_reducible exact hw_ (by assumption) | with_reducible exact absurd hw_ (by assumption)) | (have nw_ := Nw.nw hw_; simp [ew_, nw_, ← h6, hl]) | simp [ew_, ← h6, hl])
      | ((first | refine AW.draw (id := 7) Try.checked.mixed (fun _ => false) [] [] 28 (by kernel_rfl) ?_ | rw [if_pos (by first | omega | (simp only [maxLen]; omega))] | rw [if_neg (by first | omega | (simp only [maxLen]; omega))] | rw [frzOwn_neat (by simp) (by simp <;> omega)] | rw [fzOwn_neat (by simp) (by simp <;> omega)]); try simp [← h6, hl])
      | ((first | refine TstB.go (fun hw_ ew_ => ?_) (fun hw_ ew_ => ?_)) <;> first | (exfalso; first | omega | with_reducible exact hw_ (by assumption) | with_reducible exact absurd hw_ (by assumption)) | simp [ew_, ← h6, hl])
      | fail)
  rw [entsOk_at l i hi] at h6
  have hw2 := wrap_nat hi hfit.1
  cases i with
  | zero =>
    simp [prevAt] at h6
    try simp [hi, EntryR.enc, hw2, ← h6, hl]
    repeat' (first
      | ((first | refine Tst.go (fun hw_ ew_ => ?_) (fun hw_ ew_ => ?_)) <;> first | (exfalso; first | omega | with_reducible exact hw_ (by assumption) | with_reducible exact absurd hw_ (by assumption)) | (have nw_ := Nw.nw hw_; simp [ew_, nw_, hi, EntryR.enc, hw2, ← h6, hl]) | simp [ew_, hi, EntryR.enc, hw2, ← h6, hl])
      | (exact hA 1 _ (Wk.at _ rfl (by simp) (by simp)) ⟨by omega, by simp [prevAt, hi]; simp_all⟩ (by omega))
      | ((first | (refine Pc.go (rcheck_ok (l[0]).name) ?_ ?_; focus (first | rfl | (simp [hi, EntryR.enc, hw2, ← h6, hl]; done))) | refine AW.draw (id := 7) Try.checked.mixed (fun _ => false) [] [] 28 (by kernel_rfl) ?_ | rw [if_pos (by first | omega | (simp only [maxLen]; omega))] | rw [if_neg (by first | omega | (simp only [maxLen]; omega))] | rw [frzOwn_neat (by simp) (by simp <;> omega)] | rw [fzOwn_neat (by simp) (by simp <;> omega)]); try simp [hi, EntryR.enc, hw2, ← h6, hl])
      | ((first | refine TstB.go (fun hw_ ew_ => ?_) (fun hw_ ew_ => ?_)) <;> first | (exfalso; first | omega | with_reducible exact hw_ (by assumption) | with_reducible exact absurd hw_ (by assumption)) | simp [ew_, hi, EntryR.enc, hw2, ← h6, hl])
      | fail)
  | succ i =>
    have hw3 : IntKind.i64.wrap ((i : Int) + 1 - 1) = (i : Int) := by rw [show (i : Int) + 1 - 1 = i by omega]; exact wrap_id (by omega) (by have := maxLen_lt hfit.1; omega)
    have hw4 : IntKind.i64.wrap (i : Int) = (i : Int) := wrap_id (by omega) (by have := maxLen_lt hfit.1; omega)
    have hw5 : IntKind.i64.wrap ((i : Int) + 1 + 1) = (i : Int) + 2 := by rw [wrap_id (by omega) (by have := maxLen_lt hfit.1; omega)]; omega
    have hi0 : i < l.length := by omega
    simp [prevAt, hi0] at h6
    try simp [hi, EntryR.enc, hw2, hw3, hw4, hw5, hi0, ← h6, hl]
    repeat' (first
      | ((first | refine Tst.go (fun hw_ ew_ => ?_) (fun hw_ ew_ => ?_)) <;> first | (exfalso; first | omega | with_reducible exact hw_ (by assumption) | with_reducible exact absurd hw_ (by assumption)) | (have nw_ := Nw.nw hw_; simp [ew_, nw_, hi, EntryR.enc, hw2, hw3, hw4, hw5, hi0, ← h6, hl]) | simp [ew_, hi, EntryR.enc, hw2, hw3, hw4, hw5, hi0, ← h6, hl])
      | (exact hA (i + 2) _ (Wk.at _ rfl (by simp) (by simp)) ⟨by omega, by simp [prevAt, hi]; simp_all⟩ (by omega))
      | ((first | (refine Pc.go (rcheck_ok (l[i + 1]).name) ?_ ?_; focus (first | rfl | (simp [hi, EntryR.enc, hw2, hw3, hw4, hw5, hi0, ← h6, hl]; done))) | refine AW.draw (id := 7) Try.checked.mixed (fun _ => false) [] [] 28 (by kernel_rfl) ?_ | rw [if_pos (by first | omega | (simp only [maxLen]; omega))] | rw [if_neg (by first | omega | (simp only [maxLen]; omega))] | rw [frzOwn_neat (by simp) (by simp <;> omega)] | rw [fzOwn_neat (by simp) (by simp <;> omega)]); try simp [hi, EntryR.enc, hw2, hw3, hw4, hw5, hi0, ← h6, hl])
      | ((first | refine TstB.go (fun hw_ ew_ => ?_) (fun hw_ ew_ => ?_)) <;> first | (exfalso; first | omega | with_reducible exact hw_ (by assumption) | with_reducible exact absurd hw_ (by assumption)) | simp [ew_, hi, EntryR.enc, hw2, hw3, hw4, hw5, hi0, ← h6, hl])
      | fail)

theorem nright_ok (n : NodeR) : PCall Try.prog 31 [encN n] (B (nodeOk n)) := by
  refine PCall.mk (fun _ => false) Try.func31 rfl rfl rfl (Ent.mk Try.func31 (by kernel_rfl) rfl) (by simp) (by simp) fun hfit => ?_
  simp [Try.f31, NodeR.enc, nodeOk]
  try simp
  repeat' (first
    | ((first | refine Tst.go (fun hw_ ew_ => ?_) (fun hw_ ew_ => ?_)) <;> first | (exfalso; first | omega | with_reducible exact hw_ (by assumption) | with_reducible exact absurd hw_ (by assumption)) | (have nw_ := Nw.nw hw_; simp [ew_, nw_]) | simp [ew_])
    | ((first | (refine Pc.go (right_name_ok n.l) ?_ ?_; focus (first | rfl | (simp; done))) | rw [if_pos (by first | omega | (simp only [maxLen]; omega))] | rw [if_neg (by first | omega | (simp only [maxLen]; omega))] | rw [frzOwn_neat (by simp) (by simp <;> omega)] | rw [fzOwn_neat (by simp) (by simp <;> omega)]); try simp)
    | ((first | refine TstB.go (fun hw_ ew_ => ?_) (fun hw_ ew_ => ?_)) <;> first | (exfalso; first | omega | with_reducible exact hw_ (by assumption) | with_reducible exact absurd hw_ (by assumption)) | simp [ew_])
    | fail)
  intro h; rw [h]; rfl
theorem rnright_ok (n : NodeR) : PCall Try.prog 18 [encN n] (B (nodeOk n)) := by
  refine PCall.mk (fun _ => false) Try.func18 rfl rfl rfl (Ent.mk Try.func18 (by kernel_rfl) rfl) (by simp) (by simp) fun hfit => ?_
  simp [Try.f18, NodeR.enc, nodeOk]
  try simp
  repeat' (first
    | ((first | refine Tst.go (fun hw_ ew_ => ?_) (fun hw_ ew_ => ?_)) <;> first | (exfalso; first | omega | with_reducible exact hw_ (by assumption) | with_reducible exact absurd hw_ (by assumption)) | (have nw_ := Nw.nw hw_; simp [ew_, nw_]) | simp [ew_])
    | ((first | (refine Pc.go (rright_name_ok n.l) ?_ ?_; focus (first | rfl | (simp; done))) | rw [if_pos (by first | omega | (simp only [maxLen]; omega))] | rw [if_neg (by first | omega | (simp only [maxLen]; omega))] | rw [frzOwn_neat (by simp) (by simp <;> omega)] | rw [fzOwn_neat (by simp) (by simp <;> omega)]); try simp)
    | ((first | refine TstB.go (fun hw_ ew_ => ?_) (fun hw_ ew_ => ?_)) <;> first | (exfalso; first | omega | with_reducible exact hw_ (by assumption) | with_reducible exact absurd hw_ (by assumption)) | simp [ew_])
    | fail)
theorem rnsame_ok (a b : NodeR) : PCall Try.prog 24 [encN a, encN b] (B (decide (a = b))) := by
  refine PCall.mk (fun _ => false) Try.func24 rfl rfl rfl (Ent.mk Try.func24 (by kernel_rfl) rfl) (by simp) (by simp) fun hfit => ?_
  simp only [NodeR.eq_iff]
  simp [Try.f24, NodeR.enc]
  try simp
  repeat' (first
    | ((first | refine Tst.go (fun hw_ ew_ => ?_) (fun hw_ ew_ => ?_)) <;> first | (exfalso; first | omega | with_reducible exact hw_ (by assumption) | with_reducible exact absurd hw_ (by assumption)) | (have nw_ := Nw.nw hw_; simp [ew_, nw_]) | simp [ew_])
    | ((first | (refine Pc.go (rsame06_ok a.l b.l) ?_ ?_; focus (first | rfl | (simp; done))) | rw [if_pos (by first | omega | (simp only [maxLen]; omega))] | rw [if_neg (by first | omega | (simp only [maxLen]; omega))] | rw [frzOwn_neat (by simp) (by simp <;> omega)] | rw [fzOwn_neat (by simp) (by simp <;> omega)]); try simp)
    | ((first | refine TstB.go (fun hw_ ew_ => ?_) (fun hw_ ew_ => ?_)) <;> first | (exfalso; first | omega | with_reducible exact hw_ (by assumption) | with_reducible exact absurd hw_ (by assumption)) | simp [ew_])
    | fail)
end Go.Proofs.Ytilmfmjcemfoeaa
