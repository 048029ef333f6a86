/- The same: by the program, by the document. -/
import Derived.Test.YtpbjeabigckijaaTabJ
set_option linter.unusedVariables false
set_option linter.unusedSimpArgs false
namespace Go.Proofs.Ytpbjeabigckijaa
open Go.Cx Tab
set_option maxHeartbeats 400000
set_option maxRecDepth 40000

theorem eq_of_get {α : Type} {a b : List α} (hl : a.length = b.length) (h : ∀ k (h1 : k < a.length) (h2 : k < b.length), a[k] = b[k]) : a = b := List.ext_getElem hl h
theorem rsame14_ne (a b : List RowR) (R : RightT a) (hne : ¬ a = b) : PCall Try.prog 14 [encL RowR.enc a, encL RowR.enc b] (B false) := by
  refine PCall.mk (fun _ => false) Try.func14 rfl rfl rfl (Ent.mk Try.func14 (by kernel_rfl) rfl) (by simp) (by simp) fun hfit => ?_
  simp at hfit
  simp [Try.f14]
  by_cases hl : a.length = b.length
  case neg =>
    try simp [hl]
    repeat' (first
      | ((first | refine Tst.go (fun hw_ ew_ => ?_) (fun hw_ ew_ => ?_)) <;> first | (exfalso; first | omega | with_reducible exact hw_ (by assumption) | with_reducible exact absurd hw_ (by assumption)) | (have nw_ := Nw.nw hw_; simp [ew_, nw_, hl]) | simp [ew_, hl])
      | ((first | refine AW.draw (id := 6) Try.checked.mixed (fun _ => false) [] [] 52 (by kernel_rfl) ?_ | refine AW.draw (id := 11) Try.checked.mixed (fun _ => false) [] [] 17 (by kernel_rfl) ?_ | rw [if_pos (by first | omega | (simp only [maxLen]; omega))] | rw [if_neg (by first | omega | (simp only [maxLen]; omega))] | rw [frzOwn_neat (by simp) (by simp <;> omega)] | rw [fzOwn_neat (by simp) (by simp <;> omega)]); try simp [hl])
      | ((first | refine TstB.go (fun hw_ ew_ => ?_) (fun hw_ ew_ => ?_)) <;> first | (exfalso; first | omega | with_reducible exact hw_ (by assumption) | with_reducible exact absurd hw_ (by assumption)) | simp [ew_, hl])
      | fail)
  try simp [hl]
  repeat' (first
    | ((first | refine Tst.go (fun hw_ ew_ => ?_) (fun hw_ ew_ => ?_)) <;> first | (exfalso; first | omega | with_reducible exact hw_ (by assumption) | with_reducible exact absurd hw_ (by assumption)) | (have nw_ := Nw.nw hw_; simp [ew_, nw_, hl]) | simp [ew_, hl])
    | ((first | refine AW.draw (id := 6) Try.checked.mixed (fun _ => false) [] [] 52 (by kernel_rfl) ?_ | refine AW.draw (id := 11) Try.checked.mixed (fun _ => false) [] [] 17 (by kernel_rfl) ?_ | rw [if_pos (by first | omega | (simp only [maxLen]; omega))] | rw [if_neg (by first | omega | (simp only [maxLen]; omega))] | rw [frzOwn_neat (by simp) (by simp <;> omega)] | rw [fzOwn_neat (by simp) (by simp <;> omega)]); try simp [hl])
    | ((first | refine TstB.go (fun hw_ ew_ => ?_) (fun hw_ ew_ => ?_)) <;> first | (exfalso; first | omega | with_reducible exact hw_ (by assumption) | with_reducible exact absurd hw_ (by assumption)) | simp [ew_, hl])
    | fail)
  refine AW.loopG (lit := fun _ => false) (fun i : Nat => ⟨97, pat [(0, encL RowR.enc a), (1, encL RowR.enc b), (5, I i)], []⟩) (fun i => b.length - i) (fun i => i ≤ b.length ∧ ∀ k (h1 : k < a.length) (h2 : k < b.length), k < i → a[k] = b[k]) 0 ?_ ?_ ?_
  · exact Wk.at _ rfl (by simp [hl]) (by simp)
  · exact ⟨by simp, fun k _ _ h => by omega⟩
  rintro i ⟨h1, h2⟩ A hA
  by_cases hi : i < b.length
  case neg => exact absurd (eq_of_get hl fun k q1 q2 => h2 k q1 q2 (by omega)) hne
  have hi2 : i < a.length := by omega
  have hw2 := wrap_nat hi (hl ▸ hfit.1.1)
  have hlen := (R.ok _ (List.getElem_mem hi2)).len
  by_cases c1 : a[i].client = b[i].client
  case neg =>
    try simp [hi, hi2, hl, RowR.enc, c1]
    repeat' (first
      | ((first | refine Tst.go (fun hw_ ew_ => ?_) (fun hw_ ew_ => ?_)) <;> first | (exfalso; first | omega | with_reducible exact hw_ (by assumption) | with_reducible exact absurd hw_ (by assumption)) | (have nw_ := Nw.nw hw_; simp [ew_, nw_, hi, hi2, hl, RowR.enc, c1]) | simp [ew_, hi, hi2, hl, RowR.enc, c1])
      | ((first | refine AW.draw (id := 6) Try.checked.mixed (fun _ => false) [] [] 52 (by kernel_rfl) ?_ | refine AW.draw (id := 11) Try.checked.mixed (fun _ => false) [] [] 17 (by kernel_rfl) ?_ | rw [if_pos (by first | omega | (simp only [maxLen]; omega))] | rw [if_neg (by first | omega | (simp only [maxLen]; omega))] | rw [frzOwn_neat (by simp) (by simp <;> omega)] | rw [fzOwn_neat (by simp) (by simp <;> omega)]); try simp [hi, hi2, hl, RowR.enc, c1])
      | ((first | refine TstB.go (fun hw_ ew_ => ?_) (fun hw_ ew_ => ?_)) <;> first | (exfalso; first | omega | with_reducible exact hw_ (by assumption) | with_reducible exact absurd hw_ (by assumption)) | simp [ew_, hi, hi2, hl, RowR.enc, c1])
      | fail)
  by_cases c2 : a[i].epoch = b[i].epoch
  case neg =>
    try simp [hi, hi2, hl, RowR.enc, c1, c2]
    repeat' (first
      | ((first | refine Tst.go (fun hw_ ew_ => ?_) (fun hw_ ew_ => ?_)) <;> first | (exfalso; first | omega | with_reducible exact hw_ (by assumption) | with_reducible exact absurd hw_ (by assumption)) | (have nw_ := Nw.nw hw_; simp [ew_, nw_, hi, hi2, hl, RowR.enc, c1, c2]) | simp [ew_, hi, hi2, hl, RowR.enc, c1, c2])
      | ((first | refine AW.draw (id := 6) Try.checked.mixed (fun _ => false) [] [] 52 (by kernel_rfl) ?_ | refine AW.draw (id := 11) Try.checked.mixed (fun _ => false) [] [] 17 (by kernel_rfl) ?_ | rw [if_pos (by first | omega | (simp only [maxLen]; omega))] | rw [if_neg (by first | omega | (simp only [maxLen]; omega))] | rw [frzOwn_neat (by simp) (by simp <;> omega)] | rw [fzOwn_neat (by simp) (by simp <;> omega)]); try simp [hi, hi2, hl, RowR.enc, c1, c2])
      | ((first | refine TstB.go (fun hw_ ew_ => ?_) (fun hw_ ew_ => ?_)) <;> first | (exfalso; first | omega | with_reducible exact hw_ (by assumption) | with_reducible exact absurd hw_ (by assumption)) | simp [ew_, hi, hi2, hl, RowR.enc, c1, c2])
      | fail)
  by_cases c3 : a[i].done = b[i].done
  case neg =>
    try simp [hi, hi2, hl, RowR.enc, c1, c2, c3]
    repeat' (first
      | ((first | refine Tst.go (fun hw_ ew_ => ?_) (fun hw_ ew_ => ?_)) <;> first | (exfalso; first | omega | with_reducible exact hw_ (by assumption) | with_reducible exact absurd hw_ (by assumption)) | (have nw_ := Nw.nw hw_; simp [ew_, nw_, hi, hi2, hl, RowR.enc, c1, c2, c3]) | simp [ew_, hi, hi2, hl, RowR.enc, c1, c2, c3])
      | ((first | refine AW.draw (id := 6) Try.checked.mixed (fun _ => false) [] [] 52 (by kernel_rfl) ?_ | refine AW.draw (id := 11) Try.checked.mixed (fun _ => false) [] [] 17 (by kernel_rfl) ?_ | rw [if_pos (by first | omega | (simp only [maxLen]; omega))] | rw [if_neg (by first | omega | (simp only [maxLen]; omega))] | rw [frzOwn_neat (by simp) (by simp <;> omega)] | rw [fzOwn_neat (by simp) (by simp <;> omega)]); try simp [hi, hi2, hl, RowR.enc, c1, c2, c3])
      | ((first | refine TstB.go (fun hw_ ew_ => ?_) (fun hw_ ew_ => ?_)) <;> first | (exfalso; first | omega | with_reducible exact hw_ (by assumption) | with_reducible exact absurd hw_ (by assumption)) | simp [ew_, hi, hi2, hl, RowR.enc, c1, c2, c3])
      | fail)
  by_cases c4 : a[i].l.length = b[i].l.length
  case neg =>
    try simp [hi, hi2, hl, RowR.enc, c1, c2, c3, c4]
    repeat' (first
      | ((first | refine Tst.go (fun hw_ ew_ => ?_) (fun hw_ ew_ => ?_)) <;> first | (exfalso; first | omega | with_reducible exact hw_ (by assumption) | with_reducible exact absurd hw_ (by assumption)) | (have nw_ := Nw.nw hw_; simp [ew_, nw_, hi, hi2, hl, RowR.enc, c1, c2, c3, c4]) | simp [ew_, hi, hi2, hl, RowR.enc, c1, c2, c3, c4])
      | ((first | refine AW.draw (id := 6) Try.checked.mixed (fun _ => false) [] [] 52 (by kernel_rfl) ?_ | refine AW.draw (id := 11) Try.checked.mixed (fun _ => false) [] [] 17 (by kernel_rfl) ?_ | rw [if_pos (by first | omega | (simp only [maxLen]; omega))] | rw [if_neg (by first | omega | (simp only [maxLen]; omega))] | rw [frzOwn_neat (by simp) (by simp <;> omega)] | rw [fzOwn_neat (by simp) (by simp <;> omega)]); try simp [hi, hi2, hl, RowR.enc, c1, c2, c3, c4])
      | ((first | refine TstB.go (fun hw_ ew_ => ?_) (fun hw_ ew_ => ?_)) <;> first | (exfalso; first | omega | with_reducible exact hw_ (by assumption) | with_reducible exact absurd hw_ (by assumption)) | simp [ew_, hi, hi2, hl, RowR.enc, c1, c2, c3, c4])
      | fail)
  try simp [hi, hi2, hl, RowR.enc, c1, c2, c3, c4]
  repeat' (first
    | ((first | refine Tst.go (fun hw_ ew_ => ?_) (fun hw_ ew_ => ?_)) <;> first | (exfalso; first | omega | with_reducible exact hw_ (by assumption) | with_reducible exact absurd hw_ (by assumption)) | (have nw_ := Nw.nw hw_; simp [ew_, nw_, hi, hi2, hl, RowR.enc, c1, c2, c3, c4]) | simp [ew_, hi, hi2, hl, RowR.enc, c1, c2, c3, c4])
    | ((first | refine AW.draw (id := 6) Try.checked.mixed (fun _ => false) [] [] 52 (by kernel_rfl) ?_ | refine AW.draw (id := 11) Try.checked.mixed (fun _ => false) [] [] 17 (by kernel_rfl) ?_ | rw [if_pos (by first | omega | (simp only [maxLen]; omega))] | rw [if_neg (by first | omega | (simp only [maxLen]; omega))] | rw [frzOwn_neat (by simp) (by simp <;> omega)] | rw [fzOwn_neat (by simp) (by simp <;> omega)]); try simp [hi, hi2, hl, RowR.enc, c1, c2, c3, c4])
    | ((first | refine TstB.go (fun hw_ ew_ => ?_) (fun hw_ ew_ => ?_)) <;> first | (exfalso; first | omega | with_reducible exact hw_ (by assumption) | with_reducible exact absurd hw_ (by assumption)) | simp [ew_, hi, hi2, hl, RowR.enc, c1, c2, c3, c4])
    | fail)
  refine AW.loopG (lit := fun _ => false) (fun j : Nat => ⟨97, pat [(0, encL RowR.enc a), (1, encL RowR.enc b), (5, I i), (6, I j)], []⟩) (fun j => b[i].l.length - j) (fun j => j ≤ b[i].l.length ∧ ∀ k (h1 : k < a[i].l.length) (h2 : k < b[i].l.length), k < j → a[i].l[k] = b[i].l[k]) 0 ?_ ?_ ?_
  · exact Wk.at _ rfl (by simp [hl]) (by simp)
  · exact ⟨by simp, fun k _ _ h => by omega⟩
  rintro j ⟨g1, g2⟩ A2 hA2
  by_cases hj : j < b[i].l.length
  case neg =>
    have he : a[i] = b[i] := (RowR.eq_iff _ _).2 ⟨c1, c2, c3, eq_of_get c4 fun k q1 q2 => g2 k q1 q2 (by omega)⟩
    try simp [hi, hi2, hj, hl, hw2, c4, RowR.enc]
    repeat' (first
      | ((first | refine Tst.go (fun hw_ ew_ => ?_) (fun hw_ ew_ => ?_)) <;> first | (exfalso; first | omega | with_reducible exact hw_ (by assumption) | with_reducible exact absurd hw_ (by assumption)) | (have nw_ := Nw.nw hw_; simp [ew_, nw_, hi, hi2, hj, hl, hw2, c4, RowR.enc]) | simp [ew_, hi, hi2, hj, hl, hw2, c4, RowR.enc])
      | (exact hA (i + 1) _ (Wk.at _ rfl (by simp [hl]) (by simp)) ⟨hi, fun k q1 q2 q => by rcases Nat.lt_or_ge k i with q3 | q3; (· exact h2 k q1 q2 q3); (obtain rfl : k = i := (by omega); exact he)⟩ (by omega))
      | ((first | refine AW.draw (id := 6) Try.checked.mixed (fun _ => false) [] [] 52 (by kernel_rfl) ?_ | refine AW.draw (id := 11) Try.checked.mixed (fun _ => false) [] [] 17 (by kernel_rfl) ?_ | rw [if_pos (by first | omega | (simp only [maxLen]; omega))] | rw [if_neg (by first | omega | (simp only [maxLen]; omega))] | rw [frzOwn_neat (by simp) (by simp <;> omega)] | rw [fzOwn_neat (by simp) (by simp <;> omega)]); try simp [hi, hi2, hj, hl, hw2, c4, RowR.enc])
      | ((first | refine TstB.go (fun hw_ ew_ => ?_) (fun hw_ ew_ => ?_)) <;> first | (exfalso; first | omega | with_reducible exact hw_ (by assumption) | with_reducible exact absurd hw_ (by assumption)) | simp [ew_, hi, hi2, hj, hl, hw2, c4, RowR.enc])
      | fail)
  have hj2 : j < a[i].l.length := by omega
  have hw3 := wrap_nat hj (by simp only [maxLen]; omega)
  by_cases hs : a[i].l[j] = b[i].l[j]
  · try simp [hi, hi2, hj, hj2, hl, hw3, hs, c4, RowR.enc, decK]
    repeat' (first
      | ((first | refine Tst.go (fun hw_ ew_ => ?_) (fun hw_ ew_ => ?_)) <;> first | (exfalso; first | omega | with_reducible exact hw_ (by assumption) | with_reducible exact absurd hw_ (by assumption)) | (have nw_ := Nw.nw hw_; simp [ew_, nw_, hi, hi2, hj, hj2, hl, hw3, hs, c4, RowR.enc, decK]) | simp [ew_, hi, hi2, hj, hj2, hl, hw3, hs, c4, RowR.enc, decK])
      | (exact hA2 (j + 1) _ (Wk.at _ rfl (by simp [hl]) (by simp)) ⟨hj, fun k q1 q2 q => by rcases Nat.lt_or_ge k j with q3 | q3; (· exact g2 k q1 q2 q3); (obtain rfl : k = j := (by omega); exact hs)⟩ (by omega))
      | ((first | refine AW.draw (id := 6) Try.checked.mixed (fun _ => false) [] [] 52 (by kernel_rfl) ?_ | refine AW.draw (id := 11) Try.checked.mixed (fun _ => false) [] [] 17 (by kernel_rfl) ?_ | rw [if_pos (by first | omega | (simp only [maxLen]; omega))] | rw [if_neg (by first | omega | (simp only [maxLen]; omega))] | rw [frzOwn_neat (by simp) (by simp <;> omega)] | rw [fzOwn_neat (by simp) (by simp <;> omega)]); try simp [hi, hi2, hj, hj2, hl, hw3, hs, c4, RowR.enc, decK])
      | ((first | refine TstB.go (fun hw_ ew_ => ?_) (fun hw_ ew_ => ?_)) <;> first | (exfalso; first | omega | with_reducible exact hw_ (by assumption) | with_reducible exact absurd hw_ (by assumption)) | simp [ew_, hi, hi2, hj, hj2, hl, hw3, hs, c4, RowR.enc, decK])
      | fail)
  · try simp [hi, hi2, hj, hj2, hl, hs, c4, RowR.enc, decK]
    repeat' (first
      | ((first | refine Tst.go (fun hw_ ew_ => ?_) (fun hw_ ew_ => ?_)) <;> first | (exfalso; first | omega | with_reducible exact hw_ (by assumption) | with_reducible exact absurd hw_ (by assumption)) | (have nw_ := Nw.nw hw_; simp [ew_, nw_, hi, hi2, hj, hj2, hl, hs, c4, RowR.enc, decK]) | simp [ew_, hi, hi2, hj, hj2, hl, hs, c4, RowR.enc, decK])
      | ((first | refine AW.draw (id := 6) Try.checked.mixed (fun _ => false) [] [] 52 (by kernel_rfl) ?_ | refine AW.draw (id := 11) Try.checked.mixed (fun _ => false) [] [] 17 (by kernel_rfl) ?_ | rw [if_pos (by first | omega | (simp only [maxLen]; omega))] | rw [if_neg (by first | omega | (simp only [maxLen]; omega))] | rw [frzOwn_neat (by simp) (by simp <;> omega)] | rw [fzOwn_neat (by simp) (by simp <;> omega)]); try simp [hi, hi2, hj, hj2, hl, hs, c4, RowR.enc, decK])
      | ((first | refine TstB.go (fun hw_ ew_ => ?_) (fun hw_ ew_ => ?_)) <;> first | (exfalso; first | omega | with_reducible exact hw_ (by assumption) | with_reducible exact absurd hw_ (by assumption)) | simp [ew_, hi, hi2, hj, hj2, hl, hs, c4, RowR.enc, decK])
      | fail)
theorem sequal_ok (a b : List DecisionR) : PCall Try.prog 46 [encL DecisionR.enc a, encL DecisionR.enc b] (B (decide (a = b))) := by
  refine PCall.mk (fun _ => false) Try.func46 rfl rfl rfl (Ent.mk Try.func46 (by kernel_rfl) rfl) (by simp) (by simp) fun hfit => ?_
  simp at hfit
  simp [Try.f46]
  by_cases hl : a.length = b.length
  case neg =>
    have hne : ¬ a = b := fun e => hl (by rw [e])
    try simp [hl, hne]
    repeat' (first
      | ((first | refine Tst.go (fun hw_ ew_ => ?_) (fun hw_ ew_ => ?_)) <;> first | (exfalso; first | omega | with_reducible exact hw_ (by assumption) | with_reducible exact absurd hw_ (by assumption)) | (have nw_ := Nw.nw hw_; simp [ew_, nw_, hl, hne]) | simp [ew_, hl, hne])
      | ((first | refine AW.draw (id := 6) Try.checked.mixed (fun _ => false) [] [] 9 (by kernel_rfl) ?_ | rw [if_pos (by first | omega | (simp only [maxLen]; omega))] | rw [if_neg (by first | omega | (simp only [maxLen]; omega))] | rw [frzOwn_neat (by simp) (by simp <;> omega)] | rw [fzOwn_neat (by simp) (by simp <;> omega)]); try simp [hl, hne])
      | ((first | refine TstB.go (fun hw_ ew_ => ?_) (fun hw_ ew_ => ?_)) <;> first | (exfalso; first | omega | with_reducible exact hw_ (by assumption) | with_reducible exact absurd hw_ (by assumption)) | simp [ew_, hl, hne])
      | fail)
  try simp [hl]
  repeat' (first
    | ((first | refine Tst.go (fun hw_ ew_ => ?_) (fun hw_ ew_ => ?_)) <;> first | (exfalso; first | omega | with_reducible exact hw_ (by assumption) | with_reducible exact absurd hw_ (by assumption)) | (have nw_ := Nw.nw hw_; simp [ew_, nw_, hl]) | simp [ew_, hl])
    | ((first | refine AW.draw (id := 6) Try.checked.mixed (fun _ => false) [] [] 9 (by kernel_rfl) ?_ | rw [if_pos (by first | omega | (simp only [maxLen]; omega))] | rw [if_neg (by first | omega | (simp only [maxLen]; omega))] | rw [frzOwn_neat (by simp) (by simp <;> omega)] | rw [fzOwn_neat (by simp) (by simp <;> omega)]); try simp [hl])
    | ((first | refine TstB.go (fun hw_ ew_ => ?_) (fun hw_ ew_ => ?_)) <;> first | (exfalso; first | omega | with_reducible exact hw_ (by assumption) | with_reducible exact absurd hw_ (by assumption)) | simp [ew_, hl])
    | fail)
  refine AW.loopG (lit := fun _ => false) (fun i : Nat => ⟨26, pat [(0, encL DecisionR.enc a), (1, encL DecisionR.enc b), (12, I b.length), (13, I i)], []⟩) (fun i => b.length - i) (fun i => i ≤ b.length ∧ ∀ k (h1 : k < a.length) (h2 : k < b.length), k < i → a[k] = b[k]) 0 ?_ ?_ ?_
  · exact Wk.at _ rfl (by simp [hl]) (by simp)
  · exact ⟨by simp, fun k _ _ h => by omega⟩
  rintro i ⟨h1, h2⟩ A hA
  by_cases hi : i < b.length
  case neg =>
    have he : a = b := eq_of_get hl fun k q1 q2 => h2 k q1 q2 (by omega)
    subst he
    try simp [hi]
    repeat' (first
      | ((first | refine Tst.go (fun hw_ ew_ => ?_) (fun hw_ ew_ => ?_)) <;> first | (exfalso; first | omega | with_reducible exact hw_ (by assumption) | with_reducible exact absurd hw_ (by assumption)) | (have nw_ := Nw.nw hw_; simp [ew_, nw_, hi]) | simp [ew_, hi])
      | ((first | refine AW.draw (id := 6) Try.checked.mixed (fun _ => false) [] [] 9 (by kernel_rfl) ?_ | rw [if_pos (by first | omega | (simp only [maxLen]; omega))] | rw [if_neg (by first | omega | (simp only [maxLen]; omega))] | rw [frzOwn_neat (by simp) (by simp <;> omega)] | rw [fzOwn_neat (by simp) (by simp <;> omega)]); try simp [hi])
      | ((first | refine TstB.go (fun hw_ ew_ => ?_) (fun hw_ ew_ => ?_)) <;> first | (exfalso; first | omega | with_reducible exact hw_ (by assumption) | with_reducible exact absurd hw_ (by assumption)) | simp [ew_, hi])
      | fail)
  have hi2 : i < a.length := by omega
  have hw2 := wrap_nat hi (hl ▸ hfit.1.1)
  by_cases hs : a[i] = b[i]
  · try simp [hi, hi2, hl, hw2, hs, decK]
    repeat' (first
      | ((first | refine Tst.go (fun hw_ ew_ => ?_) (fun hw_ ew_ => ?_)) <;> first | (exfalso; first | omega | with_reducible exact hw_ (by assumption) | with_reducible exact absurd hw_ (by assumption)) | (have nw_ := Nw.nw hw_; simp [ew_, nw_, hi, hi2, hl, hw2, hs, decK]) | simp [ew_, hi, hi2, hl, hw2, hs, decK])
      | (exact hA (i + 1) _ (Wk.at _ rfl (by simp [hl]) (by simp)) ⟨hi, fun k q1 q2 q => by rcases Nat.lt_or_ge k i with q3 | q3; (· exact h2 k q1 q2 q3); (obtain rfl : k = i := (by omega); exact hs)⟩ (by omega))
      | ((first | refine AW.draw (id := 6) Try.checked.mixed (fun _ => false) [] [] 9 (by kernel_rfl) ?_ | rw [if_pos (by first | omega | (simp only [maxLen]; omega))] | rw [if_neg (by first | omega | (simp only [maxLen]; omega))] | rw [frzOwn_neat (by simp) (by simp <;> omega)] | rw [fzOwn_neat (by simp) (by simp <;> omega)]); try simp [hi, hi2, hl, hw2, hs, decK])
      | ((first | refine TstB.go (fun hw_ ew_ => ?_) (fun hw_ ew_ => ?_)) <;> first | (exfalso; first | omega | with_reducible exact hw_ (by assumption) | with_reducible exact absurd hw_ (by assumption)) | simp [ew_, hi, hi2, hl, hw2, hs, decK])
      | fail)
  · have hne : ¬ a = b := fun e => hs (by subst e; rfl)
    try simp [hi, hi2, hl, hs, hne, decK]
    repeat' (first
      | ((first | refine Tst.go (fun hw_ ew_ => ?_) (fun hw_ ew_ => ?_)) <;> first | (exfalso; first | omega | with_reducible exact hw_ (by assumption) | with_reducible exact absurd hw_ (by assumption)) | (have nw_ := Nw.nw hw_; simp [ew_, nw_, hi, hi2, hl, hs, hne, decK]) | simp [ew_, hi, hi2, hl, hs, hne, decK])
      | ((first | refine AW.draw (id := 6) Try.checked.mixed (fun _ => false) [] [] 9 (by kernel_rfl) ?_ | rw [if_pos (by first | omega | (simp only [maxLen]; omega))] | rw [if_neg (by first | omega | (simp only [maxLen]; omega))] | rw [frzOwn_neat (by simp) (by simp <;> omega)] | rw [fzOwn_neat (by simp) (by simp <;> omega)]); try simp [hi, hi2, hl, hs, hne, decK])
      | ((first | refine TstB.go (fun hw_ ew_ => ?_) (fun hw_ ew_ => ?_)) <;> first | (exfalso; first | omega | with_reducible exact hw_ (by assumption) | with_reducible exact absurd hw_ (by assumption)) | simp [ew_, hi, hi2, hl, hs, hne, decK])
      | fail)
theorem same1_ok (r s : RowR) : PCall Try.prog 45 [.agg r.enc, .agg s.enc] (B (decide (r = s))) := by
  have h1 := sequal_ok r.l s.l
  have he : decide (r = s) = (decide (r.client = s.client) && (decide (r.epoch = s.epoch) && (decide (r.done = s.done) && decide (r.l = s.l)))) := by
    rw [Bool.eq_iff_iff]; simp [RowR.eq_iff]
  rw [he]
  generalize decide (r.l = s.l) = b at *
  refine PCall.mk (fun _ => false) Try.func45 rfl rfl rfl (Ent.mk Try.func45 (by kernel_rfl) rfl) (by simp) (by simp) fun hfit => ?_
  simp [Try.f45]
  try simp [RowR.enc]
  repeat' (first
    | ((first | refine Tst.go (fun hw_ ew_ => ?_) (fun hw_ ew_ => ?_)) <;> first | (exfalso; first | omega | with_reducible exact hw_ (by assumption) | with_reducible exact absurd hw_ (by assumption)) | (have nw_ := Nw.nw hw_; simp [ew_, nw_, RowR.enc]) | simp [ew_, RowR.enc])
    | ((first | (refine Pc.go (h1) ?_ ?_; focus (first | rfl | (simp [RowR.enc]; done))) | rw [if_pos (by first | omega | (simp only [maxLen]; omega))] | rw [if_neg (by first | omega | (simp only [maxLen]; omega))] | rw [frzOwn_neat (by simp) (by simp <;> omega)] | rw [fzOwn_neat (by simp) (by simp <;> omega)]); try simp [RowR.enc])
    | ((first | refine TstB.go (fun hw_ ew_ => ?_) (fun hw_ ew_ => ?_)) <;> first | (exfalso; first | omega | with_reducible exact hw_ (by assumption) | with_reducible exact absurd hw_ (by assumption)) | simp [ew_, RowR.enc])
    | fail)
theorem eqfunc_ok (a b : List RowR) : PCall Try.prog 44 [encL RowR.enc a, encL RowR.enc b, .fn 45 []] (B (decide (a = b))) := by
  refine PCall.mk (fun _ => false) Try.func44 rfl rfl rfl (Ent.mk Try.func44 (by kernel_rfl) rfl) (by simp) (by simp) fun hfit => ?_
  simp at hfit
  simp [Try.f44]
  by_cases hl : a.length = b.length
  case neg =>
    have hne : ¬ a = b := fun e => hl (by rw [e])
    try simp [hl, hne]
    repeat' (first
      | ((first | refine Tst.go (fun hw_ ew_ => ?_) (fun hw_ ew_ => ?_)) <;> first | (exfalso; first | omega | with_reducible exact hw_ (by assumption) | with_reducible exact absurd hw_ (by assumption)) | (have nw_ := Nw.nw hw_; simp [ew_, nw_, hl, hne]) | simp [ew_, hl, hne])
      | ((first | rw [if_pos (by first | omega | (simp only [maxLen]; omega))] | rw [if_neg (by first | omega | (simp only [maxLen]; omega))] | rw [frzOwn_neat (by simp) (by simp <;> omega)] | rw [fzOwn_neat (by simp) (by simp <;> omega)]); try simp [hl, hne])
      | ((first | refine TstB.go (fun hw_ ew_ => ?_) (fun hw_ ew_ => ?_)) <;> first | (exfalso; first | omega | with_reducible exact hw_ (by assumption) | with_reducible exact absurd hw_ (by assumption)) | simp [ew_, hl, hne])
      | fail)
  try simp [hl]
  repeat' (first
    | ((first | refine Tst.go (fun hw_ ew_ => ?_) (fun hw_ ew_ => ?_)) <;> first | (exfalso; first | omega | with_reducible exact hw_ (by assumption) | with_reducible exact absurd hw_ (by assumption)) | (have nw_ := Nw.nw hw_; simp [ew_, nw_, hl]) | simp [ew_, hl])
    | ((first | rw [if_pos (by first | omega | (simp only [maxLen]; omega))] | rw [if_neg (by first | omega | (simp only [maxLen]; omega))] | rw [frzOwn_neat (by simp) (by simp <;> omega)] | rw [fzOwn_neat (by simp) (by simp <;> omega)]); try simp [hl])
    | ((first | refine TstB.go (fun hw_ ew_ => ?_) (fun hw_ ew_ => ?_)) <;> first | (exfalso; first | omega | with_reducible exact hw_ (by assumption) | with_reducible exact absurd hw_ (by assumption)) | simp [ew_, hl])
    | fail)
  refine AW.loopG (lit := fun _ => false) (fun i : Nat => ⟨32, pat [(0, encL RowR.enc a), (1, encL RowR.enc b), (2, .fn 45 []), (15, encL RowR.enc a), (16, I b.length), (17, I i)], []⟩) (fun i => b.length - i) (fun i => i ≤ b.length ∧ ∀ k (h1 : k < a.length) (h2 : k < b.length), k < i → a[k] = b[k]) 0 ?_ ?_ ?_
  · exact Wk.at _ rfl (by simp [hl]) (by simp)
  · exact ⟨by simp, fun k _ _ h => by omega⟩
  rintro i ⟨h1, h2⟩ A hA
  by_cases hi : i < b.length
  case neg =>
    have he : a = b := eq_of_get hl fun k q1 q2 => h2 k q1 q2 (by omega)
    subst he
    try simp [hi]
    repeat' (first
      | ((first | refine Tst.go (fun hw_ ew_ => ?_) (fun hw_ ew_ => ?_)) <;> first | (exfalso; first | omega | with_reducible exact hw_ (by assumption) | with_reducible exact absurd hw_ (by assumption)) | (have nw_ := Nw.nw hw_; simp [ew_, nw_, hi]) | simp [ew_, hi])
      | ((first | rw [if_pos (by first | omega | (simp only [maxLen]; omega))] | rw [if_neg (by first | omega | (simp only [maxLen]; omega))] | rw [frzOwn_neat (by simp) (by simp <;> omega)] | rw [fzOwn_neat (by simp) (by simp <;> omega)]); try simp [hi])
      | ((first | refine TstB.go (fun hw_ ew_ => ?_) (fun hw_ ew_ => ?_)) <;> first | (exfalso; first | omega | with_reducible exact hw_ (by assumption) | with_reducible exact absurd hw_ (by assumption)) | simp [ew_, hi])
      | fail)
  have hi2 : i < a.length := by omega
  have hw2 := wrap_nat hi (hl ▸ hfit.1.1)
  have hk := same1_ok a[i] b[i]
  by_cases hs : a[i] = b[i]
  · rw [decide_eq_true hs] at hk
    try simp [hi, hi2, hl, hw2]
    repeat' (first
      | ((first | refine Tst.go (fun hw_ ew_ => ?_) (fun hw_ ew_ => ?_)) <;> first | (exfalso; first | omega | with_reducible exact hw_ (by assumption) | with_reducible exact absurd hw_ (by assumption)) | (have nw_ := Nw.nw hw_; simp [ew_, nw_, hi, hi2, hl, hw2]) | simp [ew_, hi, hi2, hl, hw2])
      | (exact hA (i + 1) _ (Wk.cutAt _ rfl (by simp [hl]) (by simp [hl]) (by simp [hl]) (by simp [hl])) ⟨hi, fun k q1 q2 q => by rcases Nat.lt_or_ge k i with q3 | q3; (· exact h2 k q1 q2 q3); (obtain rfl : k = i := (by omega); exact hs)⟩ (by omega))
      | ((first | (refine Pc.go (hk) ?_ ?_; focus (first | rfl | (simp [hi, hi2, hl, hw2]; done))) | rw [if_pos (by first | omega | (simp only [maxLen]; omega))] | rw [if_neg (by first | omega | (simp only [maxLen]; omega))] | rw [frzOwn_neat (by simp) (by simp <;> omega)] | rw [fzOwn_neat (by simp) (by simp <;> omega)]); try simp [hi, hi2, hl, hw2])
      | ((first | refine TstB.go (fun hw_ ew_ => ?_) (fun hw_ ew_ => ?_)) <;> first | (exfalso; first | omega | with_reducible exact hw_ (by assumption) | with_reducible exact absurd hw_ (by assumption)) | simp [ew_, hi, hi2, hl, hw2])
      | fail)
  · have hne : ¬ a = b := fun e => hs (by subst e; rfl)
    rw [decide_eq_false hs] at hk
    try simp [hi, hi2, hl, hne]
    repeat' (first
      | ((first | refine Tst.go (fun hw_ ew_ => ?_) (fun hw_ ew_ => ?_)) <;> first | (exfalso; first | omega | with_reducible exact hw_ (by assumption) | with_reducible exact absurd hw_ (by assumption)) | (have nw_ := Nw.nw hw_; simp [ew_, nw_, hi, hi2, hl, hne]) | simp [ew_, hi, hi2, hl, hne])
      | ((first | (refine Pc.go (hk) ?_ ?_; focus (first | rfl | (simp [hi, hi2, hl, hne]; done))) | rw [if_pos (by first | omega | (simp only [maxLen]; omega))] | rw [if_neg (by first | omega | (simp only [maxLen]; omega))] | rw [frzOwn_neat (by simp) (by simp <;> omega)] | rw [fzOwn_neat (by simp) (by simp <;> omega)]); try simp [hi, hi2, hl, hne])
      | ((first | refine TstB.go (fun hw_ ew_ => ?_) (fun hw_ ew_ => ?_)) <;> first | (exfalso; first | omega | with_reducible exact hw_ (by assumption) | with_reducible exact absurd hw_ (by assumption)) | simp [ew_, hi, hi2, hl, hne])
      | fail)
theorem same14_ok (a b : List RowR) : PCall Try.prog 21 [encL RowR.enc a, encL RowR.enc b] (B (decide (a = b))) := by
  have h1 := eqfunc_ok a b
  generalize decide (a = b) = t at *
  refine PCall.mk (fun _ => false) Try.func21 rfl rfl rfl (Ent.mk Try.func21 (by kernel_rfl) rfl) (by simp) (by simp) fun hfit => ?_
  simp [Try.f21]
  try simp
  repeat' (first
    | ((first | refine Tst.go (fun hw_ ew_ => ?_) (fun hw_ ew_ => ?_)) <;> first | (exfalso; first | omega | with_reducible exact hw_ (by assumption) | with_reducible exact absurd hw_ (by assumption)) | (have nw_ := Nw.nw hw_; simp [ew_, nw_]) | simp [ew_])
    | ((first | (refine Pc.go (h1) ?_ ?_; focus (first | rfl | (simp; done))) | rw [if_pos (by first | omega | (simp only [maxLen]; omega))] | rw [if_neg (by first | omega | (simp only [maxLen]; omega))] | rw [frzOwn_neat (by simp) (by simp <;> omega)] | rw [fzOwn_neat (by simp) (by simp <;> omega)]); try simp)
    | ((first | refine TstB.go (fun hw_ ew_ => ?_) (fun hw_ ew_ => ?_)) <;> first | (exfalso; first | omega | with_reducible exact hw_ (by assumption) | with_reducible exact absurd hw_ (by assumption)) | simp [ew_])
    | fail)
theorem rsame14_dec (a b : List RowR) (R : RightT a) : PCall Try.prog 14 [encL RowR.enc a, encL RowR.enc b] (B (decide (a = b))) := by
  by_cases h : a = b
  · subst h; simpa using rsame14_ok a R
  · rw [decide_eq_false h]; exact rsame14_ne a b R h
end Go.Proofs.Ytpbjeabigckijaa
