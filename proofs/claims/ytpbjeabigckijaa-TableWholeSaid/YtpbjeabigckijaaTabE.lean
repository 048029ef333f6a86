/- Few, right, the same; the document's example. -/
import Derived.Test.YtpbjeabigckijaaTabD
import Derived.Test.YtpbjeabigckijaaBh
set_option linter.unusedVariables false
set_option linter.unusedSimpArgs false
namespace Go.Proofs.Ytpbjeabigckijaa
open Go.Cx Tab
set_option maxHeartbeats 400000
set_option maxRecDepth 40000

def fewT : Int → List RowR → Bool
  | n, [] => decide (n ≤ 400)
  | n, x :: l => if n ≤ 400 then fewT (IntKind.i64.wrap (n + x.l.length)) l else false
theorem fewT_end {l : List RowR} {n : Int} {i : Nat} (h : ¬ i < l.length) : fewT n (l.drop i) = decide (n ≤ 400) := by
  rw [List.drop_eq_nil_of_le (by omega), fewT]
theorem fewT_at {l : List RowR} {n : Int} {i : Nat} (h : i < l.length) : fewT n (l.drop i) = if n ≤ 400 then fewT (IntKind.i64.wrap (n + l[i].l.length)) (l.drop (i + 1)) else false := by
  rw [List.drop_eq_getElem_cons h, fewT]
theorem few14_ok (l : List RowR) : PCall Try.prog 11 [encL RowR.enc l] (B (fewT l.length l)) := by
  refine PCall.mk (fun _ => false) Try.func11 rfl rfl rfl (Ent.mk Try.func11 (by kernel_rfl) rfl) (by simp) (by simp) fun hfit => ?_
  simp at hfit
  have hll := hfit.1
  simp only [maxLen] at hll
  simp [Try.f11]
  refine AW.loopG (lit := fun _ => false) (fun x : Nat × Int => ⟨27, pat [(0, encL RowR.enc l), (3, I x.2), (4, I x.1)], []⟩) (fun x => l.length - x.1) (fun x => x.1 ≤ l.length ∧ fewT x.2 (l.drop x.1) = fewT l.length l) (0, (l.length : Int)) ?_ ?_ ?_
  · exact Wk.at _ rfl (by simp) (by simp)
  · simp
  rintro ⟨i, n⟩ ⟨h1, h2⟩ A hA
  simp only at h1 h2
  by_cases hi : i < l.length
  case neg =>
    rw [fewT_end hi] at h2
    try simp [hi, ← h2]
    repeat' (first
      | ((first | refine Tst.go (fun hw_ ew_ => ?_) (fun hw_ ew_ => ?_)) <;> first | (exfalso; first | omega | with_reducible exact hw_ (by assumption) | with_reducible exact absurd hw_ (by assumption)) | (have nw_ := Nw.nw hw_; simp [ew_, nw_, hi, ← h2]) | simp [ew_, hi, ← h2])
      | ((first | rw [if_pos (by first | omega | (simp only [maxLen]; omega))] | rw [if_neg (by first | omega | (simp only [maxLen]; omega))] | rw [frzOwn_neat (by simp) (by simp <;> omega)] | rw [fzOwn_neat (by simp) (by simp <;> omega)]); try simp [hi, ← h2])
      | ((first | refine TstB.go (fun hw_ ew_ => ?_) (fun hw_ ew_ => ?_)) <;> first | (exfalso; first | omega | with_reducible exact hw_ (by assumption) | with_reducible exact absurd hw_ (by assumption)) | simp [ew_, hi, ← h2])
      | fail)
  rw [fewT_at hi] at h2
  by_cases hn : n ≤ 400
  case neg =>
    rw [if_neg hn] at h2
    try simp [hi, hn, ← h2]
    repeat' (first
      | ((first | refine Tst.go (fun hw_ ew_ => ?_) (fun hw_ ew_ => ?_)) <;> first | (exfalso; first | omega | with_reducible exact hw_ (by assumption) | with_reducible exact absurd hw_ (by assumption)) | (have nw_ := Nw.nw hw_; simp [ew_, nw_, hi, hn, ← h2]) | simp [ew_, hi, hn, ← h2])
      | ((first | rw [if_pos (by first | omega | (simp only [maxLen]; omega))] | rw [if_neg (by first | omega | (simp only [maxLen]; omega))] | rw [frzOwn_neat (by simp) (by simp <;> omega)] | rw [fzOwn_neat (by simp) (by simp <;> omega)]); try simp [hi, hn, ← h2])
      | ((first | refine TstB.go (fun hw_ ew_ => ?_) (fun hw_ ew_ => ?_)) <;> first | (exfalso; first | omega | with_reducible exact hw_ (by assumption) | with_reducible exact absurd hw_ (by assumption)) | simp [ew_, hi, hn, ← h2])
      | fail)
  rw [if_pos hn] at h2
  have hw2 := wrap_nat hi hfit.1
  try simp [hi, hn, RowR.enc, hw2]
  repeat' (first
    | ((first | refine Tst.go (fun hw_ ew_ => ?_) (fun hw_ ew_ => ?_)) <;> first | (exfalso; first | omega | with_reducible exact hw_ (by assumption) | with_reducible exact absurd hw_ (by assumption)) | (have nw_ := Nw.nw hw_; simp [ew_, nw_, hi, hn, RowR.enc, hw2]) | simp [ew_, hi, hn, RowR.enc, hw2])
    | (exact hA (i + 1, IntKind.i64.wrap (n + l[i].l.length)) _ (Wk.at _ rfl (by simp) (by simp)) ⟨by simp only; omega, h2⟩ (by simp only; omega))
    | ((first | rw [if_pos (by first | omega | (simp only [maxLen]; omega))] | rw [if_neg (by first | omega | (simp only [maxLen]; omega))] | rw [frzOwn_neat (by simp) (by simp <;> omega)] | rw [fzOwn_neat (by simp) (by simp <;> omega)]); try simp [hi, hn, RowR.enc, hw2])
    | ((first | refine TstB.go (fun hw_ ew_ => ?_) (fun hw_ ew_ => ?_)) <;> first | (exfalso; first | omega | with_reducible exact hw_ (by assumption) | with_reducible exact absurd hw_ (by assumption)) | simp [ew_, hi, hn, RowR.enc, hw2])
    | fail)
noncomputable def rightT (l : List RowR) : Bool := @decide (RightT l) (Classical.propDecidable _)
theorem rightT_iff (l : List RowR) : rightT l = true ↔ RightT l := by simp [rightT]
theorem rightT_false {l : List RowR} (h : ¬ RightT l) : rightT l = false := by simp [rightT, h]
theorem rises_adj {α : Type} (key : α → Int) : ∀ {l : List α}, (∀ i (h : i + 1 < l.length), key l[i] < key l[i + 1]) → rises key l = true
  | [], _ => rfl
  | [_], _ => rfl
  | a :: b :: l, h => by
    simp only [rises, Bool.and_eq_true, decide_eq_true_eq]
    refine ⟨by have := h 0 (by simp); simpa using this, rises_adj key fun i hi => ?_⟩
    have := h (i + 1) (by simpa using hi)
    simpa using this
def _root_.Go.Cx.DecisionR.vals (c : DecisionR) : List Value := [.int .i64 c.seq, .bool c.yes]
abbrev decK : List TypeDesc := [.int .i64, .bool]
theorem _root_.Go.Cx.DecisionR.kinds (c : DecisionR) : Kinds decK c.vals := .cons rfl (.cons rfl .nil)
theorem _root_.Go.Cx.DecisionR.vals_eq (a b : DecisionR) : a.vals = b.vals ↔ a = b := by
  cases a; cases b; simp [DecisionR.vals]
@[simp] theorem dec_neq {P : Program} {t : TypeId} (ox oy : Operand) (ht : tflat P t = some decK) (hg : tagg P t = some true) (a b : DecisionR) : abin P .neq t ox oy (.agg a.enc) (.agg b.enc) = some (.val (.bool (!decide (a = b)))) := by
  have := (bin_agg ht hg a.kinds b.kinds ox oy).2
  have e : decide (a.vals = b.vals) = decide (a = b) := by rw [decide_eq_decide]; exact DecisionR.vals_eq a b
  rw [e] at this; exact this
theorem rsame14_ok (l : List RowR) (R : RightT l) : PCall Try.prog 14 [encL RowR.enc l, encL RowR.enc l] (B true) := by
  refine PCall.mk (fun _ => false) Try.func14 rfl rfl rfl (Ent.mk Try.func14 (by kernel_rfl) rfl) (by simp) (by simp) fun hfit => ?_
  simp at hfit
  simp [Try.f14]
  refine AW.loopG (lit := fun _ => false) (fun i : Nat => ⟨97, pat [(0, encL RowR.enc l), (1, encL RowR.enc l), (5, I i)], []⟩) (fun i => l.length - i) (fun i => i ≤ l.length) 0 ?_ ?_ ?_
  · exact Wk.at _ rfl (by simp) (by simp)
  · simp
  rintro i h1 A hA
  by_cases hi : i < l.length
  case neg =>
    try simp [hi]
    repeat' (first
      | ((first | refine Tst.go (fun hw_ ew_ => ?_) (fun hw_ ew_ => ?_)) <;> first | (exfalso; first | omega | with_reducible exact hw_ (by assumption) | with_reducible exact absurd hw_ (by assumption)) | (have nw_ := Nw.nw hw_; simp [ew_, nw_, hi]) | simp [ew_, hi])
      | ((first | refine AW.draw (id := 6) Try.checked.mixed (fun _ => false) [] [] 52 (by kernel_rfl) ?_ | refine AW.draw (id := 11) Try.checked.mixed (fun _ => false) [] [] 17 (by kernel_rfl) ?_ | rw [if_pos (by first | omega | (simp only [maxLen]; omega))] | rw [if_neg (by first | omega | (simp only [maxLen]; omega))] | rw [frzOwn_neat (by simp) (by simp <;> omega)] | rw [fzOwn_neat (by simp) (by simp <;> omega)]); try simp [hi])
      | ((first | refine TstB.go (fun hw_ ew_ => ?_) (fun hw_ ew_ => ?_)) <;> first | (exfalso; first | omega | with_reducible exact hw_ (by assumption) | with_reducible exact absurd hw_ (by assumption)) | simp [ew_, hi])
      | fail)
  have hw2 := wrap_nat hi hfit.1
  have hlen := (R.ok _ (List.getElem_mem hi)).len
  try simp [hi, RowR.enc]
  repeat' (first
    | ((first | refine Tst.go (fun hw_ ew_ => ?_) (fun hw_ ew_ => ?_)) <;> first | (exfalso; first | omega | with_reducible exact hw_ (by assumption) | with_reducible exact absurd hw_ (by assumption)) | (have nw_ := Nw.nw hw_; simp [ew_, nw_, hi, RowR.enc]) | simp [ew_, hi, RowR.enc])
    | ((first | refine AW.draw (id := 6) Try.checked.mixed (fun _ => false) [] [] 52 (by kernel_rfl) ?_ | refine AW.draw (id := 11) Try.checked.mixed (fun _ => false) [] [] 17 (by kernel_rfl) ?_ | rw [if_pos (by first | omega | (simp only [maxLen]; omega))] | rw [if_neg (by first | omega | (simp only [maxLen]; omega))] | rw [frzOwn_neat (by simp) (by simp <;> omega)] | rw [fzOwn_neat (by simp) (by simp <;> omega)]); try simp [hi, RowR.enc])
    | ((first | refine TstB.go (fun hw_ ew_ => ?_) (fun hw_ ew_ => ?_)) <;> first | (exfalso; first | omega | with_reducible exact hw_ (by assumption) | with_reducible exact absurd hw_ (by assumption)) | simp [ew_, hi, RowR.enc])
    | fail)
  refine AW.loopG (lit := fun _ => false) (fun j : Nat => ⟨97, pat [(0, encL RowR.enc l), (1, encL RowR.enc l), (5, I i), (6, I j)], []⟩) (fun j => l[i].l.length - j) (fun j => j ≤ l[i].l.length) 0 ?_ ?_ ?_
  · exact Wk.at _ rfl (by simp) (by simp)
  · simp
  rintro j h2 A2 hA2
  by_cases hj : j < l[i].l.length
  case neg =>
    try simp [hi, hj, hw2, RowR.enc]
    repeat' (first
      | ((first | refine Tst.go (fun hw_ ew_ => ?_) (fun hw_ ew_ => ?_)) <;> first | (exfalso; first | omega | with_reducible exact hw_ (by assumption) | with_reducible exact absurd hw_ (by assumption)) | (have nw_ := Nw.nw hw_; simp [ew_, nw_, hi, hj, hw2, RowR.enc]) | simp [ew_, hi, hj, hw2, RowR.enc])
      | (exact hA (i + 1) _ (Wk.at _ rfl (by simp) (by simp)) hi (by omega))
      | ((first | refine AW.draw (id := 6) Try.checked.mixed (fun _ => false) [] [] 52 (by kernel_rfl) ?_ | refine AW.draw (id := 11) Try.checked.mixed (fun _ => false) [] [] 17 (by kernel_rfl) ?_ | rw [if_pos (by first | omega | (simp only [maxLen]; omega))] | rw [if_neg (by first | omega | (simp only [maxLen]; omega))] | rw [frzOwn_neat (by simp) (by simp <;> omega)] | rw [fzOwn_neat (by simp) (by simp <;> omega)]); try simp [hi, hj, hw2, RowR.enc])
      | ((first | refine TstB.go (fun hw_ ew_ => ?_) (fun hw_ ew_ => ?_)) <;> first | (exfalso; first | omega | with_reducible exact hw_ (by assumption) | with_reducible exact absurd hw_ (by assumption)) | simp [ew_, hi, hj, hw2, RowR.enc])
      | fail)
  have hw3 := wrap_nat hj (by simp only [maxLen]; omega)
  try simp [hi, hj, hw3, RowR.enc, decK]
  repeat' (first
    | ((first | refine Tst.go (fun hw_ ew_ => ?_) (fun hw_ ew_ => ?_)) <;> first | (exfalso; first | omega | with_reducible exact hw_ (by assumption) | with_reducible exact absurd hw_ (by assumption)) | (have nw_ := Nw.nw hw_; simp [ew_, nw_, hi, hj, hw3, RowR.enc, decK]) | simp [ew_, hi, hj, hw3, RowR.enc, decK])
    | (exact hA2 (j + 1) _ (Wk.at _ rfl (by simp) (by simp)) hj (by omega))
    | ((first | refine AW.draw (id := 6) Try.checked.mixed (fun _ => false) [] [] 52 (by kernel_rfl) ?_ | refine AW.draw (id := 11) Try.checked.mixed (fun _ => false) [] [] 17 (by kernel_rfl) ?_ | rw [if_pos (by first | omega | (simp only [maxLen]; omega))] | rw [if_neg (by first | omega | (simp only [maxLen]; omega))] | rw [frzOwn_neat (by simp) (by simp <;> omega)] | rw [fzOwn_neat (by simp) (by simp <;> omega)]); try simp [hi, hj, hw3, RowR.enc, decK])
    | ((first | refine TstB.go (fun hw_ ew_ => ?_) (fun hw_ ew_ => ?_)) <;> first | (exfalso; first | omega | with_reducible exact hw_ (by assumption) | with_reducible exact absurd hw_ (by assumption)) | simp [ew_, hi, hj, hw3, RowR.enc, decK])
    | fail)
theorem rright14_ok (l : List RowR) : PCall Try.prog 12 [encL RowR.enc l] (B (rightT l)) := by
  refine PCall.mk (fun _ => false) Try.func12 rfl rfl rfl (Ent.mk Try.func12 (by kernel_rfl) rfl) (by simp) (by simp) fun hfit => ?_
  simp at hfit
  simp [Try.f12]
  by_cases hl : 64 < l.length
  · have hf : rightT l = false := rightT_false fun R => by have := R.len; omega
    try simp [hl, hf]
    repeat' (first
      | ((first | refine Tst.go (fun hw_ ew_ => ?_) (fun hw_ ew_ => ?_)) <;> first | (exfalso; first | omega | with_reducible exact hw_ (by assumption) | with_reducible exact absurd hw_ (by assumption)) | (have nw_ := Nw.nw hw_; simp [ew_, nw_, hl, hf]) | simp [ew_, hl, hf])
      | ((first | refine AW.draw (id := 7) Try.checked.mixed (fun _ => false) [] [] 34 (by kernel_rfl) ?_ | refine AW.draw (id := 12) Try.checked.mixed (fun _ => false) [] [] 29 (by kernel_rfl) ?_ | rw [if_pos (by first | omega | (simp only [maxLen]; omega))] | rw [if_neg (by first | omega | (simp only [maxLen]; omega))] | rw [frzOwn_neat (by simp) (by simp <;> omega)] | rw [fzOwn_neat (by simp) (by simp <;> omega)]); try simp [hl, hf])
      | ((first | refine TstB.go (fun hw_ ew_ => ?_) (fun hw_ ew_ => ?_)) <;> first | (exfalso; first | omega | with_reducible exact hw_ (by assumption) | with_reducible exact absurd hw_ (by assumption)) | simp [ew_, hl, hf])
      | fail)
  try simp [hl]
  repeat' (first
    | ((first | refine Tst.go (fun hw_ ew_ => ?_) (fun hw_ ew_ => ?_)) <;> first | (exfalso; first | omega | with_reducible exact hw_ (by assumption) | with_reducible exact absurd hw_ (by assumption)) | (have nw_ := Nw.nw hw_; simp [ew_, nw_, hl]) | simp [ew_, hl])
    | ((first | refine AW.draw (id := 7) Try.checked.mixed (fun _ => false) [] [] 34 (by kernel_rfl) ?_ | refine AW.draw (id := 12) Try.checked.mixed (fun _ => false) [] [] 29 (by kernel_rfl) ?_ | rw [if_pos (by first | omega | (simp only [maxLen]; omega))] | rw [if_neg (by first | omega | (simp only [maxLen]; omega))] | rw [frzOwn_neat (by simp) (by simp <;> omega)] | rw [fzOwn_neat (by simp) (by simp <;> omega)]); try simp [hl])
    | ((first | refine TstB.go (fun hw_ ew_ => ?_) (fun hw_ ew_ => ?_)) <;> first | (exfalso; first | omega | with_reducible exact hw_ (by assumption) | with_reducible exact absurd hw_ (by assumption)) | simp [ew_, hl])
    | fail)
  refine AW.loopG (lit := fun _ => false) (fun i : Nat => ⟨89, pat [(0, encL RowR.enc l), (3, I i)], []⟩) (fun i => l.length - i) (fun i => i ≤ l.length ∧ (∀ k (h : k < l.length), k < i → RowOk l[k]) ∧ (∀ k (h : k + 1 < l.length), k + 1 < i → l[k].client < l[k + 1].client)) 0 ?_ ?_ ?_
  · exact Wk.at _ rfl (by simp) (by simp)
  · exact ⟨by simp, fun k _ h => by omega, fun k _ h => by omega⟩
  rintro i ⟨h1, h2, h3⟩ A hA
  by_cases hi : i < l.length
  case neg =>
    have hf : rightT l = true := (rightT_iff l).2 ⟨by omega, rises_adj _ fun k h => h3 k h (by omega), fun r hr => by obtain ⟨k, hk, rfl⟩ := List.getElem_of_mem hr; exact h2 k hk (by omega)⟩
    try simp [hi, hf]
    repeat' (first
      | ((first | refine Tst.go (fun hw_ ew_ => ?_) (fun hw_ ew_ => ?_)) <;> first | (exfalso; first | omega | with_reducible exact hw_ (by assumption) | with_reducible exact absurd hw_ (by assumption)) | (have nw_ := Nw.nw hw_; simp [ew_, nw_, hi, hf]) | simp [ew_, hi, hf])
      | ((first | refine AW.draw (id := 7) Try.checked.mixed (fun _ => false) [] [] 34 (by kernel_rfl) ?_ | refine AW.draw (id := 12) Try.checked.mixed (fun _ => false) [] [] 29 (by kernel_rfl) ?_ | rw [if_pos (by first | omega | (simp only [maxLen]; omega))] | rw [if_neg (by first | omega | (simp only [maxLen]; omega))] | rw [frzOwn_neat (by simp) (by simp <;> omega)] | rw [fzOwn_neat (by simp) (by simp <;> omega)]); try simp [hi, hf])
      | ((first | refine TstB.go (fun hw_ ew_ => ?_) (fun hw_ ew_ => ?_)) <;> first | (exfalso; first | omega | with_reducible exact hw_ (by assumption) | with_reducible exact absurd hw_ (by assumption)) | simp [ew_, hi, hf])
      | fail)
  have hw2 := wrap_nat hi hfit.1
  have bad : ¬ RowOk l[i] → rightT l = false := fun h => rightT_false fun R => h (R.ok _ (List.getElem_mem hi))
  by_cases c1 : l[i].client < 0
  · have hf := bad fun o => by have := o.client; omega
    try simp [hi, RowR.enc, c1, hf]
    repeat' (first
      | ((first | refine Tst.go (fun hw_ ew_ => ?_) (fun hw_ ew_ => ?_)) <;> first | (exfalso; first | omega | with_reducible exact hw_ (by assumption) | with_reducible exact absurd hw_ (by assumption)) | (have nw_ := Nw.nw hw_; simp [ew_, nw_, hi, RowR.enc, c1, hf]) | simp [ew_, hi, RowR.enc, c1, hf])
      | ((first | refine AW.draw (id := 7) Try.checked.mixed (fun _ => false) [] [] 34 (by kernel_rfl) ?_ | refine AW.draw (id := 12) Try.checked.mixed (fun _ => false) [] [] 29 (by kernel_rfl) ?_ | rw [if_pos (by first | omega | (simp only [maxLen]; omega))] | rw [if_neg (by first | omega | (simp only [maxLen]; omega))] | rw [frzOwn_neat (by simp) (by simp <;> omega)] | rw [fzOwn_neat (by simp) (by simp <;> omega)]); try simp [hi, RowR.enc, c1, hf])
      | ((first | refine TstB.go (fun hw_ ew_ => ?_) (fun hw_ ew_ => ?_)) <;> first | (exfalso; first | omega | with_reducible exact hw_ (by assumption) | with_reducible exact absurd hw_ (by assumption)) | simp [ew_, hi, RowR.enc, c1, hf])
      | fail)
  by_cases c2 : l[i].epoch < 1
  · have hf := bad fun o => by have := o.epoch; omega
    try simp [hi, RowR.enc, c1, c2, hf]
    repeat' (first
      | ((first | refine Tst.go (fun hw_ ew_ => ?_) (fun hw_ ew_ => ?_)) <;> first | (exfalso; first | omega | with_reducible exact hw_ (by assumption) | with_reducible exact absurd hw_ (by assumption)) | (have nw_ := Nw.nw hw_; simp [ew_, nw_, hi, RowR.enc, c1, c2, hf]) | simp [ew_, hi, RowR.enc, c1, c2, hf])
      | ((first | refine AW.draw (id := 7) Try.checked.mixed (fun _ => false) [] [] 34 (by kernel_rfl) ?_ | refine AW.draw (id := 12) Try.checked.mixed (fun _ => false) [] [] 29 (by kernel_rfl) ?_ | rw [if_pos (by first | omega | (simp only [maxLen]; omega))] | rw [if_neg (by first | omega | (simp only [maxLen]; omega))] | rw [frzOwn_neat (by simp) (by simp <;> omega)] | rw [fzOwn_neat (by simp) (by simp <;> omega)]); try simp [hi, RowR.enc, c1, c2, hf])
      | ((first | refine TstB.go (fun hw_ ew_ => ?_) (fun hw_ ew_ => ?_)) <;> first | (exfalso; first | omega | with_reducible exact hw_ (by assumption) | with_reducible exact absurd hw_ (by assumption)) | simp [ew_, hi, RowR.enc, c1, c2, hf])
      | fail)
  by_cases c3 : l[i].done < 0
  · have hf := bad fun o => by have := o.done; omega
    try simp [hi, RowR.enc, c1, c2, c3, hf]
    repeat' (first
      | ((first | refine Tst.go (fun hw_ ew_ => ?_) (fun hw_ ew_ => ?_)) <;> first | (exfalso; first | omega | with_reducible exact hw_ (by assumption) | with_reducible exact absurd hw_ (by assumption)) | (have nw_ := Nw.nw hw_; simp [ew_, nw_, hi, RowR.enc, c1, c2, c3, hf]) | simp [ew_, hi, RowR.enc, c1, c2, c3, hf])
      | ((first | refine AW.draw (id := 7) Try.checked.mixed (fun _ => false) [] [] 34 (by kernel_rfl) ?_ | refine AW.draw (id := 12) Try.checked.mixed (fun _ => false) [] [] 29 (by kernel_rfl) ?_ | rw [if_pos (by first | omega | (simp only [maxLen]; omega))] | rw [if_neg (by first | omega | (simp only [maxLen]; omega))] | rw [frzOwn_neat (by simp) (by simp <;> omega)] | rw [fzOwn_neat (by simp) (by simp <;> omega)]); try simp [hi, RowR.enc, c1, c2, c3, hf])
      | ((first | refine TstB.go (fun hw_ ew_ => ?_) (fun hw_ ew_ => ?_)) <;> first | (exfalso; first | omega | with_reducible exact hw_ (by assumption) | with_reducible exact absurd hw_ (by assumption)) | simp [ew_, hi, RowR.enc, c1, c2, c3, hf])
      | fail)
  by_cases c4 : 256 < l[i].l.length
  · have hf := bad fun o => by have := o.len; omega
    try simp [hi, RowR.enc, c1, c2, c3, c4, hf]
    repeat' (first
      | ((first | refine Tst.go (fun hw_ ew_ => ?_) (fun hw_ ew_ => ?_)) <;> first | (exfalso; first | omega | with_reducible exact hw_ (by assumption) | with_reducible exact absurd hw_ (by assumption)) | (have nw_ := Nw.nw hw_; simp [ew_, nw_, hi, RowR.enc, c1, c2, c3, c4, hf]) | simp [ew_, hi, RowR.enc, c1, c2, c3, c4, hf])
      | ((first | refine AW.draw (id := 7) Try.checked.mixed (fun _ => false) [] [] 34 (by kernel_rfl) ?_ | refine AW.draw (id := 12) Try.checked.mixed (fun _ => false) [] [] 29 (by kernel_rfl) ?_ | rw [if_pos (by first | omega | (simp only [maxLen]; omega))] | rw [if_neg (by first | omega | (simp only [maxLen]; omega))] | rw [frzOwn_neat (by simp) (by simp <;> omega)] | rw [fzOwn_neat (by simp) (by simp <;> omega)]); try simp [hi, RowR.enc, c1, c2, c3, c4, hf])
      | ((first | refine TstB.go (fun hw_ ew_ => ?_) (fun hw_ ew_ => ?_)) <;> first | (exfalso; first | omega | with_reducible exact hw_ (by assumption) | with_reducible exact absurd hw_ (by assumption)) | simp [ew_, hi, RowR.enc, c1, c2, c3, c4, hf])
      | fail)
  cases i with
  | zero =>
    try simp [hi, hw2, RowR.enc, c1, c2, c3, c4]
    repeat' (first
      | ((first | refine Tst.go (fun hw_ ew_ => ?_) (fun hw_ ew_ => ?_)) <;> first | (exfalso; first | omega | with_reducible exact hw_ (by assumption) | with_reducible exact absurd hw_ (by assumption)) | (have nw_ := Nw.nw hw_; simp [ew_, nw_, hi, hw2, RowR.enc, c1, c2, c3, c4]) | simp [ew_, hi, hw2, RowR.enc, c1, c2, c3, c4])
      | ((first | refine AW.draw (id := 7) Try.checked.mixed (fun _ => false) [] [] 34 (by kernel_rfl) ?_ | refine AW.draw (id := 12) Try.checked.mixed (fun _ => false) [] [] 29 (by kernel_rfl) ?_ | rw [if_pos (by first | omega | (simp only [maxLen]; omega))] | rw [if_neg (by first | omega | (simp only [maxLen]; omega))] | rw [frzOwn_neat (by simp) (by simp <;> omega)] | rw [fzOwn_neat (by simp) (by simp <;> omega)]); try simp [hi, hw2, RowR.enc, c1, c2, c3, c4])
      | ((first | refine TstB.go (fun hw_ ew_ => ?_) (fun hw_ ew_ => ?_)) <;> first | (exfalso; first | omega | with_reducible exact hw_ (by assumption) | with_reducible exact absurd hw_ (by assumption)) | simp [ew_, hi, hw2, RowR.enc, c1, c2, c3, c4])
      | fail)
    refine AW.loopG (lit := fun _ => false) (fun j : Nat => ⟨89, pat [(0, encL RowR.enc l), (3, I ((0 : Nat) : Int)), (4, .ptr 0 0 0), (5, I j)], [.cells 0 [I l[0].client, I l[0].epoch, I l[0].done, encL DecisionR.enc l[0].l]]⟩) (fun j => l[0].l.length - j) (fun j => j ≤ l[0].l.length ∧ (∀ k (h : k < l[0].l.length), k < j → l[0].done < l[0].l[k].seq) ∧ (∀ k (h : k + 1 < l[0].l.length), k + 1 < j → l[0].l[k].seq < l[0].l[k + 1].seq)) 0 ?_ ?_ ?_
    · exact Wk.at _ rfl (by simp) (by simp)
    · exact ⟨by simp, fun k _ h => by omega, fun k _ h => by omega⟩
    rintro j ⟨g1, g2, g3⟩ A2 hA2
    by_cases hj : j < l[0].l.length
    case neg =>
      have hok : RowOk l[0] := ⟨by omega, by omega, by omega, by omega, rises_adj _ fun k h => g3 k h (by omega), fun d hd => by obtain ⟨k, hk, rfl⟩ := List.getElem_of_mem hd; exact g2 k hk (by omega)⟩
      try simp [hi, hj, hw2]
      repeat' (first
        | ((first | refine Tst.go (fun hw_ ew_ => ?_) (fun hw_ ew_ => ?_)) <;> first | (exfalso; first | omega | with_reducible exact hw_ (by assumption) | with_reducible exact absurd hw_ (by assumption)) | (have nw_ := Nw.nw hw_; simp [ew_, nw_, hi, hj, hw2]) | simp [ew_, hi, hj, hw2])
        | (exact hA (1) _ (Wk.cutAt _ rfl (by simp) (by simp) (by simp) (by simp)) ⟨hi, fun k h q => by rcases Nat.lt_or_ge k 0 with q2 | q2; (· exact h2 k h q2); (obtain rfl : k = 0 := (by omega); exact hok), fun k h q => by omega⟩ (by omega))
        | ((first | refine AW.draw (id := 7) Try.checked.mixed (fun _ => false) [] [] 34 (by kernel_rfl) ?_ | refine AW.draw (id := 12) Try.checked.mixed (fun _ => false) [] [] 29 (by kernel_rfl) ?_ | rw [if_pos (by first | omega | (simp only [maxLen]; omega))] | rw [if_neg (by first | omega | (simp only [maxLen]; omega))] | rw [frzOwn_neat (by simp) (by simp <;> omega)] | rw [fzOwn_neat (by simp) (by simp <;> omega)]); try simp [hi, hj, hw2])
        | ((first | refine TstB.go (fun hw_ ew_ => ?_) (fun hw_ ew_ => ?_)) <;> first | (exfalso; first | omega | with_reducible exact hw_ (by assumption) | with_reducible exact absurd hw_ (by assumption)) | simp [ew_, hi, hj, hw2])
        | fail)
    have hjw := wrap_nat hj (by simp only [maxLen]; omega)
    by_cases d1 : l[0].l[j].seq ≤ l[0].done
    · have hf := bad fun o => by have := o.above _ (List.getElem_mem hj); omega
      try simp [hi, hj, d1, hf, DecisionR.enc]
      repeat' (first
        | ((first | refine Tst.go (fun hw_ ew_ => ?_) (fun hw_ ew_ => ?_)) <;> first | (exfalso; first | omega | with_reducible exact hw_ (by assumption) | with_reducible exact absurd hw_ (by assumption)) | (have nw_ := Nw.nw hw_; simp [ew_, nw_, hi, hj, d1, hf, DecisionR.enc]) | simp [ew_, hi, hj, d1, hf, DecisionR.enc])
        | ((first | refine AW.draw (id := 7) Try.checked.mixed (fun _ => false) [] [] 34 (by kernel_rfl) ?_ | refine AW.draw (id := 12) Try.checked.mixed (fun _ => false) [] [] 29 (by kernel_rfl) ?_ | rw [if_pos (by first | omega | (simp only [maxLen]; omega))] | rw [if_neg (by first | omega | (simp only [maxLen]; omega))] | rw [frzOwn_neat (by simp) (by simp <;> omega)] | rw [fzOwn_neat (by simp) (by simp <;> omega)]); try simp [hi, hj, d1, hf, DecisionR.enc])
        | ((first | refine TstB.go (fun hw_ ew_ => ?_) (fun hw_ ew_ => ?_)) <;> first | (exfalso; first | omega | with_reducible exact hw_ (by assumption) | with_reducible exact absurd hw_ (by assumption)) | simp [ew_, hi, hj, d1, hf, DecisionR.enc])
        | fail)
    cases j with
    | zero =>
      try simp [hi, hj, d1, hjw, DecisionR.enc]
      repeat' (first
        | ((first | refine Tst.go (fun hw_ ew_ => ?_) (fun hw_ ew_ => ?_)) <;> first | (exfalso; first | omega | with_reducible exact hw_ (by assumption) | with_reducible exact absurd hw_ (by assumption)) | (have nw_ := Nw.nw hw_; simp [ew_, nw_, hi, hj, d1, hjw, DecisionR.enc]) | simp [ew_, hi, hj, d1, hjw, DecisionR.enc])
        | (exact hA2 1 _ (Wk.at _ rfl (by simp) (by simp)) ⟨hj, fun k h q => by obtain rfl : k = 0 := (by omega); omega, fun k h q => by omega⟩ (by omega))
        | ((first | refine AW.draw (id := 7) Try.checked.mixed (fun _ => false) [] [] 34 (by kernel_rfl) ?_ | refine AW.draw (id := 12) Try.checked.mixed (fun _ => false) [] [] 29 (by kernel_rfl) ?_ | rw [if_pos (by first | omega | (simp only [maxLen]; omega))] | rw [if_neg (by first | omega | (simp only [maxLen]; omega))] | rw [frzOwn_neat (by simp) (by simp <;> omega)] | rw [fzOwn_neat (by simp) (by simp <;> omega)]); try simp [hi, hj, d1, hjw, DecisionR.enc])
        | ((first | refine TstB.go (fun hw_ ew_ => ?_) (fun hw_ ew_ => ?_)) <;> first | (exfalso; first | omega | with_reducible exact hw_ (by assumption) | with_reducible exact absurd hw_ (by assumption)) | simp [ew_, hi, hj, d1, hjw, DecisionR.enc])
        | fail)
    | succ j =>
      have hj0 : j < l[0].l.length := by omega
      have hj3 : IntKind.i64.wrap ((j : Int) + 1 - 1) = (j : Int) := by rw [IntKind.wrap_i64]; omega
      have hj4 : IntKind.i64.wrap (j : Int) = (j : Int) := by rw [IntKind.wrap_i64]; omega
      have hj5 : IntKind.i64.wrap ((j : Int) + 1 + 1) = (j : Int) + 2 := by rw [IntKind.wrap_i64]; omega
      by_cases d2 : l[0].l[j + 1].seq ≤ l[0].l[j].seq
      · have hf := bad fun o => by have := rises_get _ o.rise j (j + 1) hj0 hj (by omega); omega
        try simp [hi, hj, hj0, hj3, hj4, d1, d2, hf, DecisionR.enc]
        repeat' (first
          | ((first | refine Tst.go (fun hw_ ew_ => ?_) (fun hw_ ew_ => ?_)) <;> first | (exfalso; first | omega | with_reducible exact hw_ (by assumption) | with_reducible exact absurd hw_ (by assumption)) | (have nw_ := Nw.nw hw_; simp [ew_, nw_, hi, hj, hj0, hj3, hj4, d1, d2, hf, DecisionR.enc]) | simp [ew_, hi, hj, hj0, hj3, hj4, d1, d2, hf, DecisionR.enc])
          | ((first | refine AW.draw (id := 7) Try.checked.mixed (fun _ => false) [] [] 34 (by kernel_rfl) ?_ | refine AW.draw (id := 12) Try.checked.mixed (fun _ => false) [] [] 29 (by kernel_rfl) ?_ | rw [if_pos (by first | omega | (simp only [maxLen]; omega))] | rw [if_neg (by first | omega | (simp only [maxLen]; omega))] | rw [frzOwn_neat (by simp) (by simp <;> omega)] | rw [fzOwn_neat (by simp) (by simp <;> omega)]); try simp [hi, hj, hj0, hj3, hj4, d1, d2, hf, DecisionR.enc])
          | ((first | refine TstB.go (fun hw_ ew_ => ?_) (fun hw_ ew_ => ?_)) <;> first | (exfalso; first | omega | with_reducible exact hw_ (by assumption) | with_reducible exact absurd hw_ (by assumption)) | simp [ew_, hi, hj, hj0, hj3, hj4, d1, d2, hf, DecisionR.enc])
          | fail)
      · try simp [hi, hj, hj0, hj3, hj4, hj5, d1, d2, DecisionR.enc]
        repeat' (first
          | ((first | refine Tst.go (fun hw_ ew_ => ?_) (fun hw_ ew_ => ?_)) <;> first | (exfalso; first | omega | with_reducible exact hw_ (by assumption) | with_reducible exact absurd hw_ (by assumption)) | (have nw_ := Nw.nw hw_; simp [ew_, nw_, hi, hj, hj0, hj3, hj4, hj5, d1, d2, DecisionR.enc]) | simp [ew_, hi, hj, hj0, hj3, hj4, hj5, d1, d2, DecisionR.enc])
          | (exact hA2 (j + 2) _ (Wk.at _ rfl (by simp) (by simp)) ⟨hj, fun k h q => by rcases Nat.lt_or_ge k (j + 1) with q2 | q2; (· exact g2 k h q2); (obtain rfl : k = j + 1 := (by omega); omega), fun k h q => by rcases Nat.lt_or_ge (k + 1) (j + 1) with q2 | q2; (· exact g3 k h q2); (obtain rfl : k = j := (by omega); omega)⟩ (by omega))
          | ((first | refine AW.draw (id := 7) Try.checked.mixed (fun _ => false) [] [] 34 (by kernel_rfl) ?_ | refine AW.draw (id := 12) Try.checked.mixed (fun _ => false) [] [] 29 (by kernel_rfl) ?_ | rw [if_pos (by first | omega | (simp only [maxLen]; omega))] | rw [if_neg (by first | omega | (simp only [maxLen]; omega))] | rw [frzOwn_neat (by simp) (by simp <;> omega)] | rw [fzOwn_neat (by simp) (by simp <;> omega)]); try simp [hi, hj, hj0, hj3, hj4, hj5, d1, d2, DecisionR.enc])
          | ((first | refine TstB.go (fun hw_ ew_ => ?_) (fun hw_ ew_ => ?_)) <;> first | (exfalso; first | omega | with_reducible exact hw_ (by assumption) | with_reducible exact absurd hw_ (by assumption)) | simp [ew_, hi, hj, hj0, hj3, hj4, hj5, d1, d2, DecisionR.enc])
          | fail)
  | succ i =>
    have hi0 : i < l.length := by omega
    have hi3 : IntKind.i64.wrap ((i : Int) + 1 - 1) = (i : Int) := by rw [IntKind.wrap_i64]; omega
    have hi4 : IntKind.i64.wrap (i : Int) = (i : Int) := by rw [IntKind.wrap_i64]; omega
    have hw2 : IntKind.i64.wrap ((i : Int) + 1 + 1) = (i : Int) + 2 := by rw [IntKind.wrap_i64]; omega
    by_cases c5 : l[i + 1].client ≤ l[i].client
    · have hf : rightT l = false := rightT_false fun R => by have := rises_get _ R.rise i (i + 1) hi0 hi (by omega); omega
      try simp [hi, hi0, hi3, hi4, RowR.enc, c1, c2, c3, c4, c5, hf]
      repeat' (first
        | ((first | refine Tst.go (fun hw_ ew_ => ?_) (fun hw_ ew_ => ?_)) <;> first | (exfalso; first | omega | with_reducible exact hw_ (by assumption) | with_reducible exact absurd hw_ (by assumption)) | (have nw_ := Nw.nw hw_; simp [ew_, nw_, hi, hi0, hi3, hi4, RowR.enc, c1, c2, c3, c4, c5, hf]) | simp [ew_, hi, hi0, hi3, hi4, RowR.enc, c1, c2, c3, c4, c5, hf])
        | ((first | refine AW.draw (id := 7) Try.checked.mixed (fun _ => false) [] [] 34 (by kernel_rfl) ?_ | refine AW.draw (id := 12) Try.checked.mixed (fun _ => false) [] [] 29 (by kernel_rfl) ?_ | rw [if_pos (by first | omega | (simp only [maxLen]; omega))] | rw [if_neg (by first | omega | (simp only [maxLen]; omega))] | rw [frzOwn_neat (by simp) (by simp <;> omega)] | rw [fzOwn_neat (by simp) (by simp <;> omega)]); try simp [hi, hi0, hi3, hi4, RowR.enc, c1, c2, c3, c4, c5, hf])
        | ((first | refine TstB.go (fun hw_ ew_ => ?_) (fun hw_ ew_ => ?_)) <;> first | (exfalso; first | omega | with_reducible exact hw_ (by assumption) | with_reducible exact absurd hw_ (by assumption)) | simp [ew_, hi, hi0, hi3, hi4, RowR.enc, c1, c2, c3, c4, c5, hf])
        | fail)
    try simp [hi, hw2, RowR.enc, c1, c2, c3, c4, c5, hi0, hi3, hi4]
    repeat' (first
      | ((first | refine Tst.go (fun hw_ ew_ => ?_) (fun hw_ ew_ => ?_)) <;> first | (exfalso; first | omega | with_reducible exact hw_ (by assumption) | with_reducible exact absurd hw_ (by assumption)) | (have nw_ := Nw.nw hw_; simp [ew_, nw_, hi, hw2, RowR.enc, c1, c2, c3, c4, c5, hi0, hi3, hi4]) | simp [ew_, hi, hw2, RowR.enc, c1, c2, c3, c4, c5, hi0, hi3, hi4])
      | ((first | refine AW.draw (id := 7) Try.checked.mixed (fun _ => false) [] [] 34 (by kernel_rfl) ?_ | refine AW.draw (id := 12) Try.checked.mixed (fun _ => false) [] [] 29 (by kernel_rfl) ?_ | rw [if_pos (by first | omega | (simp only [maxLen]; omega))] | rw [if_neg (by first | omega | (simp only [maxLen]; omega))] | rw [frzOwn_neat (by simp) (by simp <;> omega)] | rw [fzOwn_neat (by simp) (by simp <;> omega)]); try simp [hi, hw2, RowR.enc, c1, c2, c3, c4, c5, hi0, hi3, hi4])
      | ((first | refine TstB.go (fun hw_ ew_ => ?_) (fun hw_ ew_ => ?_)) <;> first | (exfalso; first | omega | with_reducible exact hw_ (by assumption) | with_reducible exact absurd hw_ (by assumption)) | simp [ew_, hi, hw2, RowR.enc, c1, c2, c3, c4, c5, hi0, hi3, hi4])
      | fail)
    refine AW.loopG (lit := fun _ => false) (fun j : Nat => ⟨89, pat [(0, encL RowR.enc l), (3, I ((i + 1 : Nat) : Int)), (4, .ptr 0 0 0), (5, I j)], [.cells 0 [I l[i + 1].client, I l[i + 1].epoch, I l[i + 1].done, encL DecisionR.enc l[i + 1].l]]⟩) (fun j => l[i + 1].l.length - j) (fun j => j ≤ l[i + 1].l.length ∧ (∀ k (h : k < l[i + 1].l.length), k < j → l[i + 1].done < l[i + 1].l[k].seq) ∧ (∀ k (h : k + 1 < l[i + 1].l.length), k + 1 < j → l[i + 1].l[k].seq < l[i + 1].l[k + 1].seq)) 0 ?_ ?_ ?_
    · exact Wk.at _ rfl (by simp) (by simp)
    · exact ⟨by simp, fun k _ h => by omega, fun k _ h => by omega⟩
    rintro j ⟨g1, g2, g3⟩ A2 hA2
    by_cases hj : j < l[i + 1].l.length
    case neg =>
      have hok : RowOk l[i + 1] := ⟨by omega, by omega, by omega, by omega, rises_adj _ fun k h => g3 k h (by omega), fun d hd => by obtain ⟨k, hk, rfl⟩ := List.getElem_of_mem hd; exact g2 k hk (by omega)⟩
      try simp [hi, hj, hw2]
      repeat' (first
        | ((first | refine Tst.go (fun hw_ ew_ => ?_) (fun hw_ ew_ => ?_)) <;> first | (exfalso; first | omega | with_reducible exact hw_ (by assumption) | with_reducible exact absurd hw_ (by assumption)) | (have nw_ := Nw.nw hw_; simp [ew_, nw_, hi, hj, hw2]) | simp [ew_, hi, hj, hw2])
        | (exact hA (i + 2) _ (Wk.cutAt _ rfl (by simp) (by simp) (by simp) (by simp)) ⟨hi, fun k h q => by rcases Nat.lt_or_ge k (i + 1) with q2 | q2; (· exact h2 k h q2); (obtain rfl : k = i + 1 := (by omega); exact hok), fun k h q => by rcases Nat.lt_or_ge (k + 1) (i + 1) with q2 | q2; (· exact h3 k h q2); (obtain rfl : k = i := (by omega); omega)⟩ (by omega))
        | ((first | refine AW.draw (id := 7) Try.checked.mixed (fun _ => false) [] [] 34 (by kernel_rfl) ?_ | refine AW.draw (id := 12) Try.checked.mixed (fun _ => false) [] [] 29 (by kernel_rfl) ?_ | rw [if_pos (by first | omega | (simp only [maxLen]; omega))] | rw [if_neg (by first | omega | (simp only [maxLen]; omega))] | rw [frzOwn_neat (by simp) (by simp <;> omega)] | rw [fzOwn_neat (by simp) (by simp <;> omega)]); try simp [hi, hj, hw2])
        | ((first | refine TstB.go (fun hw_ ew_ => ?_) (fun hw_ ew_ => ?_)) <;> first | (exfalso; first | omega | with_reducible exact hw_ (by assumption) | with_reducible exact absurd hw_ (by assumption)) | simp [ew_, hi, hj, hw2])
        | fail)
    have hjw := wrap_nat hj (by simp only [maxLen]; omega)
    by_cases d1 : l[i + 1].l[j].seq ≤ l[i + 1].done
    · have hf := bad fun o => by have := o.above _ (List.getElem_mem hj); omega
      try simp [hi, hj, d1, hf, DecisionR.enc]
      repeat' (first
        | ((first | refine Tst.go (fun hw_ ew_ => ?_) (fun hw_ ew_ => ?_)) <;> first | (exfalso; first | omega | with_reducible exact hw_ (by assumption) | with_reducible exact absurd hw_ (by assumption)) | (have nw_ := Nw.nw hw_; simp [ew_, nw_, hi, hj, d1, hf, DecisionR.enc]) | simp [ew_, hi, hj, d1, hf, DecisionR.enc])
        | ((first | refine AW.draw (id := 7) Try.checked.mixed (fun _ => false) [] [] 34 (by kernel_rfl) ?_ | refine AW.draw (id := 12) Try.checked.mixed (fun _ => false) [] [] 29 (by kernel_rfl) ?_ | rw [if_pos (by first | omega | (simp only [maxLen]; omega))] | rw [if_neg (by first | omega | (simp only [maxLen]; omega))] | rw [frzOwn_neat (by simp) (by simp <;> omega)] | rw [fzOwn_neat (by simp) (by simp <;> omega)]); try simp [hi, hj, d1, hf, DecisionR.enc])
        | ((first | refine TstB.go (fun hw_ ew_ => ?_) (fun hw_ ew_ => ?_)) <;> first | (exfalso; first | omega | with_reducible exact hw_ (by assumption) | with_reducible exact absurd hw_ (by assumption)) | simp [ew_, hi, hj, d1, hf, DecisionR.enc])
        | fail)
    cases j with
    | zero =>
      try simp [hi, hj, d1, hjw, DecisionR.enc]
      repeat' (first
        | ((first | refine Tst.go (fun hw_ ew_ => ?_) (fun hw_ ew_ => ?_)) <;> first | (exfalso; first | omega | with_reducible exact hw_ (by assumption) | with_reducible exact absurd hw_ (by assumption)) | (have nw_ := Nw.nw hw_; simp [ew_, nw_, hi, hj, d1, hjw, DecisionR.enc]) | simp [ew_, hi, hj, d1, hjw, DecisionR.enc])
        | (exact hA2 1 _ (Wk.at _ rfl (by simp) (by simp)) ⟨hj, fun k h q => by obtain rfl : k = 0 := (by omega); omega, fun k h q => by omega⟩ (by omega))
        | ((first | refine AW.draw (id := 7) Try.checked.mixed (fun _ => false) [] [] 34 (by kernel_rfl) ?_ | refine AW.draw (id := 12) Try.checked.mixed (fun _ => false) [] [] 29 (by kernel_rfl) ?_ | rw [if_pos (by first | omega | (simp only [maxLen]; omega))] | rw [if_neg (by first | omega | (simp only [maxLen]; omega))] | rw [frzOwn_neat (by simp) (by simp <;> omega)] | rw [fzOwn_neat (by simp) (by simp <;> omega)]); try simp [hi, hj, d1, hjw, DecisionR.enc])
        | ((first | refine TstB.go (fun hw_ ew_ => ?_) (fun hw_ ew_ => ?_)) <;> first | (exfalso; first | omega | with_reducible exact hw_ (by assumption) | with_reducible exact absurd hw_ (by assumption)) | simp [ew_, hi, hj, d1, hjw, DecisionR.enc])
        | fail)
    | succ j =>
      have hj0 : j < l[i + 1].l.length := by omega
      have hj3 : IntKind.i64.wrap ((j : Int) + 1 - 1) = (j : Int) := by rw [IntKind.wrap_i64]; omega
      have hj4 : IntKind.i64.wrap (j : Int) = (j : Int) := by rw [IntKind.wrap_i64]; omega
      have hj5 : IntKind.i64.wrap ((j : Int) + 1 + 1) = (j : Int) + 2 := by rw [IntKind.wrap_i64]; omega
      by_cases d2 : l[i + 1].l[j + 1].seq ≤ l[i + 1].l[j].seq
      · have hf := bad fun o => by have := rises_get _ o.rise j (j + 1) hj0 hj (by omega); omega
        try simp [hi, hj, hj0, hj3, hj4, d1, d2, hf, DecisionR.enc]
        repeat' (first
          | ((first | refine Tst.go (fun hw_ ew_ => ?_) (fun hw_ ew_ => ?_)) <;> first | (exfalso; first | omega | with_reducible exact hw_ (by assumption) | with_reducible exact absurd hw_ (by assumption)) | (have nw_ := Nw.nw hw_; simp [ew_, nw_, hi, hj, hj0, hj3, hj4, d1, d2, hf, DecisionR.enc]) | simp [ew_, hi, hj, hj0, hj3, hj4, d1, d2, hf, DecisionR.enc])
          | ((first | refine AW.draw (id := 7) Try.checked.mixed (fun _ => false) [] [] 34 (by kernel_rfl) ?_ | refine AW.draw (id := 12) Try.checked.mixed (fun _ => false) [] [] 29 (by kernel_rfl) ?_ | rw [if_pos (by first | omega | (simp only [maxLen]; omega))] | rw [if_neg (by first | omega | (simp only [maxLen]; omega))] | rw [frzOwn_neat (by simp) (by simp <;> omega)] | rw [fzOwn_neat (by simp) (by simp <;> omega)]); try simp [hi, hj, hj0, hj3, hj4, d1, d2, hf, DecisionR.enc])
          | ((first | refine TstB.go (fun hw_ ew_ => ?_) (fun hw_ ew_ => ?_)) <;> first | (exfalso; first | omega | with_reducible exact hw_ (by assumption) | with_reducible exact absurd hw_ (by assumption)) | simp [ew_, hi, hj, hj0, hj3, hj4, d1, d2, hf, DecisionR.enc])
          | fail)
      · try simp [hi, hj, hj0, hj3, hj4, hj5, d1, d2, DecisionR.enc]
        repeat' (first
          | ((first | refine Tst.go (fun hw_ ew_ => ?_) (fun hw_ ew_ => ?_)) <;> first | (exfalso; first | omega | with_reducible exact hw_ (by assumption) | with_reducible exact absurd hw_ (by assumption)) | (have nw_ := Nw.nw hw_; simp [ew_, nw_, hi, hj, hj0, hj3, hj4, hj5, d1, d2, DecisionR.enc]) | simp [ew_, hi, hj, hj0, hj3, hj4, hj5, d1, d2, DecisionR.enc])
          | (exact hA2 (j + 2) _ (Wk.at _ rfl (by simp) (by simp)) ⟨hj, fun k h q => by rcases Nat.lt_or_ge k (j + 1) with q2 | q2; (· exact g2 k h q2); (obtain rfl : k = j + 1 := (by omega); omega), fun k h q => by rcases Nat.lt_or_ge (k + 1) (j + 1) with q2 | q2; (· exact g3 k h q2); (obtain rfl : k = j := (by omega); omega)⟩ (by omega))
          | ((first | refine AW.draw (id := 7) Try.checked.mixed (fun _ => false) [] [] 34 (by kernel_rfl) ?_ | refine AW.draw (id := 12) Try.checked.mixed (fun _ => false) [] [] 29 (by kernel_rfl) ?_ | rw [if_pos (by first | omega | (simp only [maxLen]; omega))] | rw [if_neg (by first | omega | (simp only [maxLen]; omega))] | rw [frzOwn_neat (by simp) (by simp <;> omega)] | rw [fzOwn_neat (by simp) (by simp <;> omega)]); try simp [hi, hj, hj0, hj3, hj4, hj5, d1, d2, DecisionR.enc])
          | ((first | refine TstB.go (fun hw_ ew_ => ?_) (fun hw_ ew_ => ?_)) <;> first | (exfalso; first | omega | with_reducible exact hw_ (by assumption) | with_reducible exact absurd hw_ (by assumption)) | simp [ew_, hi, hj, hj0, hj3, hj4, hj5, d1, d2, DecisionR.enc])
          | fail)
end Go.Proofs.Ytpbjeabigckijaa
