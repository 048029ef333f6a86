/- Which rows are right; where a row stands, and what is asked of it, by the document. -/
import Derived.Test.YtpbjeabigckijaaTabE
set_option linter.unusedVariables false
set_option linter.unusedSimpArgs false
namespace Go.Proofs.Ytpbjeabigckijaa
open Go.Cx Tab
set_option maxHeartbeats 400000
set_option maxRecDepth 40000

def riseT {α : Type} (key : α → Int) (least : Int) (l : List α) : Bool := decide (rises key l = true ∧ ∀ x ∈ l, least < key x)
theorem riseT_iff {α : Type} (key : α → Int) (least : Int) (l : List α) : riseT key least l = true ↔ rises key l = true ∧ ∀ x ∈ l, least < key x := by simp [riseT]
theorem riseT_false {α : Type} {key : α → Int} {least : Int} {l : List α} (h : ¬ (rises key l = true ∧ ∀ x ∈ l, least < key x)) : riseT key least l = false := decide_eq_false h
theorem riseR_ok (l : List RowR) (least : Int) : PCall Try.prog 38 [encL RowR.enc l, I least, .fn 39 []] (B (riseT RowR.client least l)) := by
  refine PCall.mk (fun _ => false) Try.func38 rfl rfl rfl (Ent.mk Try.func38 (by kernel_rfl) rfl) (by simp) (by simp) fun hfit => ?_
  simp at hfit
  simp [Try.f38]
  refine AW.loopG (lit := fun _ => false) (fun i : Nat => ⟨39, pat [(0, encL RowR.enc l), (1, I least), (2, .fn 39 []), (9, encL RowR.enc l), (10, I l.length), (11, I i)], []⟩) (fun i => l.length - i) (fun i => i ≤ l.length ∧ (∀ k (h : k < l.length), k < i → least < l[k].client) ∧ (∀ k (h : k + 1 < l.length), k + 1 < i → l[k].client < l[k + 1].client)) 0 ?_ ?_ ?_
  · exact Wk.at _ rfl (by simp) (by simp)
  · exact ⟨by simp, fun k _ h => by omega, fun k _ h => by omega⟩
  rintro i ⟨h1, h2, h3⟩ A hA
  by_cases hi : i < l.length
  case neg =>
    have hf : riseT RowR.client least l = true := (riseT_iff _ _ _).2 ⟨rises_adj _ fun k h => h3 k h (by omega), fun r hr => by obtain ⟨k, hk, rfl⟩ := List.getElem_of_mem hr; exact h2 k hk (by omega)⟩
    try simp [hi, hf]
    repeat' (first
      | ((first | refine Tst.go (fun hw_ ew_ => ?_) (fun hw_ ew_ => ?_)) <;> first | (exfalso; first | omega | with_reducible exact hw_ (by assumption) | with_reducible exact absurd hw_ (by assumption)) | (have nw_ := Nw.nw hw_; simp [ew_, nw_, hi, hf]) | simp [ew_, hi, hf])
      | ((first | refine AW.draw (id := 4) Try.checked.mixed (fun _ => false) [] [] 22 (by kernel_rfl) ?_ | rw [if_pos (by first | omega | (simp only [maxLen]; omega))] | rw [if_neg (by first | omega | (simp only [maxLen]; omega))] | rw [frzOwn_neat (by simp) (by simp <;> omega)] | rw [fzOwn_neat (by simp) (by simp <;> omega)]); try simp [hi, hf])
      | ((first | refine TstB.go (fun hw_ ew_ => ?_) (fun hw_ ew_ => ?_)) <;> first | (exfalso; first | omega | with_reducible exact hw_ (by assumption) | with_reducible exact absurd hw_ (by assumption)) | simp [ew_, hi, hf])
      | fail)
  have hw2 := wrap_nat hi hfit.1
  have hk := keyR_ok l[i]
  by_cases c1 : l[i].client ≤ least
  · have hf : riseT RowR.client least l = false := riseT_false fun q => by have := q.2 _ (List.getElem_mem hi); omega
    try simp [hi, c1, hf]
    repeat' (first
      | ((first | refine Tst.go (fun hw_ ew_ => ?_) (fun hw_ ew_ => ?_)) <;> first | (exfalso; first | omega | with_reducible exact hw_ (by assumption) | with_reducible exact absurd hw_ (by assumption)) | (have nw_ := Nw.nw hw_; simp [ew_, nw_, hi, c1, hf]) | simp [ew_, hi, c1, hf])
      | ((first | (refine Pc.go (hk) ?_ ?_; focus (first | rfl | (simp [hi, c1, hf]; done))) | refine AW.draw (id := 4) Try.checked.mixed (fun _ => false) [] [] 22 (by kernel_rfl) ?_ | rw [if_pos (by first | omega | (simp only [maxLen]; omega))] | rw [if_neg (by first | omega | (simp only [maxLen]; omega))] | rw [frzOwn_neat (by simp) (by simp <;> omega)] | rw [fzOwn_neat (by simp) (by simp <;> omega)]); try simp [hi, c1, hf])
      | ((first | refine TstB.go (fun hw_ ew_ => ?_) (fun hw_ ew_ => ?_)) <;> first | (exfalso; first | omega | with_reducible exact hw_ (by assumption) | with_reducible exact absurd hw_ (by assumption)) | simp [ew_, hi, c1, hf])
      | fail)
  cases i with
  | zero =>
    try simp [hi, c1, hw2]
    repeat' (first
      | ((first | refine Tst.go (fun hw_ ew_ => ?_) (fun hw_ ew_ => ?_)) <;> first | (exfalso; first | omega | with_reducible exact hw_ (by assumption) | with_reducible exact absurd hw_ (by assumption)) | (have nw_ := Nw.nw hw_; simp [ew_, nw_, hi, c1, hw2]) | simp [ew_, hi, c1, hw2])
      | (exact hA 1 _ (Wk.cutAt _ rfl (by simp) (by simp) (by simp) (by simp)) ⟨hi, fun k h q => by obtain rfl : k = 0 := (by omega); omega, fun k h q => by omega⟩ (by omega))
      | ((first | (refine Pc.go (hk) ?_ ?_; focus (first | rfl | (simp [hi, c1, hw2]; done))) | refine AW.draw (id := 4) Try.checked.mixed (fun _ => false) [] [] 22 (by kernel_rfl) ?_ | rw [if_pos (by first | omega | (simp only [maxLen]; omega))] | rw [if_neg (by first | omega | (simp only [maxLen]; omega))] | rw [frzOwn_neat (by simp) (by simp <;> omega)] | rw [fzOwn_neat (by simp) (by simp <;> omega)]); try simp [hi, c1, hw2])
      | ((first | refine TstB.go (fun hw_ ew_ => ?_) (fun hw_ ew_ => ?_)) <;> first | (exfalso; first | omega | with_reducible exact hw_ (by assumption) | with_reducible exact absurd hw_ (by assumption)) | simp [ew_, hi, c1, hw2])
      | fail)
  | succ i =>
    have hi0 : i < l.length := by omega
    have hi3 : IntKind.i64.wrap ((i : Int) + 1 - 1) = (i : Int) := by rw [show (i : Int) + 1 - 1 = i by omega]; exact wrap_id (by omega) (by have := maxLen_lt hfit.1; omega)
    have hi4 : IntKind.i64.wrap (i : Int) = (i : Int) := wrap_id (by omega) (by have := maxLen_lt hfit.1; omega)
    have hi5 : IntKind.i64.wrap ((i : Int) + 1 + 1) = (i : Int) + 2 := by rw [wrap_id (by omega) (by have := maxLen_lt hfit.1; omega)]; omega
    have hk0 := keyR_ok l[i]
    by_cases c2 : l[i + 1].client ≤ l[i].client
    · have hf : riseT RowR.client least l = false := riseT_false fun q => by have := rises_get _ q.1 i (i + 1) hi0 hi (by omega); omega
      try simp [hi, hi0, hi3, hi4, c1, c2, hf]
      repeat' (first
        | ((first | refine Tst.go (fun hw_ ew_ => ?_) (fun hw_ ew_ => ?_)) <;> first | (exfalso; first | omega | with_reducible exact hw_ (by assumption) | with_reducible exact absurd hw_ (by assumption)) | (have nw_ := Nw.nw hw_; simp [ew_, nw_, hi, hi0, hi3, hi4, c1, c2, hf]) | simp [ew_, hi, hi0, hi3, hi4, c1, c2, hf])
        | ((first | (refine Pc.go (hk) ?_ ?_; focus (first | rfl | (simp [hi, hi0, hi3, hi4, c1, c2, hf]; done))) | (refine Pc.go (hk0) ?_ ?_; focus (first | rfl | (simp [hi, hi0, hi3, hi4, c1, c2, hf]; done))) | refine AW.draw (id := 4) Try.checked.mixed (fun _ => false) [] [] 22 (by kernel_rfl) ?_ | rw [if_pos (by first | omega | (simp only [maxLen]; omega))] | rw [if_neg (by first | omega | (simp only [maxLen]; omega))] | rw [frzOwn_neat (by simp) (by simp <;> omega)] | rw [fzOwn_neat (by simp) (by simp <;> omega)]); try simp [hi, hi0, hi3, hi4, c1, c2, hf])
        | ((first | refine TstB.go (fun hw_ ew_ => ?_) (fun hw_ ew_ => ?_)) <;> first | (exfalso; first | omega | with_reducible exact hw_ (by assumption) | with_reducible exact absurd hw_ (by assumption)) | simp [ew_, hi, hi0, hi3, hi4, c1, c2, hf])
        | fail)
    · try simp [hi, hi0, hi3, hi4, hi5, c1, c2]
      repeat' (first
        | ((first | refine Tst.go (fun hw_ ew_ => ?_) (fun hw_ ew_ => ?_)) <;> first | (exfalso; first | omega | with_reducible exact hw_ (by assumption) | with_reducible exact absurd hw_ (by assumption)) | (have nw_ := Nw.nw hw_; simp [ew_, nw_, hi, hi0, hi3, hi4, hi5, c1, c2]) | simp [ew_, hi, hi0, hi3, hi4, hi5, c1, c2])
        | (exact hA (i + 2) _ (Wk.cutAt _ rfl (by simp) (by simp) (by simp) (by simp)) ⟨hi, fun k h q => by rcases Nat.lt_or_ge k (i + 1) with q2 | q2; (· exact h2 k h q2); (obtain rfl : k = i + 1 := (by omega); omega), fun k h q => by rcases Nat.lt_or_ge (k + 1) (i + 1) with q2 | q2; (· exact h3 k h q2); (obtain rfl : k = i := (by omega); omega)⟩ (by omega))
        | ((first | (refine Pc.go (hk) ?_ ?_; focus (first | rfl | (simp [hi, hi0, hi3, hi4, hi5, c1, c2]; done))) | (refine Pc.go (hk0) ?_ ?_; focus (first | rfl | (simp [hi, hi0, hi3, hi4, hi5, c1, c2]; done))) | refine AW.draw (id := 4) Try.checked.mixed (fun _ => false) [] [] 22 (by kernel_rfl) ?_ | rw [if_pos (by first | omega | (simp only [maxLen]; omega))] | rw [if_neg (by first | omega | (simp only [maxLen]; omega))] | rw [frzOwn_neat (by simp) (by simp <;> omega)] | rw [fzOwn_neat (by simp) (by simp <;> omega)]); try simp [hi, hi0, hi3, hi4, hi5, c1, c2])
        | ((first | refine TstB.go (fun hw_ ew_ => ?_) (fun hw_ ew_ => ?_)) <;> first | (exfalso; first | omega | with_reducible exact hw_ (by assumption) | with_reducible exact absurd hw_ (by assumption)) | simp [ew_, hi, hi0, hi3, hi4, hi5, c1, c2])
        | fail)

theorem riseD_ok (l : List DecisionR) (least : Int) : PCall Try.prog 37 [encL DecisionR.enc l, I least, .fn 30 []] (B (riseT DecisionR.seq least l)) := by
  refine PCall.mk (fun _ => false) Try.func37 rfl rfl rfl (Ent.mk Try.func37 (by kernel_rfl) rfl) (by simp) (by simp) fun hfit => ?_
  simp at hfit
  simp [Try.f37]
  refine AW.loopG (lit := fun _ => false) (fun i : Nat => ⟨39, pat [(0, encL DecisionR.enc l), (1, I least), (2, .fn 30 []), (9, encL DecisionR.enc l), (10, I l.length), (11, I i)], []⟩) (fun i => l.length - i) (fun i => i ≤ l.length ∧ (∀ k (h : k < l.length), k < i → least < l[k].seq) ∧ (∀ k (h : k + 1 < l.length), k + 1 < i → l[k].seq < l[k + 1].seq)) 0 ?_ ?_ ?_
  · exact Wk.at _ rfl (by simp) (by simp)
  · exact ⟨by simp, fun k _ h => by omega, fun k _ h => by omega⟩
  rintro i ⟨h1, h2, h3⟩ A hA
  by_cases hi : i < l.length
  case neg =>
    have hf : riseT DecisionR.seq least l = true := (riseT_iff _ _ _).2 ⟨rises_adj _ fun k h => h3 k h (by omega), fun r hr => by obtain ⟨k, hk, rfl⟩ := List.getElem_of_mem hr; exact h2 k hk (by omega)⟩
    try simp [hi, hf]
    repeat' (first
      | ((first | refine Tst.go (fun hw_ ew_ => ?_) (fun hw_ ew_ => ?_)) <;> first | (exfalso; first | omega | with_reducible exact hw_ (by assumption) | with_reducible exact absurd hw_ (by assumption)) | (have nw_ := Nw.nw hw_; simp [ew_, nw_, hi, hf]) | simp [ew_, hi, hf])
      | ((first | refine AW.draw (id := 4) Try.checked.mixed (fun _ => false) [] [] 22 (by kernel_rfl) ?_ | rw [if_pos (by first | omega | (simp only [maxLen]; omega))] | rw [if_neg (by first | omega | (simp only [maxLen]; omega))] | rw [frzOwn_neat (by simp) (by simp <;> omega)] | rw [fzOwn_neat (by simp) (by simp <;> omega)]); try simp [hi, hf])
      | ((first | refine TstB.go (fun hw_ ew_ => ?_) (fun hw_ ew_ => ?_)) <;> first | (exfalso; first | omega | with_reducible exact hw_ (by assumption) | with_reducible exact absurd hw_ (by assumption)) | simp [ew_, hi, hf])
      | fail)
  have hw2 := wrap_nat hi hfit.1
  have hk := keyD_ok l[i]
  by_cases c1 : l[i].seq ≤ least
  · have hf : riseT DecisionR.seq least l = false := riseT_false fun q => by have := q.2 _ (List.getElem_mem hi); omega
    try simp [hi, c1, hf]
    repeat' (first
      | ((first | refine Tst.go (fun hw_ ew_ => ?_) (fun hw_ ew_ => ?_)) <;> first | (exfalso; first | omega | with_reducible exact hw_ (by assumption) | with_reducible exact absurd hw_ (by assumption)) | (have nw_ := Nw.nw hw_; simp [ew_, nw_, hi, c1, hf]) | simp [ew_, hi, c1, hf])
      | ((first | (refine Pc.go (hk) ?_ ?_; focus (first | rfl | (simp [hi, c1, hf]; done))) | refine AW.draw (id := 4) Try.checked.mixed (fun _ => false) [] [] 22 (by kernel_rfl) ?_ | rw [if_pos (by first | omega | (simp only [maxLen]; omega))] | rw [if_neg (by first | omega | (simp only [maxLen]; omega))] | rw [frzOwn_neat (by simp) (by simp <;> omega)] | rw [fzOwn_neat (by simp) (by simp <;> omega)]); try simp [hi, c1, hf])
      | ((first | refine TstB.go (fun hw_ ew_ => ?_) (fun hw_ ew_ => ?_)) <;> first | (exfalso; first | omega | with_reducible exact hw_ (by assumption) | with_reducible exact absurd hw_ (by assumption)) | simp [ew_, hi, c1, hf])
      | fail)
  cases i with
  | zero =>
    try simp [hi, c1, hw2]
    repeat' (first
      | ((first | refine Tst.go (fun hw_ ew_ => ?_) (fun hw_ ew_ => ?_)) <;> first | (exfalso; first | omega | with_reducible exact hw_ (by assumption) | with_reducible exact absurd hw_ (by assumption)) | (have nw_ := Nw.nw hw_; simp [ew_, nw_, hi, c1, hw2]) | simp [ew_, hi, c1, hw2])
      | (exact hA 1 _ (Wk.cutAt _ rfl (by simp) (by simp) (by simp) (by simp)) ⟨hi, fun k h q => by obtain rfl : k = 0 := (by omega); omega, fun k h q => by omega⟩ (by omega))
      | ((first | (refine Pc.go (hk) ?_ ?_; focus (first | rfl | (simp [hi, c1, hw2]; done))) | refine AW.draw (id := 4) Try.checked.mixed (fun _ => false) [] [] 22 (by kernel_rfl) ?_ | rw [if_pos (by first | omega | (simp only [maxLen]; omega))] | rw [if_neg (by first | omega | (simp only [maxLen]; omega))] | rw [frzOwn_neat (by simp) (by simp <;> omega)] | rw [fzOwn_neat (by simp) (by simp <;> omega)]); try simp [hi, c1, hw2])
      | ((first | refine TstB.go (fun hw_ ew_ => ?_) (fun hw_ ew_ => ?_)) <;> first | (exfalso; first | omega | with_reducible exact hw_ (by assumption) | with_reducible exact absurd hw_ (by assumption)) | simp [ew_, hi, c1, hw2])
      | fail)
  | succ i =>
    have hi0 : i < l.length := by omega
    have hi3 : IntKind.i64.wrap ((i : Int) + 1 - 1) = (i : Int) := by rw [show (i : Int) + 1 - 1 = i by omega]; exact wrap_id (by omega) (by have := maxLen_lt hfit.1; omega)
    have hi4 : IntKind.i64.wrap (i : Int) = (i : Int) := wrap_id (by omega) (by have := maxLen_lt hfit.1; omega)
    have hi5 : IntKind.i64.wrap ((i : Int) + 1 + 1) = (i : Int) + 2 := by rw [wrap_id (by omega) (by have := maxLen_lt hfit.1; omega)]; omega
    have hk0 := keyD_ok l[i]
    by_cases c2 : l[i + 1].seq ≤ l[i].seq
    · have hf : riseT DecisionR.seq least l = false := riseT_false fun q => by have := rises_get _ q.1 i (i + 1) hi0 hi (by omega); omega
      try simp [hi, hi0, hi3, hi4, c1, c2, hf]
      repeat' (first
        | ((first | refine Tst.go (fun hw_ ew_ => ?_) (fun hw_ ew_ => ?_)) <;> first | (exfalso; first | omega | with_reducible exact hw_ (by assumption) | with_reducible exact absurd hw_ (by assumption)) | (have nw_ := Nw.nw hw_; simp [ew_, nw_, hi, hi0, hi3, hi4, c1, c2, hf]) | simp [ew_, hi, hi0, hi3, hi4, c1, c2, hf])
        | ((first | (refine Pc.go (hk) ?_ ?_; focus (first | rfl | (simp [hi, hi0, hi3, hi4, c1, c2, hf]; done))) | (refine Pc.go (hk0) ?_ ?_; focus (first | rfl | (simp [hi, hi0, hi3, hi4, c1, c2, hf]; done))) | refine AW.draw (id := 4) Try.checked.mixed (fun _ => false) [] [] 22 (by kernel_rfl) ?_ | rw [if_pos (by first | omega | (simp only [maxLen]; omega))] | rw [if_neg (by first | omega | (simp only [maxLen]; omega))] | rw [frzOwn_neat (by simp) (by simp <;> omega)] | rw [fzOwn_neat (by simp) (by simp <;> omega)]); try simp [hi, hi0, hi3, hi4, c1, c2, hf])
        | ((first | refine TstB.go (fun hw_ ew_ => ?_) (fun hw_ ew_ => ?_)) <;> first | (exfalso; first | omega | with_reducible exact hw_ (by assumption) | with_reducible exact absurd hw_ (by assumption)) | simp [ew_, hi, hi0, hi3, hi4, c1, c2, hf])
        | fail)
    · try simp [hi, hi0, hi3, hi4, hi5, c1, c2]
      repeat' (first
        | ((first | refine Tst.go (fun hw_ ew_ => ?_) (fun hw_ ew_ => ?_)) <;> first | (exfalso; first | omega | with_reducible exact hw_ (by assumption) | with_reducible exact absurd hw_ (by assumption)) | (have nw_ := Nw.nw hw_; simp [ew_, nw_, hi, hi0, hi3, hi4, hi5, c1, c2]) | simp [ew_, hi, hi0, hi3, hi4, hi5, c1, c2])
        | (exact hA (i + 2) _ (Wk.cutAt _ rfl (by simp) (by simp) (by simp) (by simp)) ⟨hi, fun k h q => by rcases Nat.lt_or_ge k (i + 1) with q2 | q2; (· exact h2 k h q2); (obtain rfl : k = i + 1 := (by omega); omega), fun k h q => by rcases Nat.lt_or_ge (k + 1) (i + 1) with q2 | q2; (· exact h3 k h q2); (obtain rfl : k = i := (by omega); omega)⟩ (by omega))
        | ((first | (refine Pc.go (hk) ?_ ?_; focus (first | rfl | (simp [hi, hi0, hi3, hi4, hi5, c1, c2]; done))) | (refine Pc.go (hk0) ?_ ?_; focus (first | rfl | (simp [hi, hi0, hi3, hi4, hi5, c1, c2]; done))) | refine AW.draw (id := 4) Try.checked.mixed (fun _ => false) [] [] 22 (by kernel_rfl) ?_ | rw [if_pos (by first | omega | (simp only [maxLen]; omega))] | rw [if_neg (by first | omega | (simp only [maxLen]; omega))] | rw [frzOwn_neat (by simp) (by simp <;> omega)] | rw [fzOwn_neat (by simp) (by simp <;> omega)]); try simp [hi, hi0, hi3, hi4, hi5, c1, c2])
        | ((first | refine TstB.go (fun hw_ ew_ => ?_) (fun hw_ ew_ => ?_)) <;> first | (exfalso; first | omega | with_reducible exact hw_ (by assumption) | with_reducible exact absurd hw_ (by assumption)) | simp [ew_, hi, hi0, hi3, hi4, hi5, c1, c2])
        | fail)

def badT (r : RowR) : Bool := decide (r.epoch < 1) || (decide (r.done < 0) || (decide (256 < r.l.length) || !riseT DecisionR.seq r.done r.l))
theorem right1_ok (r : RowR) : PCall Try.prog 36 [.agg r.enc] (B (badT r)) := by
  have h1 := riseD_ok r.l r.done
  unfold badT
  generalize riseT DecisionR.seq r.done r.l = b at *
  refine PCall.mk (fun _ => false) Try.func36 rfl rfl rfl (Ent.mk Try.func36 (by kernel_rfl) rfl) (by simp) (by simp) fun hfit => ?_
  simp [Try.f36]
  try simp [RowR.enc]
  repeat' (first
    | ((first | refine Tst.go (fun hw_ ew_ => ?_) (fun hw_ ew_ => ?_)) <;> first | (exfalso; first | omega | with_reducible exact hw_ (by assumption) | with_reducible exact absurd hw_ (by assumption)) | (have nw_ := Nw.nw hw_; simp [ew_, nw_, RowR.enc]) | simp [ew_, RowR.enc])
    | ((first | (refine Pc.go (h1) ?_ ?_; focus (first | rfl | (simp [RowR.enc]; done))) | rw [if_pos (by first | omega | (simp only [maxLen]; omega))] | rw [if_neg (by first | omega | (simp only [maxLen]; omega))] | rw [frzOwn_neat (by simp) (by simp <;> omega)] | rw [fzOwn_neat (by simp) (by simp <;> omega)]); try simp [RowR.enc])
    | ((first | refine TstB.go (fun hw_ ew_ => ?_) (fun hw_ ew_ => ?_)) <;> first | (exfalso; first | omega | with_reducible exact hw_ (by assumption) | with_reducible exact absurd hw_ (by assumption)) | simp [ew_, RowR.enc])
    | fail)
theorem indexfR_ok (l : List RowR) (g : FuncId) (cap : List AV) (p : RowR → Bool) (hcap : cap.all neat = true) (hp : ∀ x ∈ l, PCall Try.prog g (.agg x.enc :: cap) (B (p x))) (hl : l.length ≤ 1000000) : PCall Try.prog 65 [encL RowR.enc l, .fn g cap] (I (idxS p l)) := by
  refine PCall.mk (fun _ => false) Try.func65 rfl rfl rfl (Ent.mk Try.func65 (by kernel_rfl) rfl) (by simp [hcap]) (by simp) fun hfit => ?_
  simp at hfit
  simp [Try.f65]
  refine AW.loopG (lit := fun _ => false) (fun i : Nat => ⟨19, pat [(0, encL RowR.enc l), (1, .fn g cap), (7, I l.length), (8, I i)], []⟩) (fun i => l.length - i) (fun i => i ≤ l.length ∧ idxFrom p i (l.drop i) = idxS p l) 0 ?_ ?_ ?_
  · exact Wk.at _ rfl rfl (by simp)
  · simp [idxS]
  rintro i ⟨h1, h2⟩ A hA
  by_cases hi : i < l.length
  case neg =>
    rw [idxFrom_end hi] at h2
    try simp [hi, ← h2]
    repeat' (first
      | ((first | refine Tst.go (fun hw_ ew_ => ?_) (fun hw_ ew_ => ?_)) <;> first | (exfalso; first | omega | with_reducible exact hw_ (by assumption) | with_reducible exact absurd hw_ (by assumption)) | (have nw_ := Nw.nw hw_; simp [ew_, nw_, hi, ← h2]) | simp [ew_, hi, ← h2])
      | ((first | rw [if_pos (by first | omega | (simp only [maxLen]; omega))] | rw [if_neg (by first | omega | (simp only [maxLen]; omega))] | rw [frzOwn_neat (by simp) (by simp <;> omega)] | rw [fzOwn_neat (by simp) (by simp <;> omega)]); try simp [hi, ← h2])
      | ((first | refine TstB.go (fun hw_ ew_ => ?_) (fun hw_ ew_ => ?_)) <;> first | (exfalso; first | omega | with_reducible exact hw_ (by assumption) | with_reducible exact absurd hw_ (by assumption)) | simp [ew_, hi, ← h2])
      | fail)
  rw [idxFrom_at hi] at h2
  have hw := wrap_nat hi hfit.1.1
  have hpi := hp l[i] (List.getElem_mem hi)
  cases hpp : p l[i] with
  | true =>
    rw [hpp] at hpi
    simp only [hpp, if_true] at h2
    try simp [hi, ← h2, hpp]
    repeat' (first
      | ((first | refine Tst.go (fun hw_ ew_ => ?_) (fun hw_ ew_ => ?_)) <;> first | (exfalso; first | omega | with_reducible exact hw_ (by assumption) | with_reducible exact absurd hw_ (by assumption)) | (have nw_ := Nw.nw hw_; simp [ew_, nw_, hi, ← h2, hpp]) | simp [ew_, hi, ← h2, hpp])
      | ((first | (refine Pc.go (hpi) ?_ ?_; focus (first | rfl | (simp [hi, ← h2, hpp]; done))) | rw [if_pos (by first | omega | (simp only [maxLen]; omega))] | rw [if_neg (by first | omega | (simp only [maxLen]; omega))] | rw [frzOwn_neat (by simp) (by simp <;> omega)] | rw [fzOwn_neat (by simp) (by simp <;> omega)]); try simp [hi, ← h2, hpp])
      | ((first | refine TstB.go (fun hw_ ew_ => ?_) (fun hw_ ew_ => ?_)) <;> first | (exfalso; first | omega | with_reducible exact hw_ (by assumption) | with_reducible exact absurd hw_ (by assumption)) | simp [ew_, hi, ← h2, hpp])
      | fail)
  | false =>
    rw [hpp] at hpi
    simp only [hpp, Bool.false_eq_true, if_false] at h2
    try simp [hi, hw, hpp]
    repeat' (first
      | ((first | refine Tst.go (fun hw_ ew_ => ?_) (fun hw_ ew_ => ?_)) <;> first | (exfalso; first | omega | with_reducible exact hw_ (by assumption) | with_reducible exact absurd hw_ (by assumption)) | (have nw_ := Nw.nw hw_; simp [ew_, nw_, hi, hw, hpp]) | simp [ew_, hi, hw, hpp])
      | (exact hA (i + 1) _ (Wk.at _ rfl (by simp) (by simp)) ⟨by omega, h2⟩ (by omega))
      | ((first | (refine Pc.go (hpi) ?_ ?_; focus (first | rfl | (simp [hi, hw, hpp]; done))) | rw [if_pos (by first | omega | (simp only [maxLen]; omega))] | rw [if_neg (by first | omega | (simp only [maxLen]; omega))] | rw [frzOwn_neat (by simp) (by simp <;> omega)] | rw [fzOwn_neat (by simp) (by simp <;> omega)]); try simp [hi, hw, hpp])
      | ((first | refine TstB.go (fun hw_ ew_ => ?_) (fun hw_ ew_ => ?_)) <;> first | (exfalso; first | omega | with_reducible exact hw_ (by assumption) | with_reducible exact absurd hw_ (by assumption)) | simp [ew_, hi, hw, hpp])
      | fail)

theorem contains_ok (l : List RowR) (hl : l.length ≤ 1000000) : PCall Try.prog 40 [encL RowR.enc l, .fn 36 []] (B (decide (0 ≤ idxS badT l))) := by
  have h1 := indexfR_ok l 36 [] badT (by simp) (fun x _ => right1_ok x) hl
  refine PCall.mk (fun _ => false) Try.func40 rfl rfl rfl (Ent.mk Try.func40 (by kernel_rfl) rfl) (by simp) (by simp) fun hfit => ?_
  simp [Try.f40]
  try simp
  repeat' (first
    | ((first | refine Tst.go (fun hw_ ew_ => ?_) (fun hw_ ew_ => ?_)) <;> first | (exfalso; first | omega | with_reducible exact hw_ (by assumption) | with_reducible exact absurd hw_ (by assumption)) | (have nw_ := Nw.nw hw_; simp [ew_, nw_]) | simp [ew_])
    | ((first | (refine Pc.go (h1) ?_ ?_; focus (first | rfl | (simp; done))) | rw [if_pos (by first | omega | (simp only [maxLen]; omega))] | rw [if_neg (by first | omega | (simp only [maxLen]; omega))] | rw [frzOwn_neat (by simp) (by simp <;> omega)] | rw [fzOwn_neat (by simp) (by simp <;> omega)]); try simp)
    | ((first | refine TstB.go (fun hw_ ew_ => ?_) (fun hw_ ew_ => ?_)) <;> first | (exfalso; first | omega | with_reducible exact hw_ (by assumption) | with_reducible exact absurd hw_ (by assumption)) | simp [ew_])
    | fail)
theorem badT_iff (r : RowR) : badT r = false ∧ 0 ≤ r.client ↔ RowOk r := by
  simp only [badT, Bool.or_eq_false_iff, decide_eq_false_iff_not, Bool.not_eq_false', riseT_iff]
  constructor
  · rintro ⟨⟨h1, h2, h3, h4, h5⟩, h6⟩
    exact ⟨h6, by omega, by omega, by omega, h4, h5⟩
  · intro h
    exact ⟨⟨by have := h.epoch; omega, by have := h.done; omega, by have := h.len; omega, h.rise, h.above⟩, h.client⟩
theorem right14_ok (l : List RowR) : PCall Try.prog 17 [encL RowR.enc l] (B (rightT l)) := by
  by_cases hl : l.length ≤ 64
  case neg =>
    have hf : rightT l = false := rightT_false fun R => hl R.len
    refine PCall.mk (fun _ => false) Try.func17 rfl rfl rfl (Ent.mk Try.func17 (by kernel_rfl) rfl) (by simp) (by simp) fun hfit => ?_
    simp [Try.f17]
    try simp [hl, hf]
    repeat' (first
      | ((first | refine Tst.go (fun hw_ ew_ => ?_) (fun hw_ ew_ => ?_)) <;> first | (exfalso; first | omega | with_reducible exact hw_ (by assumption) | with_reducible exact absurd hw_ (by assumption)) | (have nw_ := Nw.nw hw_; simp [ew_, nw_, hl, hf]) | simp [ew_, hl, hf])
      | ((first | rw [if_pos (by first | omega | (simp only [maxLen]; omega))] | rw [if_neg (by first | omega | (simp only [maxLen]; omega))] | rw [frzOwn_neat (by simp) (by simp <;> omega)] | rw [fzOwn_neat (by simp) (by simp <;> omega)]); try simp [hl, hf])
      | ((first | refine TstB.go (fun hw_ ew_ => ?_) (fun hw_ ew_ => ?_)) <;> first | (exfalso; first | omega | with_reducible exact hw_ (by assumption) | with_reducible exact absurd hw_ (by assumption)) | simp [ew_, hl, hf])
      | fail)
  have h1 := riseR_ok l (-1)
  cases hr : riseT RowR.client (-1) l with
  | false =>
    have hf : rightT l = false := rightT_false fun R => by
      have := (riseT_iff RowR.client (-1) l).2 ⟨R.rise, fun x hx => by have := (R.ok x hx).client; omega⟩
      rw [hr] at this; cases this
    rw [hr] at h1
    refine PCall.mk (fun _ => false) Try.func17 rfl rfl rfl (Ent.mk Try.func17 (by kernel_rfl) rfl) (by simp) (by simp) fun hfit => ?_
    simp [Try.f17]
    try simp [hl, hf]
    repeat' (first
      | ((first | refine Tst.go (fun hw_ ew_ => ?_) (fun hw_ ew_ => ?_)) <;> first | (exfalso; first | omega | with_reducible exact hw_ (by assumption) | with_reducible exact absurd hw_ (by assumption)) | (have nw_ := Nw.nw hw_; simp [ew_, nw_, hl, hf]) | simp [ew_, hl, hf])
      | ((first | (refine Pc.go (h1) ?_ ?_; focus (first | rfl | (simp [hl, hf]; done))) | rw [if_pos (by first | omega | (simp only [maxLen]; omega))] | rw [if_neg (by first | omega | (simp only [maxLen]; omega))] | rw [frzOwn_neat (by simp) (by simp <;> omega)] | rw [fzOwn_neat (by simp) (by simp <;> omega)]); try simp [hl, hf])
      | ((first | refine TstB.go (fun hw_ ew_ => ?_) (fun hw_ ew_ => ?_)) <;> first | (exfalso; first | omega | with_reducible exact hw_ (by assumption) | with_reducible exact absurd hw_ (by assumption)) | simp [ew_, hl, hf])
      | fail)
  | true =>
    rw [hr] at h1
    have h2 := contains_ok l (by omega)
    obtain ⟨r1, r2⟩ := (riseT_iff _ _ _).1 hr
    have hf : rightT l = !decide (0 ≤ idxS badT l) := by
      by_cases hb : idxS badT l = -1
      · have := (idxS_none hb).2
        rw [hb, (rightT_iff l).2 ⟨hl, r1, fun r hr => (badT_iff r).1 ⟨this r hr, by have := r2 r hr; omega⟩⟩]
        rfl
      · obtain ⟨j, hj, e1, e2, _⟩ := idxS_some hb
        rw [e1, rightT_false fun R => by have := ((badT_iff _).2 (R.ok _ (List.getElem_mem hj))).1; rw [e2] at this; cases this]
        simp
    rw [hf]
    generalize decide (0 ≤ idxS badT l) = b at *
    refine PCall.mk (fun _ => false) Try.func17 rfl rfl rfl (Ent.mk Try.func17 (by kernel_rfl) rfl) (by simp) (by simp) fun hfit => ?_
    simp [Try.f17]
    try simp [hl]
    repeat' (first
      | ((first | refine Tst.go (fun hw_ ew_ => ?_) (fun hw_ ew_ => ?_)) <;> first | (exfalso; first | omega | with_reducible exact hw_ (by assumption) | with_reducible exact absurd hw_ (by assumption)) | (have nw_ := Nw.nw hw_; simp [ew_, nw_, hl]) | simp [ew_, hl])
      | ((first | (refine Pc.go (h1) ?_ ?_; focus (first | rfl | (simp [hl]; done))) | (refine Pc.go (h2) ?_ ?_; focus (first | rfl | (simp [hl]; done))) | rw [if_pos (by first | omega | (simp only [maxLen]; omega))] | rw [if_neg (by first | omega | (simp only [maxLen]; omega))] | rw [frzOwn_neat (by simp) (by simp <;> omega)] | rw [fzOwn_neat (by simp) (by simp <;> omega)]); try simp [hl])
      | ((first | refine TstB.go (fun hw_ ew_ => ?_) (fun hw_ ew_ => ?_)) <;> first | (exfalso; first | omega | with_reducible exact hw_ (by assumption) | with_reducible exact absurd hw_ (by assumption)) | simp [ew_, hl])
      | fail)
end Go.Proofs.Ytpbjeabigckijaa
