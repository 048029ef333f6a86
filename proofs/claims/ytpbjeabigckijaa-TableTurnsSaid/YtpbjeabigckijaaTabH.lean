/- Put, decided and forgotten, by the document. -/
import Derived.Test.YtpbjeabigckijaaTabG
set_option linter.unusedVariables false
set_option linter.unusedSimpArgs false
namespace Go.Proofs.Ytpbjeabigckijaa
open Go.Cx Tab
set_option maxHeartbeats 400000
set_option maxRecDepth 40000

theorem drop_filter {α : Type} {key : α → Int} (k : Int) : ∀ {l : List α}, rises key l = true → (l.dropWhile (fun x => decide (key x < k))).filter (fun x => !decide (key x = k)) = l.dropWhile (fun x => decide (key x ≤ k))
  | [], _ => rfl
  | a :: l, h => by
    obtain ⟨h1, h2⟩ := rises_tail key h
    have hall : ∀ c : Int, c ≤ key a → ∀ x ∈ l, ¬ key x ≤ c := fun c hc x hx => by have := h2 x hx; omega
    by_cases c1 : key a < k
    · rw [List.dropWhile_cons_of_pos (by simpa using c1), List.dropWhile_cons_of_pos (by simp; omega)]
      exact drop_filter k h1
    · rw [List.dropWhile_cons_of_neg (by simpa using c1)]
      have hl : k ≤ key a → l.filter (fun x => !decide (key x = k)) = l := fun hk => List.filter_eq_self.2 fun x hx => by have := hall k hk x hx; simp; omega
      have hd : k ≤ key a → l.dropWhile (fun x => decide (key x ≤ k)) = l := fun hk => by
        cases l with
        | nil => rfl
        | cons b l => exact List.dropWhile_cons_of_neg (by have := hall k hk b (by simp); simpa using this)
      by_cases c2 : key a = k
      · rw [List.filter_cons_of_neg (by simp [c2]), List.dropWhile_cons_of_pos (by simp [c2]), hl (by omega), hd (by omega)]
      · rw [List.filter_cons_of_pos (by simp [c2]), List.dropWhile_cons_of_neg (by simp; omega), hl (by omega)]
theorem rput14_ok (l : List RowR) (r : RowR) (hr : rises RowR.client l = true) (hl : l.length ≤ 1000000) : PCall Try.prog 43 [encL RowR.enc l, .agg r.enc] (encL RowR.enc (putS RowR.client l r)) := by
  unfold putS
  rw [← drop_filter r.client hr]
  refine PCall.mk (fun _ => false) Try.func43 rfl rfl rfl (Ent.mk Try.func43 (by kernel_rfl) rfl) (by simp) (by simp) fun hfit => ?_
  simp [Try.f43]
  refine AW.loopG (lit := fun _ => false) (fun i : Nat => ⟨56, pat [(0, encL RowR.enc l), (3, .ptr 0 0 0), (5, .own 1 i 0 i 4), (6, I i)], [.cells 0 r.enc, .cells i ((l.take i).flatMap RowR.enc)]⟩) (fun i => l.length - i)
    (fun i => i ≤ l.length ∧ l.take i ++ (l.drop i).takeWhile (fun x => decide (x.client < r.client)) = l.takeWhile (fun x => decide (x.client < r.client)) ∧ (l.drop i).dropWhile (fun x => decide (x.client < r.client)) = l.dropWhile (fun x => decide (x.client < r.client))) 0 ?_ ?_ ?_
  · exact Wk.trans (Wk.ownNil 5 4 (by simp)) (Wk.at _ rfl (by simp) (by simp))
  · exact ⟨by simp, by simp, by simp⟩
  rintro i ⟨g1, g2, g3⟩ A hA
  have hli : (l.take i).length = i := by simp; omega
  by_cases hi : i < l.length
  case neg =>
    rw [List.drop_eq_nil_of_le (by omega), List.takeWhile_nil, List.append_nil] at g2
    rw [← g3, ← g2]
    rw [show (l.drop i).dropWhile (fun x => decide (x.client < r.client)) = l.drop i by rw [List.drop_eq_nil_of_le (by omega)]; rfl]
    try simp [hi, hli]
    repeat' (first
      | ((first | refine Tst.go (fun hw_ ew_ => ?_) (fun hw_ ew_ => ?_)) <;> first | (exfalso; first | omega | with_reducible exact hw_ (by assumption) | with_reducible exact absurd hw_ (by assumption)) | (have nw_ := Nw.nw hw_; simp [ew_, nw_, hi, hli]) | simp [ew_, hi, hli])
      | ((first | refine AW.draw (id := 3) Try.checked.mixed (fun _ => false) [] [] 14 (by kernel_rfl) ?_ | refine AW.draw (id := 8) Try.checked.mixed (fun _ => false) [] [] 8 (by kernel_rfl) ?_ | rw [if_pos (by first | omega | (simp only [maxLen]; omega))] | rw [if_neg (by first | omega | (simp only [maxLen]; omega))] | rw [frzOwn_neat (by simp) (by simp <;> omega)] | rw [fzOwn_neat (by simp) (by simp <;> omega)]); try simp [hi, hli])
      | ((first | refine TstB.go (fun hw_ ew_ => ?_) (fun hw_ ew_ => ?_)) <;> first | (exfalso; first | omega | with_reducible exact hw_ (by assumption) | with_reducible exact absurd hw_ (by assumption)) | simp [ew_, hi, hli])
      | fail)
    refine AW.loopG (lit := fun _ => false) (fun x : Nat × List RowR => ⟨56, pat [(0, encL RowR.enc l), (3, .ptr 0 0 0), (5, .own 1 x.2.length 0 x.2.length 4), (6, I x.1)], [.cells 0 r.enc, .cells x.2.length (x.2.flatMap RowR.enc)]⟩) (fun x => l.length - x.1)
      (fun x => x.1 ≤ l.length ∧ x.2.length ≤ x.1 + 1 ∧ x.2 ++ (l.drop x.1).filter (fun x => !decide (x.client = r.client)) = l.take i ++ (r :: (l.drop i).filter (fun x => !decide (x.client = r.client)))) (i, l.take i ++ [r]) ?_ ?_ ?_
    · exact Wk.cutAt _ rfl (by simp [hli]) (by simp [hli]) (by simp [hli]) (by simp [hli])
    · exact ⟨g1, by simp [hli], by simp⟩
    rintro ⟨j, acc⟩ ⟨k1, k2, k3⟩ A2 hA2
    simp only at k1 k2 k3 hA2
    by_cases hj : j < l.length
    case neg =>
      rw [List.drop_eq_nil_of_le (by omega), List.filter_nil, List.append_nil] at k3
      rw [← k3]
      try simp [hj]
      repeat' (first
        | ((first | refine Tst.go (fun hw_ ew_ => ?_) (fun hw_ ew_ => ?_)) <;> first | (exfalso; first | omega | with_reducible exact hw_ (by assumption) | with_reducible exact absurd hw_ (by assumption)) | (have nw_ := Nw.nw hw_; simp [ew_, nw_, hj]) | simp [ew_, hj])
        | ((first | refine AW.draw (id := 3) Try.checked.mixed (fun _ => false) [] [] 14 (by kernel_rfl) ?_ | refine AW.draw (id := 8) Try.checked.mixed (fun _ => false) [] [] 8 (by kernel_rfl) ?_ | rw [if_pos (by first | omega | (simp only [maxLen]; omega))] | rw [if_neg (by first | omega | (simp only [maxLen]; omega))] | rw [frzOwn_neat (by simp) (by simp <;> omega)] | rw [fzOwn_neat (by simp) (by simp <;> omega)]); try simp [hj])
        | ((first | refine TstB.go (fun hw_ ew_ => ?_) (fun hw_ ew_ => ?_)) <;> first | (exfalso; first | omega | with_reducible exact hw_ (by assumption) | with_reducible exact absurd hw_ (by assumption)) | simp [ew_, hj])
        | fail)
    rw [List.drop_eq_getElem_cons hj, List.filter_cons] at k3
    have hwj := wrap_nat hj (by simp only [maxLen]; omega)
    have hcj := cli_at hj
    by_cases hk : l[j].client = r.client
    · rw [if_neg (by simp [hk])] at k3
      try simp [hj, hwj, hcj, hk]
      repeat' (first
        | ((first | refine Tst.go (fun hw_ ew_ => ?_) (fun hw_ ew_ => ?_)) <;> first | (exfalso; first | omega | with_reducible exact hw_ (by assumption) | with_reducible exact absurd hw_ (by assumption)) | (have nw_ := Nw.nw hw_; simp [ew_, nw_, hj, hwj, hcj, hk]) | simp [ew_, hj, hwj, hcj, hk])
        | (exact hA2 (j + 1, acc) _ (Wk.at _ rfl (by simp) (by simp)) ⟨hj, by simp only; omega, k3⟩ (by simp only; omega))
        | ((first | refine AW.draw (id := 3) Try.checked.mixed (fun _ => false) [] [] 14 (by kernel_rfl) ?_ | refine AW.draw (id := 8) Try.checked.mixed (fun _ => false) [] [] 8 (by kernel_rfl) ?_ | rw [if_pos (by first | omega | (simp only [maxLen]; omega))] | rw [if_neg (by first | omega | (simp only [maxLen]; omega))] | rw [frzOwn_neat (by simp) (by simp <;> omega)] | rw [fzOwn_neat (by simp) (by simp <;> omega)]); try simp [hj, hwj, hcj, hk])
        | ((first | refine TstB.go (fun hw_ ew_ => ?_) (fun hw_ ew_ => ?_)) <;> first | (exfalso; first | omega | with_reducible exact hw_ (by assumption) | with_reducible exact absurd hw_ (by assumption)) | simp [ew_, hj, hwj, hcj, hk])
        | fail)
    · rw [if_pos (by simp [hk])] at k3
      have k5 : (acc ++ [l[j]]).length = acc.length + 1 := by simp
      try simp [hj, hwj, hcj, hk]
      repeat' (first
        | ((first | refine Tst.go (fun hw_ ew_ => ?_) (fun hw_ ew_ => ?_)) <;> first | (exfalso; first | omega | with_reducible exact hw_ (by assumption) | with_reducible exact absurd hw_ (by assumption)) | (have nw_ := Nw.nw hw_; simp [ew_, nw_, hj, hwj, hcj, hk]) | simp [ew_, hj, hwj, hcj, hk])
        | (exact hA2 (j + 1, acc ++ [l[j]]) _ (Wk.cutAt _ rfl (by simp) (by simp) (by simp) (by simp)) ⟨hj, by simp only [k5]; omega, by simpa using k3⟩ (by simp only; omega))
        | ((first | refine AW.draw (id := 3) Try.checked.mixed (fun _ => false) [] [] 14 (by kernel_rfl) ?_ | refine AW.draw (id := 8) Try.checked.mixed (fun _ => false) [] [] 8 (by kernel_rfl) ?_ | rw [if_pos (by first | omega | (simp only [maxLen]; omega))] | rw [if_neg (by first | omega | (simp only [maxLen]; omega))] | rw [frzOwn_neat (by simp) (by simp <;> omega)] | rw [fzOwn_neat (by simp) (by simp <;> omega)]); try simp [hj, hwj, hcj, hk])
        | ((first | refine TstB.go (fun hw_ ew_ => ?_) (fun hw_ ew_ => ?_)) <;> first | (exfalso; first | omega | with_reducible exact hw_ (by assumption) | with_reducible exact absurd hw_ (by assumption)) | simp [ew_, hj, hwj, hcj, hk])
        | fail)
  have hd := List.drop_eq_getElem_cons hi
  have hc := cli_at hi
  by_cases hp : l[i].client < r.client
  case neg =>
    have hd1 : (l.drop i).dropWhile (fun x => decide (x.client < r.client)) = l.drop i := by rw [hd, List.dropWhile_cons_of_neg (by simpa using hp)]
    rw [hd, List.takeWhile_cons_of_neg (by simpa using hp), List.append_nil] at g2
    rw [hd1] at g3
    rw [← g3, ← g2]
    try simp [hi, hp, hc, hli]
    repeat' (first
      | ((first | refine Tst.go (fun hw_ ew_ => ?_) (fun hw_ ew_ => ?_)) <;> first | (exfalso; first | omega | with_reducible exact hw_ (by assumption) | with_reducible exact absurd hw_ (by assumption)) | (have nw_ := Nw.nw hw_; simp [ew_, nw_, hi, hp, hc, hli]) | simp [ew_, hi, hp, hc, hli])
      | ((first | refine AW.draw (id := 3) Try.checked.mixed (fun _ => false) [] [] 14 (by kernel_rfl) ?_ | refine AW.draw (id := 8) Try.checked.mixed (fun _ => false) [] [] 8 (by kernel_rfl) ?_ | rw [if_pos (by first | omega | (simp only [maxLen]; omega))] | rw [if_neg (by first | omega | (simp only [maxLen]; omega))] | rw [frzOwn_neat (by simp) (by simp <;> omega)] | rw [fzOwn_neat (by simp) (by simp <;> omega)]); try simp [hi, hp, hc, hli])
      | ((first | refine TstB.go (fun hw_ ew_ => ?_) (fun hw_ ew_ => ?_)) <;> first | (exfalso; first | omega | with_reducible exact hw_ (by assumption) | with_reducible exact absurd hw_ (by assumption)) | simp [ew_, hi, hp, hc, hli])
      | fail)
    refine AW.loopG (lit := fun _ => false) (fun x : Nat × List RowR => ⟨56, pat [(0, encL RowR.enc l), (3, .ptr 0 0 0), (5, .own 1 x.2.length 0 x.2.length 4), (6, I x.1)], [.cells 0 r.enc, .cells x.2.length (x.2.flatMap RowR.enc)]⟩) (fun x => l.length - x.1)
      (fun x => x.1 ≤ l.length ∧ x.2.length ≤ x.1 + 1 ∧ x.2 ++ (l.drop x.1).filter (fun x => !decide (x.client = r.client)) = l.take i ++ (r :: (l.drop i).filter (fun x => !decide (x.client = r.client)))) (i, l.take i ++ [r]) ?_ ?_ ?_
    · exact Wk.cutAt _ rfl (by simp [hli]) (by simp [hli]) (by simp [hli]) (by simp [hli])
    · exact ⟨g1, by simp [hli], by simp⟩
    rintro ⟨j, acc⟩ ⟨k1, k2, k3⟩ A2 hA2
    simp only at k1 k2 k3 hA2
    by_cases hj : j < l.length
    case neg =>
      rw [List.drop_eq_nil_of_le (by omega), List.filter_nil, List.append_nil] at k3
      rw [← k3]
      try simp [hj]
      repeat' (first
        | ((first | refine Tst.go (fun hw_ ew_ => ?_) (fun hw_ ew_ => ?_)) <;> first | (exfalso; first | omega | with_reducible exact hw_ (by assumption) | with_reducible exact absurd hw_ (by assumption)) | (have nw_ := Nw.nw hw_; simp [ew_, nw_, hj]) | simp [ew_, hj])
        | ((first | refine AW.draw (id := 3) Try.checked.mixed (fun _ => false) [] [] 14 (by kernel_rfl) ?_ | refine AW.draw (id := 8) Try.checked.mixed (fun _ => false) [] [] 8 (by kernel_rfl) ?_ | rw [if_pos (by first | omega | (simp only [maxLen]; omega))] | rw [if_neg (by first | omega | (simp only [maxLen]; omega))] | rw [frzOwn_neat (by simp) (by simp <;> omega)] | rw [fzOwn_neat (by simp) (by simp <;> omega)]); try simp [hj])
        | ((first | refine TstB.go (fun hw_ ew_ => ?_) (fun hw_ ew_ => ?_)) <;> first | (exfalso; first | omega | with_reducible exact hw_ (by assumption) | with_reducible exact absurd hw_ (by assumption)) | simp [ew_, hj])
        | fail)
    rw [List.drop_eq_getElem_cons hj, List.filter_cons] at k3
    have hwj := wrap_nat hj (by simp only [maxLen]; omega)
    have hcj := cli_at hj
    by_cases hk : l[j].client = r.client
    · rw [if_neg (by simp [hk])] at k3
      try simp [hj, hwj, hcj, hk]
      repeat' (first
        | ((first | refine Tst.go (fun hw_ ew_ => ?_) (fun hw_ ew_ => ?_)) <;> first | (exfalso; first | omega | with_reducible exact hw_ (by assumption) | with_reducible exact absurd hw_ (by assumption)) | (have nw_ := Nw.nw hw_; simp [ew_, nw_, hj, hwj, hcj, hk]) | simp [ew_, hj, hwj, hcj, hk])
        | (exact hA2 (j + 1, acc) _ (Wk.at _ rfl (by simp) (by simp)) ⟨hj, by simp only; omega, k3⟩ (by simp only; omega))
        | ((first | refine AW.draw (id := 3) Try.checked.mixed (fun _ => false) [] [] 14 (by kernel_rfl) ?_ | refine AW.draw (id := 8) Try.checked.mixed (fun _ => false) [] [] 8 (by kernel_rfl) ?_ | rw [if_pos (by first | omega | (simp only [maxLen]; omega))] | rw [if_neg (by first | omega | (simp only [maxLen]; omega))] | rw [frzOwn_neat (by simp) (by simp <;> omega)] | rw [fzOwn_neat (by simp) (by simp <;> omega)]); try simp [hj, hwj, hcj, hk])
        | ((first | refine TstB.go (fun hw_ ew_ => ?_) (fun hw_ ew_ => ?_)) <;> first | (exfalso; first | omega | with_reducible exact hw_ (by assumption) | with_reducible exact absurd hw_ (by assumption)) | simp [ew_, hj, hwj, hcj, hk])
        | fail)
    · rw [if_pos (by simp [hk])] at k3
      have k5 : (acc ++ [l[j]]).length = acc.length + 1 := by simp
      try simp [hj, hwj, hcj, hk]
      repeat' (first
        | ((first | refine Tst.go (fun hw_ ew_ => ?_) (fun hw_ ew_ => ?_)) <;> first | (exfalso; first | omega | with_reducible exact hw_ (by assumption) | with_reducible exact absurd hw_ (by assumption)) | (have nw_ := Nw.nw hw_; simp [ew_, nw_, hj, hwj, hcj, hk]) | simp [ew_, hj, hwj, hcj, hk])
        | (exact hA2 (j + 1, acc ++ [l[j]]) _ (Wk.cutAt _ rfl (by simp) (by simp) (by simp) (by simp)) ⟨hj, by simp only [k5]; omega, by simpa using k3⟩ (by simp only; omega))
        | ((first | refine AW.draw (id := 3) Try.checked.mixed (fun _ => false) [] [] 14 (by kernel_rfl) ?_ | refine AW.draw (id := 8) Try.checked.mixed (fun _ => false) [] [] 8 (by kernel_rfl) ?_ | rw [if_pos (by first | omega | (simp only [maxLen]; omega))] | rw [if_neg (by first | omega | (simp only [maxLen]; omega))] | rw [frzOwn_neat (by simp) (by simp <;> omega)] | rw [fzOwn_neat (by simp) (by simp <;> omega)]); try simp [hj, hwj, hcj, hk])
        | ((first | refine TstB.go (fun hw_ ew_ => ?_) (fun hw_ ew_ => ?_)) <;> first | (exfalso; first | omega | with_reducible exact hw_ (by assumption) | with_reducible exact absurd hw_ (by assumption)) | simp [ew_, hj, hwj, hcj, hk])
        | fail)
  rw [hd, List.takeWhile_cons_of_pos (by simpa using hp)] at g2
  rw [hd, List.dropWhile_cons_of_pos (by simpa using hp)] at g3
  have hwi := wrap_nat hi (by simp only [maxLen]; omega)
  have htk : l.take (i + 1) = l.take i ++ [l[i]] := by simp
  have hfm : (l.take (i + 1)).flatMap RowR.enc = (l.take i).flatMap RowR.enc ++ l[i].enc := by rw [htk, List.flatMap_append]; simp
  try simp [hi, hwi, hp, hc, hli]
  repeat' (first
    | ((first | refine Tst.go (fun hw_ ew_ => ?_) (fun hw_ ew_ => ?_)) <;> first | (exfalso; first | omega | with_reducible exact hw_ (by assumption) | with_reducible exact absurd hw_ (by assumption)) | (have nw_ := Nw.nw hw_; simp [ew_, nw_, hi, hwi, hp, hc, hli]) | simp [ew_, hi, hwi, hp, hc, hli])
    | (exact hA (i + 1) _ (Wk.cutAt _ rfl (by simp [hli, hfm]) (by simp [hli, hfm]) (by simp [hli, hfm]) (by simp [hli, hfm])) ⟨hi, by rw [htk, List.append_assoc]; exact g2, g3⟩ (by omega))
    | ((first | refine AW.draw (id := 3) Try.checked.mixed (fun _ => false) [] [] 14 (by kernel_rfl) ?_ | refine AW.draw (id := 8) Try.checked.mixed (fun _ => false) [] [] 8 (by kernel_rfl) ?_ | rw [if_pos (by first | omega | (simp only [maxLen]; omega))] | rw [if_neg (by first | omega | (simp only [maxLen]; omega))] | rw [frzOwn_neat (by simp) (by simp <;> omega)] | rw [fzOwn_neat (by simp) (by simp <;> omega)]); try simp [hi, hwi, hp, hc, hli])
    | ((first | refine TstB.go (fun hw_ ew_ => ?_) (fun hw_ ew_ => ?_)) <;> first | (exfalso; first | omega | with_reducible exact hw_ (by assumption) | with_reducible exact absurd hw_ (by assumption)) | simp [ew_, hi, hwi, hp, hc, hli])
    | fail)
end Go.Proofs.Ytpbjeabigckijaa
