/- Forgotten and decided, by the document. -/
import Derived.Test.YtpbjeabigckijaaTabH
set_option linter.unusedVariables false
set_option linter.unusedSimpArgs false
namespace Go.Proofs.Ytpbjeabigckijaa
open Go.Cx Tab
set_option maxHeartbeats 400000
set_option maxRecDepth 40000

theorem rforget_ok (l : List RowR) (c e n : Int) (R : RightT l) : PCall Try.prog 20 [encL RowR.enc l, I c, I e, I n] (.tup [encL RowR.enc (forgetS l c e n).1, I (forgetS l c e n).2]) := by
  have hl := R.len
  have h1 := why_ok l c e n R.rise
  by_cases hw : whyS l c e n = 0
  case neg =>
    have hs : forgetS l c e n = (l, whyS l c e n) := by simp [forgetS, hw]
    rw [hs]
    generalize whyS l c e n = y at *
    refine PCall.mk (fun _ => false) Try.func20 rfl rfl rfl (Ent.mk Try.func20 (by kernel_rfl) rfl) (by simp) (by simp) fun hfit => ?_
    simp [Try.f20]
    try simp [hw]
    repeat' (first
      | ((first | refine Tst.go (fun hw_ ew_ => ?_) (fun hw_ ew_ => ?_)) <;> first | (exfalso; first | omega | with_reducible exact hw_ (by assumption) | with_reducible exact absurd hw_ (by assumption)) | (have nw_ := Nw.nw hw_; simp [ew_, nw_, hw]) | simp [ew_, hw])
      | ((first | (refine Pc.go (h1) ?_ ?_; focus (first | rfl | (simp [hw]; done))) | refine AW.draw (id := 11) Try.checked.mixed (fun _ => false) [] [] 9 (by kernel_rfl) ?_ | refine AW.draw (id := 12) Try.checked.mixed (fun _ => false) [] [] 10 (by kernel_rfl) ?_ | rw [if_pos (by first | omega | (simp only [maxLen]; omega))] | rw [if_neg (by first | omega | (simp only [maxLen]; omega))] | rw [frzOwn_neat (by simp) (by simp <;> omega)] | rw [fzOwn_neat (by simp) (by simp <;> omega)]); try simp [hw])
      | ((first | refine TstB.go (fun hw_ ew_ => ?_) (fun hw_ ew_ => ?_)) <;> first | (exfalso; first | omega | with_reducible exact hw_ (by assumption) | with_reducible exact absurd hw_ (by assumption)) | simp [ew_, hw])
      | fail)
  rw [forget_zero hw]
  rw [hw] at h1
  obtain ⟨hb, r, hf, he, hr⟩ := why_zero hw
  have hok := R.ok r (findS_mem _ hf).1
  have hkc := (findS_mem _ hf).2
  have hp := place_ok l c
  obtain ⟨j, hj, e1, e2⟩ := place_some14 R.rise hf
  rw [e1] at hp
  rw [hr]
  have hlen := hok.len
  have hput := rput14_ok l (forR r n) R.rise (by omega)
  generalize putS RowR.client l (forR r n) = p at *
  unfold forR at hput
  rw [hkc, he] at hput
  simp only [RowR.enc] at hput
  obtain ⟨M, hM⟩ : ∃ M, M = max r.done n := ⟨_, rfl⟩
  rw [← hM] at hput
  subst e2
  refine PCall.mkW Try.func20 rfl rfl rfl (Ent.mk Try.func20 (by kernel_rfl) rfl) (by simp) (by simp) fun hfit => ?_
  by_cases hd : l[j].done < n
  · have hMn : n = M := by omega
    try simp [hj, hd, RowR.enc]
    repeat' (first
      | ((first | refine Tst.go (fun hw_ ew_ => ?_) (fun hw_ ew_ => ?_)) <;> first | (exfalso; first | omega | with_reducible exact hw_ (by assumption) | with_reducible exact absurd hw_ (by assumption)) | (have nw_ := Nw.nw hw_; simp [ew_, nw_, hj, hd, RowR.enc]) | simp [ew_, hj, hd, RowR.enc])
      | (refine AW.seqA (lit := fun _ => false) ?_; simp [hj, hd, RowR.enc])
      | ((first | (refine Pc.go (h1) ?_ ?_; focus (first | rfl | (simp [hj, hd, RowR.enc]; done))) | (refine Pc.go (hp) ?_ ?_; focus (first | rfl | (simp [hj, hd, RowR.enc]; done))) | refine AW.draw (id := 11) Try.checked.mixed (fun _ => false) [] [] 9 (by kernel_rfl) ?_ | refine AW.draw (id := 12) Try.checked.mixed (fun _ => false) [] [] 10 (by kernel_rfl) ?_ | rw [if_pos (by first | omega | (simp only [maxLen]; omega))] | rw [if_neg (by first | omega | (simp only [maxLen]; omega))] | rw [frzOwn_neat (by simp) (by simp <;> omega)] | rw [fzOwn_neat (by simp) (by simp <;> omega)]); try simp [hj, hd, RowR.enc])
      | ((first | refine TstB.go (fun hw_ ew_ => ?_) (fun hw_ ew_ => ?_)) <;> first | (exfalso; first | omega | with_reducible exact hw_ (by assumption) | with_reducible exact absurd hw_ (by assumption)) | simp [ew_, hj, hd, RowR.enc])
      | fail)
    refine AW.loopG (lit := fun _ => false) (fun x : Nat × List DecisionR => ⟨69, pat [(0, encL RowR.enc l), (11, .ptr 0 0 0), (12, .ptr 1 0 0), (13, I x.1)], [.cells 0 [I l[j].client, I l[j].epoch, I l[j].done, encL DecisionR.enc l[j].l], .cells 0 [I c, I e, I M, .own 2 x.2.length 0 x.2.length 2], .cells x.2.length (x.2.flatMap DecisionR.enc)]⟩) (fun x => l[j].l.length - x.1)
      (fun x => x.1 ≤ l[j].l.length ∧ x.2.length ≤ x.1 ∧ x.2 ++ (l[j].l.drop x.1).filter (fun x => !decide (x.seq ≤ M)) = l[j].l.filter (fun x => !decide (x.seq ≤ M))) (0, []) ?_ ?_ ?_
    · exact Wk.trans (Wk.ownNilCell 1 0 3 2 rfl rfl) (Wk.at _ rfl (by simp [hMn]) (by simp [hMn]))
    · exact ⟨by simp, by simp, by simp⟩
    rintro ⟨i, acc⟩ ⟨g1, g2, g3⟩ A hA
    simp only at g1 g2 g3 hA
    by_cases hi : i < l[j].l.length
    case neg =>
      rw [List.drop_eq_nil_of_le (by omega), List.filter_nil, List.append_nil] at g3
      rw [← g3] at hput
      try simp [hi]
      repeat' (first
        | ((first | refine Tst.go (fun hw_ ew_ => ?_) (fun hw_ ew_ => ?_)) <;> first | (exfalso; first | omega | with_reducible exact hw_ (by assumption) | with_reducible exact absurd hw_ (by assumption)) | (have nw_ := Nw.nw hw_; simp [ew_, nw_, hi]) | simp [ew_, hi])
        | ((first | refine AW.draw (id := 11) Try.checked.mixed (fun _ => false) [] [] 9 (by kernel_rfl) ?_ | refine AW.draw (id := 12) Try.checked.mixed (fun _ => false) [] [] 10 (by kernel_rfl) ?_ | rw [if_pos (by first | omega | (simp only [maxLen]; omega))] | rw [if_neg (by first | omega | (simp only [maxLen]; omega))] | rw [frzOwn_neat (by simp) (by simp <;> omega)] | rw [fzOwn_neat (by simp) (by simp <;> omega)]); try simp [hi])
        | ((first | refine TstB.go (fun hw_ ew_ => ?_) (fun hw_ ew_ => ?_)) <;> first | (exfalso; first | omega | with_reducible exact hw_ (by assumption) | with_reducible exact absurd hw_ (by assumption)) | simp [ew_, hi])
        | fail)
      refine AW.wkZ (WkZ.freeze [1, 2] 12 (.fp [I c, I e, I M, encL DecisionR.enc acc]) (by simp; rw [fzOwn_neat (by simp) (by simp)]; simp)) ?_
      refine AX_ok (lit := fun _ => false) _ _ _ ?_
      simp
      try simp
      repeat' (first
        | ((first | refine Tst.go (fun hw_ ew_ => ?_) (fun hw_ ew_ => ?_)) <;> first | (exfalso; first | omega | with_reducible exact hw_ (by assumption) | with_reducible exact absurd hw_ (by assumption)) | (have nw_ := Nw.nw hw_; simp [ew_, nw_]) | simp [ew_])
        | ((first | (refine Pc.go (hput) ?_ ?_; focus (first | rfl | (simp; done))) | refine AW.draw (id := 11) Try.checked.mixed (fun _ => false) [] [] 9 (by kernel_rfl) ?_ | refine AW.draw (id := 12) Try.checked.mixed (fun _ => false) [] [] 10 (by kernel_rfl) ?_ | rw [if_pos (by first | omega | (simp only [maxLen]; omega))] | rw [if_neg (by first | omega | (simp only [maxLen]; omega))] | rw [frzOwn_neat (by simp) (by simp <;> omega)] | rw [fzOwn_neat (by simp) (by simp <;> omega)]); try simp)
        | ((first | refine TstB.go (fun hw_ ew_ => ?_) (fun hw_ ew_ => ?_)) <;> first | (exfalso; first | omega | with_reducible exact hw_ (by assumption) | with_reducible exact absurd hw_ (by assumption)) | simp [ew_])
        | fail)
    rw [List.drop_eq_getElem_cons hi, List.filter_cons] at g3
    have hwi := wrap_nat hi (by simp only [maxLen]; omega)
    by_cases hk : l[j].l[i].seq ≤ M
    · rw [if_neg (by simp [hk])] at g3
      try simp [hi, hwi, hk, DecisionR.enc]
      repeat' (first
        | ((first | refine Tst.go (fun hw_ ew_ => ?_) (fun hw_ ew_ => ?_)) <;> first | (exfalso; first | omega | with_reducible exact hw_ (by assumption) | with_reducible exact absurd hw_ (by assumption)) | (have nw_ := Nw.nw hw_; simp [ew_, nw_, hi, hwi, hk, DecisionR.enc]) | simp [ew_, hi, hwi, hk, DecisionR.enc])
        | (exact hA (i + 1, acc) _ (Wk.at _ rfl (by simp) (by simp)) ⟨hi, by simp only; omega, g3⟩ (by simp only; omega))
        | ((first | refine AW.draw (id := 11) Try.checked.mixed (fun _ => false) [] [] 9 (by kernel_rfl) ?_ | refine AW.draw (id := 12) Try.checked.mixed (fun _ => false) [] [] 10 (by kernel_rfl) ?_ | rw [if_pos (by first | omega | (simp only [maxLen]; omega))] | rw [if_neg (by first | omega | (simp only [maxLen]; omega))] | rw [frzOwn_neat (by simp) (by simp <;> omega)] | rw [fzOwn_neat (by simp) (by simp <;> omega)]); try simp [hi, hwi, hk, DecisionR.enc])
        | ((first | refine TstB.go (fun hw_ ew_ => ?_) (fun hw_ ew_ => ?_)) <;> first | (exfalso; first | omega | with_reducible exact hw_ (by assumption) | with_reducible exact absurd hw_ (by assumption)) | simp [ew_, hi, hwi, hk, DecisionR.enc])
        | fail)
    · rw [if_pos (by simp [hk])] at g3
      have g5 : (acc ++ [l[j].l[i]]).length = acc.length + 1 := by simp
      try simp [hi, hwi, hk]
      repeat' (first
        | ((first | refine Tst.go (fun hw_ ew_ => ?_) (fun hw_ ew_ => ?_)) <;> first | (exfalso; first | omega | with_reducible exact hw_ (by assumption) | with_reducible exact absurd hw_ (by assumption)) | (have nw_ := Nw.nw hw_; simp [ew_, nw_, hi, hwi, hk]) | simp [ew_, hi, hwi, hk])
        | (exact hA (i + 1, acc ++ [l[j].l[i]]) _ (Wk.cutAt _ rfl (by simp) (by simp) (by simp) (by simp)) ⟨hi, by simp only [g5]; omega, by simpa using g3⟩ (by simp only; omega))
        | ((first | refine AW.draw (id := 11) Try.checked.mixed (fun _ => false) [] [] 9 (by kernel_rfl) ?_ | refine AW.draw (id := 12) Try.checked.mixed (fun _ => false) [] [] 10 (by kernel_rfl) ?_ | rw [if_pos (by first | omega | (simp only [maxLen]; omega))] | rw [if_neg (by first | omega | (simp only [maxLen]; omega))] | rw [frzOwn_neat (by simp) (by simp <;> omega)] | rw [fzOwn_neat (by simp) (by simp <;> omega)]); try simp [hi, hwi, hk])
        | ((first | refine TstB.go (fun hw_ ew_ => ?_) (fun hw_ ew_ => ?_)) <;> first | (exfalso; first | omega | with_reducible exact hw_ (by assumption) | with_reducible exact absurd hw_ (by assumption)) | simp [ew_, hi, hwi, hk])
        | fail)
  · have hMn : l[j].done = M := by omega
    try simp [hj, hd, RowR.enc]
    repeat' (first
      | ((first | refine Tst.go (fun hw_ ew_ => ?_) (fun hw_ ew_ => ?_)) <;> first | (exfalso; first | omega | with_reducible exact hw_ (by assumption) | with_reducible exact absurd hw_ (by assumption)) | (have nw_ := Nw.nw hw_; simp [ew_, nw_, hj, hd, RowR.enc]) | simp [ew_, hj, hd, RowR.enc])
      | (refine AW.seqA (lit := fun _ => false) ?_; simp [hj, hd, RowR.enc])
      | ((first | (refine Pc.go (h1) ?_ ?_; focus (first | rfl | (simp [hj, hd, RowR.enc]; done))) | (refine Pc.go (hp) ?_ ?_; focus (first | rfl | (simp [hj, hd, RowR.enc]; done))) | refine AW.draw (id := 11) Try.checked.mixed (fun _ => false) [] [] 9 (by kernel_rfl) ?_ | refine AW.draw (id := 12) Try.checked.mixed (fun _ => false) [] [] 10 (by kernel_rfl) ?_ | rw [if_pos (by first | omega | (simp only [maxLen]; omega))] | rw [if_neg (by first | omega | (simp only [maxLen]; omega))] | rw [frzOwn_neat (by simp) (by simp <;> omega)] | rw [fzOwn_neat (by simp) (by simp <;> omega)]); try simp [hj, hd, RowR.enc])
      | ((first | refine TstB.go (fun hw_ ew_ => ?_) (fun hw_ ew_ => ?_)) <;> first | (exfalso; first | omega | with_reducible exact hw_ (by assumption) | with_reducible exact absurd hw_ (by assumption)) | simp [ew_, hj, hd, RowR.enc])
      | fail)
    refine AW.loopG (lit := fun _ => false) (fun x : Nat × List DecisionR => ⟨69, pat [(0, encL RowR.enc l), (11, .ptr 0 0 0), (12, .ptr 1 0 0), (13, I x.1)], [.cells 0 [I l[j].client, I l[j].epoch, I l[j].done, encL DecisionR.enc l[j].l], .cells 0 [I c, I e, I M, .own 2 x.2.length 0 x.2.length 2], .cells x.2.length (x.2.flatMap DecisionR.enc)]⟩) (fun x => l[j].l.length - x.1)
      (fun x => x.1 ≤ l[j].l.length ∧ x.2.length ≤ x.1 ∧ x.2 ++ (l[j].l.drop x.1).filter (fun x => !decide (x.seq ≤ M)) = l[j].l.filter (fun x => !decide (x.seq ≤ M))) (0, []) ?_ ?_ ?_
    · exact Wk.trans (Wk.ownNilCell 1 0 3 2 rfl rfl) (Wk.at _ rfl (by simp [hMn]) (by simp [hMn]))
    · exact ⟨by simp, by simp, by simp⟩
    rintro ⟨i, acc⟩ ⟨g1, g2, g3⟩ A hA
    simp only at g1 g2 g3 hA
    by_cases hi : i < l[j].l.length
    case neg =>
      rw [List.drop_eq_nil_of_le (by omega), List.filter_nil, List.append_nil] at g3
      rw [← g3] at hput
      try simp [hi]
      repeat' (first
        | ((first | refine Tst.go (fun hw_ ew_ => ?_) (fun hw_ ew_ => ?_)) <;> first | (exfalso; first | omega | with_reducible exact hw_ (by assumption) | with_reducible exact absurd hw_ (by assumption)) | (have nw_ := Nw.nw hw_; simp [ew_, nw_, hi]) | simp [ew_, hi])
        | ((first | refine AW.draw (id := 11) Try.checked.mixed (fun _ => false) [] [] 9 (by kernel_rfl) ?_ | refine AW.draw (id := 12) Try.checked.mixed (fun _ => false) [] [] 10 (by kernel_rfl) ?_ | rw [if_pos (by first | omega | (simp only [maxLen]; omega))] | rw [if_neg (by first | omega | (simp only [maxLen]; omega))] | rw [frzOwn_neat (by simp) (by simp <;> omega)] | rw [fzOwn_neat (by simp) (by simp <;> omega)]); try simp [hi])
        | ((first | refine TstB.go (fun hw_ ew_ => ?_) (fun hw_ ew_ => ?_)) <;> first | (exfalso; first | omega | with_reducible exact hw_ (by assumption) | with_reducible exact absurd hw_ (by assumption)) | simp [ew_, hi])
        | fail)
      refine AW.wkZ (WkZ.freeze [1, 2] 12 (.fp [I c, I e, I M, encL DecisionR.enc acc]) (by simp; rw [fzOwn_neat (by simp) (by simp)]; simp)) ?_
      refine AX_ok (lit := fun _ => false) _ _ _ ?_
      simp
      try simp
      repeat' (first
        | ((first | refine Tst.go (fun hw_ ew_ => ?_) (fun hw_ ew_ => ?_)) <;> first | (exfalso; first | omega | with_reducible exact hw_ (by assumption) | with_reducible exact absurd hw_ (by assumption)) | (have nw_ := Nw.nw hw_; simp [ew_, nw_]) | simp [ew_])
        | ((first | (refine Pc.go (hput) ?_ ?_; focus (first | rfl | (simp; done))) | refine AW.draw (id := 11) Try.checked.mixed (fun _ => false) [] [] 9 (by kernel_rfl) ?_ | refine AW.draw (id := 12) Try.checked.mixed (fun _ => false) [] [] 10 (by kernel_rfl) ?_ | rw [if_pos (by first | omega | (simp only [maxLen]; omega))] | rw [if_neg (by first | omega | (simp only [maxLen]; omega))] | rw [frzOwn_neat (by simp) (by simp <;> omega)] | rw [fzOwn_neat (by simp) (by simp <;> omega)]); try simp)
        | ((first | refine TstB.go (fun hw_ ew_ => ?_) (fun hw_ ew_ => ?_)) <;> first | (exfalso; first | omega | with_reducible exact hw_ (by assumption) | with_reducible exact absurd hw_ (by assumption)) | simp [ew_])
        | fail)
    rw [List.drop_eq_getElem_cons hi, List.filter_cons] at g3
    have hwi := wrap_nat hi (by simp only [maxLen]; omega)
    by_cases hk : l[j].l[i].seq ≤ M
    · rw [if_neg (by simp [hk])] at g3
      try simp [hi, hwi, hk, DecisionR.enc]
      repeat' (first
        | ((first | refine Tst.go (fun hw_ ew_ => ?_) (fun hw_ ew_ => ?_)) <;> first | (exfalso; first | omega | with_reducible exact hw_ (by assumption) | with_reducible exact absurd hw_ (by assumption)) | (have nw_ := Nw.nw hw_; simp [ew_, nw_, hi, hwi, hk, DecisionR.enc]) | simp [ew_, hi, hwi, hk, DecisionR.enc])
        | (exact hA (i + 1, acc) _ (Wk.at _ rfl (by simp) (by simp)) ⟨hi, by simp only; omega, g3⟩ (by simp only; omega))
        | ((first | refine AW.draw (id := 11) Try.checked.mixed (fun _ => false) [] [] 9 (by kernel_rfl) ?_ | refine AW.draw (id := 12) Try.checked.mixed (fun _ => false) [] [] 10 (by kernel_rfl) ?_ | rw [if_pos (by first | omega | (simp only [maxLen]; omega))] | rw [if_neg (by first | omega | (simp only [maxLen]; omega))] | rw [frzOwn_neat (by simp) (by simp <;> omega)] | rw [fzOwn_neat (by simp) (by simp <;> omega)]); try simp [hi, hwi, hk, DecisionR.enc])
        | ((first | refine TstB.go (fun hw_ ew_ => ?_) (fun hw_ ew_ => ?_)) <;> first | (exfalso; first | omega | with_reducible exact hw_ (by assumption) | with_reducible exact absurd hw_ (by assumption)) | simp [ew_, hi, hwi, hk, DecisionR.enc])
        | fail)
    · rw [if_pos (by simp [hk])] at g3
      have g5 : (acc ++ [l[j].l[i]]).length = acc.length + 1 := by simp
      try simp [hi, hwi, hk]
      repeat' (first
        | ((first | refine Tst.go (fun hw_ ew_ => ?_) (fun hw_ ew_ => ?_)) <;> first | (exfalso; first | omega | with_reducible exact hw_ (by assumption) | with_reducible exact absurd hw_ (by assumption)) | (have nw_ := Nw.nw hw_; simp [ew_, nw_, hi, hwi, hk]) | simp [ew_, hi, hwi, hk])
        | (exact hA (i + 1, acc ++ [l[j].l[i]]) _ (Wk.cutAt _ rfl (by simp) (by simp) (by simp) (by simp)) ⟨hi, by simp only [g5]; omega, by simpa using g3⟩ (by simp only; omega))
        | ((first | refine AW.draw (id := 11) Try.checked.mixed (fun _ => false) [] [] 9 (by kernel_rfl) ?_ | refine AW.draw (id := 12) Try.checked.mixed (fun _ => false) [] [] 10 (by kernel_rfl) ?_ | rw [if_pos (by first | omega | (simp only [maxLen]; omega))] | rw [if_neg (by first | omega | (simp only [maxLen]; omega))] | rw [frzOwn_neat (by simp) (by simp <;> omega)] | rw [fzOwn_neat (by simp) (by simp <;> omega)]); try simp [hi, hwi, hk])
        | ((first | refine TstB.go (fun hw_ ew_ => ?_) (fun hw_ ew_ => ?_)) <;> first | (exfalso; first | omega | with_reducible exact hw_ (by assumption) | with_reducible exact absurd hw_ (by assumption)) | simp [ew_, hi, hwi, hk])
        | fail)
end Go.Proofs.Ytpbjeabigckijaa
