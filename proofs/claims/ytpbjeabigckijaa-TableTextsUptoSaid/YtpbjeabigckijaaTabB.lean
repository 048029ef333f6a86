/- What was decided is asked, decided, forgotten. -/
import Derived.Test.YtpbjeabigckijaaTabA
set_option linter.unusedVariables false
set_option linter.unusedSimpArgs false
namespace Go.Proofs.Ytpbjeabigckijaa
open Go.Cx Tab
set_option maxHeartbeats 400000
set_option maxRecDepth 40000

theorem row_bad (l : List RowR) (c e n : Int) (h : badS c e n = true) : PCall Try.prog 26 [encL RowR.enc l, I c, I e, I n] (.tup [.agg RowR.zero.enc, I 0, I 1]) := by
  simp only [badS, Bool.or_eq_true, decide_eq_true_eq] at h
  refine PCall.mk (fun _ => false) Try.func26 rfl rfl rfl (Ent.mk Try.func26 (by kernel_rfl) rfl) (by simp) (by simp) fun hfit => ?_
  simp [Try.f26]
  by_cases h1 : c < 0
  · try simp [h1, RowR.enc, RowR.zero]
    repeat' (first
      | ((first | refine Tst.go (fun hw_ ew_ => ?_) (fun hw_ ew_ => ?_)) <;> first | (exfalso; first | omega | with_reducible exact hw_ (by assumption) | with_reducible exact absurd hw_ (by assumption)) | (have nw_ := Nw.nw hw_; simp [ew_, nw_, h1, RowR.enc, RowR.zero]) | simp [ew_, h1, RowR.enc, RowR.zero])
      | ((first | rw [if_pos (by first | omega | (simp only [maxLen]; omega))] | rw [if_neg (by first | omega | (simp only [maxLen]; omega))] | rw [frzOwn_neat (by simp) (by simp <;> omega)] | rw [fzOwn_neat (by simp) (by simp <;> omega)]); try simp [h1, RowR.enc, RowR.zero])
      | ((first | refine TstB.go (fun hw_ ew_ => ?_) (fun hw_ ew_ => ?_)) <;> first | (exfalso; first | omega | with_reducible exact hw_ (by assumption) | with_reducible exact absurd hw_ (by assumption)) | simp [ew_, h1, RowR.enc, RowR.zero])
      | fail)
  by_cases h2 : e < 1
  · try simp [h1, h2, RowR.enc, RowR.zero]
    repeat' (first
      | ((first | refine Tst.go (fun hw_ ew_ => ?_) (fun hw_ ew_ => ?_)) <;> first | (exfalso; first | omega | with_reducible exact hw_ (by assumption) | with_reducible exact absurd hw_ (by assumption)) | (have nw_ := Nw.nw hw_; simp [ew_, nw_, h1, h2, RowR.enc, RowR.zero]) | simp [ew_, h1, h2, RowR.enc, RowR.zero])
      | ((first | rw [if_pos (by first | omega | (simp only [maxLen]; omega))] | rw [if_neg (by first | omega | (simp only [maxLen]; omega))] | rw [frzOwn_neat (by simp) (by simp <;> omega)] | rw [fzOwn_neat (by simp) (by simp <;> omega)]); try simp [h1, h2, RowR.enc, RowR.zero])
      | ((first | refine TstB.go (fun hw_ ew_ => ?_) (fun hw_ ew_ => ?_)) <;> first | (exfalso; first | omega | with_reducible exact hw_ (by assumption) | with_reducible exact absurd hw_ (by assumption)) | simp [ew_, h1, h2, RowR.enc, RowR.zero])
      | fail)
  have h3 : n < 1 := by omega
  try simp [h1, h2, h3, RowR.enc, RowR.zero]
  repeat' (first
    | ((first | refine Tst.go (fun hw_ ew_ => ?_) (fun hw_ ew_ => ?_)) <;> first | (exfalso; first | omega | with_reducible exact hw_ (by assumption) | with_reducible exact absurd hw_ (by assumption)) | (have nw_ := Nw.nw hw_; simp [ew_, nw_, h1, h2, h3, RowR.enc, RowR.zero]) | simp [ew_, h1, h2, h3, RowR.enc, RowR.zero])
    | ((first | rw [if_pos (by first | omega | (simp only [maxLen]; omega))] | rw [if_neg (by first | omega | (simp only [maxLen]; omega))] | rw [frzOwn_neat (by simp) (by simp <;> omega)] | rw [fzOwn_neat (by simp) (by simp <;> omega)]); try simp [h1, h2, h3, RowR.enc, RowR.zero])
    | ((first | refine TstB.go (fun hw_ ew_ => ?_) (fun hw_ ew_ => ?_)) <;> first | (exfalso; first | omega | with_reducible exact hw_ (by assumption) | with_reducible exact absurd hw_ (by assumption)) | simp [ew_, h1, h2, h3, RowR.enc, RowR.zero])
    | fail)
theorem row_ok (l : List RowR) (c e n : Int) (h : badS c e n = false) (hr : rises RowR.client l = true) (hl : l.length ≤ 1000000) : PCall Try.prog 26 [encL RowR.enc l, I c, I e, I n] (.tup [.agg (rowS l c e n).enc, I (placeS RowR.client l c), I (whyS l c e n)]) := by
  obtain ⟨h1, h2, h3⟩ := badS_false h
  have hf := findR_ok l c hr hl
  simp only [rowS, whyS, h]
  cases hx : findS RowR.client l c with
  | none =>
    rw [hx] at hf
    simp only [Option.isSome_none] at hf
    refine PCall.mk (fun _ => false) Try.func26 rfl rfl rfl (Ent.mk Try.func26 (by kernel_rfl) rfl) (by simp) (by simp) fun hfit => ?_
    simp [Try.f26]
    try simp [h1, h2, h3, RowR.enc]
    repeat' (first
      | ((first | refine Tst.go (fun hw_ ew_ => ?_) (fun hw_ ew_ => ?_)) <;> first | (exfalso; first | omega | with_reducible exact hw_ (by assumption) | with_reducible exact absurd hw_ (by assumption)) | (have nw_ := Nw.nw hw_; simp [ew_, nw_, h1, h2, h3, RowR.enc]) | simp [ew_, h1, h2, h3, RowR.enc])
      | ((first | (refine Pc.go (hf) ?_ ?_; focus (first | rfl | (simp [h1, h2, h3, RowR.enc]; done))) | rw [if_pos (by first | omega | (simp only [maxLen]; omega))] | rw [if_neg (by first | omega | (simp only [maxLen]; omega))] | rw [frzOwn_neat (by simp) (by simp <;> omega)] | rw [fzOwn_neat (by simp) (by simp <;> omega)]); try simp [h1, h2, h3, RowR.enc])
      | ((first | refine TstB.go (fun hw_ ew_ => ?_) (fun hw_ ew_ => ?_)) <;> first | (exfalso; first | omega | with_reducible exact hw_ (by assumption) | with_reducible exact absurd hw_ (by assumption)) | simp [ew_, h1, h2, h3, RowR.enc])
      | fail)
  | some r =>
    rw [hx] at hf
    simp only [Option.isSome_some] at hf
    obtain ⟨hp, hpx⟩ := find_place RowR.client hr hx
    generalize placeS RowR.client l c = q at *
    subst hpx
    refine PCall.mk (fun _ => false) Try.func26 rfl rfl rfl (Ent.mk Try.func26 (by kernel_rfl) rfl) (by simp) (by simp) fun hfit => ?_
    simp [Try.f26]
    by_cases h4 : l[q].epoch < e
    · have h5 : ¬ l[q].epoch = e := by omega
      try simp [h1, h2, h3, h4, h5, hp, RowR.enc]
      repeat' (first
        | ((first | refine Tst.go (fun hw_ ew_ => ?_) (fun hw_ ew_ => ?_)) <;> first | (exfalso; first | omega | with_reducible exact hw_ (by assumption) | with_reducible exact absurd hw_ (by assumption)) | (have nw_ := Nw.nw hw_; simp [ew_, nw_, h1, h2, h3, h4, h5, hp, RowR.enc]) | simp [ew_, h1, h2, h3, h4, h5, hp, RowR.enc])
        | ((first | (refine Pc.go (hf) ?_ ?_; focus (first | rfl | (simp [h1, h2, h3, h4, h5, hp, RowR.enc]; done))) | rw [if_pos (by first | omega | (simp only [maxLen]; omega))] | rw [if_neg (by first | omega | (simp only [maxLen]; omega))] | rw [frzOwn_neat (by simp) (by simp <;> omega)] | rw [fzOwn_neat (by simp) (by simp <;> omega)]); try simp [h1, h2, h3, h4, h5, hp, RowR.enc])
        | ((first | refine TstB.go (fun hw_ ew_ => ?_) (fun hw_ ew_ => ?_)) <;> first | (exfalso; first | omega | with_reducible exact hw_ (by assumption) | with_reducible exact absurd hw_ (by assumption)) | simp [ew_, h1, h2, h3, h4, h5, hp, RowR.enc])
        | fail)
    by_cases h5 : e < l[q].epoch
    · have h6 : ¬ l[q].epoch = e := by omega
      try simp [h1, h2, h3, h4, h5, h6, hp, RowR.enc]
      repeat' (first
        | ((first | refine Tst.go (fun hw_ ew_ => ?_) (fun hw_ ew_ => ?_)) <;> first | (exfalso; first | omega | with_reducible exact hw_ (by assumption) | with_reducible exact absurd hw_ (by assumption)) | (have nw_ := Nw.nw hw_; simp [ew_, nw_, h1, h2, h3, h4, h5, h6, hp, RowR.enc]) | simp [ew_, h1, h2, h3, h4, h5, h6, hp, RowR.enc])
        | ((first | (refine Pc.go (hf) ?_ ?_; focus (first | rfl | (simp [h1, h2, h3, h4, h5, h6, hp, RowR.enc]; done))) | rw [if_pos (by first | omega | (simp only [maxLen]; omega))] | rw [if_neg (by first | omega | (simp only [maxLen]; omega))] | rw [frzOwn_neat (by simp) (by simp <;> omega)] | rw [fzOwn_neat (by simp) (by simp <;> omega)]); try simp [h1, h2, h3, h4, h5, h6, hp, RowR.enc])
        | ((first | refine TstB.go (fun hw_ ew_ => ?_) (fun hw_ ew_ => ?_)) <;> first | (exfalso; first | omega | with_reducible exact hw_ (by assumption) | with_reducible exact absurd hw_ (by assumption)) | simp [ew_, h1, h2, h3, h4, h5, h6, hp, RowR.enc])
        | fail)
    have h6 : l[q].epoch = e := by omega
    have h7 : ¬ e < e := by omega
    try simp [h1, h2, h3, h6, h7, hp, RowR.enc]
    repeat' (first
      | ((first | refine Tst.go (fun hw_ ew_ => ?_) (fun hw_ ew_ => ?_)) <;> first | (exfalso; first | omega | with_reducible exact hw_ (by assumption) | with_reducible exact absurd hw_ (by assumption)) | (have nw_ := Nw.nw hw_; simp [ew_, nw_, h1, h2, h3, h6, h7, hp, RowR.enc]) | simp [ew_, h1, h2, h3, h6, h7, hp, RowR.enc])
      | ((first | (refine Pc.go (hf) ?_ ?_; focus (first | rfl | (simp [h1, h2, h3, h6, h7, hp, RowR.enc]; done))) | rw [if_pos (by first | omega | (simp only [maxLen]; omega))] | rw [if_neg (by first | omega | (simp only [maxLen]; omega))] | rw [frzOwn_neat (by simp) (by simp <;> omega)] | rw [fzOwn_neat (by simp) (by simp <;> omega)]); try simp [h1, h2, h3, h6, h7, hp, RowR.enc])
      | ((first | refine TstB.go (fun hw_ ew_ => ?_) (fun hw_ ew_ => ?_)) <;> first | (exfalso; first | omega | with_reducible exact hw_ (by assumption) | with_reducible exact absurd hw_ (by assumption)) | simp [ew_, h1, h2, h3, h6, h7, hp, RowR.enc])
      | fail)
theorem rowS_rise {l : List RowR} (R : RightT l) (c e n : Int) : rises DecisionR.seq (rowS l c e n).l = true ∧ (rowS l c e n).l.length ≤ 256 := by
  unfold rowS
  split
  · exact ⟨rfl, by simp [RowR.zero]⟩
  · split
    · exact ⟨rfl, by simp⟩
    · rename_i r hr
      split
      · have := R.ok r (findS_mem _ hr).1
        exact ⟨this.rise, this.len⟩
      · exact ⟨rfl, by simp⟩
theorem ask_ok (l : List RowR) (c e n : Int) (R : RightT l) : PCall Try.prog 15 [encL RowR.enc l, I c, I e, I n] (.tup [B (askS l c e n).1, I (askS l c e n).2]) := by
  have hl := R.len
  cases hb : badS c e n with
  | true =>
    have h1 := row_bad l c e n hb
    have hw : whyS l c e n = 1 := by simp [whyS, hb]
    have hs : askS l c e n = (false, 1) := by simp [askS, hw]
    refine PCall.mk (fun _ => false) Try.func15 rfl rfl rfl (Ent.mk Try.func15 (by kernel_rfl) rfl) (by simp) (by simp) fun hfit => ?_
    simp [Try.f15, hs]
    try simp [RowR.zero, RowR.enc]
    repeat' (first
      | ((first | refine Tst.go (fun hw_ ew_ => ?_) (fun hw_ ew_ => ?_)) <;> first | (exfalso; first | omega | with_reducible exact hw_ (by assumption) | with_reducible exact absurd hw_ (by assumption)) | (have nw_ := Nw.nw hw_; simp [ew_, nw_, RowR.zero, RowR.enc]) | simp [ew_, RowR.zero, RowR.enc])
      | ((first | (refine Pc.go (h1) ?_ ?_; focus (first | rfl | (simp [RowR.zero, RowR.enc]; done))) | rw [if_pos (by first | omega | (simp only [maxLen]; omega))] | rw [if_neg (by first | omega | (simp only [maxLen]; omega))] | rw [frzOwn_neat (by simp) (by simp <;> omega)] | rw [fzOwn_neat (by simp) (by simp <;> omega)]); try simp [RowR.zero, RowR.enc])
      | ((first | refine TstB.go (fun hw_ ew_ => ?_) (fun hw_ ew_ => ?_)) <;> first | (exfalso; first | omega | with_reducible exact hw_ (by assumption) | with_reducible exact absurd hw_ (by assumption)) | simp [ew_, RowR.zero, RowR.enc])
      | fail)
  | false =>
    have h1 := row_ok l c e n hb R.rise (by omega)
    obtain ⟨r1, r2⟩ := rowS_rise R c e n
    generalize hrw : rowS l c e n = r at *
    generalize hwy : whyS l c e n = y at *
    generalize placeS RowR.client l c = q at *
    by_cases h2 : y = 0
    case neg =>
      have hs : askS l c e n = (false, y) := by simp [askS, hwy, h2]
      refine PCall.mk (fun _ => false) Try.func15 rfl rfl rfl (Ent.mk Try.func15 (by kernel_rfl) rfl) (by simp) (by simp) fun hfit => ?_
      simp [Try.f15, hs]
      try simp [h2, RowR.enc]
      repeat' (first
        | ((first | refine Tst.go (fun hw_ ew_ => ?_) (fun hw_ ew_ => ?_)) <;> first | (exfalso; first | omega | with_reducible exact hw_ (by assumption) | with_reducible exact absurd hw_ (by assumption)) | (have nw_ := Nw.nw hw_; simp [ew_, nw_, h2, RowR.enc]) | simp [ew_, h2, RowR.enc])
        | ((first | (refine Pc.go (h1) ?_ ?_; focus (first | rfl | (simp [h2, RowR.enc]; done))) | rw [if_pos (by first | omega | (simp only [maxLen]; omega))] | rw [if_neg (by first | omega | (simp only [maxLen]; omega))] | rw [frzOwn_neat (by simp) (by simp <;> omega)] | rw [fzOwn_neat (by simp) (by simp <;> omega)]); try simp [h2, RowR.enc])
        | ((first | refine TstB.go (fun hw_ ew_ => ?_) (fun hw_ ew_ => ?_)) <;> first | (exfalso; first | omega | with_reducible exact hw_ (by assumption) | with_reducible exact absurd hw_ (by assumption)) | simp [ew_, h2, RowR.enc])
        | fail)
    by_cases h3 : n ≤ r.done
    · have hs : askS l c e n = (false, 18) := by simp [askS, hwy, h2, hrw, h3]
      refine PCall.mk (fun _ => false) Try.func15 rfl rfl rfl (Ent.mk Try.func15 (by kernel_rfl) rfl) (by simp) (by simp) fun hfit => ?_
      simp [Try.f15, hs]
      try simp [h2, h3, RowR.enc]
      repeat' (first
        | ((first | refine Tst.go (fun hw_ ew_ => ?_) (fun hw_ ew_ => ?_)) <;> first | (exfalso; first | omega | with_reducible exact hw_ (by assumption) | with_reducible exact absurd hw_ (by assumption)) | (have nw_ := Nw.nw hw_; simp [ew_, nw_, h2, h3, RowR.enc]) | simp [ew_, h2, h3, RowR.enc])
        | ((first | (refine Pc.go (h1) ?_ ?_; focus (first | rfl | (simp [h2, h3, RowR.enc]; done))) | rw [if_pos (by first | omega | (simp only [maxLen]; omega))] | rw [if_neg (by first | omega | (simp only [maxLen]; omega))] | rw [frzOwn_neat (by simp) (by simp <;> omega)] | rw [fzOwn_neat (by simp) (by simp <;> omega)]); try simp [h2, h3, RowR.enc])
        | ((first | refine TstB.go (fun hw_ ew_ => ?_) (fun hw_ ew_ => ?_)) <;> first | (exfalso; first | omega | with_reducible exact hw_ (by assumption) | with_reducible exact absurd hw_ (by assumption)) | simp [ew_, h2, h3, RowR.enc])
        | fail)
    have hf := findD_ok r.l n r1 (by omega)
    cases hx : findS DecisionR.seq r.l n with
    | none =>
      have hs : askS l c e n = (false, 6) := by simp [askS, hwy, h2, hrw, h3, hx]
      rw [hx] at hf
      simp only [Option.isSome_none] at hf
      refine PCall.mk (fun _ => false) Try.func15 rfl rfl rfl (Ent.mk Try.func15 (by kernel_rfl) rfl) (by simp) (by simp) fun hfit => ?_
      simp [Try.f15, hs]
      try simp [h2, h3, RowR.enc]
      repeat' (first
        | ((first | refine Tst.go (fun hw_ ew_ => ?_) (fun hw_ ew_ => ?_)) <;> first | (exfalso; first | omega | with_reducible exact hw_ (by assumption) | with_reducible exact absurd hw_ (by assumption)) | (have nw_ := Nw.nw hw_; simp [ew_, nw_, h2, h3, RowR.enc]) | simp [ew_, h2, h3, RowR.enc])
        | ((first | (refine Pc.go (h1) ?_ ?_; focus (first | rfl | (simp [h2, h3, RowR.enc]; done))) | (refine Pc.go (hf) ?_ ?_; focus (first | rfl | (simp [h2, h3, RowR.enc]; done))) | rw [if_pos (by first | omega | (simp only [maxLen]; omega))] | rw [if_neg (by first | omega | (simp only [maxLen]; omega))] | rw [frzOwn_neat (by simp) (by simp <;> omega)] | rw [fzOwn_neat (by simp) (by simp <;> omega)]); try simp [h2, h3, RowR.enc])
        | ((first | refine TstB.go (fun hw_ ew_ => ?_) (fun hw_ ew_ => ?_)) <;> first | (exfalso; first | omega | with_reducible exact hw_ (by assumption) | with_reducible exact absurd hw_ (by assumption)) | simp [ew_, h2, h3, RowR.enc])
        | fail)
    | some d =>
      have hs : askS l c e n = (d.yes, 0) := by simp [askS, hwy, h2, hrw, h3, hx]
      rw [hx] at hf
      simp only [Option.isSome_some] at hf
      obtain ⟨hp, hpx⟩ := find_place DecisionR.seq r1 hx
      generalize placeS DecisionR.seq r.l n = k at *
      refine PCall.mk (fun _ => false) Try.func15 rfl rfl rfl (Ent.mk Try.func15 (by kernel_rfl) rfl) (by simp) (by simp) fun hfit => ?_
      simp [Try.f15, hs]
      try simp [h2, h3, hp, hpx, RowR.enc, DecisionR.enc]
      repeat' (first
        | ((first | refine Tst.go (fun hw_ ew_ => ?_) (fun hw_ ew_ => ?_)) <;> first | (exfalso; first | omega | with_reducible exact hw_ (by assumption) | with_reducible exact absurd hw_ (by assumption)) | (have nw_ := Nw.nw hw_; simp [ew_, nw_, h2, h3, hp, hpx, RowR.enc, DecisionR.enc]) | simp [ew_, h2, h3, hp, hpx, RowR.enc, DecisionR.enc])
        | ((first | (refine Pc.go (h1) ?_ ?_; focus (first | rfl | (simp [h2, h3, hp, hpx, RowR.enc, DecisionR.enc]; done))) | (refine Pc.go (hf) ?_ ?_; focus (first | rfl | (simp [h2, h3, hp, hpx, RowR.enc, DecisionR.enc]; done))) | rw [if_pos (by first | omega | (simp only [maxLen]; omega))] | rw [if_neg (by first | omega | (simp only [maxLen]; omega))] | rw [frzOwn_neat (by simp) (by simp <;> omega)] | rw [fzOwn_neat (by simp) (by simp <;> omega)]); try simp [h2, h3, hp, hpx, RowR.enc, DecisionR.enc])
        | ((first | refine TstB.go (fun hw_ ew_ => ?_) (fun hw_ ew_ => ?_)) <;> first | (exfalso; first | omega | with_reducible exact hw_ (by assumption) | with_reducible exact absurd hw_ (by assumption)) | simp [ew_, h2, h3, hp, hpx, RowR.enc, DecisionR.enc])
        | fail)
end Go.Proofs.Ytpbjeabigckijaa
