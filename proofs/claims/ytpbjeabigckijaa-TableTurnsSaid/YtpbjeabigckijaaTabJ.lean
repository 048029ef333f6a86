/- Decided, by the document. -/
import Derived.Test.YtpbjeabigckijaaTabI
set_option linter.unusedVariables false
set_option linter.unusedSimpArgs false
namespace Go.Proofs.Ytpbjeabigckijaa
open Go.Cx Tab
set_option maxHeartbeats 400000
set_option maxRecDepth 40000

theorem seq_at {l : List DecisionR} {i : Nat} (hi : i < l.length) (h : i * 2 < (l.flatMap DecisionR.enc).length) : (l.flatMap DecisionR.enc)[i * 2] = I l[i].seq := by
  have h1 := congrArg (fun x => x[0]?) (at_DecisionR hi)
  simp only [List.getElem?_take, List.getElem?_drop] at h1
  rw [List.getElem_eq_iff]
  simpa [DecisionR.enc] using h1
theorem rdecide_ok (l : List RowR) (c e n : Int) (yes : Bool) (R : RightT l) : PCall Try.prog 19 [encL RowR.enc l, I c, I e, I n, B yes] (.tup [encL RowR.enc (decideS l c e n yes).1, B (decideS l c e n yes).2.1, I (decideS l c e n yes).2.2]) := by
  have hl := R.len
  have h1 := rask_ok l c e n R
  by_cases h6 : (askS l c e n).2 = 6
  case neg =>
    have hs : decideS l c e n yes = (l, (askS l c e n).1, (askS l c e n).2) := by simp [decideS, h6]
    rw [hs]
    generalize askS l c e n = a at *
    refine PCall.mk (fun _ => false) Try.func19 rfl rfl rfl (Ent.mk Try.func19 (by kernel_rfl) rfl) (by simp) (by simp) fun hfit => ?_
    simp [Try.f19]
    try simp [h6]
    repeat' (first
      | ((first | refine Tst.go (fun hw_ ew_ => ?_) (fun hw_ ew_ => ?_)) <;> first | (exfalso; first | omega | with_reducible exact hw_ (by assumption) | with_reducible exact absurd hw_ (by assumption)) | (have nw_ := Nw.nw hw_; simp [ew_, nw_, h6]) | simp [ew_, h6])
      | ((first | (refine Pc.go (h1) ?_ ?_; focus (first | rfl | (simp [h6]; done))) | rw [if_pos (by first | omega | (simp only [maxLen]; omega))] | rw [if_neg (by first | omega | (simp only [maxLen]; omega))] | rw [frzOwn_neat (by simp) (by simp <;> omega)] | rw [fzOwn_neat (by simp) (by simp <;> omega)]); try simp [h6])
      | ((first | refine TstB.go (fun hw_ ew_ => ?_) (fun hw_ ew_ => ?_)) <;> first | (exfalso; first | omega | with_reducible exact hw_ (by assumption) | with_reducible exact absurd hw_ (by assumption)) | simp [ew_, h6])
      | fail)
  have h6' := h6
  rw [h6] at h1
  generalize (askS l c e n).1 = a1 at h1
  obtain ⟨hb, hn⟩ := ask_six h6'
  have hp := place_ok l c
  cases hx : findS RowR.client l c with
  | none =>
    rw [place_none14 hx] at hp
    have hrow : rowS l c e n = ⟨c, e, 0, []⟩ := by unfold rowS; rw [if_neg (by simp [hb]), hx]
    by_cases hr1 : 64 ≤ l.length
    · have hs : decideS l c e n yes = (l, false, 12) := by simp [decideS, h6', roomless, hx, hr1]
      rw [hs]
      refine PCall.mk (fun _ => false) Try.func19 rfl rfl rfl (Ent.mk Try.func19 (by kernel_rfl) rfl) (by simp) (by simp) fun hfit => ?_
      simp [Try.f19]
      try simp [hr1]
      repeat' (first
        | ((first | refine Tst.go (fun hw_ ew_ => ?_) (fun hw_ ew_ => ?_)) <;> first | (exfalso; first | omega | with_reducible exact hw_ (by assumption) | with_reducible exact absurd hw_ (by assumption)) | (have nw_ := Nw.nw hw_; simp [ew_, nw_, hr1]) | simp [ew_, hr1])
        | ((first | (refine Pc.go (h1) ?_ ?_; focus (first | rfl | (simp [hr1]; done))) | (refine Pc.go (hp) ?_ ?_; focus (first | rfl | (simp [hr1]; done))) | rw [if_pos (by first | omega | (simp only [maxLen]; omega))] | rw [if_neg (by first | omega | (simp only [maxLen]; omega))] | rw [frzOwn_neat (by simp) (by simp <;> omega)] | rw [fzOwn_neat (by simp) (by simp <;> omega)]); try simp [hr1])
        | ((first | refine TstB.go (fun hw_ ew_ => ?_) (fun hw_ ew_ => ?_)) <;> first | (exfalso; first | omega | with_reducible exact hw_ (by assumption) | with_reducible exact absurd hw_ (by assumption)) | simp [ew_, hr1])
        | fail)
    have hs : decideS l c e n yes = (putS RowR.client l ⟨c, e, 0, [⟨n, yes⟩]⟩, yes, 0) := by
      have : roomless l c e n = false := by simp [roomless, hx, hr1, hrow]
      simp [decideS, h6', this, hrow, decR, putS]
    rw [hs]
    have hput := rput14_ok l ⟨c, e, 0, [⟨n, yes⟩]⟩ R.rise (by omega)
    generalize putS RowR.client l ⟨c, e, 0, [⟨n, yes⟩]⟩ = p at *
    simp only [RowR.enc] at hput
    refine PCall.mkW Try.func19 rfl rfl rfl (Ent.mk Try.func19 (by kernel_rfl) rfl) (by simp) (by simp) fun hfit => ?_
    try simp [hr1, RowR.enc]
    repeat' (first
      | ((first | refine Tst.go (fun hw_ ew_ => ?_) (fun hw_ ew_ => ?_)) <;> first | (exfalso; first | omega | with_reducible exact hw_ (by assumption) | with_reducible exact absurd hw_ (by assumption)) | (have nw_ := Nw.nw hw_; simp [ew_, nw_, hr1, RowR.enc]) | simp [ew_, hr1, RowR.enc])
      | (refine AW.seqA (lit := fun _ => false) ?_; simp [hr1, RowR.enc])
      | ((first | (refine Pc.go (h1) ?_ ?_; focus (first | rfl | (simp [hr1, RowR.enc]; done))) | (refine Pc.go (hp) ?_ ?_; focus (first | rfl | (simp [hr1, RowR.enc]; done))) | rw [if_pos (by first | omega | (simp only [maxLen]; omega))] | rw [if_neg (by first | omega | (simp only [maxLen]; omega))] | rw [frzOwn_neat (by simp) (by simp <;> omega)] | rw [fzOwn_neat (by simp) (by simp <;> omega)]); try simp [hr1, RowR.enc])
      | ((first | refine TstB.go (fun hw_ ew_ => ?_) (fun hw_ ew_ => ?_)) <;> first | (exfalso; first | omega | with_reducible exact hw_ (by assumption) | with_reducible exact absurd hw_ (by assumption)) | simp [ew_, hr1, RowR.enc])
      | fail)
    refine AW.loopG (lit := fun _ => false) (fun j : Nat => ⟨109, pat [(0, encL RowR.enc l), (3, I n), (4, B yes), (16, .ptr 0 0 0), (17, .own 1 0 0 0 2), (18, I 0)], [.cells 0 [I c, I e, I 0, .sl true 0 []], .cells 0 []]⟩) (fun j => 0)
      (fun j => True) 0 ?_ ?_ ?_
    · exact Wk.trans (Wk.ownNil 17 2 (by simp)) (Wk.at _ rfl (by simp) (by simp))
    · trivial
    rintro j _ A hA
    try simp
    repeat' (first
      | ((first | refine Tst.go (fun hw_ ew_ => ?_) (fun hw_ ew_ => ?_)) <;> first | (exfalso; first | omega | with_reducible exact hw_ (by assumption) | with_reducible exact absurd hw_ (by assumption)) | (have nw_ := Nw.nw hw_; simp [ew_, nw_]) | simp [ew_])
      | ((first | rw [if_pos (by first | omega | (simp only [maxLen]; omega))] | rw [if_neg (by first | omega | (simp only [maxLen]; omega))] | rw [frzOwn_neat (by simp) (by simp <;> omega)] | rw [fzOwn_neat (by simp) (by simp <;> omega)]); try simp)
      | ((first | refine TstB.go (fun hw_ ew_ => ?_) (fun hw_ ew_ => ?_)) <;> first | (exfalso; first | omega | with_reducible exact hw_ (by assumption) | with_reducible exact absurd hw_ (by assumption)) | simp [ew_])
      | fail)
    refine AW.seqA (lit := fun _ => false) ?_
    try simp
    repeat' (first
      | ((first | refine Tst.go (fun hw_ ew_ => ?_) (fun hw_ ew_ => ?_)) <;> first | (exfalso; first | omega | with_reducible exact hw_ (by assumption) | with_reducible exact absurd hw_ (by assumption)) | (have nw_ := Nw.nw hw_; simp [ew_, nw_]) | simp [ew_])
      | ((first | rw [if_pos (by first | omega | (simp only [maxLen]; omega))] | rw [if_neg (by first | omega | (simp only [maxLen]; omega))] | rw [frzOwn_neat (by simp) (by simp <;> omega)] | rw [fzOwn_neat (by simp) (by simp <;> omega)]); try simp)
      | ((first | refine TstB.go (fun hw_ ew_ => ?_) (fun hw_ ew_ => ?_)) <;> first | (exfalso; first | omega | with_reducible exact hw_ (by assumption) | with_reducible exact absurd hw_ (by assumption)) | simp [ew_])
      | fail)
    refine AW.seqA (lit := fun _ => false) ?_
    try simp
    repeat' (first
      | ((first | refine Tst.go (fun hw_ ew_ => ?_) (fun hw_ ew_ => ?_)) <;> first | (exfalso; first | omega | with_reducible exact hw_ (by assumption) | with_reducible exact absurd hw_ (by assumption)) | (have nw_ := Nw.nw hw_; simp [ew_, nw_]) | simp [ew_])
      | ((first | rw [if_pos (by first | omega | (simp only [maxLen]; omega))] | rw [if_neg (by first | omega | (simp only [maxLen]; omega))] | rw [frzOwn_neat (by simp) (by simp <;> omega)] | rw [fzOwn_neat (by simp) (by simp <;> omega)]); try simp)
      | ((first | refine TstB.go (fun hw_ ew_ => ?_) (fun hw_ ew_ => ?_)) <;> first | (exfalso; first | omega | with_reducible exact hw_ (by assumption) | with_reducible exact absurd hw_ (by assumption)) | simp [ew_])
      | fail)
    have en : encL DecisionR.enc [⟨n, yes⟩] = .sl false 1 [I n, B yes] := rfl
    rw [en] at hput
    refine AW.wkZ (WkZ.freeze [0, 1] 16 (.fp [I c, I e, I 0, .sl false 1 [I n, B yes]]) (by simp; rw [fzOwn_neat (by simp) (by simp)]; simp)) ?_
    refine AX_ok (lit := fun _ => false) _ _ _ ?_
    simp
    try simp
    repeat' (first
      | ((first | refine Tst.go (fun hw_ ew_ => ?_) (fun hw_ ew_ => ?_)) <;> first | (exfalso; first | omega | with_reducible exact hw_ (by assumption) | with_reducible exact absurd hw_ (by assumption)) | (have nw_ := Nw.nw hw_; simp [ew_, nw_]) | simp [ew_])
      | ((first | (refine Pc.go (hput) ?_ ?_; focus (first | rfl | (simp; done))) | rw [if_pos (by first | omega | (simp only [maxLen]; omega))] | rw [if_neg (by first | omega | (simp only [maxLen]; omega))] | rw [frzOwn_neat (by simp) (by simp <;> omega)] | rw [fzOwn_neat (by simp) (by simp <;> omega)]); try simp)
      | ((first | refine TstB.go (fun hw_ ew_ => ?_) (fun hw_ ew_ => ?_)) <;> first | (exfalso; first | omega | with_reducible exact hw_ (by assumption) | with_reducible exact absurd hw_ (by assumption)) | simp [ew_])
      | fail)
  | some r =>
    obtain ⟨q, hq, e1, e2⟩ := place_some14 R.rise hx
    rw [e1] at hp
    by_cases he : r.epoch = e
    case neg =>
      have hrow : rowS l c e n = ⟨c, e, 0, []⟩ := by unfold rowS; rw [if_neg (by simp [hb]), hx]; simp [he]
      have hs : decideS l c e n yes = (putS RowR.client l ⟨c, e, 0, [⟨n, yes⟩]⟩, yes, 0) := by
        have : roomless l c e n = false := by simp [roomless, hx, hrow]
        simp [decideS, h6', this, hrow, decR, putS]
      rw [hs]
      subst e2
      have hput := rput14_ok l ⟨c, e, 0, [⟨n, yes⟩]⟩ R.rise (by omega)
      generalize putS RowR.client l ⟨c, e, 0, [⟨n, yes⟩]⟩ = p at *
      simp only [RowR.enc] at hput
      refine PCall.mkW Try.func19 rfl rfl rfl (Ent.mk Try.func19 (by kernel_rfl) rfl) (by simp) (by simp) fun hfit => ?_
      try simp [hq, he, RowR.enc]
      repeat' (first
        | ((first | refine Tst.go (fun hw_ ew_ => ?_) (fun hw_ ew_ => ?_)) <;> first | (exfalso; first | omega | with_reducible exact hw_ (by assumption) | with_reducible exact absurd hw_ (by assumption)) | (have nw_ := Nw.nw hw_; simp [ew_, nw_, hq, he, RowR.enc]) | simp [ew_, hq, he, RowR.enc])
        | (refine AW.seqA (lit := fun _ => false) ?_; simp [hq, he, RowR.enc])
        | ((first | (refine Pc.go (h1) ?_ ?_; focus (first | rfl | (simp [hq, he, RowR.enc]; done))) | (refine Pc.go (hp) ?_ ?_; focus (first | rfl | (simp [hq, he, RowR.enc]; done))) | rw [if_pos (by first | omega | (simp only [maxLen]; omega))] | rw [if_neg (by first | omega | (simp only [maxLen]; omega))] | rw [frzOwn_neat (by simp) (by simp <;> omega)] | rw [fzOwn_neat (by simp) (by simp <;> omega)]); try simp [hq, he, RowR.enc])
        | ((first | refine TstB.go (fun hw_ ew_ => ?_) (fun hw_ ew_ => ?_)) <;> first | (exfalso; first | omega | with_reducible exact hw_ (by assumption) | with_reducible exact absurd hw_ (by assumption)) | simp [ew_, hq, he, RowR.enc])
        | fail)
      refine AW.loopG (lit := fun _ => false) (fun j : Nat => ⟨109, pat [(0, encL RowR.enc l), (3, I n), (4, B yes), (16, .ptr 0 0 0), (17, .own 1 0 0 0 2), (18, I 0)], [.cells 0 [I c, I e, I 0, .sl true 0 []], .cells 0 []]⟩) (fun j => 0)
        (fun j => True) 0 ?_ ?_ ?_
      · exact Wk.trans (Wk.ownNil 17 2 (by simp)) (Wk.at _ rfl (by simp) (by simp))
      · trivial
      rintro j _ A hA
      try simp
      repeat' (first
        | ((first | refine Tst.go (fun hw_ ew_ => ?_) (fun hw_ ew_ => ?_)) <;> first | (exfalso; first | omega | with_reducible exact hw_ (by assumption) | with_reducible exact absurd hw_ (by assumption)) | (have nw_ := Nw.nw hw_; simp [ew_, nw_]) | simp [ew_])
        | ((first | rw [if_pos (by first | omega | (simp only [maxLen]; omega))] | rw [if_neg (by first | omega | (simp only [maxLen]; omega))] | rw [frzOwn_neat (by simp) (by simp <;> omega)] | rw [fzOwn_neat (by simp) (by simp <;> omega)]); try simp)
        | ((first | refine TstB.go (fun hw_ ew_ => ?_) (fun hw_ ew_ => ?_)) <;> first | (exfalso; first | omega | with_reducible exact hw_ (by assumption) | with_reducible exact absurd hw_ (by assumption)) | simp [ew_])
        | fail)
      refine AW.seqA (lit := fun _ => false) ?_
      try simp
      repeat' (first
        | ((first | refine Tst.go (fun hw_ ew_ => ?_) (fun hw_ ew_ => ?_)) <;> first | (exfalso; first | omega | with_reducible exact hw_ (by assumption) | with_reducible exact absurd hw_ (by assumption)) | (have nw_ := Nw.nw hw_; simp [ew_, nw_]) | simp [ew_])
        | ((first | rw [if_pos (by first | omega | (simp only [maxLen]; omega))] | rw [if_neg (by first | omega | (simp only [maxLen]; omega))] | rw [frzOwn_neat (by simp) (by simp <;> omega)] | rw [fzOwn_neat (by simp) (by simp <;> omega)]); try simp)
        | ((first | refine TstB.go (fun hw_ ew_ => ?_) (fun hw_ ew_ => ?_)) <;> first | (exfalso; first | omega | with_reducible exact hw_ (by assumption) | with_reducible exact absurd hw_ (by assumption)) | simp [ew_])
        | fail)
      refine AW.seqA (lit := fun _ => false) ?_
      try simp
      repeat' (first
        | ((first | refine Tst.go (fun hw_ ew_ => ?_) (fun hw_ ew_ => ?_)) <;> first | (exfalso; first | omega | with_reducible exact hw_ (by assumption) | with_reducible exact absurd hw_ (by assumption)) | (have nw_ := Nw.nw hw_; simp [ew_, nw_]) | simp [ew_])
        | ((first | rw [if_pos (by first | omega | (simp only [maxLen]; omega))] | rw [if_neg (by first | omega | (simp only [maxLen]; omega))] | rw [frzOwn_neat (by simp) (by simp <;> omega)] | rw [fzOwn_neat (by simp) (by simp <;> omega)]); try simp)
        | ((first | refine TstB.go (fun hw_ ew_ => ?_) (fun hw_ ew_ => ?_)) <;> first | (exfalso; first | omega | with_reducible exact hw_ (by assumption) | with_reducible exact absurd hw_ (by assumption)) | simp [ew_])
        | fail)
      have en : encL DecisionR.enc [⟨n, yes⟩] = .sl false 1 [I n, B yes] := rfl
      rw [en] at hput
      refine AW.wkZ (WkZ.freeze [0, 1] 16 (.fp [I c, I e, I 0, .sl false 1 [I n, B yes]]) (by simp; rw [fzOwn_neat (by simp) (by simp)]; simp)) ?_
      refine AX_ok (lit := fun _ => false) _ _ _ ?_
      simp
      try simp
      repeat' (first
        | ((first | refine Tst.go (fun hw_ ew_ => ?_) (fun hw_ ew_ => ?_)) <;> first | (exfalso; first | omega | with_reducible exact hw_ (by assumption) | with_reducible exact absurd hw_ (by assumption)) | (have nw_ := Nw.nw hw_; simp [ew_, nw_]) | simp [ew_])
        | ((first | (refine Pc.go (hput) ?_ ?_; focus (first | rfl | (simp; done))) | rw [if_pos (by first | omega | (simp only [maxLen]; omega))] | rw [if_neg (by first | omega | (simp only [maxLen]; omega))] | rw [frzOwn_neat (by simp) (by simp <;> omega)] | rw [fzOwn_neat (by simp) (by simp <;> omega)]); try simp)
        | ((first | refine TstB.go (fun hw_ ew_ => ?_) (fun hw_ ew_ => ?_)) <;> first | (exfalso; first | omega | with_reducible exact hw_ (by assumption) | with_reducible exact absurd hw_ (by assumption)) | simp [ew_])
        | fail)
    have hrow : rowS l c e n = r := by unfold rowS; rw [if_neg (by simp [hb]), hx]; simp [he]
    rw [hrow] at hn
    have hok := R.ok r (findS_mem _ hx).1
    have hkc := (findS_mem _ hx).2
    have hlen := hok.len
    by_cases hr2 : 256 ≤ r.l.length
    · have hs : decideS l c e n yes = (l, false, 12) := by simp [decideS, h6', roomless, hrow, hr2]
      rw [hs]
      subst e2
      refine PCall.mk (fun _ => false) Try.func19 rfl rfl rfl (Ent.mk Try.func19 (by kernel_rfl) rfl) (by simp) (by simp) fun hfit => ?_
      simp [Try.f19]
      try simp [hr2, hq, he, RowR.enc]
      repeat' (first
        | ((first | refine Tst.go (fun hw_ ew_ => ?_) (fun hw_ ew_ => ?_)) <;> first | (exfalso; first | omega | with_reducible exact hw_ (by assumption) | with_reducible exact absurd hw_ (by assumption)) | (have nw_ := Nw.nw hw_; simp [ew_, nw_, hr2, hq, he, RowR.enc]) | simp [ew_, hr2, hq, he, RowR.enc])
        | ((first | (refine Pc.go (h1) ?_ ?_; focus (first | rfl | (simp [hr2, hq, he, RowR.enc]; done))) | (refine Pc.go (hp) ?_ ?_; focus (first | rfl | (simp [hr2, hq, he, RowR.enc]; done))) | rw [if_pos (by first | omega | (simp only [maxLen]; omega))] | rw [if_neg (by first | omega | (simp only [maxLen]; omega))] | rw [frzOwn_neat (by simp) (by simp <;> omega)] | rw [fzOwn_neat (by simp) (by simp <;> omega)]); try simp [hr2, hq, he, RowR.enc])
        | ((first | refine TstB.go (fun hw_ ew_ => ?_) (fun hw_ ew_ => ?_)) <;> first | (exfalso; first | omega | with_reducible exact hw_ (by assumption) | with_reducible exact absurd hw_ (by assumption)) | simp [ew_, hr2, hq, he, RowR.enc])
        | fail)
    have hs : decideS l c e n yes = (putS RowR.client l (decR r n yes), yes, 0) := by
      have : roomless l c e n = false := by simp [roomless, hx, hrow, hr2]
      simp [decideS, h6', this, hrow]
    rw [hs]
    have hput := rput14_ok l (decR r n yes) R.rise (by omega)
    generalize putS RowR.client l (decR r n yes) = p at *
    have hD : putS DecisionR.seq r.l ⟨n, yes⟩ = r.l.takeWhile (fun x => decide (x.seq < n)) ++ (⟨n, yes⟩ :: r.l.dropWhile (fun x => decide (x.seq < n))) := by
      unfold putS
      rw [← drop_filter n hok.rise, List.filter_eq_self.2]
      intro x hx
      have := (findS_none _).1 hn x ((List.dropWhile_sublist _).subset hx)
      simpa using this
    unfold decR at hput
    rw [hD, hkc, he] at hput
    simp only [RowR.enc] at hput
    have hmm : ∀ j, j ≤ r.l.length → j + 1 + (r.l.length - j) = r.l.length + 1 := fun j h => by omega
    subst e2
    refine PCall.mkW Try.func19 rfl rfl rfl (Ent.mk Try.func19 (by kernel_rfl) rfl) (by simp) (by simp) fun hfit => ?_
    try simp [hq, he, hkc, hr2, RowR.enc]
    repeat' (first
      | ((first | refine Tst.go (fun hw_ ew_ => ?_) (fun hw_ ew_ => ?_)) <;> first | (exfalso; first | omega | with_reducible exact hw_ (by assumption) | with_reducible exact absurd hw_ (by assumption)) | (have nw_ := Nw.nw hw_; simp [ew_, nw_, hq, he, hkc, hr2, RowR.enc]) | simp [ew_, hq, he, hkc, hr2, RowR.enc])
      | (refine AW.seqA (lit := fun _ => false) ?_; simp [hq, he, hkc, hr2, RowR.enc])
      | ((first | (refine Pc.go (h1) ?_ ?_; focus (first | rfl | (simp [hq, he, hkc, hr2, RowR.enc]; done))) | (refine Pc.go (hp) ?_ ?_; focus (first | rfl | (simp [hq, he, hkc, hr2, RowR.enc]; done))) | rw [if_pos (by first | omega | (simp only [maxLen]; omega))] | rw [if_neg (by first | omega | (simp only [maxLen]; omega))] | rw [frzOwn_neat (by simp) (by simp <;> omega)] | rw [fzOwn_neat (by simp) (by simp <;> omega)]); try simp [hq, he, hkc, hr2, RowR.enc])
      | ((first | refine TstB.go (fun hw_ ew_ => ?_) (fun hw_ ew_ => ?_)) <;> first | (exfalso; first | omega | with_reducible exact hw_ (by assumption) | with_reducible exact absurd hw_ (by assumption)) | simp [ew_, hq, he, hkc, hr2, RowR.enc])
      | fail)
    refine AW.loopG (lit := fun _ => false) (fun j : Nat => ⟨109, pat [(0, encL RowR.enc l), (3, I n), (4, B yes), (16, .ptr 0 0 0), (17, .own 1 j 0 j 2), (18, I j)], [.cells 0 [I c, I e, I l[q].done, encL DecisionR.enc l[q].l], .cells j ((l[q].l.take j).flatMap DecisionR.enc)]⟩) (fun j => l[q].l.length - j)
      (fun j => j ≤ l[q].l.length ∧ l[q].l.take j ++ (l[q].l.drop j).takeWhile (fun x => decide (x.seq < n)) = l[q].l.takeWhile (fun x => decide (x.seq < n)) ∧ (l[q].l.drop j).dropWhile (fun x => decide (x.seq < n)) = l[q].l.dropWhile (fun x => decide (x.seq < n))) 0 ?_ ?_ ?_
    · exact Wk.trans (Wk.ownNil 17 2 (by simp)) (Wk.at _ rfl (by simp [hkc, he]) (by simp [hkc, he]))
    · exact ⟨by simp, by simp, by simp⟩
    rintro j ⟨g1, g2, g3⟩ A hA
    have hlj : (l[q].l.take j).length = j := by simp; omega
    have hm2 := hmm j g1
    by_cases hj : j < l[q].l.length
    case neg =>
      have hdn : l[q].l.drop j = [] := List.drop_eq_nil_of_le (by omega)
      rw [hdn, List.takeWhile_nil, List.append_nil] at g2
      rw [← g3, ← g2, show (l[q].l.drop j).dropWhile (fun x => decide (x.seq < n)) = l[q].l.drop j by rw [hdn]; rfl] at hput
      have hdd := drops_DecisionR l[q].l j
      have htl : List.take ((l[q].l.length - j) * 2) ((l[q].l.drop j).flatMap DecisionR.enc) = (l[q].l.drop j).flatMap DecisionR.enc := List.take_of_length_le (by simp)
      have hone : ∀ x ∈ (l[q].l.drop j).flatMap DecisionR.enc, isOne x = true := List.all_eq_true.1 (one_DecisionR _)
      try simp [hj, hlj]
      repeat' (first
        | ((first | refine Tst.go (fun hw_ ew_ => ?_) (fun hw_ ew_ => ?_)) <;> first | (exfalso; first | omega | with_reducible exact hw_ (by assumption) | with_reducible exact absurd hw_ (by assumption)) | (have nw_ := Nw.nw hw_; simp [ew_, nw_, hj, hlj]) | simp [ew_, hj, hlj])
        | ((first | rw [if_pos (by first | omega | (simp only [maxLen]; omega))] | rw [if_neg (by first | omega | (simp only [maxLen]; omega))] | rw [frzOwn_neat (by simp) (by simp <;> omega)] | rw [fzOwn_neat (by simp) (by simp <;> omega)]); try simp [hj, hlj])
        | ((first | refine TstB.go (fun hw_ ew_ => ?_) (fun hw_ ew_ => ?_)) <;> first | (exfalso; first | omega | with_reducible exact hw_ (by assumption) | with_reducible exact absurd hw_ (by assumption)) | simp [ew_, hj, hlj])
        | fail)
      refine AW.seqA (lit := fun _ => false) ?_
      try simp [hlj]
      repeat' (first
        | ((first | refine Tst.go (fun hw_ ew_ => ?_) (fun hw_ ew_ => ?_)) <;> first | (exfalso; first | omega | with_reducible exact hw_ (by assumption) | with_reducible exact absurd hw_ (by assumption)) | (have nw_ := Nw.nw hw_; simp [ew_, nw_, hlj]) | simp [ew_, hlj])
        | ((first | rw [if_pos (by first | omega | (simp only [maxLen]; omega))] | rw [if_neg (by first | omega | (simp only [maxLen]; omega))] | rw [frzOwn_neat (by simp) (by simp <;> omega)] | rw [fzOwn_neat (by simp) (by simp <;> omega)]); try simp [hlj])
        | ((first | refine TstB.go (fun hw_ ew_ => ?_) (fun hw_ ew_ => ?_)) <;> first | (exfalso; first | omega | with_reducible exact hw_ (by assumption) | with_reducible exact absurd hw_ (by assumption)) | simp [ew_, hlj])
        | fail)
      refine AW.seqA (lit := fun _ => false) ?_
      try simp [hlj, hdd, hm2, htl]
      repeat' (first
        | ((first | refine Tst.go (fun hw_ ew_ => ?_) (fun hw_ ew_ => ?_)) <;> first | (exfalso; first | omega | with_reducible exact hw_ (by assumption) | with_reducible exact absurd hw_ (by assumption)) | (have nw_ := Nw.nw hw_; simp [ew_, nw_, hlj, hdd, hm2, htl]) | simp [ew_, hlj, hdd, hm2, htl])
        | ((first | rw [if_pos (by first | omega | (simp only [maxLen]; omega))] | rw [if_neg (by first | omega | (simp only [maxLen]; omega))] | rw [frzOwn_neat (by simp) (by simp <;> omega)] | rw [fzOwn_neat (by simp) (by simp <;> omega)]); try simp [hlj, hdd, hm2, htl])
        | ((first | refine TstB.go (fun hw_ ew_ => ?_) (fun hw_ ew_ => ?_)) <;> first | (exfalso; first | omega | with_reducible exact hw_ (by assumption) | with_reducible exact absurd hw_ (by assumption)) | simp [ew_, hlj, hdd, hm2, htl])
        | fail)
      refine AW.wkZ (WkZ.freeze [0, 1] 16 (.fp [I c, I e, I l[q].done, encL DecisionR.enc (l[q].l.take j ++ ⟨n, yes⟩ :: l[q].l.drop j)]) (by simp; rw [fzOwn_neat (by simp) (by simp [hlj]; omega)]; simp [DecisionR.enc, hm2, hlj]; omega)) ?_
      refine AX_ok (lit := fun _ => false) _ _ _ ?_
      simp
      try simp
      repeat' (first
        | ((first | refine Tst.go (fun hw_ ew_ => ?_) (fun hw_ ew_ => ?_)) <;> first | (exfalso; first | omega | with_reducible exact hw_ (by assumption) | with_reducible exact absurd hw_ (by assumption)) | (have nw_ := Nw.nw hw_; simp [ew_, nw_]) | simp [ew_])
        | ((first | (refine Pc.go (hput) ?_ ?_; focus (first | rfl | (simp; done))) | rw [if_pos (by first | omega | (simp only [maxLen]; omega))] | rw [if_neg (by first | omega | (simp only [maxLen]; omega))] | rw [frzOwn_neat (by simp) (by simp <;> omega)] | rw [fzOwn_neat (by simp) (by simp <;> omega)]); try simp)
        | ((first | refine TstB.go (fun hw_ ew_ => ?_) (fun hw_ ew_ => ?_)) <;> first | (exfalso; first | omega | with_reducible exact hw_ (by assumption) | with_reducible exact absurd hw_ (by assumption)) | simp [ew_])
        | fail)
    have hdj := List.drop_eq_getElem_cons hj
    by_cases hs2 : l[q].l[j].seq < n
    case neg =>
      have hd1 : (l[q].l.drop j).dropWhile (fun x => decide (x.seq < n)) = l[q].l.drop j := by rw [hdj, List.dropWhile_cons_of_neg (by simpa using hs2)]
      rw [hdj, List.takeWhile_cons_of_neg (by simpa using hs2), List.append_nil] at g2
      rw [hd1] at g3
      rw [← g3, ← g2] at hput
      have hdd := drops_DecisionR l[q].l j
      have htl : List.take ((l[q].l.length - j) * 2) ((l[q].l.drop j).flatMap DecisionR.enc) = (l[q].l.drop j).flatMap DecisionR.enc := List.take_of_length_le (by simp)
      have hone : ∀ x ∈ (l[q].l.drop j).flatMap DecisionR.enc, isOne x = true := List.all_eq_true.1 (one_DecisionR _)
      try simp [hj, hs2, hlj, DecisionR.enc]
      repeat' (first
        | ((first | refine Tst.go (fun hw_ ew_ => ?_) (fun hw_ ew_ => ?_)) <;> first | (exfalso; first | omega | with_reducible exact hw_ (by assumption) | with_reducible exact absurd hw_ (by assumption)) | (have nw_ := Nw.nw hw_; simp [ew_, nw_, hj, hs2, hlj, DecisionR.enc]) | simp [ew_, hj, hs2, hlj, DecisionR.enc])
        | ((first | rw [if_pos (by first | omega | (simp only [maxLen]; omega))] | rw [if_neg (by first | omega | (simp only [maxLen]; omega))] | rw [frzOwn_neat (by simp) (by simp <;> omega)] | rw [fzOwn_neat (by simp) (by simp <;> omega)]); try simp [hj, hs2, hlj, DecisionR.enc])
        | ((first | refine TstB.go (fun hw_ ew_ => ?_) (fun hw_ ew_ => ?_)) <;> first | (exfalso; first | omega | with_reducible exact hw_ (by assumption) | with_reducible exact absurd hw_ (by assumption)) | simp [ew_, hj, hs2, hlj, DecisionR.enc])
        | fail)
      refine AW.seqA (lit := fun _ => false) ?_
      try simp [hlj]
      repeat' (first
        | ((first | refine Tst.go (fun hw_ ew_ => ?_) (fun hw_ ew_ => ?_)) <;> first | (exfalso; first | omega | with_reducible exact hw_ (by assumption) | with_reducible exact absurd hw_ (by assumption)) | (have nw_ := Nw.nw hw_; simp [ew_, nw_, hlj]) | simp [ew_, hlj])
        | ((first | rw [if_pos (by first | omega | (simp only [maxLen]; omega))] | rw [if_neg (by first | omega | (simp only [maxLen]; omega))] | rw [frzOwn_neat (by simp) (by simp <;> omega)] | rw [fzOwn_neat (by simp) (by simp <;> omega)]); try simp [hlj])
        | ((first | refine TstB.go (fun hw_ ew_ => ?_) (fun hw_ ew_ => ?_)) <;> first | (exfalso; first | omega | with_reducible exact hw_ (by assumption) | with_reducible exact absurd hw_ (by assumption)) | simp [ew_, hlj])
        | fail)
      refine AW.seqA (lit := fun _ => false) ?_
      try simp [hlj, hdd, hm2, htl]
      repeat' (first
        | ((first | refine Tst.go (fun hw_ ew_ => ?_) (fun hw_ ew_ => ?_)) <;> first | (exfalso; first | omega | with_reducible exact hw_ (by assumption) | with_reducible exact absurd hw_ (by assumption)) | (have nw_ := Nw.nw hw_; simp [ew_, nw_, hlj, hdd, hm2, htl]) | simp [ew_, hlj, hdd, hm2, htl])
        | ((first | rw [if_pos (by first | omega | (simp only [maxLen]; omega))] | rw [if_neg (by first | omega | (simp only [maxLen]; omega))] | rw [frzOwn_neat (by simp) (by simp <;> omega)] | rw [fzOwn_neat (by simp) (by simp <;> omega)]); try simp [hlj, hdd, hm2, htl])
        | ((first | refine TstB.go (fun hw_ ew_ => ?_) (fun hw_ ew_ => ?_)) <;> first | (exfalso; first | omega | with_reducible exact hw_ (by assumption) | with_reducible exact absurd hw_ (by assumption)) | simp [ew_, hlj, hdd, hm2, htl])
        | fail)
      refine AW.wkZ (WkZ.freeze [0, 1] 16 (.fp [I c, I e, I l[q].done, encL DecisionR.enc (l[q].l.take j ++ ⟨n, yes⟩ :: l[q].l.drop j)]) (by simp; rw [fzOwn_neat (by simp) (by simp [hlj]; omega)]; simp [DecisionR.enc, hm2, hlj]; omega)) ?_
      refine AX_ok (lit := fun _ => false) _ _ _ ?_
      simp
      try simp
      repeat' (first
        | ((first | refine Tst.go (fun hw_ ew_ => ?_) (fun hw_ ew_ => ?_)) <;> first | (exfalso; first | omega | with_reducible exact hw_ (by assumption) | with_reducible exact absurd hw_ (by assumption)) | (have nw_ := Nw.nw hw_; simp [ew_, nw_]) | simp [ew_])
        | ((first | (refine Pc.go (hput) ?_ ?_; focus (first | rfl | (simp; done))) | rw [if_pos (by first | omega | (simp only [maxLen]; omega))] | rw [if_neg (by first | omega | (simp only [maxLen]; omega))] | rw [frzOwn_neat (by simp) (by simp <;> omega)] | rw [fzOwn_neat (by simp) (by simp <;> omega)]); try simp)
        | ((first | refine TstB.go (fun hw_ ew_ => ?_) (fun hw_ ew_ => ?_)) <;> first | (exfalso; first | omega | with_reducible exact hw_ (by assumption) | with_reducible exact absurd hw_ (by assumption)) | simp [ew_])
        | fail)
    rw [hdj, List.takeWhile_cons_of_pos (by simpa using hs2)] at g2
    rw [hdj, List.dropWhile_cons_of_pos (by simpa using hs2)] at g3
    have hwj := wrap_nat hj (by simp only [maxLen]; omega)
    have htk : l[q].l.take (j + 1) = l[q].l.take j ++ [l[q].l[j]] := by simp
    have hfm : (l[q].l.take (j + 1)).flatMap DecisionR.enc = (l[q].l.take j).flatMap DecisionR.enc ++ l[q].l[j].enc := by rw [htk, List.flatMap_append]; simp
    have hsq := seq_at hj
    try simp [hj, hwj, hs2, hlj, hsq]
    repeat' (first
      | ((first | refine Tst.go (fun hw_ ew_ => ?_) (fun hw_ ew_ => ?_)) <;> first | (exfalso; first | omega | with_reducible exact hw_ (by assumption) | with_reducible exact absurd hw_ (by assumption)) | (have nw_ := Nw.nw hw_; simp [ew_, nw_, hj, hwj, hs2, hlj, hsq]) | simp [ew_, hj, hwj, hs2, hlj, hsq])
      | (exact hA (j + 1) _ (Wk.cutAt _ rfl (by simp [hlj, hfm]) (by simp [hlj, hfm]) (by simp [hlj, hfm]) (by simp [hlj, hfm])) ⟨hj, by rw [htk, List.append_assoc]; exact g2, g3⟩ (by omega))
      | ((first | rw [if_pos (by first | omega | (simp only [maxLen]; omega))] | rw [if_neg (by first | omega | (simp only [maxLen]; omega))] | rw [frzOwn_neat (by simp) (by simp <;> omega)] | rw [fzOwn_neat (by simp) (by simp <;> omega)]); try simp [hj, hwj, hs2, hlj, hsq])
      | ((first | refine TstB.go (fun hw_ ew_ => ?_) (fun hw_ ew_ => ?_)) <;> first | (exfalso; first | omega | with_reducible exact hw_ (by assumption) | with_reducible exact absurd hw_ (by assumption)) | simp [ew_, hj, hwj, hs2, hlj, hsq])
      | fail)
end Go.Proofs.Ytpbjeabigckijaa
