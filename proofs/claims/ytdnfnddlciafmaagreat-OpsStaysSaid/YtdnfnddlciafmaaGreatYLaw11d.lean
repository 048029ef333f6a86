import Derived.Test.YtdnfnddlciafmaaGreatYLaw11b
import Derived.Test.YtdnfnddlciafmaaGreatYBp
set_option linter.unusedVariables false
set_option linter.unusedSimpArgs false
namespace Go.Proofs.YtdnfnddlciafmaaGreat
open Go.Cx Tab
set_option maxHeartbeats 400000
set_option maxRecDepth 40000
theorem few_right {f : FSR} (h : fewOk f = true) : RowsF f ∧ TreeP f ∧ f.next < 1152921504606846976 ∧ fewS f = true := by
  simp only [fewOk, Bool.and_eq_true, decide_eq_true_eq] at h
  obtain ⟨R, F⟩ := (right_iff f).1 h.1.2
  exact ⟨R, F.tree R, h.2, h.1.1⟩
theorem law_stays (f : FSR) (c : CallR) (hwf : c.wf) : PCall Tryz.prog 3 [encF f, encC c] (B true) := by
  have h0 := shown11_ok
  have h1 := few11_ok f
  have h2 := small_ok [c]
  cases q1 : fewOk f with
  | false =>
    rw [q1] at h1
    refine PCall.mk (fun _ => false) Tryz.func3 rfl rfl rfl (Ent.mk Tryz.func3 (by kernel_rfl) rfl) (by simp) (by simp) fun hfit => ?_
    simp [Tryz.f3]
    try simp
    repeat' (first
      | ((first | refine Tst.go (fun hw_ ew_ => ?_) (fun hw_ ew_ => ?_)) <;> first | (exfalso; first | omega | with_reducible exact hw_ (by assumption) | with_reducible exact absurd hw_ (by assumption)) | (have nw_ := Nw.nw hw_; simp [ew_, nw_]) | simp [ew_])
      | ((first | (refine Pc.go (h0) ?_ ?_; focus (first | rfl | (simp; done))) | (refine Pc.go (h1) ?_ ?_; focus (first | rfl | (simp; done))) | rw [if_pos (by first | omega | (simp only [maxLen]; omega))] | rw [if_neg (by first | omega | (simp only [maxLen]; omega))] | rw [frzOwn_neat (by simp) (by simp <;> omega)] | rw [fzOwn_neat (by simp) (by simp <;> omega)]); try simp)
      | ((first | refine TstB.go (fun hw_ ew_ => ?_) (fun hw_ ew_ => ?_)) <;> first | (exfalso; first | omega | with_reducible exact hw_ (by assumption) | with_reducible exact absurd hw_ (by assumption)) | simp [ew_])
      | fail)
  | true =>
  rw [q1] at h1
  cases q2 : smallS [c] with
  | false =>
    rw [q2] at h2
    refine PCall.mk (fun _ => false) Tryz.func3 rfl rfl rfl (Ent.mk Tryz.func3 (by kernel_rfl) rfl) (by simp) (by simp) fun hfit => ?_
    simp [Tryz.f3]
    try simp
    repeat' (first
      | ((first | refine Tst.go (fun hw_ ew_ => ?_) (fun hw_ ew_ => ?_)) <;> first | (exfalso; first | omega | with_reducible exact hw_ (by assumption) | with_reducible exact absurd hw_ (by assumption)) | (have nw_ := Nw.nw hw_; simp [ew_, nw_]) | simp [ew_])
      | ((first | (refine Pc.go (h0) ?_ ?_; focus (first | rfl | (simp; done))) | (refine Pc.go (h1) ?_ ?_; focus (first | rfl | (simp; done))) | (refine Lc.go (h2) rfl ?_ ?_; focus (first | (simp; done) | (simp; rw [frzOwn_neat (by simp) (by simp <;> omega)]; simp; done))) | rw [if_pos (by first | omega | (simp only [maxLen]; omega))] | rw [if_neg (by first | omega | (simp only [maxLen]; omega))] | rw [frzOwn_neat (by simp) (by simp <;> omega)] | rw [fzOwn_neat (by simp) (by simp <;> omega)]); try simp)
      | ((first | refine TstB.go (fun hw_ ew_ => ?_) (fun hw_ ew_ => ?_)) <;> first | (exfalso; first | omega | with_reducible exact hw_ (by assumption) | with_reducible exact absurd hw_ (by assumption)) | simp [ew_])
      | fail)
  | true =>
  rw [q2] at h2
  obtain ⟨R, T, hnx, _⟩ := few_right q1
  have K := doS_kept R T c
  have d1 := do_ok f c R (by omega) hwf (calm_of R T c)
  have e1 := doS_err f c
  have e2 := doS_looks f c
  have hr : rightF (doS f c).1 = true := (right_iff _).2 ⟨K.rows, K.tree.right K.rows⟩
  have h3 := rright08_ok (doS f c).1
  rw [hr] at h3
  have h4 := rsame08_ok f f
  simp only [decide_true] at h4
  generalize doS f c = X at *
  obtain ⟨k, r⟩ := X
  simp only at e1 e2 h3
  have hc : encC c = .agg [I c.kind, I c.ino, I c.to_, I c.at_, I c.many, S c.name, S c.name2, S c.text] := rfl
  by_cases z : r.e = 0
  · by_cases z1 : c.kind ≤ 3
    · have := e2 (.inl z1)
      subst this
      refine PCall.mk (fun _ => false) Tryz.func3 rfl rfl rfl (Ent.mk Tryz.func3 (by kernel_rfl) rfl) (by simp) (by simp) fun hfit => ?_
      simp [Tryz.f3]
      try simp [z, z1, CallR.enc, ReplyR.enc]
      repeat' (first
        | ((first | refine Tst.go (fun hw_ ew_ => ?_) (fun hw_ ew_ => ?_)) <;> first | (exfalso; first | omega | with_reducible exact hw_ (by assumption) | with_reducible exact absurd hw_ (by assumption)) | (have nw_ := Nw.nw hw_; simp [ew_, nw_, z, z1, CallR.enc, ReplyR.enc]) | simp [ew_, z, z1, CallR.enc, ReplyR.enc])
        | ((first | (refine Pc.go (h0) ?_ ?_; focus (first | rfl | (simp [z, z1, CallR.enc, ReplyR.enc]; done))) | (refine Pc.go (h1) ?_ ?_; focus (first | rfl | (simp [z, z1, CallR.enc, ReplyR.enc]; done))) | (refine Lc.go (h2) rfl ?_ ?_; focus (first | (simp [z, z1, CallR.enc, ReplyR.enc]; done) | (simp; rw [frzOwn_neat (by simp) (by simp <;> omega)]; simp [z, z1, CallR.enc, ReplyR.enc]; done))) | (refine Pc.go (d1) ?_ ?_; focus (first | rfl | (simp [z, z1, CallR.enc, ReplyR.enc]; done))) | (refine Pc.go (h3) ?_ ?_; focus (first | rfl | (simp [z, z1, CallR.enc, ReplyR.enc]; done))) | (refine Pc.go (h4) ?_ ?_; focus (first | rfl | (simp [z, z1, CallR.enc, ReplyR.enc]; done))) | rw [if_pos (by first | omega | (simp only [maxLen]; omega))] | rw [if_neg (by first | omega | (simp only [maxLen]; omega))] | rw [frzOwn_neat (by simp) (by simp <;> omega)] | rw [fzOwn_neat (by simp) (by simp <;> omega)]); try simp [z, z1, CallR.enc, ReplyR.enc])
        | ((first | refine TstB.go (fun hw_ ew_ => ?_) (fun hw_ ew_ => ?_)) <;> first | (exfalso; first | omega | with_reducible exact hw_ (by assumption) | with_reducible exact absurd hw_ (by assumption)) | simp [ew_, z, z1, CallR.enc, ReplyR.enc])
        | fail)
    by_cases z2 : 13 ≤ c.kind
    · have := e2 (.inr z2)
      subst this
      refine PCall.mk (fun _ => false) Tryz.func3 rfl rfl rfl (Ent.mk Tryz.func3 (by kernel_rfl) rfl) (by simp) (by simp) fun hfit => ?_
      simp [Tryz.f3]
      try simp [z, z1, z2, CallR.enc, ReplyR.enc]
      repeat' (first
        | ((first | refine Tst.go (fun hw_ ew_ => ?_) (fun hw_ ew_ => ?_)) <;> first | (exfalso; first | omega | with_reducible exact hw_ (by assumption) | with_reducible exact absurd hw_ (by assumption)) | (have nw_ := Nw.nw hw_; simp [ew_, nw_, z, z1, z2, CallR.enc, ReplyR.enc]) | simp [ew_, z, z1, z2, CallR.enc, ReplyR.enc])
        | ((first | (refine Pc.go (h0) ?_ ?_; focus (first | rfl | (simp [z, z1, z2, CallR.enc, ReplyR.enc]; done))) | (refine Pc.go (h1) ?_ ?_; focus (first | rfl | (simp [z, z1, z2, CallR.enc, ReplyR.enc]; done))) | (refine Lc.go (h2) rfl ?_ ?_; focus (first | (simp [z, z1, z2, CallR.enc, ReplyR.enc]; done) | (simp; rw [frzOwn_neat (by simp) (by simp <;> omega)]; simp [z, z1, z2, CallR.enc, ReplyR.enc]; done))) | (refine Pc.go (d1) ?_ ?_; focus (first | rfl | (simp [z, z1, z2, CallR.enc, ReplyR.enc]; done))) | (refine Pc.go (h3) ?_ ?_; focus (first | rfl | (simp [z, z1, z2, CallR.enc, ReplyR.enc]; done))) | (refine Pc.go (h4) ?_ ?_; focus (first | rfl | (simp [z, z1, z2, CallR.enc, ReplyR.enc]; done))) | rw [if_pos (by first | omega | (simp only [maxLen]; omega))] | rw [if_neg (by first | omega | (simp only [maxLen]; omega))] | rw [frzOwn_neat (by simp) (by simp <;> omega)] | rw [fzOwn_neat (by simp) (by simp <;> omega)]); try simp [z, z1, z2, CallR.enc, ReplyR.enc])
        | ((first | refine TstB.go (fun hw_ ew_ => ?_) (fun hw_ ew_ => ?_)) <;> first | (exfalso; first | omega | with_reducible exact hw_ (by assumption) | with_reducible exact absurd hw_ (by assumption)) | simp [ew_, z, z1, z2, CallR.enc, ReplyR.enc])
        | fail)
    · refine PCall.mk (fun _ => false) Tryz.func3 rfl rfl rfl (Ent.mk Tryz.func3 (by kernel_rfl) rfl) (by simp) (by simp) fun hfit => ?_
      simp [Tryz.f3]
      try simp [z, z1, z2, CallR.enc, ReplyR.enc]
      repeat' (first
        | ((first | refine Tst.go (fun hw_ ew_ => ?_) (fun hw_ ew_ => ?_)) <;> first | (exfalso; first | omega | with_reducible exact hw_ (by assumption) | with_reducible exact absurd hw_ (by assumption)) | (have nw_ := Nw.nw hw_; simp [ew_, nw_, z, z1, z2, CallR.enc, ReplyR.enc]) | simp [ew_, z, z1, z2, CallR.enc, ReplyR.enc])
        | ((first | (refine Pc.go (h0) ?_ ?_; focus (first | rfl | (simp [z, z1, z2, CallR.enc, ReplyR.enc]; done))) | (refine Pc.go (h1) ?_ ?_; focus (first | rfl | (simp [z, z1, z2, CallR.enc, ReplyR.enc]; done))) | (refine Lc.go (h2) rfl ?_ ?_; focus (first | (simp [z, z1, z2, CallR.enc, ReplyR.enc]; done) | (simp; rw [frzOwn_neat (by simp) (by simp <;> omega)]; simp [z, z1, z2, CallR.enc, ReplyR.enc]; done))) | (refine Pc.go (d1) ?_ ?_; focus (first | rfl | (simp [z, z1, z2, CallR.enc, ReplyR.enc]; done))) | (refine Pc.go (h3) ?_ ?_; focus (first | rfl | (simp [z, z1, z2, CallR.enc, ReplyR.enc]; done))) | (refine Pc.go (h4) ?_ ?_; focus (first | rfl | (simp [z, z1, z2, CallR.enc, ReplyR.enc]; done))) | rw [if_pos (by first | omega | (simp only [maxLen]; omega))] | rw [if_neg (by first | omega | (simp only [maxLen]; omega))] | rw [frzOwn_neat (by simp) (by simp <;> omega)] | rw [fzOwn_neat (by simp) (by simp <;> omega)]); try simp [z, z1, z2, CallR.enc, ReplyR.enc])
        | ((first | refine TstB.go (fun hw_ ew_ => ?_) (fun hw_ ew_ => ?_)) <;> first | (exfalso; first | omega | with_reducible exact hw_ (by assumption) | with_reducible exact absurd hw_ (by assumption)) | simp [ew_, z, z1, z2, CallR.enc, ReplyR.enc])
        | fail)
  · obtain ⟨z1, z2⟩ := e1 z
    generalize r.e = e at *
    subst z1 z2
    have e0 : (ByteArray.empty = { data := #[] }) = True := eq_true rfl
    refine PCall.mk (fun _ => false) Tryz.func3 rfl rfl rfl (Ent.mk Tryz.func3 (by kernel_rfl) rfl) (by simp) (by simp) fun hfit => ?_
    simp [Tryz.f3]
    try simp [z, e0, CallR.enc, errR, ReplyR.enc]
    repeat' (first
      | ((first | refine Tst.go (fun hw_ ew_ => ?_) (fun hw_ ew_ => ?_)) <;> first | (exfalso; first | omega | with_reducible exact hw_ (by assumption) | with_reducible exact absurd hw_ (by assumption)) | (have nw_ := Nw.nw hw_; simp [ew_, nw_, z, e0, CallR.enc, errR, ReplyR.enc]) | simp [ew_, z, e0, CallR.enc, errR, ReplyR.enc])
      | ((first | (refine Pc.go (h0) ?_ ?_; focus (first | rfl | (simp [z, e0, CallR.enc, errR, ReplyR.enc]; done))) | (refine Pc.go (h1) ?_ ?_; focus (first | rfl | (simp [z, e0, CallR.enc, errR, ReplyR.enc]; done))) | (refine Lc.go (h2) rfl ?_ ?_; focus (first | (simp [z, e0, CallR.enc, errR, ReplyR.enc]; done) | (simp; rw [frzOwn_neat (by simp) (by simp <;> omega)]; simp [z, e0, CallR.enc, errR, ReplyR.enc]; done))) | (refine Pc.go (d1) ?_ ?_; focus (first | rfl | (simp [z, e0, CallR.enc, errR, ReplyR.enc]; done))) | (refine Pc.go (h3) ?_ ?_; focus (first | rfl | (simp [z, e0, CallR.enc, errR, ReplyR.enc]; done))) | (refine Pc.go (h4) ?_ ?_; focus (first | rfl | (simp [z, e0, CallR.enc, errR, ReplyR.enc]; done))) | rw [if_pos (by first | omega | (simp only [maxLen]; omega))] | rw [if_neg (by first | omega | (simp only [maxLen]; omega))] | rw [frzOwn_neat (by simp) (by simp <;> omega)] | rw [fzOwn_neat (by simp) (by simp <;> omega)]); try simp [z, e0, CallR.enc, errR, ReplyR.enc])
      | ((first | refine TstB.go (fun hw_ ew_ => ?_) (fun hw_ ew_ => ?_)) <;> first | (exfalso; first | omega | with_reducible exact hw_ (by assumption) | with_reducible exact absurd hw_ (by assumption)) | simp [ew_, z, e0, CallR.enc, errR, ReplyR.enc])
      | fail)
end Go.Proofs.YtdnfnddlciafmaaGreat
