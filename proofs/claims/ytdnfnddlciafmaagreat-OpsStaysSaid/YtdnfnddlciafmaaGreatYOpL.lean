import Derived.Test.YtdnfnddlciafmaaGreatYOpK
set_option linter.unusedVariables false
set_option linter.unusedSimpArgs false
namespace Go.Proofs.YtdnfnddlciafmaaGreat
open Go.Cx Tab
set_option maxHeartbeats 400000
set_option maxRecDepth 40000
theorem add1_ok (s : ByteArray) (d : NodeR) (f : FSR) (n : NodeR) (hr : RowE d.l) : PCall Tryz.prog 222 [.fp [S s], .fp d.enc, .fp f.enc, .fp n.enc] (I (mayD f d s n)) := by
  have h1 := check_ok s
  have h2 := there_ok d s hr.rise (by have := hr.len; omega)
  have h3 := nright_ok n
  have e : ∀ a b c : Int, PCall Tryz.prog 186 [enc1 I [checkS s, a, b, c]] (I (firstS [checkS s, a, b, c])) := fun a b c => first_ok [checkS s, a, b, c] (by simp)
  unfold mayD
  generalize checkS s = k at *
  generalize (findE d.l s).2 = th at *
  generalize nodeOk n = ok at *
  cases th <;> cases ok <;> by_cases q1 : 256 ≤ f.l.length <;> by_cases q2 : 256 ≤ d.l.length <;> by_cases q3 : 0 < n.l.length
  all_goals
    refine PCall.mk (fun _ => false) Tryz.func222 rfl rfl rfl (Ent.mk Tryz.func222 (by kernel_rfl) rfl) (by simp) (by simp) fun hfit => ?_
    simp [Tryz.f222, unlessS, q1, q2, q3]
    try simp [q1, q2, q3, FSR.enc]
    repeat' (first
      | ((first | refine Tst.go (fun hw_ ew_ => ?_) (fun hw_ ew_ => ?_)) <;> first | (exfalso; first | omega | with_reducible exact hw_ (by assumption) | with_reducible exact absurd hw_ (by assumption)) | (have nw_ := Nw.nw hw_; simp [ew_, nw_, q1, q2, q3, FSR.enc]) | simp [ew_, q1, q2, q3, FSR.enc])
      | ((first | (refine Pc.go (h1) ?_ ?_; focus (first | rfl | (simp [q1, q2, q3, FSR.enc]; done))) | (refine Pc.go (h2) ?_ ?_; focus (first | rfl | (simp [q1, q2, q3, FSR.enc]; done))) | (refine Pc.go (h3) ?_ ?_; focus (first | rfl | (simp [q1, q2, q3, FSR.enc]; done))) | (refine Pc.go (unl_t 7) ?_ ?_; focus (first | rfl | (simp [q1, q2, q3, FSR.enc]; done))) | (refine Pc.go (unl_f 7) ?_ ?_; focus (first | rfl | (simp [q1, q2, q3, FSR.enc]; done))) | (refine Pc.go (unl_t 12) ?_ ?_; focus (first | rfl | (simp [q1, q2, q3, FSR.enc]; done))) | (refine Pc.go (unl_f 12) ?_ ?_; focus (first | rfl | (simp [q1, q2, q3, FSR.enc]; done))) | (refine Pc.go (unl_t 1) ?_ ?_; focus (first | rfl | (simp [q1, q2, q3, FSR.enc]; done))) | (refine Pc.go (unl_f 1) ?_ ?_; focus (first | rfl | (simp [q1, q2, q3, FSR.enc]; done))) | (refine Lc.go (e 0 0 0) rfl ?_ ?_; focus (first | (simp [q1, q2, q3, FSR.enc]; done) | (simp; rw [frzOwn_neat (by simp) (by simp <;> omega)]; simp [q1, q2, q3, FSR.enc]; done))) | (refine Sc.go (e 0 0 0) ?_ ?_; focus (simp [q1, q2, q3, FSR.enc]; done)) | (refine Lc.go (e 0 0 1) rfl ?_ ?_; focus (first | (simp [q1, q2, q3, FSR.enc]; done) | (simp; rw [frzOwn_neat (by simp) (by simp <;> omega)]; simp [q1, q2, q3, FSR.enc]; done))) | (refine Sc.go (e 0 0 1) ?_ ?_; focus (simp [q1, q2, q3, FSR.enc]; done)) | (refine Lc.go (e 0 12 0) rfl ?_ ?_; focus (first | (simp [q1, q2, q3, FSR.enc]; done) | (simp; rw [frzOwn_neat (by simp) (by simp <;> omega)]; simp [q1, q2, q3, FSR.enc]; done))) | (refine Sc.go (e 0 12 0) ?_ ?_; focus (simp [q1, q2, q3, FSR.enc]; done)) | (refine Lc.go (e 0 12 1) rfl ?_ ?_; focus (first | (simp [q1, q2, q3, FSR.enc]; done) | (simp; rw [frzOwn_neat (by simp) (by simp <;> omega)]; simp [q1, q2, q3, FSR.enc]; done))) | (refine Sc.go (e 0 12 1) ?_ ?_; focus (simp [q1, q2, q3, FSR.enc]; done)) | (refine Lc.go (e 7 0 0) rfl ?_ ?_; focus (first | (simp [q1, q2, q3, FSR.enc]; done) | (simp; rw [frzOwn_neat (by simp) (by simp <;> omega)]; simp [q1, q2, q3, FSR.enc]; done))) | (refine Sc.go (e 7 0 0) ?_ ?_; focus (simp [q1, q2, q3, FSR.enc]; done)) | (refine Lc.go (e 7 0 1) rfl ?_ ?_; focus (first | (simp [q1, q2, q3, FSR.enc]; done) | (simp; rw [frzOwn_neat (by simp) (by simp <;> omega)]; simp [q1, q2, q3, FSR.enc]; done))) | (refine Sc.go (e 7 0 1) ?_ ?_; focus (simp [q1, q2, q3, FSR.enc]; done)) | (refine Lc.go (e 7 12 0) rfl ?_ ?_; focus (first | (simp [q1, q2, q3, FSR.enc]; done) | (simp; rw [frzOwn_neat (by simp) (by simp <;> omega)]; simp [q1, q2, q3, FSR.enc]; done))) | (refine Sc.go (e 7 12 0) ?_ ?_; focus (simp [q1, q2, q3, FSR.enc]; done)) | (refine Lc.go (e 7 12 1) rfl ?_ ?_; focus (first | (simp [q1, q2, q3, FSR.enc]; done) | (simp; rw [frzOwn_neat (by simp) (by simp <;> omega)]; simp [q1, q2, q3, FSR.enc]; done))) | (refine Sc.go (e 7 12 1) ?_ ?_; focus (simp [q1, q2, q3, FSR.enc]; done)) | refine AW.draw (id := 1) Tryz.checked.mixed (fun _ => false) [] [] 30 (by kernel_rfl) ?_ | rw [if_pos (by first | omega | (simp only [maxLen]; omega))] | rw [if_neg (by first | omega | (simp only [maxLen]; omega))] | rw [frzOwn_neat (by simp) (by simp <;> omega)] | rw [fzOwn_neat (by simp) (by simp <;> omega)]); try simp [q1, q2, q3, FSR.enc])
      | ((first | refine TstB.go (fun hw_ ew_ => ?_) (fun hw_ ew_ => ?_)) <;> first | (exfalso; first | omega | with_reducible exact hw_ (by assumption) | with_reducible exact absurd hw_ (by assumption)) | simp [ew_, q1, q2, q3, FSR.enc])
      | fail)
theorem newN_enc (f : FSR) (n : NodeR) : (n.enc.set 0 (AV.val (.int .i64 f.next))).set 2 (AV.val (.int .i64 1)) = (newN f n).enc := rfl
theorem add_ok (f : FSR) (dir : Int) (s : ByteArray) (n : NodeR) (h : RowsF f) (hb : f.next < 4611686018427387904) : PCall Tryz.prog 192 [encF f, I dir, S s, encN n] (.tup [encF (addD f dir s n).1, I (addD f dir s n).2]) := by
  have hlen := h.len
  have hnx := h.next
  have hrow := h.dirRow dir
  have h1 := dir_ok f dir (by omega)
  have h2 := add1_ok s (dirD f dir).1 f (newN f n) hrow
  have h3 := first_ok [(dirD f dir).2, mayD f (dirD f dir).1 s (newN f n)] (by simp)
  rw [addD_eq]
  by_cases q : firstS [(dirD f dir).2, mayD f (dirD f dir).1 s (newN f n)] = 0
  · obtain ⟨q1, q2⟩ := first_two q
    obtain ⟨g1, g2, g3⟩ := dirD_ok q1
    have hs := entered_same h g1 g2 s f.next
    have hn := h.num dir
    rw [g3] at hrow
    have h4 := entered_ok f (findB f.l dir).1 s f.next hrow (by omega) ⟨by omega, by omega⟩ (by omega)
    have e : putB f { (findB f.l dir).1 with l := (enterE (findB f.l dir).1.l s f.next).1 } = enteredD f dir s f.next := rfl
    rw [e] at h4
    have h5 := tput_ok (enteredD f dir s f.next) (newN f n) (by have := hs.len; omega) (by simp only [newN]; exact ⟨by omega, by omega⟩) (by simp only [newN]; omega)
    rw [if_pos q]
    rw [g3] at h1 h2 h3 q
    rw [q] at h3
    generalize enteredD f dir s f.next = K at *
    generalize mayD f (findB f.l dir).1 s (newN f n) = m at *
    generalize (dirD f dir).2 = De at *
    subst q1
    refine PCall.mk (fun _ => false) Tryz.func192 rfl rfl rfl (Ent.mk Tryz.func192 (by kernel_rfl) rfl) (by simp) (by simp) fun hfit => ?_
    simp [Tryz.f192]
    try simp [newN_enc, FSR.enc]
    repeat' (first
      | ((first | refine Tst.go (fun hw_ ew_ => ?_) (fun hw_ ew_ => ?_)) <;> first | (exfalso; first | omega | with_reducible exact hw_ (by assumption) | with_reducible exact absurd hw_ (by assumption)) | (have nw_ := Nw.nw hw_; simp [ew_, nw_, newN_enc, FSR.enc]) | simp [ew_, newN_enc, FSR.enc])
      | ((first | (refine Pc.go (h1) ?_ ?_; focus (first | rfl | (simp [newN_enc, FSR.enc]; done))) | (refine Lc.go (h2) rfl ?_ ?_; focus (first | (simp [newN_enc, FSR.enc]; done) | (simp; rw [frzOwn_neat (by simp) (by simp <;> omega)]; simp [newN_enc, FSR.enc]; done))) | (refine Sc.go (h2) ?_ ?_; focus (simp [newN_enc, FSR.enc]; done)) | (refine Lc.go (h3) rfl ?_ ?_; focus (first | (simp [newN_enc, FSR.enc]; done) | (simp; rw [frzOwn_neat (by simp) (by simp <;> omega)]; simp [newN_enc, FSR.enc]; done))) | (refine Sc.go (h3) ?_ ?_; focus (simp [newN_enc, FSR.enc]; done)) | (refine Pc.go (h4) ?_ ?_; focus (first | rfl | (simp [newN_enc, FSR.enc]; done))) | (refine Pc.go (h5) ?_ ?_; focus (first | rfl | (simp [newN_enc, FSR.enc]; done))) | refine AW.draw (id := 7) Tryz.checked.mixed (fun _ => false) [] [] 8 (by kernel_rfl) ?_ | rw [if_pos (by first | omega | (simp only [maxLen]; omega))] | rw [if_neg (by first | omega | (simp only [maxLen]; omega))] | rw [frzOwn_neat (by simp) (by simp <;> omega)] | rw [fzOwn_neat (by simp) (by simp <;> omega)]); try simp [newN_enc, FSR.enc])
      | ((first | refine TstB.go (fun hw_ ew_ => ?_) (fun hw_ ew_ => ?_)) <;> first | (exfalso; first | omega | with_reducible exact hw_ (by assumption) | with_reducible exact absurd hw_ (by assumption)) | simp [ew_, newN_enc, FSR.enc])
      | fail)
  · rw [if_neg q]
    generalize mayD f (dirD f dir).1 s (newN f n) = m at *
    generalize dirD f dir = D at *
    generalize firstS [D.2, m] = r at *
    refine PCall.mk (fun _ => false) Tryz.func192 rfl rfl rfl (Ent.mk Tryz.func192 (by kernel_rfl) rfl) (by simp) (by simp) fun hfit => ?_
    simp [Tryz.f192]
    try simp [q, newN_enc, FSR.enc]
    repeat' (first
      | ((first | refine Tst.go (fun hw_ ew_ => ?_) (fun hw_ ew_ => ?_)) <;> first | (exfalso; first | omega | with_reducible exact hw_ (by assumption) | with_reducible exact absurd hw_ (by assumption)) | (have nw_ := Nw.nw hw_; simp [ew_, nw_, q, newN_enc, FSR.enc]) | simp [ew_, q, newN_enc, FSR.enc])
      | ((first | (refine Pc.go (h1) ?_ ?_; focus (first | rfl | (simp [q, newN_enc, FSR.enc]; done))) | (refine Lc.go (h2) rfl ?_ ?_; focus (first | (simp [q, newN_enc, FSR.enc]; done) | (simp; rw [frzOwn_neat (by simp) (by simp <;> omega)]; simp [q, newN_enc, FSR.enc]; done))) | (refine Sc.go (h2) ?_ ?_; focus (simp [q, newN_enc, FSR.enc]; done)) | (refine Lc.go (h3) rfl ?_ ?_; focus (first | (simp [q, newN_enc, FSR.enc]; done) | (simp; rw [frzOwn_neat (by simp) (by simp <;> omega)]; simp [q, newN_enc, FSR.enc]; done))) | (refine Sc.go (h3) ?_ ?_; focus (simp [q, newN_enc, FSR.enc]; done)) | refine AW.draw (id := 7) Tryz.checked.mixed (fun _ => false) [] [] 8 (by kernel_rfl) ?_ | rw [if_pos (by first | omega | (simp only [maxLen]; omega))] | rw [if_neg (by first | omega | (simp only [maxLen]; omega))] | rw [frzOwn_neat (by simp) (by simp <;> omega)] | rw [fzOwn_neat (by simp) (by simp <;> omega)]); try simp [q, newN_enc, FSR.enc])
      | ((first | refine TstB.go (fun hw_ ew_ => ?_) (fun hw_ ew_ => ?_)) <;> first | (exfalso; first | omega | with_reducible exact hw_ (by assumption) | with_reducible exact absurd hw_ (by assumption)) | simp [ew_, q, newN_enc, FSR.enc])
      | fail)
end Go.Proofs.YtdnfnddlciafmaaGreat
