/- The statements of layer 8 hold, part three: TreeTurns. -/
import Derived.Test.YtjelapkglkcoiaaLaw08
import Derived.Test.YtjelapkglkcoiaaTreI
set_option linter.unusedVariables false
set_option linter.unusedSimpArgs false
namespace Go.Proofs.Ytjelapkglkcoiaa
open Go.Cx Tab
set_option maxHeartbeats 400000
set_option maxRecDepth 40000

theorem law_turns (w : TreeTurnsInR) (hwf : w.wf) : PCall Try.prog 15 [.agg w.enc] (B true) := by
  obtain ⟨f, n, ino, s⟩ := w
  obtain ⟨_, hn, _, _⟩ := hwf
  simp only at hn
  have h0 := shown08_ok
  by_cases hs : 5000 < s.size
  · refine PCall.mk (fun _ => false) Try.func15 rfl rfl rfl (Ent.mk Try.func15 (by kernel_rfl) rfl) (by simp) (by simp) fun hfit => ?_
    simp [Try.f15]
    try simp [hs]
    repeat' (first
      | ((first | refine Tst.go (fun hw_ ew_ => ?_) (fun hw_ ew_ => ?_)) <;> first | (exfalso; first | omega | with_reducible exact hw_ (by assumption) | with_reducible exact absurd hw_ (by assumption)) | (have nw_ := Nw.nw hw_; simp [ew_, nw_, hs]) | simp [ew_, hs])
      | ((first | (refine Pc.go (h0) ?_ ?_; focus (first | rfl | (simp [hs]; done))) | refine AW.draw (id := 15) Try.checked.mixed (fun _ => false) [] [] 20 (by kernel_rfl) ?_ | rw [if_pos (by first | omega | (simp only [maxLen]; omega))] | rw [if_neg (by first | omega | (simp only [maxLen]; omega))] | rw [frzOwn_neat (by simp) (by simp <;> omega)] | rw [fzOwn_neat (by simp) (by simp <;> omega)]); try simp [hs])
      | ((first | refine TstB.go (fun hw_ ew_ => ?_) (fun hw_ ew_ => ?_)) <;> first | (exfalso; first | omega | with_reducible exact hw_ (by assumption) | with_reducible exact absurd hw_ (by assumption)) | simp [ew_, hs])
      | fail)
  by_cases hnl : 200 < n.l.length
  · refine PCall.mk (fun _ => false) Try.func15 rfl rfl rfl (Ent.mk Try.func15 (by kernel_rfl) rfl) (by simp) (by simp) fun hfit => ?_
    simp [Try.f15]
    try simp [hs, hnl]
    repeat' (first
      | ((first | refine Tst.go (fun hw_ ew_ => ?_) (fun hw_ ew_ => ?_)) <;> first | (exfalso; first | omega | with_reducible exact hw_ (by assumption) | with_reducible exact absurd hw_ (by assumption)) | (have nw_ := Nw.nw hw_; simp [ew_, nw_, hs, hnl]) | simp [ew_, hs, hnl])
      | ((first | (refine Pc.go (h0) ?_ ?_; focus (first | rfl | (simp [hs, hnl]; done))) | refine AW.draw (id := 15) Try.checked.mixed (fun _ => false) [] [] 20 (by kernel_rfl) ?_ | rw [if_pos (by first | omega | (simp only [maxLen]; omega))] | rw [if_neg (by first | omega | (simp only [maxLen]; omega))] | rw [frzOwn_neat (by simp) (by simp <;> omega)] | rw [fzOwn_neat (by simp) (by simp <;> omega)]); try simp [hs, hnl])
      | ((first | refine TstB.go (fun hw_ ew_ => ?_) (fun hw_ ew_ => ?_)) <;> first | (exfalso; first | omega | with_reducible exact hw_ (by assumption) | with_reducible exact absurd hw_ (by assumption)) | simp [ew_, hs, hnl])
      | fail)
  have t1 := ttake_ok (bs s) (by simp; omega)
  have t2 := rttake_ok (bs s) (by simp; omega)
  rw [T_bs] at t1 t2
  generalize takeF (bs s) = r at t1 t2
  obtain ⟨a, e⟩ := r
  simp only at t1 t2
  have h3 := rsame08_ok a a
  simp only [decide_true] at h3
  have h1 := few_ok f
  have h2 := rrows_ok f
  have hnr := rnright_ok n
  by_cases hr : rowsOk f = true
  case neg =>
    rw [Bool.not_eq_true] at hr
    rw [hr] at h2
    refine PCall.mk (fun _ => false) Try.func15 rfl rfl rfl (Ent.mk Try.func15 (by kernel_rfl) rfl) (by simp) (by simp) fun hfit => ?_
    simp [Try.f15]
    try simp [hs, hnl]
    repeat' (first
      | ((first | refine Tst.go (fun hw_ ew_ => ?_) (fun hw_ ew_ => ?_)) <;> first | (exfalso; first | omega | with_reducible exact hw_ (by assumption) | with_reducible exact absurd hw_ (by assumption)) | (have nw_ := Nw.nw hw_; simp [ew_, nw_, hs, hnl]) | simp [ew_, hs, hnl])
      | ((first | (refine Pc.go (h0) ?_ ?_; focus (first | rfl | (simp [hs, hnl]; done))) | (refine Pc.go (t1) ?_ ?_; focus (first | rfl | (simp [hs, hnl]; done))) | (refine Pc.go (t2) ?_ ?_; focus (first | rfl | (simp [hs, hnl]; done))) | (refine Pc.go (h3) ?_ ?_; focus (first | rfl | (simp [hs, hnl]; done))) | (refine Pc.go (h1) ?_ ?_; focus (first | rfl | (simp [hs, hnl]; done))) | (refine Pc.go (h2) ?_ ?_; focus (first | rfl | (simp [hs, hnl]; done))) | refine AW.draw (id := 15) Try.checked.mixed (fun _ => false) [] [] 20 (by kernel_rfl) ?_ | rw [if_pos (by first | omega | (simp only [maxLen]; omega))] | rw [if_neg (by first | omega | (simp only [maxLen]; omega))] | rw [frzOwn_neat (by simp) (by simp <;> omega)] | rw [fzOwn_neat (by simp) (by simp <;> omega)]); try simp [hs, hnl])
      | ((first | refine TstB.go (fun hw_ ew_ => ?_) (fun hw_ ew_ => ?_)) <;> first | (exfalso; first | omega | with_reducible exact hw_ (by assumption) | with_reducible exact absurd hw_ (by assumption)) | simp [ew_, hs, hnl])
      | fail)
  rw [hr] at h2
  by_cases ho : nodeOk n = true
  case neg =>
    rw [Bool.not_eq_true] at ho
    rw [ho] at hnr
    refine PCall.mk (fun _ => false) Try.func15 rfl rfl rfl (Ent.mk Try.func15 (by kernel_rfl) rfl) (by simp) (by simp) fun hfit => ?_
    simp [Try.f15]
    try simp [hs, hnl]
    repeat' (first
      | ((first | refine Tst.go (fun hw_ ew_ => ?_) (fun hw_ ew_ => ?_)) <;> first | (exfalso; first | omega | with_reducible exact hw_ (by assumption) | with_reducible exact absurd hw_ (by assumption)) | (have nw_ := Nw.nw hw_; simp [ew_, nw_, hs, hnl]) | simp [ew_, hs, hnl])
      | ((first | (refine Pc.go (h0) ?_ ?_; focus (first | rfl | (simp [hs, hnl]; done))) | (refine Pc.go (t1) ?_ ?_; focus (first | rfl | (simp [hs, hnl]; done))) | (refine Pc.go (t2) ?_ ?_; focus (first | rfl | (simp [hs, hnl]; done))) | (refine Pc.go (h3) ?_ ?_; focus (first | rfl | (simp [hs, hnl]; done))) | (refine Pc.go (h1) ?_ ?_; focus (first | rfl | (simp [hs, hnl]; done))) | (refine Pc.go (h2) ?_ ?_; focus (first | rfl | (simp [hs, hnl]; done))) | (refine Pc.go (hnr) ?_ ?_; focus (first | rfl | (simp [hs, hnl]; done))) | refine AW.draw (id := 15) Try.checked.mixed (fun _ => false) [] [] 20 (by kernel_rfl) ?_ | rw [if_pos (by first | omega | (simp only [maxLen]; omega))] | rw [if_neg (by first | omega | (simp only [maxLen]; omega))] | rw [frzOwn_neat (by simp) (by simp <;> omega)] | rw [fzOwn_neat (by simp) (by simp <;> omega)]); try simp [hs, hnl])
      | ((first | refine TstB.go (fun hw_ ew_ => ?_) (fun hw_ ew_ => ?_)) <;> first | (exfalso; first | omega | with_reducible exact hw_ (by assumption) | with_reducible exact absurd hw_ (by assumption)) | simp [ew_, hs, hnl])
      | fail)
  rw [ho] at hnr
  by_cases hm : n.ino = 9223372036854775807
  · refine PCall.mk (fun _ => false) Try.func15 rfl rfl rfl (Ent.mk Try.func15 (by kernel_rfl) rfl) (by simp) (by simp) fun hfit => ?_
    simp [Try.f15]
    try simp [hs, hnl, hm]
    repeat' (first
      | ((first | refine Tst.go (fun hw_ ew_ => ?_) (fun hw_ ew_ => ?_)) <;> first | (exfalso; first | omega | with_reducible exact hw_ (by assumption) | with_reducible exact absurd hw_ (by assumption)) | (have nw_ := Nw.nw hw_; simp [ew_, nw_, hs, hnl, hm]) | simp [ew_, hs, hnl, hm])
      | ((first | (refine Pc.go (h0) ?_ ?_; focus (first | rfl | (simp [hs, hnl, hm]; done))) | (refine Pc.go (t1) ?_ ?_; focus (first | rfl | (simp [hs, hnl, hm]; done))) | (refine Pc.go (t2) ?_ ?_; focus (first | rfl | (simp [hs, hnl, hm]; done))) | (refine Pc.go (h3) ?_ ?_; focus (first | rfl | (simp [hs, hnl, hm]; done))) | (refine Pc.go (h1) ?_ ?_; focus (first | rfl | (simp [hs, hnl, hm]; done))) | (refine Pc.go (h2) ?_ ?_; focus (first | rfl | (simp [hs, hnl, hm]; done))) | (refine Pc.go (hnr) ?_ ?_; focus (first | rfl | (simp [hs, hnl, hm]; done))) | refine AW.draw (id := 15) Try.checked.mixed (fun _ => false) [] [] 20 (by kernel_rfl) ?_ | rw [if_pos (by first | omega | (simp only [maxLen]; omega))] | rw [if_neg (by first | omega | (simp only [maxLen]; omega))] | rw [frzOwn_neat (by simp) (by simp <;> omega)] | rw [fzOwn_neat (by simp) (by simp <;> omega)]); try simp [hs, hnl, hm])
      | ((first | refine TstB.go (fun hw_ ew_ => ?_) (fun hw_ ew_ => ?_)) <;> first | (exfalso; first | omega | with_reducible exact hw_ (by assumption) | with_reducible exact absurd hw_ (by assumption)) | simp [ew_, hs, hnl, hm])
      | fail)
  have R := (rows_iff f).1 hr
  have hl := R.len
  have h4 := tput_ok f n (by omega) hn.1 hm
  have h5 := rput_ok f n (by omega) hn.1 hm
  rw [putR_eq R.rise] at h5
  have h6 := tout_ok f ino (by omega)
  have h7 := rout_ok f ino (by omega)
  have h8 := rsame08_ok (putB f n) (putB f n)
  have h9 := rsame08_ok (outF f ino) (outF f ino)
  simp only [decide_true] at h8 h9
  generalize putB f n = p at *
  generalize outF f ino = o at *
  refine PCall.mk (fun _ => false) Try.func15 rfl rfl rfl (Ent.mk Try.func15 (by kernel_rfl) rfl) (by simp) (by simp) fun hfit => ?_
  simp [Try.f15]
  try simp [hs, hnl, hm]
  repeat' (first
    | ((first | refine Tst.go (fun hw_ ew_ => ?_) (fun hw_ ew_ => ?_)) <;> first | (exfalso; first | omega | with_reducible exact hw_ (by assumption) | with_reducible exact absurd hw_ (by assumption)) | (have nw_ := Nw.nw hw_; simp [ew_, nw_, hs, hnl, hm]) | simp [ew_, hs, hnl, hm])
    | ((first | (refine Pc.go (h0) ?_ ?_; focus (first | rfl | (simp [hs, hnl, hm]; done))) | (refine Pc.go (t1) ?_ ?_; focus (first | rfl | (simp [hs, hnl, hm]; done))) | (refine Pc.go (t2) ?_ ?_; focus (first | rfl | (simp [hs, hnl, hm]; done))) | (refine Pc.go (h3) ?_ ?_; focus (first | rfl | (simp [hs, hnl, hm]; done))) | (refine Pc.go (h1) ?_ ?_; focus (first | rfl | (simp [hs, hnl, hm]; done))) | (refine Pc.go (h2) ?_ ?_; focus (first | rfl | (simp [hs, hnl, hm]; done))) | (refine Pc.go (hnr) ?_ ?_; focus (first | rfl | (simp [hs, hnl, hm]; done))) | (refine Pc.go (h4) ?_ ?_; focus (first | rfl | (simp [hs, hnl, hm]; done))) | (refine Pc.go (h5) ?_ ?_; focus (first | rfl | (simp [hs, hnl, hm]; done))) | (refine Pc.go (h6) ?_ ?_; focus (first | rfl | (simp [hs, hnl, hm]; done))) | (refine Pc.go (h7) ?_ ?_; focus (first | rfl | (simp [hs, hnl, hm]; done))) | (refine Pc.go (h8) ?_ ?_; focus (first | rfl | (simp [hs, hnl, hm]; done))) | (refine Pc.go (h9) ?_ ?_; focus (first | rfl | (simp [hs, hnl, hm]; done))) | refine AW.draw (id := 15) Try.checked.mixed (fun _ => false) [] [] 20 (by kernel_rfl) ?_ | rw [if_pos (by first | omega | (simp only [maxLen]; omega))] | rw [if_neg (by first | omega | (simp only [maxLen]; omega))] | rw [frzOwn_neat (by simp) (by simp <;> omega)] | rw [fzOwn_neat (by simp) (by simp <;> omega)]); try simp [hs, hnl, hm])
    | ((first | refine TstB.go (fun hw_ ew_ => ?_) (fun hw_ ew_ => ?_)) <;> first | (exfalso; first | omega | with_reducible exact hw_ (by assumption) | with_reducible exact absurd hw_ (by assumption)) | simp [ew_, hs, hnl, hm])
    | fail)
end Go.Proofs.Ytjelapkglkcoiaa
