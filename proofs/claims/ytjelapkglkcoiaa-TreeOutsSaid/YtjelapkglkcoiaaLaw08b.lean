/- The statements of layer 8 hold, part two: TreeOuts, TreePuts. -/
import Derived.Test.YtjelapkglkcoiaaLaw08
import Derived.Test.YtjelapkglkcoiaaBg
set_option linter.unusedVariables false
set_option linter.unusedSimpArgs false
namespace Go.Proofs.Ytjelapkglkcoiaa
open Go.Cx Tab
set_option maxHeartbeats 400000
set_option maxRecDepth 40000

theorem law_outs (f : FSR) (k : Int) : PCall Try.prog 8 [encF f, I k] (B true) := by
  have h0 := shown08_ok
  have h1 := few_ok f
  have h2 := rrows_ok f
  by_cases hr : rowsOk f = true
  case neg =>
    rw [Bool.not_eq_true] at hr
    rw [hr] at h2
    refine PCall.mk (fun _ => false) Try.func8 rfl rfl rfl (Ent.mk Try.func8 (by kernel_rfl) rfl) (by simp) (by simp) fun hfit => ?_
    simp [Try.f8, FSR.enc]
    try simp [FSR.enc]
    repeat' (first
      | ((first | refine Tst.go (fun hw_ ew_ => ?_) (fun hw_ ew_ => ?_)) <;> first | (exfalso; first | omega | with_reducible exact hw_ (by assumption) | with_reducible exact absurd hw_ (by assumption)) | (have nw_ := Nw.nw hw_; simp [ew_, nw_, FSR.enc]) | simp [ew_, FSR.enc])
      | ((first | (refine Pc.go (h0) ?_ ?_; focus (first | rfl | (simp [FSR.enc]; done))) | (refine Pc.go (h1) ?_ ?_; focus (first | rfl | (simp [FSR.enc]; done))) | (refine Pc.go (h2) ?_ ?_; focus (first | rfl | (simp [FSR.enc]; done))) | rw [if_pos (by first | omega | (simp only [maxLen]; omega))] | rw [if_neg (by first | omega | (simp only [maxLen]; omega))] | rw [frzOwn_neat (by simp) (by simp <;> omega)] | rw [fzOwn_neat (by simp) (by simp <;> omega)]); try simp [FSR.enc])
      | ((first | refine TstB.go (fun hw_ ew_ => ?_) (fun hw_ ew_ => ?_)) <;> first | (exfalso; first | omega | with_reducible exact hw_ (by assumption) | with_reducible exact absurd hw_ (by assumption)) | simp [ew_, FSR.enc])
      | fail)
  rw [hr] at h2
  have R := (rows_iff f).1 hr
  have hl := R.len
  have h3 := find_ok f k (by omega)
  have h4 := tout_ok f k (by omega)
  have hk := R.out k
  have h5 := rrows_ok (outF f k)
  rw [(rows_iff _).2 hk] at h5
  have h6 := find_ok (outF f k) k (by have := hk.len; omega)
  rw [find_out R.rise, if_pos rfl] at h6
  have h7 := rsame08_ok (outF f k) f
  have hnx : (outF f k).next = f.next := rfl
  cases hf : (findB f.l k).2 with
  | true =>
    have hlen := out_length hf R.rise
    rw [hf] at h3
    generalize outF f k = F at *
    have hw : IntKind.i64.wrap ((f.l.length : Int) - 1) = (F.l.length : Int) := by rw [IntKind.wrap_i64]; omega
    refine PCall.mk (fun _ => false) Try.func8 rfl rfl rfl (Ent.mk Try.func8 (by kernel_rfl) rfl) (by simp) (by simp) fun hfit => ?_
    simp [Try.f8, FSR.enc]
    try simp [FSR.enc, hnx, hw]
    repeat' (first
      | ((first | refine Tst.go (fun hw_ ew_ => ?_) (fun hw_ ew_ => ?_)) <;> first | (exfalso; first | omega | with_reducible exact hw_ (by assumption) | with_reducible exact absurd hw_ (by assumption)) | (have nw_ := Nw.nw hw_; simp [ew_, nw_, FSR.enc, hnx, hw]) | simp [ew_, FSR.enc, hnx, hw])
      | ((first | (refine Pc.go (h0) ?_ ?_; focus (first | rfl | (simp [FSR.enc, hnx, hw]; done))) | (refine Pc.go (h1) ?_ ?_; focus (first | rfl | (simp [FSR.enc, hnx, hw]; done))) | (refine Pc.go (h2) ?_ ?_; focus (first | rfl | (simp [FSR.enc, hnx, hw]; done))) | (refine Pc.go (h3) ?_ ?_; focus (first | rfl | (simp [FSR.enc, hnx, hw]; done))) | (refine Pc.go (h4) ?_ ?_; focus (first | rfl | (simp [FSR.enc, hnx, hw]; done))) | (refine Pc.go (h5) ?_ ?_; focus (first | rfl | (simp [FSR.enc, hnx, hw]; done))) | (refine Pc.go (h6) ?_ ?_; focus (first | rfl | (simp [FSR.enc, hnx, hw]; done))) | (refine Pc.go (h7) ?_ ?_; focus (first | rfl | (simp [FSR.enc, hnx, hw]; done))) | rw [if_pos (by first | omega | (simp only [maxLen]; omega))] | rw [if_neg (by first | omega | (simp only [maxLen]; omega))] | rw [frzOwn_neat (by simp) (by simp <;> omega)] | rw [fzOwn_neat (by simp) (by simp <;> omega)]); try simp [FSR.enc, hnx, hw])
      | ((first | refine TstB.go (fun hw_ ew_ => ?_) (fun hw_ ew_ => ?_)) <;> first | (exfalso; first | omega | with_reducible exact hw_ (by assumption) | with_reducible exact absurd hw_ (by assumption)) | simp [ew_, FSR.enc, hnx, hw])
      | fail)
  | false =>
    have hsame := out_none hf R.rise
    rw [hf] at h3
    rw [hsame] at h4 h5 h6 h7
    simp only [decide_true] at h7
    refine PCall.mk (fun _ => false) Try.func8 rfl rfl rfl (Ent.mk Try.func8 (by kernel_rfl) rfl) (by simp) (by simp) fun hfit => ?_
    simp [Try.f8, FSR.enc]
    try simp [FSR.enc]
    repeat' (first
      | ((first | refine Tst.go (fun hw_ ew_ => ?_) (fun hw_ ew_ => ?_)) <;> first | (exfalso; first | omega | with_reducible exact hw_ (by assumption) | with_reducible exact absurd hw_ (by assumption)) | (have nw_ := Nw.nw hw_; simp [ew_, nw_, FSR.enc]) | simp [ew_, FSR.enc])
      | ((first | (refine Pc.go (h0) ?_ ?_; focus (first | rfl | (simp [FSR.enc]; done))) | (refine Pc.go (h1) ?_ ?_; focus (first | rfl | (simp [FSR.enc]; done))) | (refine Pc.go (h2) ?_ ?_; focus (first | rfl | (simp [FSR.enc]; done))) | (refine Pc.go (h4) ?_ ?_; focus (first | rfl | (simp [FSR.enc]; done))) | (refine Pc.go (h6) ?_ ?_; focus (first | rfl | (simp [FSR.enc]; done))) | (refine Pc.go (h3) ?_ ?_; focus (first | rfl | (simp [FSR.enc]; done))) | (refine Pc.go (h5) ?_ ?_; focus (first | rfl | (simp [FSR.enc]; done))) | (refine Pc.go (h7) ?_ ?_; focus (first | rfl | (simp [FSR.enc]; done))) | rw [if_pos (by first | omega | (simp only [maxLen]; omega))] | rw [if_neg (by first | omega | (simp only [maxLen]; omega))] | rw [frzOwn_neat (by simp) (by simp <;> omega)] | rw [fzOwn_neat (by simp) (by simp <;> omega)]); try simp [FSR.enc])
      | ((first | refine TstB.go (fun hw_ ew_ => ?_) (fun hw_ ew_ => ?_)) <;> first | (exfalso; first | omega | with_reducible exact hw_ (by assumption) | with_reducible exact absurd hw_ (by assumption)) | simp [ew_, FSR.enc])
      | fail)

theorem law_puts (f : FSR) (n : NodeR) (k : Int) (hw : n.wf) : PCall Try.prog 13 [encF f, encN n, I k] (B true) := by
  have h0 := shown08_ok
  have h1 := few_ok f
  have h2 := rrows_ok f
  have hnr := rnright_ok n
  by_cases hr : rowsOk f = true
  case neg =>
    rw [Bool.not_eq_true] at hr
    rw [hr] at h2
    refine PCall.mk (fun _ => false) Try.func13 rfl rfl rfl (Ent.mk Try.func13 (by kernel_rfl) rfl) (by simp) (by simp) fun hfit => ?_
    simp [Try.f13, FSR.enc]
    try simp [FSR.enc]
    repeat' (first
      | ((first | refine Tst.go (fun hw_ ew_ => ?_) (fun hw_ ew_ => ?_)) <;> first | (exfalso; first | omega | with_reducible exact hw_ (by assumption) | with_reducible exact absurd hw_ (by assumption)) | (have nw_ := Nw.nw hw_; simp [ew_, nw_, FSR.enc]) | simp [ew_, FSR.enc])
      | ((first | (refine Pc.go (h0) ?_ ?_; focus (first | rfl | (simp [FSR.enc]; done))) | (refine Pc.go (h1) ?_ ?_; focus (first | rfl | (simp [FSR.enc]; done))) | (refine Pc.go (h2) ?_ ?_; focus (first | rfl | (simp [FSR.enc]; done))) | rw [if_pos (by first | omega | (simp only [maxLen]; omega))] | rw [if_neg (by first | omega | (simp only [maxLen]; omega))] | rw [frzOwn_neat (by simp) (by simp <;> omega)] | rw [fzOwn_neat (by simp) (by simp <;> omega)]); try simp [FSR.enc])
      | ((first | refine TstB.go (fun hw_ ew_ => ?_) (fun hw_ ew_ => ?_)) <;> first | (exfalso; first | omega | with_reducible exact hw_ (by assumption) | with_reducible exact absurd hw_ (by assumption)) | simp [ew_, FSR.enc])
      | fail)
  rw [hr] at h2
  by_cases ho : nodeOk n = true
  case neg =>
    rw [Bool.not_eq_true] at ho
    rw [ho] at hnr
    refine PCall.mk (fun _ => false) Try.func13 rfl rfl rfl (Ent.mk Try.func13 (by kernel_rfl) rfl) (by simp) (by simp) fun hfit => ?_
    simp [Try.f13, FSR.enc]
    try simp [FSR.enc]
    repeat' (first
      | ((first | refine Tst.go (fun hw_ ew_ => ?_) (fun hw_ ew_ => ?_)) <;> first | (exfalso; first | omega | with_reducible exact hw_ (by assumption) | with_reducible exact absurd hw_ (by assumption)) | (have nw_ := Nw.nw hw_; simp [ew_, nw_, FSR.enc]) | simp [ew_, FSR.enc])
      | ((first | (refine Pc.go (h0) ?_ ?_; focus (first | rfl | (simp [FSR.enc]; done))) | (refine Pc.go (h1) ?_ ?_; focus (first | rfl | (simp [FSR.enc]; done))) | (refine Pc.go (h2) ?_ ?_; focus (first | rfl | (simp [FSR.enc]; done))) | (refine Pc.go (hnr) ?_ ?_; focus (first | rfl | (simp [FSR.enc]; done))) | rw [if_pos (by first | omega | (simp only [maxLen]; omega))] | rw [if_neg (by first | omega | (simp only [maxLen]; omega))] | rw [frzOwn_neat (by simp) (by simp <;> omega)] | rw [fzOwn_neat (by simp) (by simp <;> omega)]); try simp [FSR.enc])
      | ((first | refine TstB.go (fun hw_ ew_ => ?_) (fun hw_ ew_ => ?_)) <;> first | (exfalso; first | omega | with_reducible exact hw_ (by assumption) | with_reducible exact absurd hw_ (by assumption)) | simp [ew_, FSR.enc])
      | fail)
  rw [ho] at hnr
  by_cases hm : n.ino = 9223372036854775807
  · refine PCall.mk (fun _ => false) Try.func13 rfl rfl rfl (Ent.mk Try.func13 (by kernel_rfl) rfl) (by simp) (by simp) fun hfit => ?_
    simp [Try.f13, FSR.enc]
    try simp [FSR.enc, hm]
    repeat' (first
      | ((first | refine Tst.go (fun hw_ ew_ => ?_) (fun hw_ ew_ => ?_)) <;> first | (exfalso; first | omega | with_reducible exact hw_ (by assumption) | with_reducible exact absurd hw_ (by assumption)) | (have nw_ := Nw.nw hw_; simp [ew_, nw_, FSR.enc, hm]) | simp [ew_, FSR.enc, hm])
      | ((first | (refine Pc.go (h0) ?_ ?_; focus (first | rfl | (simp [FSR.enc, hm]; done))) | (refine Pc.go (h1) ?_ ?_; focus (first | rfl | (simp [FSR.enc, hm]; done))) | (refine Pc.go (h2) ?_ ?_; focus (first | rfl | (simp [FSR.enc, hm]; done))) | (refine Pc.go (hnr) ?_ ?_; focus (first | rfl | (simp [FSR.enc, hm]; done))) | rw [if_pos (by first | omega | (simp only [maxLen]; omega))] | rw [if_neg (by first | omega | (simp only [maxLen]; omega))] | rw [frzOwn_neat (by simp) (by simp <;> omega)] | rw [fzOwn_neat (by simp) (by simp <;> omega)]); try simp [FSR.enc, hm])
      | ((first | refine TstB.go (fun hw_ ew_ => ?_) (fun hw_ ew_ => ?_)) <;> first | (exfalso; first | omega | with_reducible exact hw_ (by assumption) | with_reducible exact absurd hw_ (by assumption)) | simp [ew_, FSR.enc, hm])
      | fail)
  by_cases hl : 256 ≤ f.l.length
  · refine PCall.mk (fun _ => false) Try.func13 rfl rfl rfl (Ent.mk Try.func13 (by kernel_rfl) rfl) (by simp) (by simp) fun hfit => ?_
    simp [Try.f13, FSR.enc]
    try simp [FSR.enc, hm, hl]
    repeat' (first
      | ((first | refine Tst.go (fun hw_ ew_ => ?_) (fun hw_ ew_ => ?_)) <;> first | (exfalso; first | omega | with_reducible exact hw_ (by assumption) | with_reducible exact absurd hw_ (by assumption)) | (have nw_ := Nw.nw hw_; simp [ew_, nw_, FSR.enc, hm, hl]) | simp [ew_, FSR.enc, hm, hl])
      | ((first | (refine Pc.go (h0) ?_ ?_; focus (first | rfl | (simp [FSR.enc, hm, hl]; done))) | (refine Pc.go (h1) ?_ ?_; focus (first | rfl | (simp [FSR.enc, hm, hl]; done))) | (refine Pc.go (h2) ?_ ?_; focus (first | rfl | (simp [FSR.enc, hm, hl]; done))) | (refine Pc.go (hnr) ?_ ?_; focus (first | rfl | (simp [FSR.enc, hm, hl]; done))) | rw [if_pos (by first | omega | (simp only [maxLen]; omega))] | rw [if_neg (by first | omega | (simp only [maxLen]; omega))] | rw [frzOwn_neat (by simp) (by simp <;> omega)] | rw [fzOwn_neat (by simp) (by simp <;> omega)]); try simp [FSR.enc, hm, hl])
      | ((first | refine TstB.go (fun hw_ ew_ => ?_) (fun hw_ ew_ => ?_)) <;> first | (exfalso; first | omega | with_reducible exact hw_ (by assumption) | with_reducible exact absurd hw_ (by assumption)) | simp [ew_, FSR.enc, hm, hl])
      | fail)
  have R := (rows_iff f).1 hr
  obtain ⟨p1, p2, p3⟩ := put_spec R.rise n
  have K := R.put ho (by omega)
  have hkl := K.len
  have h3 := tput_ok f n (by omega) hw.1 hm
  have h4 := find_ok (putB f n) n.ino (by omega)
  have h5 := find_ok f k (by omega)
  have h6 := find_ok (putB f n) k (by omega)
  have h7 := tout_ok (putB f n) n.ino (by omega)
  have h8 := find_ok (outF (putB f n) n.ino) k (by have := (K.out n.ino).len; omega)
  have h9 := rrows_ok (putB f n)
  rw [(rows_iff _).2 K] at h9
  rw [find_put R.rise, if_pos rfl] at h4
  rw [find_put R.rise] at h6
  rw [find_out K.rise, find_put R.rise] at h8
  have s1 := rnsame_ok n n
  simp only [decide_true] at s1
  generalize putB f n = G at *
  generalize outF G n.ino = F at *
  by_cases hk : k = n.ino
  · subst hk
    rw [if_pos rfl] at h6 h8
    refine PCall.mk (fun _ => false) Try.func13 rfl rfl rfl (Ent.mk Try.func13 (by kernel_rfl) rfl) (by simp) (by simp) fun hfit => ?_
    simp [Try.f13, FSR.enc]
    try simp [FSR.enc, hm, hl]
    repeat' (first
      | ((first | refine Tst.go (fun hw_ ew_ => ?_) (fun hw_ ew_ => ?_)) <;> first | (exfalso; first | omega | with_reducible exact hw_ (by assumption) | with_reducible exact absurd hw_ (by assumption)) | (have nw_ := Nw.nw hw_; simp [ew_, nw_, FSR.enc, hm, hl]) | simp [ew_, FSR.enc, hm, hl])
      | ((first | (refine Pc.go (h0) ?_ ?_; focus (first | rfl | (simp [FSR.enc, hm, hl]; done))) | (refine Pc.go (h1) ?_ ?_; focus (first | rfl | (simp [FSR.enc, hm, hl]; done))) | (refine Pc.go (h2) ?_ ?_; focus (first | rfl | (simp [FSR.enc, hm, hl]; done))) | (refine Pc.go (hnr) ?_ ?_; focus (first | rfl | (simp [FSR.enc, hm, hl]; done))) | (refine Pc.go (h3) ?_ ?_; focus (first | rfl | (simp [FSR.enc, hm, hl]; done))) | (refine Pc.go (h4) ?_ ?_; focus (first | rfl | (simp [FSR.enc, hm, hl]; done))) | (refine Pc.go (h5) ?_ ?_; focus (first | rfl | (simp [FSR.enc, hm, hl]; done))) | (refine Pc.go (h7) ?_ ?_; focus (first | rfl | (simp [FSR.enc, hm, hl]; done))) | (refine Pc.go (h8) ?_ ?_; focus (first | rfl | (simp [FSR.enc, hm, hl]; done))) | (refine Pc.go (s1) ?_ ?_; focus (first | rfl | (simp [FSR.enc, hm, hl]; done))) | rw [if_pos (by first | omega | (simp only [maxLen]; omega))] | rw [if_neg (by first | omega | (simp only [maxLen]; omega))] | rw [frzOwn_neat (by simp) (by simp <;> omega)] | rw [fzOwn_neat (by simp) (by simp <;> omega)]); try simp [FSR.enc, hm, hl])
      | ((first | refine TstB.go (fun hw_ ew_ => ?_) (fun hw_ ew_ => ?_)) <;> first | (exfalso; first | omega | with_reducible exact hw_ (by assumption) | with_reducible exact absurd hw_ (by assumption)) | simp [ew_, FSR.enc, hm, hl])
      | fail)
  · rw [if_neg hk] at h6 h8
    rw [if_neg hk] at h8
    generalize findB f.l k = x at *
    have s2 := rnsame_ok x.1 x.1
    simp only [decide_true] at s2
    obtain ⟨x1, x2⟩ := x
    simp only at *
    cases x2
    · refine PCall.mk (fun _ => false) Try.func13 rfl rfl rfl (Ent.mk Try.func13 (by kernel_rfl) rfl) (by simp) (by simp) fun hfit => ?_
      simp [Try.f13, FSR.enc]
      try simp [FSR.enc, hm, hl, hk]
      repeat' (first
        | ((first | refine Tst.go (fun hw_ ew_ => ?_) (fun hw_ ew_ => ?_)) <;> first | (exfalso; first | omega | with_reducible exact hw_ (by assumption) | with_reducible exact absurd hw_ (by assumption)) | (have nw_ := Nw.nw hw_; simp [ew_, nw_, FSR.enc, hm, hl, hk]) | simp [ew_, FSR.enc, hm, hl, hk])
        | ((first | (refine Pc.go (h0) ?_ ?_; focus (first | rfl | (simp [FSR.enc, hm, hl, hk]; done))) | (refine Pc.go (h1) ?_ ?_; focus (first | rfl | (simp [FSR.enc, hm, hl, hk]; done))) | (refine Pc.go (h2) ?_ ?_; focus (first | rfl | (simp [FSR.enc, hm, hl, hk]; done))) | (refine Pc.go (hnr) ?_ ?_; focus (first | rfl | (simp [FSR.enc, hm, hl, hk]; done))) | (refine Pc.go (h3) ?_ ?_; focus (first | rfl | (simp [FSR.enc, hm, hl, hk]; done))) | (refine Pc.go (h4) ?_ ?_; focus (first | rfl | (simp [FSR.enc, hm, hl, hk]; done))) | (refine Pc.go (h5) ?_ ?_; focus (first | rfl | (simp [FSR.enc, hm, hl, hk]; done))) | (refine Pc.go (h6) ?_ ?_; focus (first | rfl | (simp [FSR.enc, hm, hl, hk]; done))) | (refine Pc.go (h7) ?_ ?_; focus (first | rfl | (simp [FSR.enc, hm, hl, hk]; done))) | (refine Pc.go (h8) ?_ ?_; focus (first | rfl | (simp [FSR.enc, hm, hl, hk]; done))) | (refine Pc.go (s1) ?_ ?_; focus (first | rfl | (simp [FSR.enc, hm, hl, hk]; done))) | (refine Pc.go (s2) ?_ ?_; focus (first | rfl | (simp [FSR.enc, hm, hl, hk]; done))) | (refine Pc.go (h9) ?_ ?_; focus (first | rfl | (simp [FSR.enc, hm, hl, hk]; done))) | rw [if_pos (by first | omega | (simp only [maxLen]; omega))] | rw [if_neg (by first | omega | (simp only [maxLen]; omega))] | rw [frzOwn_neat (by simp) (by simp <;> omega)] | rw [fzOwn_neat (by simp) (by simp <;> omega)]); try simp [FSR.enc, hm, hl, hk])
        | ((first | refine TstB.go (fun hw_ ew_ => ?_) (fun hw_ ew_ => ?_)) <;> first | (exfalso; first | omega | with_reducible exact hw_ (by assumption) | with_reducible exact absurd hw_ (by assumption)) | simp [ew_, FSR.enc, hm, hl, hk])
        | fail)
    · refine PCall.mk (fun _ => false) Try.func13 rfl rfl rfl (Ent.mk Try.func13 (by kernel_rfl) rfl) (by simp) (by simp) fun hfit => ?_
      simp [Try.f13, FSR.enc]
      try simp [FSR.enc, hm, hl, hk]
      repeat' (first
        | ((first | refine Tst.go (fun hw_ ew_ => ?_) (fun hw_ ew_ => ?_)) <;> first | (exfalso; first | omega | with_reducible exact hw_ (by assumption) | with_reducible exact absurd hw_ (by assumption)) | (have nw_ := Nw.nw hw_; simp [ew_, nw_, FSR.enc, hm, hl, hk]) | simp [ew_, FSR.enc, hm, hl, hk])
        | ((first | (refine Pc.go (h0) ?_ ?_; focus (first | rfl | (simp [FSR.enc, hm, hl, hk]; done))) | (refine Pc.go (h1) ?_ ?_; focus (first | rfl | (simp [FSR.enc, hm, hl, hk]; done))) | (refine Pc.go (h2) ?_ ?_; focus (first | rfl | (simp [FSR.enc, hm, hl, hk]; done))) | (refine Pc.go (hnr) ?_ ?_; focus (first | rfl | (simp [FSR.enc, hm, hl, hk]; done))) | (refine Pc.go (h3) ?_ ?_; focus (first | rfl | (simp [FSR.enc, hm, hl, hk]; done))) | (refine Pc.go (h4) ?_ ?_; focus (first | rfl | (simp [FSR.enc, hm, hl, hk]; done))) | (refine Pc.go (h5) ?_ ?_; focus (first | rfl | (simp [FSR.enc, hm, hl, hk]; done))) | (refine Pc.go (h6) ?_ ?_; focus (first | rfl | (simp [FSR.enc, hm, hl, hk]; done))) | (refine Pc.go (h7) ?_ ?_; focus (first | rfl | (simp [FSR.enc, hm, hl, hk]; done))) | (refine Pc.go (h8) ?_ ?_; focus (first | rfl | (simp [FSR.enc, hm, hl, hk]; done))) | (refine Pc.go (s1) ?_ ?_; focus (first | rfl | (simp [FSR.enc, hm, hl, hk]; done))) | (refine Pc.go (s2) ?_ ?_; focus (first | rfl | (simp [FSR.enc, hm, hl, hk]; done))) | (refine Pc.go (h9) ?_ ?_; focus (first | rfl | (simp [FSR.enc, hm, hl, hk]; done))) | rw [if_pos (by first | omega | (simp only [maxLen]; omega))] | rw [if_neg (by first | omega | (simp only [maxLen]; omega))] | rw [frzOwn_neat (by simp) (by simp <;> omega)] | rw [fzOwn_neat (by simp) (by simp <;> omega)]); try simp [FSR.enc, hm, hl, hk])
        | ((first | refine TstB.go (fun hw_ ew_ => ?_) (fun hw_ ew_ => ?_)) <;> first | (exfalso; first | omega | with_reducible exact hw_ (by assumption) | with_reducible exact absurd hw_ (by assumption)) | simp [ew_, FSR.enc, hm, hl, hk])
        | fail)
end Go.Proofs.Ytjelapkglkcoiaa
