import Derived.Test.YtdnfnddlciafmaaGreatYOpJ
set_option linter.unusedVariables false
set_option linter.unusedSimpArgs false
namespace Go.Proofs.YtdnfnddlciafmaaGreat
open Go.Cx Tab
set_option maxHeartbeats 400000
set_option maxRecDepth 40000
theorem setF_enc (f k : FSR) : setMany f.enc 0 k.enc = k.enc := rfl
theorem look_ok (f : FSR) (d : Int) (s : ByteArray) (h : RowsF f) : PCall Tryz.prog 120 [encF f, I d, S s] (.tup [encN (lookD f d s).1, I (lookD f d s).2]) := by
  have hlen := h.len
  have h1 := dir_ok f d (by omega)
  have h2 := check_ok s
  have hrow := h.dirRow d
  have h3 := nfind_ok (dirD f d).1.l s hrow.rise (by have := hrow.len; omega)
  have h4 := find_ok f (findE (dirD f d).1.l s).1 (by omega)
  have h5 := first_ok [(dirD f d).2, checkS s] (by simp)
  unfold lookD
  generalize dirD f d = D at *
  generalize findE D.1.l s = E at *
  generalize findB f.l E.1 = N at *
  obtain ⟨D1, De⟩ := D
  obtain ⟨E1, E2⟩ := E
  obtain ⟨N1, N2⟩ := N
  simp only at *
  by_cases q1 : De = 0
  case neg =>
    rw [if_pos q1]
    refine PCall.mk (fun _ => false) Tryz.func120 rfl rfl rfl (Ent.mk Tryz.func120 (by kernel_rfl) rfl) (by simp) (by simp) fun hfit => ?_
    simp [Tryz.f120]
    try simp [q1, firstS, zeroN_enc]
    repeat' (first
      | ((first | refine Tst.go (fun hw_ ew_ => ?_) (fun hw_ ew_ => ?_)) <;> first | (exfalso; first | omega | with_reducible exact hw_ (by assumption) | with_reducible exact absurd hw_ (by assumption)) | (have nw_ := Nw.nw hw_; simp [ew_, nw_, q1, firstS, zeroN_enc]) | simp [ew_, q1, firstS, zeroN_enc])
      | ((first | (refine Pc.go (h1) ?_ ?_; focus (first | rfl | (simp [q1, firstS, zeroN_enc]; done))) | (refine Pc.go (h2) ?_ ?_; focus (first | rfl | (simp [q1, firstS, zeroN_enc]; done))) | (refine Lc.go (h5) rfl ?_ ?_; focus (first | (simp [q1, firstS, zeroN_enc]; done) | (simp; rw [frzOwn_neat (by simp) (by simp <;> omega)]; simp [q1, firstS, zeroN_enc]; done))) | (refine Sc.go (h5) ?_ ?_; focus (simp [q1, firstS, zeroN_enc]; done)) | rw [if_pos (by first | omega | (simp only [maxLen]; omega))] | rw [if_neg (by first | omega | (simp only [maxLen]; omega))] | rw [frzOwn_neat (by simp) (by simp <;> omega)] | rw [fzOwn_neat (by simp) (by simp <;> omega)]); try simp [q1, firstS, zeroN_enc])
      | ((first | refine TstB.go (fun hw_ ew_ => ?_) (fun hw_ ew_ => ?_)) <;> first | (exfalso; first | omega | with_reducible exact hw_ (by assumption) | with_reducible exact absurd hw_ (by assumption)) | simp [ew_, q1, firstS, zeroN_enc])
      | fail)
  rw [if_neg (by simpa using q1)]
  by_cases q2 : checkS s = 0
  case neg =>
    rw [if_pos q2]
    refine PCall.mk (fun _ => false) Tryz.func120 rfl rfl rfl (Ent.mk Tryz.func120 (by kernel_rfl) rfl) (by simp) (by simp) fun hfit => ?_
    simp [Tryz.f120]
    try simp [q1, q2, firstS, zeroN_enc]
    repeat' (first
      | ((first | refine Tst.go (fun hw_ ew_ => ?_) (fun hw_ ew_ => ?_)) <;> first | (exfalso; first | omega | with_reducible exact hw_ (by assumption) | with_reducible exact absurd hw_ (by assumption)) | (have nw_ := Nw.nw hw_; simp [ew_, nw_, q1, q2, firstS, zeroN_enc]) | simp [ew_, q1, q2, firstS, zeroN_enc])
      | ((first | (refine Pc.go (h1) ?_ ?_; focus (first | rfl | (simp [q1, q2, firstS, zeroN_enc]; done))) | (refine Pc.go (h2) ?_ ?_; focus (first | rfl | (simp [q1, q2, firstS, zeroN_enc]; done))) | (refine Lc.go (h5) rfl ?_ ?_; focus (first | (simp [q1, q2, firstS, zeroN_enc]; done) | (simp; rw [frzOwn_neat (by simp) (by simp <;> omega)]; simp [q1, q2, firstS, zeroN_enc]; done))) | (refine Sc.go (h5) ?_ ?_; focus (simp [q1, q2, firstS, zeroN_enc]; done)) | rw [if_pos (by first | omega | (simp only [maxLen]; omega))] | rw [if_neg (by first | omega | (simp only [maxLen]; omega))] | rw [frzOwn_neat (by simp) (by simp <;> omega)] | rw [fzOwn_neat (by simp) (by simp <;> omega)]); try simp [q1, q2, firstS, zeroN_enc])
      | ((first | refine TstB.go (fun hw_ ew_ => ?_) (fun hw_ ew_ => ?_)) <;> first | (exfalso; first | omega | with_reducible exact hw_ (by assumption) | with_reducible exact absurd hw_ (by assumption)) | simp [ew_, q1, q2, firstS, zeroN_enc])
      | fail)
  rw [if_neg (by simpa using q2)]
  cases E2 with
  | false =>
    rw [if_pos rfl]
    refine PCall.mk (fun _ => false) Tryz.func120 rfl rfl rfl (Ent.mk Tryz.func120 (by kernel_rfl) rfl) (by simp) (by simp) fun hfit => ?_
    simp [Tryz.f120]
    try simp [q1, q2, firstS, zeroN_enc]
    repeat' (first
      | ((first | refine Tst.go (fun hw_ ew_ => ?_) (fun hw_ ew_ => ?_)) <;> first | (exfalso; first | omega | with_reducible exact hw_ (by assumption) | with_reducible exact absurd hw_ (by assumption)) | (have nw_ := Nw.nw hw_; simp [ew_, nw_, q1, q2, firstS, zeroN_enc]) | simp [ew_, q1, q2, firstS, zeroN_enc])
      | ((first | (refine Pc.go (h1) ?_ ?_; focus (first | rfl | (simp [q1, q2, firstS, zeroN_enc]; done))) | (refine Pc.go (h2) ?_ ?_; focus (first | rfl | (simp [q1, q2, firstS, zeroN_enc]; done))) | (refine Lc.go (h5) rfl ?_ ?_; focus (first | (simp [q1, q2, firstS, zeroN_enc]; done) | (simp; rw [frzOwn_neat (by simp) (by simp <;> omega)]; simp [q1, q2, firstS, zeroN_enc]; done))) | (refine Sc.go (h5) ?_ ?_; focus (simp [q1, q2, firstS, zeroN_enc]; done)) | (refine Pc.go (h3) ?_ ?_; focus (first | rfl | (simp [q1, q2, firstS, zeroN_enc]; done))) | (refine Pc.go (h4) ?_ ?_; focus (first | rfl | (simp [q1, q2, firstS, zeroN_enc]; done))) | rw [if_pos (by first | omega | (simp only [maxLen]; omega))] | rw [if_neg (by first | omega | (simp only [maxLen]; omega))] | rw [frzOwn_neat (by simp) (by simp <;> omega)] | rw [fzOwn_neat (by simp) (by simp <;> omega)]); try simp [q1, q2, firstS, zeroN_enc])
      | ((first | refine TstB.go (fun hw_ ew_ => ?_) (fun hw_ ew_ => ?_)) <;> first | (exfalso; first | omega | with_reducible exact hw_ (by assumption) | with_reducible exact absurd hw_ (by assumption)) | simp [ew_, q1, q2, firstS, zeroN_enc])
      | fail)
  | true =>
    rw [if_neg (by simp)]
    cases N2 with
    | false =>
      rw [if_pos rfl]
      refine PCall.mk (fun _ => false) Tryz.func120 rfl rfl rfl (Ent.mk Tryz.func120 (by kernel_rfl) rfl) (by simp) (by simp) fun hfit => ?_
      simp [Tryz.f120]
      try simp [q1, q2, firstS, zeroN_enc]
      repeat' (first
        | ((first | refine Tst.go (fun hw_ ew_ => ?_) (fun hw_ ew_ => ?_)) <;> first | (exfalso; first | omega | with_reducible exact hw_ (by assumption) | with_reducible exact absurd hw_ (by assumption)) | (have nw_ := Nw.nw hw_; simp [ew_, nw_, q1, q2, firstS, zeroN_enc]) | simp [ew_, q1, q2, firstS, zeroN_enc])
        | ((first | (refine Pc.go (h1) ?_ ?_; focus (first | rfl | (simp [q1, q2, firstS, zeroN_enc]; done))) | (refine Pc.go (h2) ?_ ?_; focus (first | rfl | (simp [q1, q2, firstS, zeroN_enc]; done))) | (refine Lc.go (h5) rfl ?_ ?_; focus (first | (simp [q1, q2, firstS, zeroN_enc]; done) | (simp; rw [frzOwn_neat (by simp) (by simp <;> omega)]; simp [q1, q2, firstS, zeroN_enc]; done))) | (refine Sc.go (h5) ?_ ?_; focus (simp [q1, q2, firstS, zeroN_enc]; done)) | (refine Pc.go (h3) ?_ ?_; focus (first | rfl | (simp [q1, q2, firstS, zeroN_enc]; done))) | (refine Pc.go (h4) ?_ ?_; focus (first | rfl | (simp [q1, q2, firstS, zeroN_enc]; done))) | rw [if_pos (by first | omega | (simp only [maxLen]; omega))] | rw [if_neg (by first | omega | (simp only [maxLen]; omega))] | rw [frzOwn_neat (by simp) (by simp <;> omega)] | rw [fzOwn_neat (by simp) (by simp <;> omega)]); try simp [q1, q2, firstS, zeroN_enc])
        | ((first | refine TstB.go (fun hw_ ew_ => ?_) (fun hw_ ew_ => ?_)) <;> first | (exfalso; first | omega | with_reducible exact hw_ (by assumption) | with_reducible exact absurd hw_ (by assumption)) | simp [ew_, q1, q2, firstS, zeroN_enc])
        | fail)
    | true =>
      rw [if_neg (by simp)]
      refine PCall.mk (fun _ => false) Tryz.func120 rfl rfl rfl (Ent.mk Tryz.func120 (by kernel_rfl) rfl) (by simp) (by simp) fun hfit => ?_
      simp [Tryz.f120]
      try simp [q1, q2, firstS, zeroN_enc]
      repeat' (first
        | ((first | refine Tst.go (fun hw_ ew_ => ?_) (fun hw_ ew_ => ?_)) <;> first | (exfalso; first | omega | with_reducible exact hw_ (by assumption) | with_reducible exact absurd hw_ (by assumption)) | (have nw_ := Nw.nw hw_; simp [ew_, nw_, q1, q2, firstS, zeroN_enc]) | simp [ew_, q1, q2, firstS, zeroN_enc])
        | ((first | (refine Pc.go (h1) ?_ ?_; focus (first | rfl | (simp [q1, q2, firstS, zeroN_enc]; done))) | (refine Pc.go (h2) ?_ ?_; focus (first | rfl | (simp [q1, q2, firstS, zeroN_enc]; done))) | (refine Lc.go (h5) rfl ?_ ?_; focus (first | (simp [q1, q2, firstS, zeroN_enc]; done) | (simp; rw [frzOwn_neat (by simp) (by simp <;> omega)]; simp [q1, q2, firstS, zeroN_enc]; done))) | (refine Sc.go (h5) ?_ ?_; focus (simp [q1, q2, firstS, zeroN_enc]; done)) | (refine Pc.go (h3) ?_ ?_; focus (first | rfl | (simp [q1, q2, firstS, zeroN_enc]; done))) | (refine Pc.go (h4) ?_ ?_; focus (first | rfl | (simp [q1, q2, firstS, zeroN_enc]; done))) | rw [if_pos (by first | omega | (simp only [maxLen]; omega))] | rw [if_neg (by first | omega | (simp only [maxLen]; omega))] | rw [frzOwn_neat (by simp) (by simp <;> omega)] | rw [fzOwn_neat (by simp) (by simp <;> omega)]); try simp [q1, q2, firstS, zeroN_enc])
        | ((first | refine TstB.go (fun hw_ ew_ => ?_) (fun hw_ ew_ => ?_)) <;> first | (exfalso; first | omega | with_reducible exact hw_ (by assumption) | with_reducible exact absurd hw_ (by assumption)) | simp [ew_, q1, q2, firstS, zeroN_enc])
        | fail)
theorem entered_ok (f : FSR) (d : NodeR) (s : ByteArray) (ino : Int) (hr : RowE d.l) (hl : f.l.length ≤ 100000) (hn : inI d.ino) (hm : d.ino ≠ 9223372036854775807) : PCall Tryz.prog 196 [encF f, encN d, S s, I ino] (encF (putB f { d with l := (enterE d.l s ino).1 })) := by
  have h1 := enter_ok d.l s ino hr.rise (by have := hr.len; omega)
  have h2 := tput_ok f { d with l := (enterE d.l s ino).1 } hl hn hm
  generalize enterE d.l s ino = E at *
  refine PCall.mk (fun _ => false) Tryz.func196 rfl rfl rfl (Ent.mk Tryz.func196 (by kernel_rfl) rfl) (by simp) (by simp) fun hfit => ?_
  simp [Tryz.f196]
  try simp
  repeat' (first
    | ((first | refine Tst.go (fun hw_ ew_ => ?_) (fun hw_ ew_ => ?_)) <;> first | (exfalso; first | omega | with_reducible exact hw_ (by assumption) | with_reducible exact absurd hw_ (by assumption)) | (have nw_ := Nw.nw hw_; simp [ew_, nw_]) | simp [ew_])
    | ((first | (refine Pc.go (h1) ?_ ?_; focus (first | rfl | (simp; done))) | (refine Pc.go (h2) ?_ ?_; focus (first | rfl | (simp; done))) | rw [if_pos (by first | omega | (simp only [maxLen]; omega))] | rw [if_neg (by first | omega | (simp only [maxLen]; omega))] | rw [frzOwn_neat (by simp) (by simp <;> omega)] | rw [fzOwn_neat (by simp) (by simp <;> omega)]); try simp)
    | ((first | refine TstB.go (fun hw_ ew_ => ?_) (fun hw_ ew_ => ?_)) <;> first | (exfalso; first | omega | with_reducible exact hw_ (by assumption) | with_reducible exact absurd hw_ (by assumption)) | simp [ew_])
    | fail)
theorem without_ok (f : FSR) (dir : Int) (s : ByteArray) (n : NodeR) (h : RowsF f) (hb : f.next ≤ 4611686018427387904) (hd : (findB f.l dir).2 = true) (hn : n = (findB f.l n.ino).1) (hf : (findB f.l n.ino).2 = true) (hne : n.ino ≠ dir) : PCall Tryz.prog 199 [encF f, I dir, S s, encN n] (encF (withoutD f dir s n.ino)) := by
  have hlen := h.len
  have h1 := find_ok f dir (by omega)
  have hrow := h.row dir
  have h2 := leave_ok (findB f.l dir).1.l s hrow.rise (by have := hrow.len; omega)
  have hnum := h.num dir
  have hnn := h.num n.ino
  have hlk := h.links n.ino
  rw [← hn] at hnn hlk
  have hs := left_same h hd s
  have h3 := tput_ok f { (findB f.l dir).1 with l := (leaveE (findB f.l dir).1.l s).1 } (by omega) ⟨by simp only; omega, by simp only; omega⟩ (by simp only; omega)
  have h4 := tout_ok (leftD f dir s) n.ino (by have := hs.len; omega)
  have h5 := tput_ok (leftD f dir s) { n with links := n.links - 1 } (by have := hs.len; omega) ⟨by simp only; omega, by simp only; omega⟩ (by simp only; omega)
  have hw : IntKind.i64.wrap (n.links - 1) = n.links - 1 := wrap_id (by omega) (by omega)
  rw [without_eq h hd s hne, ← hn]
  have e : putB f { (findB f.l dir).1 with l := (leaveE (findB f.l dir).1.l s).1 } = leftD f dir s := rfl
  rw [e] at h3
  generalize leftD f dir s = K at *
  generalize leaveE (findB f.l dir).1.l s = L at *
  generalize findB f.l dir = D at *
  by_cases q : n.links ≤ 1
  · rw [if_pos q]
    refine PCall.mk (fun _ => false) Tryz.func199 rfl rfl rfl (Ent.mk Tryz.func199 (by kernel_rfl) rfl) (by simp) (by simp) fun hfit => ?_
    simp [Tryz.f199]
    try simp [q, setF_enc]
    repeat' (first
      | ((first | refine Tst.go (fun hw_ ew_ => ?_) (fun hw_ ew_ => ?_)) <;> first | (exfalso; first | omega | with_reducible exact hw_ (by assumption) | with_reducible exact absurd hw_ (by assumption)) | (have nw_ := Nw.nw hw_; simp [ew_, nw_, q, setF_enc]) | simp [ew_, q, setF_enc])
      | ((first | (refine Pc.go (h1) ?_ ?_; focus (first | rfl | (simp [q, setF_enc]; done))) | (refine Pc.go (h2) ?_ ?_; focus (first | rfl | (simp [q, setF_enc]; done))) | (refine Pc.go (h3) ?_ ?_; focus (first | rfl | (simp [q, setF_enc]; done))) | (refine Pc.go (h4) ?_ ?_; focus (first | rfl | (simp [q, setF_enc]; done))) | rw [if_pos (by first | omega | (simp only [maxLen]; omega))] | rw [if_neg (by first | omega | (simp only [maxLen]; omega))] | rw [frzOwn_neat (by simp) (by simp <;> omega)] | rw [fzOwn_neat (by simp) (by simp <;> omega)]); try simp [q, setF_enc])
      | ((first | refine TstB.go (fun hw_ ew_ => ?_) (fun hw_ ew_ => ?_)) <;> first | (exfalso; first | omega | with_reducible exact hw_ (by assumption) | with_reducible exact absurd hw_ (by assumption)) | simp [ew_, q, setF_enc])
      | fail)
  · rw [if_neg q]
    refine PCall.mk (fun _ => false) Tryz.func199 rfl rfl rfl (Ent.mk Tryz.func199 (by kernel_rfl) rfl) (by simp) (by simp) fun hfit => ?_
    simp [Tryz.f199]
    try simp [q, hw, setF_enc]
    repeat' (first
      | ((first | refine Tst.go (fun hw_ ew_ => ?_) (fun hw_ ew_ => ?_)) <;> first | (exfalso; first | omega | with_reducible exact hw_ (by assumption) | with_reducible exact absurd hw_ (by assumption)) | (have nw_ := Nw.nw hw_; simp [ew_, nw_, q, hw, setF_enc]) | simp [ew_, q, hw, setF_enc])
      | ((first | (refine Pc.go (h1) ?_ ?_; focus (first | rfl | (simp [q, hw, setF_enc]; done))) | (refine Pc.go (h2) ?_ ?_; focus (first | rfl | (simp [q, hw, setF_enc]; done))) | (refine Pc.go (h3) ?_ ?_; focus (first | rfl | (simp [q, hw, setF_enc]; done))) | (refine Pc.go (h5) ?_ ?_; focus (first | rfl | (simp [q, hw, setF_enc]; done))) | rw [if_pos (by first | omega | (simp only [maxLen]; omega))] | rw [if_neg (by first | omega | (simp only [maxLen]; omega))] | rw [frzOwn_neat (by simp) (by simp <;> omega)] | rw [fzOwn_neat (by simp) (by simp <;> omega)]); try simp [q, hw, setF_enc])
      | ((first | refine TstB.go (fun hw_ ew_ => ?_) (fun hw_ ew_ => ?_)) <;> first | (exfalso; first | omega | with_reducible exact hw_ (by assumption) | with_reducible exact absurd hw_ (by assumption)) | simp [ew_, q, hw, setF_enc])
      | fail)
theorem take_ok (f : FSR) (dir : Int) (s : ByteArray) (h : RowsF f) (hb : f.next ≤ 4611686018427387904) (hne : (lookD f dir s).2 = 0 → (lookD f dir s).1.ino ≠ dir) : PCall Tryz.prog 193 [encF f, I dir, S s] (.tup [encF (takeD f dir s).1, I (takeD f dir s).2]) := by
  have h1 := look_ok f dir s h
  unfold takeD
  by_cases q1 : (lookD f dir s).2 = 0
  case neg =>
    rw [if_pos q1]
    have h5 := first_ok [(lookD f dir s).2, 0] (by simp)
    have h6 := first_ok [(lookD f dir s).2, 11] (by simp)
    by_cases q2 : 0 < (lookD f dir s).1.l.length
    · refine PCall.mk (fun _ => false) Tryz.func193 rfl rfl rfl (Ent.mk Tryz.func193 (by kernel_rfl) rfl) (by simp) (by simp) fun hfit => ?_
      simp [Tryz.f193]
      try simp [q1, q2, firstS]
      repeat' (first
        | ((first | refine Tst.go (fun hw_ ew_ => ?_) (fun hw_ ew_ => ?_)) <;> first | (exfalso; first | omega | with_reducible exact hw_ (by assumption) | with_reducible exact absurd hw_ (by assumption)) | (have nw_ := Nw.nw hw_; simp [ew_, nw_, q1, q2, firstS]) | simp [ew_, q1, q2, firstS])
        | ((first | (refine Pc.go (h1) ?_ ?_; focus (first | rfl | (simp [q1, q2, firstS]; done))) | (refine Pc.go (unl_t 11) ?_ ?_; focus (first | rfl | (simp [q1, q2, firstS]; done))) | (refine Pc.go (unl_f 11) ?_ ?_; focus (first | rfl | (simp [q1, q2, firstS]; done))) | (refine Lc.go (h5) rfl ?_ ?_; focus (first | (simp [q1, q2, firstS]; done) | (simp; rw [frzOwn_neat (by simp) (by simp <;> omega)]; simp [q1, q2, firstS]; done))) | (refine Sc.go (h5) ?_ ?_; focus (simp [q1, q2, firstS]; done)) | (refine Lc.go (h6) rfl ?_ ?_; focus (first | (simp [q1, q2, firstS]; done) | (simp; rw [frzOwn_neat (by simp) (by simp <;> omega)]; simp [q1, q2, firstS]; done))) | (refine Sc.go (h6) ?_ ?_; focus (simp [q1, q2, firstS]; done)) | rw [if_pos (by first | omega | (simp only [maxLen]; omega))] | rw [if_neg (by first | omega | (simp only [maxLen]; omega))] | rw [frzOwn_neat (by simp) (by simp <;> omega)] | rw [fzOwn_neat (by simp) (by simp <;> omega)]); try simp [q1, q2, firstS])
        | ((first | refine TstB.go (fun hw_ ew_ => ?_) (fun hw_ ew_ => ?_)) <;> first | (exfalso; first | omega | with_reducible exact hw_ (by assumption) | with_reducible exact absurd hw_ (by assumption)) | simp [ew_, q1, q2, firstS])
        | fail)
    · refine PCall.mk (fun _ => false) Tryz.func193 rfl rfl rfl (Ent.mk Tryz.func193 (by kernel_rfl) rfl) (by simp) (by simp) fun hfit => ?_
      simp [Tryz.f193]
      try simp [q1, q2, firstS]
      repeat' (first
        | ((first | refine Tst.go (fun hw_ ew_ => ?_) (fun hw_ ew_ => ?_)) <;> first | (exfalso; first | omega | with_reducible exact hw_ (by assumption) | with_reducible exact absurd hw_ (by assumption)) | (have nw_ := Nw.nw hw_; simp [ew_, nw_, q1, q2, firstS]) | simp [ew_, q1, q2, firstS])
        | ((first | (refine Pc.go (h1) ?_ ?_; focus (first | rfl | (simp [q1, q2, firstS]; done))) | (refine Pc.go (unl_t 11) ?_ ?_; focus (first | rfl | (simp [q1, q2, firstS]; done))) | (refine Pc.go (unl_f 11) ?_ ?_; focus (first | rfl | (simp [q1, q2, firstS]; done))) | (refine Lc.go (h5) rfl ?_ ?_; focus (first | (simp [q1, q2, firstS]; done) | (simp; rw [frzOwn_neat (by simp) (by simp <;> omega)]; simp [q1, q2, firstS]; done))) | (refine Sc.go (h5) ?_ ?_; focus (simp [q1, q2, firstS]; done)) | (refine Lc.go (h6) rfl ?_ ?_; focus (first | (simp [q1, q2, firstS]; done) | (simp; rw [frzOwn_neat (by simp) (by simp <;> omega)]; simp [q1, q2, firstS]; done))) | (refine Sc.go (h6) ?_ ?_; focus (simp [q1, q2, firstS]; done)) | rw [if_pos (by first | omega | (simp only [maxLen]; omega))] | rw [if_neg (by first | omega | (simp only [maxLen]; omega))] | rw [frzOwn_neat (by simp) (by simp <;> omega)] | rw [fzOwn_neat (by simp) (by simp <;> omega)]); try simp [q1, q2, firstS])
        | ((first | refine TstB.go (fun hw_ ew_ => ?_) (fun hw_ ew_ => ?_)) <;> first | (exfalso; first | omega | with_reducible exact hw_ (by assumption) | with_reducible exact absurd hw_ (by assumption)) | simp [ew_, q1, q2, firstS])
        | fail)
  rw [if_neg (by simpa using q1)]
  obtain ⟨g1, g2, g3, g4, g5⟩ := lookD_ok q1
  obtain ⟨g6, g7, g8⟩ := dirD_ok g1
  have hi : (findB f.l (lookD f dir s).1.ino) = ((lookD f dir s).1, true) := findB_of h.rise (lookD_mem q1)
  have h2 := without_ok f dir s (lookD f dir s).1 h hb g6 (by rw [hi]) (by rw [hi]) (hne q1)
  have h5 := first_ok [0, 0] (by simp)
  have h6 := first_ok [0, 11] (by simp)
  generalize lookD f dir s = L at *
  by_cases q2 : 0 < L.1.l.length
  · rw [if_pos q2]
    refine PCall.mk (fun _ => false) Tryz.func193 rfl rfl rfl (Ent.mk Tryz.func193 (by kernel_rfl) rfl) (by simp) (by simp) fun hfit => ?_
    simp [Tryz.f193]
    try simp [q1, q2, firstS]
    repeat' (first
      | ((first | refine Tst.go (fun hw_ ew_ => ?_) (fun hw_ ew_ => ?_)) <;> first | (exfalso; first | omega | with_reducible exact hw_ (by assumption) | with_reducible exact absurd hw_ (by assumption)) | (have nw_ := Nw.nw hw_; simp [ew_, nw_, q1, q2, firstS]) | simp [ew_, q1, q2, firstS])
      | ((first | (refine Pc.go (h1) ?_ ?_; focus (first | rfl | (simp [q1, q2, firstS]; done))) | (refine Pc.go (unl_t 11) ?_ ?_; focus (first | rfl | (simp [q1, q2, firstS]; done))) | (refine Pc.go (unl_f 11) ?_ ?_; focus (first | rfl | (simp [q1, q2, firstS]; done))) | (refine Lc.go (h5) rfl ?_ ?_; focus (first | (simp [q1, q2, firstS]; done) | (simp; rw [frzOwn_neat (by simp) (by simp <;> omega)]; simp [q1, q2, firstS]; done))) | (refine Sc.go (h5) ?_ ?_; focus (simp [q1, q2, firstS]; done)) | (refine Lc.go (h6) rfl ?_ ?_; focus (first | (simp [q1, q2, firstS]; done) | (simp; rw [frzOwn_neat (by simp) (by simp <;> omega)]; simp [q1, q2, firstS]; done))) | (refine Sc.go (h6) ?_ ?_; focus (simp [q1, q2, firstS]; done)) | rw [if_pos (by first | omega | (simp only [maxLen]; omega))] | rw [if_neg (by first | omega | (simp only [maxLen]; omega))] | rw [frzOwn_neat (by simp) (by simp <;> omega)] | rw [fzOwn_neat (by simp) (by simp <;> omega)]); try simp [q1, q2, firstS])
      | ((first | refine TstB.go (fun hw_ ew_ => ?_) (fun hw_ ew_ => ?_)) <;> first | (exfalso; first | omega | with_reducible exact hw_ (by assumption) | with_reducible exact absurd hw_ (by assumption)) | simp [ew_, q1, q2, firstS])
      | fail)
  · rw [if_neg q2]
    refine PCall.mk (fun _ => false) Tryz.func193 rfl rfl rfl (Ent.mk Tryz.func193 (by kernel_rfl) rfl) (by simp) (by simp) fun hfit => ?_
    simp [Tryz.f193]
    try simp [q1, q2, firstS]
    repeat' (first
      | ((first | refine Tst.go (fun hw_ ew_ => ?_) (fun hw_ ew_ => ?_)) <;> first | (exfalso; first | omega | with_reducible exact hw_ (by assumption) | with_reducible exact absurd hw_ (by assumption)) | (have nw_ := Nw.nw hw_; simp [ew_, nw_, q1, q2, firstS]) | simp [ew_, q1, q2, firstS])
      | ((first | (refine Pc.go (h1) ?_ ?_; focus (first | rfl | (simp [q1, q2, firstS]; done))) | (refine Pc.go (unl_t 11) ?_ ?_; focus (first | rfl | (simp [q1, q2, firstS]; done))) | (refine Pc.go (unl_f 11) ?_ ?_; focus (first | rfl | (simp [q1, q2, firstS]; done))) | (refine Lc.go (h5) rfl ?_ ?_; focus (first | (simp [q1, q2, firstS]; done) | (simp; rw [frzOwn_neat (by simp) (by simp <;> omega)]; simp [q1, q2, firstS]; done))) | (refine Sc.go (h5) ?_ ?_; focus (simp [q1, q2, firstS]; done)) | (refine Lc.go (h6) rfl ?_ ?_; focus (first | (simp [q1, q2, firstS]; done) | (simp; rw [frzOwn_neat (by simp) (by simp <;> omega)]; simp [q1, q2, firstS]; done))) | (refine Sc.go (h6) ?_ ?_; focus (simp [q1, q2, firstS]; done)) | (refine Pc.go (h2) ?_ ?_; focus (first | rfl | (simp [q1, q2, firstS]; done))) | rw [if_pos (by first | omega | (simp only [maxLen]; omega))] | rw [if_neg (by first | omega | (simp only [maxLen]; omega))] | rw [frzOwn_neat (by simp) (by simp <;> omega)] | rw [fzOwn_neat (by simp) (by simp <;> omega)]); try simp [q1, q2, firstS])
      | ((first | refine TstB.go (fun hw_ ew_ => ?_) (fun hw_ ew_ => ?_)) <;> first | (exfalso; first | omega | with_reducible exact hw_ (by assumption) | with_reducible exact absurd hw_ (by assumption)) | simp [ew_, q1, q2, firstS])
      | fail)
end Go.Proofs.YtdnfnddlciafmaaGreat
