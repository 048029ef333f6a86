import Derived.Test.YtdnfnddlciafmaaGreatXOpJ
set_option linter.unusedVariables false
set_option linter.unusedSimpArgs false
namespace Go.Proofs.YtdnfnddlciafmaaGreat
open Go.Cx Tab
set_option maxHeartbeats 400000
set_option maxRecDepth 40000
theorem setF_enc (f k : FSR) : setMany f.enc 0 k.enc = k.enc := rfl
theorem look_ok (f : FSR) (d : Int) (s : ByteArray) (h : RowsF f) : PCall Tryz.prog 120 [encF f, I d, S s] (.tup [encN (lookD f d s).1, I (lookD f d s).2]) := by
  have hlen := h.len
  have h1 := dir_ok f d (by omega)
  have h2 := check_ok s
  have hrow := h.dirRow d
  have h3 := nfind_ok (dirD f d).1.l s hrow.rise (by have := hrow.len; omega)
  have h4 := find_ok f (findE (dirD f d).1.l s).1 (by omega)
  have h5 := first_ok [(dirD f d).2, checkS s] (by simp)
  unfold lookD
  generalize dirD f d = D at *
  generalize findE D.1.l s = E at *
  generalize findB f.l E.1 = N at *
  obtain ⟨D1, De⟩ := D
  obtain ⟨E1, E2⟩ := E
  obtain ⟨N1, N2⟩ := N
  simp only at *
  by_cases q1 : De = 0
  case neg =>
    rw [if_pos q1]
    refine Pm Tryz.func120 fun hfit => ?_
    simp [Tryz.f120]
    have s_ := And.intro @q1 (And.intro @firstS.eq_1 (And.intro @firstS.eq_2 (@zeroN_enc)))
    try simp [s_]
    repeat' ((first | ((first | refine Tp ?_ | refine Tn ?_ | refine T2 ?_ ?_) <;> intro hw_ ew_ nw_) | refine Pg h1 ?_ | refine Pg h2 ?_ | refine Lg h5 ?_ | refine Sg h5 ?_ | rw [Ip] | rw [In] | rw [Fz] | rw [Gz] | fail) <;> first | simp [ew_, nw_, s_] | simp [s_] | skip)
  rw [if_neg (by simpa using q1)]
  by_cases q2 : checkS s = 0
  case neg =>
    rw [if_pos q2]
    refine Pm Tryz.func120 fun hfit => ?_
    simp [Tryz.f120]
    have s_ := And.intro @q1 (And.intro @q2 (And.intro @firstS.eq_1 (And.intro @firstS.eq_2 (@zeroN_enc))))
    try simp [s_]
    repeat' ((first | ((first | refine Tp ?_ | refine Tn ?_ | refine T2 ?_ ?_) <;> intro hw_ ew_ nw_) | refine Pg h1 ?_ | refine Pg h2 ?_ | refine Lg h5 ?_ | refine Sg h5 ?_ | rw [Ip] | rw [In] | rw [Fz] | rw [Gz] | fail) <;> first | simp [ew_, nw_, s_] | simp [s_] | skip)
  rw [if_neg (by simpa using q2)]
  cases E2 with
  | false =>
    rw [if_pos rfl]
    refine Pm Tryz.func120 fun hfit => ?_
    simp [Tryz.f120]
    have s_ := And.intro @q1 (And.intro @q2 (And.intro @firstS.eq_1 (And.intro @firstS.eq_2 (@zeroN_enc))))
    try simp [s_]
    repeat' ((first | ((first | refine Tp ?_ | refine Tn ?_ | refine T2 ?_ ?_) <;> intro hw_ ew_ nw_) | refine Pg h1 ?_ | refine Pg h2 ?_ | refine Lg h5 ?_ | refine Sg h5 ?_ | refine Pg h3 ?_ | refine Pg h4 ?_ | rw [Ip] | rw [In] | rw [Fz] | rw [Gz] | fail) <;> first | simp [ew_, nw_, s_] | simp [s_] | skip)
  | true =>
    rw [if_neg (by simp)]
    cases N2 with
    | false =>
      rw [if_pos rfl]
      refine Pm Tryz.func120 fun hfit => ?_
      simp [Tryz.f120]
      have s_ := And.intro @q1 (And.intro @q2 (And.intro @firstS.eq_1 (And.intro @firstS.eq_2 (@zeroN_enc))))
      try simp [s_]
      repeat' ((first | ((first | refine Tp ?_ | refine Tn ?_ | refine T2 ?_ ?_) <;> intro hw_ ew_ nw_) | refine Pg h1 ?_ | refine Pg h2 ?_ | refine Lg h5 ?_ | refine Sg h5 ?_ | refine Pg h3 ?_ | refine Pg h4 ?_ | rw [Ip] | rw [In] | rw [Fz] | rw [Gz] | fail) <;> first | simp [ew_, nw_, s_] | simp [s_] | skip)
    | true =>
      rw [if_neg (by simp)]
      refine Pm Tryz.func120 fun hfit => ?_
      simp [Tryz.f120]
      have s_ := And.intro @q1 (And.intro @q2 (And.intro @firstS.eq_1 (And.intro @firstS.eq_2 (@zeroN_enc))))
      try simp [s_]
      repeat' ((first | ((first | refine Tp ?_ | refine Tn ?_ | refine T2 ?_ ?_) <;> intro hw_ ew_ nw_) | refine Pg h1 ?_ | refine Pg h2 ?_ | refine Lg h5 ?_ | refine Sg h5 ?_ | refine Pg h3 ?_ | refine Pg h4 ?_ | rw [Ip] | rw [In] | rw [Fz] | rw [Gz] | fail) <;> first | simp [ew_, nw_, s_] | simp [s_] | skip)
theorem entered_ok (f : FSR) (d : NodeR) (s : ByteArray) (ino : Int) (hr : RowE d.l) (hl : f.l.length ≤ 100000) (hn : inI d.ino) (hm : d.ino ≠ 9223372036854775807) : PCall Tryz.prog 196 [encF f, encN d, S s, I ino] (encF (putB f { d with l := (enterE d.l s ino).1 })) := by
  have h1 := enter_ok d.l s ino hr.rise (by have := hr.len; omega)
  have h2 := tput_ok f { d with l := (enterE d.l s ino).1 } hl hn hm
  generalize enterE d.l s ino = E at *
  refine Pm Tryz.func196 fun hfit => ?_
  simp [Tryz.f196]
  try simp
  repeat' ((first | ((first | refine Tp ?_ | refine Tn ?_ | refine T2 ?_ ?_) <;> intro hw_ ew_ nw_) | refine Pg h1 ?_ | refine Pg h2 ?_ | rw [Ip] | rw [In] | rw [Fz] | rw [Gz] | fail) <;> first | simp [ew_, nw_] | simp | skip)
theorem without_ok (f : FSR) (dir : Int) (s : ByteArray) (n : NodeR) (h : RowsF f) (hb : f.next ≤ 4611686018427387904) (hd : (findB f.l dir).2 = true) (hn : n = (findB f.l n.ino).1) (hf : (findB f.l n.ino).2 = true) (hne : n.ino ≠ dir) : PCall Tryz.prog 199 [encF f, I dir, S s, encN n] (encF (withoutD f dir s n.ino)) := by
  have hlen := h.len
  have h1 := find_ok f dir (by omega)
  have hrow := h.row dir
  have h2 := leave_ok (findB f.l dir).1.l s hrow.rise (by have := hrow.len; omega)
  have hnum := h.num dir
  have hnn := h.num n.ino
  have hlk := h.links n.ino
  rw [← hn] at hnn hlk
  have hs := left_same h hd s
  have h3 := tput_ok f { (findB f.l dir).1 with l := (leaveE (findB f.l dir).1.l s).1 } (by omega) ⟨by simp only; omega, by simp only; omega⟩ (by simp only; omega)
  have h4 := tout_ok (leftD f dir s) n.ino (by have := hs.len; omega)
  have h5 := tput_ok (leftD f dir s) { n with links := n.links - 1 } (by have := hs.len; omega) ⟨by simp only; omega, by simp only; omega⟩ (by simp only; omega)
  have hw : IntKind.i64.wrap (n.links - 1) = n.links - 1 := wrap_id (by omega) (by omega)
  rw [without_eq h hd s hne, ← hn]
  have e : putB f { (findB f.l dir).1 with l := (leaveE (findB f.l dir).1.l s).1 } = leftD f dir s := rfl
  rw [e] at h3
  generalize leftD f dir s = K at *
  generalize leaveE (findB f.l dir).1.l s = L at *
  generalize findB f.l dir = D at *
  by_cases q : n.links ≤ 1
  · rw [if_pos q]
    refine Pm Tryz.func199 fun hfit => ?_
    simp [Tryz.f199]
    have s_ := And.intro @q (@setF_enc)
    try simp [s_]
    repeat' ((first | ((first | refine Tp ?_ | refine Tn ?_ | refine T2 ?_ ?_) <;> intro hw_ ew_ nw_) | refine Pg h1 ?_ | refine Pg h2 ?_ | refine Pg h3 ?_ | refine Pg h4 ?_ | rw [Ip] | rw [In] | rw [Fz] | rw [Gz] | fail) <;> first | simp [ew_, nw_, s_] | simp [s_] | skip)
  · rw [if_neg q]
    refine Pm Tryz.func199 fun hfit => ?_
    simp [Tryz.f199]
    have s_ := And.intro @q (And.intro @hw (@setF_enc))
    try simp [s_]
    repeat' ((first | ((first | refine Tp ?_ | refine Tn ?_ | refine T2 ?_ ?_) <;> intro hw_ ew_ nw_) | refine Pg h1 ?_ | refine Pg h2 ?_ | refine Pg h3 ?_ | refine Pg h5 ?_ | rw [Ip] | rw [In] | rw [Fz] | rw [Gz] | fail) <;> first | simp [ew_, nw_, s_] | simp [s_] | skip)
theorem take_ok (f : FSR) (dir : Int) (s : ByteArray) (h : RowsF f) (hb : f.next ≤ 4611686018427387904) (hne : (lookD f dir s).2 = 0 → (lookD f dir s).1.ino ≠ dir) : PCall Tryz.prog 193 [encF f, I dir, S s] (.tup [encF (takeD f dir s).1, I (takeD f dir s).2]) := by
  have h1 := look_ok f dir s h
  unfold takeD
  by_cases q1 : (lookD f dir s).2 = 0
  case neg =>
    rw [if_pos q1]
    have h5 := first_ok [(lookD f dir s).2, 0] (by simp)
    have h6 := first_ok [(lookD f dir s).2, 11] (by simp)
    by_cases q2 : 0 < (lookD f dir s).1.l.length
    · refine Pm Tryz.func193 fun hfit => ?_
      simp [Tryz.f193]
      have s_ := And.intro @q1 (And.intro @q2 (And.intro @firstS.eq_1 (@firstS.eq_2)))
      try simp [s_]
      repeat' ((first | ((first | refine Tp ?_ | refine Tn ?_ | refine T2 ?_ ?_) <;> intro hw_ ew_ nw_) | refine Pg h1 ?_ | refine Pg (unl_t 11) ?_ | refine Pg (unl_f 11) ?_ | refine Lg h5 ?_ | refine Sg h5 ?_ | refine Lg h6 ?_ | refine Sg h6 ?_ | rw [Ip] | rw [In] | rw [Fz] | rw [Gz] | fail) <;> first | simp [ew_, nw_, s_] | simp [s_] | skip)
    · refine Pm Tryz.func193 fun hfit => ?_
      simp [Tryz.f193]
      have s_ := And.intro @q1 (And.intro @q2 (And.intro @firstS.eq_1 (@firstS.eq_2)))
      try simp [s_]
      repeat' ((first | ((first | refine Tp ?_ | refine Tn ?_ | refine T2 ?_ ?_) <;> intro hw_ ew_ nw_) | refine Pg h1 ?_ | refine Pg (unl_t 11) ?_ | refine Pg (unl_f 11) ?_ | refine Lg h5 ?_ | refine Sg h5 ?_ | refine Lg h6 ?_ | refine Sg h6 ?_ | rw [Ip] | rw [In] | rw [Fz] | rw [Gz] | fail) <;> first | simp [ew_, nw_, s_] | simp [s_] | skip)
  rw [if_neg (by simpa using q1)]
  obtain ⟨g1, g2, g3, g4, g5⟩ := lookD_ok q1
  obtain ⟨g6, g7, g8⟩ := dirD_ok g1
  have hi : (findB f.l (lookD f dir s).1.ino) = ((lookD f dir s).1, true) := findB_of h.rise (lookD_mem q1)
  have h2 := without_ok f dir s (lookD f dir s).1 h hb g6 (by rw [hi]) (by rw [hi]) (hne q1)
  have h5 := first_ok [0, 0] (by simp)
  have h6 := first_ok [0, 11] (by simp)
  generalize lookD f dir s = L at *
  by_cases q2 : 0 < L.1.l.length
  · rw [if_pos q2]
    refine Pm Tryz.func193 fun hfit => ?_
    simp [Tryz.f193]
    have s_ := And.intro @q1 (And.intro @q2 (And.intro @firstS.eq_1 (@firstS.eq_2)))
    try simp [s_]
    repeat' ((first | ((first | refine Tp ?_ | refine Tn ?_ | refine T2 ?_ ?_) <;> intro hw_ ew_ nw_) | refine Pg h1 ?_ | refine Pg (unl_t 11) ?_ | refine Pg (unl_f 11) ?_ | refine Lg h5 ?_ | refine Sg h5 ?_ | refine Lg h6 ?_ | refine Sg h6 ?_ | rw [Ip] | rw [In] | rw [Fz] | rw [Gz] | fail) <;> first | simp [ew_, nw_, s_] | simp [s_] | skip)
  · rw [if_neg q2]
    refine Pm Tryz.func193 fun hfit => ?_
    simp [Tryz.f193]
    have s_ := And.intro @q1 (And.intro @q2 (And.intro @firstS.eq_1 (@firstS.eq_2)))
    try simp [s_]
    repeat' ((first | ((first | refine Tp ?_ | refine Tn ?_ | refine T2 ?_ ?_) <;> intro hw_ ew_ nw_) | refine Pg h1 ?_ | refine Pg (unl_t 11) ?_ | refine Pg (unl_f 11) ?_ | refine Lg h5 ?_ | refine Sg h5 ?_ | refine Lg h6 ?_ | refine Sg h6 ?_ | refine Pg h2 ?_ | rw [Ip] | rw [In] | rw [Fz] | rw [Gz] | fail) <;> first | simp [ew_, nw_, s_] | simp [s_] | skip)
end Go.Proofs.YtdnfnddlciafmaaGreat
