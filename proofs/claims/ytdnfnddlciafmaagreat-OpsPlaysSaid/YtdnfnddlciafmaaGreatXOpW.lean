import Derived.Test.YtdnfnddlciafmaaGreatXOpV
import Derived.Test.YtdnfnddlciafmaaGreatXBp
set_option linter.unusedVariables false
set_option linter.unusedSimpArgs false
namespace Go.Proofs.YtdnfnddlciafmaaGreat
open Go.Cx Tab
set_option maxHeartbeats 400000
set_option maxRecDepth 40000
theorem rfindR (f : FSR) (k : Int) (h : RowsF f) : PCall Tryz.prog 25 [encF f, I k] (.tup [encN (findB f.l k).1, B (findB f.l k).2]) := rfind08_ok f k h.rise (by have := h.len; omega)
theorem rputR (f : FSR) (n : NodeR) (h : RowsF f) (hn : inI n.ino) (hm : n.ino ≠ 9223372036854775807) : PCall Tryz.prog 79 [encF f, encN n] (encF (putB f n)) := by
  have := rput_ok f n (by have := h.len; omega) hn hm
  rwa [putR_eq h.rise] at this
theorem rbelow_ok (f : FSR) (ino top : Int) (h : RowsF f) : PCall Tryz.prog 161 [encF f, I ino, I top] (B (belowD f ino top)) := by
  have hE : ∀ n ∈ f.l, n.l.length ≤ 256 := fun n hn => ((rowOk_iff _).1 ((nodeOk_iff n).1 (h.ok n hn)).row).len
  have hl := h.len
  have h1 := under08_ok f top h.rise hl hE
  have h2 := belowL_len f.l top
  have h3 := allKids_le hE
  have h4 := has_ok (belowL f.l top) ino (by omega)
  have e : decide (ino ∈ belowL f.l top) = belowD f ino top := by
    have h5 := belowL_iff f.l top ino
    have h6 := below_iff h ino top
    rw [← h6] at h5
    cases hb : belowD f ino top with
    | true => exact decide_eq_true (h5.2 hb)
    | false => exact decide_eq_false fun g => by rw [h5.1 g] at hb; cases hb
  rw [e] at h4
  refine Pm Tryz.func161 fun hfit => ?_
  simp [Tryz.f161]
  try simp
  repeat' ((first | ((first | refine Tp ?_ | refine Tn ?_ | refine T2 ?_ ?_) <;> intro hw_ ew_ nw_) | refine Pg h1 ?_ | refine Pg h4 ?_ | rw [Ip] | rw [In] | rw [Fz] | rw [Gz] | fail) <;> first | simp [ew_, nw_] | simp | skip)
theorem rdir_ok (f : FSR) (d : Int) (h : RowsF f) : PCall Tryz.prog 76 [encF f, I d] (.tup [encN (dirD f d).1, I (dirD f d).2]) := by
  have h1 := rfindR f d h
  unfold dirD
  by_cases q1 : (findB f.l d).2 = false
  · rw [if_pos q1]
    refine Pm Tryz.func76 fun hfit => ?_
    simp [Tryz.f76]
    have s_ := And.intro @q1 (@zeroN_enc)
    try simp [s_]
    repeat' ((first | ((first | refine Tp ?_ | refine Tn ?_ | refine T2 ?_ ?_) <;> intro hw_ ew_ nw_) | refine Pg h1 ?_ | rw [Ip] | rw [In] | rw [Fz] | rw [Gz] | fail) <;> first | simp [ew_, nw_, s_] | simp [s_] | skip)
  by_cases q2 : (findB f.l d).1.kind ≠ 2
  · rw [if_neg q1, if_pos q2]
    refine Pm Tryz.func76 fun hfit => ?_
    simp [Tryz.f76]
    have s_ := And.intro @q1 (And.intro @q2 (@zeroN_enc))
    try simp [s_]
    repeat' ((first | ((first | refine Tp ?_ | refine Tn ?_ | refine T2 ?_ ?_) <;> intro hw_ ew_ nw_) | refine Pg h1 ?_ | rw [Ip] | rw [In] | rw [Fz] | rw [Gz] | fail) <;> first | simp [ew_, nw_, s_] | simp [s_] | skip)
  · rw [if_neg q1, if_neg q2]
    refine Pm Tryz.func76 fun hfit => ?_
    simp [Tryz.f76]
    have s_ := And.intro @q1 (@q2)
    try simp [s_]
    repeat' ((first | ((first | refine Tp ?_ | refine Tn ?_ | refine T2 ?_ ?_) <;> intro hw_ ew_ nw_) | refine Pg h1 ?_ | rw [Ip] | rw [In] | rw [Fz] | rw [Gz] | fail) <;> first | simp [ew_, nw_, s_] | simp [s_] | skip)
theorem rlook_ok (f : FSR) (d : Int) (s : ByteArray) (h : RowsF f) : PCall Tryz.prog 87 [encF f, I d, S s] (.tup [encN (lookD f d s).1, I (lookD f d s).2]) := by
  have h1 := rdir_ok f d h
  have h2 := rcheck_ok s
  have h3 := rfind06_ok (dirD f d).1.l s
  have h4 := rfindR f (findE (dirD f d).1.l s).1 h
  unfold lookD
  generalize dirD f d = D at *
  generalize findE D.1.l s = E at *
  generalize findB f.l E.1 = N at *
  obtain ⟨D1, De⟩ := D
  obtain ⟨E1, E2⟩ := E
  obtain ⟨N1, N2⟩ := N
  simp only at *
  by_cases q1 : De = 0
  case neg =>
    rw [if_pos q1]
    refine Pm Tryz.func87 fun hfit => ?_
    simp [Tryz.f87]
    have s_ := And.intro @q1 (@zeroN_enc)
    try simp [s_]
    repeat' ((first | ((first | refine Tp ?_ | refine Tn ?_ | refine T2 ?_ ?_) <;> intro hw_ ew_ nw_) | refine Pg h1 ?_ | refine Pg h2 ?_ | rw [Ip] | rw [In] | rw [Fz] | rw [Gz] | fail) <;> first | simp [ew_, nw_, s_] | simp [s_] | skip)
  rw [if_neg (by simpa using q1)]
  by_cases q2 : checkS s = 0
  case neg =>
    rw [if_pos q2]
    refine Pm Tryz.func87 fun hfit => ?_
    simp [Tryz.f87]
    have s_ := And.intro @q1 (And.intro @q2 (@zeroN_enc))
    try simp [s_]
    repeat' ((first | ((first | refine Tp ?_ | refine Tn ?_ | refine T2 ?_ ?_) <;> intro hw_ ew_ nw_) | refine Pg h1 ?_ | refine Pg h2 ?_ | rw [Ip] | rw [In] | rw [Fz] | rw [Gz] | fail) <;> first | simp [ew_, nw_, s_] | simp [s_] | skip)
  rw [if_neg (by simpa using q2)]
  cases E2 with
  | false =>
    rw [if_pos rfl]
    refine Pm Tryz.func87 fun hfit => ?_
    simp [Tryz.f87]
    have s_ := And.intro @q1 (And.intro @q2 (@zeroN_enc))
    try simp [s_]
    repeat' ((first | ((first | refine Tp ?_ | refine Tn ?_ | refine T2 ?_ ?_) <;> intro hw_ ew_ nw_) | refine Pg h1 ?_ | refine Pg h2 ?_ | refine Pg h3 ?_ | refine Pg h4 ?_ | rw [Ip] | rw [In] | rw [Fz] | rw [Gz] | fail) <;> first | simp [ew_, nw_, s_] | simp [s_] | skip)
  | true =>
    rw [if_neg (by simp)]
    cases N2 with
    | false =>
      rw [if_pos rfl]
      refine Pm Tryz.func87 fun hfit => ?_
      simp [Tryz.f87]
      have s_ := And.intro @q1 (And.intro @q2 (@zeroN_enc))
      try simp [s_]
      repeat' ((first | ((first | refine Tp ?_ | refine Tn ?_ | refine T2 ?_ ?_) <;> intro hw_ ew_ nw_) | refine Pg h1 ?_ | refine Pg h2 ?_ | refine Pg h3 ?_ | refine Pg h4 ?_ | rw [Ip] | rw [In] | rw [Fz] | rw [Gz] | fail) <;> first | simp [ew_, nw_, s_] | simp [s_] | skip)
    | true =>
      rw [if_neg (by simp)]
      refine Pm Tryz.func87 fun hfit => ?_
      simp [Tryz.f87]
      have s_ := And.intro @q1 (And.intro @q2 (@zeroN_enc))
      try simp [s_]
      repeat' ((first | ((first | refine Tp ?_ | refine Tn ?_ | refine T2 ?_ ?_) <;> intro hw_ ew_ nw_) | refine Pg h1 ?_ | refine Pg h2 ?_ | refine Pg h3 ?_ | refine Pg h4 ?_ | rw [Ip] | rw [In] | rw [Fz] | rw [Gz] | fail) <;> first | simp [ew_, nw_, s_] | simp [s_] | skip)
theorem rentered_ok (f : FSR) (dir : Int) (s : ByteArray) (ino : Int) (h : RowsF f) (hb : f.next ≤ 4611686018427387904) : PCall Tryz.prog 80 [encF f, I dir, S s, I ino] (encF (enteredD f dir s ino)) := by
  have h1 := rfindR f dir h
  have hn := h.num dir
  have h2 := renter_ok (findB f.l dir).1.l s ino (by have := (h.row dir).len; omega)
  have h3 := rputR f { (findB f.l dir).1 with l := (enterE (findB f.l dir).1.l s ino).1 } h ⟨by simp only; omega, by simp only; omega⟩ (by simp only; omega)
  have e : putB f { (findB f.l dir).1 with l := (enterE (findB f.l dir).1.l s ino).1 } = enteredD f dir s ino := rfl
  rw [e] at h3
  generalize enteredD f dir s ino = K at *
  generalize enterE (findB f.l dir).1.l s ino = E at *
  generalize findB f.l dir = D at *
  refine Pm Tryz.func80 fun hfit => ?_
  simp [Tryz.f80]
  try simp
  repeat' ((first | ((first | refine Tp ?_ | refine Tn ?_ | refine T2 ?_ ?_) <;> intro hw_ ew_ nw_) | refine Pg h1 ?_ | refine Pg h2 ?_ | refine Pg h3 ?_ | rw [Ip] | rw [In] | rw [Fz] | rw [Gz] | fail) <;> first | simp [ew_, nw_] | simp | skip)
theorem rleft_ok (f : FSR) (dir : Int) (s : ByteArray) (h : RowsF f) (hb : f.next ≤ 4611686018427387904) : PCall Tryz.prog 163 [encF f, I dir, S s] (encF (leftD f dir s)) := by
  have h1 := rfindR f dir h
  have hn := h.num dir
  have h2 := rleave_ok (findB f.l dir).1.l s (by have := (h.row dir).len; omega)
  have h3 := rputR f { (findB f.l dir).1 with l := (leaveE (findB f.l dir).1.l s).1 } h ⟨by simp only; omega, by simp only; omega⟩ (by simp only; omega)
  have e : putB f { (findB f.l dir).1 with l := (leaveE (findB f.l dir).1.l s).1 } = leftD f dir s := rfl
  rw [e] at h3
  generalize leftD f dir s = K at *
  generalize leaveE (findB f.l dir).1.l s = E at *
  generalize findB f.l dir = D at *
  refine Pm Tryz.func163 fun hfit => ?_
  simp [Tryz.f163]
  try simp
  repeat' ((first | ((first | refine Tp ?_ | refine Tn ?_ | refine T2 ?_ ?_) <;> intro hw_ ew_ nw_) | refine Pg h1 ?_ | refine Pg h2 ?_ | refine Pg h3 ?_ | rw [Ip] | rw [In] | rw [Fz] | rw [Gz] | fail) <;> first | simp [ew_, nw_] | simp | skip)
theorem rless_ok (f : FSR) (ino : Int) (h : RowsF f) (hb : f.next ≤ 4611686018427387904) : PCall Tryz.prog 162 [encF f, I ino] (encF (lessD f ino)) := by
  have h1 := rfindR f ino h
  have hn := h.num ino
  have hlk := h.links ino
  have hl := h.len
  have h2 := rout_ok f ino (by omega)
  have h3 := rputR f { (findB f.l ino).1 with links := (findB f.l ino).1.links - 1 } h ⟨by simp only; omega, by simp only; omega⟩ (by simp only; omega)
  have hw : IntKind.i64.wrap ((findB f.l ino).1.links - 1) = (findB f.l ino).1.links - 1 := wrap_id (by omega) (by omega)
  unfold lessD
  by_cases q : (findB f.l ino).1.links ≤ 1
  · rw [if_pos q]
    generalize outF f ino = K at *
    generalize findB f.l ino = D at *
    refine Pm Tryz.func162 fun hfit => ?_
    simp [Tryz.f162]
    have s_ := q
    try simp [s_]
    repeat' ((first | ((first | refine Tp ?_ | refine Tn ?_ | refine T2 ?_ ?_) <;> intro hw_ ew_ nw_) | refine Pg h1 ?_ | refine Pg h2 ?_ | rw [Ip] | rw [In] | rw [Fz] | rw [Gz] | fail) <;> first | simp [ew_, nw_, s_] | simp [s_] | skip)
  · rw [if_neg q]
    generalize findB f.l ino = D at *
    generalize putB f { D.1 with links := D.1.links - 1 } = K at *
    refine Pm Tryz.func162 fun hfit => ?_
    simp [Tryz.f162]
    have s_ := And.intro @q (@hw)
    try simp [s_]
    repeat' ((first | ((first | refine Tp ?_ | refine Tn ?_ | refine T2 ?_ ?_) <;> intro hw_ ew_ nw_) | refine Pg h1 ?_ | refine Pg h3 ?_ | rw [Ip] | rw [In] | rw [Fz] | rw [Gz] | fail) <;> first | simp [ew_, nw_, s_] | simp [s_] | skip)
theorem rwithout_ok (f : FSR) (dir : Int) (s : ByteArray) (h : RowsF f) (hb : f.next ≤ 4611686018427387904) (hl : (lookD f dir s).2 = 0) : PCall Tryz.prog 162 [encF (leftD f dir s), I (lookD f dir s).1.ino] (encF (withoutD f dir s (lookD f dir s).1.ino)) := by
  obtain ⟨h1, _⟩ := looked h hl
  have hs := left_same h h1 s
  exact rless_ok (leftD f dir s) (lookD f dir s).1.ino hs.rows (by rw [hs.next]; exact hb)
theorem radd_ok (f : FSR) (dir : Int) (s : ByteArray) (n : NodeR) (h : RowsF f) (hb : f.next < 4611686018427387904) : PCall Tryz.prog 27 [encF f, I dir, S s, encN n] (.tup [encF (addD f dir s n).1, I (addD f dir s n).2]) := by
  have hlen := h.len
  have h1 := rdir_ok f dir h
  have h2 := rcheck_ok s
  have h3 := rfind06_ok (dirD f dir).1.l s
  have h4 := rnright_ok (newN f n)
  have hnx := h.next
  have h5 := rentered_ok f dir s f.next h (by omega)
  have h6 : (dirD f dir).2 = 0 → PCall Tryz.prog 79 [encF (enteredD f dir s f.next), encN (newN f n)] (encF (putB (enteredD f dir s f.next) (newN f n))) := fun g => by
    obtain ⟨d1, d2, _⟩ := dirD_ok g
    have hs := entered_same h d1 d2 s f.next
    exact rputR _ _ hs.rows ⟨by show -9223372036854775808 ≤ f.next; omega, by show f.next < 9223372036854775808; omega⟩ (by show f.next ≠ _; omega)
  unfold addD
  have en : encN (newN f n) = .agg [I f.next, I n.kind, I 1, S n.text, encL EntryR.enc n.l] := rfl
  rw [en] at h4 h6
  generalize newN f n = m at *
  generalize dirD f dir = D at *
  generalize findE D.1.l s = E at *
  generalize enteredD f dir s f.next = K at *
  generalize putB K m = K2 at *
  by_cases q1 : D.2 = 0
  case neg =>
    rw [if_pos q1]
    refine Pm Tryz.func27 fun hfit => ?_
    simp [Tryz.f27]
    have s_ := q1
    try simp [s_]
    repeat' ((first | ((first | refine Tp ?_ | refine Tn ?_ | refine T2 ?_ ?_) <;> intro hw_ ew_ nw_) | refine Pg h1 ?_ | refine Pg h2 ?_ | refine Dg 17 8 [] [] ?_ | rw [Ip] | rw [In] | rw [Fz] | rw [Gz] | fail) <;> first | simp [ew_, nw_, s_] | simp [s_] | skip)
  rw [if_neg (by simpa using q1)]
  have h6 := h6 q1
  by_cases q2 : checkS s = 0
  case neg =>
    rw [if_pos q2]
    refine Pm Tryz.func27 fun hfit => ?_
    simp [Tryz.f27]
    have s_ := And.intro @q1 (@q2)
    try simp [s_]
    repeat' ((first | ((first | refine Tp ?_ | refine Tn ?_ | refine T2 ?_ ?_) <;> intro hw_ ew_ nw_) | refine Pg h1 ?_ | refine Pg h2 ?_ | refine Dg 17 8 [] [] ?_ | rw [Ip] | rw [In] | rw [Fz] | rw [Gz] | fail) <;> first | simp [ew_, nw_, s_] | simp [s_] | skip)
  rw [if_neg (by simpa using q2)]
  cases q3 : E.2 with
  | true =>
    rw [if_pos rfl]
    refine Pm Tryz.func27 fun hfit => ?_
    simp [Tryz.f27]
    have s_ := And.intro @q1 (And.intro @q2 (@q3))
    try simp [s_]
    repeat' ((first | ((first | refine Tp ?_ | refine Tn ?_ | refine T2 ?_ ?_) <;> intro hw_ ew_ nw_) | refine Pg h1 ?_ | refine Pg h2 ?_ | refine Pg h3 ?_ | refine Dg 17 8 [] [] ?_ | rw [Ip] | rw [In] | rw [Fz] | rw [Gz] | fail) <;> first | simp [ew_, nw_, s_] | simp [s_] | skip)
  | false =>
  rw [if_neg (by simp)]
  by_cases q4 : 256 ≤ f.l.length
  · rw [if_pos (.inl q4)]
    refine Pm Tryz.func27 fun hfit => ?_
    simp [Tryz.f27]
    have s_ := And.intro @q1 (And.intro @q2 (And.intro @q3 (And.intro @q4 (@FSR.enc.eq_1))))
    try simp [s_]
    repeat' ((first | ((first | refine Tp ?_ | refine Tn ?_ | refine T2 ?_ ?_) <;> intro hw_ ew_ nw_) | refine Pg h1 ?_ | refine Pg h2 ?_ | refine Pg h3 ?_ | refine Dg 17 8 [] [] ?_ | rw [Ip] | rw [In] | rw [Fz] | rw [Gz] | fail) <;> first | simp [ew_, nw_, s_] | simp [s_] | skip)
  by_cases q5 : 256 ≤ D.1.l.length
  · rw [if_pos (.inr q5)]
    refine Pm Tryz.func27 fun hfit => ?_
    simp [Tryz.f27]
    have s_ := And.intro @q1 (And.intro @q2 (And.intro @q3 (And.intro @q4 (And.intro @q5 (@FSR.enc.eq_1)))))
    try simp [s_]
    repeat' ((first | ((first | refine Tp ?_ | refine Tn ?_ | refine T2 ?_ ?_) <;> intro hw_ ew_ nw_) | refine Pg h1 ?_ | refine Pg h2 ?_ | refine Pg h3 ?_ | refine Dg 17 8 [] [] ?_ | rw [Ip] | rw [In] | rw [Fz] | rw [Gz] | fail) <;> first | simp [ew_, nw_, s_] | simp [s_] | skip)
  rw [if_neg (fun g => g.elim q4 q5)]
  cases q6 : nodeOk m with
  | false =>
    rw [if_pos (.inl rfl)]
    rw [q6] at h4
    refine Pm Tryz.func27 fun hfit => ?_
    simp [Tryz.f27]
    have s_ := And.intro @q1 (And.intro @q2 (And.intro @q3 (And.intro @q4 (And.intro @q5 (And.intro @FSR.enc.eq_1 (@NodeR.enc.eq_1))))))
    try simp [s_]
    repeat' ((first | ((first | refine Tp ?_ | refine Tn ?_ | refine T2 ?_ ?_) <;> intro hw_ ew_ nw_) | refine Pg h1 ?_ | refine Pg h2 ?_ | refine Pg h3 ?_ | refine Pg h4 ?_ | refine Dg 17 8 [] [] ?_ | rw [Ip] | rw [In] | rw [Fz] | rw [Gz] | fail) <;> first | simp [ew_, nw_, s_] | simp [s_] | skip)
  | true =>
  rw [q6] at h4
  by_cases q7 : 0 < n.l.length
  · rw [if_pos (.inr q7)]
    refine Pm Tryz.func27 fun hfit => ?_
    simp [Tryz.f27]
    have s_ := And.intro @q1 (And.intro @q2 (And.intro @q3 (And.intro @q4 (And.intro @q5 (And.intro @q7 (And.intro @FSR.enc.eq_1 (@NodeR.enc.eq_1)))))))
    try simp [s_]
    repeat' ((first | ((first | refine Tp ?_ | refine Tn ?_ | refine T2 ?_ ?_) <;> intro hw_ ew_ nw_) | refine Pg h1 ?_ | refine Pg h2 ?_ | refine Pg h3 ?_ | refine Pg h4 ?_ | refine Dg 17 8 [] [] ?_ | rw [Ip] | rw [In] | rw [Fz] | rw [Gz] | fail) <;> first | simp [ew_, nw_, s_] | simp [s_] | skip)
  rw [if_neg (fun g => g.elim (by simp) q7)]
  refine Pm Tryz.func27 fun hfit => ?_
  simp [Tryz.f27]
  have s_ := And.intro @q1 (And.intro @q2 (And.intro @q3 (And.intro @q4 (And.intro @q5 (And.intro @q7 (And.intro @FSR.enc.eq_1 (@NodeR.enc.eq_1)))))))
  try simp [s_]
  repeat' ((first | ((first | refine Tp ?_ | refine Tn ?_ | refine T2 ?_ ?_) <;> intro hw_ ew_ nw_) | refine Pg h1 ?_ | refine Pg h2 ?_ | refine Pg h3 ?_ | refine Pg h4 ?_ | refine Pg h5 ?_ | refine Pg h6 ?_ | refine Dg 17 8 [] [] ?_ | rw [Ip] | rw [In] | rw [Fz] | rw [Gz] | fail) <;> first | simp [ew_, nw_, s_] | simp [s_] | skip)
end Go.Proofs.YtdnfnddlciafmaaGreat
