import Derived.Test.YtdnfnddlciafmaaGreatXOpK
set_option linter.unusedVariables false
set_option linter.unusedSimpArgs false
namespace Go.Proofs.YtdnfnddlciafmaaGreat
open Go.Cx Tab
set_option maxHeartbeats 400000
set_option maxRecDepth 40000
theorem add1_ok (s : ByteArray) (d : NodeR) (f : FSR) (n : NodeR) (hr : RowE d.l) : PCall Tryz.prog 222 [.fp [S s], .fp d.enc, .fp f.enc, .fp n.enc] (I (mayD f d s n)) := by
  have h1 := check_ok s
  have h2 := there_ok d s hr.rise (by have := hr.len; omega)
  have h3 := nright_ok n
  have e : ∀ a b c : Int, PCall Tryz.prog 186 [enc1 I [checkS s, a, b, c]] (I (firstS [checkS s, a, b, c])) := fun a b c => first_ok [checkS s, a, b, c] (by simp)
  unfold mayD
  generalize checkS s = k at *
  generalize (findE d.l s).2 = th at *
  generalize nodeOk n = ok at *
  cases th <;> cases ok <;> by_cases q1 : 256 ≤ f.l.length <;> by_cases q2 : 256 ≤ d.l.length <;> by_cases q3 : 0 < n.l.length
  all_goals
    refine Pm Tryz.func222 fun hfit => ?_
    simp [Tryz.f222, unlessS, q1, q2, q3]
    have s_ := And.intro @q1 (And.intro @q2 (And.intro @q3 (@FSR.enc.eq_1)))
    try simp [s_]
    repeat' ((first | ((first | refine Tp ?_ | refine Tn ?_ | refine T2 ?_ ?_) <;> intro hw_ ew_ nw_) | refine Pg h1 ?_ | refine Pg h2 ?_ | refine Pg h3 ?_ | refine Pg (unl_t 7) ?_ | refine Pg (unl_f 7) ?_ | refine Pg (unl_t 12) ?_ | refine Pg (unl_f 12) ?_ | refine Pg (unl_t 1) ?_ | refine Pg (unl_f 1) ?_ | refine Lg (e 0 0 0) ?_ | refine Sg (e 0 0 0) ?_ | refine Lg (e 0 0 1) ?_ | refine Sg (e 0 0 1) ?_ | refine Lg (e 0 12 0) ?_ | refine Sg (e 0 12 0) ?_ | refine Lg (e 0 12 1) ?_ | refine Sg (e 0 12 1) ?_ | refine Lg (e 7 0 0) ?_ | refine Sg (e 7 0 0) ?_ | refine Lg (e 7 0 1) ?_ | refine Sg (e 7 0 1) ?_ | refine Lg (e 7 12 0) ?_ | refine Sg (e 7 12 0) ?_ | refine Lg (e 7 12 1) ?_ | refine Sg (e 7 12 1) ?_ | refine Dg 1 30 [] [] ?_ | rw [Ip] | rw [In] | rw [Fz] | rw [Gz] | fail) <;> first | simp [ew_, nw_, s_] | simp [s_] | skip)
theorem newN_enc (f : FSR) (n : NodeR) : (n.enc.set 0 (AV.val (.int .i64 f.next))).set 2 (AV.val (.int .i64 1)) = (newN f n).enc := rfl
theorem add_ok (f : FSR) (dir : Int) (s : ByteArray) (n : NodeR) (h : RowsF f) (hb : f.next < 4611686018427387904) : PCall Tryz.prog 192 [encF f, I dir, S s, encN n] (.tup [encF (addD f dir s n).1, I (addD f dir s n).2]) := by
  have hlen := h.len
  have hnx := h.next
  have hrow := h.dirRow dir
  have h1 := dir_ok f dir (by omega)
  have h2 := add1_ok s (dirD f dir).1 f (newN f n) hrow
  have h3 := first_ok [(dirD f dir).2, mayD f (dirD f dir).1 s (newN f n)] (by simp)
  rw [addD_eq]
  by_cases q : firstS [(dirD f dir).2, mayD f (dirD f dir).1 s (newN f n)] = 0
  · obtain ⟨q1, q2⟩ := first_two q
    obtain ⟨g1, g2, g3⟩ := dirD_ok q1
    have hs := entered_same h g1 g2 s f.next
    have hn := h.num dir
    rw [g3] at hrow
    have h4 := entered_ok f (findB f.l dir).1 s f.next hrow (by omega) ⟨by omega, by omega⟩ (by omega)
    have e : putB f { (findB f.l dir).1 with l := (enterE (findB f.l dir).1.l s f.next).1 } = enteredD f dir s f.next := rfl
    rw [e] at h4
    have h5 := tput_ok (enteredD f dir s f.next) (newN f n) (by have := hs.len; omega) (by simp only [newN]; exact ⟨by omega, by omega⟩) (by simp only [newN]; omega)
    rw [if_pos q]
    rw [g3] at h1 h2 h3 q
    rw [q] at h3
    generalize enteredD f dir s f.next = K at *
    generalize mayD f (findB f.l dir).1 s (newN f n) = m at *
    generalize (dirD f dir).2 = De at *
    subst q1
    refine Pm Tryz.func192 fun hfit => ?_
    simp [Tryz.f192]
    have s_ := And.intro @newN_enc (@FSR.enc.eq_1)
    try simp [s_]
    repeat' ((first | ((first | refine Tp ?_ | refine Tn ?_ | refine T2 ?_ ?_) <;> intro hw_ ew_ nw_) | refine Pg h1 ?_ | refine Lg h2 ?_ | refine Sg h2 ?_ | refine Lg h3 ?_ | refine Sg h3 ?_ | refine Pg h4 ?_ | refine Pg h5 ?_ | refine Dg 7 8 [] [] ?_ | rw [Ip] | rw [In] | rw [Fz] | rw [Gz] | fail) <;> first | simp [ew_, nw_, s_] | simp [s_] | skip)
  · rw [if_neg q]
    generalize mayD f (dirD f dir).1 s (newN f n) = m at *
    generalize dirD f dir = D at *
    generalize firstS [D.2, m] = r at *
    refine Pm Tryz.func192 fun hfit => ?_
    simp [Tryz.f192]
    have s_ := And.intro @q (And.intro @newN_enc (@FSR.enc.eq_1))
    try simp [s_]
    repeat' ((first | ((first | refine Tp ?_ | refine Tn ?_ | refine T2 ?_ ?_) <;> intro hw_ ew_ nw_) | refine Pg h1 ?_ | refine Lg h2 ?_ | refine Sg h2 ?_ | refine Lg h3 ?_ | refine Sg h3 ?_ | refine Dg 7 8 [] [] ?_ | rw [Ip] | rw [In] | rw [Fz] | rw [Gz] | fail) <;> first | simp [ew_, nw_, s_] | simp [s_] | skip)
end Go.Proofs.YtdnfnddlciafmaaGreat
