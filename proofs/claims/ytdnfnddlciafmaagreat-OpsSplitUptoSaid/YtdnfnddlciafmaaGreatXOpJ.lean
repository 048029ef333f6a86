import Derived.Test.YtdnfnddlciafmaaGreatXOpI
import Derived.Test.YtdnfnddlciafmaaGreatXBl
set_option linter.unusedVariables false
set_option linter.unusedSimpArgs false
namespace Go.Proofs.YtdnfnddlciafmaaGreat
open Go.Cx Tab
set_option maxHeartbeats 400000
set_option maxRecDepth 40000
theorem first_ok (l : List Int) (hl : l.length ≤ 1000000) : PCall Tryz.prog 186 [enc1 I l] (I (firstS l)) := by
  refine Pm Tryz.func186 fun hfit => ?_
  simp [Tryz.f186]
  refine AW.loopG (lit := fun _ => false) (fun i : Nat => ⟨15, pat [(5, enc1 I l), (6, I l.length), (7, I i)], []⟩) (fun i => l.length - i) (fun i => i ≤ l.length ∧ firstS (l.drop i) = firstS l) 0 ?_ ?_ ?_
  · exact Wa
  · simp
  rintro i ⟨h1, h2⟩ A hA
  by_cases hi : i < l.length
  case neg =>
    rw [List.drop_eq_nil_of_le (by omega)] at h2
    have s_ := And.intro @hi (And.intro (Eq.symm (h2)) (And.intro @firstS.eq_1 (@firstS.eq_2)))
    try simp [s_]
    repeat' ((first | ((first | refine Tp ?_ | refine Tn ?_ | refine T2 ?_ ?_) <;> intro hw_ ew_ nw_) | rw [Ip] | rw [In] | rw [Fz] | rw [Gz] | fail) <;> first | simp [ew_, nw_, s_] | simp [s_] | skip)
  rw [List.drop_eq_getElem_cons hi] at h2
  have hwi := wrap_nat hi (by simp only [maxLen]; omega)
  by_cases hk : l[i] = 0
  · have h3 : firstS (l.drop (i + 1)) = firstS l := by rw [← h2]; simp [firstS, hk]
    have s_ := And.intro @hi (And.intro @hwi (@hk))
    try simp [s_]
    repeat' ((first | ((first | refine Tp ?_ | refine Tn ?_ | refine T2 ?_ ?_) <;> intro hw_ ew_ nw_) | (exact hA (i + 1) _ Wa ⟨hi, h3⟩ (by omega)) | rw [Ip] | rw [In] | rw [Fz] | rw [Gz] | fail) <;> first | simp [ew_, nw_, s_] | simp [s_] | skip)
  · have h3 : firstS l = l[i] := by rw [← h2]; simp [firstS, hk]
    have s_ := And.intro @hi (And.intro @hwi (And.intro @hk (@h3)))
    try simp [s_]
    repeat' ((first | ((first | refine Tp ?_ | refine Tn ?_ | refine T2 ?_ ?_) <;> intro hw_ ew_ nw_) | rw [Ip] | rw [In] | rw [Fz] | rw [Gz] | fail) <;> first | simp [ew_, nw_, s_] | simp [s_] | skip)
theorem unless_ok (b : Bool) (e : Int) : PCall Tryz.prog 194 [B b, I e] (I (unlessS b e)) := by
  refine Pm Tryz.func194 fun hfit => ?_
  simp [Tryz.f194, unlessS]
  cases b <;> simp
theorem there_ok (d : NodeR) (s : ByteArray) (hr : risesE d.l = true) (hl : d.l.length ≤ 1000000) : PCall Tryz.prog 195 [encN d, S s] (B (findE d.l s).2) := by
  refine Pm Tryz.func195 fun hfit => ?_
  simp [Tryz.f195]
  try simp
  repeat' ((first | ((first | refine Tp ?_ | refine Tn ?_ | refine T2 ?_ ?_) <;> intro hw_ ew_ nw_) | refine Pg (nfind_ok d.l s hr hl) ?_ | rw [Ip] | rw [In] | rw [Fz] | rw [Gz] | fail) <;> first | simp [ew_, nw_] | simp | skip)
theorem zeroN_enc : NodeR.zero.enc = [I 0, I 0, I 0, S .empty, .sl false 0 []] := rfl
theorem unl_t (e : Int) : PCall Tryz.prog 194 [B true, I e] (I e) := unless_ok true e
theorem unl_f (e : Int) : PCall Tryz.prog 194 [B false, I e] (I 0) := unless_ok false e
theorem over_ok (n old : NodeR) : PCall Tryz.prog 198 [encN n, encN old] (I (overD n old)) := by
  have h4 : ∀ a b c : Int, PCall Tryz.prog 186 [enc1 I [a, b, c]] (I (firstS [a, b, c])) := fun a b c => first_ok [a, b, c] (by simp)
  have e8 : PCall Tryz.prog 186 [enc1 I [8, 0, 0]] (I 8) := h4 8 0 0
  have e8' : PCall Tryz.prog 186 [enc1 I [8, 0, 11]] (I 8) := h4 8 0 11
  have e9 : PCall Tryz.prog 186 [enc1 I [0, 9, 0]] (I 9) := h4 0 9 0
  have e9' : PCall Tryz.prog 186 [enc1 I [0, 9, 11]] (I 9) := h4 0 9 11
  have e0 : PCall Tryz.prog 186 [enc1 I [0, 0, 0]] (I 0) := h4 0 0 0
  have e0' : PCall Tryz.prog 186 [enc1 I [0, 0, 11]] (I 11) := h4 0 0 11
  by_cases q1 : n.kind = 2 <;> by_cases q2 : old.kind = 2 <;> by_cases q3 : 0 < old.l.length
  all_goals
    refine Pm Tryz.func198 fun hfit => ?_
    simp [Tryz.f198, overD, q1, q2, q3]
    have s_ := And.intro @q1 (And.intro @q2 (@q3))
    try simp [s_]
    repeat' ((first | ((first | refine Tp ?_ | refine Tn ?_ | refine T2 ?_ ?_) <;> intro hw_ ew_ nw_) | refine Pg (unl_t 8) ?_ | refine Pg (unl_f 8) ?_ | refine Pg (unl_t 9) ?_ | refine Pg (unl_f 9) ?_ | refine Pg (unl_t 11) ?_ | refine Pg (unl_f 11) ?_ | refine Lg e8 ?_ | refine Sg e8 ?_ | refine Lg e8' ?_ | refine Sg e8' ?_ | refine Lg e9 ?_ | refine Sg e9 ?_ | refine Lg e9' ?_ | refine Sg e9' ?_ | refine Lg e0 ?_ | refine Sg e0 ?_ | refine Lg e0' ?_ | refine Sg e0' ?_ | refine Dg 1 26 [] [] ?_ | rw [Ip] | rw [In] | rw [Fz] | rw [Gz] | fail) <;> first | simp [ew_, nw_, s_] | simp [s_] | skip)
theorem dir_ok (f : FSR) (d : Int) (h : f.l.length ≤ 1000000) : PCall Tryz.prog 129 [encF f, I d] (.tup [encN (dirD f d).1, I (dirD f d).2]) := by
  have h1 := find_ok f d h
  unfold dirD
  by_cases q1 : (findB f.l d).2 = false
  · rw [if_pos q1]
    refine Pm Tryz.func129 fun hfit => ?_
    simp [Tryz.f129]
    have s_ := And.intro @q1 (@zeroN_enc)
    try simp [s_]
    repeat' ((first | ((first | refine Tp ?_ | refine Tn ?_ | refine T2 ?_ ?_) <;> intro hw_ ew_ nw_) | refine Pg h1 ?_ | rw [Ip] | rw [In] | rw [Fz] | rw [Gz] | fail) <;> first | simp [ew_, nw_, s_] | simp [s_] | skip)
  by_cases q2 : (findB f.l d).1.kind ≠ 2
  · rw [if_neg q1, if_pos q2]
    refine Pm Tryz.func129 fun hfit => ?_
    simp [Tryz.f129]
    have s_ := And.intro @q1 (And.intro @q2 (@zeroN_enc))
    try simp [s_]
    repeat' ((first | ((first | refine Tp ?_ | refine Tn ?_ | refine T2 ?_ ?_) <;> intro hw_ ew_ nw_) | refine Pg h1 ?_ | rw [Ip] | rw [In] | rw [Fz] | rw [Gz] | fail) <;> first | simp [ew_, nw_, s_] | simp [s_] | skip)
  · rw [if_neg q1, if_neg q2]
    refine Pm Tryz.func129 fun hfit => ?_
    simp [Tryz.f129]
    have s_ := And.intro @q1 (@q2)
    try simp [s_]
    repeat' ((first | ((first | refine Tp ?_ | refine Tn ?_ | refine T2 ?_ ?_) <;> intro hw_ ew_ nw_) | refine Pg h1 ?_ | rw [Ip] | rw [In] | rw [Fz] | rw [Gz] | fail) <;> first | simp [ew_, nw_, s_] | simp [s_] | skip)
end Go.Proofs.YtdnfnddlciafmaaGreat
