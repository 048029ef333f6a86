import Derived.Test.YtdnfnddlciafmaaGreatXOpY
import Derived.Test.YtdnfnddlciafmaaGreatXBp
set_option linter.unusedVariables false
set_option linter.unusedSimpArgs false
namespace Go.Proofs.YtdnfnddlciafmaaGreat
open Go.Cx Tab
set_option maxHeartbeats 400000
set_option maxRecDepth 40000
theorem refused_ok (e : Int) : PCall Tryz.prog 88 [I e] (encR (errR e)) := by
  refine Pm Tryz.func88 fun hfit => ?_
  simp [Tryz.f88]
  have s_ := And.intro @errR.eq_1 (@ReplyR.enc.eq_1)
  try simp [s_]
  repeat' ((first | ((first | refine Tp ?_ | refine Tn ?_ | refine T2 ?_ ?_) <;> intro hw_ ew_ nw_) | rw [Ip] | rw [In] | rw [Fz] | rw [Gz] | fail) <;> first | simp [ew_, nw_, s_] | simp [s_] | skip)
theorem rwith_ok (l : List Int) (n : Int) (hr : risesI l = true) (hl : l.length ≤ 1000000) : PCall Tryz.prog 81 [enc1 I l, I n] (enc1 I (withI l n)) := by
  rw [← withR_eq hr n]
  obtain ⟨F, hF⟩ : ∃ F, F = withR l n := ⟨_, rfl⟩
  rw [← hF]
  refine Pm Tryz.func81 fun hfit => ?_
  simp [Tryz.f81]
  refine AW.loopG (lit := fun _ => false) (fun x : Nat × List Int => ⟨52, pat [(0, enc1 I l), (1, I n), (5, .own 0 x.2.length 0 x.2.length 1), (6, I x.1)], [.cells x.2.length (x.2.map I)]⟩) (fun x => l.length - x.1) (fun x => x.1 ≤ l.length ∧ x.2.length = x.1 ∧ x.2 ++ withR (l.drop x.1) n = F) (0, []) ?_ ?_ ?_
  · exact Wk.trans (Wk.ownNil 5 1 (by simp)) Wa
  · exact ⟨by simp, rfl, by simpa using hF.symm⟩
  rintro ⟨i, acc⟩ ⟨g1, g2, g3⟩ A hA
  simp only at g1 g2 g3 hA
  have key : ¬ (∃ h : i < l.length, l[i] < n) → withR (l.drop i) n = n :: (l.drop i).filter fun x => !decide (x = n) := fun g => by
    by_cases hi : i < l.length
    · rw [List.drop_eq_getElem_cons hi, withR, if_neg (fun q => g ⟨hi, q⟩)]
    · rw [List.drop_eq_nil_of_le (by omega)]; rfl
  have hm : acc.length + 1 ≤ maxLen := by simp only [maxLen]; omega
  have hm' : acc.length + 1 ≤ 17592186044416 := by omega
  by_cases hc : ∃ h : i < l.length, l[i] < n
  · obtain ⟨hi, q⟩ := hc
    have hwi := wrap_nat hi (by simp only [maxLen]; omega)
    have hal : (acc ++ [l[i]]).length = acc.length + 1 := by simp
    rw [List.drop_eq_getElem_cons hi, withR, if_pos q] at g3
    have s_ := And.intro @hi (And.intro @q (And.intro @hwi (And.intro @hm (@hm'))))
    try simp [s_]
    repeat' ((first | ((first | refine Tp ?_ | refine Tn ?_ | refine T2 ?_ ?_) <;> intro hw_ ew_ nw_) | (exact hA (i + 1, acc ++ [l[i]]) _ Wc ⟨hi, by simp only [hal]; omega, by simpa using g3⟩ (by simp only; omega)) | rw [Ip] | rw [In] | rw [Fz] | rw [Gz] | fail) <;> first | simp [ew_, nw_, s_] | simp [s_] | skip)
  have g4 := key hc
  rw [g4] at g3
  have hq : ∀ h : i < l.length, ¬ l[i] < n := fun h q => hc ⟨h, q⟩
  by_cases hi : i < l.length
  case' pos => have q := hq hi
  case' neg => have q := hi
  all_goals
    have s_ := And.intro @hi (And.intro @q (And.intro @hm (@hm')))
    try simp [s_]
    repeat' ((first | ((first | refine Tp ?_ | refine Tn ?_ | refine T2 ?_ ?_) <;> intro hw_ ew_ nw_) | rw [Ip] | rw [In] | rw [Fz] | rw [Gz] | fail) <;> first | simp [ew_, nw_, s_] | simp [s_] | skip)
    refine AW.loopG (lit := fun _ => false) (fun x : Nat × List Int => ⟨52, pat [(0, enc1 I l), (1, I n), (5, .own 0 x.2.length 0 x.2.length 1), (6, I x.1)], [.cells x.2.length (x.2.map I)]⟩) (fun x => l.length - x.1) (fun x => x.1 ≤ l.length ∧ x.2.length ≤ x.1 + 1 ∧ x.2 ++ ((l.drop x.1).filter fun x => !decide (x = n)) = F) (i, acc ++ [n]) ?_ ?_ ?_
    · exact Wc
    · exact ⟨g1, by simp [g2], by simpa using g3⟩
    rintro ⟨j, out⟩ ⟨k1, k2, k3⟩ B hB
    simp only at k1 k2 k3 hB
    by_cases hj : j < l.length
    case neg =>
      rw [List.drop_eq_nil_of_le (by omega), List.filter_nil, List.append_nil] at k3
      rw [← k3]
      have s_ := hj
      try simp [s_]
      repeat' ((first | ((first | refine Tp ?_ | refine Tn ?_ | refine T2 ?_ ?_) <;> intro hw_ ew_ nw_) | rw [Ip] | rw [In] | rw [Fz] | rw [Gz] | fail) <;> first | simp [ew_, nw_, s_] | simp [s_] | skip)
    have hwj := wrap_nat hj (by simp only [maxLen]; omega)
    have hm2 : out.length + 1 ≤ maxLen := by simp only [maxLen]; omega
    have hm3 : out.length + 1 ≤ 17592186044416 := by omega
    have hal : (out ++ [l[j]]).length = out.length + 1 := by simp
    rw [List.drop_eq_getElem_cons hj] at k3
    by_cases q2 : l[j] = n
    · rw [List.filter_cons_of_neg (by simpa using q2)] at k3
      have s_ := And.intro @hj (And.intro @q2 (@hwj))
      try simp [s_]
      repeat' ((first | ((first | refine Tp ?_ | refine Tn ?_ | refine T2 ?_ ?_) <;> intro hw_ ew_ nw_) | (exact hB (j + 1, out) _ Wc ⟨hj, by simp only; omega, k3⟩ (by simp only; omega)) | rw [Ip] | rw [In] | rw [Fz] | rw [Gz] | fail) <;> first | simp [ew_, nw_, s_] | simp [s_] | skip)
    · rw [List.filter_cons_of_pos (by simpa using q2)] at k3
      have s_ := And.intro @hj (And.intro @q2 (And.intro @hwj (And.intro @hm2 (@hm3))))
      try simp [s_]
      repeat' ((first | ((first | refine Tp ?_ | refine Tn ?_ | refine T2 ?_ ?_) <;> intro hw_ ew_ nw_) | (exact hB (j + 1, out ++ [l[j]]) _ Wc ⟨hj, by simp only [hal]; omega, by simpa using k3⟩ (by simp only; omega)) | rw [Ip] | rw [In] | rw [Fz] | rw [Gz] | fail) <;> first | simp [ew_, nw_, s_] | simp [s_] | skip)
theorem rmade_ok (f : FSR) (c : CallR) (h : RowsF f) (hb : f.next < 4611686018427387904) (hk : c.kind = 6 ∨ c.kind = 7 ∨ c.kind = 8) : PCall Tryz.prog 91 [encF f, encC c] (rTup (doS f c)) := by
  have e5 := refused_ok 5
  have hA := fun n => radd_ok f c.ino c.name n h hb
  have hE := refused_ok
  rcases hk with k | k | k
  · rw [doS_6 k]
    have h1 := hA ⟨0, 1, 0, .empty, []⟩
    unfold addO
    rw [if_neg (by decide)]
    have h2 := hE (addD f c.ino c.name ⟨0, 1, 0, .empty, []⟩).2
    generalize addD f c.ino c.name ⟨0, 1, 0, .empty, []⟩ = A at *
    by_cases q : A.2 = 0
    · rw [if_neg (by simpa using q)]
      refine Pm Tryz.func91 fun hfit => ?_
      simp [Tryz.f91]
      have s_ := And.intro @k (And.intro @q (And.intro @CallR.enc.eq_1 (And.intro @NodeR.enc.eq_1 (And.intro @FSR.enc.eq_1 (@ReplyR.enc.eq_1)))))
      try simp [s_]
      repeat' ((first | ((first | refine Tp ?_ | refine Tn ?_ | refine T2 ?_ ?_) <;> intro hw_ ew_ nw_) | refine Sg h1 ?_ | refine Dg 12 5 [2] [] ?_ | refine Dg 8 2 [] [] ?_ | refine Dg 11 3 [] [] ?_ | rw [Ip] | rw [In] | rw [Fz] | rw [Gz] | fail) <;> first | simp [ew_, nw_, s_] | simp [s_] | skip)
    · rw [if_pos q]
      refine Pm Tryz.func91 fun hfit => ?_
      simp [Tryz.f91]
      have s_ := And.intro @k (And.intro @q (And.intro @CallR.enc.eq_1 (And.intro @NodeR.enc.eq_1 (@FSR.enc.eq_1))))
      try simp [s_]
      repeat' ((first | ((first | refine Tp ?_ | refine Tn ?_ | refine T2 ?_ ?_) <;> intro hw_ ew_ nw_) | refine Sg h1 ?_ | refine Pg h2 ?_ | refine Dg 8 2 [] [] ?_ | refine Dg 11 3 [] [] ?_ | refine Dg 12 6 [] [] ?_ | rw [Ip] | rw [In] | rw [Fz] | rw [Gz] | fail) <;> first | simp [ew_, nw_, s_] | simp [s_] | skip)
  · rw [doS_7 k]
    have h1 := hA ⟨0, 2, 0, .empty, []⟩
    unfold addO
    rw [if_neg (by decide)]
    have h2 := hE (addD f c.ino c.name ⟨0, 2, 0, .empty, []⟩).2
    generalize addD f c.ino c.name ⟨0, 2, 0, .empty, []⟩ = A at *
    by_cases q : A.2 = 0
    · rw [if_neg (by simpa using q)]
      refine Pm Tryz.func91 fun hfit => ?_
      simp [Tryz.f91]
      have s_ := And.intro @k (And.intro @q (And.intro @CallR.enc.eq_1 (And.intro @NodeR.enc.eq_1 (And.intro @FSR.enc.eq_1 (@ReplyR.enc.eq_1)))))
      try simp [s_]
      repeat' ((first | ((first | refine Tp ?_ | refine Tn ?_ | refine T2 ?_ ?_) <;> intro hw_ ew_ nw_) | refine Sg h1 ?_ | refine Dg 12 5 [2] [] ?_ | refine Dg 8 2 [] [] ?_ | refine Dg 11 3 [] [] ?_ | rw [Ip] | rw [In] | rw [Fz] | rw [Gz] | fail) <;> first | simp [ew_, nw_, s_] | simp [s_] | skip)
    · rw [if_pos q]
      refine Pm Tryz.func91 fun hfit => ?_
      simp [Tryz.f91]
      have s_ := And.intro @k (And.intro @q (And.intro @CallR.enc.eq_1 (And.intro @NodeR.enc.eq_1 (@FSR.enc.eq_1))))
      try simp [s_]
      repeat' ((first | ((first | refine Tp ?_ | refine Tn ?_ | refine T2 ?_ ?_) <;> intro hw_ ew_ nw_) | refine Sg h1 ?_ | refine Pg h2 ?_ | refine Dg 8 2 [] [] ?_ | refine Dg 11 3 [] [] ?_ | refine Dg 12 6 [] [] ?_ | rw [Ip] | rw [In] | rw [Fz] | rw [Gz] | fail) <;> first | simp [ew_, nw_, s_] | simp [s_] | skip)
  · rw [doS_8 k]
    have h1 := hA ⟨0, 3, 0, c.text, []⟩
    unfold addO
    by_cases q0 : 4096 < c.text.size
    · rw [if_pos q0]
      refine Pm Tryz.func91 fun hfit => ?_
      simp [Tryz.f91]
      have s_ := And.intro @k (And.intro @q0 (And.intro @CallR.enc.eq_1 (And.intro @NodeR.enc.eq_1 (@FSR.enc.eq_1))))
      try simp [s_]
      repeat' ((first | ((first | refine Tp ?_ | refine Tn ?_ | refine T2 ?_ ?_) <;> intro hw_ ew_ nw_) | refine Pg e5 ?_ | refine Dg 8 2 [] [] ?_ | refine Dg 11 3 [] [] ?_ | refine Dg 12 6 [] [] ?_ | rw [Ip] | rw [In] | rw [Fz] | rw [Gz] | fail) <;> first | simp [ew_, nw_, s_] | simp [s_] | skip)
    rw [if_neg q0]
    have h2 := hE (addD f c.ino c.name ⟨0, 3, 0, c.text, []⟩).2
    generalize addD f c.ino c.name ⟨0, 3, 0, c.text, []⟩ = A at *
    by_cases q : A.2 = 0
    · rw [if_neg (by simpa using q)]
      refine Pm Tryz.func91 fun hfit => ?_
      simp [Tryz.f91]
      have s_ := And.intro @k (And.intro @q0 (And.intro @q (And.intro @CallR.enc.eq_1 (And.intro @NodeR.enc.eq_1 (And.intro @FSR.enc.eq_1 (@ReplyR.enc.eq_1))))))
      try simp [s_]
      repeat' ((first | ((first | refine Tp ?_ | refine Tn ?_ | refine T2 ?_ ?_) <;> intro hw_ ew_ nw_) | refine Sg h1 ?_ | refine Dg 12 5 [2] [] ?_ | refine Dg 8 2 [] [] ?_ | refine Dg 11 3 [] [] ?_ | rw [Ip] | rw [In] | rw [Fz] | rw [Gz] | fail) <;> first | simp [ew_, nw_, s_] | simp [s_] | skip)
    · rw [if_pos q]
      refine Pm Tryz.func91 fun hfit => ?_
      simp [Tryz.f91]
      have s_ := And.intro @k (And.intro @q0 (And.intro @q (And.intro @CallR.enc.eq_1 (And.intro @NodeR.enc.eq_1 (@FSR.enc.eq_1)))))
      try simp [s_]
      repeat' ((first | ((first | refine Tp ?_ | refine Tn ?_ | refine T2 ?_ ?_) <;> intro hw_ ew_ nw_) | refine Sg h1 ?_ | refine Pg h2 ?_ | refine Dg 8 2 [] [] ?_ | refine Dg 11 3 [] [] ?_ | refine Dg 12 6 [] [] ?_ | rw [Ip] | rw [In] | rw [Fz] | rw [Gz] | fail) <;> first | simp [ew_, nw_, s_] | simp [s_] | skip)
theorem rtaken_ok (f : FSR) (c : CallR) (h : RowsF f) (hb : f.next < 4611686018427387904) (hk : c.kind = 9 ∨ c.kind = 10) : PCall Tryz.prog 92 [encF f, encC c] (rTup (doS f c)) := by
  have h1 := rlook_ok f c.ino c.name h
  have h2 := rtake_ok f c.ino c.name h (by omega)
  have e8 := refused_ok 8
  have e9 := refused_ok 9
  have h3 := refused_ok (lookD f c.ino c.name).2
  have h4 := refused_ok (takeD f c.ino c.name).2
  have e : doS f c = removeO f c (decide (c.kind = 10)) := by
    rcases hk with k | k
    · rw [doS_9 k, k]; rfl
    · rw [doS_10 k, k]; rfl
  rw [e]
  unfold removeO
  generalize lookD f c.ino c.name = L at *
  generalize takeD f c.ino c.name = A at *
  by_cases q1 : L.2 = 0
  case neg =>
    rw [if_pos q1]
    refine Pm Tryz.func92 fun hfit => ?_
    simp [Tryz.f92]
    have s_ := And.intro @q1 (@CallR.enc.eq_1)
    try simp [s_]
    repeat' ((first | ((first | refine Tp ?_ | refine Tn ?_ | refine T2 ?_ ?_) <;> intro hw_ ew_ nw_) | refine Pg h1 ?_ | refine Pg h3 ?_ | refine Dg 3 3 [] [] ?_ | refine Dg 5 2 [] [] ?_ | refine Dg 7 2 [] [] ?_ | refine Dg 9 3 [] [] ?_ | rw [Ip] | rw [In] | rw [Fz] | rw [Gz] | fail) <;> first | simp [ew_, nw_, s_] | simp [s_] | skip)
  rw [if_neg (by simpa using q1)]
  rcases hk with k | k <;> by_cases q2 : L.1.kind = 2
  all_goals
    simp only [k, q2]
    simp
    refine Pm Tryz.func92 fun hfit => ?_
    simp [Tryz.f92]
    have s_ := And.intro @q1 (And.intro @q2 (And.intro @k (@CallR.enc.eq_1)))
    try simp [s_]
    repeat' ((first | ((first | refine Tp ?_ | refine Tn ?_ | refine T2 ?_ ?_) <;> intro hw_ ew_ nw_) | refine Pg h1 ?_ | refine Pg h2 ?_ | refine Pg e8 ?_ | refine Pg e9 ?_ | refine Pg h4 ?_ | refine Dg 3 3 [] [] ?_ | refine Dg 5 2 [] [] ?_ | refine Dg 7 2 [] [] ?_ | refine Dg 9 3 [] [] ?_ | rw [Ip] | rw [In] | rw [Fz] | rw [Gz] | fail) <;> first | simp [ew_, nw_, s_] | simp [s_] | skip)
end Go.Proofs.YtdnfnddlciafmaaGreat
