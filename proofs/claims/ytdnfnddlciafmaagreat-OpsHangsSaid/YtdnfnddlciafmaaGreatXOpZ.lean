import Derived.Test.YtdnfnddlciafmaaGreatXOpY
import Derived.Test.YtdnfnddlciafmaaGreatXBp
set_option linter.unusedVariables false
set_option linter.unusedSimpArgs false
namespace Go.Proofs.YtdnfnddlciafmaaGreat
open Go.Cx Tab
set_option maxHeartbeats 400000
set_option maxRecDepth 40000
theorem rwith_ok (l : List Int) (n : Int) (hr : risesI l = true) (hl : l.length ≤ 1000000) : PCall Tryz.prog 81 [enc1 I l, I n] (enc1 I (withI l n)) := by
  rw [← withR_eq hr n]
  obtain ⟨F, hF⟩ : ∃ F, F = withR l n := ⟨_, rfl⟩
  rw [← hF]
  refine Pm Tryz.func81 fun hfit => ?_
  simp [Tryz.f81]
  refine AW.loopG (lit := fun _ => false) (fun x : Nat × List Int => ⟨52, pat [(0, enc1 I l), (1, I n), (5, .own 0 x.2.length 0 x.2.length 1), (6, I x.1)], [.cells x.2.length (x.2.map I)]⟩) (fun x => l.length - x.1) (fun x => x.1 ≤ l.length ∧ x.2.length = x.1 ∧ x.2 ++ withR (l.drop x.1) n = F) (0, []) ?_ ?_ ?_
  · exact Wk.trans (Wk.ownNil 5 1 (by simp)) Wa
  · exact ⟨by simp, rfl, by simpa using hF.symm⟩
  rintro ⟨i, acc⟩ ⟨g1, g2, g3⟩ A hA
  simp only at g1 g2 g3 hA
  have key : ¬ (∃ h : i < l.length, l[i] < n) → withR (l.drop i) n = n :: (l.drop i).filter fun x => !decide (x = n) := fun g => by
    by_cases hi : i < l.length
    · rw [List.drop_eq_getElem_cons hi, withR, if_neg (fun q => g ⟨hi, q⟩)]
    · rw [List.drop_eq_nil_of_le (by omega)]; rfl
  have hm : acc.length + 1 ≤ maxLen := by simp only [maxLen]; omega
  have hm' : acc.length + 1 ≤ 17592186044416 := by omega
  by_cases hc : ∃ h : i < l.length, l[i] < n
  · obtain ⟨hi, q⟩ := hc
    have hwi := wrap_nat hi (by simp only [maxLen]; omega)
    have hal : (acc ++ [l[i]]).length = acc.length + 1 := by simp
    rw [List.drop_eq_getElem_cons hi, withR, if_pos q] at g3
    have s_ := And.intro @hi (And.intro @q (And.intro @hwi (And.intro @hm (@hm'))))
    try simp [s_]
    repeat' ((first | ((first | refine Tp ?_ | refine Tn ?_ | refine T2 ?_ ?_) <;> intro hw_ ew_ nw_) | (exact hA (i + 1, acc ++ [l[i]]) _ Wc ⟨hi, by simp only [hal]; omega, by simpa using g3⟩ (by simp only; omega)) | rw [Ip] | rw [In] | rw [Fz] | rw [Gz] | fail) <;> first | simp [ew_, nw_, s_] | simp [s_] | skip)
  have g4 := key hc
  rw [g4] at g3
  have hq : ∀ h : i < l.length, ¬ l[i] < n := fun h q => hc ⟨h, q⟩
  by_cases hi : i < l.length
  case' pos => have q := hq hi
  case' neg => have q := hi
  all_goals
    have s_ := And.intro @hi (And.intro @q (And.intro @hm (@hm')))
    try simp [s_]
    repeat' ((first | ((first | refine Tp ?_ | refine Tn ?_ | refine T2 ?_ ?_) <;> intro hw_ ew_ nw_) | rw [Ip] | rw [In] | rw [Fz] | rw [Gz] | fail) <;> first | simp [ew_, nw_, s_] | simp [s_] | skip)
    refine AW.loopG (lit := fun _ => false) (fun x : Nat × List Int => ⟨52, pat [(0, enc1 I l), (1, I n), (5, .own 0 x.2.length 0 x.2.length 1), (6, I x.1)], [.cells x.2.length (x.2.map I)]⟩) (fun x => l.length - x.1) (fun x => x.1 ≤ l.length ∧ x.2.length ≤ x.1 + 1 ∧ x.2 ++ ((l.drop x.1).filter fun x => !decide (x = n)) = F) (i, acc ++ [n]) ?_ ?_ ?_
    · exact Wc
    · exact ⟨g1, by simp [g2], by simpa using g3⟩
    rintro ⟨j, out⟩ ⟨k1, k2, k3⟩ B hB
    simp only at k1 k2 k3 hB
    by_cases hj : j < l.length
    case neg =>
      rw [List.drop_eq_nil_of_le (by omega), List.filter_nil, List.append_nil] at k3
      rw [← k3]
      have s_ := hj
      try simp [s_]
      repeat' ((first | ((first | refine Tp ?_ | refine Tn ?_ | refine T2 ?_ ?_) <;> intro hw_ ew_ nw_) | rw [Ip] | rw [In] | rw [Fz] | rw [Gz] | fail) <;> first | simp [ew_, nw_, s_] | simp [s_] | skip)
    have hwj := wrap_nat hj (by simp only [maxLen]; omega)
    have hm2 : out.length + 1 ≤ maxLen := by simp only [maxLen]; omega
    have hm3 : out.length + 1 ≤ 17592186044416 := by omega
    have hal : (out ++ [l[j]]).length = out.length + 1 := by simp
    rw [List.drop_eq_getElem_cons hj] at k3
    by_cases q2 : l[j] = n
    · rw [List.filter_cons_of_neg (by simpa using q2)] at k3
      have s_ := And.intro @hj (And.intro @q2 (@hwj))
      try simp [s_]
      repeat' ((first | ((first | refine Tp ?_ | refine Tn ?_ | refine T2 ?_ ?_) <;> intro hw_ ew_ nw_) | (exact hB (j + 1, out) _ Wc ⟨hj, by simp only; omega, k3⟩ (by simp only; omega)) | rw [Ip] | rw [In] | rw [Fz] | rw [Gz] | fail) <;> first | simp [ew_, nw_, s_] | simp [s_] | skip)
    · rw [List.filter_cons_of_pos (by simpa using q2)] at k3
      have s_ := And.intro @hj (And.intro @q2 (And.intro @hwj (And.intro @hm2 (@hm3))))
      try simp [s_]
      repeat' ((first | ((first | refine Tp ?_ | refine Tn ?_ | refine T2 ?_ ?_) <;> intro hw_ ew_ nw_) | (exact hB (j + 1, out ++ [l[j]]) _ Wc ⟨hj, by simp only [hal]; omega, by simpa using k3⟩ (by simp only; omega)) | rw [Ip] | rw [In] | rw [Fz] | rw [Gz] | fail) <;> first | simp [ew_, nw_, s_] | simp [s_] | skip)
theorem rnamed_ok (l : List Int) (f : FSR) (d : Int) (s : ByteArray) (h : RowsF f) (hr : risesI l = true) (hl : l.length ≤ 1000000) : PCall Tryz.prog 82 [enc1 I l, encF f, I d, S s] (enc1 I (namedD l f d s)) := by
  have h1 := rfindR f d h
  have h2 := rfind06_ok (findB f.l d).1.l s
  have h3 := rwith_ok l (findE (findB f.l d).1.l s).1 hr hl
  unfold namedD
  generalize findB f.l d = N at *
  generalize findE N.1.l s = E at *
  cases q : E.2 with
  | true =>
    rw [if_pos rfl]
    refine Pm Tryz.func82 fun hfit => ?_
    simp [Tryz.f82]
    have s_ := q
    try simp [s_]
    repeat' ((first | ((first | refine Tp ?_ | refine Tn ?_ | refine T2 ?_ ?_) <;> intro hw_ ew_ nw_) | refine Pg h1 ?_ | refine Pg h2 ?_ | refine Pg h3 ?_ | rw [Ip] | rw [In] | rw [Fz] | rw [Gz] | fail) <;> first | simp [ew_, nw_, s_] | simp [s_] | skip)
  | false =>
    rw [if_neg (by simp)]
    refine Pm Tryz.func82 fun hfit => ?_
    simp [Tryz.f82]
    have s_ := q
    try simp [s_]
    repeat' ((first | ((first | refine Tp ?_ | refine Tn ?_ | refine T2 ?_ ?_) <;> intro hw_ ew_ nw_) | refine Pg h1 ?_ | refine Pg h2 ?_ | refine Pg h3 ?_ | rw [Ip] | rw [In] | rw [Fz] | rw [Gz] | fail) <;> first | simp [ew_, nw_, s_] | simp [s_] | skip)
theorem rlooks_ok (f : FSR) (c : CallR) (h : RowsF f) : PCall Tryz.prog 28 [encF f, encC c] (enc1 I (looksS f c)) := by
  unfold looksS
  by_cases q : c.kind = 15
  · rw [if_pos q]
    refine Pm Tryz.func28 fun hfit => ?_
    simp [Tryz.f28]
    have s_ := And.intro @q (@CallR.enc.eq_1)
    try simp [s_]
    repeat' ((first | ((first | refine Tp ?_ | refine Tn ?_ | refine T2 ?_ ?_) <;> intro hw_ ew_ nw_) | refine Dg 3 7 [] [] ?_ | refine Dg 4 26 [] [] ?_ | rw [Ip] | rw [In] | rw [Fz] | rw [Gz] | fail) <;> first | simp [ew_, nw_, s_] | simp [s_] | skip)
  rw [if_neg q]
  have w1 := rwith_ok [] c.ino rfl (by simp)
  obtain ⟨a1, _⟩ := withI_spec (l := []) rfl c.ino
  have l1 := withI_len [] c.ino
  have w2 := rwith_ok (withI [] c.ino) c.to_ a1 (by simp at l1; omega)
  obtain ⟨a2, _⟩ := withI_spec a1 c.to_
  have l2 := withI_len (withI [] c.ino) c.to_
  generalize withI [] c.ino = L1 at *
  generalize withI L1 c.to_ = L2 at *
  simp only [List.length_nil] at l1
  have w3 := rnamed_ok L2 f c.ino c.name h a2 (by omega)
  obtain ⟨a3, _⟩ := named_spec a2 f c.ino c.name
  have l3 := named_len L2 f c.ino c.name
  generalize namedD L2 f c.ino c.name = L3 at *
  have w4 := rnamed_ok L3 f c.ino c.name2 h a3 (by omega)
  obtain ⟨a4, _⟩ := named_spec a3 f c.ino c.name2
  have l4 := named_len L3 f c.ino c.name2
  generalize namedD L3 f c.ino c.name2 = L4 at *
  have w5 := rnamed_ok L4 f c.to_ c.name h a4 (by omega)
  obtain ⟨a5, _⟩ := named_spec a4 f c.to_ c.name
  have l5 := named_len L4 f c.to_ c.name
  generalize namedD L4 f c.to_ c.name = L5 at *
  have w6 := rnamed_ok L5 f c.to_ c.name2 h a5 (by omega)
  generalize namedD L5 f c.to_ c.name2 = L6 at *
  refine Pm Tryz.func28 fun hfit => ?_
  simp [Tryz.f28]
  have s_ := And.intro @q (@CallR.enc.eq_1)
  try simp [s_]
  repeat' ((first | ((first | refine Tp ?_ | refine Tn ?_ | refine T2 ?_ ?_) <;> intro hw_ ew_ nw_) | refine Sg w1 ?_ | refine Pg w2 ?_ | refine Pg w3 ?_ | refine Pg w4 ?_ | refine Pg w5 ?_ | refine Pg w6 ?_ | refine Dg 3 7 [] [] ?_ | refine Dg 4 26 [] [] ?_ | rw [Ip] | rw [In] | rw [Fz] | rw [Gz] | fail) <;> first | simp [ew_, nw_, s_] | simp [s_] | skip)
end Go.Proofs.YtdnfnddlciafmaaGreat
