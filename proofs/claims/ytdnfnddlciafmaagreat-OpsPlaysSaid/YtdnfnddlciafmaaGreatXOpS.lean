import Derived.Test.YtdnfnddlciafmaaGreatXOpR
set_option linter.unusedVariables false
set_option linter.unusedSimpArgs false
namespace Go.Proofs.YtdnfnddlciafmaaGreat
open Go.Cx Tab
set_option maxHeartbeats 400000
set_option maxRecDepth 40000
theorem apply_ok (f : FSR) (l : List ChangeR) (next : Int) (hf : f.l.length ≤ 40000) (hl : l.length ≤ 40000) (hn : ∀ c ∈ l, inI c.node.ino ∧ c.node.ino ≠ 9223372036854775807) :
    PCall Tryz.prog 39 [encF f, encL ChangeR.enc l, I next] (encF (applyS f l next)) := by
  refine Pm Tryz.func39 fun hfit => ?_
  simp [Tryz.f39]
  refine AW.loopG (lit := fun _ => false) (fun i : Nat => ⟨32, pat [(2, I next), (3, .ptr 0 0 0), (6, .ptr 1 0 0), (9, encL ChangeR.enc l), (10, I l.length), (11, I i)], [.cells 0 ((l.take i).foldl applyOne f).enc, .cells 0 [.sl true 0 [], I 0]]⟩) (fun i => l.length - i) (fun i => i ≤ l.length) 0 ?_ ?_ ?_
  · exact Wa
  · simp
  rintro i g1 A hA
  by_cases hi : i < l.length
  case neg =>
    have e : List.take i l = l := List.take_of_length_le (by omega)
    have e2 : applyS f l next = { l.foldl applyOne f with next := max (l.foldl applyOne f).next next } := rfl
    rw [e2]
    have e3 : (List.take i l).foldl applyOne f = l.foldl applyOne f := by rw [e]
    generalize l.foldl applyOne f = g at *
    have s_ := And.intro @hi (And.intro @e3 (@FSR.enc.eq_1))
    try simp [s_]
    repeat' ((first | ((first | refine Tp ?_ | refine Tn ?_ | refine T2 ?_ ?_) <;> intro hw_ ew_ nw_) | rw [Ip] | rw [In] | rw [Fz] | rw [Gz] | fail) <;> first | simp [ew_, nw_, s_] | simp [s_] | skip)
  have hwi := wrap_nat hi (by simp only [maxLen]; omega)
  have hlen := apply_len (l.take i) f
  have e1 : (l.take (i + 1)).foldl applyOne f = applyOne ((l.take i).foldl applyOne f) l[i] := by
    rw [List.take_succ_eq_append_getElem hi, List.foldl_append]; rfl
  have hc := hn l[i] (List.getElem_mem hi)
  simp only [List.length_take] at hlen
  generalize hg : (l.take i).foldl applyOne f = g at *
  have h1 := tout_ok g l[i].ino (by omega)
  have h2 := tput_ok g l[i].node (by omega) hc.1 hc.2
  cases hk : l[i].gone with
  | true =>
    have e3 : outF g l[i].ino = (l.take (i + 1)).foldl applyOne f := by rw [e1]; simp [applyOne, hk]
    rw [e3] at h1
    have s_ := And.intro @hi (And.intro @hwi (And.intro @hk (@setF_enc)))
    try simp [s_]
    repeat' ((first | ((first | refine Tp ?_ | refine Tn ?_ | refine T2 ?_ ?_) <;> intro hw_ ew_ nw_) | (exact hA (i + 1) _ Wc hi (by omega)) | refine Pg h1 ?_ | rw [Ip] | rw [In] | rw [Fz] | rw [Gz] | fail) <;> first | simp [ew_, nw_, s_] | simp [s_] | skip)
  | false =>
    have e3 : putB g l[i].node = (l.take (i + 1)).foldl applyOne f := by rw [e1]; simp [applyOne, hk]
    rw [e3] at h2
    have s_ := And.intro @hi (And.intro @hwi (And.intro @hk (@setF_enc)))
    try simp [s_]
    repeat' ((first | ((first | refine Tp ?_ | refine Tn ?_ | refine T2 ?_ ?_) <;> intro hw_ ew_ nw_) | (exact hA (i + 1) _ Wc hi (by omega)) | refine Pg h2 ?_ | rw [Ip] | rw [In] | rw [Fz] | rw [Gz] | fail) <;> first | simp [ew_, nw_, s_] | simp [s_] | skip)
theorem play_ok (f : FSR) (l : List CallR) (hl : l.length ≤ 100000) (h : PlayOk f l) : PCall Tryz.prog 32 [encF f, encCalls l] (.tup [encF (playS f l).1, encReplies (playS f l).2]) := by
  refine Pm Tryz.func32 fun hfit => ?_
  simp [Tryz.f32]
  refine AW.loopG (lit := fun _ => false) (fun x : Nat × FSR × List ReplyR => ⟨31, pat [(2, .ptr 0 0 0), (4, .ptr 1 0 0), (6, .own 2 x.2.2.length 0 x.2.2.length 6), (11, encCalls l), (12, I l.length), (13, I x.1)], [.cells 0 x.2.1.enc, .cells 0 [.sl true 0 [], I 0], .cells x.2.2.length (x.2.2.flatMap ReplyR.enc)]⟩) (fun x => l.length - x.1)
    (fun x => x.1 ≤ l.length ∧ x.2.2.length = x.1 ∧ PlayOk x.2.1 (l.drop x.1) ∧ (playS x.2.1 (l.drop x.1)).1 = (playS f l).1 ∧ x.2.2 ++ (playS x.2.1 (l.drop x.1)).2 = (playS f l).2) (0, f, []) ?_ ?_ ?_
  · exact Wk.trans (Wk.ownNil 6 6 (by simp)) Wa
  · exact ⟨by simp, rfl, by simpa using h, by simp, by simp⟩
  rintro ⟨i, g, acc⟩ ⟨g1, g2, g3, g4, g5⟩ A hA
  simp only at g1 g2 g3 g4 g5 hA
  by_cases hi : i < l.length
  case neg =>
    rw [List.drop_eq_nil_of_le (by omega)] at g4 g5
    simp only [playS, List.append_nil] at g4 g5
    rw [← g4, ← g5]
    have s_ := hi
    try simp [s_]
    repeat' ((first | ((first | refine Tp ?_ | refine Tn ?_ | refine T2 ?_ ?_) <;> intro hw_ ew_ nw_) | rw [Ip] | rw [In] | rw [Fz] | rw [Gz] | fail) <;> first | simp [ew_, nw_, s_] | simp [s_] | skip)
  rw [List.drop_eq_getElem_cons hi] at g3 g4 g5
  have hwi := wrap_nat hi (by simp only [maxLen]; omega)
  obtain ⟨⟨k1, k2, k3, k4⟩, k5⟩ := g3
  have h1 := do_ok g l[i] k1 k2 k4 k3
  simp only [playS] at g4 g5
  generalize doS g l[i] = X at *
  have hal : (acc ++ [X.2]).length = acc.length + 1 := by simp
  have hm : acc.length + 1 ≤ maxLen := by simp only [maxLen]; omega
  have s_ := And.intro @hi (And.intro @hwi (@setF_enc))
  try simp [s_]
  repeat' ((first | ((first | refine Tp ?_ | refine Tn ?_ | refine T2 ?_ ?_) <;> intro hw_ ew_ nw_) | (refine AW.wkZ (WkZ.freeze [4] 9 (.fp X.1.enc) (by simp)) ?_; simp; refine Dg 6 6 [0] [(0, .t)] ?_; simp) | (exact hA (i + 1, X.1, acc ++ [X.2]) _ Wc ⟨hi, by simp only [hal]; omega, k5, g4, by simpa using g5⟩ (by simp only; omega)) | refine Pg h1 ?_ | rw [Ip] | rw [In] | rw [Fz] | rw [Gz] | fail) <;> first | simp [ew_, nw_, s_] | simp [s_] | skip)
end Go.Proofs.YtdnfnddlciafmaaGreat
