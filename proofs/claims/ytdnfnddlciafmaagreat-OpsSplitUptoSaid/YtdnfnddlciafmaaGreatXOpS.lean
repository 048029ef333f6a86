import Derived.Test.YtdnfnddlciafmaaGreatXOpR
set_option linter.unusedVariables false
set_option linter.unusedSimpArgs false
namespace Go.Proofs.YtdnfnddlciafmaaGreat
open Go.Cx Tab
set_option maxHeartbeats 400000
set_option maxRecDepth 40000
theorem play_ok (f : FSR) (l : List CallR) (hl : l.length ≤ 100000) (h : PlayOk f l) : PCall Tryz.prog 32 [encF f, encCalls l] (.tup [encF (playS f l).1, encReplies (playS f l).2]) := by
  refine Pm Tryz.func32 fun hfit => ?_
  simp [Tryz.f32]
  refine AW.loopG (lit := fun _ => false) (fun x : Nat × FSR × List ReplyR => ⟨31, pat [(2, .ptr 0 0 0), (4, .ptr 1 0 0), (6, .own 2 x.2.2.length 0 x.2.2.length 6), (11, encCalls l), (12, I l.length), (13, I x.1)], [.cells 0 x.2.1.enc, .cells 0 [.sl true 0 [], I 0], .cells x.2.2.length (x.2.2.flatMap ReplyR.enc)]⟩) (fun x => l.length - x.1)
    (fun x => x.1 ≤ l.length ∧ x.2.2.length = x.1 ∧ PlayOk x.2.1 (l.drop x.1) ∧ (playS x.2.1 (l.drop x.1)).1 = (playS f l).1 ∧ x.2.2 ++ (playS x.2.1 (l.drop x.1)).2 = (playS f l).2) (0, f, []) ?_ ?_ ?_
  · exact Wk.trans (Wk.ownNil 6 6 (by simp)) Wa
  · exact ⟨by simp, rfl, by simpa using h, by simp, by simp⟩
  rintro ⟨i, g, acc⟩ ⟨g1, g2, g3, g4, g5⟩ A hA
  simp only at g1 g2 g3 g4 g5 hA
  by_cases hi : i < l.length
  case neg =>
    rw [List.drop_eq_nil_of_le (by omega)] at g4 g5
    simp only [playS, List.append_nil] at g4 g5
    rw [← g4, ← g5]
    have s_ := hi
    try simp [s_]
    repeat' ((first | ((first | refine Tp ?_ | refine Tn ?_ | refine T2 ?_ ?_) <;> intro hw_ ew_ nw_) | rw [Ip] | rw [In] | rw [Fz] | rw [Gz] | fail) <;> first | simp [ew_, nw_, s_] | simp [s_] | skip)
  rw [List.drop_eq_getElem_cons hi] at g3 g4 g5
  have hwi := wrap_nat hi (by simp only [maxLen]; omega)
  obtain ⟨⟨k1, k2, k3, k4⟩, k5⟩ := g3
  have h1 := do_ok g l[i] k1 k2 k4 k3
  simp only [playS] at g4 g5
  generalize doS g l[i] = X at *
  have hal : (acc ++ [X.2]).length = acc.length + 1 := by simp
  have hm : acc.length + 1 ≤ maxLen := by simp only [maxLen]; omega
  have s_ := And.intro @hi (And.intro @hwi (@setF_enc))
  try simp [s_]
  repeat' ((first | ((first | refine Tp ?_ | refine Tn ?_ | refine T2 ?_ ?_) <;> intro hw_ ew_ nw_) | (refine AW.wkZ (WkZ.freeze [4] 9 (.fp X.1.enc) (by simp)) ?_; simp; refine Dg 6 6 [0] [(0, .t)] ?_; simp) | (exact hA (i + 1, X.1, acc ++ [X.2]) _ Wc ⟨hi, by simp only [hal]; omega, k5, g4, by simpa using g5⟩ (by simp only; omega)) | refine Pg h1 ?_ | rw [Ip] | rw [In] | rw [Fz] | rw [Gz] | fail) <;> first | simp [ew_, nw_, s_] | simp [s_] | skip)
end Go.Proofs.YtdnfnddlciafmaaGreat
