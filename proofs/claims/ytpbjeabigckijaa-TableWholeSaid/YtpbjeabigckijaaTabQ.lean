/- Rows, taken, by the document. -/
import Derived.Test.YtpbjeabigckijaaTabP
import Derived.Test.YtpbjeabigckijaaBj
set_option linter.unusedVariables false
set_option linter.unusedSimpArgs false
namespace Go.Proofs.Ytpbjeabigckijaa
open Go.Cx Tab
set_option maxHeartbeats 400000
set_option maxRecDepth 40000

theorem rWhole14_ok (l : List UInt8) (hl : l.length ≤ 1099511627776) : PCall Try.prog 50 [S (T l)] (.tup [I (unfoldS (takeS l).1), S (T (takeS l).2.1), I (takeS l).2.2]) := by
  refine PCall.mk (fun _ => false) Try.func50 rfl rfl rfl (Ent.mk Try.func50 (by kernel_rfl) rfl) (by simp) (by simp) fun hfit => ?_
  simp [Try.f50]
  try simp
  repeat' (first
    | ((first | refine Tst.go (fun hw_ ew_ => ?_) (fun hw_ ew_ => ?_)) <;> first | (exfalso; first | omega | with_reducible exact hw_ (by assumption) | with_reducible exact absurd hw_ (by assumption)) | (have nw_ := Nw.nw hw_; simp [ew_, nw_]) | simp [ew_])
    | ((first | (refine Pc.go (rtakeNum_ok l hl) ?_ ?_; focus (first | rfl | (simp; done))) | (refine Pc.go (runfold_ok (takeS l).1 (takeS_lt l)) ?_ ?_; focus (first | rfl | (simp; done))) | rw [if_pos (by first | omega | (simp only [maxLen]; omega))] | rw [if_neg (by first | omega | (simp only [maxLen]; omega))] | rw [frzOwn_neat (by simp) (by simp <;> omega)] | rw [fzOwn_neat (by simp) (by simp <;> omega)]); try simp)
    | ((first | refine TstB.go (fun hw_ ew_ => ?_) (fun hw_ ew_ => ?_)) <;> first | (exfalso; first | omega | with_reducible exact hw_ (by assumption) | with_reducible exact absurd hw_ (by assumption)) | simp [ew_])
    | fail)
theorem numR_err {r : Rst} (h : r.2 ≠ 0) : numR r = (0, r) := by unfold numR; rw [if_neg h]
theorem numR_zero (s : List UInt8) : numR (s, 0) = takeS s := by simp [numR]
theorem step_head_bad {a : Rt} (h : a.head.2.2 ≠ 0) : a.step.r = a.head.2 := by
  simp only [Rt.step, Rt.inner]
  rw [decsT_bad (by exact h)]
theorem err_out {s : List UInt8} {a : Rt} {k : Nat} {x : Int} (h0 : a.r.2 = 0) (g : rowsT (k + 1) a = takenT s) (hx : a.step.r.2 = x) (hne : x ≠ 0) : takeT s = ([], x) := by
  rw [rowsT_succ h0, rowsT_bad (by rw [hx]; exact hne)] at g
  rw [takeT_bad g.symm (by rw [hx]; exact hne), hx]
theorem rtake14_ok (s : List UInt8) (hl : s.length ≤ 1099511627776) : PCall Try.prog 23 [S (T s)] (.tup [encL RowR.enc (takeT s).1, I (takeT s).2]) := by
  have q0 := rtakeNum_ok s hl
  have l0 := takeS_len' s
  have m0 := takeS_lt s
  have hT : takenT s = rowsT (numM 64 (s, 0)).1 ⟨[], false, (numM 64 (s, 0)).2⟩ := rfl
  have hm : numM 64 (s, 0) = ((takeS s).1, ((takeS s).2.1, if (takeS s).2.2 = 0 ∧ 64 < (takeS s).1 then 5 else (takeS s).2.2)) := by simp [numM]
  rw [hm] at hT
  rcases ht : takeS s with ⟨m, r0, e0⟩
  rw [ht] at hT q0 l0 m0
  simp only at hT q0 l0 m0
  by_cases h0 : e0 = 0
  case neg =>
    rw [if_neg (by simp [h0]), rowsT_bad (by exact h0)] at hT
    rw [takeT_bad hT (by exact h0)]
    refine PCall.mk (fun _ => false) Try.func23 rfl rfl rfl (Ent.mk Try.func23 (by kernel_rfl) rfl) (by simp) (by simp) fun hfit => ?_
    simp [Try.f23]
    try simp [h0]
    repeat' (first
      | ((first | refine Tst.go (fun hw_ ew_ => ?_) (fun hw_ ew_ => ?_)) <;> first | (exfalso; first | omega | with_reducible exact hw_ (by assumption) | with_reducible exact absurd hw_ (by assumption)) | (have nw_ := Nw.nw hw_; simp [ew_, nw_, h0]) | simp [ew_, h0])
      | ((first | (refine Pc.go (q0) ?_ ?_; focus (first | rfl | (simp [h0]; done))) | rw [if_pos (by first | omega | (simp only [maxLen]; omega))] | rw [if_neg (by first | omega | (simp only [maxLen]; omega))] | rw [frzOwn_neat (by simp) (by simp <;> omega)] | rw [fzOwn_neat (by simp) (by simp <;> omega)]); try simp [h0])
      | ((first | refine TstB.go (fun hw_ ew_ => ?_) (fun hw_ ew_ => ?_)) <;> first | (exfalso; first | omega | with_reducible exact hw_ (by assumption) | with_reducible exact absurd hw_ (by assumption)) | simp [ew_, h0])
      | fail)
  subst h0
  by_cases hbig : 64 < m
  · rw [if_pos ⟨rfl, hbig⟩, rowsT_bad (by simp)] at hT
    rw [takeT_bad hT (by simp)]
    have hbig' : (64 : Int) < m := by omega
    refine PCall.mk (fun _ => false) Try.func23 rfl rfl rfl (Ent.mk Try.func23 (by kernel_rfl) rfl) (by simp) (by simp) fun hfit => ?_
    simp [Try.f23]
    try simp [hbig, hbig']
    repeat' (first
      | ((first | refine Tst.go (fun hw_ ew_ => ?_) (fun hw_ ew_ => ?_)) <;> first | (exfalso; first | omega | with_reducible exact hw_ (by assumption) | with_reducible exact absurd hw_ (by assumption)) | (have nw_ := Nw.nw hw_; simp [ew_, nw_, hbig, hbig']) | simp [ew_, hbig, hbig'])
      | ((first | (refine Pc.go (q0) ?_ ?_; focus (first | rfl | (simp [hbig, hbig']; done))) | rw [if_pos (by first | omega | (simp only [maxLen]; omega))] | rw [if_neg (by first | omega | (simp only [maxLen]; omega))] | rw [frzOwn_neat (by simp) (by simp <;> omega)] | rw [fzOwn_neat (by simp) (by simp <;> omega)]); try simp [hbig, hbig'])
      | ((first | refine TstB.go (fun hw_ ew_ => ?_) (fun hw_ ew_ => ?_)) <;> first | (exfalso; first | omega | with_reducible exact hw_ (by assumption) | with_reducible exact absurd hw_ (by assumption)) | simp [ew_, hbig, hbig'])
      | fail)
  rw [if_neg (by simp [hbig])] at hT
  have hbig' : ¬ (64 : Int) < m := by omega
  refine PCall.mk (fun _ => false) Try.func23 rfl rfl rfl (Ent.mk Try.func23 (by kernel_rfl) rfl) (by simp) (by simp) fun hfit => ?_
  simp [Try.f23]
  try simp [hbig, hbig']
  repeat' (first
    | ((first | refine Tst.go (fun hw_ ew_ => ?_) (fun hw_ ew_ => ?_)) <;> first | (exfalso; first | omega | with_reducible exact hw_ (by assumption) | with_reducible exact absurd hw_ (by assumption)) | (have nw_ := Nw.nw hw_; simp [ew_, nw_, hbig, hbig']) | simp [ew_, hbig, hbig'])
    | ((first | (refine Pc.go (q0) ?_ ?_; focus (first | rfl | (simp [hbig, hbig']; done))) | rw [if_pos (by first | omega | (simp only [maxLen]; omega))] | rw [if_neg (by first | omega | (simp only [maxLen]; omega))] | rw [frzOwn_neat (by simp) (by simp <;> omega)] | rw [fzOwn_neat (by simp) (by simp <;> omega)]); try simp [hbig, hbig'])
    | ((first | refine TstB.go (fun hw_ ew_ => ?_) (fun hw_ ew_ => ?_)) <;> first | (exfalso; first | omega | with_reducible exact hw_ (by assumption) | with_reducible exact absurd hw_ (by assumption)) | simp [ew_, hbig, hbig'])
    | fail)
  refine AW.loopGW (fun x : Nat × Rt => ⟨143, pat [(0, S (T x.2.r.1)), (4, U m), (6, .own 0 x.2.l.length 0 x.2.l.length 4), (7, B x.2.odd), (8, U x.1)], [.cells x.2.l.length (x.2.l.flatMap RowR.enc)]⟩) (fun x => m - x.1)
    (fun x => x.1 ≤ m ∧ x.2.l.length = x.1 ∧ rowsT (m - x.1) x.2 = takenT s ∧ x.2.r.1.length ≤ s.length ∧ x.2.r.2 = 0) (0, ⟨[], false, (r0, 0)⟩) ?_ ?_ ?_
  · exact Wk.trans (Wk.ownNil 6 4 (by simp)) (Wk.at _ rfl (by simp) (by simp))
  · exact ⟨by simp, rfl, by rw [hT]; rfl, l0, rfl⟩
  rintro ⟨i, al, ao, ar, ae⟩ ⟨g1, g2, g3, g4, g5⟩ A hA
  simp only at g1 g2 g3 g4 g5 hA
  subst g5
  by_cases hi : i < m
  case neg =>
    have e1 : takenT s = ⟨al, ao, ar, 0⟩ := by rw [← g3, show m - i = 0 by omega]; rfl
    have h3 := rright14_ok al
    refine AX_ok (lit := fun _ => false) _ _ _ ?_
    cases hR : rightT al with
    | false =>
      rw [hR] at h3
      have hq : ¬ RightT al := fun R => by rw [(rightT_iff al).2 R] at hR; cases hR
      rw [takeT_odd e1 rfl (by simp [hq])]
      cases ao with
      | true =>
        try simp [hi]
        repeat' (first
          | ((first | refine Tst.go (fun hw_ ew_ => ?_) (fun hw_ ew_ => ?_)) <;> first | (exfalso; first | omega | with_reducible exact hw_ (by assumption) | with_reducible exact absurd hw_ (by assumption)) | (have nw_ := Nw.nw hw_; simp [ew_, nw_, hi]) | simp [ew_, hi])
          | ((first | (refine Lc.go (h3) rfl ?_ ?_; focus (first | (simp [hi]; done) | (simp; rw [frzOwn_neat (by simp) (by simp <;> omega)]; simp [hi]; done))) | rw [if_pos (by first | omega | (simp only [maxLen]; omega))] | rw [if_neg (by first | omega | (simp only [maxLen]; omega))] | rw [frzOwn_neat (by simp) (by simp <;> omega)] | rw [fzOwn_neat (by simp) (by simp <;> omega)]); try simp [hi])
          | ((first | refine TstB.go (fun hw_ ew_ => ?_) (fun hw_ ew_ => ?_)) <;> first | (exfalso; first | omega | with_reducible exact hw_ (by assumption) | with_reducible exact absurd hw_ (by assumption)) | simp [ew_, hi])
          | fail)
      | false =>
        by_cases hr : ar = []
        · have hre := (T_nil14 ar).2 hr
          try simp [hi, hre]
          repeat' (first
            | ((first | refine Tst.go (fun hw_ ew_ => ?_) (fun hw_ ew_ => ?_)) <;> first | (exfalso; first | omega | with_reducible exact hw_ (by assumption) | with_reducible exact absurd hw_ (by assumption)) | (have nw_ := Nw.nw hw_; simp [ew_, nw_, hi, hre]) | simp [ew_, hi, hre])
            | ((first | (refine Lc.go (h3) rfl ?_ ?_; focus (first | (simp [hi, hre]; done) | (simp; rw [frzOwn_neat (by simp) (by simp <;> omega)]; simp [hi, hre]; done))) | rw [if_pos (by first | omega | (simp only [maxLen]; omega))] | rw [if_neg (by first | omega | (simp only [maxLen]; omega))] | rw [frzOwn_neat (by simp) (by simp <;> omega)] | rw [fzOwn_neat (by simp) (by simp <;> omega)]); try simp [hi, hre])
            | ((first | refine TstB.go (fun hw_ ew_ => ?_) (fun hw_ ew_ => ?_)) <;> first | (exfalso; first | omega | with_reducible exact hw_ (by assumption) | with_reducible exact absurd hw_ (by assumption)) | simp [ew_, hi, hre])
            | fail)
        · have hre : ¬ T ar = (⟨#[]⟩ : ByteArray) := fun h => hr ((T_nil14 ar).1 h)
          try simp [hi, hre]
          repeat' (first
            | ((first | refine Tst.go (fun hw_ ew_ => ?_) (fun hw_ ew_ => ?_)) <;> first | (exfalso; first | omega | with_reducible exact hw_ (by assumption) | with_reducible exact absurd hw_ (by assumption)) | (have nw_ := Nw.nw hw_; simp [ew_, nw_, hi, hre]) | simp [ew_, hi, hre])
            | ((first | (refine Lc.go (h3) rfl ?_ ?_; focus (first | (simp [hi, hre]; done) | (simp; rw [frzOwn_neat (by simp) (by simp <;> omega)]; simp [hi, hre]; done))) | rw [if_pos (by first | omega | (simp only [maxLen]; omega))] | rw [if_neg (by first | omega | (simp only [maxLen]; omega))] | rw [frzOwn_neat (by simp) (by simp <;> omega)] | rw [fzOwn_neat (by simp) (by simp <;> omega)]); try simp [hi, hre])
            | ((first | refine TstB.go (fun hw_ ew_ => ?_) (fun hw_ ew_ => ?_)) <;> first | (exfalso; first | omega | with_reducible exact hw_ (by assumption) | with_reducible exact absurd hw_ (by assumption)) | simp [ew_, hi, hre])
            | fail)
    | true =>
      rw [hR] at h3
      cases ao with
      | true =>
        rw [takeT_odd e1 rfl (by simp)]
        try simp [hi]
        repeat' (first
          | ((first | refine Tst.go (fun hw_ ew_ => ?_) (fun hw_ ew_ => ?_)) <;> first | (exfalso; first | omega | with_reducible exact hw_ (by assumption) | with_reducible exact absurd hw_ (by assumption)) | (have nw_ := Nw.nw hw_; simp [ew_, nw_, hi]) | simp [ew_, hi])
          | ((first | (refine Lc.go (h3) rfl ?_ ?_; focus (first | (simp [hi]; done) | (simp; rw [frzOwn_neat (by simp) (by simp <;> omega)]; simp [hi]; done))) | rw [if_pos (by first | omega | (simp only [maxLen]; omega))] | rw [if_neg (by first | omega | (simp only [maxLen]; omega))] | rw [frzOwn_neat (by simp) (by simp <;> omega)] | rw [fzOwn_neat (by simp) (by simp <;> omega)]); try simp [hi])
          | ((first | refine TstB.go (fun hw_ ew_ => ?_) (fun hw_ ew_ => ?_)) <;> first | (exfalso; first | omega | with_reducible exact hw_ (by assumption) | with_reducible exact absurd hw_ (by assumption)) | simp [ew_, hi])
          | fail)
      | false =>
        by_cases hr : ar = []
        · have hre := (T_nil14 ar).2 hr
          rw [takeT_ok e1 rfl ⟨rfl, hr, (rightT_iff al).1 hR⟩]
          try simp [hi, hre]
          repeat' (first
            | ((first | refine Tst.go (fun hw_ ew_ => ?_) (fun hw_ ew_ => ?_)) <;> first | (exfalso; first | omega | with_reducible exact hw_ (by assumption) | with_reducible exact absurd hw_ (by assumption)) | (have nw_ := Nw.nw hw_; simp [ew_, nw_, hi, hre]) | simp [ew_, hi, hre])
            | ((first | (refine Lc.go (h3) rfl ?_ ?_; focus (first | (simp [hi, hre]; done) | (simp; rw [frzOwn_neat (by simp) (by simp <;> omega)]; simp [hi, hre]; done))) | rw [if_pos (by first | omega | (simp only [maxLen]; omega))] | rw [if_neg (by first | omega | (simp only [maxLen]; omega))] | rw [frzOwn_neat (by simp) (by simp <;> omega)] | rw [fzOwn_neat (by simp) (by simp <;> omega)]); try simp [hi, hre])
            | ((first | refine TstB.go (fun hw_ ew_ => ?_) (fun hw_ ew_ => ?_)) <;> first | (exfalso; first | omega | with_reducible exact hw_ (by assumption) | with_reducible exact absurd hw_ (by assumption)) | simp [ew_, hi, hre])
            | fail)
        · have hre : ¬ T ar = (⟨#[]⟩ : ByteArray) := fun h => hr ((T_nil14 ar).1 h)
          rw [takeT_odd e1 rfl (by simp [hr])]
          try simp [hi, hre]
          repeat' (first
            | ((first | refine Tst.go (fun hw_ ew_ => ?_) (fun hw_ ew_ => ?_)) <;> first | (exfalso; first | omega | with_reducible exact hw_ (by assumption) | with_reducible exact absurd hw_ (by assumption)) | (have nw_ := Nw.nw hw_; simp [ew_, nw_, hi, hre]) | simp [ew_, hi, hre])
            | ((first | (refine Lc.go (h3) rfl ?_ ?_; focus (first | (simp [hi, hre]; done) | (simp; rw [frzOwn_neat (by simp) (by simp <;> omega)]; simp [hi, hre]; done))) | rw [if_pos (by first | omega | (simp only [maxLen]; omega))] | rw [if_neg (by first | omega | (simp only [maxLen]; omega))] | rw [frzOwn_neat (by simp) (by simp <;> omega)] | rw [fzOwn_neat (by simp) (by simp <;> omega)]); try simp [hi, hre])
            | ((first | refine TstB.go (fun hw_ ew_ => ?_) (fun hw_ ew_ => ?_)) <;> first | (exfalso; first | omega | with_reducible exact hw_ (by assumption) | with_reducible exact absurd hw_ (by assumption)) | simp [ew_, hi, hre])
            | fail)
  -- ROUND
  have q1 := rWhole14_ok ar (by omega)
  have l1 := takeS_len' ar
  rcases hc : takeS ar with ⟨c, s1, e1⟩
  rw [hc] at q1 l1
  simp only at q1 l1
  by_cases z : e1 = 0
  case neg =>
    have b1 := numR_err (r := (s1, e1)) z
    have b2 := numM_bad (most := 256) (r := (s1, e1)) z
    have hh : Rt.head ⟨al, ao, (ar, 0)⟩ = (0, (s1, e1)) := by simp only [Rt.head, numR_zero, hc, b1, b2]
    rw [err_out rfl (k := m - (i + 1)) (by rw [← g3, show m - i = (m - (i + 1)) + 1 by omega]) (x := e1) (by rw [step_head_bad (by rw [hh]; exact z), hh]) z]
    refine AX_ok (lit := fun _ => false) _ _ _ ?_
    try simp [hi, z]
    repeat' (first
      | ((first | refine Tst.go (fun hw_ ew_ => ?_) (fun hw_ ew_ => ?_)) <;> first | (exfalso; first | omega | with_reducible exact hw_ (by assumption) | with_reducible exact absurd hw_ (by assumption)) | (have nw_ := Nw.nw hw_; simp [ew_, nw_, hi, z]) | simp [ew_, hi, z])
      | ((first | (refine Pc.go (q1) ?_ ?_; focus (first | rfl | (simp [hi, z]; done))) | rw [if_pos (by first | omega | (simp only [maxLen]; omega))] | rw [if_neg (by first | omega | (simp only [maxLen]; omega))] | rw [frzOwn_neat (by simp) (by simp <;> omega)] | rw [fzOwn_neat (by simp) (by simp <;> omega)]); try simp [hi, z])
      | ((first | refine TstB.go (fun hw_ ew_ => ?_) (fun hw_ ew_ => ?_)) <;> first | (exfalso; first | omega | with_reducible exact hw_ (by assumption) | with_reducible exact absurd hw_ (by assumption)) | simp [ew_, hi, z])
      | fail)
  subst z
  have q2 := rWhole14_ok s1 (by omega)
  have l2 := takeS_len' s1
  rcases he : takeS s1 with ⟨e, s2, e2⟩
  rw [he] at q2 l2
  simp only at q2 l2
  by_cases z : e2 = 0
  case neg =>
    have b1 := numR_err (r := (s2, e2)) z
    have b2 := numM_bad (most := 256) (r := (s2, e2)) z
    have hh : Rt.head ⟨al, ao, (ar, 0)⟩ = (0, (s2, e2)) := by simp only [Rt.head, numR_zero, hc, he, b1, b2]
    rw [err_out rfl (k := m - (i + 1)) (by rw [← g3, show m - i = (m - (i + 1)) + 1 by omega]) (x := e2) (by rw [step_head_bad (by rw [hh]; exact z), hh]) z]
    refine AX_ok (lit := fun _ => false) _ _ _ ?_
    try simp [hi, z]
    repeat' (first
      | ((first | refine Tst.go (fun hw_ ew_ => ?_) (fun hw_ ew_ => ?_)) <;> first | (exfalso; first | omega | with_reducible exact hw_ (by assumption) | with_reducible exact absurd hw_ (by assumption)) | (have nw_ := Nw.nw hw_; simp [ew_, nw_, hi, z]) | simp [ew_, hi, z])
      | ((first | (refine Pc.go (q1) ?_ ?_; focus (first | rfl | (simp [hi, z]; done))) | (refine Pc.go (q2) ?_ ?_; focus (first | rfl | (simp [hi, z]; done))) | rw [if_pos (by first | omega | (simp only [maxLen]; omega))] | rw [if_neg (by first | omega | (simp only [maxLen]; omega))] | rw [frzOwn_neat (by simp) (by simp <;> omega)] | rw [fzOwn_neat (by simp) (by simp <;> omega)]); try simp [hi, z])
      | ((first | refine TstB.go (fun hw_ ew_ => ?_) (fun hw_ ew_ => ?_)) <;> first | (exfalso; first | omega | with_reducible exact hw_ (by assumption) | with_reducible exact absurd hw_ (by assumption)) | simp [ew_, hi, z])
      | fail)
  subst z
  have q3 := rWhole14_ok s2 (by omega)
  have l3 := takeS_len' s2
  rcases hd : takeS s2 with ⟨d, s3, e3⟩
  rw [hd] at q3 l3
  simp only at q3 l3
  by_cases z : e3 = 0
  case neg =>
    have b2 := numM_bad (most := 256) (r := (s3, e3)) z
    have hh : Rt.head ⟨al, ao, (ar, 0)⟩ = (0, (s3, e3)) := by simp only [Rt.head, numR_zero, hc, he, hd, b2]
    rw [err_out rfl (k := m - (i + 1)) (by rw [← g3, show m - i = (m - (i + 1)) + 1 by omega]) (x := e3) (by rw [step_head_bad (by rw [hh]; exact z), hh]) z]
    refine AX_ok (lit := fun _ => false) _ _ _ ?_
    try simp [hi, z]
    repeat' (first
      | ((first | refine Tst.go (fun hw_ ew_ => ?_) (fun hw_ ew_ => ?_)) <;> first | (exfalso; first | omega | with_reducible exact hw_ (by assumption) | with_reducible exact absurd hw_ (by assumption)) | (have nw_ := Nw.nw hw_; simp [ew_, nw_, hi, z]) | simp [ew_, hi, z])
      | ((first | (refine Pc.go (q1) ?_ ?_; focus (first | rfl | (simp [hi, z]; done))) | (refine Pc.go (q2) ?_ ?_; focus (first | rfl | (simp [hi, z]; done))) | (refine Pc.go (q3) ?_ ?_; focus (first | rfl | (simp [hi, z]; done))) | rw [if_pos (by first | omega | (simp only [maxLen]; omega))] | rw [if_neg (by first | omega | (simp only [maxLen]; omega))] | rw [frzOwn_neat (by simp) (by simp <;> omega)] | rw [fzOwn_neat (by simp) (by simp <;> omega)]); try simp [hi, z])
      | ((first | refine TstB.go (fun hw_ ew_ => ?_) (fun hw_ ew_ => ?_)) <;> first | (exfalso; first | omega | with_reducible exact hw_ (by assumption) | with_reducible exact absurd hw_ (by assumption)) | simp [ew_, hi, z])
      | fail)
  subst z
  have q4 := rtakeNum_ok s3 (by omega)
  have l4 := takeS_len' s3
  have n4 := takeS_lt s3
  rcases hn : takeS s3 with ⟨n, s4, e4⟩
  rw [hn] at q4 l4 n4
  simp only at q4 l4 n4
  have hhd : Rt.head ⟨al, ao, (ar, 0)⟩ = (n, (s4, if e4 = 0 ∧ 256 < n then 5 else e4)) := by simp only [Rt.head, numR_zero, hc, he, hd, numM, hn, if_true]
  by_cases z : e4 = 0
  case neg =>
    have hh : Rt.head ⟨al, ao, (ar, 0)⟩ = (n, (s4, e4)) := by rw [hhd]; simp [z]
    rw [err_out rfl (k := m - (i + 1)) (by rw [← g3, show m - i = (m - (i + 1)) + 1 by omega]) (x := e4) (by rw [step_head_bad (by rw [hh]; exact z), hh]) z]
    refine AX_ok (lit := fun _ => false) _ _ _ ?_
    try simp [hi, z]
    repeat' (first
      | ((first | refine Tst.go (fun hw_ ew_ => ?_) (fun hw_ ew_ => ?_)) <;> first | (exfalso; first | omega | with_reducible exact hw_ (by assumption) | with_reducible exact absurd hw_ (by assumption)) | (have nw_ := Nw.nw hw_; simp [ew_, nw_, hi, z]) | simp [ew_, hi, z])
      | ((first | (refine Pc.go (q1) ?_ ?_; focus (first | rfl | (simp [hi, z]; done))) | (refine Pc.go (q2) ?_ ?_; focus (first | rfl | (simp [hi, z]; done))) | (refine Pc.go (q3) ?_ ?_; focus (first | rfl | (simp [hi, z]; done))) | (refine Pc.go (q4) ?_ ?_; focus (first | rfl | (simp [hi, z]; done))) | rw [if_pos (by first | omega | (simp only [maxLen]; omega))] | rw [if_neg (by first | omega | (simp only [maxLen]; omega))] | rw [frzOwn_neat (by simp) (by simp <;> omega)] | rw [fzOwn_neat (by simp) (by simp <;> omega)]); try simp [hi, z])
      | ((first | refine TstB.go (fun hw_ ew_ => ?_) (fun hw_ ew_ => ?_)) <;> first | (exfalso; first | omega | with_reducible exact hw_ (by assumption) | with_reducible exact absurd hw_ (by assumption)) | simp [ew_, hi, z])
      | fail)
  subst z
  by_cases hbn : 256 < n
  · have hh : Rt.head ⟨al, ao, (ar, 0)⟩ = (n, (s4, 5)) := by rw [hhd]; simp [hbn]
    rw [err_out rfl (k := m - (i + 1)) (by rw [← g3, show m - i = (m - (i + 1)) + 1 by omega]) (x := 5) (by rw [step_head_bad (by rw [hh]; simp), hh]) (by omega)]
    refine AX_ok (lit := fun _ => false) _ _ _ ?_
    have hbn' : (256 : Int) < n := by omega
    try simp [hi, hbn, hbn']
    repeat' (first
      | ((first | refine Tst.go (fun hw_ ew_ => ?_) (fun hw_ ew_ => ?_)) <;> first | (exfalso; first | omega | with_reducible exact hw_ (by assumption) | with_reducible exact absurd hw_ (by assumption)) | (have nw_ := Nw.nw hw_; simp [ew_, nw_, hi, hbn, hbn']) | simp [ew_, hi, hbn, hbn'])
      | ((first | (refine Pc.go (q1) ?_ ?_; focus (first | rfl | (simp [hi, hbn, hbn']; done))) | (refine Pc.go (q2) ?_ ?_; focus (first | rfl | (simp [hi, hbn, hbn']; done))) | (refine Pc.go (q3) ?_ ?_; focus (first | rfl | (simp [hi, hbn, hbn']; done))) | (refine Pc.go (q4) ?_ ?_; focus (first | rfl | (simp [hi, hbn, hbn']; done))) | rw [if_pos (by first | omega | (simp only [maxLen]; omega))] | rw [if_neg (by first | omega | (simp only [maxLen]; omega))] | rw [frzOwn_neat (by simp) (by simp <;> omega)] | rw [fzOwn_neat (by simp) (by simp <;> omega)]); try simp [hi, hbn, hbn'])
      | ((first | refine TstB.go (fun hw_ ew_ => ?_) (fun hw_ ew_ => ?_)) <;> first | (exfalso; first | omega | with_reducible exact hw_ (by assumption) | with_reducible exact absurd hw_ (by assumption)) | simp [ew_, hi, hbn, hbn'])
      | fail)
  have hbn' : ¬ (256 : Int) < n := by omega
  have hh : Rt.head ⟨al, ao, (ar, 0)⟩ = (n, (s4, 0)) := by rw [hhd]; simp [hbn]
  have hin : Rt.inner ⟨al, ao, (ar, 0)⟩ = decsT n ⟨[], ao, (s4, 0)⟩ := by simp only [Rt.inner, hh]
  have hst : Rt.step ⟨al, ao, (ar, 0)⟩ = ⟨al ++ [⟨unfoldS c, unfoldS e, unfoldS d, (decsT n ⟨[], ao, (s4, 0)⟩).l⟩], (decsT n ⟨[], ao, (s4, 0)⟩).odd, (decsT n ⟨[], ao, (s4, 0)⟩).r⟩ := by
    simp only [Rt.step, hin, numR_zero, hc, he, hd]
  rw [show m - i = (m - (i + 1)) + 1 by omega] at g3
  generalize hB : decsT n ⟨[], ao, (s4, 0)⟩ = D at *
  refine AW.seqA (lit := fun _ => false) ?_
  try simp [hi]
  repeat' (first
    | ((first | refine Tst.go (fun hw_ ew_ => ?_) (fun hw_ ew_ => ?_)) <;> first | (exfalso; first | omega | with_reducible exact hw_ (by assumption) | with_reducible exact absurd hw_ (by assumption)) | (have nw_ := Nw.nw hw_; simp [ew_, nw_, hi]) | simp [ew_, hi])
    | ((first | rw [if_pos (by first | omega | (simp only [maxLen]; omega))] | rw [if_neg (by first | omega | (simp only [maxLen]; omega))] | rw [frzOwn_neat (by simp) (by simp <;> omega)] | rw [fzOwn_neat (by simp) (by simp <;> omega)]); try simp [hi])
    | ((first | refine TstB.go (fun hw_ ew_ => ?_) (fun hw_ ew_ => ?_)) <;> first | (exfalso; first | omega | with_reducible exact hw_ (by assumption) | with_reducible exact absurd hw_ (by assumption)) | simp [ew_, hi])
    | fail)
  refine AW.seqW ?_
  refine AW.blockW ?_
  refine AW.splitA' (lit := fun _ => false) 99 _ ?_
  simp only [splitN]
  try simp [hbn, hbn']
  repeat' (first
    | ((first | refine Tst.go (fun hw_ ew_ => ?_) (fun hw_ ew_ => ?_)) <;> first | (exfalso; first | omega | with_reducible exact hw_ (by assumption) | with_reducible exact absurd hw_ (by assumption)) | (have nw_ := Nw.nw hw_; simp [ew_, nw_, hbn, hbn']) | simp [ew_, hbn, hbn'])
    | ((first | (refine Pc.go (q1) ?_ ?_; focus (first | rfl | (simp [hbn, hbn']; done))) | (refine Pc.go (q2) ?_ ?_; focus (first | rfl | (simp [hbn, hbn']; done))) | (refine Pc.go (q3) ?_ ?_; focus (first | rfl | (simp [hbn, hbn']; done))) | (refine Pc.go (q4) ?_ ?_; focus (first | rfl | (simp [hbn, hbn']; done))) | rw [if_pos (by first | omega | (simp only [maxLen]; omega))] | rw [if_neg (by first | omega | (simp only [maxLen]; omega))] | rw [frzOwn_neat (by simp) (by simp <;> omega)] | rw [fzOwn_neat (by simp) (by simp <;> omega)]); try simp [hbn, hbn'])
    | ((first | refine TstB.go (fun hw_ ew_ => ?_) (fun hw_ ew_ => ?_)) <;> first | (exfalso; first | omega | with_reducible exact hw_ (by assumption) | with_reducible exact absurd hw_ (by assumption)) | simp [ew_, hbn, hbn'])
    | fail)
  have hwi : IntKind.u64.wrap ((i : Int) + 1) = ((i + 1 : Nat) : Int) := by rw [IntKind.wrap_u64]; omega
  refine AW.loopG (lit := fun _ => false) (fun y : Nat × Dt => ⟨143, pat [(0, S (T y.2.r.1)), (4, U m), (6, .own 0 al.length 0 al.length 4), (7, B y.2.odd), (8, U i), (18, U n), (21, .ptr 1 0 0), (22, U y.1)], [.cells al.length (al.flatMap RowR.enc), .cells 0 [I (unfoldS c), I (unfoldS e), I (unfoldS d), .own 2 y.2.l.length 0 y.2.l.length 2], .cells y.2.l.length (y.2.l.flatMap DecisionR.enc)]⟩) (fun y => n - y.1)
    (fun y => y.1 ≤ n ∧ y.2.l.length = y.1 ∧ decsT (n - y.1) y.2 = D ∧ y.2.r.1.length ≤ s.length ∧ y.2.r.2 = 0) (0, ⟨[], ao, (s4, 0)⟩) ?_ ?_ ?_
  · exact Wk.trans (Wk.ownNilCell 1 0 3 2 rfl rfl) (Wk.at _ rfl (by simp) (by simp))
  · exact ⟨by simp, rfl, hB, by simp only; omega, rfl⟩
  rintro ⟨k, dl, od, dr, de⟩ ⟨k1, k2, k3, k4, k5⟩ A2 hA2
  simp only at k1 k2 k3 k4 k5 hA2
  subst k5
  by_cases hk : k < n
  case neg =>
    have hD : D = ⟨dl, od, dr, 0⟩ := by rw [← k3, show n - k = 0 by omega]; rfl
    rw [rowsT_succ rfl, hst, hD] at g3
    simp only at g3
    try simp [hk]
    repeat' (first
      | ((first | refine Tst.go (fun hw_ ew_ => ?_) (fun hw_ ew_ => ?_)) <;> first | (exfalso; first | omega | with_reducible exact hw_ (by assumption) | with_reducible exact absurd hw_ (by assumption)) | (have nw_ := Nw.nw hw_; simp [ew_, nw_, hk]) | simp [ew_, hk])
      | ((first | rw [if_pos (by first | omega | (simp only [maxLen]; omega))] | rw [if_neg (by first | omega | (simp only [maxLen]; omega))] | rw [frzOwn_neat (by simp) (by simp <;> omega)] | rw [fzOwn_neat (by simp) (by simp <;> omega)]); try simp [hk])
      | ((first | refine TstB.go (fun hw_ ew_ => ?_) (fun hw_ ew_ => ?_)) <;> first | (exfalso; first | omega | with_reducible exact hw_ (by assumption) | with_reducible exact absurd hw_ (by assumption)) | simp [ew_, hk])
      | fail)
    refine AW.wkZ (WkZ.freeze [1, 2] 21 (.fp [I (unfoldS c), I (unfoldS e), I (unfoldS d), encL DecisionR.enc dl]) (by simp; rw [fzOwn_neat (by simp) (by simp)]; simp)) ?_
    refine AX_ok (lit := fun _ => false) _ _ _ ?_
    simp
    try simp
    repeat' (first
      | ((first | refine Tst.go (fun hw_ ew_ => ?_) (fun hw_ ew_ => ?_)) <;> first | (exfalso; first | omega | with_reducible exact hw_ (by assumption) | with_reducible exact absurd hw_ (by assumption)) | (have nw_ := Nw.nw hw_; simp [ew_, nw_]) | simp [ew_])
      | (refine AX_ok (lit := fun _ => false) (.region _ _ false) _ _ ?_; simp [hwi])
      | ((first | rw [if_pos (by first | omega | (simp only [maxLen]; omega))] | rw [if_neg (by first | omega | (simp only [maxLen]; omega))] | rw [frzOwn_neat (by simp) (by simp <;> omega)] | rw [fzOwn_neat (by simp) (by simp <;> omega)]); try simp)
      | ((first | refine TstB.go (fun hw_ ew_ => ?_) (fun hw_ ew_ => ?_)) <;> first | (exfalso; first | omega | with_reducible exact hw_ (by assumption) | with_reducible exact absurd hw_ (by assumption)) | simp [ew_])
      | fail)
    exact hA (i + 1, ⟨al ++ [⟨unfoldS c, unfoldS e, unfoldS d, dl⟩], od, (dr, 0)⟩) _ (Wk.cutAt _ rfl (by simp [RowR.enc]) (by simp [RowR.enc]) (by simp) (by simp)) ⟨hi, by simp [g2], g3, by simp only; omega, rfl⟩ (by simp only; omega)
  have r1 := rWhole14_ok dr (by omega)
  have l6 := takeS_len' dr
  rcases hx : takeS dr with ⟨x, s6, e6⟩
  rw [hx] at r1 l6
  simp only at r1 l6
  rw [show n - k = (n - (k + 1)) + 1 by omega, decsT_succ rfl] at k3
  by_cases z : e6 = 0
  case neg =>
    have b1 := numR_err (r := (s6, e6)) z
    have hD : D.r.2 = e6 := by rw [← k3, decsT_bad (by simp only [Dt.step, numR_zero, hx, b1]; exact z)]; simp only [Dt.step, numR_zero, hx, b1]
    rw [err_out rfl g3 (by rw [hst]; exact hD) z]
    try simp [hk, z]
    repeat' (first
      | ((first | refine Tst.go (fun hw_ ew_ => ?_) (fun hw_ ew_ => ?_)) <;> first | (exfalso; first | omega | with_reducible exact hw_ (by assumption) | with_reducible exact absurd hw_ (by assumption)) | (have nw_ := Nw.nw hw_; simp [ew_, nw_, hk, z]) | simp [ew_, hk, z])
      | ((first | (refine Pc.go (r1) ?_ ?_; focus (first | rfl | (simp [hk, z]; done))) | rw [if_pos (by first | omega | (simp only [maxLen]; omega))] | rw [if_neg (by first | omega | (simp only [maxLen]; omega))] | rw [frzOwn_neat (by simp) (by simp <;> omega)] | rw [fzOwn_neat (by simp) (by simp <;> omega)]); try simp [hk, z])
      | ((first | refine TstB.go (fun hw_ ew_ => ?_) (fun hw_ ew_ => ?_)) <;> first | (exfalso; first | omega | with_reducible exact hw_ (by assumption) | with_reducible exact absurd hw_ (by assumption)) | simp [ew_, hk, z])
      | fail)
  subst z
  have r2 := rtakeNum_ok s6 (by omega)
  have l7 := takeS_len' s6
  rcases hy : takeS s6 with ⟨y, s7, e7⟩
  rw [hy] at r2 l7
  simp only at r2 l7
  by_cases z : e7 = 0
  case neg =>
    have hD : D.r.2 = e7 := by rw [← k3, decsT_bad (by simp only [Dt.step, numR_zero, hx, hy]; exact z)]; simp only [Dt.step, numR_zero, hx, hy]
    rw [err_out rfl g3 (by rw [hst]; exact hD) z]
    try simp [hk, z]
    repeat' (first
      | ((first | refine Tst.go (fun hw_ ew_ => ?_) (fun hw_ ew_ => ?_)) <;> first | (exfalso; first | omega | with_reducible exact hw_ (by assumption) | with_reducible exact absurd hw_ (by assumption)) | (have nw_ := Nw.nw hw_; simp [ew_, nw_, hk, z]) | simp [ew_, hk, z])
      | ((first | (refine Pc.go (r1) ?_ ?_; focus (first | rfl | (simp [hk, z]; done))) | (refine Pc.go (r2) ?_ ?_; focus (first | rfl | (simp [hk, z]; done))) | rw [if_pos (by first | omega | (simp only [maxLen]; omega))] | rw [if_neg (by first | omega | (simp only [maxLen]; omega))] | rw [frzOwn_neat (by simp) (by simp <;> omega)] | rw [fzOwn_neat (by simp) (by simp <;> omega)]); try simp [hk, z])
      | ((first | refine TstB.go (fun hw_ ew_ => ?_) (fun hw_ ew_ => ?_)) <;> first | (exfalso; first | omega | with_reducible exact hw_ (by assumption) | with_reducible exact absurd hw_ (by assumption)) | simp [ew_, hk, z])
      | fail)
  subst z
  have hds : Dt.step ⟨dl, od, (dr, 0)⟩ = ⟨dl ++ [⟨unfoldS x, decide (y = 1)⟩], od || decide (1 < y), (s7, 0)⟩ := by simp only [Dt.step, numR_zero, hx, hy]
  rw [hds] at k3
  have hwk : IntKind.u64.wrap ((k : Int) + 1) = ((k + 1 : Nat) : Int) := by rw [IntKind.wrap_u64]; omega
  have g7 : ∀ d : DecisionR, (dl ++ [d]).length = k + 1 := fun d => by simp [k2]
  have hyy : y = 0 ∨ y = 1 ∨ 1 < y := by omega
  rcases hyy with rfl | rfl | hy1
  · cases od
    · simp at k3
      try simp [hk, hwk, DecisionR.enc]
      repeat' (first
        | ((first | refine Tst.go (fun hw_ ew_ => ?_) (fun hw_ ew_ => ?_)) <;> first | (exfalso; first | omega | with_reducible exact hw_ (by assumption) | with_reducible exact absurd hw_ (by assumption)) | (have nw_ := Nw.nw hw_; simp [ew_, nw_, hk, hwk, DecisionR.enc]) | simp [ew_, hk, hwk, DecisionR.enc])
        | (exact hA2 (k + 1, ⟨dl ++ [⟨unfoldS x, false⟩], false, (s7, 0)⟩) _ (Wk.cutAt _ rfl (by simp [k2, DecisionR.enc]) (by simp [k2, DecisionR.enc]) (by simp) (by simp)) ⟨hk, g7 _, k3, by simp only; omega, rfl⟩ (by simp only; omega))
        | ((first | (refine Pc.go (r1) ?_ ?_; focus (first | rfl | (simp [hk, hwk, DecisionR.enc]; done))) | (refine Pc.go (r2) ?_ ?_; focus (first | rfl | (simp [hk, hwk, DecisionR.enc]; done))) | rw [if_pos (by first | omega | (simp only [maxLen]; omega))] | rw [if_neg (by first | omega | (simp only [maxLen]; omega))] | rw [frzOwn_neat (by simp) (by simp <;> omega)] | rw [fzOwn_neat (by simp) (by simp <;> omega)]); try simp [hk, hwk, DecisionR.enc])
        | ((first | refine TstB.go (fun hw_ ew_ => ?_) (fun hw_ ew_ => ?_)) <;> first | (exfalso; first | omega | with_reducible exact hw_ (by assumption) | with_reducible exact absurd hw_ (by assumption)) | simp [ew_, hk, hwk, DecisionR.enc])
        | fail)
    · simp at k3
      try simp [hk, hwk, DecisionR.enc]
      repeat' (first
        | ((first | refine Tst.go (fun hw_ ew_ => ?_) (fun hw_ ew_ => ?_)) <;> first | (exfalso; first | omega | with_reducible exact hw_ (by assumption) | with_reducible exact absurd hw_ (by assumption)) | (have nw_ := Nw.nw hw_; simp [ew_, nw_, hk, hwk, DecisionR.enc]) | simp [ew_, hk, hwk, DecisionR.enc])
        | (exact hA2 (k + 1, ⟨dl ++ [⟨unfoldS x, false⟩], true, (s7, 0)⟩) _ (Wk.cutAt _ rfl (by simp [k2, DecisionR.enc]) (by simp [k2, DecisionR.enc]) (by simp) (by simp)) ⟨hk, g7 _, k3, by simp only; omega, rfl⟩ (by simp only; omega))
        | ((first | (refine Pc.go (r1) ?_ ?_; focus (first | rfl | (simp [hk, hwk, DecisionR.enc]; done))) | (refine Pc.go (r2) ?_ ?_; focus (first | rfl | (simp [hk, hwk, DecisionR.enc]; done))) | rw [if_pos (by first | omega | (simp only [maxLen]; omega))] | rw [if_neg (by first | omega | (simp only [maxLen]; omega))] | rw [frzOwn_neat (by simp) (by simp <;> omega)] | rw [fzOwn_neat (by simp) (by simp <;> omega)]); try simp [hk, hwk, DecisionR.enc])
        | ((first | refine TstB.go (fun hw_ ew_ => ?_) (fun hw_ ew_ => ?_)) <;> first | (exfalso; first | omega | with_reducible exact hw_ (by assumption) | with_reducible exact absurd hw_ (by assumption)) | simp [ew_, hk, hwk, DecisionR.enc])
        | fail)
  · cases od
    · simp at k3
      try simp [hk, hwk, DecisionR.enc]
      repeat' (first
        | ((first | refine Tst.go (fun hw_ ew_ => ?_) (fun hw_ ew_ => ?_)) <;> first | (exfalso; first | omega | with_reducible exact hw_ (by assumption) | with_reducible exact absurd hw_ (by assumption)) | (have nw_ := Nw.nw hw_; simp [ew_, nw_, hk, hwk, DecisionR.enc]) | simp [ew_, hk, hwk, DecisionR.enc])
        | (exact hA2 (k + 1, ⟨dl ++ [⟨unfoldS x, true⟩], false, (s7, 0)⟩) _ (Wk.cutAt _ rfl (by simp [k2, DecisionR.enc]) (by simp [k2, DecisionR.enc]) (by simp) (by simp)) ⟨hk, g7 _, k3, by simp only; omega, rfl⟩ (by simp only; omega))
        | ((first | (refine Pc.go (r1) ?_ ?_; focus (first | rfl | (simp [hk, hwk, DecisionR.enc]; done))) | (refine Pc.go (r2) ?_ ?_; focus (first | rfl | (simp [hk, hwk, DecisionR.enc]; done))) | rw [if_pos (by first | omega | (simp only [maxLen]; omega))] | rw [if_neg (by first | omega | (simp only [maxLen]; omega))] | rw [frzOwn_neat (by simp) (by simp <;> omega)] | rw [fzOwn_neat (by simp) (by simp <;> omega)]); try simp [hk, hwk, DecisionR.enc])
        | ((first | refine TstB.go (fun hw_ ew_ => ?_) (fun hw_ ew_ => ?_)) <;> first | (exfalso; first | omega | with_reducible exact hw_ (by assumption) | with_reducible exact absurd hw_ (by assumption)) | simp [ew_, hk, hwk, DecisionR.enc])
        | fail)
    · simp at k3
      try simp [hk, hwk, DecisionR.enc]
      repeat' (first
        | ((first | refine Tst.go (fun hw_ ew_ => ?_) (fun hw_ ew_ => ?_)) <;> first | (exfalso; first | omega | with_reducible exact hw_ (by assumption) | with_reducible exact absurd hw_ (by assumption)) | (have nw_ := Nw.nw hw_; simp [ew_, nw_, hk, hwk, DecisionR.enc]) | simp [ew_, hk, hwk, DecisionR.enc])
        | (exact hA2 (k + 1, ⟨dl ++ [⟨unfoldS x, true⟩], true, (s7, 0)⟩) _ (Wk.cutAt _ rfl (by simp [k2, DecisionR.enc]) (by simp [k2, DecisionR.enc]) (by simp) (by simp)) ⟨hk, g7 _, k3, by simp only; omega, rfl⟩ (by simp only; omega))
        | ((first | (refine Pc.go (r1) ?_ ?_; focus (first | rfl | (simp [hk, hwk, DecisionR.enc]; done))) | (refine Pc.go (r2) ?_ ?_; focus (first | rfl | (simp [hk, hwk, DecisionR.enc]; done))) | rw [if_pos (by first | omega | (simp only [maxLen]; omega))] | rw [if_neg (by first | omega | (simp only [maxLen]; omega))] | rw [frzOwn_neat (by simp) (by simp <;> omega)] | rw [fzOwn_neat (by simp) (by simp <;> omega)]); try simp [hk, hwk, DecisionR.enc])
        | ((first | refine TstB.go (fun hw_ ew_ => ?_) (fun hw_ ew_ => ?_)) <;> first | (exfalso; first | omega | with_reducible exact hw_ (by assumption) | with_reducible exact absurd hw_ (by assumption)) | simp [ew_, hk, hwk, DecisionR.enc])
        | fail)
  · have hy2 : ¬ (y : Int) = 1 := by omega
    have hy3 : (1 : Int) < y := by omega
    have hy4 : ¬ y = 1 := by omega
    cases od
    · simp [hy1, hy4] at k3
      try simp [hk, hy1, hy2, hy3, hy4, hwk, DecisionR.enc]
      repeat' (first
        | ((first | refine Tst.go (fun hw_ ew_ => ?_) (fun hw_ ew_ => ?_)) <;> first | (exfalso; first | omega | with_reducible exact hw_ (by assumption) | with_reducible exact absurd hw_ (by assumption)) | (have nw_ := Nw.nw hw_; simp [ew_, nw_, hk, hy1, hy2, hy3, hy4, hwk, DecisionR.enc]) | simp [ew_, hk, hy1, hy2, hy3, hy4, hwk, DecisionR.enc])
        | (exact hA2 (k + 1, ⟨dl ++ [⟨unfoldS x, false⟩], true, (s7, 0)⟩) _ (Wk.cutAt _ rfl (by simp [k2, DecisionR.enc, hy4]) (by simp [k2, DecisionR.enc, hy4]) (by simp) (by simp)) ⟨hk, g7 _, k3, by simp only; omega, rfl⟩ (by simp only; omega))
        | ((first | (refine Pc.go (r1) ?_ ?_; focus (first | rfl | (simp [hk, hy1, hy2, hy3, hy4, hwk, DecisionR.enc]; done))) | (refine Pc.go (r2) ?_ ?_; focus (first | rfl | (simp [hk, hy1, hy2, hy3, hy4, hwk, DecisionR.enc]; done))) | rw [if_pos (by first | omega | (simp only [maxLen]; omega))] | rw [if_neg (by first | omega | (simp only [maxLen]; omega))] | rw [frzOwn_neat (by simp) (by simp <;> omega)] | rw [fzOwn_neat (by simp) (by simp <;> omega)]); try simp [hk, hy1, hy2, hy3, hy4, hwk, DecisionR.enc])
        | ((first | refine TstB.go (fun hw_ ew_ => ?_) (fun hw_ ew_ => ?_)) <;> first | (exfalso; first | omega | with_reducible exact hw_ (by assumption) | with_reducible exact absurd hw_ (by assumption)) | simp [ew_, hk, hy1, hy2, hy3, hy4, hwk, DecisionR.enc])
        | fail)
    · simp [hy1, hy4] at k3
      try simp [hk, hy1, hy2, hy3, hy4, hwk, DecisionR.enc]
      repeat' (first
        | ((first | refine Tst.go (fun hw_ ew_ => ?_) (fun hw_ ew_ => ?_)) <;> first | (exfalso; first | omega | with_reducible exact hw_ (by assumption) | with_reducible exact absurd hw_ (by assumption)) | (have nw_ := Nw.nw hw_; simp [ew_, nw_, hk, hy1, hy2, hy3, hy4, hwk, DecisionR.enc]) | simp [ew_, hk, hy1, hy2, hy3, hy4, hwk, DecisionR.enc])
        | (exact hA2 (k + 1, ⟨dl ++ [⟨unfoldS x, false⟩], true, (s7, 0)⟩) _ (Wk.cutAt _ rfl (by simp [k2, DecisionR.enc, hy4]) (by simp [k2, DecisionR.enc, hy4]) (by simp) (by simp)) ⟨hk, g7 _, k3, by simp only; omega, rfl⟩ (by simp only; omega))
        | ((first | (refine Pc.go (r1) ?_ ?_; focus (first | rfl | (simp [hk, hy1, hy2, hy3, hy4, hwk, DecisionR.enc]; done))) | (refine Pc.go (r2) ?_ ?_; focus (first | rfl | (simp [hk, hy1, hy2, hy3, hy4, hwk, DecisionR.enc]; done))) | rw [if_pos (by first | omega | (simp only [maxLen]; omega))] | rw [if_neg (by first | omega | (simp only [maxLen]; omega))] | rw [frzOwn_neat (by simp) (by simp <;> omega)] | rw [fzOwn_neat (by simp) (by simp <;> omega)]); try simp [hk, hy1, hy2, hy3, hy4, hwk, DecisionR.enc])
        | ((first | refine TstB.go (fun hw_ ew_ => ?_) (fun hw_ ew_ => ?_)) <;> first | (exfalso; first | omega | with_reducible exact hw_ (by assumption) | with_reducible exact absurd hw_ (by assumption)) | simp [ew_, hk, hy1, hy2, hy3, hy4, hwk, DecisionR.enc])
        | fail)
end Go.Proofs.Ytpbjeabigckijaa
