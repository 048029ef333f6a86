import Derived.Test.YtdnfnddlciafmaaGreatXOpZ
set_option linter.unusedVariables false
set_option linter.unusedSimpArgs false
namespace Go.Proofs.YtdnfnddlciafmaaGreat
open Go.Cx Tab
set_option maxHeartbeats 400000
set_option maxRecDepth 40000
theorem ofD_none {f : FSR} {ino : Int} (h : (findB f.l ino).2 = false) (k : Int) : ofD f ino k = ((findB f.l ino).1, 6) := by unfold ofD; rw [if_pos h]
theorem ofD_kind {f : FSR} {ino k : Int} (h : (findB f.l ino).2 = true) (hk : k ≠ 0 ∧ (findB f.l ino).1.kind ≠ k) : ofD f ino k = ((findB f.l ino).1, 14) := by
  unfold ofD; rw [if_neg (by rw [h]; simp), if_pos hk]
theorem ofD_ok {f : FSR} {ino k : Int} (h : (findB f.l ino).2 = true) (hk : k = 0 ∨ (findB f.l ino).1.kind = k) : ofD f ino k = ((findB f.l ino).1, 0) := by
  unfold ofD; rw [if_neg (by rw [h]; simp), if_neg (fun g => hk.elim g.1 g.2)]
theorem rtexts_ok (f : FSR) (c : CallR) (h : RowsF f) (hb : f.next < 4611686018427387904) (hc : c.wf) (hk : c.kind = 3 ∨ c.kind = 4 ∨ c.kind = 5 ∨ c.kind = 13) : PCall Tryz.prog 90 [encF f, encC c] (rTup (doS f c)) := by
  have h1 := rfindR f c.ino h
  have e6 := refused_ok 6
  have e14 := refused_ok 14
  cases q1 : (findB f.l c.ino).2 with
  | false =>
    have e : doS f c = (f, errR 6) := by
      have e3 := ofD_none q1
      rcases hk with k | k | k | k
      · rw [doS_3 k, e3]; rfl
      · rw [doS_4 k]; unfold textD; rw [e3]; rfl
      · rw [doS_5 k]; unfold textD; rw [e3]; rfl
      · rw [doS_13 k, e3]; rfl
    rw [e]
    generalize findB f.l c.ino = N at *
    refine Pm Tryz.func90 fun hfit => ?_
    simp [Tryz.f90]
    have s_ := And.intro @q1 (@CallR.enc.eq_1)
    try simp [s_]
    repeat' ((first | ((first | refine Tp ?_ | refine Tn ?_ | refine T2 ?_ ?_) <;> intro hw_ ew_ nw_) | refine Pg h1 ?_ | refine Pg e6 ?_ | refine Dg 3 2 [] [] ?_ | refine Dg 6 2 [] [] ?_ | refine Dg 7 6 [] [] ?_ | refine Dg 9 2 [] [] ?_ | refine Dg 19 3 [] [] ?_ | refine Dg 21 6 [] [] ?_ | rw [Ip] | rw [In] | rw [Fz] | rw [Gz] | fail) <;> first | simp [ew_, nw_, s_] | simp [s_] | skip)
  | true =>
  by_cases k13 : c.kind = 13
  · rw [doS_13 k13]
    by_cases q2 : (findB f.l c.ino).1.kind = 3
    · rw [ofD_ok q1 (.inr q2)]
      have e : toldR ⟨0, 0, 0, 0, (findB f.l c.ino).1.text, []⟩ 0 = ⟨0, 0, 0, 0, (findB f.l c.ino).1.text, []⟩ := rfl
      simp only [e]
      generalize findB f.l c.ino = N at *
      refine Pm Tryz.func90 fun hfit => ?_
      simp [Tryz.f90]
      have s_ := And.intro @q1 (And.intro @k13 (And.intro @q2 (And.intro @CallR.enc.eq_1 (@ReplyR.enc.eq_1))))
      try simp [s_]
      repeat' ((first | ((first | refine Tp ?_ | refine Tn ?_ | refine T2 ?_ ?_) <;> intro hw_ ew_ nw_) | refine Pg h1 ?_ | refine Pg e14 ?_ | refine Dg 7 5 [2] [] ?_ | refine Dg 3 2 [] [] ?_ | refine Dg 6 2 [] [] ?_ | refine Dg 9 2 [] [] ?_ | refine Dg 19 3 [] [] ?_ | refine Dg 21 6 [] [] ?_ | rw [Ip] | rw [In] | rw [Fz] | rw [Gz] | fail) <;> first | simp [ew_, nw_, s_] | simp [s_] | skip)
    · rw [ofD_kind q1 ⟨by decide, q2⟩]
      have e : toldR ⟨0, 0, 0, 0, (findB f.l c.ino).1.text, []⟩ 14 = errR 14 := rfl
      simp only [e]
      generalize findB f.l c.ino = N at *
      refine Pm Tryz.func90 fun hfit => ?_
      simp [Tryz.f90]
      have s_ := And.intro @q1 (And.intro @k13 (And.intro @q2 (@CallR.enc.eq_1)))
      try simp [s_]
      repeat' ((first | ((first | refine Tp ?_ | refine Tn ?_ | refine T2 ?_ ?_) <;> intro hw_ ew_ nw_) | refine Pg h1 ?_ | refine Pg e14 ?_ | refine Dg 3 2 [] [] ?_ | refine Dg 6 2 [] [] ?_ | refine Dg 7 6 [] [] ?_ | refine Dg 9 2 [] [] ?_ | refine Dg 19 3 [] [] ?_ | refine Dg 21 6 [] [] ?_ | rw [Ip] | rw [In] | rw [Fz] | rw [Gz] | fail) <;> first | simp [ew_, nw_, s_] | simp [s_] | skip)
  have hk' : c.kind = 3 ∨ c.kind = 4 ∨ c.kind = 5 := by omega
  by_cases q2 : (findB f.l c.ino).1.kind = 1
  case neg =>
    have e : doS f c = (f, errR 14) := by
      have e3 := ofD_kind (k := 1) q1 ⟨by decide, q2⟩
      rcases hk' with k | k | k
      · rw [doS_3 k, e3]; rfl
      · rw [doS_4 k]; unfold textD; rw [e3]; rfl
      · rw [doS_5 k]; unfold textD; rw [e3]; rfl
    rw [e]
    generalize findB f.l c.ino = N at *
    refine Pm Tryz.func90 fun hfit => ?_
    simp [Tryz.f90]
    have s_ := And.intro @q1 (And.intro @q2 (And.intro @k13 (@CallR.enc.eq_1)))
    try simp [s_]
    repeat' ((first | ((first | refine Tp ?_ | refine Tn ?_ | refine T2 ?_ ?_) <;> intro hw_ ew_ nw_) | refine Pg h1 ?_ | refine Pg e14 ?_ | refine Dg 3 2 [] [] ?_ | refine Dg 6 2 [] [] ?_ | refine Dg 7 6 [] [] ?_ | refine Dg 9 2 [] [] ?_ | refine Dg 19 3 [] [] ?_ | refine Dg 21 6 [] [] ?_ | rw [Ip] | rw [In] | rw [Fz] | rw [Gz] | fail) <;> first | simp [ew_, nw_, s_] | simp [s_] | skip)
  have e3 := ofD_ok q1 (.inr q2)
  have htx := h.text c.ino
  have hnn := h.num c.ino
  have hP := fun t : List UInt8 => rputR f { (findB f.l c.ino).1 with text := T t } h ⟨by simp only; omega, by simp only; omega⟩ (by simp only; omega)
  have hcu := rcut_ok (bs (findB f.l c.ino).1.text) c.many hc.2.2.2.2.1 (by rw [bs_len]; omega)
  rw [T_bs] at hcu
  rcases hk' with k | k | k
  · rw [doS_3 k, e3]
    have h2 := rread_ok (bs (findB f.l c.ino).1.text) c.at_ c.many hc.2.2.2.1 hc.2.2.2.2.1 (by rw [bs_len]; omega)
    rw [T_bs] at h2
    rw [if_neg (by simp), told_read]
    clear hP hcu
    generalize findB f.l c.ino = N at *
    generalize readT (bs N.1.text) c.at_ c.many = Q at *
    refine Pm Tryz.func90 fun hfit => ?_
    simp [Tryz.f90]
    have s_ := And.intro @q1 (And.intro @q2 (And.intro @k (And.intro @CallR.enc.eq_1 (@ReplyR.enc.eq_1))))
    try simp [s_]
    repeat' ((first | ((first | refine Tp ?_ | refine Tn ?_ | refine T2 ?_ ?_) <;> intro hw_ ew_ nw_) | refine Pg h1 ?_ | refine Pg h2 ?_ | refine Dg 3 2 [] [] ?_ | refine Dg 6 2 [] [] ?_ | refine Dg 7 6 [] [] ?_ | refine Dg 9 2 [] [] ?_ | refine Dg 19 3 [] [] ?_ | refine Dg 21 6 [] [] ?_ | rw [Ip] | rw [In] | rw [Fz] | rw [Gz] | fail) <;> first | simp [ew_, nw_, s_] | simp [s_] | skip)
  · have h2 := rwrite_ok (bs (findB f.l c.ino).1.text) c.at_ (bs c.text) hc.2.2.2.1 (by rw [bs_len]; omega) (by have := hc.2.2.2.2.2.2.2; simp only [maxLen] at this; rw [bs_len]; omega)
    rw [T_bs, T_bs] at h2
    have h3 := hP (writeT (bs (findB f.l c.ino).1.text) c.at_ (bs c.text)).1
    rw [doS_4 k]
    unfold textD
    rw [e3]
    simp only
    clear hP e3
    generalize findB f.l c.ino = N at *
    generalize writeT (bs N.1.text) c.at_ (bs c.text) = Q at *
    generalize cutT (bs N.1.text) c.many = Cu at *
    generalize putB f { N.1 with text := T Q.1 } = K at *
    have h4 := refused_ok Q.2
    by_cases q3 : Q.2 = 0
    · simp [q3, toldR]
      refine Pm Tryz.func90 fun hfit => ?_
      simp [Tryz.f90]
      have s_ := And.intro @q1 (And.intro @q2 (And.intro @k (And.intro @q3 (And.intro @CallR.enc.eq_1 (@ReplyR.enc.eq_1)))))
      try simp [s_]
      repeat' ((first | ((first | refine Tp ?_ | refine Tn ?_ | refine T2 ?_ ?_) <;> intro hw_ ew_ nw_) | refine Pg h1 ?_ | refine Pg h2 ?_ | refine Pg h3 ?_ | refine Pg hcu ?_ | refine Dg 21 5 [2] [] ?_ | refine Dg 3 2 [] [] ?_ | refine Dg 6 2 [] [] ?_ | refine Dg 7 6 [] [] ?_ | refine Dg 9 2 [] [] ?_ | refine Dg 19 3 [] [] ?_ | rw [Ip] | rw [In] | rw [Fz] | rw [Gz] | fail) <;> first | simp [ew_, nw_, s_] | simp [s_] | skip)
    · simp [q3, toldR]
      refine Pm Tryz.func90 fun hfit => ?_
      simp [Tryz.f90]
      have s_ := And.intro @q1 (And.intro @q2 (And.intro @k (And.intro @q3 (And.intro @CallR.enc.eq_1 (@ReplyR.enc.eq_1)))))
      try simp [s_]
      repeat' ((first | ((first | refine Tp ?_ | refine Tn ?_ | refine T2 ?_ ?_) <;> intro hw_ ew_ nw_) | refine Pg h1 ?_ | refine Pg h2 ?_ | refine Pg h4 ?_ | refine Pg hcu ?_ | refine Dg 3 2 [] [] ?_ | refine Dg 6 2 [] [] ?_ | refine Dg 7 6 [] [] ?_ | refine Dg 9 2 [] [] ?_ | refine Dg 19 3 [] [] ?_ | refine Dg 21 6 [] [] ?_ | rw [Ip] | rw [In] | rw [Fz] | rw [Gz] | fail) <;> first | simp [ew_, nw_, s_] | simp [s_] | skip)
  · have h3 := hP (cutT (bs (findB f.l c.ino).1.text) c.many).1
    rw [doS_5 k]
    unfold textD
    rw [e3]
    simp only
    clear hP e3
    generalize findB f.l c.ino = N at *
    generalize cutT (bs N.1.text) c.many = Q at *
    generalize putB f { N.1 with text := T Q.1 } = K at *
    have h4 := refused_ok Q.2
    by_cases q3 : Q.2 = 0
    · simp [q3, errR]
      refine Pm Tryz.func90 fun hfit => ?_
      simp [Tryz.f90]
      have s_ := And.intro @q1 (And.intro @q2 (And.intro @k (And.intro @q3 (And.intro @CallR.enc.eq_1 (@ReplyR.enc.eq_1)))))
      try simp [s_]
      repeat' ((first | ((first | refine Tp ?_ | refine Tn ?_ | refine T2 ?_ ?_) <;> intro hw_ ew_ nw_) | refine Pg h1 ?_ | refine Pg h3 ?_ | refine Pg hcu ?_ | refine Dg 21 5 [2] [] ?_ | refine Dg 3 2 [] [] ?_ | refine Dg 6 2 [] [] ?_ | refine Dg 7 6 [] [] ?_ | refine Dg 9 2 [] [] ?_ | refine Dg 19 3 [] [] ?_ | rw [Ip] | rw [In] | rw [Fz] | rw [Gz] | fail) <;> first | simp [ew_, nw_, s_] | simp [s_] | skip)
    · simp [q3]
      refine Pm Tryz.func90 fun hfit => ?_
      simp [Tryz.f90]
      have s_ := And.intro @q1 (And.intro @q2 (And.intro @k (And.intro @q3 (And.intro @CallR.enc.eq_1 (@ReplyR.enc.eq_1)))))
      try simp [s_]
      repeat' ((first | ((first | refine Tp ?_ | refine Tn ?_ | refine T2 ?_ ?_) <;> intro hw_ ew_ nw_) | refine Pg h1 ?_ | refine Pg h4 ?_ | refine Pg hcu ?_ | refine Dg 3 2 [] [] ?_ | refine Dg 6 2 [] [] ?_ | refine Dg 7 6 [] [] ?_ | refine Dg 9 2 [] [] ?_ | refine Dg 19 3 [] [] ?_ | refine Dg 21 6 [] [] ?_ | rw [Ip] | rw [In] | rw [Fz] | rw [Gz] | fail) <;> first | simp [ew_, nw_, s_] | simp [s_] | skip)
theorem rdo_ok (f : FSR) (c : CallR) (h : RowsF f) (T : TreeP f) (hb : f.next < 4611686018427387904) (hc : c.wf) : PCall Tryz.prog 34 [encF f, encC c] (rTup (doS f c)) := by
  rcases kind_cases c.kind with k | k | k | k | k | k | k | k | k | k | k | k | k | k | k | k
  · have k1 : ¬ c.kind = 1 := by omega
    have k2 : ¬ c.kind = 2 := by omega
    have k3 : ¬ c.kind = 3 := by omega
    have k4 : ¬ c.kind = 4 := by omega
    have k5 : ¬ c.kind = 5 := by omega
    have k6 : ¬ c.kind = 6 := by omega
    have k7 : ¬ c.kind = 7 := by omega
    have k8 : ¬ c.kind = 8 := by omega
    have k9 : ¬ c.kind = 9 := by omega
    have k10 : ¬ c.kind = 10 := by omega
    have k11 : ¬ c.kind = 11 := by omega
    have k12 : ¬ c.kind = 12 := by omega
    have k13 : ¬ c.kind = 13 := by omega
    have k14 : ¬ c.kind = 14 := by omega
    have k15 : ¬ c.kind = 15 := by omega
    have h1 := refused_ok 1
    rw [doS_else k]
    refine Pm Tryz.func34 fun hfit => ?_
    simp [Tryz.f34]
    have s_ := And.intro @k1 (And.intro @k2 (And.intro @k3 (And.intro @k4 (And.intro @k5 (And.intro @k6 (And.intro @k7 (And.intro @k8 (And.intro @k9 (And.intro @k10 (And.intro @k11 (And.intro @k12 (And.intro @k13 (And.intro @k14 (And.intro @k15 (@CallR.enc.eq_1)))))))))))))))
    try simp [s_]
    repeat' ((first | ((first | refine Tp ?_ | refine Tn ?_ | refine T2 ?_ ?_) <;> intro hw_ ew_ nw_) | refine Pg h1 ?_ | refine Dg 4 7 [] [] ?_ | refine Dg 8 2 [] [] ?_ | refine Dg 9 10 [] [] ?_ | refine Dg 24 3 [] [] ?_ | refine Dg 27 3 [] [] ?_ | refine Dg 30 8 [] [] ?_ | refine Dg 36 11 [] [] ?_ | refine Dg 37 4 [] [] ?_ | refine Dg 38 2 [] [] ?_ | rw [Ip] | rw [In] | rw [Fz] | rw [Gz] | fail) <;> first | simp [ew_, nw_, s_] | simp [s_] | skip)
  · have h1 := rlook_ok f c.ino c.name h
    rw [doS_1 k, told_look]
    generalize lookD f c.ino c.name = L at *
    refine Pm Tryz.func34 fun hfit => ?_
    simp [Tryz.f34]
    have s_ := And.intro @k (And.intro @CallR.enc.eq_1 (@ReplyR.enc.eq_1))
    try simp [s_]
    repeat' ((first | ((first | refine Tp ?_ | refine Tn ?_ | refine T2 ?_ ?_) <;> intro hw_ ew_ nw_) | refine Pg h1 ?_ | refine Dg 4 6 [2] [] ?_ | refine Dg 8 2 [] [] ?_ | refine Dg 9 10 [] [] ?_ | refine Dg 24 3 [] [] ?_ | refine Dg 27 3 [] [] ?_ | refine Dg 30 8 [] [] ?_ | refine Dg 36 11 [] [] ?_ | refine Dg 37 4 [] [] ?_ | refine Dg 38 2 [] [] ?_ | rw [Ip] | rw [In] | rw [Fz] | rw [Gz] | fail) <;> first | simp [ew_, nw_, s_] | simp [s_] | skip)
  · have h1 := rfindR f c.ino h
    have h2 := rnsize_ok (findB f.l c.ino).1
    have h3 := refused_ok 6
    rw [doS_2 k]
    cases q : (findB f.l c.ino).2 with
    | false =>
      rw [ofD_none q]
      have e : toldR ⟨0, (findB f.l c.ino).1.kind, (findB f.l c.ino).1.links, sizeS (findB f.l c.ino).1, .empty, []⟩ 6 = errR 6 := rfl
      simp only [e]
      generalize findB f.l c.ino = N at *
      refine Pm Tryz.func34 fun hfit => ?_
      simp [Tryz.f34]
      have s_ := And.intro @k (And.intro @q (@CallR.enc.eq_1))
      try simp [s_]
      repeat' ((first | ((first | refine Tp ?_ | refine Tn ?_ | refine T2 ?_ ?_) <;> intro hw_ ew_ nw_) | refine Pg h1 ?_ | refine Pg h3 ?_ | refine Dg 4 7 [] [] ?_ | refine Dg 8 2 [] [] ?_ | refine Dg 9 10 [] [] ?_ | refine Dg 24 3 [] [] ?_ | refine Dg 27 3 [] [] ?_ | refine Dg 30 8 [] [] ?_ | refine Dg 36 11 [] [] ?_ | refine Dg 37 4 [] [] ?_ | refine Dg 38 2 [] [] ?_ | rw [Ip] | rw [In] | rw [Fz] | rw [Gz] | fail) <;> first | simp [ew_, nw_, s_] | simp [s_] | skip)
    | true =>
      rw [ofD_ok q (.inl rfl)]
      have e : toldR ⟨0, (findB f.l c.ino).1.kind, (findB f.l c.ino).1.links, sizeS (findB f.l c.ino).1, .empty, []⟩ 0 = ⟨0, (findB f.l c.ino).1.kind, (findB f.l c.ino).1.links, sizeS (findB f.l c.ino).1, .empty, []⟩ := rfl
      simp only [e]
      generalize findB f.l c.ino = N at *
      refine Pm Tryz.func34 fun hfit => ?_
      simp [Tryz.f34]
      have s_ := And.intro @k (And.intro @q (And.intro @CallR.enc.eq_1 (@ReplyR.enc.eq_1)))
      try simp [s_]
      repeat' ((first | ((first | refine Tp ?_ | refine Tn ?_ | refine T2 ?_ ?_) <;> intro hw_ ew_ nw_) | refine Pg h1 ?_ | refine Pg h2 ?_ | refine Dg 9 9 [2] [] ?_ | refine Dg 4 7 [] [] ?_ | refine Dg 8 2 [] [] ?_ | refine Dg 24 3 [] [] ?_ | refine Dg 27 3 [] [] ?_ | refine Dg 30 8 [] [] ?_ | refine Dg 36 11 [] [] ?_ | refine Dg 37 4 [] [] ?_ | refine Dg 38 2 [] [] ?_ | rw [Ip] | rw [In] | rw [Fz] | rw [Gz] | fail) <;> first | simp [ew_, nw_, s_] | simp [s_] | skip)
  · have h1 := rtexts_ok f c h hb hc (.inl k)
    generalize doS f c = X at *
    refine Pm Tryz.func34 fun hfit => ?_
    simp [Tryz.f34]
    have s_ := k
    try simp [s_]
    repeat' ((first | ((first | refine Tp ?_ | refine Tn ?_ | refine T2 ?_ ?_) <;> intro hw_ ew_ nw_) | refine Pg h1 ?_ | refine Dg 4 7 [] [] ?_ | refine Dg 8 2 [] [] ?_ | refine Dg 9 10 [] [] ?_ | refine Dg 24 3 [] [] ?_ | refine Dg 27 3 [] [] ?_ | refine Dg 30 8 [] [] ?_ | refine Dg 36 11 [] [] ?_ | refine Dg 37 4 [] [] ?_ | refine Dg 38 2 [] [] ?_ | rw [Ip] | rw [In] | rw [Fz] | rw [Gz] | fail) <;> first | simp [ew_, nw_, s_] | simp [s_] | skip)
  · have h1 := rtexts_ok f c h hb hc (.inr (.inl k))
    generalize doS f c = X at *
    refine Pm Tryz.func34 fun hfit => ?_
    simp [Tryz.f34]
    have s_ := k
    try simp [s_]
    repeat' ((first | ((first | refine Tp ?_ | refine Tn ?_ | refine T2 ?_ ?_) <;> intro hw_ ew_ nw_) | refine Pg h1 ?_ | refine Dg 4 7 [] [] ?_ | refine Dg 8 2 [] [] ?_ | refine Dg 9 10 [] [] ?_ | refine Dg 24 3 [] [] ?_ | refine Dg 27 3 [] [] ?_ | refine Dg 30 8 [] [] ?_ | refine Dg 36 11 [] [] ?_ | refine Dg 37 4 [] [] ?_ | refine Dg 38 2 [] [] ?_ | rw [Ip] | rw [In] | rw [Fz] | rw [Gz] | fail) <;> first | simp [ew_, nw_, s_] | simp [s_] | skip)
  · have h1 := rtexts_ok f c h hb hc (.inr (.inr (.inl k)))
    generalize doS f c = X at *
    refine Pm Tryz.func34 fun hfit => ?_
    simp [Tryz.f34]
    have s_ := k
    try simp [s_]
    repeat' ((first | ((first | refine Tp ?_ | refine Tn ?_ | refine T2 ?_ ?_) <;> intro hw_ ew_ nw_) | refine Pg h1 ?_ | refine Dg 4 7 [] [] ?_ | refine Dg 8 2 [] [] ?_ | refine Dg 9 10 [] [] ?_ | refine Dg 24 3 [] [] ?_ | refine Dg 27 3 [] [] ?_ | refine Dg 30 8 [] [] ?_ | refine Dg 36 11 [] [] ?_ | refine Dg 37 4 [] [] ?_ | refine Dg 38 2 [] [] ?_ | rw [Ip] | rw [In] | rw [Fz] | rw [Gz] | fail) <;> first | simp [ew_, nw_, s_] | simp [s_] | skip)
  · have h1 := rmade_ok f c h hb (.inl k)
    generalize doS f c = X at *
    refine Pm Tryz.func34 fun hfit => ?_
    simp [Tryz.f34]
    have s_ := k
    try simp [s_]
    repeat' ((first | ((first | refine Tp ?_ | refine Tn ?_ | refine T2 ?_ ?_) <;> intro hw_ ew_ nw_) | refine Pg h1 ?_ | refine Dg 4 7 [] [] ?_ | refine Dg 8 2 [] [] ?_ | refine Dg 9 10 [] [] ?_ | refine Dg 24 3 [] [] ?_ | refine Dg 27 3 [] [] ?_ | refine Dg 30 8 [] [] ?_ | refine Dg 36 11 [] [] ?_ | refine Dg 37 4 [] [] ?_ | refine Dg 38 2 [] [] ?_ | rw [Ip] | rw [In] | rw [Fz] | rw [Gz] | fail) <;> first | simp [ew_, nw_, s_] | simp [s_] | skip)
  · have h1 := rmade_ok f c h hb (.inr (.inl k))
    generalize doS f c = X at *
    refine Pm Tryz.func34 fun hfit => ?_
    simp [Tryz.f34]
    have s_ := k
    try simp [s_]
    repeat' ((first | ((first | refine Tp ?_ | refine Tn ?_ | refine T2 ?_ ?_) <;> intro hw_ ew_ nw_) | refine Pg h1 ?_ | refine Dg 4 7 [] [] ?_ | refine Dg 8 2 [] [] ?_ | refine Dg 9 10 [] [] ?_ | refine Dg 24 3 [] [] ?_ | refine Dg 27 3 [] [] ?_ | refine Dg 30 8 [] [] ?_ | refine Dg 36 11 [] [] ?_ | refine Dg 37 4 [] [] ?_ | refine Dg 38 2 [] [] ?_ | rw [Ip] | rw [In] | rw [Fz] | rw [Gz] | fail) <;> first | simp [ew_, nw_, s_] | simp [s_] | skip)
  · have h1 := rmade_ok f c h hb (.inr (.inr k))
    generalize doS f c = X at *
    refine Pm Tryz.func34 fun hfit => ?_
    simp [Tryz.f34]
    have s_ := k
    try simp [s_]
    repeat' ((first | ((first | refine Tp ?_ | refine Tn ?_ | refine T2 ?_ ?_) <;> intro hw_ ew_ nw_) | refine Pg h1 ?_ | refine Dg 4 7 [] [] ?_ | refine Dg 8 2 [] [] ?_ | refine Dg 9 10 [] [] ?_ | refine Dg 24 3 [] [] ?_ | refine Dg 27 3 [] [] ?_ | refine Dg 30 8 [] [] ?_ | refine Dg 36 11 [] [] ?_ | refine Dg 37 4 [] [] ?_ | refine Dg 38 2 [] [] ?_ | rw [Ip] | rw [In] | rw [Fz] | rw [Gz] | fail) <;> first | simp [ew_, nw_, s_] | simp [s_] | skip)
  · have h1 := rtaken_ok f c h hb (.inl k)
    generalize doS f c = X at *
    refine Pm Tryz.func34 fun hfit => ?_
    simp [Tryz.f34]
    have s_ := k
    try simp [s_]
    repeat' ((first | ((first | refine Tp ?_ | refine Tn ?_ | refine T2 ?_ ?_) <;> intro hw_ ew_ nw_) | refine Pg h1 ?_ | refine Dg 4 7 [] [] ?_ | refine Dg 8 2 [] [] ?_ | refine Dg 9 10 [] [] ?_ | refine Dg 24 3 [] [] ?_ | refine Dg 27 3 [] [] ?_ | refine Dg 30 8 [] [] ?_ | refine Dg 36 11 [] [] ?_ | refine Dg 37 4 [] [] ?_ | refine Dg 38 2 [] [] ?_ | rw [Ip] | rw [In] | rw [Fz] | rw [Gz] | fail) <;> first | simp [ew_, nw_, s_] | simp [s_] | skip)
  · have h1 := rtaken_ok f c h hb (.inr k)
    generalize doS f c = X at *
    refine Pm Tryz.func34 fun hfit => ?_
    simp [Tryz.f34]
    have s_ := k
    try simp [s_]
    repeat' ((first | ((first | refine Tp ?_ | refine Tn ?_ | refine T2 ?_ ?_) <;> intro hw_ ew_ nw_) | refine Pg h1 ?_ | refine Dg 4 7 [] [] ?_ | refine Dg 8 2 [] [] ?_ | refine Dg 9 10 [] [] ?_ | refine Dg 24 3 [] [] ?_ | refine Dg 27 3 [] [] ?_ | refine Dg 30 8 [] [] ?_ | refine Dg 36 11 [] [] ?_ | refine Dg 37 4 [] [] ?_ | refine Dg 38 2 [] [] ?_ | rw [Ip] | rw [In] | rw [Fz] | rw [Gz] | fail) <;> first | simp [ew_, nw_, s_] | simp [s_] | skip)
  · have h1 := rgive_ok f c.ino c.name c.to_ h hb
    rw [doS_11 k]
    generalize giveD f c.ino c.name c.to_ = A at *
    have h2 := refused_ok A.2
    refine Pm Tryz.func34 fun hfit => ?_
    simp [Tryz.f34]
    have s_ := And.intro @k (@CallR.enc.eq_1)
    try simp [s_]
    repeat' ((first | ((first | refine Tp ?_ | refine Tn ?_ | refine T2 ?_ ?_) <;> intro hw_ ew_ nw_) | refine Pg h1 ?_ | refine Pg h2 ?_ | refine Dg 4 7 [] [] ?_ | refine Dg 8 2 [] [] ?_ | refine Dg 9 10 [] [] ?_ | refine Dg 24 3 [] [] ?_ | refine Dg 27 3 [] [] ?_ | refine Dg 30 8 [] [] ?_ | refine Dg 36 11 [] [] ?_ | refine Dg 37 4 [] [] ?_ | refine Dg 38 2 [] [] ?_ | rw [Ip] | rw [In] | rw [Fz] | rw [Gz] | fail) <;> first | simp [ew_, nw_, s_] | simp [s_] | skip)
  · have h1 := rmove_ok f c.ino c.name c.to_ c.name2 h T hb
    rw [doS_12 k]
    generalize moveD f c.ino c.name c.to_ c.name2 = A at *
    have h2 := refused_ok A.2
    refine Pm Tryz.func34 fun hfit => ?_
    simp [Tryz.f34]
    have s_ := And.intro @k (@CallR.enc.eq_1)
    try simp [s_]
    repeat' ((first | ((first | refine Tp ?_ | refine Tn ?_ | refine T2 ?_ ?_) <;> intro hw_ ew_ nw_) | refine Pg h1 ?_ | refine Pg h2 ?_ | refine Dg 4 7 [] [] ?_ | refine Dg 8 2 [] [] ?_ | refine Dg 9 10 [] [] ?_ | refine Dg 24 3 [] [] ?_ | refine Dg 27 3 [] [] ?_ | refine Dg 30 8 [] [] ?_ | refine Dg 36 11 [] [] ?_ | refine Dg 37 4 [] [] ?_ | refine Dg 38 2 [] [] ?_ | rw [Ip] | rw [In] | rw [Fz] | rw [Gz] | fail) <;> first | simp [ew_, nw_, s_] | simp [s_] | skip)
  · have h1 := rtexts_ok f c h hb hc (.inr (.inr (.inr k)))
    generalize doS f c = X at *
    refine Pm Tryz.func34 fun hfit => ?_
    simp [Tryz.f34]
    have s_ := k
    try simp [s_]
    repeat' ((first | ((first | refine Tp ?_ | refine Tn ?_ | refine T2 ?_ ?_) <;> intro hw_ ew_ nw_) | refine Pg h1 ?_ | refine Dg 4 7 [] [] ?_ | refine Dg 8 2 [] [] ?_ | refine Dg 9 10 [] [] ?_ | refine Dg 24 3 [] [] ?_ | refine Dg 27 3 [] [] ?_ | refine Dg 30 8 [] [] ?_ | refine Dg 36 11 [] [] ?_ | refine Dg 37 4 [] [] ?_ | refine Dg 38 2 [] [] ?_ | rw [Ip] | rw [In] | rw [Fz] | rw [Gz] | fail) <;> first | simp [ew_, nw_, s_] | simp [s_] | skip)
  · have h1 := rdir_ok f c.ino h
    have hrow := h.dirRow c.ino
    rw [doS_14 k, told_dir]
    generalize dirD f c.ino = D at *
    have h2 := rnames_ok D.1.l (by have := hrow.len; omega)
    generalize D.1.l.map (·.name) = M at *
    refine Pm Tryz.func34 fun hfit => ?_
    simp [Tryz.f34]
    have s_ := And.intro @k (And.intro @CallR.enc.eq_1 (@ReplyR.enc.eq_1))
    try simp [s_]
    repeat' ((first | ((first | refine Tp ?_ | refine Tn ?_ | refine T2 ?_ ?_) <;> intro hw_ ew_ nw_) | refine Pg h1 ?_ | refine Pg h2 ?_ | refine Dg 30 7 [2] [] ?_ | refine Dg 4 7 [] [] ?_ | refine Dg 8 2 [] [] ?_ | refine Dg 9 10 [] [] ?_ | refine Dg 24 3 [] [] ?_ | refine Dg 27 3 [] [] ?_ | refine Dg 36 11 [] [] ?_ | refine Dg 37 4 [] [] ?_ | refine Dg 38 2 [] [] ?_ | rw [Ip] | rw [In] | rw [Fz] | rw [Gz] | fail) <;> first | simp [ew_, nw_, s_] | simp [s_] | skip)
  · rw [doS_15 k]
    have hlen := h.len
    have htx : ∀ n ∈ f.l, n.text.size ≤ 4096 := fun n hn => ((nodeOk_iff n).1 (h.ok n hn)).size
    clear h T hb
    obtain ⟨l, next⟩ := f
    simp only at *
    refine Pm Tryz.func34 fun hfit => ?_
    simp [Tryz.f34, FSR.enc]
    have s_ := And.intro @k (And.intro @CallR.enc.eq_1 (@FSR.enc.eq_1))
    try simp [s_]
    repeat' ((first | ((first | refine Tp ?_ | refine Tn ?_ | refine T2 ?_ ?_) <;> intro hw_ ew_ nw_) | refine Dg 4 7 [] [] ?_ | refine Dg 8 2 [] [] ?_ | refine Dg 9 10 [] [] ?_ | refine Dg 24 3 [] [] ?_ | refine Dg 27 3 [] [] ?_ | refine Dg 30 8 [] [] ?_ | refine Dg 36 11 [] [] ?_ | refine Dg 37 4 [] [] ?_ | refine Dg 38 2 [] [] ?_ | rw [Ip] | rw [In] | rw [Fz] | rw [Gz] | fail) <;> first | simp [ew_, nw_, s_] | simp [s_] | skip)
    refine AW.loopG (lit := fun _ => false) (fun i : Nat => ⟨161, pat [(2, .ptr 0 0 0), (4, .ptr 2 0 0), (5, .ptr 3 0 0), (16, .ptr 4 0 0), (17, I i)], [.cells 0 [encL NodeR.enc l, I next], .cells 0 c.enc, .cells 0 [.sl true 0 [], I 0], .cells 0 [I 0, I 0, I 0, I 0, S .empty, .sl true 0 []], .cells 0 [I 0, I l.length, I (sizesF (l.take i)), I 0, S .empty, .sl true 0 []]]⟩) (fun i => l.length - i) (fun i => i ≤ l.length) 0 ?_ ?_ ?_
    · exact Wk.at _ rfl (by simp [sizesF, CallR.enc, k]) (by simp)
    · simp
    rintro i g1 A hA
    by_cases hi : i < l.length
    case neg =>
      have e : List.take i l = l := List.take_of_length_le (by omega)
      have s_ := And.intro @hi (And.intro @ReplyR.enc.eq_1 (And.intro @FSR.enc.eq_1 (@e)))
      try simp [s_]
      repeat' ((first | ((first | refine Tp ?_ | refine Tn ?_ | refine T2 ?_ ?_) <;> intro hw_ ew_ nw_) | refine Dg 37 3 [2] [] ?_ | refine Dg 4 7 [] [] ?_ | refine Dg 8 2 [] [] ?_ | refine Dg 9 10 [] [] ?_ | refine Dg 24 3 [] [] ?_ | refine Dg 27 3 [] [] ?_ | refine Dg 30 8 [] [] ?_ | refine Dg 36 11 [] [] ?_ | refine Dg 38 2 [] [] ?_ | rw [Ip] | rw [In] | rw [Fz] | rw [Gz] | fail) <;> first | simp [ew_, nw_, s_] | simp [s_] | skip)
    have hwi := wrap_nat hi (by simp only [maxLen]; omega)
    have g2 := sizesF_take (l.take (i + 1)) fun n hn => htx n (List.mem_of_mem_take hn)
    have g3 : sizesF (l.take (i + 1)) = sizesF (l.take i) + l[i].text.size := by
      rw [List.take_succ_eq_append_getElem hi]
      simp only [sizesF, List.map_append, List.sum_append, List.map_cons, List.map_nil, List.sum_cons, List.sum_nil]
      omega
    have hw2 : IntKind.i64.wrap (sizesF (l.take i) + (l[i].text.size : Int)) = sizesF (l.take (i + 1)) := by
      rw [← g3, wrap_id (by omega) (by simp at g2; omega)]
    have s_ := And.intro @hi (And.intro @hwi (@hw2))
    try simp [s_]
    repeat' ((first | ((first | refine Tp ?_ | refine Tn ?_ | refine T2 ?_ ?_) <;> intro hw_ ew_ nw_) | (exact hA (i + 1) _ Wc hi (by omega)) | refine Dg 4 7 [] [] ?_ | refine Dg 8 2 [] [] ?_ | refine Dg 9 10 [] [] ?_ | refine Dg 24 3 [] [] ?_ | refine Dg 27 3 [] [] ?_ | refine Dg 30 8 [] [] ?_ | refine Dg 36 11 [] [] ?_ | refine Dg 37 4 [] [] ?_ | refine Dg 38 2 [] [] ?_ | rw [Ip] | rw [In] | rw [Fz] | rw [Gz] | fail) <;> first | simp [ew_, nw_, s_] | simp [s_] | skip)
end Go.Proofs.YtdnfnddlciafmaaGreat
