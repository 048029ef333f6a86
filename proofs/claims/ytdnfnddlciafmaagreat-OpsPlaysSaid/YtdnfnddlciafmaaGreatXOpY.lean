import Derived.Test.YtdnfnddlciafmaaGreatXOpW
set_option linter.unusedVariables false
set_option linter.unusedSimpArgs false
namespace Go.Proofs.YtdnfnddlciafmaaGreat
open Go.Cx Tab
set_option maxHeartbeats 400000
set_option maxRecDepth 40000
theorem rgive_ok (f : FSR) (dir : Int) (s : ByteArray) (ino : Int) (h : RowsF f) (hb : f.next < 4611686018427387904) : PCall Tryz.prog 93 [encF f, I dir, S s, I ino] (.tup [encF (giveD f dir s ino).1, I (giveD f dir s ino).2]) := by
  have h1 := rdir_ok f dir h
  have h2 := rfindR f ino h
  have h3 := rcheck_ok s
  have h4 := rfind06_ok (dirD f dir).1.l s
  have h5 := rentered_ok f dir s ino h (by omega)
  have hn := h.num ino
  have hlk := h.links ino
  have hw : IntKind.i64.wrap ((findB f.l ino).1.links + 1) = (findB f.l ino).1.links + 1 := wrap_id (by omega) (by omega)
  have h6 : (dirD f dir).2 = 0 → PCall Tryz.prog 79 [encF (enteredD f dir s ino), encN { (findB f.l ino).1 with links := (findB f.l ino).1.links + 1 }] (encF (putB (enteredD f dir s ino) { (findB f.l ino).1 with links := (findB f.l ino).1.links + 1 })) := fun g => by
    obtain ⟨d1, d2, _⟩ := dirD_ok g
    have hs := entered_same h d1 d2 s ino
    exact rputR _ _ hs.rows ⟨by simp only; omega, by simp only; omega⟩ (by simp only; omega)
  unfold giveD
  generalize dirD f dir = D at *
  generalize findE D.1.l s = E at *
  generalize enteredD f dir s ino = K at *
  generalize findB f.l ino = N at *
  generalize putB K { N.1 with links := N.1.links + 1 } = K2 at *
  by_cases q1 : D.2 = 0
  case neg =>
    rw [if_pos q1]
    refine Pm Tryz.func93 fun hfit => ?_
    simp [Tryz.f93]
    have s_ := q1
    try simp [s_]
    repeat' ((first | ((first | refine Tp ?_ | refine Tn ?_ | refine T2 ?_ ?_) <;> intro hw_ ew_ nw_) | refine Pg h1 ?_ | refine Dg 18 7 [] [] ?_ | rw [Ip] | rw [In] | rw [Fz] | rw [Gz] | fail) <;> first | simp [ew_, nw_, s_] | simp [s_] | skip)
  rw [if_neg (by simpa using q1)]
  have h6 := h6 q1
  cases q2 : N.2 with
  | false =>
    rw [if_pos rfl]
    refine Pm Tryz.func93 fun hfit => ?_
    simp [Tryz.f93]
    have s_ := And.intro @q1 (@q2)
    try simp [s_]
    repeat' ((first | ((first | refine Tp ?_ | refine Tn ?_ | refine T2 ?_ ?_) <;> intro hw_ ew_ nw_) | refine Pg h1 ?_ | refine Pg h2 ?_ | refine Dg 18 7 [] [] ?_ | rw [Ip] | rw [In] | rw [Fz] | rw [Gz] | fail) <;> first | simp [ew_, nw_, s_] | simp [s_] | skip)
  | true =>
  rw [if_neg (by simp)]
  by_cases q3 : N.1.kind = 2
  · rw [if_pos q3]
    refine Pm Tryz.func93 fun hfit => ?_
    simp [Tryz.f93]
    have s_ := And.intro @q1 (And.intro @q2 (@q3))
    try simp [s_]
    repeat' ((first | ((first | refine Tp ?_ | refine Tn ?_ | refine T2 ?_ ?_) <;> intro hw_ ew_ nw_) | refine Pg h1 ?_ | refine Pg h2 ?_ | refine Dg 18 7 [] [] ?_ | rw [Ip] | rw [In] | rw [Fz] | rw [Gz] | fail) <;> first | simp [ew_, nw_, s_] | simp [s_] | skip)
  rw [if_neg q3]
  by_cases q4 : checkS s = 0
  case neg =>
    rw [if_pos q4]
    refine Pm Tryz.func93 fun hfit => ?_
    simp [Tryz.f93]
    have s_ := And.intro @q1 (And.intro @q2 (And.intro @q3 (@q4)))
    try simp [s_]
    repeat' ((first | ((first | refine Tp ?_ | refine Tn ?_ | refine T2 ?_ ?_) <;> intro hw_ ew_ nw_) | refine Pg h1 ?_ | refine Pg h2 ?_ | refine Pg h3 ?_ | refine Dg 18 7 [] [] ?_ | rw [Ip] | rw [In] | rw [Fz] | rw [Gz] | fail) <;> first | simp [ew_, nw_, s_] | simp [s_] | skip)
  rw [if_neg (by simpa using q4)]
  cases q5 : E.2 with
  | true =>
    rw [if_pos rfl]
    refine Pm Tryz.func93 fun hfit => ?_
    simp [Tryz.f93]
    have s_ := And.intro @q1 (And.intro @q2 (And.intro @q3 (And.intro @q4 (@q5))))
    try simp [s_]
    repeat' ((first | ((first | refine Tp ?_ | refine Tn ?_ | refine T2 ?_ ?_) <;> intro hw_ ew_ nw_) | refine Pg h1 ?_ | refine Pg h2 ?_ | refine Pg h3 ?_ | refine Pg h4 ?_ | refine Dg 18 7 [] [] ?_ | rw [Ip] | rw [In] | rw [Fz] | rw [Gz] | fail) <;> first | simp [ew_, nw_, s_] | simp [s_] | skip)
  | false =>
  rw [if_neg (by simp)]
  by_cases q6 : 256 ≤ D.1.l.length
  · rw [if_pos (.inl q6)]
    refine Pm Tryz.func93 fun hfit => ?_
    simp [Tryz.f93]
    have s_ := And.intro @q1 (And.intro @q2 (And.intro @q3 (And.intro @q4 (And.intro @q5 (@q6)))))
    try simp [s_]
    repeat' ((first | ((first | refine Tp ?_ | refine Tn ?_ | refine T2 ?_ ?_) <;> intro hw_ ew_ nw_) | refine Pg h1 ?_ | refine Pg h2 ?_ | refine Pg h3 ?_ | refine Pg h4 ?_ | refine Dg 18 7 [] [] ?_ | rw [Ip] | rw [In] | rw [Fz] | rw [Gz] | fail) <;> first | simp [ew_, nw_, s_] | simp [s_] | skip)
  by_cases q7 : 64 ≤ N.1.links
  · rw [if_pos (.inr q7)]
    refine Pm Tryz.func93 fun hfit => ?_
    simp [Tryz.f93]
    have s_ := And.intro @q1 (And.intro @q2 (And.intro @q3 (And.intro @q4 (And.intro @q5 (And.intro @q6 (@q7))))))
    try simp [s_]
    repeat' ((first | ((first | refine Tp ?_ | refine Tn ?_ | refine T2 ?_ ?_) <;> intro hw_ ew_ nw_) | refine Pg h1 ?_ | refine Pg h2 ?_ | refine Pg h3 ?_ | refine Pg h4 ?_ | refine Dg 18 7 [] [] ?_ | rw [Ip] | rw [In] | rw [Fz] | rw [Gz] | fail) <;> first | simp [ew_, nw_, s_] | simp [s_] | skip)
  rw [if_neg (fun g => g.elim q6 q7)]
  refine Pm Tryz.func93 fun hfit => ?_
  simp [Tryz.f93]
  have s_ := And.intro @q1 (And.intro @q2 (And.intro @q3 (And.intro @q4 (And.intro @q5 (And.intro @q6 (And.intro @q7 (@hw)))))))
  try simp [s_]
  repeat' ((first | ((first | refine Tp ?_ | refine Tn ?_ | refine T2 ?_ ?_) <;> intro hw_ ew_ nw_) | refine Pg h1 ?_ | refine Pg h2 ?_ | refine Pg h3 ?_ | refine Pg h4 ?_ | refine Pg h5 ?_ | refine Pg h6 ?_ | refine Dg 18 7 [] [] ?_ | rw [Ip] | rw [In] | rw [Fz] | rw [Gz] | fail) <;> first | simp [ew_, nw_, s_] | simp [s_] | skip)
theorem rtake_ok (f : FSR) (dir : Int) (s : ByteArray) (h : RowsF f) (hb : f.next ≤ 4611686018427387904) : PCall Tryz.prog 160 [encF f, I dir, S s] (.tup [encF (takeD f dir s).1, I (takeD f dir s).2]) := by
  have h1 := rlook_ok f dir s h
  have h2 := rleft_ok f dir s h hb
  have h3 := rwithout_ok f dir s h hb
  unfold takeD
  generalize withoutD f dir s (lookD f dir s).1.ino = K at *
  generalize leftD f dir s = K2 at *
  generalize lookD f dir s = L at *
  by_cases q1 : L.2 = 0
  case neg =>
    rw [if_pos q1]
    refine Pm Tryz.func160 fun hfit => ?_
    simp [Tryz.f160]
    have s_ := q1
    try simp [s_]
    repeat' ((first | ((first | refine Tp ?_ | refine Tn ?_ | refine T2 ?_ ?_) <;> intro hw_ ew_ nw_) | refine Pg h1 ?_ | refine Dg 6 7 [] [] ?_ | rw [Ip] | rw [In] | rw [Fz] | rw [Gz] | fail) <;> first | simp [ew_, nw_, s_] | simp [s_] | skip)
  rw [if_neg (by simpa using q1)]
  have h3 := h3 q1
  by_cases q2 : 0 < L.1.l.length
  · rw [if_pos q2]
    refine Pm Tryz.func160 fun hfit => ?_
    simp [Tryz.f160]
    have s_ := And.intro @q1 (@q2)
    try simp [s_]
    repeat' ((first | ((first | refine Tp ?_ | refine Tn ?_ | refine T2 ?_ ?_) <;> intro hw_ ew_ nw_) | refine Pg h1 ?_ | refine Dg 6 7 [] [] ?_ | rw [Ip] | rw [In] | rw [Fz] | rw [Gz] | fail) <;> first | simp [ew_, nw_, s_] | simp [s_] | skip)
  · rw [if_neg q2]
    refine Pm Tryz.func160 fun hfit => ?_
    simp [Tryz.f160]
    have s_ := And.intro @q1 (@q2)
    try simp [s_]
    repeat' ((first | ((first | refine Tp ?_ | refine Tn ?_ | refine T2 ?_ ?_) <;> intro hw_ ew_ nw_) | refine Pg h1 ?_ | refine Pg h2 ?_ | refine Pg h3 ?_ | refine Dg 6 7 [] [] ?_ | rw [Ip] | rw [In] | rw [Fz] | rw [Gz] | fail) <;> first | simp [ew_, nw_, s_] | simp [s_] | skip)
theorem rmove_ok (f : FSR) (dir : Int) (s : ByteArray) (to : Int) (t : ByteArray) (h : RowsF f) (T : TreeP f) (hb : f.next < 4611686018427387904) :
    PCall Tryz.prog 94 [encF f, I dir, S s, I to, S t] (.tup [encF (moveD f dir s to t).1, I (moveD f dir s to t).2]) := by
  have h1 := rlook_ok f dir s h
  have h2 := rdir_ok f to h
  have h3 := rcheck_ok t
  have h4 := rbelow_ok f to (lookD f dir s).1.ino h
  have h5 := rlook_ok f to t h
  have h6 := rleft_ok f to t h (by omega)
  have h7 := rwithout_ok f to t h (by omega)
  have hcs := clear_same h to t
  have hb' : (clearD f to t).next ≤ 4611686018427387904 := by rw [hcs.next]; omega
  have h8 := rfindR (clearD f to t) to hcs.rows
  have h9 := rleft_ok (clearD f to t) dir s hcs.rows hb'
  have hdd : (lookD f dir s).2 = 0 → ((lookD f to t).2 = 0 → overD (lookD f dir s).1 (lookD f to t).1 = 0) → (findB (clearD f to t).l dir).2 = true := fun g1 g2 => by
    obtain ⟨u1, _, _, u4, _⟩ := looked h g1
    by_cases e : (lookD f to t).2 = 0 ∧ dir = (lookD f to t).1.ino
    · exfalso
      obtain ⟨_, _, o3⟩ := overD_ok (g2 e.1)
      obtain ⟨_, _, _, _, u5⟩ := looked h e.1
      rw [e.2, u5] at u4
      simp only [o3] at u4
      exact absurd (congrArg Prod.snd u4) (by simp [findE])
    · rw [clear_find h to t dir (fun h g => e ⟨h, g⟩) (fun g => look_ne h T g)]
      split
      · rfl
      · exact u1
  have h10 : (lookD f dir s).2 = 0 → ((lookD f to t).2 = 0 → overD (lookD f dir s).1 (lookD f to t).1 = 0) → PCall Tryz.prog 80 [encF (leftD (clearD f to t) dir s), I to, S t, I (lookD f dir s).1.ino] (encF (enteredD (leftD (clearD f to t) dir s) to t (lookD f dir s).1.ino)) := fun g1 g2 => by
    have hls := left_same hcs.rows (hdd g1 g2) s
    exact rentered_ok _ to t _ hls.rows (by rw [hls.next]; exact hb')
  clear hdd hcs
  have ec : (lookD f to t).2 = 0 → withoutD f to t (lookD f to t).1.ino = clearD f to t := fun g => by unfold clearD; rw [if_pos g]
  have ec2 : (lookD f to t).2 ≠ 0 → clearD f to t = f := fun g => by unfold clearD; rw [if_neg g]
  unfold moveD
  generalize enteredD (leftD (clearD f to t) dir s) to t (lookD f dir s).1.ino = K at *
  generalize leftD (clearD f to t) dir s = K2 at *
  generalize withoutD f to t (lookD f to t).1.ino = K4 at *
  generalize leftD f to t = K3 at *
  generalize clearD f to t = C at *
  generalize belowD f to (lookD f dir s).1.ino = Bw at *
  generalize lookD f dir s = L at *
  generalize lookD f to t = O at *
  generalize dirD f to = D at *
  generalize findB C.l to = N at *
  by_cases q1 : L.2 = 0
  case neg =>
    rw [if_pos q1]
    refine Pm Tryz.func94 fun hfit => ?_
    simp [Tryz.f94]
    have s_ := q1
    try simp [s_]
    repeat' ((first | ((first | refine Tp ?_ | refine Tn ?_ | refine T2 ?_ ?_) <;> intro hw_ ew_ nw_) | refine Pg h1 ?_ | refine Dg 23 7 [] [] ?_ | refine Dg 27 9 [] [] ?_ | rw [Ip] | rw [In] | rw [Fz] | rw [Gz] | fail) <;> first | simp [ew_, nw_, s_] | simp [s_] | skip)
  rw [if_neg (by simpa using q1)]
  by_cases q2 : D.2 = 0
  case neg =>
    rw [if_pos q2]
    refine Pm Tryz.func94 fun hfit => ?_
    simp [Tryz.f94]
    have s_ := And.intro @q1 (@q2)
    try simp [s_]
    repeat' ((first | ((first | refine Tp ?_ | refine Tn ?_ | refine T2 ?_ ?_) <;> intro hw_ ew_ nw_) | refine Pg h1 ?_ | refine Pg h2 ?_ | refine Dg 23 7 [] [] ?_ | refine Dg 27 9 [] [] ?_ | rw [Ip] | rw [In] | rw [Fz] | rw [Gz] | fail) <;> first | simp [ew_, nw_, s_] | simp [s_] | skip)
  rw [if_neg (by simpa using q2)]
  by_cases q3 : checkS t = 0
  case neg =>
    rw [if_pos q3]
    refine Pm Tryz.func94 fun hfit => ?_
    simp [Tryz.f94]
    have s_ := And.intro @q1 (And.intro @q2 (@q3))
    try simp [s_]
    repeat' ((first | ((first | refine Tp ?_ | refine Tn ?_ | refine T2 ?_ ?_) <;> intro hw_ ew_ nw_) | refine Pg h1 ?_ | refine Pg h2 ?_ | refine Pg h3 ?_ | refine Dg 23 7 [] [] ?_ | refine Dg 27 9 [] [] ?_ | rw [Ip] | rw [In] | rw [Fz] | rw [Gz] | fail) <;> first | simp [ew_, nw_, s_] | simp [s_] | skip)
  rw [if_neg (by simpa using q3)]
  by_cases q4 : L.1.kind = 2 ∧ (L.1.ino = to ∨ Bw = true)
  · rw [if_pos q4]
    obtain ⟨q4, q5⟩ := q4
    by_cases q6 : L.1.ino = to
    · refine Pm Tryz.func94 fun hfit => ?_
      simp [Tryz.f94]
      have s_ := And.intro @q1 (And.intro @q2 (And.intro @q3 (And.intro @q4 (@q6))))
      try simp [s_]
      repeat' ((first | ((first | refine Tp ?_ | refine Tn ?_ | refine T2 ?_ ?_) <;> intro hw_ ew_ nw_) | refine Pg h1 ?_ | refine Pg h2 ?_ | refine Pg h3 ?_ | refine Pg h4 ?_ | refine Dg 23 7 [] [] ?_ | refine Dg 27 9 [] [] ?_ | rw [Ip] | rw [In] | rw [Fz] | rw [Gz] | fail) <;> first | simp [ew_, nw_, s_] | simp [s_] | skip)
    · have q5 := q5.resolve_left q6
      have q6' : ¬ to = L.1.ino := fun e => q6 e.symm
      rw [q5] at h4
      refine Pm Tryz.func94 fun hfit => ?_
      simp [Tryz.f94]
      have s_ := And.intro @q1 (And.intro @q2 (And.intro @q3 (And.intro @q4 (And.intro @q6 (@q6')))))
      try simp [s_]
      repeat' ((first | ((first | refine Tp ?_ | refine Tn ?_ | refine T2 ?_ ?_) <;> intro hw_ ew_ nw_) | refine Pg h1 ?_ | refine Pg h2 ?_ | refine Pg h3 ?_ | refine Pg h4 ?_ | refine Dg 23 7 [] [] ?_ | refine Dg 27 9 [] [] ?_ | rw [Ip] | rw [In] | rw [Fz] | rw [Gz] | fail) <;> first | simp [ew_, nw_, s_] | simp [s_] | skip)
  rw [if_neg q4]
  have key : L.1.kind ≠ 2 ∨ (L.1.kind = 2 ∧ ¬ to = L.1.ino ∧ Bw = false) := by
    by_cases k : L.1.kind = 2
    · exact .inr ⟨k, fun e => q4 ⟨k, .inl e.symm⟩, by cases Bw with | false => rfl | true => exact absurd ⟨k, .inr rfl⟩ q4⟩
    · exact .inl k
  by_cases q5 : O.2 = 0 ∧ O.1.ino = L.1.ino
  · rw [if_pos q5]
    obtain ⟨q5, q6⟩ := q5
    rcases key with k | ⟨k, k2, k3⟩
    · refine Pm Tryz.func94 fun hfit => ?_
      simp [Tryz.f94]
      have s_ := And.intro @q1 (And.intro @q2 (And.intro @q3 (And.intro @k (And.intro @q5 (@q6)))))
      try simp [s_]
      repeat' ((first | ((first | refine Tp ?_ | refine Tn ?_ | refine T2 ?_ ?_) <;> intro hw_ ew_ nw_) | refine Pg h1 ?_ | refine Pg h2 ?_ | refine Pg h3 ?_ | refine Pg h5 ?_ | refine Dg 23 7 [] [] ?_ | refine Dg 27 9 [] [] ?_ | rw [Ip] | rw [In] | rw [Fz] | rw [Gz] | fail) <;> first | simp [ew_, nw_, s_] | simp [s_] | skip)
    · rw [k3] at h4
      refine Pm Tryz.func94 fun hfit => ?_
      simp [Tryz.f94]
      have s_ := And.intro @q1 (And.intro @q2 (And.intro @q3 (And.intro @k (And.intro @k2 (And.intro @q5 (@q6))))))
      try simp [s_]
      repeat' ((first | ((first | refine Tp ?_ | refine Tn ?_ | refine T2 ?_ ?_) <;> intro hw_ ew_ nw_) | refine Pg h1 ?_ | refine Pg h2 ?_ | refine Pg h3 ?_ | refine Pg h4 ?_ | refine Pg h5 ?_ | refine Dg 23 7 [] [] ?_ | refine Dg 27 9 [] [] ?_ | rw [Ip] | rw [In] | rw [Fz] | rw [Gz] | fail) <;> first | simp [ew_, nw_, s_] | simp [s_] | skip)
  rw [if_neg q5]
  by_cases z : O.2 = 0
  case neg =>
    have ec2 := ec2 z
    subst ec2
    have h10 := h10 q1 (fun g => absurd g z)
    rw [if_neg (fun g => z g.1)]
    by_cases q7 : dir ≠ to ∧ 256 ≤ N.1.l.length
    · rw [if_pos q7]
      obtain ⟨q7, q8⟩ := q7
      rcases key with k | ⟨k, k2, k3⟩
      · refine Pm Tryz.func94 fun hfit => ?_
        simp [Tryz.f94]
        have s_ := And.intro @q1 (And.intro @q2 (And.intro @q3 (And.intro @k (And.intro @z (And.intro @q7 (@q8))))))
        try simp [s_]
        repeat' ((first | ((first | refine Tp ?_ | refine Tn ?_ | refine T2 ?_ ?_) <;> intro hw_ ew_ nw_) | refine Pg h1 ?_ | refine Pg h2 ?_ | refine Pg h3 ?_ | refine Pg h5 ?_ | refine Pg h8 ?_ | refine Dg 23 7 [] [] ?_ | refine Dg 27 9 [] [] ?_ | rw [Ip] | rw [In] | rw [Fz] | rw [Gz] | fail) <;> first | simp [ew_, nw_, s_] | simp [s_] | skip)
      · rw [k3] at h4
        refine Pm Tryz.func94 fun hfit => ?_
        simp [Tryz.f94]
        have s_ := And.intro @q1 (And.intro @q2 (And.intro @q3 (And.intro @k (And.intro @k2 (And.intro @z (And.intro @q7 (@q8)))))))
        try simp [s_]
        repeat' ((first | ((first | refine Tp ?_ | refine Tn ?_ | refine T2 ?_ ?_) <;> intro hw_ ew_ nw_) | refine Pg h1 ?_ | refine Pg h2 ?_ | refine Pg h3 ?_ | refine Pg h4 ?_ | refine Pg h5 ?_ | refine Pg h8 ?_ | refine Dg 23 7 [] [] ?_ | refine Dg 27 9 [] [] ?_ | rw [Ip] | rw [In] | rw [Fz] | rw [Gz] | fail) <;> first | simp [ew_, nw_, s_] | simp [s_] | skip)
    rw [if_neg q7]
    by_cases q8 : dir = to
    · rcases key with k | ⟨k, k2, k3⟩
      · refine Pm Tryz.func94 fun hfit => ?_
        simp [Tryz.f94]
        have s_ := And.intro @q1 (And.intro @q2 (And.intro @q3 (And.intro @k (And.intro @z (@q8)))))
        try simp [s_]
        repeat' ((first | ((first | refine Tp ?_ | refine Tn ?_ | refine T2 ?_ ?_) <;> intro hw_ ew_ nw_) | refine Pg h1 ?_ | refine Pg h2 ?_ | refine Pg h3 ?_ | refine Pg h5 ?_ | refine Pg h8 ?_ | refine Pg h9 ?_ | refine Pg h10 ?_ | refine Dg 23 7 [] [] ?_ | refine Dg 27 9 [] [] ?_ | rw [Ip] | rw [In] | rw [Fz] | rw [Gz] | fail) <;> first | simp [ew_, nw_, s_] | simp [s_] | skip)
      · rw [k3] at h4
        refine Pm Tryz.func94 fun hfit => ?_
        simp [Tryz.f94]
        have s_ := And.intro @q1 (And.intro @q2 (And.intro @q3 (And.intro @k (And.intro @k2 (And.intro @z (@q8))))))
        try simp [s_]
        repeat' ((first | ((first | refine Tp ?_ | refine Tn ?_ | refine T2 ?_ ?_) <;> intro hw_ ew_ nw_) | refine Pg h1 ?_ | refine Pg h2 ?_ | refine Pg h3 ?_ | refine Pg h4 ?_ | refine Pg h5 ?_ | refine Pg h8 ?_ | refine Pg h9 ?_ | refine Pg h10 ?_ | refine Dg 23 7 [] [] ?_ | refine Dg 27 9 [] [] ?_ | rw [Ip] | rw [In] | rw [Fz] | rw [Gz] | fail) <;> first | simp [ew_, nw_, s_] | simp [s_] | skip)
    · have q9 : ¬ 256 ≤ N.1.l.length := fun g => q7 ⟨q8, g⟩
      rcases key with k | ⟨k, k2, k3⟩
      · refine Pm Tryz.func94 fun hfit => ?_
        simp [Tryz.f94]
        have s_ := And.intro @q1 (And.intro @q2 (And.intro @q3 (And.intro @k (And.intro @z (And.intro @q8 (@q9))))))
        try simp [s_]
        repeat' ((first | ((first | refine Tp ?_ | refine Tn ?_ | refine T2 ?_ ?_) <;> intro hw_ ew_ nw_) | refine Pg h1 ?_ | refine Pg h2 ?_ | refine Pg h3 ?_ | refine Pg h5 ?_ | refine Pg h8 ?_ | refine Pg h9 ?_ | refine Pg h10 ?_ | refine Dg 23 7 [] [] ?_ | refine Dg 27 9 [] [] ?_ | rw [Ip] | rw [In] | rw [Fz] | rw [Gz] | fail) <;> first | simp [ew_, nw_, s_] | simp [s_] | skip)
      · rw [k3] at h4
        refine Pm Tryz.func94 fun hfit => ?_
        simp [Tryz.f94]
        have s_ := And.intro @q1 (And.intro @q2 (And.intro @q3 (And.intro @k (And.intro @k2 (And.intro @z (And.intro @q8 (@q9)))))))
        try simp [s_]
        repeat' ((first | ((first | refine Tp ?_ | refine Tn ?_ | refine T2 ?_ ?_) <;> intro hw_ ew_ nw_) | refine Pg h1 ?_ | refine Pg h2 ?_ | refine Pg h3 ?_ | refine Pg h4 ?_ | refine Pg h5 ?_ | refine Pg h8 ?_ | refine Pg h9 ?_ | refine Pg h10 ?_ | refine Dg 23 7 [] [] ?_ | refine Dg 27 9 [] [] ?_ | rw [Ip] | rw [In] | rw [Fz] | rw [Gz] | fail) <;> first | simp [ew_, nw_, s_] | simp [s_] | skip)
  have ec := ec z
  have h7 := h7 z
  subst ec
  have q6 : ¬ O.1.ino = L.1.ino := fun g => q5 ⟨z, g⟩
  by_cases o : overD L.1 O.1 = 0
  case neg =>
    rw [if_pos ⟨z, o⟩]
    have ho : (L.1.kind = 2 ∧ O.1.kind ≠ 2 ∧ overD L.1 O.1 = 8) ∨ (L.1.kind ≠ 2 ∧ O.1.kind = 2 ∧ overD L.1 O.1 = 9) ∨ ((L.1.kind = 2 ∧ O.1.kind = 2 ∨ L.1.kind ≠ 2 ∧ O.1.kind ≠ 2) ∧ 0 < O.1.l.length ∧ overD L.1 O.1 = 11) := by
      unfold overD at o ⊢
      by_cases a : L.1.kind = 2 <;> by_cases b : O.1.kind = 2 <;> by_cases c : 0 < O.1.l.length <;> simp [a, b, c] at o ⊢
    rcases ho with ⟨a, b, e⟩ | ⟨a, b, e⟩ | ⟨a, b, e⟩
    · rw [e]
      rcases key with k | ⟨k, k2, k3⟩
      · exact absurd a k
      rw [k3] at h4
      refine Pm Tryz.func94 fun hfit => ?_
      simp [Tryz.f94]
      have s_ := And.intro @q1 (And.intro @q2 (And.intro @q3 (And.intro @k (And.intro @k2 (And.intro @z (And.intro @q6 (@b)))))))
      try simp [s_]
      repeat' ((first | ((first | refine Tp ?_ | refine Tn ?_ | refine T2 ?_ ?_) <;> intro hw_ ew_ nw_) | refine Pg h1 ?_ | refine Pg h2 ?_ | refine Pg h3 ?_ | refine Pg h4 ?_ | refine Pg h5 ?_ | refine Dg 23 7 [] [] ?_ | refine Dg 27 9 [] [] ?_ | rw [Ip] | rw [In] | rw [Fz] | rw [Gz] | fail) <;> first | simp [ew_, nw_, s_] | simp [s_] | skip)
    · rw [e]
      refine Pm Tryz.func94 fun hfit => ?_
      simp [Tryz.f94]
      have s_ := And.intro @q1 (And.intro @q2 (And.intro @q3 (And.intro @z (And.intro @q6 (And.intro @a (@b))))))
      try simp [s_]
      repeat' ((first | ((first | refine Tp ?_ | refine Tn ?_ | refine T2 ?_ ?_) <;> intro hw_ ew_ nw_) | refine Pg h1 ?_ | refine Pg h2 ?_ | refine Pg h3 ?_ | refine Pg h5 ?_ | refine Dg 23 7 [] [] ?_ | refine Dg 27 9 [] [] ?_ | rw [Ip] | rw [In] | rw [Fz] | rw [Gz] | fail) <;> first | simp [ew_, nw_, s_] | simp [s_] | skip)
    · rw [e]
      rcases a with ⟨a, a2⟩ | ⟨a, a2⟩
      · rcases key with k | ⟨k, k2, k3⟩
        · exact absurd a k
        rw [k3] at h4
        refine Pm Tryz.func94 fun hfit => ?_
        simp [Tryz.f94]
        have s_ := And.intro @q1 (And.intro @q2 (And.intro @q3 (And.intro @k (And.intro @k2 (And.intro @z (And.intro @q6 (And.intro @a2 (@b))))))))
        try simp [s_]
        repeat' ((first | ((first | refine Tp ?_ | refine Tn ?_ | refine T2 ?_ ?_) <;> intro hw_ ew_ nw_) | refine Pg h1 ?_ | refine Pg h2 ?_ | refine Pg h3 ?_ | refine Pg h4 ?_ | refine Pg h5 ?_ | refine Dg 23 7 [] [] ?_ | refine Dg 27 9 [] [] ?_ | rw [Ip] | rw [In] | rw [Fz] | rw [Gz] | fail) <;> first | simp [ew_, nw_, s_] | simp [s_] | skip)
      · refine Pm Tryz.func94 fun hfit => ?_
        simp [Tryz.f94]
        have s_ := And.intro @q1 (And.intro @q2 (And.intro @q3 (And.intro @z (And.intro @q6 (And.intro @a (And.intro @a2 (@b)))))))
        try simp [s_]
        repeat' ((first | ((first | refine Tp ?_ | refine Tn ?_ | refine T2 ?_ ?_) <;> intro hw_ ew_ nw_) | refine Pg h1 ?_ | refine Pg h2 ?_ | refine Pg h3 ?_ | refine Pg h5 ?_ | refine Dg 23 7 [] [] ?_ | refine Dg 27 9 [] [] ?_ | rw [Ip] | rw [In] | rw [Fz] | rw [Gz] | fail) <;> first | simp [ew_, nw_, s_] | simp [s_] | skip)
  have h10 := h10 q1 (fun _ => o)
  rw [if_neg (fun g => g.2 o)]
  obtain ⟨o1, o2, o3⟩ := overD_ok o
  have ol : O.1.l.length = 0 := by rw [o3]; rfl
  have kk : (L.1.kind = 2 ∧ O.1.kind = 2 ∧ ¬ to = L.1.ino ∧ Bw = false) ∨ (L.1.kind ≠ 2 ∧ O.1.kind ≠ 2) := by
    rcases key with k | ⟨k, k2, k3⟩
    · exact .inr ⟨k, o2 k⟩
    · exact .inl ⟨k, o1 k, k2, k3⟩
  by_cases q7 : dir ≠ to ∧ 256 ≤ N.1.l.length
  · rw [if_pos q7]
    obtain ⟨q7, q8⟩ := q7
    rcases kk with ⟨a, a2, k2, k3⟩ | ⟨a, a2⟩
    · rw [k3] at h4
      refine Pm Tryz.func94 fun hfit => ?_
      simp [Tryz.f94]
      have s_ := And.intro @q1 (And.intro @q2 (And.intro @q3 (And.intro @a (And.intro @a2 (And.intro @k2 (And.intro @z (And.intro @q6 (And.intro @ol (And.intro @setF_enc (And.intro @q7 (@q8)))))))))))
      try simp [s_]
      repeat' ((first | ((first | refine Tp ?_ | refine Tn ?_ | refine T2 ?_ ?_) <;> intro hw_ ew_ nw_) | refine Pg h1 ?_ | refine Pg h2 ?_ | refine Pg h3 ?_ | refine Pg h4 ?_ | refine Pg h5 ?_ | refine Pg h6 ?_ | refine Pg h7 ?_ | refine Pg h8 ?_ | refine Dg 23 7 [] [] ?_ | refine Dg 27 9 [] [] ?_ | rw [Ip] | rw [In] | rw [Fz] | rw [Gz] | fail) <;> first | simp [ew_, nw_, s_] | simp [s_] | skip)
    · refine Pm Tryz.func94 fun hfit => ?_
      simp [Tryz.f94]
      have s_ := And.intro @q1 (And.intro @q2 (And.intro @q3 (And.intro @a (And.intro @a2 (And.intro @z (And.intro @q6 (And.intro @ol (And.intro @setF_enc (And.intro @q7 (@q8))))))))))
      try simp [s_]
      repeat' ((first | ((first | refine Tp ?_ | refine Tn ?_ | refine T2 ?_ ?_) <;> intro hw_ ew_ nw_) | refine Pg h1 ?_ | refine Pg h2 ?_ | refine Pg h3 ?_ | refine Pg h5 ?_ | refine Pg h6 ?_ | refine Pg h7 ?_ | refine Pg h8 ?_ | refine Dg 23 7 [] [] ?_ | refine Dg 27 9 [] [] ?_ | rw [Ip] | rw [In] | rw [Fz] | rw [Gz] | fail) <;> first | simp [ew_, nw_, s_] | simp [s_] | skip)
  rw [if_neg q7]
  by_cases q8 : dir = to
  · rcases kk with ⟨a, a2, k2, k3⟩ | ⟨a, a2⟩
    · rw [k3] at h4
      refine Pm Tryz.func94 fun hfit => ?_
      simp [Tryz.f94]
      have s_ := And.intro @q1 (And.intro @q2 (And.intro @q3 (And.intro @a (And.intro @a2 (And.intro @k2 (And.intro @z (And.intro @q6 (And.intro @ol (And.intro @setF_enc (@q8))))))))))
      try simp [s_]
      repeat' ((first | ((first | refine Tp ?_ | refine Tn ?_ | refine T2 ?_ ?_) <;> intro hw_ ew_ nw_) | refine Pg h1 ?_ | refine Pg h2 ?_ | refine Pg h3 ?_ | refine Pg h4 ?_ | refine Pg h5 ?_ | refine Pg h6 ?_ | refine Pg h7 ?_ | refine Pg h8 ?_ | refine Pg h9 ?_ | refine Pg h10 ?_ | refine Dg 23 7 [] [] ?_ | refine Dg 27 9 [] [] ?_ | rw [Ip] | rw [In] | rw [Fz] | rw [Gz] | fail) <;> first | simp [ew_, nw_, s_] | simp [s_] | skip)
    · refine Pm Tryz.func94 fun hfit => ?_
      simp [Tryz.f94]
      have s_ := And.intro @q1 (And.intro @q2 (And.intro @q3 (And.intro @a (And.intro @a2 (And.intro @z (And.intro @q6 (And.intro @ol (And.intro @setF_enc (@q8)))))))))
      try simp [s_]
      repeat' ((first | ((first | refine Tp ?_ | refine Tn ?_ | refine T2 ?_ ?_) <;> intro hw_ ew_ nw_) | refine Pg h1 ?_ | refine Pg h2 ?_ | refine Pg h3 ?_ | refine Pg h5 ?_ | refine Pg h6 ?_ | refine Pg h7 ?_ | refine Pg h8 ?_ | refine Pg h9 ?_ | refine Pg h10 ?_ | refine Dg 23 7 [] [] ?_ | refine Dg 27 9 [] [] ?_ | rw [Ip] | rw [In] | rw [Fz] | rw [Gz] | fail) <;> first | simp [ew_, nw_, s_] | simp [s_] | skip)
  · have q9 : ¬ 256 ≤ N.1.l.length := fun g => q7 ⟨q8, g⟩
    rcases kk with ⟨a, a2, k2, k3⟩ | ⟨a, a2⟩
    · rw [k3] at h4
      refine Pm Tryz.func94 fun hfit => ?_
      simp [Tryz.f94]
      have s_ := And.intro @q1 (And.intro @q2 (And.intro @q3 (And.intro @a (And.intro @a2 (And.intro @k2 (And.intro @z (And.intro @q6 (And.intro @ol (And.intro @setF_enc (And.intro @q8 (@q9)))))))))))
      try simp [s_]
      repeat' ((first | ((first | refine Tp ?_ | refine Tn ?_ | refine T2 ?_ ?_) <;> intro hw_ ew_ nw_) | refine Pg h1 ?_ | refine Pg h2 ?_ | refine Pg h3 ?_ | refine Pg h4 ?_ | refine Pg h5 ?_ | refine Pg h6 ?_ | refine Pg h7 ?_ | refine Pg h8 ?_ | refine Pg h9 ?_ | refine Pg h10 ?_ | refine Dg 23 7 [] [] ?_ | refine Dg 27 9 [] [] ?_ | rw [Ip] | rw [In] | rw [Fz] | rw [Gz] | fail) <;> first | simp [ew_, nw_, s_] | simp [s_] | skip)
    · refine Pm Tryz.func94 fun hfit => ?_
      simp [Tryz.f94]
      have s_ := And.intro @q1 (And.intro @q2 (And.intro @q3 (And.intro @a (And.intro @a2 (And.intro @z (And.intro @q6 (And.intro @ol (And.intro @setF_enc (And.intro @q8 (@q9))))))))))
      try simp [s_]
      repeat' ((first | ((first | refine Tp ?_ | refine Tn ?_ | refine T2 ?_ ?_) <;> intro hw_ ew_ nw_) | refine Pg h1 ?_ | refine Pg h2 ?_ | refine Pg h3 ?_ | refine Pg h5 ?_ | refine Pg h6 ?_ | refine Pg h7 ?_ | refine Pg h8 ?_ | refine Pg h9 ?_ | refine Pg h10 ?_ | refine Dg 23 7 [] [] ?_ | refine Dg 27 9 [] [] ?_ | rw [Ip] | rw [In] | rw [Fz] | rw [Gz] | fail) <;> first | simp [ew_, nw_, s_] | simp [s_] | skip)
end Go.Proofs.YtdnfnddlciafmaaGreat
