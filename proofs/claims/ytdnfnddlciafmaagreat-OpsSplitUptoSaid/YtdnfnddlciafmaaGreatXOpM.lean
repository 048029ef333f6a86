import Derived.Test.YtdnfnddlciafmaaGreatXOpL
set_option linter.unusedVariables false
set_option linter.unusedSimpArgs false
namespace Go.Proofs.YtdnfnddlciafmaaGreat
open Go.Cx Tab
set_option maxHeartbeats 400000
set_option maxRecDepth 40000
theorem giveN_ok (f : FSR) (dir : Int) (s : ByteArray) (ino : Int) (h : RowsF f) (hb : f.next < 4611686018427387904) : PCall Tryz.prog 147 [encF f, I dir, S s, I ino] (.tup [encF (giveD f dir s ino).1, I (giveD f dir s ino).2]) := by
  have hlen := h.len
  have hrow := h.dirRow dir
  have h1 := dir_ok f dir (by omega)
  have h2 := find_ok f ino (by omega)
  have h3 := check_ok s
  have h4 := there_ok (dirD f dir).1 s hrow.rise (by have := hrow.len; omega)
  have hlk := h.links ino
  have hnn := h.num ino
  have h0 := give_ok (f := f) (dir := dir) (s := s) (ino := ino)
  have hG : ∀ a b c d : Int, PCall Tryz.prog 186 [enc1 I [(dirD f dir).2, a, b, checkS s, c, d]] (I (firstS [(dirD f dir).2, a, b, checkS s, c, d])) := fun a b c d => first_ok [(dirD f dir).2, a, b, checkS s, c, d] (by simp)
  have h5 := hG (unlessS (!(findB f.l ino).2) 6) (unlessS (decide ((findB f.l ino).1.kind = 2)) 9) (unlessS (findE (dirD f dir).1.l s).2 7) (unlessS (decide (256 ≤ (dirD f dir).1.l.length) || decide (64 ≤ (findB f.l ino).1.links)) 12)
  have e5 : giveE f dir s ino = firstS [(dirD f dir).2, unlessS (!(findB f.l ino).2) 6, unlessS (decide ((findB f.l ino).1.kind = 2)) 9, checkS s, unlessS (findE (dirD f dir).1.l s).2 7, unlessS (decide (256 ≤ (dirD f dir).1.l.length) || decide (64 ≤ (findB f.l ino).1.links)) 12] := rfl
  rw [← e5] at h5
  rw [giveD_eq]
  have u1 := unless_ok (!(findB f.l ino).2) 6
  have u2 := unless_ok (decide ((findB f.l ino).1.kind = 2)) 9
  have u3 := unless_ok (findE (dirD f dir).1.l s).2 7
  have hw : IntKind.i64.wrap ((findB f.l ino).1.links + 1) = (findB f.l ino).1.links + 1 := wrap_id (by omega) (by omega)
  by_cases q : giveE f dir s ino = 0
  · obtain ⟨g1, g2, g3, g4, g5, g6, g7⟩ := h0 q
    obtain ⟨k1, k2, k3⟩ := dirD_ok g1
    have hs := entered_same h k1 k2 s ino
    have hn := h.num dir
    rw [k3] at hrow g6
    have h6 := entered_ok f (findB f.l dir).1 s ino hrow (by omega) ⟨by omega, by omega⟩ (by omega)
    have e : putB f { (findB f.l dir).1 with l := (enterE (findB f.l dir).1.l s ino).1 } = enteredD f dir s ino := rfl
    rw [e] at h6
    have h7 := tput_ok (enteredD f dir s ino) { (findB f.l ino).1 with links := (findB f.l ino).1.links + 1 } (by have := hs.len; omega) ⟨by simp only; omega, by simp only; omega⟩ (by simp only; omega)
    have p1 : ¬ 256 ≤ (findB f.l dir).1.l.length := by omega
    have p2 : ¬ 64 ≤ (findB f.l ino).1.links := by omega
    rw [if_pos q]
    clear e5 hG h0
    simp only [k3, g1, g2, g4, g5, q] at h1 h2 h3 h4 h5 u1 u2 u3
    generalize enteredD f dir s ino = K at *
    generalize findB f.l dir = D at *
    generalize findB f.l ino = N at *
    simp [unlessS, g3, p1, p2] at h5 u1 u2 u3
    refine Pm Tryz.func147 fun hfit => ?_
    simp [Tryz.f147]
    have s_ := And.intro @p1 (And.intro @p2 (And.intro @g3 (And.intro @hw (@FSR.enc.eq_1))))
    try simp [s_]
    repeat' ((first | ((first | refine Tp ?_ | refine Tn ?_ | refine T2 ?_ ?_) <;> intro hw_ ew_ nw_) | refine Pg h1 ?_ | refine Pg h2 ?_ | refine Pg h3 ?_ | refine Pg h4 ?_ | refine Pg u1 ?_ | refine Pg u2 ?_ | refine Pg u3 ?_ | refine Pg (unl_f 12) ?_ | refine Lg h5 ?_ | refine Sg h5 ?_ | refine Pg h6 ?_ | refine Pg h7 ?_ | refine Dg 4 18 [] [] ?_ | refine Dg 8 7 [] [] ?_ | rw [Ip] | rw [In] | rw [Fz] | rw [Gz] | fail) <;> first | simp [ew_, nw_, s_] | simp [s_] | skip)
  · rw [if_neg q]
    clear h0 e5 hG
    generalize giveE f dir s ino = r at *
    generalize dirD f dir = D at *
    generalize findB f.l ino = N at *
    generalize unlessS (!N.2) 6 = a1 at *
    generalize unlessS (decide (N.1.kind = 2)) 9 = a2 at *
    generalize unlessS (findE D.1.l s).2 7 = a3 at *
    by_cases q1 : 256 ≤ D.1.l.length
    · simp [unlessS, q1] at h5
      refine Pm Tryz.func147 fun hfit => ?_
      simp [Tryz.f147]
      have s_ := And.intro @q (And.intro @q1 (@FSR.enc.eq_1))
      try simp [s_]
      repeat' ((first | ((first | refine Tp ?_ | refine Tn ?_ | refine T2 ?_ ?_) <;> intro hw_ ew_ nw_) | refine Pg h1 ?_ | refine Pg h2 ?_ | refine Pg h3 ?_ | refine Pg h4 ?_ | refine Pg u1 ?_ | refine Pg u2 ?_ | refine Pg u3 ?_ | refine Pg (unl_t 12) ?_ | refine Pg (unl_f 12) ?_ | refine Lg h5 ?_ | refine Sg h5 ?_ | refine Dg 4 18 [] [] ?_ | refine Dg 8 7 [] [] ?_ | rw [Ip] | rw [In] | rw [Fz] | rw [Gz] | fail) <;> first | simp [ew_, nw_, s_] | simp [s_] | skip)
    by_cases q2 : 64 ≤ N.1.links
    · simp [unlessS, q1, q2] at h5
      refine Pm Tryz.func147 fun hfit => ?_
      simp [Tryz.f147]
      have s_ := And.intro @q (And.intro @q1 (And.intro @q2 (@FSR.enc.eq_1)))
      try simp [s_]
      repeat' ((first | ((first | refine Tp ?_ | refine Tn ?_ | refine T2 ?_ ?_) <;> intro hw_ ew_ nw_) | refine Pg h1 ?_ | refine Pg h2 ?_ | refine Pg h3 ?_ | refine Pg h4 ?_ | refine Pg u1 ?_ | refine Pg u2 ?_ | refine Pg u3 ?_ | refine Pg (unl_t 12) ?_ | refine Pg (unl_f 12) ?_ | refine Lg h5 ?_ | refine Sg h5 ?_ | refine Dg 4 18 [] [] ?_ | refine Dg 8 7 [] [] ?_ | rw [Ip] | rw [In] | rw [Fz] | rw [Gz] | fail) <;> first | simp [ew_, nw_, s_] | simp [s_] | skip)
    · simp [unlessS, q1, q2] at h5
      refine Pm Tryz.func147 fun hfit => ?_
      simp [Tryz.f147]
      have s_ := And.intro @q (And.intro @q1 (And.intro @q2 (@FSR.enc.eq_1)))
      try simp [s_]
      repeat' ((first | ((first | refine Tp ?_ | refine Tn ?_ | refine T2 ?_ ?_) <;> intro hw_ ew_ nw_) | refine Pg h1 ?_ | refine Pg h2 ?_ | refine Pg h3 ?_ | refine Pg h4 ?_ | refine Pg u1 ?_ | refine Pg u2 ?_ | refine Pg u3 ?_ | refine Pg (unl_t 12) ?_ | refine Pg (unl_f 12) ?_ | refine Lg h5 ?_ | refine Sg h5 ?_ | refine Dg 4 18 [] [] ?_ | refine Dg 8 7 [] [] ?_ | rw [Ip] | rw [In] | rw [Fz] | rw [Gz] | fail) <;> first | simp [ew_, nw_, s_] | simp [s_] | skip)
theorem setN_enc (n m : NodeR) : setMany n.enc 0 m.enc = m.enc := rfl
theorem setN4_enc (n m : NodeR) (v : AV) : setMany (n.enc.set 4 v) 0 m.enc = m.enc := rfl
theorem move_ok (f : FSR) (dir : Int) (s : ByteArray) (to : Int) (t : ByteArray) (h : RowsF f) (hb : f.next < 4611686018427387904) (hT : (lookD f to t).2 = 0 → (lookD f to t).1.ino ≠ to) :
    PCall Tryz.prog 149 [encF f, I dir, S s, I to, S t] (.tup [encF (moveD f dir s to t).1, I (moveD f dir s to t).2]) := by
  have hlen := h.len
  have h1 := look_ok f dir s h
  have h2 := dir_ok f to (by omega)
  have h3 := check_ok t
  have h4 := first_ok [(lookD f dir s).2, (dirD f to).2, checkS t] (by simp)
  have h5 := below_ok f to (lookD f dir s).1.ino (by omega) (fun n hn => ((rowOk_iff _).1 ((nodeOk_iff n).1 (h.ok n hn)).row).len)
  have eb : decide (0 < getM (underS f.l (lookD f dir s).1.ino) to) = belowD f to (lookD f dir s).1.ino := rfl
  rw [eb] at h5
  have h6 := look_ok f to t h
  have h7 := over_ok (lookD f dir s).1 (lookD f to t).1
  unfold moveD
  by_cases q1 : (lookD f dir s).2 = 0
  case neg =>
    rw [if_pos q1]
    generalize lookD f dir s = L at *
    generalize dirD f to = D at *
    refine Pm Tryz.func149 fun hfit => ?_
    simp [Tryz.f149]
    have s_ := And.intro @q1 (And.intro @firstS.eq_1 (@firstS.eq_2))
    try simp [s_]
    repeat' ((first | ((first | refine Tp ?_ | refine Tn ?_ | refine T2 ?_ ?_) <;> intro hw_ ew_ nw_) | refine Pg h1 ?_ | refine Pg h2 ?_ | refine Pg h3 ?_ | refine Lg h4 ?_ | refine Sg h4 ?_ | rw [Ip] | rw [In] | rw [Fz] | rw [Gz] | fail) <;> first | simp [ew_, nw_, s_] | simp [s_] | skip)
  rw [if_neg (by simpa using q1)]
  by_cases q2 : (dirD f to).2 = 0
  case neg =>
    rw [if_pos q2]
    generalize lookD f dir s = L at *
    generalize dirD f to = D at *
    refine Pm Tryz.func149 fun hfit => ?_
    simp [Tryz.f149]
    have s_ := And.intro @q1 (And.intro @q2 (And.intro @firstS.eq_1 (@firstS.eq_2)))
    try simp [s_]
    repeat' ((first | ((first | refine Tp ?_ | refine Tn ?_ | refine T2 ?_ ?_) <;> intro hw_ ew_ nw_) | refine Pg h1 ?_ | refine Pg h2 ?_ | refine Pg h3 ?_ | refine Lg h4 ?_ | refine Sg h4 ?_ | rw [Ip] | rw [In] | rw [Fz] | rw [Gz] | fail) <;> first | simp [ew_, nw_, s_] | simp [s_] | skip)
  rw [if_neg (by simpa using q2)]
  by_cases q3 : checkS t = 0
  case neg =>
    rw [if_pos q3]
    generalize lookD f dir s = L at *
    generalize dirD f to = D at *
    refine Pm Tryz.func149 fun hfit => ?_
    simp [Tryz.f149]
    have s_ := And.intro @q1 (And.intro @q2 (And.intro @q3 (And.intro @firstS.eq_1 (@firstS.eq_2))))
    try simp [s_]
    repeat' ((first | ((first | refine Tp ?_ | refine Tn ?_ | refine T2 ?_ ?_) <;> intro hw_ ew_ nw_) | refine Pg h1 ?_ | refine Pg h2 ?_ | refine Pg h3 ?_ | refine Lg h4 ?_ | refine Sg h4 ?_ | rw [Ip] | rw [In] | rw [Fz] | rw [Gz] | fail) <;> first | simp [ew_, nw_, s_] | simp [s_] | skip)
  rw [if_neg (by simpa using q3)]
  obtain ⟨d1, d2, d3⟩ := dirD_ok q2
  obtain ⟨l1, l2, l3, l4, l5⟩ := lookD_ok q1
  obtain ⟨c1, c2, c3⟩ := dirD_ok l1
  by_cases q4 : (lookD f dir s).1.kind = 2 ∧ ((lookD f dir s).1.ino = to ∨ belowD f to (lookD f dir s).1.ino = true)
  · rw [if_pos q4]
    obtain ⟨q4, q5⟩ := q4
    generalize belowD f to (lookD f dir s).1.ino = bl at *
    generalize lookD f dir s = L at *
    generalize dirD f to = D at *
    by_cases q6 : L.1.ino = to
    · refine Pm Tryz.func149 fun hfit => ?_
      simp [Tryz.f149]
      have s_ := And.intro @q1 (And.intro @q2 (And.intro @q3 (And.intro @q4 (And.intro @q6 (And.intro @firstS.eq_1 (@firstS.eq_2))))))
      try simp [s_]
      repeat' ((first | ((first | refine Tp ?_ | refine Tn ?_ | refine T2 ?_ ?_) <;> intro hw_ ew_ nw_) | refine Pg h1 ?_ | refine Pg h2 ?_ | refine Pg h3 ?_ | refine Lg h4 ?_ | refine Sg h4 ?_ | rw [Ip] | rw [In] | rw [Fz] | rw [Gz] | fail) <;> first | simp [ew_, nw_, s_] | simp [s_] | skip)
    · have q7 : bl = true := q5.resolve_left q6
      subst q7
      refine Pm Tryz.func149 fun hfit => ?_
      simp [Tryz.f149]
      have s_ := And.intro @q1 (And.intro @q2 (And.intro @q3 (And.intro @q4 (And.intro @q6 (And.intro @firstS.eq_1 (@firstS.eq_2))))))
      try simp [s_]
      repeat' ((first | ((first | refine Tp ?_ | refine Tn ?_ | refine T2 ?_ ?_) <;> intro hw_ ew_ nw_) | refine Pg h1 ?_ | refine Pg h2 ?_ | refine Pg h3 ?_ | refine Lg h4 ?_ | refine Sg h4 ?_ | refine Pg h5 ?_ | rw [Ip] | rw [In] | rw [Fz] | rw [Gz] | fail) <;> first | simp [ew_, nw_, s_] | simp [s_] | skip)
  rw [if_neg q4]
  have q4' : (lookD f dir s).1.kind ≠ 2 ∨ (lookD f dir s).1.kind = 2 ∧ (lookD f dir s).1.ino ≠ to ∧ belowD f to (lookD f dir s).1.ino = false := by
    by_cases k : (lookD f dir s).1.kind = 2
    · exact .inr ⟨k, fun e => q4 ⟨k, .inl e⟩, by
        cases hb : belowD f to (lookD f dir s).1.ino
        · rfl
        · exact absurd ⟨k, .inr hb⟩ q4⟩
    · exact .inl k
  clear q4
  by_cases q5 : (lookD f to t).2 = 0 ∧ (lookD f to t).1.ino = (lookD f dir s).1.ino
  · rw [if_pos q5]
    obtain ⟨q5, q6⟩ := q5
    generalize belowD f to (lookD f dir s).1.ino = bl at *
    generalize lookD f dir s = L at *
    generalize lookD f to t = O at *
    generalize dirD f to = D at *
    rcases q4' with q4 | ⟨q4, q7, rfl⟩
    · refine Pm Tryz.func149 fun hfit => ?_
      simp [Tryz.f149]
      have s_ := And.intro @q1 (And.intro @q2 (And.intro @q3 (And.intro @q4 (And.intro @q5 (And.intro @q6 (And.intro @firstS.eq_1 (@firstS.eq_2)))))))
      try simp [s_]
      repeat' ((first | ((first | refine Tp ?_ | refine Tn ?_ | refine T2 ?_ ?_) <;> intro hw_ ew_ nw_) | refine Pg h1 ?_ | refine Pg h2 ?_ | refine Pg h3 ?_ | refine Lg h4 ?_ | refine Sg h4 ?_ | refine Pg h6 ?_ | rw [Ip] | rw [In] | rw [Fz] | rw [Gz] | fail) <;> first | simp [ew_, nw_, s_] | simp [s_] | skip)
    · refine Pm Tryz.func149 fun hfit => ?_
      simp [Tryz.f149]
      have s_ := And.intro @q1 (And.intro @q2 (And.intro @q3 (And.intro @q4 (And.intro @q5 (And.intro @q6 (And.intro @q7 (And.intro @firstS.eq_1 (@firstS.eq_2))))))))
      try simp [s_]
      repeat' ((first | ((first | refine Tp ?_ | refine Tn ?_ | refine T2 ?_ ?_) <;> intro hw_ ew_ nw_) | refine Pg h1 ?_ | refine Pg h2 ?_ | refine Pg h3 ?_ | refine Lg h4 ?_ | refine Sg h4 ?_ | refine Pg h5 ?_ | refine Pg h6 ?_ | rw [Ip] | rw [In] | rw [Fz] | rw [Gz] | fail) <;> first | simp [ew_, nw_, s_] | simp [s_] | skip)
  rw [if_neg q5]
  by_cases q8 : (lookD f to t).2 = 0 ∧ overD (lookD f dir s).1 (lookD f to t).1 ≠ 0
  · rw [if_pos q8]
    obtain ⟨q8, q9⟩ := q8
    have q6 : ¬ (lookD f to t).1.ino = (lookD f dir s).1.ino := fun e => q5 ⟨q8, e⟩
    generalize belowD f to (lookD f dir s).1.ino = bl at *
    generalize overD (lookD f dir s).1 (lookD f to t).1 = ov at *
    generalize lookD f dir s = L at *
    generalize lookD f to t = O at *
    generalize dirD f to = D at *
    rcases q4' with q4 | ⟨q4, q7, rfl⟩
    · refine Pm Tryz.func149 fun hfit => ?_
      simp [Tryz.f149]
      have s_ := And.intro @q1 (And.intro @q2 (And.intro @q3 (And.intro @q4 (And.intro @q6 (And.intro @q8 (And.intro @q9 (And.intro @firstS.eq_1 (@firstS.eq_2))))))))
      try simp [s_]
      repeat' ((first | ((first | refine Tp ?_ | refine Tn ?_ | refine T2 ?_ ?_) <;> intro hw_ ew_ nw_) | refine Pg h1 ?_ | refine Pg h2 ?_ | refine Pg h3 ?_ | refine Lg h4 ?_ | refine Sg h4 ?_ | refine Pg h6 ?_ | refine Pg h7 ?_ | rw [Ip] | rw [In] | rw [Fz] | rw [Gz] | fail) <;> first | simp [ew_, nw_, s_] | simp [s_] | skip)
    · refine Pm Tryz.func149 fun hfit => ?_
      simp [Tryz.f149]
      have s_ := And.intro @q1 (And.intro @q2 (And.intro @q3 (And.intro @q4 (And.intro @q6 (And.intro @q7 (And.intro @q8 (And.intro @q9 (And.intro @firstS.eq_1 (@firstS.eq_2)))))))))
      try simp [s_]
      repeat' ((first | ((first | refine Tp ?_ | refine Tn ?_ | refine T2 ?_ ?_) <;> intro hw_ ew_ nw_) | refine Pg h1 ?_ | refine Pg h2 ?_ | refine Pg h3 ?_ | refine Lg h4 ?_ | refine Sg h4 ?_ | refine Pg h5 ?_ | refine Pg h6 ?_ | refine Pg h7 ?_ | rw [Ip] | rw [In] | rw [Fz] | rw [Gz] | fail) <;> first | simp [ew_, nw_, s_] | simp [s_] | skip)
  rw [if_neg q8]
  have hK := clear_same h to t
  have hkl := hK.rows.len
  have hkn := hK.next
  have h8 := find_ok (clearD f to t) to (by omega)
  have h9 := find_ok (clearD f to t) dir (by omega)
  have hC := clear_find h to t dir (fun hl e => by
    have ho : overD (lookD f dir s).1 (lookD f to t).1 = 0 := Decidable.byContradiction fun k => q8 ⟨hl, k⟩
    have hi := findB_of h.rise (lookD_mem hl)
    rw [← e] at hi
    have hl0 : ¬ 0 < (lookD f to t).1.l.length := fun k => by
      unfold overD at ho
      rw [if_pos k] at ho
      split at ho
      · simp at ho
      · split at ho <;> simp at ho
    rw [c3, hi] at l3
    have : (lookD f to t).1.l = [] := List.eq_nil_of_length_eq_zero (by omega)
    simp only [this] at l3
    simp [findE] at l3) hT
  have hfd : (findB (clearD f to t).l dir).2 = true := by
    rw [hC]
    split
    · rfl
    · exact c1
  have hrow := hK.rows.row dir
  have hnum := hK.rows.num dir
  have h10 := leave_ok (findB (clearD f to t).l dir).1.l s hrow.rise (by have := hrow.len; omega)
  have h11 := tput_ok (clearD f to t) { (findB (clearD f to t).l dir).1 with l := (leaveE (findB (clearD f to t).l dir).1.l s).1 } (by omega) ⟨by simp only; omega, by simp only; omega⟩ (by simp only; omega)
  have e11 : putB (clearD f to t) { (findB (clearD f to t).l dir).1 with l := (leaveE (findB (clearD f to t).l dir).1.l s).1 } = leftD (clearD f to t) dir s := rfl
  rw [e11] at h11
  have hM := left_same hK.rows hfd s
  have hml := hM.rows.len
  have hmn := hM.next
  have h12 := find_ok (leftD (clearD f to t) dir s) to (by omega)
  have hrow2 := hM.rows.row to
  have hnum2 := hM.rows.num to
  have h13 := entered_ok (leftD (clearD f to t) dir s) (findB (leftD (clearD f to t) dir s).l to).1 t (lookD f dir s).1.ino hrow2 (by omega) ⟨by omega, by omega⟩ (by omega)
  have e13 : putB (leftD (clearD f to t) dir s) { (findB (leftD (clearD f to t) dir s).l to).1 with l := (enterE (findB (leftD (clearD f to t) dir s).l to).1.l t (lookD f dir s).1.ino).1 } = enteredD (leftD (clearD f to t) dir s) to t (lookD f dir s).1.ino := rfl
  rw [e13] at h13
  by_cases q9 : (lookD f to t).2 = 0
  · have q6 : ¬ (lookD f to t).1.ino = (lookD f dir s).1.ino := fun e => q5 ⟨q9, e⟩
    have ho : overD (lookD f dir s).1 (lookD f to t).1 = 0 := Decidable.byContradiction fun k => q8 ⟨q9, k⟩
    have hi := findB_of h.rise (lookD_mem q9)
    have h14 := without_ok f to t (lookD f to t).1 h (by omega) d1 (by rw [hi]) (by rw [hi]) (hT q9)
    have e14 : withoutD f to t (lookD f to t).1.ino = clearD f to t := by unfold clearD; rw [if_pos q9]
    rw [e14] at h14
    rw [ho] at h7
    clear e11 e13 e14 hC
    generalize enteredD (leftD (clearD f to t) dir s) to t (lookD f dir s).1.ino = R at *
    generalize leftD (clearD f to t) dir s = M at *
    generalize clearD f to t = K at *
    generalize belowD f to (lookD f dir s).1.ino = bl at *
    generalize lookD f dir s = L at *
    generalize lookD f to t = O at *
    generalize dirD f to = D at *
    by_cases r1 : dir = to
    · rw [if_neg (fun k => k.1 r1)]
      subst r1
      rcases q4' with q4 | ⟨q4, q7, rfl⟩
      · refine Pm Tryz.func149 fun hfit => ?_
        simp [Tryz.f149]
        have s_ := And.intro @q1 (And.intro @q2 (And.intro @q3 (And.intro @q4 (And.intro @q6 (And.intro @q9 (And.intro @firstS.eq_1 (And.intro @firstS.eq_2 (And.intro @setF_enc (And.intro @setN_enc (@setN4_enc))))))))))
        try simp [s_]
        repeat' ((first | ((first | refine Tp ?_ | refine Tn ?_ | refine T2 ?_ ?_) <;> intro hw_ ew_ nw_) | refine Pg h1 ?_ | refine Pg h2 ?_ | refine Pg h3 ?_ | refine Lg h4 ?_ | refine Sg h4 ?_ | refine Pg h6 ?_ | refine Pg h7 ?_ | refine Pg h14 ?_ | refine Pg h8 ?_ | refine Pg h9 ?_ | refine Pg h10 ?_ | refine Pg h11 ?_ | refine Pg h12 ?_ | refine Pg h13 ?_ | rw [Ip] | rw [In] | rw [Fz] | rw [Gz] | fail) <;> first | simp [ew_, nw_, s_] | simp [s_] | skip)
      · refine Pm Tryz.func149 fun hfit => ?_
        simp [Tryz.f149]
        have s_ := And.intro @q1 (And.intro @q2 (And.intro @q3 (And.intro @q4 (And.intro @q6 (And.intro @q7 (And.intro @q9 (And.intro @firstS.eq_1 (And.intro @firstS.eq_2 (And.intro @setF_enc (And.intro @setN_enc (@setN4_enc)))))))))))
        try simp [s_]
        repeat' ((first | ((first | refine Tp ?_ | refine Tn ?_ | refine T2 ?_ ?_) <;> intro hw_ ew_ nw_) | refine Pg h1 ?_ | refine Pg h2 ?_ | refine Pg h3 ?_ | refine Lg h4 ?_ | refine Sg h4 ?_ | refine Pg h5 ?_ | refine Pg h6 ?_ | refine Pg h7 ?_ | refine Pg h14 ?_ | refine Pg h8 ?_ | refine Pg h9 ?_ | refine Pg h10 ?_ | refine Pg h11 ?_ | refine Pg h12 ?_ | refine Pg h13 ?_ | rw [Ip] | rw [In] | rw [Fz] | rw [Gz] | fail) <;> first | simp [ew_, nw_, s_] | simp [s_] | skip)
    by_cases r2 : 256 ≤ (findB K.l to).1.l.length
    · rw [if_pos ⟨r1, r2⟩]
      rcases q4' with q4 | ⟨q4, q7, rfl⟩
      · refine Pm Tryz.func149 fun hfit => ?_
        simp [Tryz.f149]
        have s_ := And.intro @q1 (And.intro @q2 (And.intro @q3 (And.intro @q4 (And.intro @q6 (And.intro @q9 (And.intro @r1 (And.intro @r2 (And.intro @firstS.eq_1 (And.intro @firstS.eq_2 (And.intro @setF_enc (And.intro @setN_enc (@setN4_enc))))))))))))
        try simp [s_]
        repeat' ((first | ((first | refine Tp ?_ | refine Tn ?_ | refine T2 ?_ ?_) <;> intro hw_ ew_ nw_) | refine Pg h1 ?_ | refine Pg h2 ?_ | refine Pg h3 ?_ | refine Lg h4 ?_ | refine Sg h4 ?_ | refine Pg h6 ?_ | refine Pg h7 ?_ | refine Pg h14 ?_ | refine Pg h8 ?_ | rw [Ip] | rw [In] | rw [Fz] | rw [Gz] | fail) <;> first | simp [ew_, nw_, s_] | simp [s_] | skip)
      · refine Pm Tryz.func149 fun hfit => ?_
        simp [Tryz.f149]
        have s_ := And.intro @q1 (And.intro @q2 (And.intro @q3 (And.intro @q4 (And.intro @q6 (And.intro @q7 (And.intro @q9 (And.intro @r1 (And.intro @r2 (And.intro @firstS.eq_1 (And.intro @firstS.eq_2 (And.intro @setF_enc (And.intro @setN_enc (@setN4_enc)))))))))))))
        try simp [s_]
        repeat' ((first | ((first | refine Tp ?_ | refine Tn ?_ | refine T2 ?_ ?_) <;> intro hw_ ew_ nw_) | refine Pg h1 ?_ | refine Pg h2 ?_ | refine Pg h3 ?_ | refine Lg h4 ?_ | refine Sg h4 ?_ | refine Pg h5 ?_ | refine Pg h6 ?_ | refine Pg h7 ?_ | refine Pg h14 ?_ | refine Pg h8 ?_ | rw [Ip] | rw [In] | rw [Fz] | rw [Gz] | fail) <;> first | simp [ew_, nw_, s_] | simp [s_] | skip)
    · rw [if_neg (fun k => r2 k.2)]
      rcases q4' with q4 | ⟨q4, q7, rfl⟩
      · refine Pm Tryz.func149 fun hfit => ?_
        simp [Tryz.f149]
        have s_ := And.intro @q1 (And.intro @q2 (And.intro @q3 (And.intro @q4 (And.intro @q6 (And.intro @q9 (And.intro @r1 (And.intro @r2 (And.intro @firstS.eq_1 (And.intro @firstS.eq_2 (And.intro @setF_enc (And.intro @setN_enc (@setN4_enc))))))))))))
        try simp [s_]
        repeat' ((first | ((first | refine Tp ?_ | refine Tn ?_ | refine T2 ?_ ?_) <;> intro hw_ ew_ nw_) | refine Pg h1 ?_ | refine Pg h2 ?_ | refine Pg h3 ?_ | refine Lg h4 ?_ | refine Sg h4 ?_ | refine Pg h6 ?_ | refine Pg h7 ?_ | refine Pg h14 ?_ | refine Pg h8 ?_ | refine Pg h9 ?_ | refine Pg h10 ?_ | refine Pg h11 ?_ | refine Pg h12 ?_ | refine Pg h13 ?_ | rw [Ip] | rw [In] | rw [Fz] | rw [Gz] | fail) <;> first | simp [ew_, nw_, s_] | simp [s_] | skip)
      · refine Pm Tryz.func149 fun hfit => ?_
        simp [Tryz.f149]
        have s_ := And.intro @q1 (And.intro @q2 (And.intro @q3 (And.intro @q4 (And.intro @q6 (And.intro @q7 (And.intro @q9 (And.intro @r1 (And.intro @r2 (And.intro @firstS.eq_1 (And.intro @firstS.eq_2 (And.intro @setF_enc (And.intro @setN_enc (@setN4_enc)))))))))))))
        try simp [s_]
        repeat' ((first | ((first | refine Tp ?_ | refine Tn ?_ | refine T2 ?_ ?_) <;> intro hw_ ew_ nw_) | refine Pg h1 ?_ | refine Pg h2 ?_ | refine Pg h3 ?_ | refine Lg h4 ?_ | refine Sg h4 ?_ | refine Pg h5 ?_ | refine Pg h6 ?_ | refine Pg h7 ?_ | refine Pg h14 ?_ | refine Pg h8 ?_ | refine Pg h9 ?_ | refine Pg h10 ?_ | refine Pg h11 ?_ | refine Pg h12 ?_ | refine Pg h13 ?_ | rw [Ip] | rw [In] | rw [Fz] | rw [Gz] | fail) <;> first | simp [ew_, nw_, s_] | simp [s_] | skip)
  · have e14 : clearD f to t = f := by unfold clearD; rw [if_neg q9]
    rw [e14] at h8 h9 h10 h11 h12 h13 ⊢
    clear e11 e13 e14 hC
    generalize enteredD (leftD f dir s) to t (lookD f dir s).1.ino = R at *
    generalize leftD f dir s = M at *
    generalize belowD f to (lookD f dir s).1.ino = bl at *
    generalize lookD f dir s = L at *
    generalize lookD f to t = O at *
    generalize dirD f to = D at *
    by_cases r1 : dir = to
    · rw [if_neg (fun k => k.1 r1)]
      subst r1
      rcases q4' with q4 | ⟨q4, q7, rfl⟩
      · refine Pm Tryz.func149 fun hfit => ?_
        simp [Tryz.f149]
        have s_ := And.intro @q1 (And.intro @q2 (And.intro @q3 (And.intro @q4 (And.intro @q9 (And.intro @firstS.eq_1 (And.intro @firstS.eq_2 (And.intro @setF_enc (And.intro @setN_enc (@setN4_enc)))))))))
        try simp [s_]
        repeat' ((first | ((first | refine Tp ?_ | refine Tn ?_ | refine T2 ?_ ?_) <;> intro hw_ ew_ nw_) | refine Pg h1 ?_ | refine Pg h2 ?_ | refine Pg h3 ?_ | refine Lg h4 ?_ | refine Sg h4 ?_ | refine Pg h6 ?_ | refine Pg h8 ?_ | refine Pg h9 ?_ | refine Pg h10 ?_ | refine Pg h11 ?_ | refine Pg h12 ?_ | refine Pg h13 ?_ | rw [Ip] | rw [In] | rw [Fz] | rw [Gz] | fail) <;> first | simp [ew_, nw_, s_] | simp [s_] | skip)
      · refine Pm Tryz.func149 fun hfit => ?_
        simp [Tryz.f149]
        have s_ := And.intro @q1 (And.intro @q2 (And.intro @q3 (And.intro @q4 (And.intro @q7 (And.intro @q9 (And.intro @firstS.eq_1 (And.intro @firstS.eq_2 (And.intro @setF_enc (And.intro @setN_enc (@setN4_enc))))))))))
        try simp [s_]
        repeat' ((first | ((first | refine Tp ?_ | refine Tn ?_ | refine T2 ?_ ?_) <;> intro hw_ ew_ nw_) | refine Pg h1 ?_ | refine Pg h2 ?_ | refine Pg h3 ?_ | refine Lg h4 ?_ | refine Sg h4 ?_ | refine Pg h5 ?_ | refine Pg h6 ?_ | refine Pg h8 ?_ | refine Pg h9 ?_ | refine Pg h10 ?_ | refine Pg h11 ?_ | refine Pg h12 ?_ | refine Pg h13 ?_ | rw [Ip] | rw [In] | rw [Fz] | rw [Gz] | fail) <;> first | simp [ew_, nw_, s_] | simp [s_] | skip)
    by_cases r2 : 256 ≤ (findB f.l to).1.l.length
    · rw [if_pos ⟨r1, r2⟩]
      rcases q4' with q4 | ⟨q4, q7, rfl⟩
      · refine Pm Tryz.func149 fun hfit => ?_
        simp [Tryz.f149]
        have s_ := And.intro @q1 (And.intro @q2 (And.intro @q3 (And.intro @q4 (And.intro @q9 (And.intro @r1 (And.intro @r2 (And.intro @firstS.eq_1 (And.intro @firstS.eq_2 (And.intro @setF_enc (And.intro @setN_enc (@setN4_enc)))))))))))
        try simp [s_]
        repeat' ((first | ((first | refine Tp ?_ | refine Tn ?_ | refine T2 ?_ ?_) <;> intro hw_ ew_ nw_) | refine Pg h1 ?_ | refine Pg h2 ?_ | refine Pg h3 ?_ | refine Lg h4 ?_ | refine Sg h4 ?_ | refine Pg h6 ?_ | refine Pg h8 ?_ | rw [Ip] | rw [In] | rw [Fz] | rw [Gz] | fail) <;> first | simp [ew_, nw_, s_] | simp [s_] | skip)
      · refine Pm Tryz.func149 fun hfit => ?_
        simp [Tryz.f149]
        have s_ := And.intro @q1 (And.intro @q2 (And.intro @q3 (And.intro @q4 (And.intro @q7 (And.intro @q9 (And.intro @r1 (And.intro @r2 (And.intro @firstS.eq_1 (And.intro @firstS.eq_2 (And.intro @setF_enc (And.intro @setN_enc (@setN4_enc))))))))))))
        try simp [s_]
        repeat' ((first | ((first | refine Tp ?_ | refine Tn ?_ | refine T2 ?_ ?_) <;> intro hw_ ew_ nw_) | refine Pg h1 ?_ | refine Pg h2 ?_ | refine Pg h3 ?_ | refine Lg h4 ?_ | refine Sg h4 ?_ | refine Pg h5 ?_ | refine Pg h6 ?_ | refine Pg h8 ?_ | rw [Ip] | rw [In] | rw [Fz] | rw [Gz] | fail) <;> first | simp [ew_, nw_, s_] | simp [s_] | skip)
    · rw [if_neg (fun k => r2 k.2)]
      rcases q4' with q4 | ⟨q4, q7, rfl⟩
      · refine Pm Tryz.func149 fun hfit => ?_
        simp [Tryz.f149]
        have s_ := And.intro @q1 (And.intro @q2 (And.intro @q3 (And.intro @q4 (And.intro @q9 (And.intro @r1 (And.intro @r2 (And.intro @firstS.eq_1 (And.intro @firstS.eq_2 (And.intro @setF_enc (And.intro @setN_enc (@setN4_enc)))))))))))
        try simp [s_]
        repeat' ((first | ((first | refine Tp ?_ | refine Tn ?_ | refine T2 ?_ ?_) <;> intro hw_ ew_ nw_) | refine Pg h1 ?_ | refine Pg h2 ?_ | refine Pg h3 ?_ | refine Lg h4 ?_ | refine Sg h4 ?_ | refine Pg h6 ?_ | refine Pg h8 ?_ | refine Pg h9 ?_ | refine Pg h10 ?_ | refine Pg h11 ?_ | refine Pg h12 ?_ | refine Pg h13 ?_ | rw [Ip] | rw [In] | rw [Fz] | rw [Gz] | fail) <;> first | simp [ew_, nw_, s_] | simp [s_] | skip)
      · refine Pm Tryz.func149 fun hfit => ?_
        simp [Tryz.f149]
        have s_ := And.intro @q1 (And.intro @q2 (And.intro @q3 (And.intro @q4 (And.intro @q7 (And.intro @q9 (And.intro @r1 (And.intro @r2 (And.intro @firstS.eq_1 (And.intro @firstS.eq_2 (And.intro @setF_enc (And.intro @setN_enc (@setN4_enc))))))))))))
        try simp [s_]
        repeat' ((first | ((first | refine Tp ?_ | refine Tn ?_ | refine T2 ?_ ?_) <;> intro hw_ ew_ nw_) | refine Pg h1 ?_ | refine Pg h2 ?_ | refine Pg h3 ?_ | refine Lg h4 ?_ | refine Sg h4 ?_ | refine Pg h5 ?_ | refine Pg h6 ?_ | refine Pg h8 ?_ | refine Pg h9 ?_ | refine Pg h10 ?_ | refine Pg h11 ?_ | refine Pg h12 ?_ | refine Pg h13 ?_ | rw [Ip] | rw [In] | rw [Fz] | rw [Gz] | fail) <;> first | simp [ew_, nw_, s_] | simp [s_] | skip)
end Go.Proofs.YtdnfnddlciafmaaGreat
