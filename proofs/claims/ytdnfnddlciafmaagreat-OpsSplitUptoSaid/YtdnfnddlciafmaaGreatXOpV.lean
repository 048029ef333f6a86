import Derived.Test.YtdnfnddlciafmaaGreatXOpU
set_option linter.unusedVariables false
set_option linter.unusedSimpArgs false
namespace Go.Proofs.YtdnfnddlciafmaaGreat
open Go.Cx Tab
set_option maxHeartbeats 400000
set_option maxRecDepth 40000
theorem rright08_ok (f : FSR) : PCall Tryz.prog 24 [encF f] (B (rightF f)) := by
  have h1 := rrows_ok f
  cases hrow : rowsOk f with
  | false =>
    rw [hrow] at h1
    have e : rightF f = false := by simp [rightF, hrow]
    rw [e]
    refine Pm Tryz.func24 fun hfit => ?_
    simp [Tryz.f24, FSR.enc]
    have s_ := @FSR.enc.eq_1
    try simp [s_]
    repeat' ((first | ((first | refine Tp ?_ | refine Tn ?_ | refine T2 ?_ ?_) <;> intro hw_ ew_ nw_) | refine Pg h1 ?_ | refine Dg 9 7 [] [] ?_ | rw [Ip] | rw [In] | rw [Fz] | rw [Gz] | fail) <;> first | simp [ew_, nw_, s_] | simp [s_] | skip)
  | true =>
  rw [hrow] at h1
  have R := (rows_iff f).1 hrow
  have hlen := R.len
  cases hh : headF f.l with
  | false =>
    have e : rightF f = false := by simp [rightF, hh]
    rw [e]
    by_cases q0 : f.l.length < 1
    · have q0' : f.l.length = 0 := by omega
      refine Pm Tryz.func24 fun hfit => ?_
      simp [Tryz.f24, FSR.enc]
      have s_ := And.intro @q0 (And.intro @q0' (@FSR.enc.eq_1))
      try simp [s_]
      repeat' ((first | ((first | refine Tp ?_ | refine Tn ?_ | refine T2 ?_ ?_) <;> intro hw_ ew_ nw_) | refine Pg h1 ?_ | refine Dg 9 7 [] [] ?_ | rw [Ip] | rw [In] | rw [Fz] | rw [Gz] | fail) <;> first | simp [ew_, nw_, s_] | simp [s_] | skip)
    have q1 : 0 < f.l.length := by omega
    have hd : headF f.l = (decide (f.l[0].ino = 1) && decide (f.l[0].kind = 2) && decide (f.l[0].links = 0)) := by
      have : ∀ (l : List NodeR) (h : 0 < l.length), headF l = (decide (l[0].ino = 1) && decide (l[0].kind = 2) && decide (l[0].links = 0)) := fun l h => by
        cases l with
        | nil => simp at h
        | cons r l => rfl
      exact this f.l q1
    rw [hd] at hh
    by_cases q2 : f.l[0].ino = 1
    case neg =>
      refine Pm Tryz.func24 fun hfit => ?_
      simp [Tryz.f24, FSR.enc]
      have s_ := And.intro @q0 (And.intro @q1 (And.intro @q2 (@FSR.enc.eq_1)))
      try simp [s_]
      repeat' ((first | ((first | refine Tp ?_ | refine Tn ?_ | refine T2 ?_ ?_) <;> intro hw_ ew_ nw_) | refine Pg h1 ?_ | refine Dg 9 7 [] [] ?_ | rw [Ip] | rw [In] | rw [Fz] | rw [Gz] | fail) <;> first | simp [ew_, nw_, s_] | simp [s_] | skip)
    by_cases q3 : f.l[0].kind = 2
    case neg =>
      refine Pm Tryz.func24 fun hfit => ?_
      simp [Tryz.f24, FSR.enc]
      have s_ := And.intro @q0 (And.intro @q1 (And.intro @q2 (And.intro @q3 (@FSR.enc.eq_1))))
      try simp [s_]
      repeat' ((first | ((first | refine Tp ?_ | refine Tn ?_ | refine T2 ?_ ?_) <;> intro hw_ ew_ nw_) | refine Pg h1 ?_ | refine Dg 9 7 [] [] ?_ | rw [Ip] | rw [In] | rw [Fz] | rw [Gz] | fail) <;> first | simp [ew_, nw_, s_] | simp [s_] | skip)
    by_cases q4 : f.l[0].links = 0
    case neg =>
      refine Pm Tryz.func24 fun hfit => ?_
      simp [Tryz.f24, FSR.enc]
      have s_ := And.intro @q0 (And.intro @q1 (And.intro @q2 (And.intro @q3 (And.intro @q4 (@FSR.enc.eq_1)))))
      try simp [s_]
      repeat' ((first | ((first | refine Tp ?_ | refine Tn ?_ | refine T2 ?_ ?_) <;> intro hw_ ew_ nw_) | refine Pg h1 ?_ | refine Dg 9 7 [] [] ?_ | rw [Ip] | rw [In] | rw [Fz] | rw [Gz] | fail) <;> first | simp [ew_, nw_, s_] | simp [s_] | skip)
    simp [q2, q3, q4] at hh
  | true =>
  have hE : ∀ n ∈ f.l, n.l.length ≤ 256 := fun n hn => ((rowOk_iff _).1 ((nodeOk_iff n).1 (R.ok n hn)).row).len
  have hiff := rightF_iff f R hh
  have hhd : ∃ h : 0 < f.l.length, f.l[0].ino = 1 ∧ f.l[0].kind = 2 ∧ f.l[0].links = 0 := by
    have : ∀ (l : List NodeR), headF l = true → ∃ h : 0 < l.length, l[0].ino = 1 ∧ l[0].kind = 2 ∧ l[0].links = 0 := fun l h => by
      cases l with
      | nil => simp at h
      | cons r l =>
        simp only [headF_cons, Bool.and_eq_true, decide_eq_true_eq] at h
        exact ⟨by simp, h.1.1, h.1.2, h.2⟩
    exact this f.l hh
  obtain ⟨q1, q2, q3, q4⟩ := hhd
  have q0 : ¬ f.l.length < 1 := by omega
  have h2 := under08_ok f 1 R.rise R.len hE
  have hak := allKids_le hE
  have hbl := belowL_len f.l 1
  have hnm := fun k => rnames08_ok f k R.len hE
  have hfd := fun k => rfind08_ok f k R.rise (by omega)
  have bad : ∀ (i : Nat) (hi : i < f.l.length), ¬ GoodN f.l i f.l[i] → rightF f = false := fun i hi hb => by
    cases hr : rightF f with
    | false => rfl
    | true => exact absurd (hiff.1 hr i hi) hb
  have good := hiff.2
  clear hiff R hrow hh
  obtain ⟨l, next⟩ := f
  simp only at *
  generalize rightF ⟨l, next⟩ = rf at *
  refine Pm Tryz.func24 fun hfit => ?_
  simp [Tryz.f24, FSR.enc]
  have s_ := And.intro @q0 (And.intro @q1 (And.intro @q2 (And.intro @q3 (And.intro @q4 (@FSR.enc.eq_1)))))
  try simp [s_]
  repeat' ((first | ((first | refine Tp ?_ | refine Tn ?_ | refine T2 ?_ ?_) <;> intro hw_ ew_ nw_) | refine Pg h1 ?_ | refine Pg h2 ?_ | refine Dg 9 7 [] [] ?_ | rw [Ip] | rw [In] | rw [Fz] | rw [Gz] | fail) <;> first | simp [ew_, nw_, s_] | simp [s_] | skip)
  refine AW.loopG (lit := fun _ => false) (fun i : Nat => ⟨111, pat [(1, .ptr 0 0 0), (4, enc1 I (belowL l 1)), (5, I i)], [.cells 0 [encL NodeR.enc l, I next]]⟩) (fun i => l.length - i) (fun i => i ≤ l.length ∧ ∀ j (h : j < l.length), j < i → GoodN l j l[j]) 0 ?_ ?_ ?_
  · exact Wa
  · simp
  rintro i ⟨g1, g2⟩ A hA
  by_cases hi : i < l.length
  case neg =>
    have e : rf = true := good fun j h => g2 j h (by omega)
    subst e
    have s_ := hi
    try simp [s_]
    repeat' ((first | ((first | refine Tp ?_ | refine Tn ?_ | refine T2 ?_ ?_) <;> intro hw_ ew_ nw_) | refine Dg 9 7 [] [] ?_ | rw [Ip] | rw [In] | rw [Fz] | rw [Gz] | fail) <;> first | simp [ew_, nw_, s_] | simp [s_] | skip)
  have hwi := wrap_nat hi (by simp only [maxLen]; omega)
  have hb := bad i hi
  have c1 := hnm l[i].ino
  have c2 := has_ok (belowL l 1) l[i].ino (by omega)
  by_cases r1 : l[i].links = ((allKids l).count l[i].ino : Nat)
  case neg =>
    have e : rf = false := hb fun g => r1 g.links
    subst e
    have s_ := And.intro @hi (And.intro @r1 (@FSR.enc.eq_1))
    try simp [s_]
    repeat' ((first | ((first | refine Tp ?_ | refine Tn ?_ | refine T2 ?_ ?_) <;> intro hw_ ew_ nw_) | refine Pg c1 ?_ | refine Dg 9 7 [] [] ?_ | rw [Ip] | rw [In] | rw [Fz] | rw [Gz] | fail) <;> first | simp [ew_, nw_, s_] | simp [s_] | skip)
  by_cases r2 : badN l i l[i]
  · have e : rf = false := hb fun g => g.not r2
    subst e
    obtain ⟨r2, r3⟩ := r2
    by_cases p1 : l[i].links < 1
    · by_cases mb : l[i].ino ∈ belowL l 1
      · rw [show decide (l[i].ino ∈ belowL l 1) = true from decide_eq_true mb] at c2
        have s_ := And.intro @hi (And.intro @r1 (And.intro @r2 (And.intro @p1 (@FSR.enc.eq_1))))
        try simp [s_]
        repeat' ((first | ((first | refine Tp ?_ | refine Tn ?_ | refine T2 ?_ ?_) <;> intro hw_ ew_ nw_) | refine Pg c1 ?_ | refine Pg c2 ?_ | refine Dg 9 7 [] [] ?_ | rw [Ip] | rw [In] | rw [Fz] | rw [Gz] | fail) <;> first | simp [ew_, nw_, s_] | simp [s_] | skip)
      · rw [show decide (l[i].ino ∈ belowL l 1) = false from decide_eq_false mb] at c2
        have s_ := And.intro @hi (And.intro @r1 (And.intro @r2 (And.intro @p1 (@FSR.enc.eq_1))))
        try simp [s_]
        repeat' ((first | ((first | refine Tp ?_ | refine Tn ?_ | refine T2 ?_ ?_) <;> intro hw_ ew_ nw_) | refine Pg c1 ?_ | refine Pg c2 ?_ | refine Dg 9 7 [] [] ?_ | rw [Ip] | rw [In] | rw [Fz] | rw [Gz] | fail) <;> first | simp [ew_, nw_, s_] | simp [s_] | skip)
    obtain ⟨p2, p3⟩ := r3.resolve_left p1
    by_cases p4 : 1 < l[i].links
    · by_cases mb : l[i].ino ∈ belowL l 1
      · rw [show decide (l[i].ino ∈ belowL l 1) = true from decide_eq_true mb] at c2
        have s_ := And.intro @hi (And.intro @r1 (And.intro @r2 (And.intro @p1 (And.intro @p2 (And.intro @p4 (@FSR.enc.eq_1))))))
        try simp [s_]
        repeat' ((first | ((first | refine Tp ?_ | refine Tn ?_ | refine T2 ?_ ?_) <;> intro hw_ ew_ nw_) | refine Pg c1 ?_ | refine Pg c2 ?_ | refine Dg 9 7 [] [] ?_ | rw [Ip] | rw [In] | rw [Fz] | rw [Gz] | fail) <;> first | simp [ew_, nw_, s_] | simp [s_] | skip)
      · rw [show decide (l[i].ino ∈ belowL l 1) = false from decide_eq_false mb] at c2
        have s_ := And.intro @hi (And.intro @r1 (And.intro @r2 (And.intro @p1 (And.intro @p2 (And.intro @p4 (@FSR.enc.eq_1))))))
        try simp [s_]
        repeat' ((first | ((first | refine Tp ?_ | refine Tn ?_ | refine T2 ?_ ?_) <;> intro hw_ ew_ nw_) | refine Pg c1 ?_ | refine Pg c2 ?_ | refine Dg 9 7 [] [] ?_ | rw [Ip] | rw [In] | rw [Fz] | rw [Gz] | fail) <;> first | simp [ew_, nw_, s_] | simp [s_] | skip)
    · have mb := p3.resolve_left p4
      rw [show decide (l[i].ino ∈ belowL l 1) = false from decide_eq_false mb] at c2
      have s_ := And.intro @hi (And.intro @r1 (And.intro @r2 (And.intro @p1 (And.intro @p2 (And.intro @p4 (@FSR.enc.eq_1))))))
      try simp [s_]
      repeat' ((first | ((first | refine Tp ?_ | refine Tn ?_ | refine T2 ?_ ?_) <;> intro hw_ ew_ nw_) | refine Pg c1 ?_ | refine Pg c2 ?_ | refine Dg 9 7 [] [] ?_ | rw [Ip] | rw [In] | rw [Fz] | rw [Gz] | fail) <;> first | simp [ew_, nw_, s_] | simp [s_] | skip)
  by_cases p0 : 0 < i
  case neg =>
    have p0' : i = 0 := by omega
    generalize decide (l[i].ino ∈ belowL l 1) = bb at c2
    have s_ := And.intro @hi (And.intro @r1 (And.intro @p0 (@FSR.enc.eq_1)))
    try simp [s_]
    repeat' ((first | ((first | refine Tp ?_ | refine Tn ?_ | refine T2 ?_ ?_) <;> intro hw_ ew_ nw_) | refine Pg c1 ?_ | refine Pg c2 ?_ | refine Dg 9 7 [] [] ?_ | rw [Ip] | rw [In] | rw [Fz] | rw [Gz] | fail) <;> first | simp [ew_, nw_, s_] | simp [s_] | skip)
    refine AW.loopG (lit := fun _ => false) (fun j : Nat => ⟨111, pat [(1, .ptr 0 0 0), (4, enc1 I (belowL l 1)), (5, I i), (6, .ptr 1 0 0), (8, I j)], [.cells 0 [encL NodeR.enc l, I next], .cells 0 l[i].enc]⟩) (fun j => l[i].l.length - j) (fun j => j ≤ l[i].l.length ∧ ∀ q (h : q < l[i].l.length), q < j → (findB l l[i].l[q].ino).2 = true) 0 ?_ ?_ ?_
    · exact Wa
    · simp
    rintro j ⟨k1, k2⟩ A2 hA2
    by_cases hj : j < l[i].l.length
    case neg =>
      have gi : GoodN l i l[i] := ⟨r1, r2, fun x hx => by
        obtain ⟨q, hq, rfl⟩ := List.getElem_of_mem hx
        exact k2 q hq (by omega)⟩
      have g3 : ∀ q (h : q < l.length), q < i + 1 → GoodN l q l[q] := fun q h hq => by
        by_cases e : q = i
        · subst e; exact gi
        · exact g2 q h (by omega)
      have s_ := And.intro @hi (And.intro @hj (@hwi))
      try simp [s_]
      repeat' ((first | ((first | refine Tp ?_ | refine Tn ?_ | refine T2 ?_ ?_) <;> intro hw_ ew_ nw_) | (exact hA (i + 1) _ Wc ⟨hi, g3⟩ (by omega)) | refine Dg 9 7 [] [] ?_ | rw [Ip] | rw [In] | rw [Fz] | rw [Gz] | fail) <;> first | simp [ew_, nw_, s_] | simp [s_] | skip)
    have hei := hE l[i] (List.getElem_mem hi)
    have hwj := wrap_nat hj (by simp only [maxLen]; omega)
    have c3 : PCall Tryz.prog 25 [.agg [encL NodeR.enc l, I next], I l[i].l[j].ino] (.tup [encN (findB l l[i].l[j].ino).1, B (findB l l[i].l[j].ino).2]) := hfd l[i].l[j].ino
    cases hq : (findB l l[i].l[j].ino).2 with
    | false =>
      have e : rf = false := hb fun g => by
        have := g.kids l[i].l[j] (List.getElem_mem hj)
        rw [hq] at this; cases this
      subst e
      rw [hq] at c3
      have s_ := And.intro @hi (@hj)
      try simp [s_]
      repeat' ((first | ((first | refine Tp ?_ | refine Tn ?_ | refine T2 ?_ ?_) <;> intro hw_ ew_ nw_) | refine Pg c3 ?_ | refine AW.room (Dg 17 13 [2] [(11, .w)] ?_) | refine Dg 9 7 [] [] ?_ | rw [Ip] | rw [In] | rw [Fz] | rw [Gz] | fail) <;> first | simp [ew_, nw_, s_] | simp [s_] | skip)
    | true =>
      rw [hq] at c3
      have k3 : ∀ q (h : q < l[i].l.length), q < j + 1 → (findB l l[i].l[q].ino).2 = true := fun q h hqj => by
        by_cases e : q = j
        · subst e; exact hq
        · exact k2 q h (by omega)
      have s_ := And.intro @hi (And.intro @hj (@hwj))
      try simp [s_]
      repeat' ((first | ((first | refine Tp ?_ | refine Tn ?_ | refine T2 ?_ ?_) <;> intro hw_ ew_ nw_) | (exact hA2 (j + 1) _ Wc ⟨hj, k3⟩ (by omega)) | refine Pg c3 ?_ | refine AW.room (Dg 17 13 [2] [(11, .w)] ?_) | refine Dg 9 7 [] [] ?_ | rw [Ip] | rw [In] | rw [Fz] | rw [Gz] | fail) <;> first | simp [ew_, nw_, s_] | simp [s_] | skip)
  have p1 : ¬ l[i].links < 1 := fun e => r2 ⟨p0, .inl e⟩
  by_cases p2 : l[i].kind = 2
  case neg =>
    generalize decide (l[i].ino ∈ belowL l 1) = bb at c2
    have s_ := And.intro @hi (And.intro @r1 (And.intro @p0 (And.intro @p1 (And.intro @p2 (@FSR.enc.eq_1)))))
    try simp [s_]
    repeat' ((first | ((first | refine Tp ?_ | refine Tn ?_ | refine T2 ?_ ?_) <;> intro hw_ ew_ nw_) | refine Pg c1 ?_ | refine Pg c2 ?_ | refine Dg 9 7 [] [] ?_ | rw [Ip] | rw [In] | rw [Fz] | rw [Gz] | fail) <;> first | simp [ew_, nw_, s_] | simp [s_] | skip)
    refine AW.loopG (lit := fun _ => false) (fun j : Nat => ⟨111, pat [(1, .ptr 0 0 0), (4, enc1 I (belowL l 1)), (5, I i), (6, .ptr 1 0 0), (8, I j)], [.cells 0 [encL NodeR.enc l, I next], .cells 0 l[i].enc]⟩) (fun j => l[i].l.length - j) (fun j => j ≤ l[i].l.length ∧ ∀ q (h : q < l[i].l.length), q < j → (findB l l[i].l[q].ino).2 = true) 0 ?_ ?_ ?_
    · exact Wa
    · simp
    rintro j ⟨k1, k2⟩ A2 hA2
    by_cases hj : j < l[i].l.length
    case neg =>
      have gi : GoodN l i l[i] := ⟨r1, r2, fun x hx => by
        obtain ⟨q, hq, rfl⟩ := List.getElem_of_mem hx
        exact k2 q hq (by omega)⟩
      have g3 : ∀ q (h : q < l.length), q < i + 1 → GoodN l q l[q] := fun q h hq => by
        by_cases e : q = i
        · subst e; exact gi
        · exact g2 q h (by omega)
      have s_ := And.intro @hi (And.intro @hj (@hwi))
      try simp [s_]
      repeat' ((first | ((first | refine Tp ?_ | refine Tn ?_ | refine T2 ?_ ?_) <;> intro hw_ ew_ nw_) | (exact hA (i + 1) _ Wc ⟨hi, g3⟩ (by omega)) | refine Dg 9 7 [] [] ?_ | rw [Ip] | rw [In] | rw [Fz] | rw [Gz] | fail) <;> first | simp [ew_, nw_, s_] | simp [s_] | skip)
    have hei := hE l[i] (List.getElem_mem hi)
    have hwj := wrap_nat hj (by simp only [maxLen]; omega)
    have c3 : PCall Tryz.prog 25 [.agg [encL NodeR.enc l, I next], I l[i].l[j].ino] (.tup [encN (findB l l[i].l[j].ino).1, B (findB l l[i].l[j].ino).2]) := hfd l[i].l[j].ino
    cases hq : (findB l l[i].l[j].ino).2 with
    | false =>
      have e : rf = false := hb fun g => by
        have := g.kids l[i].l[j] (List.getElem_mem hj)
        rw [hq] at this; cases this
      subst e
      rw [hq] at c3
      have s_ := And.intro @hi (@hj)
      try simp [s_]
      repeat' ((first | ((first | refine Tp ?_ | refine Tn ?_ | refine T2 ?_ ?_) <;> intro hw_ ew_ nw_) | refine Pg c3 ?_ | refine AW.room (Dg 17 13 [2] [(11, .w)] ?_) | refine Dg 9 7 [] [] ?_ | rw [Ip] | rw [In] | rw [Fz] | rw [Gz] | fail) <;> first | simp [ew_, nw_, s_] | simp [s_] | skip)
    | true =>
      rw [hq] at c3
      have k3 : ∀ q (h : q < l[i].l.length), q < j + 1 → (findB l l[i].l[q].ino).2 = true := fun q h hqj => by
        by_cases e : q = j
        · subst e; exact hq
        · exact k2 q h (by omega)
      have s_ := And.intro @hi (And.intro @hj (@hwj))
      try simp [s_]
      repeat' ((first | ((first | refine Tp ?_ | refine Tn ?_ | refine T2 ?_ ?_) <;> intro hw_ ew_ nw_) | (exact hA2 (j + 1) _ Wc ⟨hj, k3⟩ (by omega)) | refine Pg c3 ?_ | refine AW.room (Dg 17 13 [2] [(11, .w)] ?_) | refine Dg 9 7 [] [] ?_ | rw [Ip] | rw [In] | rw [Fz] | rw [Gz] | fail) <;> first | simp [ew_, nw_, s_] | simp [s_] | skip)
  have p4 : ¬ 1 < l[i].links := fun e => r2 ⟨p0, .inr ⟨p2, .inl e⟩⟩
  have mb : l[i].ino ∈ belowL l 1 := Decidable.byContradiction fun e => r2 ⟨p0, .inr ⟨p2, .inr e⟩⟩
  rw [show decide (l[i].ino ∈ belowL l 1) = true from decide_eq_true mb] at c2
  have s_ := And.intro @hi (And.intro @r1 (And.intro @p0 (And.intro @p1 (And.intro @p2 (And.intro @p4 (@FSR.enc.eq_1))))))
  try simp [s_]
  repeat' ((first | ((first | refine Tp ?_ | refine Tn ?_ | refine T2 ?_ ?_) <;> intro hw_ ew_ nw_) | refine Pg c1 ?_ | refine Pg c2 ?_ | refine Dg 9 7 [] [] ?_ | rw [Ip] | rw [In] | rw [Fz] | rw [Gz] | fail) <;> first | simp [ew_, nw_, s_] | simp [s_] | skip)
  refine AW.loopG (lit := fun _ => false) (fun j : Nat => ⟨111, pat [(1, .ptr 0 0 0), (4, enc1 I (belowL l 1)), (5, I i), (6, .ptr 1 0 0), (8, I j)], [.cells 0 [encL NodeR.enc l, I next], .cells 0 l[i].enc]⟩) (fun j => l[i].l.length - j) (fun j => j ≤ l[i].l.length ∧ ∀ q (h : q < l[i].l.length), q < j → (findB l l[i].l[q].ino).2 = true) 0 ?_ ?_ ?_
  · exact Wa
  · simp
  rintro j ⟨k1, k2⟩ A2 hA2
  by_cases hj : j < l[i].l.length
  case neg =>
    have gi : GoodN l i l[i] := ⟨r1, r2, fun x hx => by
      obtain ⟨q, hq, rfl⟩ := List.getElem_of_mem hx
      exact k2 q hq (by omega)⟩
    have g3 : ∀ q (h : q < l.length), q < i + 1 → GoodN l q l[q] := fun q h hq => by
      by_cases e : q = i
      · subst e; exact gi
      · exact g2 q h (by omega)
    have s_ := And.intro @hi (And.intro @hj (@hwi))
    try simp [s_]
    repeat' ((first | ((first | refine Tp ?_ | refine Tn ?_ | refine T2 ?_ ?_) <;> intro hw_ ew_ nw_) | (exact hA (i + 1) _ Wc ⟨hi, g3⟩ (by omega)) | refine Dg 9 7 [] [] ?_ | rw [Ip] | rw [In] | rw [Fz] | rw [Gz] | fail) <;> first | simp [ew_, nw_, s_] | simp [s_] | skip)
  have hei := hE l[i] (List.getElem_mem hi)
  have hwj := wrap_nat hj (by simp only [maxLen]; omega)
  have c3 : PCall Tryz.prog 25 [.agg [encL NodeR.enc l, I next], I l[i].l[j].ino] (.tup [encN (findB l l[i].l[j].ino).1, B (findB l l[i].l[j].ino).2]) := hfd l[i].l[j].ino
  cases hq : (findB l l[i].l[j].ino).2 with
  | false =>
    have e : rf = false := hb fun g => by
      have := g.kids l[i].l[j] (List.getElem_mem hj)
      rw [hq] at this; cases this
    subst e
    rw [hq] at c3
    have s_ := And.intro @hi (@hj)
    try simp [s_]
    repeat' ((first | ((first | refine Tp ?_ | refine Tn ?_ | refine T2 ?_ ?_) <;> intro hw_ ew_ nw_) | refine Pg c3 ?_ | refine AW.room (Dg 17 13 [2] [(11, .w)] ?_) | refine Dg 9 7 [] [] ?_ | rw [Ip] | rw [In] | rw [Fz] | rw [Gz] | fail) <;> first | simp [ew_, nw_, s_] | simp [s_] | skip)
  | true =>
    rw [hq] at c3
    have k3 : ∀ q (h : q < l[i].l.length), q < j + 1 → (findB l l[i].l[q].ino).2 = true := fun q h hqj => by
      by_cases e : q = j
      · subst e; exact hq
      · exact k2 q h (by omega)
    have s_ := And.intro @hi (And.intro @hj (@hwj))
    try simp [s_]
    repeat' ((first | ((first | refine Tp ?_ | refine Tn ?_ | refine T2 ?_ ?_) <;> intro hw_ ew_ nw_) | (exact hA2 (j + 1) _ Wc ⟨hj, k3⟩ (by omega)) | refine Pg c3 ?_ | refine AW.room (Dg 17 13 [2] [(11, .w)] ?_) | refine Dg 9 7 [] [] ?_ | rw [Ip] | rw [In] | rw [Fz] | rw [Gz] | fail) <;> first | simp [ew_, nw_, s_] | simp [s_] | skip)
end Go.Proofs.YtdnfnddlciafmaaGreat
