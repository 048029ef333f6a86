import Derived.Test.YtdnfnddlciafmaaGreatXLaw11d
import Derived.Test.YtdnfnddlciafmaaGreatXOpZc
set_option linter.unusedVariables false
set_option linter.unusedSimpArgs false
namespace Go.Proofs.YtdnfnddlciafmaaGreat
open Go.Cx Tab
set_option maxHeartbeats 400000
set_option maxRecDepth 40000
abbrev nNew : NodeR := ⟨0, 1, 0, T [110, 101, 119], []⟩
theorem law_hangs (w : OpsHangsInR) (hwf : w.wf) : PCall Tryz.prog 5 [.agg w.enc] (B true) := by
  obtain ⟨f, c, dir, s⟩ := w
  obtain ⟨_, hc, hd, hs⟩ := hwf
  simp only at hc hd hs
  have h0 := shown11_ok
  have h1 := few11_ok f
  have h2 := small_ok [c]
  cases q1 : fewOk f with
  | false =>
    rw [q1] at h1
    refine Pm Tryz.func5 fun hfit => ?_
    simp [Tryz.f5]
    have s_ := @CallR.enc.eq_1
    try simp [s_]
    repeat' ((first | ((first | refine Tp ?_ | refine Tn ?_ | refine T2 ?_ ?_) <;> intro hw_ ew_ nw_) | (refine AW.room (AW.room (Dg 1 13 [1, 2] [(8, .r 1), (9, .r 2)] ?_)); simp) | refine Pg h0 ?_ | refine Pg h1 ?_ | refine Dg 13 15 [] [] ?_ | refine Dg 20 21 [] [] ?_ | rw [Ip] | rw [In] | rw [Fz] | rw [Gz] | fail) <;> first | simp [ew_, nw_, s_] | simp [s_] | skip)
  | true =>
  rw [q1] at h1
  cases q2 : smallS [c] with
  | false =>
    rw [q2] at h2
    refine Pm Tryz.func5 fun hfit => ?_
    simp [Tryz.f5]
    have s_ := @CallR.enc.eq_1
    try simp [s_]
    repeat' ((first | ((first | refine Tp ?_ | refine Tn ?_ | refine T2 ?_ ?_) <;> intro hw_ ew_ nw_) | (refine AW.room (AW.room (Dg 1 13 [1, 2] [(8, .r 1), (9, .r 2)] ?_)); simp) | refine Pg h0 ?_ | refine Pg h1 ?_ | refine Lg h2 ?_ | refine Sg h2 ?_ | refine Dg 13 15 [] [] ?_ | refine Dg 20 21 [] [] ?_ | rw [Ip] | rw [In] | rw [Fz] | rw [Gz] | fail) <;> first | simp [ew_, nw_, s_] | simp [s_] | skip)
  | true =>
  rw [q2] at h2
  by_cases qw : c.kind = 15 ∨ (6 ≤ c.kind ∧ c.kind ≤ 8) ∨ c.kind = 12 ∨ 100 < s.size
  · refine Pm Tryz.func5 fun hfit => ?_
    simp [Tryz.f5]
    have s_ := @CallR.enc.eq_1
    try simp [s_]
    repeat' ((first | ((first | refine Tp ?_ | refine Tn ?_ | refine T2 ?_ ?_) <;> intro hw_ ew_ nw_) | (refine AW.room (AW.room (Dg 1 13 [1, 2] [(8, .r 1), (9, .r 2)] ?_)); simp) | refine Pg h0 ?_ | refine Pg h1 ?_ | refine Lg h2 ?_ | refine Sg h2 ?_ | refine Dg 13 15 [] [] ?_ | refine Dg 20 21 [] [] ?_ | rw [Ip] | rw [In] | rw [Fz] | rw [Gz] | fail) <;> first | simp [ew_, nw_, s_] | simp [s_] | skip)
  obtain ⟨R, P, hnx, _⟩ := few_right q1
  have h3 := radd_ok f dir s nNew R (by omega)
  have h4 := rlooks_ok f c R
  have e2 : (⟨#[110, 101, 119]⟩ : ByteArray) = T [110, 101, 119] := rfl
  have en : encN nNew = .agg [I 0, I 1, I 0, S (T [110, 101, 119]), .sl false 0 []] := rfl
  rw [en] at h3
  generalize hA : addD f dir s nNew = A at *
  generalize hL : looksS f c = L at *
  refine Pm Tryz.func5 fun hfit => ?_
  simp [Tryz.f5]
  have s_ := And.intro @CallR.enc.eq_1 (@e2)
  try simp [s_]
  repeat' ((first | ((first | refine Tp ?_ | refine Tn ?_ | refine T2 ?_ ?_) <;> intro hw_ ew_ nw_) | (refine AW.room (AW.room (Dg 1 13 [1, 2] [(8, .r 1), (9, .r 2)] ?_)); simp) | refine Pg h0 ?_ | refine Pg h1 ?_ | refine Lg h2 ?_ | refine Sg h2 ?_ | refine Sg h3 ?_ | refine Pg h4 ?_ | refine Dg 13 15 [] [] ?_ | refine Dg 20 21 [] [] ?_ | rw [Ip] | rw [In] | rw [Fz] | rw [Gz] | fail) <;> first | simp [ew_, nw_, s_] | simp [s_] | skip)
  all_goals
    refine AW.loopG (lit := fun _ => false) (fun i : Nat => ⟨144, pat [(3, .ptr 1 1 0), (4, .ptr 2 1 0), (5, I dir), (6, S s), (7, B true), (10, .ptr 3 0 0), (11, .ptr 4 0 0), (12, I A.2), (13, enc1 I L), (14, I i)], [.cells 0 (OpsHangsInR.enc ⟨f, c, dir, s⟩), .cells 1 f.enc, .cells 1 c.enc, .cells 0 [I 0, I 1, I 0, S (T [110, 101, 119]), .sl true 0 []], .cells 0 A.1.enc]⟩) (fun i => L.length - i) (fun i => i ≤ L.length ∧ ∀ y ∈ L.take i, y ≠ dir ∧ y ≠ f.next) 0 ?_ ?_ ?_
    · exact Wk.at _ rfl (by simp [CallR.enc]) (by simp)
    · simp
    rintro i ⟨g1, g2⟩ B hB
    by_cases hi : i < L.length
    · have hwi := wrap_nat hi (by rw [← hL] at hi ⊢; have := looks_len f c; simp only [maxLen]; omega)
      by_cases k1 : L[i] = dir
      · have s_ := And.intro @hi (And.intro @k1 (@FSR.enc.eq_1))
        try simp [s_]
        repeat' ((first | ((first | refine Tp ?_ | refine Tn ?_ | refine T2 ?_ ?_) <;> intro hw_ ew_ nw_) | refine Dg 13 15 [] [] ?_ | refine Dg 20 21 [] [] ?_ | rw [Ip] | rw [In] | rw [Fz] | rw [Gz] | fail) <;> first | simp [ew_, nw_, s_] | simp [s_] | skip)
      by_cases k2 : L[i] = f.next
      · have s_ := And.intro @hi (And.intro @k1 (And.intro @k2 (@FSR.enc.eq_1)))
        try simp [s_]
        repeat' ((first | ((first | refine Tp ?_ | refine Tn ?_ | refine T2 ?_ ?_) <;> intro hw_ ew_ nw_) | refine Dg 13 15 [] [] ?_ | refine Dg 20 21 [] [] ?_ | rw [Ip] | rw [In] | rw [Fz] | rw [Gz] | fail) <;> first | simp [ew_, nw_, s_] | simp [s_] | skip)
      have g3 : ∀ y ∈ L.take (i + 1), y ≠ dir ∧ y ≠ f.next := fun y hy => by
        rw [List.take_succ_eq_append_getElem hi, List.mem_append, List.mem_singleton] at hy
        rcases hy with hy | rfl
        · exact g2 y hy
        · exact ⟨k1, k2⟩
      have s_ := And.intro @hi (And.intro @k1 (And.intro @k2 (And.intro @hwi (@FSR.enc.eq_1))))
      try simp [s_]
      repeat' ((first | ((first | refine Tp ?_ | refine Tn ?_ | refine T2 ?_ ?_) <;> intro hw_ ew_ nw_) | (exact hB (i + 1) _ (Wk.at _ rfl (by simp [FSR.enc]) (by simp)) ⟨hi, g3⟩ (by omega)) | refine Dg 13 15 [] [] ?_ | refine Dg 20 21 [] [] ?_ | rw [Ip] | rw [In] | rw [Fz] | rw [Gz] | fail) <;> first | simp [ew_, nw_, s_] | simp [s_] | skip)
    rw [List.take_of_length_le (by omega)] at g2
    by_cases z : A.2 = 0
    case neg =>
      have s_ := And.intro @hi (@z)
      try simp [s_]
      repeat' ((first | ((first | refine Tp ?_ | refine Tn ?_ | refine T2 ?_ ?_) <;> intro hw_ ew_ nw_) | refine Dg 13 15 [] [] ?_ | refine Dg 20 21 [] [] ?_ | rw [Ip] | rw [In] | rw [Fz] | rw [Gz] | fail) <;> first | simp [ew_, nw_, s_] | simp [s_] | skip)
    have z' : (addD f dir s nNew).2 = 0 := by rw [hA]; exact z
    have D := added R z'
    have TD := add_tree R P z'
    rw [hA] at D TD
    have dn := D.next
    obtain ⟨e5, e6, e7⟩ := do_hang R P z' (c := c) (by omega) (by rw [hL]; exact g2) (by omega) (by omega)
    rw [hA] at e5 e6 e7
    rw [hL] at e7
    have K := doS_kept R P c
    have kn := K.next
    have d1 := do_ok f c R (by omega) hc (calm_of R P c)
    have d2 := do_ok A.1 c D.rows (by omega) hc (calm_of D.rows TD c)
    have h5 := radd_ok (doS f c).1 dir s nNew K.rows (by omega)
    rw [en] at h5
    have l1 := looks_ok f c R
    have l2 := looks_ok A.1 c D.rows
    rw [hL] at l1
    rw [e7] at l2
    have s1 := rsame08_ok (addD (doS f c).1 dir s nNew).1 (addD (doS f c).1 dir s nNew).1
    have s2 := reply_ok (doS f c).2 (doS f c).2
    have s3 := rints_ok L L
    simp only [decide_true] at s1 s2 s3
    have e8 : doS A.1 c = ((addD (doS f c).1 dir s nNew).1, (doS f c).2) := Prod.ext e5 e6
    rw [e8] at d2
    clear e8 e5 e6 e7 K kn D TD
    generalize addD (doS f c).1 dir s nNew = M at *
    generalize doS f c = X at *
    have s_ := And.intro @hi (And.intro @z (@FSR.enc.eq_1))
    try simp [s_]
    repeat' ((first | ((first | refine Tp ?_ | refine Tn ?_ | refine T2 ?_ ?_) <;> intro hw_ ew_ nw_) | refine Pg d1 ?_ | refine Pg d2 ?_ | refine Sg h5 ?_ | refine Pg l1 ?_ | refine Pg l2 ?_ | refine Pg s1 ?_ | refine Pg s2 ?_ | refine Pg s3 ?_ | refine Dg 13 15 [] [] ?_ | refine Dg 20 21 [] [] ?_ | rw [Ip] | rw [In] | rw [Fz] | rw [Gz] | fail) <;> first | simp [ew_, nw_, s_] | simp [s_] | skip)
end Go.Proofs.YtdnfnddlciafmaaGreat
