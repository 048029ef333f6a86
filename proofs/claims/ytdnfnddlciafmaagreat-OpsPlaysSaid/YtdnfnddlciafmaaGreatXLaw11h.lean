import Derived.Test.YtdnfnddlciafmaaGreatXLaw11d
import Derived.Test.YtdnfnddlciafmaaGreatXOpZc
set_option linter.unusedVariables false
set_option linter.unusedSimpArgs false
namespace Go.Proofs.YtdnfnddlciafmaaGreat
open Go.Cx Tab
set_option maxHeartbeats 400000
set_option maxRecDepth 40000
theorem law_plays (w : OpsPlaysInR) (hwf : w.wf) : PCall Tryz.prog 10 [.agg w.enc] (B true) := by
  obtain ⟨f, l, g, next⟩ := w
  obtain ⟨_, hw, _, hnx⟩ := hwf
  simp only at hw hnx
  have h0 := shown11_ok
  have h1 := few11_ok f
  have h2 := small_ok l
  have h3 := few_ok g
  have h4 := rrows_ok g
  cases q1 : fewOk f with
  | false =>
    rw [q1] at h1
    refine Pm Tryz.func10 fun hfit => ?_
    simp [Tryz.f10]
    try simp
    repeat' ((first | ((first | refine Tp ?_ | refine Tn ?_ | refine T2 ?_ ?_) <;> intro hw_ ew_ nw_) | refine Pg h0 ?_ | refine Pg h1 ?_ | refine Dg 14 16 [] [] ?_ | rw [Ip] | rw [In] | rw [Fz] | rw [Gz] | fail) <;> first | simp [ew_, nw_] | simp | skip)
  | true =>
  rw [q1] at h1
  cases q2 : smallS l with
  | false =>
    rw [q2] at h2
    refine Pm Tryz.func10 fun hfit => ?_
    simp [Tryz.f10]
    try simp
    repeat' ((first | ((first | refine Tp ?_ | refine Tn ?_ | refine T2 ?_ ?_) <;> intro hw_ ew_ nw_) | refine Pg h0 ?_ | refine Pg h1 ?_ | refine Pg h2 ?_ | refine Dg 14 16 [] [] ?_ | rw [Ip] | rw [In] | rw [Fz] | rw [Gz] | fail) <;> first | simp [ew_, nw_] | simp | skip)
  | true =>
  rw [q2] at h2
  cases q3 : fewS g with
  | false =>
    rw [q3] at h3
    refine Pm Tryz.func10 fun hfit => ?_
    simp [Tryz.f10]
    try simp
    repeat' ((first | ((first | refine Tp ?_ | refine Tn ?_ | refine T2 ?_ ?_) <;> intro hw_ ew_ nw_) | refine Pg h0 ?_ | refine Pg h1 ?_ | refine Pg h2 ?_ | refine Pg h3 ?_ | refine Dg 14 16 [] [] ?_ | rw [Ip] | rw [In] | rw [Fz] | rw [Gz] | fail) <;> first | simp [ew_, nw_] | simp | skip)
  | true =>
  rw [q3] at h3
  cases q4 : rowsOk g with
  | false =>
    rw [q4] at h4
    refine Pm Tryz.func10 fun hfit => ?_
    simp [Tryz.f10]
    try simp
    repeat' ((first | ((first | refine Tp ?_ | refine Tn ?_ | refine T2 ?_ ?_) <;> intro hw_ ew_ nw_) | refine Pg h0 ?_ | refine Pg h1 ?_ | refine Pg h2 ?_ | refine Pg h3 ?_ | refine Pg h4 ?_ | refine Dg 14 16 [] [] ?_ | rw [Ip] | rw [In] | rw [Fz] | rw [Gz] | fail) <;> first | simp [ew_, nw_] | simp | skip)
  | true =>
  rw [q4] at h4
  have G := (rows_iff g).1 q4
  obtain ⟨R, P, hfn, _⟩ := few_right q1
  by_cases q5 : 1152921504606846976 ≤ g.next
  · refine Pm Tryz.func10 fun hfit => ?_
    simp [Tryz.f10]
    have s_ := And.intro @q5 (@FSR.enc.eq_1)
    try simp [s_]
    repeat' ((first | ((first | refine Tp ?_ | refine Tn ?_ | refine T2 ?_ ?_) <;> intro hw_ ew_ nw_) | refine Pg h0 ?_ | refine Pg h1 ?_ | refine Pg h2 ?_ | refine Pg h3 ?_ | refine Pg h4 ?_ | refine Dg 14 16 [] [] ?_ | rw [Ip] | rw [In] | rw [Fz] | rw [Gz] | fail) <;> first | simp [ew_, nw_, s_] | simp [s_] | skip)
  have hll := smallS_len q2
  have hfl := R.len
  have hgl := G.len
  obtain ⟨kr, kp, _, _⟩ := play_kept l f R P
  have hkl := kr.len
  have d1 := play_ok f l (by omega) (playOk_of l f R P (by omega) hw)
  have d2 := rplay_ok f l R P (by omega) hw (by omega)
  have c1 := changes_ok f g (by omega) (by omega)
  have c2 := rchanges_ok f g R G
  have hcl := changes_len f g (by omega) (by omega)
  have hci := changes_in G (f := f) (by omega)
  have a1 := apply_ok (playS f l).1 (changesS f g) next (by omega) hcl hci
  have a2 := rapply_ok (playS f l).1 (changesS f g) next kr.rise (by omega) hcl hci
  have s1 := rsame08_ok (playS f l).1 (playS f l).1
  have s2 := all_ok (playS f l).2 (playS f l).2
  have s3 := rturns_ok (changesS f g) (changesS f g)
  have s4 := rsame08_ok (applyS (playS f l).1 (changesS f g) next) (applyS (playS f l).1 (changesS f g) next)
  simp only [decide_true] at s1 s2 s3 s4
  clear hcl hci kr kp
  generalize applyS (playS f l).1 (changesS f g) next = K at *
  generalize playS f l = X at *
  generalize changesS f g = C at *
  refine Pm Tryz.func10 fun hfit => ?_
  simp [Tryz.f10]
  have s_ := And.intro @q5 (@FSR.enc.eq_1)
  try simp [s_]
  repeat' ((first | ((first | refine Tp ?_ | refine Tn ?_ | refine T2 ?_ ?_) <;> intro hw_ ew_ nw_) | refine Pg h0 ?_ | refine Pg h1 ?_ | refine Pg h2 ?_ | refine Pg h3 ?_ | refine Pg h4 ?_ | refine Pg d1 ?_ | refine Pg d2 ?_ | refine Pg c1 ?_ | refine Pg c2 ?_ | refine Pg a1 ?_ | refine Pg a2 ?_ | refine Pg s1 ?_ | refine Pg s2 ?_ | refine Pg s3 ?_ | refine Pg s4 ?_ | refine Dg 14 16 [] [] ?_ | rw [Ip] | rw [In] | rw [Fz] | rw [Gz] | fail) <;> first | simp [ew_, nw_, s_] | simp [s_] | skip)
end Go.Proofs.YtdnfnddlciafmaaGreat
