import Derived.Test.YtdnfnddlciafmaaGreatXLaw11d
import Derived.Test.YtdnfnddlciafmaaGreatXOpZc
set_option linter.unusedVariables false
set_option linter.unusedSimpArgs false
namespace Go.Proofs.YtdnfnddlciafmaaGreat
open Go.Cx Tab
set_option maxHeartbeats 400000
set_option maxRecDepth 40000
theorem law_does (f : FSR) (c : CallR) (o : ReplyR) (hwf : c.wf) : PCall Tryz.prog 7 [encF f, encC c, encR o] (B true) := by
  have h0 := shown11_ok
  have h1 := few11_ok f
  have h2 := small_ok [c]
  cases q1 : fewOk f with
  | false =>
    rw [q1] at h1
    refine Pm Tryz.func7 fun hfit => ?_
    simp [Tryz.f7]
    try simp
    repeat' ((first | ((first | refine Tp ?_ | refine Tn ?_ | refine T2 ?_ ?_) <;> intro hw_ ew_ nw_) | refine Pg h0 ?_ | refine Pg h1 ?_ | refine Dg 7 18 [] [] ?_ | refine Dg 8 14 [] [] ?_ | rw [Ip] | rw [In] | rw [Fz] | rw [Gz] | fail) <;> first | simp [ew_, nw_] | simp | skip)
  | true =>
  rw [q1] at h1
  cases q2 : smallS [c] with
  | false =>
    rw [q2] at h2
    refine Pm Tryz.func7 fun hfit => ?_
    simp [Tryz.f7]
    try simp
    repeat' ((first | ((first | refine Tp ?_ | refine Tn ?_ | refine T2 ?_ ?_) <;> intro hw_ ew_ nw_) | refine Pg h0 ?_ | refine Pg h1 ?_ | refine Lg h2 ?_ | refine Sg h2 ?_ | refine Dg 7 18 [] [] ?_ | refine Dg 8 14 [] [] ?_ | rw [Ip] | rw [In] | rw [Fz] | rw [Gz] | fail) <;> first | simp [ew_, nw_] | simp | skip)
  | true =>
  rw [q2] at h2
  obtain ⟨R, T, hnx, _⟩ := few_right q1
  have d1 := do_ok f c R (by omega) hwf (calm_of R T c)
  have d2 := rdo_ok f c R T (by omega) hwf
  have h3 := rsame08_ok (doS f c).1 (doS f c).1
  have h4 := reply_ok (doS f c).2 (doS f c).2
  have h5 := opsSame_ok (doS f c).2 o
  have h6 := reply_ok (doS f c).2 o
  have h7 := looks_ok f c R
  have h8 := rlooks_ok f c R
  have h9 := rints_ok (looksS f c) (looksS f c)
  simp only [decide_true] at h3 h4 h9
  generalize decide ((doS f c).2 = o) = bo at *
  generalize doS f c = X at *
  generalize looksS f c = l at *
  refine Pm Tryz.func7 fun hfit => ?_
  simp [Tryz.f7]
  try simp
  repeat' ((first | ((first | refine Tp ?_ | refine Tn ?_ | refine T2 ?_ ?_) <;> intro hw_ ew_ nw_) | refine Pg h0 ?_ | refine Pg h1 ?_ | refine Lg h2 ?_ | refine Sg h2 ?_ | refine Pg d1 ?_ | refine Pg d2 ?_ | refine Pg h3 ?_ | refine Pg h4 ?_ | refine Pg h5 ?_ | refine Pg h6 ?_ | refine Pg h7 ?_ | refine Pg h8 ?_ | refine Pg h9 ?_ | refine Dg 7 18 [] [] ?_ | refine Dg 8 14 [] [] ?_ | rw [Ip] | rw [In] | rw [Fz] | rw [Gz] | fail) <;> first | simp [ew_, nw_] | simp | skip)
end Go.Proofs.YtdnfnddlciafmaaGreat
