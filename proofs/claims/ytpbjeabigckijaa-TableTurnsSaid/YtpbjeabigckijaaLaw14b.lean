/- The statements of layer 14 hold, part two: TableTurns. -/
import Derived.Test.YtpbjeabigckijaaLaw14
import Derived.Test.YtpbjeabigckijaaTabK
set_option linter.unusedVariables false
set_option linter.unusedSimpArgs false
namespace Go.Proofs.Ytpbjeabigckijaa
open Go.Cx Tab
set_option maxHeartbeats 400000
set_option maxRecDepth 40000

theorem law_turns (w : TableTurnsInR) : PCall Try.prog 7 [.agg w.enc] (B true) := by
  obtain ⟨l, c, e, n, yes, o⟩ := w
  have h0 := shown14_ok
  have h1 := few14_ok l
  have h1o := few14_ok o
  have h2 := rright14_ok l
  have h3 := right14_ok l
  generalize fewT l.length l = f1 at *
  generalize fewT o.length o = f2 at *
  cases hr : rightT l with
  | false =>
    rw [hr] at h2 h3
    refine PCall.mk (fun _ => false) Try.func7 rfl rfl rfl (Ent.mk Try.func7 (by kernel_rfl) rfl) (by simp) (by simp) fun hfit => ?_
    simp [Try.f7]
    try simp
    repeat' (first
      | ((first | refine Tst.go (fun hw_ ew_ => ?_) (fun hw_ ew_ => ?_)) <;> first | (exfalso; first | omega | with_reducible exact hw_ (by assumption) | with_reducible exact absurd hw_ (by assumption)) | (have nw_ := Nw.nw hw_; simp [ew_, nw_]) | simp [ew_])
      | ((first | (refine Pc.go (h0) ?_ ?_; focus (first | rfl | (simp; done))) | (refine Pc.go (h1) ?_ ?_; focus (first | rfl | (simp; done))) | (refine Pc.go (h1o) ?_ ?_; focus (first | rfl | (simp; done))) | (refine Pc.go (h2) ?_ ?_; focus (first | rfl | (simp; done))) | (refine Pc.go (h3) ?_ ?_; focus (first | rfl | (simp; done))) | rw [if_pos (by first | omega | (simp only [maxLen]; omega))] | rw [if_neg (by first | omega | (simp only [maxLen]; omega))] | rw [frzOwn_neat (by simp) (by simp <;> omega)] | rw [fzOwn_neat (by simp) (by simp <;> omega)]); try simp)
      | ((first | refine TstB.go (fun hw_ ew_ => ?_) (fun hw_ ew_ => ?_)) <;> first | (exfalso; first | omega | with_reducible exact hw_ (by assumption) | with_reducible exact absurd hw_ (by assumption)) | simp [ew_])
      | fail)
  | true =>
    rw [hr] at h2 h3
    have R := (rightT_iff l).1 hr
    have h4 := rright14_ok o
    cases hro : rightT o with
    | false =>
      rw [hro] at h4
      refine PCall.mk (fun _ => false) Try.func7 rfl rfl rfl (Ent.mk Try.func7 (by kernel_rfl) rfl) (by simp) (by simp) fun hfit => ?_
      simp [Try.f7]
      try simp
      repeat' (first
        | ((first | refine Tst.go (fun hw_ ew_ => ?_) (fun hw_ ew_ => ?_)) <;> first | (exfalso; first | omega | with_reducible exact hw_ (by assumption) | with_reducible exact absurd hw_ (by assumption)) | (have nw_ := Nw.nw hw_; simp [ew_, nw_]) | simp [ew_])
        | ((first | (refine Pc.go (h0) ?_ ?_; focus (first | rfl | (simp; done))) | (refine Pc.go (h1) ?_ ?_; focus (first | rfl | (simp; done))) | (refine Pc.go (h1o) ?_ ?_; focus (first | rfl | (simp; done))) | (refine Pc.go (h2) ?_ ?_; focus (first | rfl | (simp; done))) | (refine Pc.go (h3) ?_ ?_; focus (first | rfl | (simp; done))) | (refine Pc.go (h4) ?_ ?_; focus (first | rfl | (simp; done))) | rw [if_pos (by first | omega | (simp only [maxLen]; omega))] | rw [if_neg (by first | omega | (simp only [maxLen]; omega))] | rw [frzOwn_neat (by simp) (by simp <;> omega)] | rw [fzOwn_neat (by simp) (by simp <;> omega)]); try simp)
        | ((first | refine TstB.go (fun hw_ ew_ => ?_) (fun hw_ ew_ => ?_)) <;> first | (exfalso; first | omega | with_reducible exact hw_ (by assumption) | with_reducible exact absurd hw_ (by assumption)) | simp [ew_])
        | fail)
    | true =>
      rw [hro] at h4
      have h5 := ask_ok l c e n R
      have h6 := rask_ok l c e n R
      have h7 := decide_ok l c e n yes R
      have h8 := rdecide_ok l c e n yes R
      have h9 := forget_ok l c e n R
      have h10 := rforget_ok l c e n R
      have h11 := rsame14_ok _ (decide_right R c e n yes)
      have h12 := rsame14_ok _ (forget_right R c e n)
      have h13 := same14_ok l o
      have h14 := rsame14_dec l o R
      generalize askS l c e n = A at *
      generalize decideS l c e n yes = D at *
      generalize forgetS l c e n = F at *
      generalize decide (l = o) = b at *
      obtain ⟨a1, a2⟩ := A
      obtain ⟨d1, d2, d3⟩ := D
      obtain ⟨g1, g2⟩ := F
      simp only at h5 h6 h7 h8 h9 h10 h11 h12
      refine PCall.mk (fun _ => false) Try.func7 rfl rfl rfl (Ent.mk Try.func7 (by kernel_rfl) rfl) (by simp) (by simp) fun hfit => ?_
      simp [Try.f7]
      try simp
      repeat' (first
        | ((first | refine Tst.go (fun hw_ ew_ => ?_) (fun hw_ ew_ => ?_)) <;> first | (exfalso; first | omega | with_reducible exact hw_ (by assumption) | with_reducible exact absurd hw_ (by assumption)) | (have nw_ := Nw.nw hw_; simp [ew_, nw_]) | simp [ew_])
        | ((first | (refine Pc.go (h0) ?_ ?_; focus (first | rfl | (simp; done))) | (refine Pc.go (h1) ?_ ?_; focus (first | rfl | (simp; done))) | (refine Pc.go (h1o) ?_ ?_; focus (first | rfl | (simp; done))) | (refine Pc.go (h2) ?_ ?_; focus (first | rfl | (simp; done))) | (refine Pc.go (h3) ?_ ?_; focus (first | rfl | (simp; done))) | (refine Pc.go (h4) ?_ ?_; focus (first | rfl | (simp; done))) | (refine Pc.go (h5) ?_ ?_; focus (first | rfl | (simp; done))) | (refine Pc.go (h6) ?_ ?_; focus (first | rfl | (simp; done))) | (refine Pc.go (h7) ?_ ?_; focus (first | rfl | (simp; done))) | (refine Pc.go (h8) ?_ ?_; focus (first | rfl | (simp; done))) | (refine Pc.go (h9) ?_ ?_; focus (first | rfl | (simp; done))) | (refine Pc.go (h10) ?_ ?_; focus (first | rfl | (simp; done))) | (refine Pc.go (h11) ?_ ?_; focus (first | rfl | (simp; done))) | (refine Pc.go (h12) ?_ ?_; focus (first | rfl | (simp; done))) | (refine Pc.go (h13) ?_ ?_; focus (first | rfl | (simp; done))) | (refine Pc.go (h14) ?_ ?_; focus (first | rfl | (simp; done))) | rw [if_pos (by first | omega | (simp only [maxLen]; omega))] | rw [if_neg (by first | omega | (simp only [maxLen]; omega))] | rw [frzOwn_neat (by simp) (by simp <;> omega)] | rw [fzOwn_neat (by simp) (by simp <;> omega)]); try simp)
        | ((first | refine TstB.go (fun hw_ ew_ => ?_) (fun hw_ ew_ => ?_)) <;> first | (exfalso; first | omega | with_reducible exact hw_ (by assumption) | with_reducible exact absurd hw_ (by assumption)) | simp [ew_])
        | fail)
end Go.Proofs.Ytpbjeabigckijaa
