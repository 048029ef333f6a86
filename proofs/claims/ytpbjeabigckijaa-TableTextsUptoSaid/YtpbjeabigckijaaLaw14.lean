/- The statements of layer 14 hold: TableOnce, TableOthers, TableEpochs, TableForgets. -/
import Derived.Test.YtpbjeabigckijaaTabE
set_option linter.unusedVariables false
set_option linter.unusedSimpArgs false
namespace Go.Proofs.Ytpbjeabigckijaa
open Go.Cx Tab
set_option maxHeartbeats 400000
set_option maxRecDepth 40000

theorem nil0 {P : Program} {f : FuncId} {cap args : List AV} {h : AHeap} {Q : AV → AHeap → Prop} (hx : AInv P (.fn f cap) (.sl false 0 [] :: args) h Q) : AInv P (.fn f cap) (.sl true 0 [] :: args) h Q := by
  have hr0 : ∀ (Z : Nat → Prop) (κ : Nat → Slot) (w : World) (cargs : List Value), Rs Z w κ ((.sl true 0 [] :: args) ++ cap) cargs → Rs Z w κ ((.sl false 0 [] :: args) ++ cap) cargs := by
    intro Z κ w cargs hr
    cases hr with
    | cons h1 h2 =>
      refine .cons ?_ h2
      cases h1 with
      | sl0 a b => exact .sl0 (by simp) b
      | sl h0 => exact absurd h0 (by decide)
  rcases hx with ⟨he, hx⟩ | hx
  · exact .inl ⟨he, fun Z κ w cargs r hr => hx Z κ w cargs r (hr0 _ _ _ _ hr)⟩
  · exact .inr fun Z κ w cargs r hr => hx Z κ w cargs r (hr0 _ _ _ _ hr)
theorem shown14_ok : PCall Try.prog 10 [] (B true) := by
  have R1 := decide_right RightT.nil 1 1 3 true
  have h1 := decide_ok [] 1 1 3 true RightT.nil
  have e1 : decideS [] 1 1 3 true = ([⟨1, 1, 0, [⟨3, true⟩]⟩], true, 0) := by decide
  rw [e1] at h1 R1
  simp only at h1 R1
  have h2 := ask_ok _ 1 1 3 R1
  have e2 : askS [⟨1, 1, 0, [⟨3, true⟩]⟩] 1 1 3 = (true, 0) := by decide
  rw [e2] at h2
  have h3 := forget_ok _ 1 1 3 R1
  have R2 := forget_right R1 1 1 3
  have e3 : forgetS [⟨1, 1, 0, [⟨3, true⟩]⟩] 1 1 3 = ([⟨1, 1, 3, []⟩], 0) := by decide
  rw [e3] at h3 R2
  have h4 := ask_ok _ 1 1 3 R2
  have e4 : askS [⟨1, 1, 3, []⟩] 1 1 3 = (false, 18) := by decide
  simp only at h4
  rw [e4] at h4
  have n0 : encL RowR.enc [] = AV.sl false 0 [] := rfl
  rw [n0] at h1
  simp only at h1 h2 h3 h4
  generalize ([⟨1, 1, 0, [⟨3, true⟩]⟩] : List RowR) = k1 at *
  generalize ([⟨1, 1, 3, []⟩] : List RowR) = k2 at *
  refine PCall.mk (fun _ => false) Try.func10 rfl rfl rfl (Ent.mk Try.func10 (by kernel_rfl) rfl) (by simp) (by simp) fun hfit => ?_
  simp [Try.f10]
  try simp
  repeat' (first
    | ((first | refine Tst.go (fun hw_ ew_ => ?_) (fun hw_ ew_ => ?_)) <;> first | (exfalso; first | omega | with_reducible exact hw_ (by assumption) | with_reducible exact absurd hw_ (by assumption)) | (have nw_ := Nw.nw hw_; simp [ew_, nw_]) | simp [ew_])
    | (refine nil0 ?_)
    | ((first | (refine Pc.go (h1) ?_ ?_; focus (first | rfl | (simp; done))) | (refine Pc.go (h2) ?_ ?_; focus (first | rfl | (simp; done))) | (refine Pc.go (h3) ?_ ?_; focus (first | rfl | (simp; done))) | (refine Pc.go (h4) ?_ ?_; focus (first | rfl | (simp; done))) | rw [if_pos (by first | omega | (simp only [maxLen]; omega))] | rw [if_neg (by first | omega | (simp only [maxLen]; omega))] | rw [frzOwn_neat (by simp) (by simp <;> omega)] | rw [fzOwn_neat (by simp) (by simp <;> omega)]); try simp)
    | ((first | refine TstB.go (fun hw_ ew_ => ?_) (fun hw_ ew_ => ?_)) <;> first | (exfalso; first | omega | with_reducible exact hw_ (by assumption) | with_reducible exact absurd hw_ (by assumption)) | simp [ew_])
    | fail)
theorem law_once (w : TableOnceInR) : PCall Try.prog 3 [.agg w.enc] (B true) := by
  obtain ⟨l, c, e, n, yes, again⟩ := w
  have h0 := shown14_ok
  have h1 := few14_ok l
  have h2 := rright14_ok l
  cases hr : rightT l with
  | false =>
    rw [hr] at h2
    refine PCall.mk (fun _ => false) Try.func3 rfl rfl rfl (Ent.mk Try.func3 (by kernel_rfl) rfl) (by simp) (by simp) fun hfit => ?_
    simp [Try.f3]
    try simp
    repeat' (first
      | ((first | refine Tst.go (fun hw_ ew_ => ?_) (fun hw_ ew_ => ?_)) <;> first | (exfalso; first | omega | with_reducible exact hw_ (by assumption) | with_reducible exact absurd hw_ (by assumption)) | (have nw_ := Nw.nw hw_; simp [ew_, nw_]) | simp [ew_])
      | ((first | (refine Pc.go (h0) ?_ ?_; focus (first | rfl | (simp; done))) | (refine Pc.go (h1) ?_ ?_; focus (first | rfl | (simp; done))) | (refine Pc.go (h2) ?_ ?_; focus (first | rfl | (simp; done))) | rw [if_pos (by first | omega | (simp only [maxLen]; omega))] | rw [if_neg (by first | omega | (simp only [maxLen]; omega))] | rw [frzOwn_neat (by simp) (by simp <;> omega)] | rw [fzOwn_neat (by simp) (by simp <;> omega)]); try simp)
      | ((first | refine TstB.go (fun hw_ ew_ => ?_) (fun hw_ ew_ => ?_)) <;> first | (exfalso; first | omega | with_reducible exact hw_ (by assumption) | with_reducible exact absurd hw_ (by assumption)) | simp [ew_])
      | fail)
  | true =>
    rw [hr] at h2
    have R := (rightT_iff l).1 hr
    have h3 := decide_ok l c e n yes R
    have RK := decide_right R c e n yes
    have q1 := @decide_bad l c e n yes
    have q2 := @decide_ask l R c e n yes
    generalize decideS l c e n yes = D at *
    obtain ⟨k, was, er⟩ := D
    simp only at h3 RK q1 q2
    by_cases he : er = 0
    case neg =>
      obtain ⟨z1, z2⟩ := q1 he
      subst z1 z2
      have h4 := rsame14_ok k R
      refine PCall.mk (fun _ => false) Try.func3 rfl rfl rfl (Ent.mk Try.func3 (by kernel_rfl) rfl) (by simp) (by simp) fun hfit => ?_
      simp [Try.f3]
      try simp [he]
      repeat' (first
        | ((first | refine Tst.go (fun hw_ ew_ => ?_) (fun hw_ ew_ => ?_)) <;> first | (exfalso; first | omega | with_reducible exact hw_ (by assumption) | with_reducible exact absurd hw_ (by assumption)) | (have nw_ := Nw.nw hw_; simp [ew_, nw_, he]) | simp [ew_, he])
        | ((first | (refine Pc.go (h0) ?_ ?_; focus (first | rfl | (simp [he]; done))) | (refine Pc.go (h1) ?_ ?_; focus (first | rfl | (simp [he]; done))) | (refine Pc.go (h2) ?_ ?_; focus (first | rfl | (simp [he]; done))) | (refine Pc.go (h3) ?_ ?_; focus (first | rfl | (simp [he]; done))) | (refine Pc.go (h4) ?_ ?_; focus (first | rfl | (simp [he]; done))) | rw [if_pos (by first | omega | (simp only [maxLen]; omega))] | rw [if_neg (by first | omega | (simp only [maxLen]; omega))] | rw [frzOwn_neat (by simp) (by simp <;> omega)] | rw [fzOwn_neat (by simp) (by simp <;> omega)]); try simp [he])
        | ((first | refine TstB.go (fun hw_ ew_ => ?_) (fun hw_ ew_ => ?_)) <;> first | (exfalso; first | omega | with_reducible exact hw_ (by assumption) | with_reducible exact absurd hw_ (by assumption)) | simp [ew_, he])
        | fail)
    subst he
    have q3 := q2 rfl
    have h5 := decide_ok k c e n again RK
    rw [decide_again again q3] at h5
    have h6 := ask_ok k c e n RK
    rw [q3] at h6
    obtain ⟨z1, z2⟩ := ask_zero q3
    obtain ⟨zb, _⟩ := why_zero z1
    obtain ⟨b1, b2, b3⟩ := badS_false zb
    have h7 := forget_ok k c e n RK
    have RP := forget_right RK c e n
    have q4 := ask_forget RK z1 (n := n) (by omega)
    rw [if_pos (Int.le_refl n)] at q4
    have e7 : (forgetS k c e n).2 = 0 := by rw [forget_zero z1]
    rw [e7] at h7
    generalize (forgetS k c e n).1 = p at *
    have h8 := ask_ok p c e n RP
    rw [q4] at h8
    have h9 := rsame14_ok k RK
    have h10 := rright14_ok k
    rw [(rightT_iff k).2 RK] at h10
    have h11 := rright14_ok p
    rw [(rightT_iff p).2 RP] at h11
    simp only at h5 h6 h8
    refine PCall.mk (fun _ => false) Try.func3 rfl rfl rfl (Ent.mk Try.func3 (by kernel_rfl) rfl) (by simp) (by simp) fun hfit => ?_
    simp [Try.f3]
    try simp
    repeat' (first
      | ((first | refine Tst.go (fun hw_ ew_ => ?_) (fun hw_ ew_ => ?_)) <;> first | (exfalso; first | omega | with_reducible exact hw_ (by assumption) | with_reducible exact absurd hw_ (by assumption)) | (have nw_ := Nw.nw hw_; simp [ew_, nw_]) | simp [ew_])
      | ((first | (refine Pc.go (h0) ?_ ?_; focus (first | rfl | (simp; done))) | (refine Pc.go (h1) ?_ ?_; focus (first | rfl | (simp; done))) | (refine Pc.go (h2) ?_ ?_; focus (first | rfl | (simp; done))) | (refine Pc.go (h3) ?_ ?_; focus (first | rfl | (simp; done))) | (refine Pc.go (h5) ?_ ?_; focus (first | rfl | (simp; done))) | (refine Pc.go (h6) ?_ ?_; focus (first | rfl | (simp; done))) | (refine Pc.go (h7) ?_ ?_; focus (first | rfl | (simp; done))) | (refine Pc.go (h8) ?_ ?_; focus (first | rfl | (simp; done))) | (refine Pc.go (h9) ?_ ?_; focus (first | rfl | (simp; done))) | (refine Pc.go (h10) ?_ ?_; focus (first | rfl | (simp; done))) | (refine Pc.go (h11) ?_ ?_; focus (first | rfl | (simp; done))) | rw [if_pos (by first | omega | (simp only [maxLen]; omega))] | rw [if_neg (by first | omega | (simp only [maxLen]; omega))] | rw [frzOwn_neat (by simp) (by simp <;> omega)] | rw [fzOwn_neat (by simp) (by simp <;> omega)]); try simp)
      | ((first | refine TstB.go (fun hw_ ew_ => ?_) (fun hw_ ew_ => ?_)) <;> first | (exfalso; first | omega | with_reducible exact hw_ (by assumption) | with_reducible exact absurd hw_ (by assumption)) | simp [ew_])
      | fail)
theorem law_others (w : TableOthersInR) : PCall Try.prog 4 [.agg w.enc] (B true) := by
  obtain ⟨l, c, e, n, c', n'⟩ := w
  have h0 := shown14_ok
  have h1 := few14_ok l
  have h2 := rright14_ok l
  cases hr : rightT l with
  | false =>
    rw [hr] at h2
    refine PCall.mk (fun _ => false) Try.func4 rfl rfl rfl (Ent.mk Try.func4 (by kernel_rfl) rfl) (by simp) (by simp) fun hfit => ?_
    simp [Try.f4]
    try simp
    repeat' (first
      | ((first | refine Tst.go (fun hw_ ew_ => ?_) (fun hw_ ew_ => ?_)) <;> first | (exfalso; first | omega | with_reducible exact hw_ (by assumption) | with_reducible exact absurd hw_ (by assumption)) | (have nw_ := Nw.nw hw_; simp [ew_, nw_]) | simp [ew_])
      | ((first | (refine Pc.go (h0) ?_ ?_; focus (first | rfl | (simp; done))) | (refine Pc.go (h1) ?_ ?_; focus (first | rfl | (simp; done))) | (refine Pc.go (h2) ?_ ?_; focus (first | rfl | (simp; done))) | rw [if_pos (by first | omega | (simp only [maxLen]; omega))] | rw [if_neg (by first | omega | (simp only [maxLen]; omega))] | rw [frzOwn_neat (by simp) (by simp <;> omega)] | rw [fzOwn_neat (by simp) (by simp <;> omega)]); try simp)
      | ((first | refine TstB.go (fun hw_ ew_ => ?_) (fun hw_ ew_ => ?_)) <;> first | (exfalso; first | omega | with_reducible exact hw_ (by assumption) | with_reducible exact absurd hw_ (by assumption)) | simp [ew_])
      | fail)
  | true =>
    rw [hr] at h2
    by_cases hs : c = c' ∧ n' = n
    · obtain ⟨rfl, rfl⟩ := hs
      refine PCall.mk (fun _ => false) Try.func4 rfl rfl rfl (Ent.mk Try.func4 (by kernel_rfl) rfl) (by simp) (by simp) fun hfit => ?_
      simp [Try.f4]
      try simp
      repeat' (first
        | ((first | refine Tst.go (fun hw_ ew_ => ?_) (fun hw_ ew_ => ?_)) <;> first | (exfalso; first | omega | with_reducible exact hw_ (by assumption) | with_reducible exact absurd hw_ (by assumption)) | (have nw_ := Nw.nw hw_; simp [ew_, nw_]) | simp [ew_])
        | ((first | (refine Pc.go (h0) ?_ ?_; focus (first | rfl | (simp; done))) | (refine Pc.go (h1) ?_ ?_; focus (first | rfl | (simp; done))) | (refine Pc.go (h2) ?_ ?_; focus (first | rfl | (simp; done))) | rw [if_pos (by first | omega | (simp only [maxLen]; omega))] | rw [if_neg (by first | omega | (simp only [maxLen]; omega))] | rw [frzOwn_neat (by simp) (by simp <;> omega)] | rw [fzOwn_neat (by simp) (by simp <;> omega)]); try simp)
        | ((first | refine TstB.go (fun hw_ ew_ => ?_) (fun hw_ ew_ => ?_)) <;> first | (exfalso; first | omega | with_reducible exact hw_ (by assumption) | with_reducible exact absurd hw_ (by assumption)) | simp [ew_])
        | fail)
    have R := (rightT_iff l).1 hr
    have h3 := decide_ok l c e n true R
    have RK := decide_right R c e n true
    have q1 := @decide_bad l c e n true
    have q2 := @ask_others l R c e n true c' n' hs
    have h5 := ask_ok l c' e n' R
    have h6 := ask_ok _ c' e n' RK
    generalize decideS l c e n true = D at *
    obtain ⟨k, was, er⟩ := D
    simp only at h3 RK q1 q2 h6
    by_cases he : er = 0
    case neg =>
      obtain ⟨z1, z2⟩ := q1 he
      subst z1 z2
      have h4 := rsame14_ok k R
      generalize askS k c' e n' = a at *
      by_cases hc : c = c'
      · have hn : ¬ n' = n := fun q => hs ⟨hc, q⟩
        refine PCall.mk (fun _ => false) Try.func4 rfl rfl rfl (Ent.mk Try.func4 (by kernel_rfl) rfl) (by simp) (by simp) fun hfit => ?_
        simp [Try.f4]
        try simp [he, hc, hn]
        repeat' (first
          | ((first | refine Tst.go (fun hw_ ew_ => ?_) (fun hw_ ew_ => ?_)) <;> first | (exfalso; first | omega | with_reducible exact hw_ (by assumption) | with_reducible exact absurd hw_ (by assumption)) | (have nw_ := Nw.nw hw_; simp [ew_, nw_, he, hc, hn]) | simp [ew_, he, hc, hn])
          | ((first | (refine Pc.go (h0) ?_ ?_; focus (first | rfl | (simp [he, hc, hn]; done))) | (refine Pc.go (h1) ?_ ?_; focus (first | rfl | (simp [he, hc, hn]; done))) | (refine Pc.go (h2) ?_ ?_; focus (first | rfl | (simp [he, hc, hn]; done))) | (refine Pc.go (h3) ?_ ?_; focus (first | rfl | (simp [he, hc, hn]; done))) | (refine Pc.go (h4) ?_ ?_; focus (first | rfl | (simp [he, hc, hn]; done))) | (refine Pc.go (h5) ?_ ?_; focus (first | rfl | (simp [he, hc, hn]; done))) | rw [if_pos (by first | omega | (simp only [maxLen]; omega))] | rw [if_neg (by first | omega | (simp only [maxLen]; omega))] | rw [frzOwn_neat (by simp) (by simp <;> omega)] | rw [fzOwn_neat (by simp) (by simp <;> omega)]); try simp [he, hc, hn])
          | ((first | refine TstB.go (fun hw_ ew_ => ?_) (fun hw_ ew_ => ?_)) <;> first | (exfalso; first | omega | with_reducible exact hw_ (by assumption) | with_reducible exact absurd hw_ (by assumption)) | simp [ew_, he, hc, hn])
          | fail)
      · refine PCall.mk (fun _ => false) Try.func4 rfl rfl rfl (Ent.mk Try.func4 (by kernel_rfl) rfl) (by simp) (by simp) fun hfit => ?_
        simp [Try.f4]
        try simp [he, hc]
        repeat' (first
          | ((first | refine Tst.go (fun hw_ ew_ => ?_) (fun hw_ ew_ => ?_)) <;> first | (exfalso; first | omega | with_reducible exact hw_ (by assumption) | with_reducible exact absurd hw_ (by assumption)) | (have nw_ := Nw.nw hw_; simp [ew_, nw_, he, hc]) | simp [ew_, he, hc])
          | ((first | (refine Pc.go (h0) ?_ ?_; focus (first | rfl | (simp [he, hc]; done))) | (refine Pc.go (h1) ?_ ?_; focus (first | rfl | (simp [he, hc]; done))) | (refine Pc.go (h2) ?_ ?_; focus (first | rfl | (simp [he, hc]; done))) | (refine Pc.go (h3) ?_ ?_; focus (first | rfl | (simp [he, hc]; done))) | (refine Pc.go (h4) ?_ ?_; focus (first | rfl | (simp [he, hc]; done))) | (refine Pc.go (h5) ?_ ?_; focus (first | rfl | (simp [he, hc]; done))) | rw [if_pos (by first | omega | (simp only [maxLen]; omega))] | rw [if_neg (by first | omega | (simp only [maxLen]; omega))] | rw [frzOwn_neat (by simp) (by simp <;> omega)] | rw [fzOwn_neat (by simp) (by simp <;> omega)]); try simp [he, hc])
          | ((first | refine TstB.go (fun hw_ ew_ => ?_) (fun hw_ ew_ => ?_)) <;> first | (exfalso; first | omega | with_reducible exact hw_ (by assumption) | with_reducible exact absurd hw_ (by assumption)) | simp [ew_, he, hc])
          | fail)
    subst he
    rw [q2 rfl] at h6
    generalize askS l c' e n' = a at *
    by_cases hc : c = c'
    · have hn : ¬ n' = n := fun q => hs ⟨hc, q⟩
      refine PCall.mk (fun _ => false) Try.func4 rfl rfl rfl (Ent.mk Try.func4 (by kernel_rfl) rfl) (by simp) (by simp) fun hfit => ?_
      simp [Try.f4]
      try simp [hc, hn]
      repeat' (first
        | ((first | refine Tst.go (fun hw_ ew_ => ?_) (fun hw_ ew_ => ?_)) <;> first | (exfalso; first | omega | with_reducible exact hw_ (by assumption) | with_reducible exact absurd hw_ (by assumption)) | (have nw_ := Nw.nw hw_; simp [ew_, nw_, hc, hn]) | simp [ew_, hc, hn])
        | ((first | (refine Pc.go (h0) ?_ ?_; focus (first | rfl | (simp [hc, hn]; done))) | (refine Pc.go (h1) ?_ ?_; focus (first | rfl | (simp [hc, hn]; done))) | (refine Pc.go (h2) ?_ ?_; focus (first | rfl | (simp [hc, hn]; done))) | (refine Pc.go (h3) ?_ ?_; focus (first | rfl | (simp [hc, hn]; done))) | (refine Pc.go (h5) ?_ ?_; focus (first | rfl | (simp [hc, hn]; done))) | (refine Pc.go (h6) ?_ ?_; focus (first | rfl | (simp [hc, hn]; done))) | rw [if_pos (by first | omega | (simp only [maxLen]; omega))] | rw [if_neg (by first | omega | (simp only [maxLen]; omega))] | rw [frzOwn_neat (by simp) (by simp <;> omega)] | rw [fzOwn_neat (by simp) (by simp <;> omega)]); try simp [hc, hn])
        | ((first | refine TstB.go (fun hw_ ew_ => ?_) (fun hw_ ew_ => ?_)) <;> first | (exfalso; first | omega | with_reducible exact hw_ (by assumption) | with_reducible exact absurd hw_ (by assumption)) | simp [ew_, hc, hn])
        | fail)
    · refine PCall.mk (fun _ => false) Try.func4 rfl rfl rfl (Ent.mk Try.func4 (by kernel_rfl) rfl) (by simp) (by simp) fun hfit => ?_
      simp [Try.f4]
      try simp [hc]
      repeat' (first
        | ((first | refine Tst.go (fun hw_ ew_ => ?_) (fun hw_ ew_ => ?_)) <;> first | (exfalso; first | omega | with_reducible exact hw_ (by assumption) | with_reducible exact absurd hw_ (by assumption)) | (have nw_ := Nw.nw hw_; simp [ew_, nw_, hc]) | simp [ew_, hc])
        | ((first | (refine Pc.go (h0) ?_ ?_; focus (first | rfl | (simp [hc]; done))) | (refine Pc.go (h1) ?_ ?_; focus (first | rfl | (simp [hc]; done))) | (refine Pc.go (h2) ?_ ?_; focus (first | rfl | (simp [hc]; done))) | (refine Pc.go (h3) ?_ ?_; focus (first | rfl | (simp [hc]; done))) | (refine Pc.go (h5) ?_ ?_; focus (first | rfl | (simp [hc]; done))) | (refine Pc.go (h6) ?_ ?_; focus (first | rfl | (simp [hc]; done))) | rw [if_pos (by first | omega | (simp only [maxLen]; omega))] | rw [if_neg (by first | omega | (simp only [maxLen]; omega))] | rw [frzOwn_neat (by simp) (by simp <;> omega)] | rw [fzOwn_neat (by simp) (by simp <;> omega)]); try simp [hc])
        | ((first | refine TstB.go (fun hw_ ew_ => ?_) (fun hw_ ew_ => ?_)) <;> first | (exfalso; first | omega | with_reducible exact hw_ (by assumption) | with_reducible exact absurd hw_ (by assumption)) | simp [ew_, hc])
        | fail)
theorem law_epochs (w : TableEpochsInR) (hw : w.wf) : PCall Try.prog 5 [.agg w.enc] (B true) := by
  obtain ⟨l, c, e, n, n'⟩ := w
  obtain ⟨_, _, he, _⟩ := hw
  simp only [inI] at he
  have h0 := shown14_ok
  have h1 := few14_ok l
  have h2 := rright14_ok l
  cases hr : rightT l with
  | false =>
    rw [hr] at h2
    refine PCall.mk (fun _ => false) Try.func5 rfl rfl rfl (Ent.mk Try.func5 (by kernel_rfl) rfl) (by simp) (by simp) fun hfit => ?_
    simp [Try.f5]
    try simp
    repeat' (first
      | ((first | refine Tst.go (fun hw_ ew_ => ?_) (fun hw_ ew_ => ?_)) <;> first | (exfalso; first | omega | with_reducible exact hw_ (by assumption) | with_reducible exact absurd hw_ (by assumption)) | (have nw_ := Nw.nw hw_; simp [ew_, nw_]) | simp [ew_])
      | ((first | (refine Pc.go (h0) ?_ ?_; focus (first | rfl | (simp; done))) | (refine Pc.go (h1) ?_ ?_; focus (first | rfl | (simp; done))) | (refine Pc.go (h2) ?_ ?_; focus (first | rfl | (simp; done))) | rw [if_pos (by first | omega | (simp only [maxLen]; omega))] | rw [if_neg (by first | omega | (simp only [maxLen]; omega))] | rw [frzOwn_neat (by simp) (by simp <;> omega)] | rw [fzOwn_neat (by simp) (by simp <;> omega)]); try simp)
      | ((first | refine TstB.go (fun hw_ ew_ => ?_) (fun hw_ ew_ => ?_)) <;> first | (exfalso; first | omega | with_reducible exact hw_ (by assumption) | with_reducible exact absurd hw_ (by assumption)) | simp [ew_])
      | fail)
  | true =>
    rw [hr] at h2
    by_cases hbig : 1152921504606846976 ≤ e
    · refine PCall.mk (fun _ => false) Try.func5 rfl rfl rfl (Ent.mk Try.func5 (by kernel_rfl) rfl) (by simp) (by simp) fun hfit => ?_
      simp [Try.f5]
      try simp [hbig]
      repeat' (first
        | ((first | refine Tst.go (fun hw_ ew_ => ?_) (fun hw_ ew_ => ?_)) <;> first | (exfalso; first | omega | with_reducible exact hw_ (by assumption) | with_reducible exact absurd hw_ (by assumption)) | (have nw_ := Nw.nw hw_; simp [ew_, nw_, hbig]) | simp [ew_, hbig])
        | ((first | (refine Pc.go (h0) ?_ ?_; focus (first | rfl | (simp [hbig]; done))) | (refine Pc.go (h1) ?_ ?_; focus (first | rfl | (simp [hbig]; done))) | (refine Pc.go (h2) ?_ ?_; focus (first | rfl | (simp [hbig]; done))) | rw [if_pos (by first | omega | (simp only [maxLen]; omega))] | rw [if_neg (by first | omega | (simp only [maxLen]; omega))] | rw [frzOwn_neat (by simp) (by simp <;> omega)] | rw [fzOwn_neat (by simp) (by simp <;> omega)]); try simp [hbig])
        | ((first | refine TstB.go (fun hw_ ew_ => ?_) (fun hw_ ew_ => ?_)) <;> first | (exfalso; first | omega | with_reducible exact hw_ (by assumption) | with_reducible exact absurd hw_ (by assumption)) | simp [ew_, hbig])
        | fail)
    have w1 : IntKind.i64.wrap (e + 1) = e + 1 := by rw [IntKind.wrap_i64]; omega
    have w2 : IntKind.i64.wrap (e + 2) = e + 2 := by rw [IntKind.wrap_i64]; omega
    have R := (rightT_iff l).1 hr
    have h3 := decide_ok l c (e + 1) n true R
    have RK := decide_right R c (e + 1) n true
    have q2 := @decide_row l R c (e + 1) n true
    generalize decideS l c (e + 1) n true = D at *
    obtain ⟨k, was, er⟩ := D
    simp only at h3 RK q2
    by_cases hee : er = 0
    case neg =>
      refine PCall.mk (fun _ => false) Try.func5 rfl rfl rfl (Ent.mk Try.func5 (by kernel_rfl) rfl) (by simp) (by simp) fun hfit => ?_
      simp [Try.f5]
      try simp [hbig, w1, hee]
      repeat' (first
        | ((first | refine Tst.go (fun hw_ ew_ => ?_) (fun hw_ ew_ => ?_)) <;> first | (exfalso; first | omega | with_reducible exact hw_ (by assumption) | with_reducible exact absurd hw_ (by assumption)) | (have nw_ := Nw.nw hw_; simp [ew_, nw_, hbig, w1, hee]) | simp [ew_, hbig, w1, hee])
        | ((first | (refine Pc.go (h0) ?_ ?_; focus (first | rfl | (simp [hbig, w1, hee]; done))) | (refine Pc.go (h1) ?_ ?_; focus (first | rfl | (simp [hbig, w1, hee]; done))) | (refine Pc.go (h2) ?_ ?_; focus (first | rfl | (simp [hbig, w1, hee]; done))) | (refine Pc.go (h3) ?_ ?_; focus (first | rfl | (simp [hbig, w1, hee]; done))) | rw [if_pos (by first | omega | (simp only [maxLen]; omega))] | rw [if_neg (by first | omega | (simp only [maxLen]; omega))] | rw [frzOwn_neat (by simp) (by simp <;> omega)] | rw [fzOwn_neat (by simp) (by simp <;> omega)]); try simp [hbig, w1, hee])
        | ((first | refine TstB.go (fun hw_ ew_ => ?_) (fun hw_ ew_ => ?_)) <;> first | (exfalso; first | omega | with_reducible exact hw_ (by assumption) | with_reducible exact absurd hw_ (by assumption)) | simp [ew_, hbig, w1, hee])
        | fail)
    subst hee
    by_cases hn : n' < 1
    · refine PCall.mk (fun _ => false) Try.func5 rfl rfl rfl (Ent.mk Try.func5 (by kernel_rfl) rfl) (by simp) (by simp) fun hfit => ?_
      simp [Try.f5]
      try simp [hbig, w1, hn]
      repeat' (first
        | ((first | refine Tst.go (fun hw_ ew_ => ?_) (fun hw_ ew_ => ?_)) <;> first | (exfalso; first | omega | with_reducible exact hw_ (by assumption) | with_reducible exact absurd hw_ (by assumption)) | (have nw_ := Nw.nw hw_; simp [ew_, nw_, hbig, w1, hn]) | simp [ew_, hbig, w1, hn])
        | ((first | (refine Pc.go (h0) ?_ ?_; focus (first | rfl | (simp [hbig, w1, hn]; done))) | (refine Pc.go (h1) ?_ ?_; focus (first | rfl | (simp [hbig, w1, hn]; done))) | (refine Pc.go (h2) ?_ ?_; focus (first | rfl | (simp [hbig, w1, hn]; done))) | (refine Pc.go (h3) ?_ ?_; focus (first | rfl | (simp [hbig, w1, hn]; done))) | rw [if_pos (by first | omega | (simp only [maxLen]; omega))] | rw [if_neg (by first | omega | (simp only [maxLen]; omega))] | rw [frzOwn_neat (by simp) (by simp <;> omega)] | rw [fzOwn_neat (by simp) (by simp <;> omega)]); try simp [hbig, w1, hn])
        | ((first | refine TstB.go (fun hw_ ew_ => ?_) (fun hw_ ew_ => ?_)) <;> first | (exfalso; first | omega | with_reducible exact hw_ (by assumption) | with_reducible exact absurd hw_ (by assumption)) | simp [ew_, hbig, w1, hn])
        | fail)
    by_cases he1 : e < 1
    · refine PCall.mk (fun _ => false) Try.func5 rfl rfl rfl (Ent.mk Try.func5 (by kernel_rfl) rfl) (by simp) (by simp) fun hfit => ?_
      simp [Try.f5]
      try simp [hbig, w1, hn, he1]
      repeat' (first
        | ((first | refine Tst.go (fun hw_ ew_ => ?_) (fun hw_ ew_ => ?_)) <;> first | (exfalso; first | omega | with_reducible exact hw_ (by assumption) | with_reducible exact absurd hw_ (by assumption)) | (have nw_ := Nw.nw hw_; simp [ew_, nw_, hbig, w1, hn, he1]) | simp [ew_, hbig, w1, hn, he1])
        | ((first | (refine Pc.go (h0) ?_ ?_; focus (first | rfl | (simp [hbig, w1, hn, he1]; done))) | (refine Pc.go (h1) ?_ ?_; focus (first | rfl | (simp [hbig, w1, hn, he1]; done))) | (refine Pc.go (h2) ?_ ?_; focus (first | rfl | (simp [hbig, w1, hn, he1]; done))) | (refine Pc.go (h3) ?_ ?_; focus (first | rfl | (simp [hbig, w1, hn, he1]; done))) | rw [if_pos (by first | omega | (simp only [maxLen]; omega))] | rw [if_neg (by first | omega | (simp only [maxLen]; omega))] | rw [frzOwn_neat (by simp) (by simp <;> omega)] | rw [fzOwn_neat (by simp) (by simp <;> omega)]); try simp [hbig, w1, hn, he1])
        | ((first | refine TstB.go (fun hw_ ew_ => ?_) (fun hw_ ew_ => ?_)) <;> first | (exfalso; first | omega | with_reducible exact hw_ (by assumption) | with_reducible exact absurd hw_ (by assumption)) | simp [ew_, hbig, w1, hn, he1])
        | fail)
    obtain ⟨hb, x, hf, hx⟩ := q2 rfl
    obtain ⟨b1, b2, b3⟩ := badS_false hb
    have y1 : whyS k c e n' = 17 := by
      rw [why_epochs b1 he1 hn hf, if_neg (by omega), if_pos (by omega)]
    have y2 : whyS k c (e + 2) n' = 6 := by
      rw [why_epochs b1 (by omega) hn hf, if_pos (by omega)]
    have h4 := ask_ok k c e n' RK
    rw [ask_why (by rw [y1]; decide), y1] at h4
    have h5 := forget_ok k c e n' RK
    have y3 : (forgetS k c e n').2 = 17 := by unfold forgetS; rw [if_pos (by rw [y1]; decide), y1]
    rw [y3] at h5
    have h6 := ask_ok k c (e + 2) n' RK
    rw [ask_why (by rw [y2]; decide), y2] at h6
    generalize (forgetS k c e n').1 = p at *
    simp only at h4 h6
    refine PCall.mk (fun _ => false) Try.func5 rfl rfl rfl (Ent.mk Try.func5 (by kernel_rfl) rfl) (by simp) (by simp) fun hfit => ?_
    simp [Try.f5]
    try simp [hbig, w1, w2, hn, he1]
    repeat' (first
      | ((first | refine Tst.go (fun hw_ ew_ => ?_) (fun hw_ ew_ => ?_)) <;> first | (exfalso; first | omega | with_reducible exact hw_ (by assumption) | with_reducible exact absurd hw_ (by assumption)) | (have nw_ := Nw.nw hw_; simp [ew_, nw_, hbig, w1, w2, hn, he1]) | simp [ew_, hbig, w1, w2, hn, he1])
      | ((first | (refine Pc.go (h0) ?_ ?_; focus (first | rfl | (simp [hbig, w1, w2, hn, he1]; done))) | (refine Pc.go (h1) ?_ ?_; focus (first | rfl | (simp [hbig, w1, w2, hn, he1]; done))) | (refine Pc.go (h2) ?_ ?_; focus (first | rfl | (simp [hbig, w1, w2, hn, he1]; done))) | (refine Pc.go (h3) ?_ ?_; focus (first | rfl | (simp [hbig, w1, w2, hn, he1]; done))) | (refine Pc.go (h4) ?_ ?_; focus (first | rfl | (simp [hbig, w1, w2, hn, he1]; done))) | (refine Pc.go (h5) ?_ ?_; focus (first | rfl | (simp [hbig, w1, w2, hn, he1]; done))) | (refine Pc.go (h6) ?_ ?_; focus (first | rfl | (simp [hbig, w1, w2, hn, he1]; done))) | rw [if_pos (by first | omega | (simp only [maxLen]; omega))] | rw [if_neg (by first | omega | (simp only [maxLen]; omega))] | rw [frzOwn_neat (by simp) (by simp <;> omega)] | rw [fzOwn_neat (by simp) (by simp <;> omega)]); try simp [hbig, w1, w2, hn, he1])
      | ((first | refine TstB.go (fun hw_ ew_ => ?_) (fun hw_ ew_ => ?_)) <;> first | (exfalso; first | omega | with_reducible exact hw_ (by assumption) | with_reducible exact absurd hw_ (by assumption)) | simp [ew_, hbig, w1, w2, hn, he1])
      | fail)
theorem law_forgets (w : TableForgetsInR) : PCall Try.prog 6 [.agg w.enc] (B true) := by
  obtain ⟨l, c, e, d, n⟩ := w
  have h0 := shown14_ok
  have h1 := few14_ok l
  have h2 := rright14_ok l
  cases hr : rightT l with
  | false =>
    rw [hr] at h2
    refine PCall.mk (fun _ => false) Try.func6 rfl rfl rfl (Ent.mk Try.func6 (by kernel_rfl) rfl) (by simp) (by simp) fun hfit => ?_
    simp [Try.f6]
    try simp
    repeat' (first
      | ((first | refine Tst.go (fun hw_ ew_ => ?_) (fun hw_ ew_ => ?_)) <;> first | (exfalso; first | omega | with_reducible exact hw_ (by assumption) | with_reducible exact absurd hw_ (by assumption)) | (have nw_ := Nw.nw hw_; simp [ew_, nw_]) | simp [ew_])
      | ((first | (refine Pc.go (h0) ?_ ?_; focus (first | rfl | (simp; done))) | (refine Pc.go (h1) ?_ ?_; focus (first | rfl | (simp; done))) | (refine Pc.go (h2) ?_ ?_; focus (first | rfl | (simp; done))) | rw [if_pos (by first | omega | (simp only [maxLen]; omega))] | rw [if_neg (by first | omega | (simp only [maxLen]; omega))] | rw [frzOwn_neat (by simp) (by simp <;> omega)] | rw [fzOwn_neat (by simp) (by simp <;> omega)]); try simp)
      | ((first | refine TstB.go (fun hw_ ew_ => ?_) (fun hw_ ew_ => ?_)) <;> first | (exfalso; first | omega | with_reducible exact hw_ (by assumption) | with_reducible exact absurd hw_ (by assumption)) | simp [ew_])
      | fail)
  | true =>
    rw [hr] at h2
    by_cases hn : n < 1
    · refine PCall.mk (fun _ => false) Try.func6 rfl rfl rfl (Ent.mk Try.func6 (by kernel_rfl) rfl) (by simp) (by simp) fun hfit => ?_
      simp [Try.f6]
      try simp [hn]
      repeat' (first
        | ((first | refine Tst.go (fun hw_ ew_ => ?_) (fun hw_ ew_ => ?_)) <;> first | (exfalso; first | omega | with_reducible exact hw_ (by assumption) | with_reducible exact absurd hw_ (by assumption)) | (have nw_ := Nw.nw hw_; simp [ew_, nw_, hn]) | simp [ew_, hn])
        | ((first | (refine Pc.go (h0) ?_ ?_; focus (first | rfl | (simp [hn]; done))) | (refine Pc.go (h1) ?_ ?_; focus (first | rfl | (simp [hn]; done))) | (refine Pc.go (h2) ?_ ?_; focus (first | rfl | (simp [hn]; done))) | rw [if_pos (by first | omega | (simp only [maxLen]; omega))] | rw [if_neg (by first | omega | (simp only [maxLen]; omega))] | rw [frzOwn_neat (by simp) (by simp <;> omega)] | rw [fzOwn_neat (by simp) (by simp <;> omega)]); try simp [hn])
        | ((first | refine TstB.go (fun hw_ ew_ => ?_) (fun hw_ ew_ => ?_)) <;> first | (exfalso; first | omega | with_reducible exact hw_ (by assumption) | with_reducible exact absurd hw_ (by assumption)) | simp [ew_, hn])
        | fail)
    have R := (rightT_iff l).1 hr
    have h3 := forget_ok l c e d R
    have RK := forget_right R c e d
    by_cases hw : whyS l c e d = 0
    case neg =>
      have z1 : forgetS l c e d = (l, whyS l c e d) := by unfold forgetS; rw [if_pos hw]
      rw [z1] at h3
      have h4 := rsame14_ok l R
      generalize whyS l c e d = y at *
      simp only at h3
      refine PCall.mk (fun _ => false) Try.func6 rfl rfl rfl (Ent.mk Try.func6 (by kernel_rfl) rfl) (by simp) (by simp) fun hfit => ?_
      simp [Try.f6]
      try simp [hn, hw]
      repeat' (first
        | ((first | refine Tst.go (fun hw_ ew_ => ?_) (fun hw_ ew_ => ?_)) <;> first | (exfalso; first | omega | with_reducible exact hw_ (by assumption) | with_reducible exact absurd hw_ (by assumption)) | (have nw_ := Nw.nw hw_; simp [ew_, nw_, hn, hw]) | simp [ew_, hn, hw])
        | ((first | (refine Pc.go (h0) ?_ ?_; focus (first | rfl | (simp [hn, hw]; done))) | (refine Pc.go (h1) ?_ ?_; focus (first | rfl | (simp [hn, hw]; done))) | (refine Pc.go (h2) ?_ ?_; focus (first | rfl | (simp [hn, hw]; done))) | (refine Pc.go (h3) ?_ ?_; focus (first | rfl | (simp [hn, hw]; done))) | (refine Pc.go (h4) ?_ ?_; focus (first | rfl | (simp [hn, hw]; done))) | rw [if_pos (by first | omega | (simp only [maxLen]; omega))] | rw [if_neg (by first | omega | (simp only [maxLen]; omega))] | rw [frzOwn_neat (by simp) (by simp <;> omega)] | rw [fzOwn_neat (by simp) (by simp <;> omega)]); try simp [hn, hw])
        | ((first | refine TstB.go (fun hw_ ew_ => ?_) (fun hw_ ew_ => ?_)) <;> first | (exfalso; first | omega | with_reducible exact hw_ (by assumption) | with_reducible exact absurd hw_ (by assumption)) | simp [ew_, hn, hw])
        | fail)
    have q1 := forget_twice R hw
    have q2 := ask_forget R hw (n := n) (by omega)
    have q3 : (forgetS l c e d).2 = 0 := by rw [forget_zero hw]
    rw [q3] at h3
    generalize (forgetS l c e d).1 = k at *
    have h4 := forget_ok k c e d RK
    rw [q1] at h4
    have h5 := ask_ok l c e n R
    have h6 := ask_ok k c e n RK
    rw [q2] at h6
    have h7 := rsame14_ok k RK
    have h8 := rright14_ok k
    rw [(rightT_iff k).2 RK] at h8
    generalize askS l c e n = a at *
    simp only at h4
    by_cases hnd : n ≤ d
    · rw [if_pos hnd] at h6
      simp only at h6
      refine PCall.mk (fun _ => false) Try.func6 rfl rfl rfl (Ent.mk Try.func6 (by kernel_rfl) rfl) (by simp) (by simp) fun hfit => ?_
      simp [Try.f6]
      try simp [hn, hnd]
      repeat' (first
        | ((first | refine Tst.go (fun hw_ ew_ => ?_) (fun hw_ ew_ => ?_)) <;> first | (exfalso; first | omega | with_reducible exact hw_ (by assumption) | with_reducible exact absurd hw_ (by assumption)) | (have nw_ := Nw.nw hw_; simp [ew_, nw_, hn, hnd]) | simp [ew_, hn, hnd])
        | ((first | (refine Pc.go (h0) ?_ ?_; focus (first | rfl | (simp [hn, hnd]; done))) | (refine Pc.go (h1) ?_ ?_; focus (first | rfl | (simp [hn, hnd]; done))) | (refine Pc.go (h2) ?_ ?_; focus (first | rfl | (simp [hn, hnd]; done))) | (refine Pc.go (h3) ?_ ?_; focus (first | rfl | (simp [hn, hnd]; done))) | (refine Pc.go (h4) ?_ ?_; focus (first | rfl | (simp [hn, hnd]; done))) | (refine Pc.go (h5) ?_ ?_; focus (first | rfl | (simp [hn, hnd]; done))) | (refine Pc.go (h6) ?_ ?_; focus (first | rfl | (simp [hn, hnd]; done))) | (refine Pc.go (h7) ?_ ?_; focus (first | rfl | (simp [hn, hnd]; done))) | rw [if_pos (by first | omega | (simp only [maxLen]; omega))] | rw [if_neg (by first | omega | (simp only [maxLen]; omega))] | rw [frzOwn_neat (by simp) (by simp <;> omega)] | rw [fzOwn_neat (by simp) (by simp <;> omega)]); try simp [hn, hnd])
        | ((first | refine TstB.go (fun hw_ ew_ => ?_) (fun hw_ ew_ => ?_)) <;> first | (exfalso; first | omega | with_reducible exact hw_ (by assumption) | with_reducible exact absurd hw_ (by assumption)) | simp [ew_, hn, hnd])
        | fail)
    · rw [if_neg hnd] at h6
      refine PCall.mk (fun _ => false) Try.func6 rfl rfl rfl (Ent.mk Try.func6 (by kernel_rfl) rfl) (by simp) (by simp) fun hfit => ?_
      simp [Try.f6]
      try simp [hn, hnd]
      repeat' (first
        | ((first | refine Tst.go (fun hw_ ew_ => ?_) (fun hw_ ew_ => ?_)) <;> first | (exfalso; first | omega | with_reducible exact hw_ (by assumption) | with_reducible exact absurd hw_ (by assumption)) | (have nw_ := Nw.nw hw_; simp [ew_, nw_, hn, hnd]) | simp [ew_, hn, hnd])
        | ((first | (refine Pc.go (h0) ?_ ?_; focus (first | rfl | (simp [hn, hnd]; done))) | (refine Pc.go (h1) ?_ ?_; focus (first | rfl | (simp [hn, hnd]; done))) | (refine Pc.go (h2) ?_ ?_; focus (first | rfl | (simp [hn, hnd]; done))) | (refine Pc.go (h3) ?_ ?_; focus (first | rfl | (simp [hn, hnd]; done))) | (refine Pc.go (h4) ?_ ?_; focus (first | rfl | (simp [hn, hnd]; done))) | (refine Pc.go (h5) ?_ ?_; focus (first | rfl | (simp [hn, hnd]; done))) | (refine Pc.go (h6) ?_ ?_; focus (first | rfl | (simp [hn, hnd]; done))) | (refine Pc.go (h7) ?_ ?_; focus (first | rfl | (simp [hn, hnd]; done))) | (refine Pc.go (h8) ?_ ?_; focus (first | rfl | (simp [hn, hnd]; done))) | rw [if_pos (by first | omega | (simp only [maxLen]; omega))] | rw [if_neg (by first | omega | (simp only [maxLen]; omega))] | rw [frzOwn_neat (by simp) (by simp <;> omega)] | rw [fzOwn_neat (by simp) (by simp <;> omega)]); try simp [hn, hnd])
        | ((first | refine TstB.go (fun hw_ ew_ => ?_) (fun hw_ ew_ => ?_)) <;> first | (exfalso; first | omega | with_reducible exact hw_ (by assumption) | with_reducible exact absurd hw_ (by assumption)) | simp [ew_, hn, hnd])
        | fail)
end Go.Proofs.Ytpbjeabigckijaa
