/- The statements of layer 14 about texts: TableTexts (where bulk is bounded), TableWhole. -/
import Derived.Test.YtpbjeabigckijaaTabR
import Derived.Test.YtpbjeabigckijaaLaw14
import Derived.Test.YtpbjeabigckijaaBd
set_option linter.unusedVariables false
set_option linter.unusedSimpArgs false
namespace Go.Proofs.Ytpbjeabigckijaa
open Go.Cx Tab
set_option maxHeartbeats 400000
set_option maxRecDepth 40000

theorem law_ttexts (l : List RowR) (s : List UInt8) (hw : ∀ r ∈ l, RowW r) (hl : (rowsL l).length ≤ 1000000000000 ∨ fewT l.length l = false) : PCall Try.prog 8 [encL RowR.enc l, S (T s)] (B true) := by
  have h0 := shown14_ok
  have h1 := few14_ok l
  cases hf : fewT l.length l with
  | false =>
    rw [hf] at h1
    refine PCall.mk (fun _ => false) Try.func8 rfl rfl rfl (Ent.mk Try.func8 (by kernel_rfl) rfl) (by simp) (by simp) fun hfit => ?_
    simp [Try.f8]
    try simp
    repeat' (first
      | ((first | refine Tst.go (fun hw_ ew_ => ?_) (fun hw_ ew_ => ?_)) <;> first | (exfalso; first | omega | with_reducible exact hw_ (by assumption) | with_reducible exact absurd hw_ (by assumption)) | (have nw_ := Nw.nw hw_; simp [ew_, nw_]) | simp [ew_])
      | ((first | (refine Pc.go (h0) ?_ ?_; focus (first | rfl | (simp; done))) | (refine Pc.go (h1) ?_ ?_; focus (first | rfl | (simp; done))) | rw [if_pos (by first | omega | (simp only [maxLen]; omega))] | rw [if_neg (by first | omega | (simp only [maxLen]; omega))] | rw [frzOwn_neat (by simp) (by simp <;> omega)] | rw [fzOwn_neat (by simp) (by simp <;> omega)]); try simp)
      | ((first | refine TstB.go (fun hw_ ew_ => ?_) (fun hw_ ew_ => ?_)) <;> first | (exfalso; first | omega | with_reducible exact hw_ (by assumption) | with_reducible exact absurd hw_ (by assumption)) | simp [ew_])
      | fail)
  | true =>
    rw [hf] at h1
    have hl := hl.resolve_right (by rw [hf]; simp)
    by_cases hs : 5000 < s.length
    · refine PCall.mk (fun _ => false) Try.func8 rfl rfl rfl (Ent.mk Try.func8 (by kernel_rfl) rfl) (by simp) (by simp) fun hfit => ?_
      simp [Try.f8]
      try simp [hs, T_size]
      repeat' (first
        | ((first | refine Tst.go (fun hw_ ew_ => ?_) (fun hw_ ew_ => ?_)) <;> first | (exfalso; first | omega | with_reducible exact hw_ (by assumption) | with_reducible exact absurd hw_ (by assumption)) | (have nw_ := Nw.nw hw_; simp [ew_, nw_, hs, T_size]) | simp [ew_, hs, T_size])
        | ((first | (refine Pc.go (h0) ?_ ?_; focus (first | rfl | (simp [hs, T_size]; done))) | (refine Pc.go (h1) ?_ ?_; focus (first | rfl | (simp [hs, T_size]; done))) | rw [if_pos (by first | omega | (simp only [maxLen]; omega))] | rw [if_neg (by first | omega | (simp only [maxLen]; omega))] | rw [frzOwn_neat (by simp) (by simp <;> omega)] | rw [fzOwn_neat (by simp) (by simp <;> omega)]); try simp [hs, T_size])
        | ((first | refine TstB.go (fun hw_ ew_ => ?_) (fun hw_ ew_ => ?_)) <;> first | (exfalso; first | omega | with_reducible exact hw_ (by assumption) | with_reducible exact absurd hw_ (by assumption)) | simp [ew_, hs, T_size])
        | fail)
    have c1 := ttake14_ok s (by omega)
    have c2 := rtake14_ok s (by omega)
    have c3 := ttext_ok l hw hl
    have c4 := rtext14_ok l hw hl
    have c5 := ttake14_ok (rowsL l) (by omega)
    have c6 := rsame14_ok (takeT s).1 (takeT_right s)
    have c7 := rright14_ok l
    have c8 : (takeT s).2 = 0 → PCall Try.prog 24 [encL RowR.enc (takeT s).1] (S (T s)) := fun h => by
      rcases takeT_cases s with ⟨_, h2⟩ | ⟨_, _, h3, h4⟩
      · exact absurd h h2
      · have := ttext_ok (takeT s).1 h3 (by rw [h4]; omega)
        rwa [h4] at this
    have c9 : rightT l = true → takeT (rowsL l) = (l, 0) ∧ PCall Try.prog 14 [encL RowR.enc l, encL RowR.enc l] (B true) := fun h =>
      have R := (rightT_iff l).1 h
      ⟨takeT_rows R hw, rsame14_ok l R⟩
    generalize takeT s = A at *
    obtain ⟨a, e⟩ := A
    simp only at c1 c2 c6 c8
    cases hr : rightT l with
    | false =>
      rw [hr] at c7
      generalize takeT (rowsL l) = K at *
      obtain ⟨k, g⟩ := K
      simp only at c5
      by_cases he : e = 0
      · subst he
        have c8 := c8 rfl
        refine PCall.mk (fun _ => false) Try.func8 rfl rfl rfl (Ent.mk Try.func8 (by kernel_rfl) rfl) (by simp) (by simp) fun hfit => ?_
        simp [Try.f8]
        try simp [hs, T_size]
        repeat' (first
          | ((first | refine Tst.go (fun hw_ ew_ => ?_) (fun hw_ ew_ => ?_)) <;> first | (exfalso; first | omega | with_reducible exact hw_ (by assumption) | with_reducible exact absurd hw_ (by assumption)) | (have nw_ := Nw.nw hw_; simp [ew_, nw_, hs, T_size]) | simp [ew_, hs, T_size])
          | ((first | (refine Pc.go (h0) ?_ ?_; focus (first | rfl | (simp [hs, T_size]; done))) | (refine Pc.go (h1) ?_ ?_; focus (first | rfl | (simp [hs, T_size]; done))) | (refine Pc.go (c1) ?_ ?_; focus (first | rfl | (simp [hs, T_size]; done))) | (refine Pc.go (c2) ?_ ?_; focus (first | rfl | (simp [hs, T_size]; done))) | (refine Pc.go (c3) ?_ ?_; focus (first | rfl | (simp [hs, T_size]; done))) | (refine Pc.go (c4) ?_ ?_; focus (first | rfl | (simp [hs, T_size]; done))) | (refine Pc.go (c5) ?_ ?_; focus (first | rfl | (simp [hs, T_size]; done))) | (refine Pc.go (c6) ?_ ?_; focus (first | rfl | (simp [hs, T_size]; done))) | (refine Pc.go (c7) ?_ ?_; focus (first | rfl | (simp [hs, T_size]; done))) | (refine Pc.go (c8) ?_ ?_; focus (first | rfl | (simp [hs, T_size]; done))) | rw [if_pos (by first | omega | (simp only [maxLen]; omega))] | rw [if_neg (by first | omega | (simp only [maxLen]; omega))] | rw [frzOwn_neat (by simp) (by simp <;> omega)] | rw [fzOwn_neat (by simp) (by simp <;> omega)]); try simp [hs, T_size])
          | ((first | refine TstB.go (fun hw_ ew_ => ?_) (fun hw_ ew_ => ?_)) <;> first | (exfalso; first | omega | with_reducible exact hw_ (by assumption) | with_reducible exact absurd hw_ (by assumption)) | simp [ew_, hs, T_size])
          | fail)
      · refine PCall.mk (fun _ => false) Try.func8 rfl rfl rfl (Ent.mk Try.func8 (by kernel_rfl) rfl) (by simp) (by simp) fun hfit => ?_
        simp [Try.f8]
        try simp [hs, he, T_size]
        repeat' (first
          | ((first | refine Tst.go (fun hw_ ew_ => ?_) (fun hw_ ew_ => ?_)) <;> first | (exfalso; first | omega | with_reducible exact hw_ (by assumption) | with_reducible exact absurd hw_ (by assumption)) | (have nw_ := Nw.nw hw_; simp [ew_, nw_, hs, he, T_size]) | simp [ew_, hs, he, T_size])
          | ((first | (refine Pc.go (h0) ?_ ?_; focus (first | rfl | (simp [hs, he, T_size]; done))) | (refine Pc.go (h1) ?_ ?_; focus (first | rfl | (simp [hs, he, T_size]; done))) | (refine Pc.go (c1) ?_ ?_; focus (first | rfl | (simp [hs, he, T_size]; done))) | (refine Pc.go (c2) ?_ ?_; focus (first | rfl | (simp [hs, he, T_size]; done))) | (refine Pc.go (c3) ?_ ?_; focus (first | rfl | (simp [hs, he, T_size]; done))) | (refine Pc.go (c4) ?_ ?_; focus (first | rfl | (simp [hs, he, T_size]; done))) | (refine Pc.go (c5) ?_ ?_; focus (first | rfl | (simp [hs, he, T_size]; done))) | (refine Pc.go (c6) ?_ ?_; focus (first | rfl | (simp [hs, he, T_size]; done))) | (refine Pc.go (c7) ?_ ?_; focus (first | rfl | (simp [hs, he, T_size]; done))) | rw [if_pos (by first | omega | (simp only [maxLen]; omega))] | rw [if_neg (by first | omega | (simp only [maxLen]; omega))] | rw [frzOwn_neat (by simp) (by simp <;> omega)] | rw [fzOwn_neat (by simp) (by simp <;> omega)]); try simp [hs, he, T_size])
          | ((first | refine TstB.go (fun hw_ ew_ => ?_) (fun hw_ ew_ => ?_)) <;> first | (exfalso; first | omega | with_reducible exact hw_ (by assumption) | with_reducible exact absurd hw_ (by assumption)) | simp [ew_, hs, he, T_size])
          | fail)
    | true =>
      rw [hr] at c7
      obtain ⟨q1, q2⟩ := c9 hr
      rw [q1] at c5
      simp only at c5
      by_cases he : e = 0
      · subst he
        have c8 := c8 rfl
        refine PCall.mk (fun _ => false) Try.func8 rfl rfl rfl (Ent.mk Try.func8 (by kernel_rfl) rfl) (by simp) (by simp) fun hfit => ?_
        simp [Try.f8]
        try simp [hs, T_size]
        repeat' (first
          | ((first | refine Tst.go (fun hw_ ew_ => ?_) (fun hw_ ew_ => ?_)) <;> first | (exfalso; first | omega | with_reducible exact hw_ (by assumption) | with_reducible exact absurd hw_ (by assumption)) | (have nw_ := Nw.nw hw_; simp [ew_, nw_, hs, T_size]) | simp [ew_, hs, T_size])
          | ((first | (refine Pc.go (h0) ?_ ?_; focus (first | rfl | (simp [hs, T_size]; done))) | (refine Pc.go (h1) ?_ ?_; focus (first | rfl | (simp [hs, T_size]; done))) | (refine Pc.go (c1) ?_ ?_; focus (first | rfl | (simp [hs, T_size]; done))) | (refine Pc.go (c2) ?_ ?_; focus (first | rfl | (simp [hs, T_size]; done))) | (refine Pc.go (c3) ?_ ?_; focus (first | rfl | (simp [hs, T_size]; done))) | (refine Pc.go (c4) ?_ ?_; focus (first | rfl | (simp [hs, T_size]; done))) | (refine Pc.go (c5) ?_ ?_; focus (first | rfl | (simp [hs, T_size]; done))) | (refine Pc.go (c6) ?_ ?_; focus (first | rfl | (simp [hs, T_size]; done))) | (refine Pc.go (c7) ?_ ?_; focus (first | rfl | (simp [hs, T_size]; done))) | (refine Pc.go (c8) ?_ ?_; focus (first | rfl | (simp [hs, T_size]; done))) | (refine Pc.go (q2) ?_ ?_; focus (first | rfl | (simp [hs, T_size]; done))) | rw [if_pos (by first | omega | (simp only [maxLen]; omega))] | rw [if_neg (by first | omega | (simp only [maxLen]; omega))] | rw [frzOwn_neat (by simp) (by simp <;> omega)] | rw [fzOwn_neat (by simp) (by simp <;> omega)]); try simp [hs, T_size])
          | ((first | refine TstB.go (fun hw_ ew_ => ?_) (fun hw_ ew_ => ?_)) <;> first | (exfalso; first | omega | with_reducible exact hw_ (by assumption) | with_reducible exact absurd hw_ (by assumption)) | simp [ew_, hs, T_size])
          | fail)
      · refine PCall.mk (fun _ => false) Try.func8 rfl rfl rfl (Ent.mk Try.func8 (by kernel_rfl) rfl) (by simp) (by simp) fun hfit => ?_
        simp [Try.f8]
        try simp [hs, he, T_size]
        repeat' (first
          | ((first | refine Tst.go (fun hw_ ew_ => ?_) (fun hw_ ew_ => ?_)) <;> first | (exfalso; first | omega | with_reducible exact hw_ (by assumption) | with_reducible exact absurd hw_ (by assumption)) | (have nw_ := Nw.nw hw_; simp [ew_, nw_, hs, he, T_size]) | simp [ew_, hs, he, T_size])
          | ((first | (refine Pc.go (h0) ?_ ?_; focus (first | rfl | (simp [hs, he, T_size]; done))) | (refine Pc.go (h1) ?_ ?_; focus (first | rfl | (simp [hs, he, T_size]; done))) | (refine Pc.go (c1) ?_ ?_; focus (first | rfl | (simp [hs, he, T_size]; done))) | (refine Pc.go (c2) ?_ ?_; focus (first | rfl | (simp [hs, he, T_size]; done))) | (refine Pc.go (c3) ?_ ?_; focus (first | rfl | (simp [hs, he, T_size]; done))) | (refine Pc.go (c4) ?_ ?_; focus (first | rfl | (simp [hs, he, T_size]; done))) | (refine Pc.go (c5) ?_ ?_; focus (first | rfl | (simp [hs, he, T_size]; done))) | (refine Pc.go (c6) ?_ ?_; focus (first | rfl | (simp [hs, he, T_size]; done))) | (refine Pc.go (c7) ?_ ?_; focus (first | rfl | (simp [hs, he, T_size]; done))) | (refine Pc.go (q2) ?_ ?_; focus (first | rfl | (simp [hs, he, T_size]; done))) | rw [if_pos (by first | omega | (simp only [maxLen]; omega))] | rw [if_neg (by first | omega | (simp only [maxLen]; omega))] | rw [frzOwn_neat (by simp) (by simp <;> omega)] | rw [fzOwn_neat (by simp) (by simp <;> omega)]); try simp [hs, he, T_size])
          | ((first | refine TstB.go (fun hw_ ew_ => ?_) (fun hw_ ew_ => ?_)) <;> first | (exfalso; first | omega | with_reducible exact hw_ (by assumption) | with_reducible exact absurd hw_ (by assumption)) | simp [ew_, hs, he, T_size])
          | fail)
theorem law_whole (w : TableWholeInR) (hw : w.wf) : PCall Try.prog 9 [.agg w.enc] (B true) := by
  obtain ⟨l, c, e, n, cut⟩ := w
  obtain ⟨hwl, _⟩ := hw
  simp only at hwl
  have hw' : ∀ r ∈ l, RowW r := fun r hr => by
    have := hwl r hr
    simp only [RowR.wf] at this
    exact ⟨this.1, this.2.1, this.2.2.1, fun d hd => this.2.2.2 d hd⟩
  have h0 := shown14_ok
  have h1 := few14_ok l
  have h2 := rright14_ok l
  cases hr : rightT l with
  | false =>
    rw [hr] at h2
    refine PCall.mk (fun _ => false) Try.func9 rfl rfl rfl (Ent.mk Try.func9 (by kernel_rfl) rfl) (by simp) (by simp) fun hfit => ?_
    simp [Try.f9]
    try simp
    repeat' (first
      | ((first | refine Tst.go (fun hw_ ew_ => ?_) (fun hw_ ew_ => ?_)) <;> first | (exfalso; first | omega | with_reducible exact hw_ (by assumption) | with_reducible exact absurd hw_ (by assumption)) | (have nw_ := Nw.nw hw_; simp [ew_, nw_]) | simp [ew_])
      | ((first | (refine Pc.go (h0) ?_ ?_; focus (first | rfl | (simp; done))) | (refine Pc.go (h1) ?_ ?_; focus (first | rfl | (simp; done))) | (refine Pc.go (h2) ?_ ?_; focus (first | rfl | (simp; done))) | rw [if_pos (by first | omega | (simp only [maxLen]; omega))] | rw [if_neg (by first | omega | (simp only [maxLen]; omega))] | rw [frzOwn_neat (by simp) (by simp <;> omega)] | rw [fzOwn_neat (by simp) (by simp <;> omega)]); try simp)
      | ((first | refine TstB.go (fun hw_ ew_ => ?_) (fun hw_ ew_ => ?_)) <;> first | (exfalso; first | omega | with_reducible exact hw_ (by assumption) | with_reducible exact absurd hw_ (by assumption)) | simp [ew_])
      | fail)
  | true =>
    rw [hr] at h2
    have R := (rightT_iff l).1 hr
    have hlen := rowsL_right R hw'
    have c1 := ttext_ok l hw' (by omega)
    have c2 := ttake14_ok (rowsL l) (by omega)
    rw [takeT_rows R hw'] at c2
    simp only at c2
    have c3 := ask_ok l c e n R
    by_cases hc0 : cut < 0
    · refine PCall.mk (fun _ => false) Try.func9 rfl rfl rfl (Ent.mk Try.func9 (by kernel_rfl) rfl) (by simp) (by simp) fun hfit => ?_
      simp [Try.f9]
      try simp [hc0, T_size]
      repeat' (first
        | ((first | refine Tst.go (fun hw_ ew_ => ?_) (fun hw_ ew_ => ?_)) <;> first | (exfalso; first | omega | with_reducible exact hw_ (by assumption) | with_reducible exact absurd hw_ (by assumption)) | (have nw_ := Nw.nw hw_; simp [ew_, nw_, hc0, T_size]) | simp [ew_, hc0, T_size])
        | ((first | (refine Pc.go (h0) ?_ ?_; focus (first | rfl | (simp [hc0, T_size]; done))) | (refine Pc.go (h1) ?_ ?_; focus (first | rfl | (simp [hc0, T_size]; done))) | (refine Pc.go (h2) ?_ ?_; focus (first | rfl | (simp [hc0, T_size]; done))) | (refine Pc.go (c1) ?_ ?_; focus (first | rfl | (simp [hc0, T_size]; done))) | (refine Pc.go (c2) ?_ ?_; focus (first | rfl | (simp [hc0, T_size]; done))) | (refine Pc.go (c3) ?_ ?_; focus (first | rfl | (simp [hc0, T_size]; done))) | rw [if_pos (by first | omega | (simp only [maxLen]; omega))] | rw [if_neg (by first | omega | (simp only [maxLen]; omega))] | rw [frzOwn_neat (by simp) (by simp <;> omega)] | rw [fzOwn_neat (by simp) (by simp <;> omega)]); try simp [hc0, T_size])
        | ((first | refine TstB.go (fun hw_ ew_ => ?_) (fun hw_ ew_ => ?_)) <;> first | (exfalso; first | omega | with_reducible exact hw_ (by assumption) | with_reducible exact absurd hw_ (by assumption)) | simp [ew_, hc0, T_size])
        | fail)
    by_cases hc1 : ((rowsL l).length : Int) ≤ cut
    · refine PCall.mk (fun _ => false) Try.func9 rfl rfl rfl (Ent.mk Try.func9 (by kernel_rfl) rfl) (by simp) (by simp) fun hfit => ?_
      simp [Try.f9]
      try simp [hc0, hc1, T_size]
      repeat' (first
        | ((first | refine Tst.go (fun hw_ ew_ => ?_) (fun hw_ ew_ => ?_)) <;> first | (exfalso; first | omega | with_reducible exact hw_ (by assumption) | with_reducible exact absurd hw_ (by assumption)) | (have nw_ := Nw.nw hw_; simp [ew_, nw_, hc0, hc1, T_size]) | simp [ew_, hc0, hc1, T_size])
        | ((first | (refine Pc.go (h0) ?_ ?_; focus (first | rfl | (simp [hc0, hc1, T_size]; done))) | (refine Pc.go (h1) ?_ ?_; focus (first | rfl | (simp [hc0, hc1, T_size]; done))) | (refine Pc.go (h2) ?_ ?_; focus (first | rfl | (simp [hc0, hc1, T_size]; done))) | (refine Pc.go (c1) ?_ ?_; focus (first | rfl | (simp [hc0, hc1, T_size]; done))) | (refine Pc.go (c2) ?_ ?_; focus (first | rfl | (simp [hc0, hc1, T_size]; done))) | (refine Pc.go (c3) ?_ ?_; focus (first | rfl | (simp [hc0, hc1, T_size]; done))) | rw [if_pos (by first | omega | (simp only [maxLen]; omega))] | rw [if_neg (by first | omega | (simp only [maxLen]; omega))] | rw [frzOwn_neat (by simp) (by simp <;> omega)] | rw [fzOwn_neat (by simp) (by simp <;> omega)]); try simp [hc0, hc1, T_size])
        | ((first | refine TstB.go (fun hw_ ew_ => ?_) (fun hw_ ew_ => ?_)) <;> first | (exfalso; first | omega | with_reducible exact hw_ (by assumption) | with_reducible exact absurd hw_ (by assumption)) | simp [ew_, hc0, hc1, T_size])
        | fail)
    obtain ⟨m, rfl⟩ := Int.eq_ofNat_of_zero_le (Int.not_lt.1 hc0)
    have c4 := ttake14_ok ((rowsL l).take m) (by rw [List.length_take]; omega)
    rw [takeT_cut R hw' (by omega)] at c4
    simp only at c4
    have f1 : (T (rowsL l)).extract 0 m = T ((rowsL l).take m) := by rw [T_ext]; simp
    refine PCall.mk (fun _ => false) Try.func9 rfl rfl rfl (Ent.mk Try.func9 (by kernel_rfl) rfl) (by simp) (by simp) fun hfit => ?_
    simp [Try.f9]
    try simp [hc0, hc1, f1, T_size]
    repeat' (first
      | ((first | refine Tst.go (fun hw_ ew_ => ?_) (fun hw_ ew_ => ?_)) <;> first | (exfalso; first | omega | with_reducible exact hw_ (by assumption) | with_reducible exact absurd hw_ (by assumption)) | (have nw_ := Nw.nw hw_; simp [ew_, nw_, hc0, hc1, f1, T_size]) | simp [ew_, hc0, hc1, f1, T_size])
      | ((first | (refine Pc.go (h0) ?_ ?_; focus (first | rfl | (simp [hc0, hc1, f1, T_size]; done))) | (refine Pc.go (h1) ?_ ?_; focus (first | rfl | (simp [hc0, hc1, f1, T_size]; done))) | (refine Pc.go (h2) ?_ ?_; focus (first | rfl | (simp [hc0, hc1, f1, T_size]; done))) | (refine Pc.go (c1) ?_ ?_; focus (first | rfl | (simp [hc0, hc1, f1, T_size]; done))) | (refine Pc.go (c2) ?_ ?_; focus (first | rfl | (simp [hc0, hc1, f1, T_size]; done))) | (refine Pc.go (c3) ?_ ?_; focus (first | rfl | (simp [hc0, hc1, f1, T_size]; done))) | (refine Pc.go (c4) ?_ ?_; focus (first | rfl | (simp [hc0, hc1, f1, T_size]; done))) | rw [if_pos (by first | omega | (simp only [maxLen]; omega))] | rw [if_neg (by first | omega | (simp only [maxLen]; omega))] | rw [frzOwn_neat (by simp) (by simp <;> omega)] | rw [fzOwn_neat (by simp) (by simp <;> omega)]); try simp [hc0, hc1, f1, T_size])
      | ((first | refine TstB.go (fun hw_ ew_ => ?_) (fun hw_ ew_ => ?_)) <;> first | (exfalso; first | omega | with_reducible exact hw_ (by assumption) | with_reducible exact absurd hw_ (by assumption)) | simp [ew_, hc0, hc1, f1, T_size])
      | fail)
end Go.Proofs.Ytpbjeabigckijaa
