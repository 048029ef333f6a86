/- Where a row stands, what is asked of it, by the document. -/
import Derived.Test.YtpbjeabigckijaaTabF
set_option linter.unusedVariables false
set_option linter.unusedSimpArgs false
namespace Go.Proofs.Ytpbjeabigckijaa
open Go.Cx Tab
set_option maxHeartbeats 400000
set_option maxRecDepth 40000

abbrev isC (c : Int) (r : RowR) : Bool := decide (r.client = c)
theorem place_ok (l : List RowR) (c : Int) : PCall Try.prog 42 [encL RowR.enc l, I c] (I (idxS (isC c) l)) := by
  refine PCall.mk (fun _ => false) Try.func42 rfl rfl rfl (Ent.mk Try.func42 (by kernel_rfl) rfl) (by simp) (by simp) fun hfit => ?_
  simp at hfit
  simp [Try.f42]
  refine AW.loopG (lit := fun _ => false) (fun i : Nat => ⟨20, pat [(0, encL RowR.enc l), (1, I c), (5, I i)], []⟩) (fun i => l.length - i) (fun i => i ≤ l.length ∧ idxFrom (isC c) i (l.drop i) = idxS (isC c) l) 0 ?_ ?_ ?_
  · exact Wk.at _ rfl (by simp) (by simp)
  · simp [idxS]
  rintro i ⟨h1, h2⟩ A hA
  by_cases hi : i < l.length
  case neg =>
    rw [idxFrom_end hi] at h2
    try simp [hi, ← h2]
    repeat' (first
      | ((first | refine Tst.go (fun hw_ ew_ => ?_) (fun hw_ ew_ => ?_)) <;> first | (exfalso; first | omega | with_reducible exact hw_ (by assumption) | with_reducible exact absurd hw_ (by assumption)) | (have nw_ := Nw.nw hw_; simp [ew_, nw_, hi, ← h2]) | simp [ew_, hi, ← h2])
      | ((first | rw [if_pos (by first | omega | (simp only [maxLen]; omega))] | rw [if_neg (by first | omega | (simp only [maxLen]; omega))] | rw [frzOwn_neat (by simp) (by simp <;> omega)] | rw [fzOwn_neat (by simp) (by simp <;> omega)]); try simp [hi, ← h2])
      | ((first | refine TstB.go (fun hw_ ew_ => ?_) (fun hw_ ew_ => ?_)) <;> first | (exfalso; first | omega | with_reducible exact hw_ (by assumption) | with_reducible exact absurd hw_ (by assumption)) | simp [ew_, hi, ← h2])
      | fail)
  rw [idxFrom_at hi] at h2
  have hw := wrap_nat hi hfit.1
  by_cases hc : l[i].client = c
  · rw [if_pos (by simp [isC, hc])] at h2
    try simp [hi, hc, ← h2, RowR.enc]
    repeat' (first
      | ((first | refine Tst.go (fun hw_ ew_ => ?_) (fun hw_ ew_ => ?_)) <;> first | (exfalso; first | omega | with_reducible exact hw_ (by assumption) | with_reducible exact absurd hw_ (by assumption)) | (have nw_ := Nw.nw hw_; simp [ew_, nw_, hi, hc, ← h2, RowR.enc]) | simp [ew_, hi, hc, ← h2, RowR.enc])
      | ((first | rw [if_pos (by first | omega | (simp only [maxLen]; omega))] | rw [if_neg (by first | omega | (simp only [maxLen]; omega))] | rw [frzOwn_neat (by simp) (by simp <;> omega)] | rw [fzOwn_neat (by simp) (by simp <;> omega)]); try simp [hi, hc, ← h2, RowR.enc])
      | ((first | refine TstB.go (fun hw_ ew_ => ?_) (fun hw_ ew_ => ?_)) <;> first | (exfalso; first | omega | with_reducible exact hw_ (by assumption) | with_reducible exact absurd hw_ (by assumption)) | simp [ew_, hi, hc, ← h2, RowR.enc])
      | fail)
  · rw [if_neg (by simp [isC, hc])] at h2
    try simp [hi, hc, hw, RowR.enc]
    repeat' (first
      | ((first | refine Tst.go (fun hw_ ew_ => ?_) (fun hw_ ew_ => ?_)) <;> first | (exfalso; first | omega | with_reducible exact hw_ (by assumption) | with_reducible exact absurd hw_ (by assumption)) | (have nw_ := Nw.nw hw_; simp [ew_, nw_, hi, hc, hw, RowR.enc]) | simp [ew_, hi, hc, hw, RowR.enc])
      | (exact hA (i + 1) _ (Wk.at _ rfl (by simp) (by simp)) ⟨hi, h2⟩ (by omega))
      | ((first | rw [if_pos (by first | omega | (simp only [maxLen]; omega))] | rw [if_neg (by first | omega | (simp only [maxLen]; omega))] | rw [frzOwn_neat (by simp) (by simp <;> omega)] | rw [fzOwn_neat (by simp) (by simp <;> omega)]); try simp [hi, hc, hw, RowR.enc])
      | ((first | refine TstB.go (fun hw_ ew_ => ?_) (fun hw_ ew_ => ?_)) <;> first | (exfalso; first | omega | with_reducible exact hw_ (by assumption) | with_reducible exact absurd hw_ (by assumption)) | simp [ew_, hi, hc, hw, RowR.enc])
      | fail)
theorem place_none14 {l : List RowR} {c : Int} (hf : findS RowR.client l c = none) : idxS (isC c) l = -1 := by
  rcases idxFrom_spec (p := isC c) l 0 with ⟨h, _⟩ | ⟨j, hj, _, h, _⟩
  · exact h
  · exact absurd (by simpa [isC] using h) ((findS_none _).1 hf _ (List.getElem_mem hj))
theorem place_some14 {l : List RowR} (hr : rises RowR.client l = true) {c : Int} {r : RowR} (hf : findS RowR.client l c = some r) : ∃ j, ∃ hj : j < l.length, idxS (isC c) l = (j : Int) ∧ l[j] = r := by
  rcases idxFrom_spec (p := isC c) l 0 with ⟨_, h⟩ | ⟨j, hj, h1, h, _⟩
  · have := h _ (findS_mem _ hf).1
    have h2 := (findS_mem _ hf).2
    simp [isC] at this
    exact absurd h2 this
  · refine ⟨j, hj, by simpa [idxS] using h1, ?_⟩
    refine rises_inj RowR.client hr (List.getElem_mem hj) (findS_mem _ hf).1 ?_
    rw [(findS_mem _ hf).2]
    simpa [isC] using h
theorem why_ok (l : List RowR) (c e n : Int) (hr : rises RowR.client l = true) : PCall Try.prog 41 [encL RowR.enc l, I c, I e, I n] (I (whyS l c e n)) := by
  cases hb : badS c e n with
  | true =>
    simp only [whyS, hb, if_true]
    simp only [badS, Bool.or_eq_true, decide_eq_true_eq] at hb
    refine PCall.mk (fun _ => false) Try.func41 rfl rfl rfl (Ent.mk Try.func41 (by kernel_rfl) rfl) (by simp) (by simp) fun hfit => ?_
    simp [Try.f41]
    by_cases h1 : c < 0
    · try simp [h1]
      repeat' (first
        | ((first | refine Tst.go (fun hw_ ew_ => ?_) (fun hw_ ew_ => ?_)) <;> first | (exfalso; first | omega | with_reducible exact hw_ (by assumption) | with_reducible exact absurd hw_ (by assumption)) | (have nw_ := Nw.nw hw_; simp [ew_, nw_, h1]) | simp [ew_, h1])
        | ((first | rw [if_pos (by first | omega | (simp only [maxLen]; omega))] | rw [if_neg (by first | omega | (simp only [maxLen]; omega))] | rw [frzOwn_neat (by simp) (by simp <;> omega)] | rw [fzOwn_neat (by simp) (by simp <;> omega)]); try simp [h1])
        | ((first | refine TstB.go (fun hw_ ew_ => ?_) (fun hw_ ew_ => ?_)) <;> first | (exfalso; first | omega | with_reducible exact hw_ (by assumption) | with_reducible exact absurd hw_ (by assumption)) | simp [ew_, h1])
        | fail)
    by_cases h2 : e < 1
    · try simp [h1, h2]
      repeat' (first
        | ((first | refine Tst.go (fun hw_ ew_ => ?_) (fun hw_ ew_ => ?_)) <;> first | (exfalso; first | omega | with_reducible exact hw_ (by assumption) | with_reducible exact absurd hw_ (by assumption)) | (have nw_ := Nw.nw hw_; simp [ew_, nw_, h1, h2]) | simp [ew_, h1, h2])
        | ((first | rw [if_pos (by first | omega | (simp only [maxLen]; omega))] | rw [if_neg (by first | omega | (simp only [maxLen]; omega))] | rw [frzOwn_neat (by simp) (by simp <;> omega)] | rw [fzOwn_neat (by simp) (by simp <;> omega)]); try simp [h1, h2])
        | ((first | refine TstB.go (fun hw_ ew_ => ?_) (fun hw_ ew_ => ?_)) <;> first | (exfalso; first | omega | with_reducible exact hw_ (by assumption) | with_reducible exact absurd hw_ (by assumption)) | simp [ew_, h1, h2])
        | fail)
    have h3 : n < 1 := by omega
    try simp [h1, h2, h3]
    repeat' (first
      | ((first | refine Tst.go (fun hw_ ew_ => ?_) (fun hw_ ew_ => ?_)) <;> first | (exfalso; first | omega | with_reducible exact hw_ (by assumption) | with_reducible exact absurd hw_ (by assumption)) | (have nw_ := Nw.nw hw_; simp [ew_, nw_, h1, h2, h3]) | simp [ew_, h1, h2, h3])
      | ((first | rw [if_pos (by first | omega | (simp only [maxLen]; omega))] | rw [if_neg (by first | omega | (simp only [maxLen]; omega))] | rw [frzOwn_neat (by simp) (by simp <;> omega)] | rw [fzOwn_neat (by simp) (by simp <;> omega)]); try simp [h1, h2, h3])
      | ((first | refine TstB.go (fun hw_ ew_ => ?_) (fun hw_ ew_ => ?_)) <;> first | (exfalso; first | omega | with_reducible exact hw_ (by assumption) | with_reducible exact absurd hw_ (by assumption)) | simp [ew_, h1, h2, h3])
      | fail)
  | false =>
    obtain ⟨h1, h2, h3⟩ := badS_false hb
    have hp := place_ok l c
    simp only [whyS, hb]
    cases hf : findS RowR.client l c with
    | none =>
      rw [place_none14 hf] at hp
      refine PCall.mk (fun _ => false) Try.func41 rfl rfl rfl (Ent.mk Try.func41 (by kernel_rfl) rfl) (by simp) (by simp) fun hfit => ?_
      simp [Try.f41]
      try simp [h1, h2, h3]
      repeat' (first
        | ((first | refine Tst.go (fun hw_ ew_ => ?_) (fun hw_ ew_ => ?_)) <;> first | (exfalso; first | omega | with_reducible exact hw_ (by assumption) | with_reducible exact absurd hw_ (by assumption)) | (have nw_ := Nw.nw hw_; simp [ew_, nw_, h1, h2, h3]) | simp [ew_, h1, h2, h3])
        | ((first | (refine Pc.go (hp) ?_ ?_; focus (first | rfl | (simp [h1, h2, h3]; done))) | rw [if_pos (by first | omega | (simp only [maxLen]; omega))] | rw [if_neg (by first | omega | (simp only [maxLen]; omega))] | rw [frzOwn_neat (by simp) (by simp <;> omega)] | rw [fzOwn_neat (by simp) (by simp <;> omega)]); try simp [h1, h2, h3])
        | ((first | refine TstB.go (fun hw_ ew_ => ?_) (fun hw_ ew_ => ?_)) <;> first | (exfalso; first | omega | with_reducible exact hw_ (by assumption) | with_reducible exact absurd hw_ (by assumption)) | simp [ew_, h1, h2, h3])
        | fail)
    | some r =>
      obtain ⟨j, hj, e1, e2⟩ := place_some14 hr hf
      rw [e1] at hp
      subst e2
      refine PCall.mk (fun _ => false) Try.func41 rfl rfl rfl (Ent.mk Try.func41 (by kernel_rfl) rfl) (by simp) (by simp) fun hfit => ?_
      simp [Try.f41]
      by_cases h4 : l[j].epoch < e
      · have h5 : ¬ e < l[j].epoch := by omega
        try simp [h1, h2, h3, h4, h5, hj, RowR.enc]
        repeat' (first
          | ((first | refine Tst.go (fun hw_ ew_ => ?_) (fun hw_ ew_ => ?_)) <;> first | (exfalso; first | omega | with_reducible exact hw_ (by assumption) | with_reducible exact absurd hw_ (by assumption)) | (have nw_ := Nw.nw hw_; simp [ew_, nw_, h1, h2, h3, h4, h5, hj, RowR.enc]) | simp [ew_, h1, h2, h3, h4, h5, hj, RowR.enc])
          | ((first | (refine Pc.go (hp) ?_ ?_; focus (first | rfl | (simp [h1, h2, h3, h4, h5, hj, RowR.enc]; done))) | rw [if_pos (by first | omega | (simp only [maxLen]; omega))] | rw [if_neg (by first | omega | (simp only [maxLen]; omega))] | rw [frzOwn_neat (by simp) (by simp <;> omega)] | rw [fzOwn_neat (by simp) (by simp <;> omega)]); try simp [h1, h2, h3, h4, h5, hj, RowR.enc])
          | ((first | refine TstB.go (fun hw_ ew_ => ?_) (fun hw_ ew_ => ?_)) <;> first | (exfalso; first | omega | with_reducible exact hw_ (by assumption) | with_reducible exact absurd hw_ (by assumption)) | simp [ew_, h1, h2, h3, h4, h5, hj, RowR.enc])
          | fail)
      by_cases h5 : e < l[j].epoch
      · try simp [h1, h2, h3, h4, h5, hj, RowR.enc]
        repeat' (first
          | ((first | refine Tst.go (fun hw_ ew_ => ?_) (fun hw_ ew_ => ?_)) <;> first | (exfalso; first | omega | with_reducible exact hw_ (by assumption) | with_reducible exact absurd hw_ (by assumption)) | (have nw_ := Nw.nw hw_; simp [ew_, nw_, h1, h2, h3, h4, h5, hj, RowR.enc]) | simp [ew_, h1, h2, h3, h4, h5, hj, RowR.enc])
          | ((first | (refine Pc.go (hp) ?_ ?_; focus (first | rfl | (simp [h1, h2, h3, h4, h5, hj, RowR.enc]; done))) | rw [if_pos (by first | omega | (simp only [maxLen]; omega))] | rw [if_neg (by first | omega | (simp only [maxLen]; omega))] | rw [frzOwn_neat (by simp) (by simp <;> omega)] | rw [fzOwn_neat (by simp) (by simp <;> omega)]); try simp [h1, h2, h3, h4, h5, hj, RowR.enc])
          | ((first | refine TstB.go (fun hw_ ew_ => ?_) (fun hw_ ew_ => ?_)) <;> first | (exfalso; first | omega | with_reducible exact hw_ (by assumption) | with_reducible exact absurd hw_ (by assumption)) | simp [ew_, h1, h2, h3, h4, h5, hj, RowR.enc])
          | fail)
      · try simp [h1, h2, h3, h4, h5, hj, RowR.enc]
        repeat' (first
          | ((first | refine Tst.go (fun hw_ ew_ => ?_) (fun hw_ ew_ => ?_)) <;> first | (exfalso; first | omega | with_reducible exact hw_ (by assumption) | with_reducible exact absurd hw_ (by assumption)) | (have nw_ := Nw.nw hw_; simp [ew_, nw_, h1, h2, h3, h4, h5, hj, RowR.enc]) | simp [ew_, h1, h2, h3, h4, h5, hj, RowR.enc])
          | ((first | (refine Pc.go (hp) ?_ ?_; focus (first | rfl | (simp [h1, h2, h3, h4, h5, hj, RowR.enc]; done))) | rw [if_pos (by first | omega | (simp only [maxLen]; omega))] | rw [if_neg (by first | omega | (simp only [maxLen]; omega))] | rw [frzOwn_neat (by simp) (by simp <;> omega)] | rw [fzOwn_neat (by simp) (by simp <;> omega)]); try simp [h1, h2, h3, h4, h5, hj, RowR.enc])
          | ((first | refine TstB.go (fun hw_ ew_ => ?_) (fun hw_ ew_ => ?_)) <;> first | (exfalso; first | omega | with_reducible exact hw_ (by assumption) | with_reducible exact absurd hw_ (by assumption)) | simp [ew_, h1, h2, h3, h4, h5, hj, RowR.enc])
          | fail)
theorem rask_ok (l : List RowR) (c e n : Int) (R : RightT l) : PCall Try.prog 18 [encL RowR.enc l, I c, I e, I n] (.tup [B (askS l c e n).1, I (askS l c e n).2]) := by
  have h1 := why_ok l c e n R.rise
  by_cases hw : whyS l c e n = 0
  case neg =>
    rw [ask_why hw]
    generalize whyS l c e n = y at *
    refine PCall.mk (fun _ => false) Try.func18 rfl rfl rfl (Ent.mk Try.func18 (by kernel_rfl) rfl) (by simp) (by simp) fun hfit => ?_
    simp [Try.f18]
    try simp [hw]
    repeat' (first
      | ((first | refine Tst.go (fun hw_ ew_ => ?_) (fun hw_ ew_ => ?_)) <;> first | (exfalso; first | omega | with_reducible exact hw_ (by assumption) | with_reducible exact absurd hw_ (by assumption)) | (have nw_ := Nw.nw hw_; simp [ew_, nw_, hw]) | simp [ew_, hw])
      | ((first | (refine Pc.go (h1) ?_ ?_; focus (first | rfl | (simp [hw]; done))) | rw [if_pos (by first | omega | (simp only [maxLen]; omega))] | rw [if_neg (by first | omega | (simp only [maxLen]; omega))] | rw [frzOwn_neat (by simp) (by simp <;> omega)] | rw [fzOwn_neat (by simp) (by simp <;> omega)]); try simp [hw])
      | ((first | refine TstB.go (fun hw_ ew_ => ?_) (fun hw_ ew_ => ?_)) <;> first | (exfalso; first | omega | with_reducible exact hw_ (by assumption) | with_reducible exact absurd hw_ (by assumption)) | simp [ew_, hw])
      | fail)
  rw [hw] at h1
  obtain ⟨hb, r, hf, he, hr⟩ := why_zero hw
  have hok := R.ok r (findS_mem _ hf).1
  have hp := place_ok l c
  obtain ⟨j, hj, e1, e2⟩ := place_some14 R.rise hf
  rw [e1] at hp
  rw [ask_of hw hr]
  have hlen := hok.len
  have hrise := hok.rise
  have hx := e2
  by_cases hd : n ≤ r.done
  · rw [askR_eq, if_pos hd]
    subst e2
    refine PCall.mk (fun _ => false) Try.func18 rfl rfl rfl (Ent.mk Try.func18 (by kernel_rfl) rfl) (by simp) (by simp) fun hfit => ?_
    simp [Try.f18]
    try simp [hj, hd, RowR.enc]
    repeat' (first
      | ((first | refine Tst.go (fun hw_ ew_ => ?_) (fun hw_ ew_ => ?_)) <;> first | (exfalso; first | omega | with_reducible exact hw_ (by assumption) | with_reducible exact absurd hw_ (by assumption)) | (have nw_ := Nw.nw hw_; simp [ew_, nw_, hj, hd, RowR.enc]) | simp [ew_, hj, hd, RowR.enc])
      | ((first | (refine Pc.go (h1) ?_ ?_; focus (first | rfl | (simp [hj, hd, RowR.enc]; done))) | (refine Pc.go (hp) ?_ ?_; focus (first | rfl | (simp [hj, hd, RowR.enc]; done))) | rw [if_pos (by first | omega | (simp only [maxLen]; omega))] | rw [if_neg (by first | omega | (simp only [maxLen]; omega))] | rw [frzOwn_neat (by simp) (by simp <;> omega)] | rw [fzOwn_neat (by simp) (by simp <;> omega)]); try simp [hj, hd, RowR.enc])
      | ((first | refine TstB.go (fun hw_ ew_ => ?_) (fun hw_ ew_ => ?_)) <;> first | (exfalso; first | omega | with_reducible exact hw_ (by assumption) | with_reducible exact absurd hw_ (by assumption)) | simp [ew_, hj, hd, RowR.enc])
      | fail)
  rw [askR_eq, if_neg hd]
  have hq : ∀ (i : Nat) (hi : i < r.l.length), r.l[i].seq = n → findS DecisionR.seq r.l n = some r.l[i] := fun i hi q => (findS_iff DecisionR.seq hrise n _).2 ⟨List.getElem_mem hi, q⟩
  have hq2 : (∀ (i : Nat) (hi : i < r.l.length), r.l[i].seq ≠ n) → findS DecisionR.seq r.l n = none := fun q => (findS_none _).2 fun x hx => by obtain ⟨k, hk, rfl⟩ := List.getElem_of_mem hx; exact q k hk
  subst e2
  refine PCall.mk (fun _ => false) Try.func18 rfl rfl rfl (Ent.mk Try.func18 (by kernel_rfl) rfl) (by simp) (by simp) fun hfit => ?_
  simp [Try.f18]
  try simp [hj, hd, RowR.enc]
  repeat' (first
    | ((first | refine Tst.go (fun hw_ ew_ => ?_) (fun hw_ ew_ => ?_)) <;> first | (exfalso; first | omega | with_reducible exact hw_ (by assumption) | with_reducible exact absurd hw_ (by assumption)) | (have nw_ := Nw.nw hw_; simp [ew_, nw_, hj, hd, RowR.enc]) | simp [ew_, hj, hd, RowR.enc])
    | ((first | (refine Pc.go (h1) ?_ ?_; focus (first | rfl | (simp [hj, hd, RowR.enc]; done))) | (refine Pc.go (hp) ?_ ?_; focus (first | rfl | (simp [hj, hd, RowR.enc]; done))) | rw [if_pos (by first | omega | (simp only [maxLen]; omega))] | rw [if_neg (by first | omega | (simp only [maxLen]; omega))] | rw [frzOwn_neat (by simp) (by simp <;> omega)] | rw [fzOwn_neat (by simp) (by simp <;> omega)]); try simp [hj, hd, RowR.enc])
    | ((first | refine TstB.go (fun hw_ ew_ => ?_) (fun hw_ ew_ => ?_)) <;> first | (exfalso; first | omega | with_reducible exact hw_ (by assumption) | with_reducible exact absurd hw_ (by assumption)) | simp [ew_, hj, hd, RowR.enc])
    | fail)
  refine AW.loopG (lit := fun _ => false) (fun i : Nat => ⟨52, pat [(3, I n), (11, .ptr 0 0 0), (12, I i)], [.cells 0 [I l[j].client, I l[j].epoch, I l[j].done, encL DecisionR.enc l[j].l]]⟩) (fun i => l[j].l.length - i) (fun i => i ≤ l[j].l.length ∧ ∀ k (h : k < l[j].l.length), k < i → l[j].l[k].seq ≠ n) 0 ?_ ?_ ?_
  · exact Wk.at _ rfl (by simp) (by simp)
  · exact ⟨by simp, fun k _ h => by omega⟩
  rintro i ⟨g1, g2⟩ A hA
  by_cases hi : i < l[j].l.length
  case neg =>
    have hn := hq2 fun k hk => g2 k hk (by omega)
    try simp [hi, hn]
    repeat' (first
      | ((first | refine Tst.go (fun hw_ ew_ => ?_) (fun hw_ ew_ => ?_)) <;> first | (exfalso; first | omega | with_reducible exact hw_ (by assumption) | with_reducible exact absurd hw_ (by assumption)) | (have nw_ := Nw.nw hw_; simp [ew_, nw_, hi, hn]) | simp [ew_, hi, hn])
      | ((first | rw [if_pos (by first | omega | (simp only [maxLen]; omega))] | rw [if_neg (by first | omega | (simp only [maxLen]; omega))] | rw [frzOwn_neat (by simp) (by simp <;> omega)] | rw [fzOwn_neat (by simp) (by simp <;> omega)]); try simp [hi, hn])
      | ((first | refine TstB.go (fun hw_ ew_ => ?_) (fun hw_ ew_ => ?_)) <;> first | (exfalso; first | omega | with_reducible exact hw_ (by assumption) | with_reducible exact absurd hw_ (by assumption)) | simp [ew_, hi, hn])
      | fail)
  have hwi := wrap_nat hi (by simp only [maxLen]; omega)
  by_cases hs : l[j].l[i].seq = n
  · have hn := hq i hi hs
    try simp [hi, hs, hn, DecisionR.enc]
    repeat' (first
      | ((first | refine Tst.go (fun hw_ ew_ => ?_) (fun hw_ ew_ => ?_)) <;> first | (exfalso; first | omega | with_reducible exact hw_ (by assumption) | with_reducible exact absurd hw_ (by assumption)) | (have nw_ := Nw.nw hw_; simp [ew_, nw_, hi, hs, hn, DecisionR.enc]) | simp [ew_, hi, hs, hn, DecisionR.enc])
      | ((first | rw [if_pos (by first | omega | (simp only [maxLen]; omega))] | rw [if_neg (by first | omega | (simp only [maxLen]; omega))] | rw [frzOwn_neat (by simp) (by simp <;> omega)] | rw [fzOwn_neat (by simp) (by simp <;> omega)]); try simp [hi, hs, hn, DecisionR.enc])
      | ((first | refine TstB.go (fun hw_ ew_ => ?_) (fun hw_ ew_ => ?_)) <;> first | (exfalso; first | omega | with_reducible exact hw_ (by assumption) | with_reducible exact absurd hw_ (by assumption)) | simp [ew_, hi, hs, hn, DecisionR.enc])
      | fail)
  · try simp [hi, hs, hwi, DecisionR.enc]
    repeat' (first
      | ((first | refine Tst.go (fun hw_ ew_ => ?_) (fun hw_ ew_ => ?_)) <;> first | (exfalso; first | omega | with_reducible exact hw_ (by assumption) | with_reducible exact absurd hw_ (by assumption)) | (have nw_ := Nw.nw hw_; simp [ew_, nw_, hi, hs, hwi, DecisionR.enc]) | simp [ew_, hi, hs, hwi, DecisionR.enc])
      | (exact hA (i + 1) _ (Wk.at _ rfl (by simp) (by simp)) ⟨hi, fun k h q => by rcases Nat.lt_or_ge k i with q2 | q2; (· exact g2 k h q2); (obtain rfl : k = i := (by omega); exact hs)⟩ (by omega))
      | ((first | rw [if_pos (by first | omega | (simp only [maxLen]; omega))] | rw [if_neg (by first | omega | (simp only [maxLen]; omega))] | rw [frzOwn_neat (by simp) (by simp <;> omega)] | rw [fzOwn_neat (by simp) (by simp <;> omega)]); try simp [hi, hs, hwi, DecisionR.enc])
      | ((first | refine TstB.go (fun hw_ ew_ => ?_) (fun hw_ ew_ => ?_)) <;> first | (exfalso; first | omega | with_reducible exact hw_ (by assumption) | with_reducible exact absurd hw_ (by assumption)) | simp [ew_, hi, hs, hwi, DecisionR.enc])
      | fail)
end Go.Proofs.Ytpbjeabigckijaa
