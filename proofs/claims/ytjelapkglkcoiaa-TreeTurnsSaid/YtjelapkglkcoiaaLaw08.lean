/- The statements of layer 8 hold, part one: TreeRights, TreeBelow. -/
import Derived.Test.YtjelapkglkcoiaaTreD
import Derived.Test.YtjelapkglkcoiaaBg
import Derived.Test.YtjelapkglkcoiaaBe
set_option linter.unusedVariables false
set_option linter.unusedSimpArgs false
namespace Go.Proofs.Ytjelapkglkcoiaa
open Go.Cx Tab
set_option maxHeartbeats 400000
set_option maxRecDepth 40000

theorem newF_rows : rowsOk newF = true := by decide
theorem newF_right : rightF newF = true := by
  have h1 : countsS newF.l [] = [] := rfl
  simp only [rightF, newF_rows, h1]
  simp [newF, headF, nodeS, getM]
theorem newF_below (a b : Int) : decide (0 < getM (underS newF.l a) b) = false := by
  rw [decide_eq_false_iff_not, below_eq (by simp [newF])]
  intro h
  have := reach_all h
  simp [allKids, newF] at this
theorem shown08_ok : PCall Try.prog 20 [] (B true) := by
  refine PCall.mk (fun _ => false) Try.func20 rfl rfl rfl (Ent.mk Try.func20 (by kernel_rfl) rfl) (by simp) (by simp) fun hfit => ?_
  simp [Try.f20]
  have h0 := new_ok
  have h1 : PCall Try.prog 24 [encF newF, I 1] (I 0) := names_ok newF 1
  have h2 := below_ok newF 1 1 (by simp [newF]) (by simp [newF])
  rw [newF_below] at h2
  have h3 := right_ok newF
  rw [newF_right] at h3
  have hl : newF.l.length = 1 := rfl
  have hn : newF.next = 2 := rfl
  generalize newF = F at *
  try simp [FSR.enc, hl, hn]
  repeat' (first
    | ((first | refine Tst.go (fun hw_ ew_ => ?_) (fun hw_ ew_ => ?_)) <;> first | (exfalso; first | omega | with_reducible exact hw_ (by assumption) | with_reducible exact absurd hw_ (by assumption)) | (have nw_ := Nw.nw hw_; simp [ew_, nw_, FSR.enc, hl, hn]) | simp [ew_, FSR.enc, hl, hn])
    | ((first | (refine Pc.go (h0) ?_ ?_; focus (first | rfl | (simp [FSR.enc, hl, hn]; done))) | (refine Pc.go (h1) ?_ ?_; focus (first | rfl | (simp [FSR.enc, hl, hn]; done))) | (refine Pc.go (h2) ?_ ?_; focus (first | rfl | (simp [FSR.enc, hl, hn]; done))) | (refine Pc.go (h3) ?_ ?_; focus (first | rfl | (simp [FSR.enc, hl, hn]; done))) | rw [if_pos (by first | omega | (simp only [maxLen]; omega))] | rw [if_neg (by first | omega | (simp only [maxLen]; omega))] | rw [frzOwn_neat (by simp) (by simp <;> omega)] | rw [fzOwn_neat (by simp) (by simp <;> omega)]); try simp [FSR.enc, hl, hn])
    | ((first | refine TstB.go (fun hw_ ew_ => ?_) (fun hw_ ew_ => ?_)) <;> first | (exfalso; first | omega | with_reducible exact hw_ (by assumption) | with_reducible exact absurd hw_ (by assumption)) | simp [ew_, FSR.enc, hl, hn])
    | fail)

theorem law_rights (f : FSR) (i : Int) : PCall Try.prog 4 [encF f, I i] (B true) := by
  have h0 := shown08_ok
  have h1 := few_ok f
  have h2 := right_ok f
  by_cases hr : rightF f = true
  case neg =>
    rw [Bool.not_eq_true] at hr
    rw [hr] at h2
    refine PCall.mk (fun _ => false) Try.func4 rfl rfl rfl (Ent.mk Try.func4 (by kernel_rfl) rfl) (by simp) (by simp) fun hfit => ?_
    simp [Try.f4, FSR.enc]
    try simp [FSR.enc]
    repeat' (first
      | ((first | refine Tst.go (fun hw_ ew_ => ?_) (fun hw_ ew_ => ?_)) <;> first | (exfalso; first | omega | with_reducible exact hw_ (by assumption) | with_reducible exact absurd hw_ (by assumption)) | (have nw_ := Nw.nw hw_; simp [ew_, nw_, FSR.enc]) | simp [ew_, FSR.enc])
      | ((first | (refine Pc.go (h0) ?_ ?_; focus (first | rfl | (simp [FSR.enc]; done))) | (refine Pc.go (h1) ?_ ?_; focus (first | rfl | (simp [FSR.enc]; done))) | (refine Pc.go (h2) ?_ ?_; focus (first | rfl | (simp [FSR.enc]; done))) | refine AW.draw (id := 5) Try.checked.mixed (fun _ => false) [] [] 41 (by kernel_rfl) ?_ | rw [if_pos (by first | omega | (simp only [maxLen]; omega))] | rw [if_neg (by first | omega | (simp only [maxLen]; omega))] | rw [frzOwn_neat (by simp) (by simp <;> omega)] | rw [fzOwn_neat (by simp) (by simp <;> omega)]); try simp [FSR.enc])
      | ((first | refine TstB.go (fun hw_ ew_ => ?_) (fun hw_ ew_ => ?_)) <;> first | (exfalso; first | omega | with_reducible exact hw_ (by assumption) | with_reducible exact absurd hw_ (by assumption)) | simp [ew_, FSR.enc])
      | fail)
  rw [hr] at h2
  have R := right_of hr
  have hl := R.len
  by_cases hi : 0 ≤ i ∧ i < f.l.length
  case neg =>
    have hi' : i < 0 ∨ (f.l.length : Int) ≤ i := by omega
    refine PCall.mk (fun _ => false) Try.func4 rfl rfl rfl (Ent.mk Try.func4 (by kernel_rfl) rfl) (by simp) (by simp) fun hfit => ?_
    simp [Try.f4, FSR.enc]
    rcases hi' with hi' | hi'
    · try simp [FSR.enc, hi']
      repeat' (first
        | ((first | refine Tst.go (fun hw_ ew_ => ?_) (fun hw_ ew_ => ?_)) <;> first | (exfalso; first | omega | with_reducible exact hw_ (by assumption) | with_reducible exact absurd hw_ (by assumption)) | (have nw_ := Nw.nw hw_; simp [ew_, nw_, FSR.enc, hi']) | simp [ew_, FSR.enc, hi'])
        | ((first | (refine Pc.go (h0) ?_ ?_; focus (first | rfl | (simp [FSR.enc, hi']; done))) | (refine Pc.go (h1) ?_ ?_; focus (first | rfl | (simp [FSR.enc, hi']; done))) | (refine Pc.go (h2) ?_ ?_; focus (first | rfl | (simp [FSR.enc, hi']; done))) | refine AW.draw (id := 5) Try.checked.mixed (fun _ => false) [] [] 41 (by kernel_rfl) ?_ | rw [if_pos (by first | omega | (simp only [maxLen]; omega))] | rw [if_neg (by first | omega | (simp only [maxLen]; omega))] | rw [frzOwn_neat (by simp) (by simp <;> omega)] | rw [fzOwn_neat (by simp) (by simp <;> omega)]); try simp [FSR.enc, hi'])
        | ((first | refine TstB.go (fun hw_ ew_ => ?_) (fun hw_ ew_ => ?_)) <;> first | (exfalso; first | omega | with_reducible exact hw_ (by assumption) | with_reducible exact absurd hw_ (by assumption)) | simp [ew_, FSR.enc, hi'])
        | fail)
    · by_cases hi2 : i < 0
      · try simp [FSR.enc, hi2]
        repeat' (first
          | ((first | refine Tst.go (fun hw_ ew_ => ?_) (fun hw_ ew_ => ?_)) <;> first | (exfalso; first | omega | with_reducible exact hw_ (by assumption) | with_reducible exact absurd hw_ (by assumption)) | (have nw_ := Nw.nw hw_; simp [ew_, nw_, FSR.enc, hi2]) | simp [ew_, FSR.enc, hi2])
          | ((first | (refine Pc.go (h0) ?_ ?_; focus (first | rfl | (simp [FSR.enc, hi2]; done))) | (refine Pc.go (h1) ?_ ?_; focus (first | rfl | (simp [FSR.enc, hi2]; done))) | (refine Pc.go (h2) ?_ ?_; focus (first | rfl | (simp [FSR.enc, hi2]; done))) | refine AW.draw (id := 5) Try.checked.mixed (fun _ => false) [] [] 41 (by kernel_rfl) ?_ | rw [if_pos (by first | omega | (simp only [maxLen]; omega))] | rw [if_neg (by first | omega | (simp only [maxLen]; omega))] | rw [frzOwn_neat (by simp) (by simp <;> omega)] | rw [fzOwn_neat (by simp) (by simp <;> omega)]); try simp [FSR.enc, hi2])
          | ((first | refine TstB.go (fun hw_ ew_ => ?_) (fun hw_ ew_ => ?_)) <;> first | (exfalso; first | omega | with_reducible exact hw_ (by assumption) | with_reducible exact absurd hw_ (by assumption)) | simp [ew_, FSR.enc, hi2])
          | fail)
      · try simp [FSR.enc, hi', hi2]
        repeat' (first
          | ((first | refine Tst.go (fun hw_ ew_ => ?_) (fun hw_ ew_ => ?_)) <;> first | (exfalso; first | omega | with_reducible exact hw_ (by assumption) | with_reducible exact absurd hw_ (by assumption)) | (have nw_ := Nw.nw hw_; simp [ew_, nw_, FSR.enc, hi', hi2]) | simp [ew_, FSR.enc, hi', hi2])
          | ((first | (refine Pc.go (h0) ?_ ?_; focus (first | rfl | (simp [FSR.enc, hi', hi2]; done))) | (refine Pc.go (h1) ?_ ?_; focus (first | rfl | (simp [FSR.enc, hi', hi2]; done))) | (refine Pc.go (h2) ?_ ?_; focus (first | rfl | (simp [FSR.enc, hi', hi2]; done))) | refine AW.draw (id := 5) Try.checked.mixed (fun _ => false) [] [] 41 (by kernel_rfl) ?_ | rw [if_pos (by first | omega | (simp only [maxLen]; omega))] | rw [if_neg (by first | omega | (simp only [maxLen]; omega))] | rw [frzOwn_neat (by simp) (by simp <;> omega)] | rw [fzOwn_neat (by simp) (by simp <;> omega)]); try simp [FSR.enc, hi', hi2])
          | ((first | refine TstB.go (fun hw_ ew_ => ?_) (fun hw_ ew_ => ?_)) <;> first | (exfalso; first | omega | with_reducible exact hw_ (by assumption) | with_reducible exact absurd hw_ (by assumption)) | simp [ew_, FSR.enc, hi', hi2])
          | fail)
  obtain ⟨hi0, hi1⟩ := hi
  obtain ⟨k, rfl⟩ := Int.eq_ofNat_of_zero_le hi0
  have hk : k < f.l.length := by omega
  have hmem := List.getElem_mem hk
  have hpos := R.ino_pos hmem
  have c1 : decide (0 < getM (underS f.l 1) f.l[k].ino) = !decide (f.l[k].ino = 1) := by
    by_cases h : f.l[k].ino = 1
    · rw [h]
      simp only [decide_true, Bool.not_true, decide_eq_false_iff_not]
      rw [below_eq R.ent]
      exact R.no_cycle_root 1
    · simp only [h, decide_false, Bool.not_false, decide_eq_true_eq]
      rw [below_eq R.ent]
      exact R.below hmem (by omega)
  have c2 : decide (0 < getM (underS f.l f.l[k].ino) f.l[k].ino) = false := by
    rw [decide_eq_false_iff_not, below_eq R.ent]
    by_cases h : f.l[k].ino = 1
    · rw [h]; exact R.no_cycle_root 1
    · exact R.acyclic (R.below hmem (by omega))
  have c3 : getM (countsS f.l []) f.l[k].ino = f.l[k].links := by rw [names_eq R.len R.ent, R.names _ hmem]
  have c4 : 0 < f.l[k].links ∨ f.l[k].ino = 1 := by
    by_cases h : f.l[k].ino = 1
    · exact .inr h
    · have := R.file _ hmem (by omega)
      exact .inl (by omega)
  have h3 := below_ok f f.l[k].ino 1 (by omega) R.ent
  have h4 := below_ok f f.l[k].ino f.l[k].ino (by omega) R.ent
  have h5 := names_ok f f.l[k].ino
  rw [c1] at h3
  rw [c2] at h4
  rw [c3] at h5
  refine PCall.mk (fun _ => false) Try.func4 rfl rfl rfl (Ent.mk Try.func4 (by kernel_rfl) rfl) (by simp) (by simp) fun hfit => ?_
  simp [Try.f4, FSR.enc]
  rcases c4 with c4 | c4
  · try simp [FSR.enc, hk, c4]
    repeat' (first
      | ((first | refine Tst.go (fun hw_ ew_ => ?_) (fun hw_ ew_ => ?_)) <;> first | (exfalso; first | omega | with_reducible exact hw_ (by assumption) | with_reducible exact absurd hw_ (by assumption)) | (have nw_ := Nw.nw hw_; simp [ew_, nw_, FSR.enc, hk, c4]) | simp [ew_, FSR.enc, hk, c4])
      | ((first | (refine Pc.go (h0) ?_ ?_; focus (first | rfl | (simp [FSR.enc, hk, c4]; done))) | (refine Pc.go (h1) ?_ ?_; focus (first | rfl | (simp [FSR.enc, hk, c4]; done))) | (refine Pc.go (h2) ?_ ?_; focus (first | rfl | (simp [FSR.enc, hk, c4]; done))) | (refine Pc.go (h3) ?_ ?_; focus (first | rfl | (simp [FSR.enc, hk, c4]; done))) | (refine Pc.go (h4) ?_ ?_; focus (first | rfl | (simp [FSR.enc, hk, c4]; done))) | (refine Pc.go (h5) ?_ ?_; focus (first | rfl | (simp [FSR.enc, hk, c4]; done))) | refine AW.draw (id := 5) Try.checked.mixed (fun _ => false) [] [] 41 (by kernel_rfl) ?_ | rw [if_pos (by first | omega | (simp only [maxLen]; omega))] | rw [if_neg (by first | omega | (simp only [maxLen]; omega))] | rw [frzOwn_neat (by simp) (by simp <;> omega)] | rw [fzOwn_neat (by simp) (by simp <;> omega)]); try simp [FSR.enc, hk, c4])
      | ((first | refine TstB.go (fun hw_ ew_ => ?_) (fun hw_ ew_ => ?_)) <;> first | (exfalso; first | omega | with_reducible exact hw_ (by assumption) | with_reducible exact absurd hw_ (by assumption)) | simp [ew_, FSR.enc, hk, c4])
      | fail)
  · try simp [FSR.enc, hk, c4]
    repeat' (first
      | ((first | refine Tst.go (fun hw_ ew_ => ?_) (fun hw_ ew_ => ?_)) <;> first | (exfalso; first | omega | with_reducible exact hw_ (by assumption) | with_reducible exact absurd hw_ (by assumption)) | (have nw_ := Nw.nw hw_; simp [ew_, nw_, FSR.enc, hk, c4]) | simp [ew_, FSR.enc, hk, c4])
      | ((first | (refine Pc.go (h0) ?_ ?_; focus (first | rfl | (simp [FSR.enc, hk, c4]; done))) | (refine Pc.go (h1) ?_ ?_; focus (first | rfl | (simp [FSR.enc, hk, c4]; done))) | (refine Pc.go (h2) ?_ ?_; focus (first | rfl | (simp [FSR.enc, hk, c4]; done))) | (refine Pc.go (h3) ?_ ?_; focus (first | rfl | (simp [FSR.enc, hk, c4]; done))) | (refine Pc.go (h4) ?_ ?_; focus (first | rfl | (simp [FSR.enc, hk, c4]; done))) | (refine Pc.go (h5) ?_ ?_; focus (first | rfl | (simp [FSR.enc, hk, c4]; done))) | refine AW.draw (id := 5) Try.checked.mixed (fun _ => false) [] [] 41 (by kernel_rfl) ?_ | rw [if_pos (by first | omega | (simp only [maxLen]; omega))] | rw [if_neg (by first | omega | (simp only [maxLen]; omega))] | rw [frzOwn_neat (by simp) (by simp <;> omega)] | rw [fzOwn_neat (by simp) (by simp <;> omega)]); try simp [FSR.enc, hk, c4])
      | ((first | refine TstB.go (fun hw_ ew_ => ?_) (fun hw_ ew_ => ?_)) <;> first | (exfalso; first | omega | with_reducible exact hw_ (by assumption) | with_reducible exact absurd hw_ (by assumption)) | simp [ew_, FSR.enc, hk, c4])
      | fail)

theorem law_below (w : TreeBelowInR) : PCall Try.prog 5 [.agg w.enc] (B true) := by
  have h0 := shown08_ok
  have h1 := few_ok w.f
  have h2 := rrows_ok w.f
  by_cases hr : rowsOk w.f = true
  case neg =>
    rw [Bool.not_eq_true] at hr
    rw [hr] at h2
    refine PCall.mk (fun _ => false) Try.func5 rfl rfl rfl (Ent.mk Try.func5 (by kernel_rfl) rfl) (by simp) (by simp) fun hfit => ?_
    simp [Try.f5]
    try simp [FSR.enc]
    repeat' (first
      | ((first | refine Tst.go (fun hw_ ew_ => ?_) (fun hw_ ew_ => ?_)) <;> first | (exfalso; first | omega | with_reducible exact hw_ (by assumption) | with_reducible exact absurd hw_ (by assumption)) | (have nw_ := Nw.nw hw_; simp [ew_, nw_, FSR.enc]) | simp [ew_, FSR.enc])
      | ((first | (refine Pc.go (h0) ?_ ?_; focus (first | rfl | (simp [FSR.enc]; done))) | (refine Pc.go (h1) ?_ ?_; focus (first | rfl | (simp [FSR.enc]; done))) | (refine Pc.go (h2) ?_ ?_; focus (first | rfl | (simp [FSR.enc]; done))) | rw [if_pos (by first | omega | (simp only [maxLen]; omega))] | rw [if_neg (by first | omega | (simp only [maxLen]; omega))] | rw [frzOwn_neat (by simp) (by simp <;> omega)] | rw [fzOwn_neat (by simp) (by simp <;> omega)]); try simp [FSR.enc])
      | ((first | refine TstB.go (fun hw_ ew_ => ?_) (fun hw_ ew_ => ?_)) <;> first | (exfalso; first | omega | with_reducible exact hw_ (by assumption) | with_reducible exact absurd hw_ (by assumption)) | simp [ew_, FSR.enc])
      | fail)
  rw [hr] at h2
  obtain ⟨hl, hE, _⟩ := rowsOk_le hr
  have h3 := below_ok w.f w.a w.b (by omega) hE
  have h4 := below_ok w.f w.b w.c (by omega) hE
  have h5 := below_ok w.f w.a w.c (by omega) hE
  have h6 := names_ok w.f w.a
  rw [names_eq hl hE] at h6
  have c1 : 0 < getM (underS w.f.l w.b) w.a → 0 < getM (underS w.f.l w.c) w.b → 0 < getM (underS w.f.l w.c) w.a := by
    rw [below_eq hE, below_eq hE, below_eq hE]
    exact fun x y => y.trans x
  have c2 : 0 < getM (underS w.f.l w.c) w.a → 1 ≤ (((allKids w.f.l).count w.a : Nat) : Int) := by
    rw [below_eq hE]
    intro h
    have := List.count_pos_iff.2 (reach_all h)
    omega
  generalize getM (underS w.f.l w.b) w.a = x at *
  generalize getM (underS w.f.l w.c) w.b = y at *
  generalize getM (underS w.f.l w.c) w.a = z at *
  generalize (allKids w.f.l).count w.a = n at *
  refine PCall.mk (fun _ => false) Try.func5 rfl rfl rfl (Ent.mk Try.func5 (by kernel_rfl) rfl) (by simp) (by simp) fun hfit => ?_
  simp [Try.f5]
  by_cases hx : 0 < x
  · by_cases hy : 0 < y
    · have hz := c1 hx hy
      have hn := c2 hz
      try simp [FSR.enc, hx, hy, hz, hn]
      repeat' (first
        | ((first | refine Tst.go (fun hw_ ew_ => ?_) (fun hw_ ew_ => ?_)) <;> first | (exfalso; first | omega | with_reducible exact hw_ (by assumption) | with_reducible exact absurd hw_ (by assumption)) | (have nw_ := Nw.nw hw_; simp [ew_, nw_, FSR.enc, hx, hy, hz, hn]) | simp [ew_, FSR.enc, hx, hy, hz, hn])
        | ((first | (refine Pc.go (h0) ?_ ?_; focus (first | rfl | (simp [FSR.enc, hx, hy, hz, hn]; done))) | (refine Pc.go (h1) ?_ ?_; focus (first | rfl | (simp [FSR.enc, hx, hy, hz, hn]; done))) | (refine Pc.go (h2) ?_ ?_; focus (first | rfl | (simp [FSR.enc, hx, hy, hz, hn]; done))) | (refine Pc.go (h3) ?_ ?_; focus (first | rfl | (simp [FSR.enc, hx, hy, hz, hn]; done))) | (refine Pc.go (h4) ?_ ?_; focus (first | rfl | (simp [FSR.enc, hx, hy, hz, hn]; done))) | (refine Pc.go (h5) ?_ ?_; focus (first | rfl | (simp [FSR.enc, hx, hy, hz, hn]; done))) | (refine Pc.go (h6) ?_ ?_; focus (first | rfl | (simp [FSR.enc, hx, hy, hz, hn]; done))) | rw [if_pos (by first | omega | (simp only [maxLen]; omega))] | rw [if_neg (by first | omega | (simp only [maxLen]; omega))] | rw [frzOwn_neat (by simp) (by simp <;> omega)] | rw [fzOwn_neat (by simp) (by simp <;> omega)]); try simp [FSR.enc, hx, hy, hz, hn])
        | ((first | refine TstB.go (fun hw_ ew_ => ?_) (fun hw_ ew_ => ?_)) <;> first | (exfalso; first | omega | with_reducible exact hw_ (by assumption) | with_reducible exact absurd hw_ (by assumption)) | simp [ew_, FSR.enc, hx, hy, hz, hn])
        | fail)
    · by_cases hz : 0 < z
      · have hn := c2 hz
        try simp [FSR.enc, hx, hy, hz, hn]
        repeat' (first
          | ((first | refine Tst.go (fun hw_ ew_ => ?_) (fun hw_ ew_ => ?_)) <;> first | (exfalso; first | omega | with_reducible exact hw_ (by assumption) | with_reducible exact absurd hw_ (by assumption)) | (have nw_ := Nw.nw hw_; simp [ew_, nw_, FSR.enc, hx, hy, hz, hn]) | simp [ew_, FSR.enc, hx, hy, hz, hn])
          | ((first | (refine Pc.go (h0) ?_ ?_; focus (first | rfl | (simp [FSR.enc, hx, hy, hz, hn]; done))) | (refine Pc.go (h1) ?_ ?_; focus (first | rfl | (simp [FSR.enc, hx, hy, hz, hn]; done))) | (refine Pc.go (h2) ?_ ?_; focus (first | rfl | (simp [FSR.enc, hx, hy, hz, hn]; done))) | (refine Pc.go (h3) ?_ ?_; focus (first | rfl | (simp [FSR.enc, hx, hy, hz, hn]; done))) | (refine Pc.go (h4) ?_ ?_; focus (first | rfl | (simp [FSR.enc, hx, hy, hz, hn]; done))) | (refine Pc.go (h5) ?_ ?_; focus (first | rfl | (simp [FSR.enc, hx, hy, hz, hn]; done))) | (refine Pc.go (h6) ?_ ?_; focus (first | rfl | (simp [FSR.enc, hx, hy, hz, hn]; done))) | rw [if_pos (by first | omega | (simp only [maxLen]; omega))] | rw [if_neg (by first | omega | (simp only [maxLen]; omega))] | rw [frzOwn_neat (by simp) (by simp <;> omega)] | rw [fzOwn_neat (by simp) (by simp <;> omega)]); try simp [FSR.enc, hx, hy, hz, hn])
          | ((first | refine TstB.go (fun hw_ ew_ => ?_) (fun hw_ ew_ => ?_)) <;> first | (exfalso; first | omega | with_reducible exact hw_ (by assumption) | with_reducible exact absurd hw_ (by assumption)) | simp [ew_, FSR.enc, hx, hy, hz, hn])
          | fail)
      · try simp [FSR.enc, hx, hy, hz]
        repeat' (first
          | ((first | refine Tst.go (fun hw_ ew_ => ?_) (fun hw_ ew_ => ?_)) <;> first | (exfalso; first | omega | with_reducible exact hw_ (by assumption) | with_reducible exact absurd hw_ (by assumption)) | (have nw_ := Nw.nw hw_; simp [ew_, nw_, FSR.enc, hx, hy, hz]) | simp [ew_, FSR.enc, hx, hy, hz])
          | ((first | (refine Pc.go (h0) ?_ ?_; focus (first | rfl | (simp [FSR.enc, hx, hy, hz]; done))) | (refine Pc.go (h1) ?_ ?_; focus (first | rfl | (simp [FSR.enc, hx, hy, hz]; done))) | (refine Pc.go (h2) ?_ ?_; focus (first | rfl | (simp [FSR.enc, hx, hy, hz]; done))) | (refine Pc.go (h3) ?_ ?_; focus (first | rfl | (simp [FSR.enc, hx, hy, hz]; done))) | (refine Pc.go (h4) ?_ ?_; focus (first | rfl | (simp [FSR.enc, hx, hy, hz]; done))) | (refine Pc.go (h5) ?_ ?_; focus (first | rfl | (simp [FSR.enc, hx, hy, hz]; done))) | (refine Pc.go (h6) ?_ ?_; focus (first | rfl | (simp [FSR.enc, hx, hy, hz]; done))) | rw [if_pos (by first | omega | (simp only [maxLen]; omega))] | rw [if_neg (by first | omega | (simp only [maxLen]; omega))] | rw [frzOwn_neat (by simp) (by simp <;> omega)] | rw [fzOwn_neat (by simp) (by simp <;> omega)]); try simp [FSR.enc, hx, hy, hz])
          | ((first | refine TstB.go (fun hw_ ew_ => ?_) (fun hw_ ew_ => ?_)) <;> first | (exfalso; first | omega | with_reducible exact hw_ (by assumption) | with_reducible exact absurd hw_ (by assumption)) | simp [ew_, FSR.enc, hx, hy, hz])
          | fail)
  · by_cases hz : 0 < z
    · have hn := c2 hz
      try simp [FSR.enc, hx, hz, hn]
      repeat' (first
        | ((first | refine Tst.go (fun hw_ ew_ => ?_) (fun hw_ ew_ => ?_)) <;> first | (exfalso; first | omega | with_reducible exact hw_ (by assumption) | with_reducible exact absurd hw_ (by assumption)) | (have nw_ := Nw.nw hw_; simp [ew_, nw_, FSR.enc, hx, hz, hn]) | simp [ew_, FSR.enc, hx, hz, hn])
        | ((first | (refine Pc.go (h0) ?_ ?_; focus (first | rfl | (simp [FSR.enc, hx, hz, hn]; done))) | (refine Pc.go (h1) ?_ ?_; focus (first | rfl | (simp [FSR.enc, hx, hz, hn]; done))) | (refine Pc.go (h2) ?_ ?_; focus (first | rfl | (simp [FSR.enc, hx, hz, hn]; done))) | (refine Pc.go (h3) ?_ ?_; focus (first | rfl | (simp [FSR.enc, hx, hz, hn]; done))) | (refine Pc.go (h4) ?_ ?_; focus (first | rfl | (simp [FSR.enc, hx, hz, hn]; done))) | (refine Pc.go (h5) ?_ ?_; focus (first | rfl | (simp [FSR.enc, hx, hz, hn]; done))) | (refine Pc.go (h6) ?_ ?_; focus (first | rfl | (simp [FSR.enc, hx, hz, hn]; done))) | rw [if_pos (by first | omega | (simp only [maxLen]; omega))] | rw [if_neg (by first | omega | (simp only [maxLen]; omega))] | rw [frzOwn_neat (by simp) (by simp <;> omega)] | rw [fzOwn_neat (by simp) (by simp <;> omega)]); try simp [FSR.enc, hx, hz, hn])
        | ((first | refine TstB.go (fun hw_ ew_ => ?_) (fun hw_ ew_ => ?_)) <;> first | (exfalso; first | omega | with_reducible exact hw_ (by assumption) | with_reducible exact absurd hw_ (by assumption)) | simp [ew_, FSR.enc, hx, hz, hn])
        | fail)
    · try simp [FSR.enc, hx, hz]
      repeat' (first
        | ((first | refine Tst.go (fun hw_ ew_ => ?_) (fun hw_ ew_ => ?_)) <;> first | (exfalso; first | omega | with_reducible exact hw_ (by assumption) | with_reducible exact absurd hw_ (by assumption)) | (have nw_ := Nw.nw hw_; simp [ew_, nw_, FSR.enc, hx, hz]) | simp [ew_, FSR.enc, hx, hz])
        | ((first | (refine Pc.go (h0) ?_ ?_; focus (first | rfl | (simp [FSR.enc, hx, hz]; done))) | (refine Pc.go (h1) ?_ ?_; focus (first | rfl | (simp [FSR.enc, hx, hz]; done))) | (refine Pc.go (h2) ?_ ?_; focus (first | rfl | (simp [FSR.enc, hx, hz]; done))) | (refine Pc.go (h3) ?_ ?_; focus (first | rfl | (simp [FSR.enc, hx, hz]; done))) | (refine Pc.go (h4) ?_ ?_; focus (first | rfl | (simp [FSR.enc, hx, hz]; done))) | (refine Pc.go (h5) ?_ ?_; focus (first | rfl | (simp [FSR.enc, hx, hz]; done))) | (refine Pc.go (h6) ?_ ?_; focus (first | rfl | (simp [FSR.enc, hx, hz]; done))) | rw [if_pos (by first | omega | (simp only [maxLen]; omega))] | rw [if_neg (by first | omega | (simp only [maxLen]; omega))] | rw [frzOwn_neat (by simp) (by simp <;> omega)] | rw [fzOwn_neat (by simp) (by simp <;> omega)]); try simp [FSR.enc, hx, hz])
        | ((first | refine TstB.go (fun hw_ ew_ => ?_) (fun hw_ ew_ => ?_)) <;> first | (exfalso; first | omega | with_reducible exact hw_ (by assumption) | with_reducible exact absurd hw_ (by assumption)) | simp [ew_, FSR.enc, hx, hz])
        | fail)
end Go.Proofs.Ytjelapkglkcoiaa
