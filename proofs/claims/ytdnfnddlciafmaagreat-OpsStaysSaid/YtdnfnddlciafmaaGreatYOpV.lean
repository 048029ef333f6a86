import Derived.Test.YtdnfnddlciafmaaGreatYOpU
set_option linter.unusedVariables false
set_option linter.unusedSimpArgs false
namespace Go.Proofs.YtdnfnddlciafmaaGreat
open Go.Cx Tab
set_option maxHeartbeats 400000
set_option maxRecDepth 40000
theorem rright08_ok (f : FSR) : PCall Tryz.prog 24 [encF f] (B (rightF f)) := by
  have h1 := rrows_ok f
  cases hrow : rowsOk f with
  | false =>
    rw [hrow] at h1
    have e : rightF f = false := by simp [rightF, hrow]
    rw [e]
    refine PCall.mk (fun _ => false) Tryz.func24 rfl rfl rfl (Ent.mk Tryz.func24 (by kernel_rfl) rfl) (by simp) (by simp) fun hfit => ?_
    simp [Tryz.f24, FSR.enc]
    try simp [FSR.enc]
    repeat' (first
      | ((first | refine Tst.go (fun hw_ ew_ => ?_) (fun hw_ ew_ => ?_)) <;> first | (exfalso; first | omega | with_reducible exact hw_ (by assumption) | with_reducible exact absurd hw_ (by assumption)) | (have nw_ := Nw.nw hw_; simp [ew_, nw_, FSR.enc]) | simp [ew_, FSR.enc])
      | ((first | (refine Pc.go (h1) ?_ ?_; focus (first | rfl | (simp [FSR.enc]; done))) | refine AW.draw (id := 9) Tryz.checked.mixed (fun _ => false) [] [] 7 (by kernel_rfl) ?_ | rw [if_pos (by first | omega | (simp only [maxLen]; omega))] | rw [if_neg (by first | omega | (simp only [maxLen]; omega))] | rw [frzOwn_neat (by simp) (by simp <;> omega)] | rw [fzOwn_neat (by simp) (by simp <;> omega)]); try simp [FSR.enc])
      | ((first | refine TstB.go (fun hw_ ew_ => ?_) (fun hw_ ew_ => ?_)) <;> first | (exfalso; first | omega | with_reducible exact hw_ (by assumption) | with_reducible exact absurd hw_ (by assumption)) | simp [ew_, FSR.enc])
      | fail)
  | true =>
  rw [hrow] at h1
  have R := (rows_iff f).1 hrow
  have hlen := R.len
  cases hh : headF f.l with
  | false =>
    have e : rightF f = false := by simp [rightF, hh]
    rw [e]
    by_cases q0 : f.l.length < 1
    · have q0' : f.l.length = 0 := by omega
      refine PCall.mk (fun _ => false) Tryz.func24 rfl rfl rfl (Ent.mk Tryz.func24 (by kernel_rfl) rfl) (by simp) (by simp) fun hfit => ?_
      simp [Tryz.f24, FSR.enc]
      try simp [q0, q0', FSR.enc]
      repeat' (first
        | ((first | refine Tst.go (fun hw_ ew_ => ?_) (fun hw_ ew_ => ?_)) <;> first | (exfalso; first | omega | with_reducible exact hw_ (by assumption) | with_reducible exact absurd hw_ (by assumption)) | (have nw_ := Nw.nw hw_; simp [ew_, nw_, q0, q0', FSR.enc]) | simp [ew_, q0, q0', FSR.enc])
        | ((first | (refine Pc.go (h1) ?_ ?_; focus (first | rfl | (simp [q0, q0', FSR.enc]; done))) | refine AW.draw (id := 9) Tryz.checked.mixed (fun _ => false) [] [] 7 (by kernel_rfl) ?_ | rw [if_pos (by first | omega | (simp only [maxLen]; omega))] | rw [if_neg (by first | omega | (simp only [maxLen]; omega))] | rw [frzOwn_neat (by simp) (by simp <;> omega)] | rw [fzOwn_neat (by simp) (by simp <;> omega)]); try simp [q0, q0', FSR.enc])
        | ((first | refine TstB.go (fun hw_ ew_ => ?_) (fun hw_ ew_ => ?_)) <;> first | (exfalso; first | omega | with_reducible exact hw_ (by assumption) | with_reducible exact absurd hw_ (by assumption)) | simp [ew_, q0, q0', FSR.enc])
        | fail)
    have q1 : 0 < f.l.length := by omega
    have hd : headF f.l = (decide (f.l[0].ino = 1) && decide (f.l[0].kind = 2) && decide (f.l[0].links = 0)) := by
      have : ∀ (l : List NodeR) (h : 0 < l.length), headF l = (decide (l[0].ino = 1) && decide (l[0].kind = 2) && decide (l[0].links = 0)) := fun l h => by
        cases l with
        | nil => simp at h
        | cons r l => rfl
      exact this f.l q1
    rw [hd] at hh
    by_cases q2 : f.l[0].ino = 1
    case neg =>
      refine PCall.mk (fun _ => false) Tryz.func24 rfl rfl rfl (Ent.mk Tryz.func24 (by kernel_rfl) rfl) (by simp) (by simp) fun hfit => ?_
      simp [Tryz.f24, FSR.enc]
      try simp [q0, q1, q2, FSR.enc]
      repeat' (first
        | ((first | refine Tst.go (fun hw_ ew_ => ?_) (fun hw_ ew_ => ?_)) <;> first | (exfalso; first | omega | with_reducible exact hw_ (by assumption) | with_reducible exact absurd hw_ (by assumption)) | (have nw_ := Nw.nw hw_; simp [ew_, nw_, q0, q1, q2, FSR.enc]) | simp [ew_, q0, q1, q2, FSR.enc])
        | ((first | (refine Pc.go (h1) ?_ ?_; focus (first | rfl | (simp [q0, q1, q2, FSR.enc]; done))) | refine AW.draw (id := 9) Tryz.checked.mixed (fun _ => false) [] [] 7 (by kernel_rfl) ?_ | rw [if_pos (by first | omega | (simp only [maxLen]; omega))] | rw [if_neg (by first | omega | (simp only [maxLen]; omega))] | rw [frzOwn_neat (by simp) (by simp <;> omega)] | rw [fzOwn_neat (by simp) (by simp <;> omega)]); try simp [q0, q1, q2, FSR.enc])
        | ((first | refine TstB.go (fun hw_ ew_ => ?_) (fun hw_ ew_ => ?_)) <;> first | (exfalso; first | omega | with_reducible exact hw_ (by assumption) | with_reducible exact absurd hw_ (by assumption)) | simp [ew_, q0, q1, q2, FSR.enc])
        | fail)
    by_cases q3 : f.l[0].kind = 2
    case neg =>
      refine PCall.mk (fun _ => false) Tryz.func24 rfl rfl rfl (Ent.mk Tryz.func24 (by kernel_rfl) rfl) (by simp) (by simp) fun hfit => ?_
      simp [Tryz.f24, FSR.enc]
      try simp [q0, q1, q2, q3, FSR.enc]
      repeat' (first
        | ((first | refine Tst.go (fun hw_ ew_ => ?_) (fun hw_ ew_ => ?_)) <;> first | (exfalso; first | omega | with_reducible exact hw_ (by assumption) | with_reducible exact absurd hw_ (by assumption)) | (have nw_ := Nw.nw hw_; simp [ew_, nw_, q0, q1, q2, q3, FSR.enc]) | simp [ew_, q0, q1, q2, q3, FSR.enc])
        | ((first | (refine Pc.go (h1) ?_ ?_; focus (first | rfl | (simp [q0, q1, q2, q3, FSR.enc]; done))) | refine AW.draw (id := 9) Tryz.checked.mixed (fun _ => false) [] [] 7 (by kernel_rfl) ?_ | rw [if_pos (by first | omega | (simp only [maxLen]; omega))] | rw [if_neg (by first | omega | (simp only [maxLen]; omega))] | rw [frzOwn_neat (by simp) (by simp <;> omega)] | rw [fzOwn_neat (by simp) (by simp <;> omega)]); try simp [q0, q1, q2, q3, FSR.enc])
        | ((first | refine TstB.go (fun hw_ ew_ => ?_) (fun hw_ ew_ => ?_)) <;> first | (exfalso; first | omega | with_reducible exact hw_ (by assumption) | with_reducible exact absurd hw_ (by assumption)) | simp [ew_, q0, q1, q2, q3, FSR.enc])
        | fail)
    by_cases q4 : f.l[0].links = 0
    case neg =>
      refine PCall.mk (fun _ => false) Tryz.func24 rfl rfl rfl (Ent.mk Tryz.func24 (by kernel_rfl) rfl) (by simp) (by simp) fun hfit => ?_
      simp [Tryz.f24, FSR.enc]
      try simp [q0, q1, q2, q3, q4, FSR.enc]
      repeat' (first
        | ((first | refine Tst.go (fun hw_ ew_ => ?_) (fun hw_ ew_ => ?_)) <;> first | (exfalso; first | omega | with_reducible exact hw_ (by assumption) | with_reducible exact absurd hw_ (by assumption)) | (have nw_ := Nw.nw hw_; simp [ew_, nw_, q0, q1, q2, q3, q4, FSR.enc]) | simp [ew_, q0, q1, q2, q3, q4, FSR.enc])
        | ((first | (refine Pc.go (h1) ?_ ?_; focus (first | rfl | (simp [q0, q1, q2, q3, q4, FSR.enc]; done))) | refine AW.draw (id := 9) Tryz.checked.mixed (fun _ => false) [] [] 7 (by kernel_rfl) ?_ | rw [if_pos (by first | omega | (simp only [maxLen]; omega))] | rw [if_neg (by first | omega | (simp only [maxLen]; omega))] | rw [frzOwn_neat (by simp) (by simp <;> omega)] | rw [fzOwn_neat (by simp) (by simp <;> omega)]); try simp [q0, q1, q2, q3, q4, FSR.enc])
        | ((first | refine TstB.go (fun hw_ ew_ => ?_) (fun hw_ ew_ => ?_)) <;> first | (exfalso; first | omega | with_reducible exact hw_ (by assumption) | with_reducible exact absurd hw_ (by assumption)) | simp [ew_, q0, q1, q2, q3, q4, FSR.enc])
        | fail)
    simp [q2, q3, q4] at hh
  | true =>
  have hE : ∀ n ∈ f.l, n.l.length ≤ 256 := fun n hn => ((rowOk_iff _).1 ((nodeOk_iff n).1 (R.ok n hn)).row).len
  have hiff := rightF_iff f R hh
  have hhd : ∃ h : 0 < f.l.length, f.l[0].ino = 1 ∧ f.l[0].kind = 2 ∧ f.l[0].links = 0 := by
    have : ∀ (l : List NodeR), headF l = true → ∃ h : 0 < l.length, l[0].ino = 1 ∧ l[0].kind = 2 ∧ l[0].links = 0 := fun l h => by
      cases l with
      | nil => simp at h
      | cons r l =>
        simp only [headF_cons, Bool.and_eq_true, decide_eq_true_eq] at h
        exact ⟨by simp, h.1.1, h.1.2, h.2⟩
    exact this f.l hh
  obtain ⟨q1, q2, q3, q4⟩ := hhd
  have q0 : ¬ f.l.length < 1 := by omega
  have h2 := under08_ok f 1 R.rise R.len hE
  have hak := allKids_le hE
  have hbl := belowL_len f.l 1
  have hnm := fun k => rnames08_ok f k R.len hE
  have hfd := fun k => rfind08_ok f k R.rise (by omega)
  have bad : ∀ (i : Nat) (hi : i < f.l.length), ¬ GoodN f.l i f.l[i] → rightF f = false := fun i hi hb => by
    cases hr : rightF f with
    | false => rfl
    | true => exact absurd (hiff.1 hr i hi) hb
  have good := hiff.2
  clear hiff R hrow hh
  obtain ⟨l, next⟩ := f
  simp only at *
  generalize rightF ⟨l, next⟩ = rf at *
  refine PCall.mk (fun _ => false) Tryz.func24 rfl rfl rfl (Ent.mk Tryz.func24 (by kernel_rfl) rfl) (by simp) (by simp) fun hfit => ?_
  simp [Tryz.f24, FSR.enc]
  try simp [q0, q1, q2, q3, q4, FSR.enc]
  repeat' (first
    | ((first | refine Tst.go (fun hw_ ew_ => ?_) (fun hw_ ew_ => ?_)) <;> first | (exfalso; first | omega | with_reducible exact hw_ (by assumption) | with_reducible exact absurd hw_ (by assumption)) | (have nw_ := Nw.nw hw_; simp [ew_, nw_, q0, q1, q2, q3, q4, FSR.enc]) | simp [ew_, q0, q1, q2, q3, q4, FSR.enc])
    | ((first | (refine Pc.go (h1) ?_ ?_; focus (first | rfl | (simp [q0, q1, q2, q3, q4, FSR.enc]; done))) | (refine Pc.go (h2) ?_ ?_; focus (first | rfl | (simp [q0, q1, q2, q3, q4, FSR.enc]; done))) | refine AW.draw (id := 9) Tryz.checked.mixed (fun _ => false) [] [] 7 (by kernel_rfl) ?_ | rw [if_pos (by first | omega | (simp only [maxLen]; omega))] | rw [if_neg (by first | omega | (simp only [maxLen]; omega))] | rw [frzOwn_neat (by simp) (by simp <;> omega)] | rw [fzOwn_neat (by simp) (by simp <;> omega)]); try simp [q0, q1, q2, q3, q4, FSR.enc])
    | ((first | refine TstB.go (fun hw_ ew_ => ?_) (fun hw_ ew_ => ?_)) <;> first | (exfalso; first | omega | with_reducible exact hw_ (by assumption) | with_reducible exact absurd hw_ (by assumption)) | simp [ew_, q0, q1, q2, q3, q4, FSR.enc])
    | fail)
  refine AW.loopG (lit := fun _ => false) (fun i : Nat => ⟨111, pat [(1, .ptr 0 0 0), (4, enc1 I (belowL l 1)), (5, I i)], [.cells 0 [encL NodeR.enc l, I next]]⟩) (fun i => l.length - i) (fun i => i ≤ l.length ∧ ∀ j (h : j < l.length), j < i → GoodN l j l[j]) 0 ?_ ?_ ?_
  · exact Wk.at _ rfl (by simp) (by simp)
  · simp
  rintro i ⟨g1, g2⟩ A hA
  by_cases hi : i < l.length
  case neg =>
    have e : rf = true := good fun j h => g2 j h (by omega)
    subst e
    try simp [hi]
    repeat' (first
      | ((first | refine Tst.go (fun hw_ ew_ => ?_) (fun hw_ ew_ => ?_)) <;> first | (exfalso; first | omega | with_reducible exact hw_ (by assumption) | with_reducible exact absurd hw_ (by assumption)) | (have nw_ := Nw.nw hw_; simp [ew_, nw_, hi]) | simp [ew_, hi])
      | ((first | refine AW.draw (id := 9) Tryz.checked.mixed (fun _ => false) [] [] 7 (by kernel_rfl) ?_ | rw [if_pos (by first | omega | (simp only [maxLen]; omega))] | rw [if_neg (by first | omega | (simp only [maxLen]; omega))] | rw [frzOwn_neat (by simp) (by simp <;> omega)] | rw [fzOwn_neat (by simp) (by simp <;> omega)]); try simp [hi])
      | ((first | refine TstB.go (fun hw_ ew_ => ?_) (fun hw_ ew_ => ?_)) <;> first | (exfalso; first | omega | with_reducible exact hw_ (by assumption) | with_reducible exact absurd hw_ (by assumption)) | simp [ew_, hi])
      | fail)
  have hwi := wrap_nat hi (by simp only [maxLen]; omega)
  have hb := bad i hi
  have c1 := hnm l[i].ino
  have c2 := has_ok (belowL l 1) l[i].ino (by omega)
  by_cases r1 : l[i].links = ((allKids l).count l[i].ino : Nat)
  case neg =>
    have e : rf = false := hb fun g => r1 g.links
    subst e
    try simp [hi, r1, FSR.enc]
    repeat' (first
      | ((first | refine Tst.go (fun hw_ ew_ => ?_) (fun hw_ ew_ => ?_)) <;> first | (exfalso; first | omega | with_reducible exact hw_ (by assumption) | with_reducible exact absurd hw_ (by assumption)) | (have nw_ := Nw.nw hw_; simp [ew_, nw_, hi, r1, FSR.enc]) | simp [ew_, hi, r1, FSR.enc])
      | ((first | (refine Pc.go (c1) ?_ ?_; focus (first | rfl | (simp [hi, r1, FSR.enc]; done))) | refine AW.draw (id := 9) Tryz.checked.mixed (fun _ => false) [] [] 7 (by kernel_rfl) ?_ | rw [if_pos (by first | omega | (simp only [maxLen]; omega))] | rw [if_neg (by first | omega | (simp only [maxLen]; omega))] | rw [frzOwn_neat (by simp) (by simp <;> omega)] | rw [fzOwn_neat (by simp) (by simp <;> omega)]); try simp [hi, r1, FSR.enc])
      | ((first | refine TstB.go (fun hw_ ew_ => ?_) (fun hw_ ew_ => ?_)) <;> first | (exfalso; first | omega | with_reducible exact hw_ (by assumption) | with_reducible exact absurd hw_ (by assumption)) | simp [ew_, hi, r1, FSR.enc])
      | fail)
  by_cases r2 : badN l i l[i]
  · have e : rf = false := hb fun g => g.not r2
    subst e
    obtain ⟨r2, r3⟩ := r2
    by_cases p1 : l[i].links < 1
    · by_cases mb : l[i].ino ∈ belowL l 1
      · rw [show decide (l[i].ino ∈ belowL l 1) = true from decide_eq_true mb] at c2
        try simp [hi, r1, r2, p1, FSR.enc]
        repeat' (first
          | ((first | refine Tst.go (fun hw_ ew_ => ?_) (fun hw_ ew_ => ?_)) <;> first | (exfalso; first | omega | with_reducible exact hw_ (by assumption) | with_reducible exact absurd hw_ (by assumption)) | (have nw_ := Nw.nw hw_; simp [ew_, nw_, hi, r1, r2, p1, FSR.enc]) | simp [ew_, hi, r1, r2, p1, FSR.enc])
          | ((first | (refine Pc.go (c1) ?_ ?_; focus (first | rfl | (simp [hi, r1, r2, p1, FSR.enc]; done))) | (refine Pc.go (c2) ?_ ?_; focus (first | rfl | (simp [hi, r1, r2, p1, FSR.enc]; done))) | refine AW.draw (id := 9) Tryz.checked.mixed (fun _ => false) [] [] 7 (by kernel_rfl) ?_ | rw [if_pos (by first | omega | (simp only [maxLen]; omega))] | rw [if_neg (by first | omega | (simp only [maxLen]; omega))] | rw [frzOwn_neat (by simp) (by simp <;> omega)] | rw [fzOwn_neat (by simp) (by simp <;> omega)]); try simp [hi, r1, r2, p1, FSR.enc])
          | ((first | refine TstB.go (fun hw_ ew_ => ?_) (fun hw_ ew_ => ?_)) <;> first | (exfalso; first | omega | with_reducible exact hw_ (by assumption) | with_reducible exact absurd hw_ (by assumption)) | simp [ew_, hi, r1, r2, p1, FSR.enc])
          | fail)
      · rw [show decide (l[i].ino ∈ belowL l 1) = false from decide_eq_false mb] at c2
        try simp [hi, r1, r2, p1, FSR.enc]
        repeat' (first
          | ((first | refine Tst.go (fun hw_ ew_ => ?_) (fun hw_ ew_ => ?_)) <;> first | (exfalso; first | omega | with_reducible exact hw_ (by assumption) | with_reducible exact absurd hw_ (by assumption)) | (have nw_ := Nw.nw hw_; simp [ew_, nw_, hi, r1, r2, p1, FSR.enc]) | simp [ew_, hi, r1, r2, p1, FSR.enc])
          | ((first | (refine Pc.go (c1) ?_ ?_; focus (first | rfl | (simp [hi, r1, r2, p1, FSR.enc]; done))) | (refine Pc.go (c2) ?_ ?_; focus (first | rfl | (simp [hi, r1, r2, p1, FSR.enc]; done))) | refine AW.draw (id := 9) Tryz.checked.mixed (fun _ => false) [] [] 7 (by kernel_rfl) ?_ | rw [if_pos (by first | omega | (simp only [maxLen]; omega))] | rw [if_neg (by first | omega | (simp only [maxLen]; omega))] | rw [frzOwn_neat (by simp) (by simp <;> omega)] | rw [fzOwn_neat (by simp) (by simp <;> omega)]); try simp [hi, r1, r2, p1, FSR.enc])
          | ((first | refine TstB.go (fun hw_ ew_ => ?_) (fun hw_ ew_ => ?_)) <;> first | (exfalso; first | omega | with_reducible exact hw_ (by assumption) | with_reducible exact absurd hw_ (by assumption)) | simp [ew_, hi, r1, r2, p1, FSR.enc])
          | fail)
    obtain ⟨p2, p3⟩ := r3.resolve_left p1
    by_cases p4 : 1 < l[i].links
    · by_cases mb : l[i].ino ∈ belowL l 1
      · rw [show decide (l[i].ino ∈ belowL l 1) = true from decide_eq_true mb] at c2
        try simp [hi, r1, r2, p1, p2, p4, FSR.enc]
        repeat' (first
          | ((first | refine Tst.go (fun hw_ ew_ => ?_) (fun hw_ ew_ => ?_)) <;> first | (exfalso; first | omega | with_reducible exact hw_ (by assumption) | with_reducible exact absurd hw_ (by assumption)) | (have nw_ := Nw.nw hw_; simp [ew_, nw_, hi, r1, r2, p1, p2, p4, FSR.enc]) | simp [ew_, hi, r1, r2, p1, p2, p4, FSR.enc])
          | ((first | (refine Pc.go (c1) ?_ ?_; focus (first | rfl | (simp [hi, r1, r2, p1, p2, p4, FSR.enc]; done))) | (refine Pc.go (c2) ?_ ?_; focus (first | rfl | (simp [hi, r1, r2, p1, p2, p4, FSR.enc]; done))) | refine AW.draw (id := 9) Tryz.checked.mixed (fun _ => false) [] [] 7 (by kernel_rfl) ?_ | rw [if_pos (by first | omega | (simp only [maxLen]; omega))] | rw [if_neg (by first | omega | (simp only [maxLen]; omega))] | rw [frzOwn_neat (by simp) (by simp <;> omega)] | rw [fzOwn_neat (by simp) (by simp <;> omega)]); try simp [hi, r1, r2, p1, p2, p4, FSR.enc])
          | ((first | refine TstB.go (fun hw_ ew_ => ?_) (fun hw_ ew_ => ?_)) <;> first | (exfalso; first | omega | with_reducible exact hw_ (by assumption) | with_reducible exact absurd hw_ (by assumption)) | simp [ew_, hi, r1, r2, p1, p2, p4, FSR.enc])
          | fail)
      · rw [show decide (l[i].ino ∈ belowL l 1) = false from decide_eq_false mb] at c2
        try simp [hi, r1, r2, p1, p2, p4, FSR.enc]
        repeat' (first
          | ((first | refine Tst.go (fun hw_ ew_ => ?_) (fun hw_ ew_ => ?_)) <;> first | (exfalso; first | omega | with_reducible exact hw_ (by assumption) | with_reducible exact absurd hw_ (by assumption)) | (have nw_ := Nw.nw hw_; simp [ew_, nw_, hi, r1, r2, p1, p2, p4, FSR.enc]) | simp [ew_, hi, r1, r2, p1, p2, p4, FSR.enc])
          | ((first | (refine Pc.go (c1) ?_ ?_; focus (first | rfl | (simp [hi, r1, r2, p1, p2, p4, FSR.enc]; done))) | (refine Pc.go (c2) ?_ ?_; focus (first | rfl | (simp [hi, r1, r2, p1, p2, p4, FSR.enc]; done))) | refine AW.draw (id := 9) Tryz.checked.mixed (fun _ => false) [] [] 7 (by kernel_rfl) ?_ | rw [if_pos (by first | omega | (simp only [maxLen]; omega))] | rw [if_neg (by first | omega | (simp only [maxLen]; omega))] | rw [frzOwn_neat (by simp) (by simp <;> omega)] | rw [fzOwn_neat (by simp) (by simp <;> omega)]); try simp [hi, r1, r2, p1, p2, p4, FSR.enc])
          | ((first | refine TstB.go (fun hw_ ew_ => ?_) (fun hw_ ew_ => ?_)) <;> first | (exfalso; first | omega | with_reducible exact hw_ (by assumption) | with_reducible exact absurd hw_ (by assumption)) | simp [ew_, hi, r1, r2, p1, p2, p4, FSR.enc])
          | fail)
    · have mb := p3.resolve_left p4
      rw [show decide (l[i].ino ∈ belowL l 1) = false from decide_eq_false mb] at c2
      try simp [hi, r1, r2, p1, p2, p4, FSR.enc]
      repeat' (first
        | ((first | refine Tst.go (fun hw_ ew_ => ?_) (fun hw_ ew_ => ?_)) <;> first | (exfalso; first | omega | with_reducible exact hw_ (by assumption) | with_reducible exact absurd hw_ (by assumption)) | (have nw_ := Nw.nw hw_; simp [ew_, nw_, hi, r1, r2, p1, p2, p4, FSR.enc]) | simp [ew_, hi, r1, r2, p1, p2, p4, FSR.enc])
        | ((first | (refine Pc.go (c1) ?_ ?_; focus (first | rfl | (simp [hi, r1, r2, p1, p2, p4, FSR.enc]; done))) | (refine Pc.go (c2) ?_ ?_; focus (first | rfl | (simp [hi, r1, r2, p1, p2, p4, FSR.enc]; done))) | refine AW.draw (id := 9) Tryz.checked.mixed (fun _ => false) [] [] 7 (by kernel_rfl) ?_ | rw [if_pos (by first | omega | (simp only [maxLen]; omega))] | rw [if_neg (by first | omega | (simp only [maxLen]; omega))] | rw [frzOwn_neat (by simp) (by simp <;> omega)] | rw [fzOwn_neat (by simp) (by simp <;> omega)]); try simp [hi, r1, r2, p1, p2, p4, FSR.enc])
        | ((first | refine TstB.go (fun hw_ ew_ => ?_) (fun hw_ ew_ => ?_)) <;> first | (exfalso; first | omega | with_reducible exact hw_ (by assumption) | with_reducible exact absurd hw_ (by assumption)) | simp [ew_, hi, r1, r2, p1, p2, p4, FSR.enc])
        | fail)
  by_cases p0 : 0 < i
  case neg =>
    have p0' : i = 0 := by omega
    generalize decide (l[i].ino ∈ belowL l 1) = bb at c2
    try simp [hi, r1, p0, FSR.enc]
    repeat' (first
      | ((first | refine Tst.go (fun hw_ ew_ => ?_) (fun hw_ ew_ => ?_)) <;> first | (exfalso; first | omega | with_reducible exact hw_ (by assumption) | with_reducible exact absurd hw_ (by assumption)) | (have nw_ := Nw.nw hw_; simp [ew_, nw_, hi, r1, p0, FSR.enc]) | simp [ew_, hi, r1, p0, FSR.enc])
      | ((first | (refine Pc.go (c1) ?_ ?_; focus (first | rfl | (simp [hi, r1, p0, FSR.enc]; done))) | (refine Pc.go (c2) ?_ ?_; focus (first | rfl | (simp [hi, r1, p0, FSR.enc]; done))) | refine AW.draw (id := 9) Tryz.checked.mixed (fun _ => false) [] [] 7 (by kernel_rfl) ?_ | rw [if_pos (by first | omega | (simp only [maxLen]; omega))] | rw [if_neg (by first | omega | (simp only [maxLen]; omega))] | rw [frzOwn_neat (by simp) (by simp <;> omega)] | rw [fzOwn_neat (by simp) (by simp <;> omega)]); try simp [hi, r1, p0, FSR.enc])
      | ((first | refine TstB.go (fun hw_ ew_ => ?_) (fun hw_ ew_ => ?_)) <;> first | (exfalso; first | omega | with_reducible exact hw_ (by assumption) | with_reducible exact absurd hw_ (by assumption)) | simp [ew_, hi, r1, p0, FSR.enc])
      | fail)
    refine AW.loopG (lit := fun _ => false) (fun j : Nat => ⟨111, pat [(1, .ptr 0 0 0), (4, enc1 I (belowL l 1)), (5, I i), (6, .ptr 1 0 0), (8, I j)], [.cells 0 [encL NodeR.enc l, I next], .cells 0 l[i].enc]⟩) (fun j => l[i].l.length - j) (fun j => j ≤ l[i].l.length ∧ ∀ q (h : q < l[i].l.length), q < j → (findB l l[i].l[q].ino).2 = true) 0 ?_ ?_ ?_
    · exact Wk.at _ rfl (by simp) (by simp)
    · simp
    rintro j ⟨k1, k2⟩ A2 hA2
    by_cases hj : j < l[i].l.length
    case neg =>
      have gi : GoodN l i l[i] := ⟨r1, r2, fun x hx => by
        obtain ⟨q, hq, rfl⟩ := List.getElem_of_mem hx
        exact k2 q hq (by omega)⟩
      have g3 : ∀ q (h : q < l.length), q < i + 1 → GoodN l q l[q] := fun q h hq => by
        by_cases e : q = i
        · subst e; exact gi
        · exact g2 q h (by omega)
      try simp [hi, hj, hwi]
      repeat' (first
        | ((first | refine Tst.go (fun hw_ ew_ => ?_) (fun hw_ ew_ => ?_)) <;> first | (exfalso; first | omega | with_reducible exact hw_ (by assumption) | with_reducible exact absurd hw_ (by assumption)) | (have nw_ := Nw.nw hw_; simp [ew_, nw_, hi, hj, hwi]) | simp [ew_, hi, hj, hwi])
        | (exact hA (i + 1) _ (Wk.cutAt _ rfl (by simp) (by simp) (by simp) (by simp)) ⟨hi, g3⟩ (by omega))
        | ((first | refine AW.draw (id := 9) Tryz.checked.mixed (fun _ => false) [] [] 7 (by kernel_rfl) ?_ | rw [if_pos (by first | omega | (simp only [maxLen]; omega))] | rw [if_neg (by first | omega | (simp only [maxLen]; omega))] | rw [frzOwn_neat (by simp) (by simp <;> omega)] | rw [fzOwn_neat (by simp) (by simp <;> omega)]); try simp [hi, hj, hwi])
        | ((first | refine TstB.go (fun hw_ ew_ => ?_) (fun hw_ ew_ => ?_)) <;> first | (exfalso; first | omega | with_reducible exact hw_ (by assumption) | with_reducible exact absurd hw_ (by assumption)) | simp [ew_, hi, hj, hwi])
        | fail)
    have hei := hE l[i] (List.getElem_mem hi)
    have hwj := wrap_nat hj (by simp only [maxLen]; omega)
    have c3 : PCall Tryz.prog 25 [.agg [encL NodeR.enc l, I next], I l[i].l[j].ino] (.tup [encN (findB l l[i].l[j].ino).1, B (findB l l[i].l[j].ino).2]) := hfd l[i].l[j].ino
    cases hq : (findB l l[i].l[j].ino).2 with
    | false =>
      have e : rf = false := hb fun g => by
        have := g.kids l[i].l[j] (List.getElem_mem hj)
        rw [hq] at this; cases this
      subst e
      rw [hq] at c3
      try simp [hi, hj]
      repeat' (first
        | ((first | refine Tst.go (fun hw_ ew_ => ?_) (fun hw_ ew_ => ?_)) <;> first | (exfalso; first | omega | with_reducible exact hw_ (by assumption) | with_reducible exact absurd hw_ (by assumption)) | (have nw_ := Nw.nw hw_; simp [ew_, nw_, hi, hj]) | simp [ew_, hi, hj])
        | ((first | (refine Pc.go (c3) ?_ ?_; focus (first | rfl | (simp [hi, hj]; done))) | refine AW.room (AW.draw (id := 17) Tryz.checked.mixed (fun _ => false) [2] [(11, .w)] 13 (by kernel_rfl) ?_) | refine AW.draw (id := 9) Tryz.checked.mixed (fun _ => false) [] [] 7 (by kernel_rfl) ?_ | rw [if_pos (by first | omega | (simp only [maxLen]; omega))] | rw [if_neg (by first | omega | (simp only [maxLen]; omega))] | rw [frzOwn_neat (by simp) (by simp <;> omega)] | rw [fzOwn_neat (by simp) (by simp <;> omega)]); try simp [hi, hj])
        | ((first | refine TstB.go (fun hw_ ew_ => ?_) (fun hw_ ew_ => ?_)) <;> first | (exfalso; first | omega | with_reducible exact hw_ (by assumption) | with_reducible exact absurd hw_ (by assumption)) | simp [ew_, hi, hj])
        | fail)
    | true =>
      rw [hq] at c3
      have k3 : ∀ q (h : q < l[i].l.length), q < j + 1 → (findB l l[i].l[q].ino).2 = true := fun q h hqj => by
        by_cases e : q = j
        · subst e; exact hq
        · exact k2 q h (by omega)
      try simp [hi, hj, hwj]
      repeat' (first
        | ((first | refine Tst.go (fun hw_ ew_ => ?_) (fun hw_ ew_ => ?_)) <;> first | (exfalso; first | omega | with_reducible exact hw_ (by assumption) | with_reducible exact absurd hw_ (by assumption)) | (have nw_ := Nw.nw hw_; simp [ew_, nw_, hi, hj, hwj]) | simp [ew_, hi, hj, hwj])
        | (exact hA2 (j + 1) _ (Wk.cutAt _ rfl (by simp) (by simp) (by simp) (by simp)) ⟨hj, k3⟩ (by omega))
        | ((first | (refine Pc.go (c3) ?_ ?_; focus (first | rfl | (simp [hi, hj, hwj]; done))) | refine AW.room (AW.draw (id := 17) Tryz.checked.mixed (fun _ => false) [2] [(11, .w)] 13 (by kernel_rfl) ?_) | refine AW.draw (id := 9) Tryz.checked.mixed (fun _ => false) [] [] 7 (by kernel_rfl) ?_ | rw [if_pos (by first | omega | (simp only [maxLen]; omega))] | rw [if_neg (by first | omega | (simp only [maxLen]; omega))] | rw [frzOwn_neat (by simp) (by simp <;> omega)] | rw [fzOwn_neat (by simp) (by simp <;> omega)]); try simp [hi, hj, hwj])
        | ((first | refine TstB.go (fun hw_ ew_ => ?_) (fun hw_ ew_ => ?_)) <;> first | (exfalso; first | omega | with_reducible exact hw_ (by assumption) | with_reducible exact absurd hw_ (by assumption)) | simp [ew_, hi, hj, hwj])
        | fail)
  have p1 : ¬ l[i].links < 1 := fun e => r2 ⟨p0, .inl e⟩
  by_cases p2 : l[i].kind = 2
  case neg =>
    generalize decide (l[i].ino ∈ belowL l 1) = bb at c2
    try simp [hi, r1, p0, p1, p2, FSR.enc]
    repeat' (first
      | ((first | refine Tst.go (fun hw_ ew_ => ?_) (fun hw_ ew_ => ?_)) <;> first | (exfalso; first | omega | with_reducible exact hw_ (by assumption) | with_reducible exact absurd hw_ (by assumption)) | (have nw_ := Nw.nw hw_; simp [ew_, nw_, hi, r1, p0, p1, p2, FSR.enc]) | simp [ew_, hi, r1, p0, p1, p2, FSR.enc])
      | ((first | (refine Pc.go (c1) ?_ ?_; focus (first | rfl | (simp [hi, r1, p0, p1, p2, FSR.enc]; done))) | (refine Pc.go (c2) ?_ ?_; focus (first | rfl | (simp [hi, r1, p0, p1, p2, FSR.enc]; done))) | refine AW.draw (id := 9) Tryz.checked.mixed (fun _ => false) [] [] 7 (by kernel_rfl) ?_ | rw [if_pos (by first | omega | (simp only [maxLen]; omega))] | rw [if_neg (by first | omega | (simp only [maxLen]; omega))] | rw [frzOwn_neat (by simp) (by simp <;> omega)] | rw [fzOwn_neat (by simp) (by simp <;> omega)]); try simp [hi, r1, p0, p1, p2, FSR.enc])
      | ((first | refine TstB.go (fun hw_ ew_ => ?_) (fun hw_ ew_ => ?_)) <;> first | (exfalso; first | omega | with_reducible exact hw_ (by assumption) | with_reducible exact absurd hw_ (by assumption)) | simp [ew_, hi, r1, p0, p1, p2, FSR.enc])
      | fail)
    refine AW.loopG (lit := fun _ => false) (fun j : Nat => ⟨111, pat [(1, .ptr 0 0 0), (4, enc1 I (belowL l 1)), (5, I i), (6, .ptr 1 0 0), (8, I j)], [.cells 0 [encL NodeR.enc l, I next], .cells 0 l[i].enc]⟩) (fun j => l[i].l.length - j) (fun j => j ≤ l[i].l.length ∧ ∀ q (h : q < l[i].l.length), q < j → (findB l l[i].l[q].ino).2 = true) 0 ?_ ?_ ?_
    · exact Wk.at _ rfl (by simp) (by simp)
    · simp
    rintro j ⟨k1, k2⟩ A2 hA2
    by_cases hj : j < l[i].l.length
    case neg =>
      have gi : GoodN l i l[i] := ⟨r1, r2, fun x hx => by
        obtain ⟨q, hq, rfl⟩ := List.getElem_of_mem hx
        exact k2 q hq (by omega)⟩
      have g3 : ∀ q (h : q < l.length), q < i + 1 → GoodN l q l[q] := fun q h hq => by
        by_cases e : q = i
        · subst e; exact gi
        · exact g2 q h (by omega)
      try simp [hi, hj, hwi]
      repeat' (first
        | ((first | refine Tst.go (fun hw_ ew_ => ?_) (fun hw_ ew_ => ?_)) <;> first | (exfalso; first | omega | with_reducible exact hw_ (by assumption) | with_reducible exact absurd hw_ (by assumption)) | (have nw_ := Nw.nw hw_; simp [ew_, nw_, hi, hj, hwi]) | simp [ew_, hi, hj, hwi])
        | (exact hA (i + 1) _ (Wk.cutAt _ rfl (by simp) (by simp) (by simp) (by simp)) ⟨hi, g3⟩ (by omega))
        | ((first | refine AW.draw (id := 9) Tryz.checked.mixed (fun _ => false) [] [] 7 (by kernel_rfl) ?_ | rw [if_pos (by first | omega | (simp only [maxLen]; omega))] | rw [if_neg (by first | omega | (simp only [maxLen]; omega))] | rw [frzOwn_neat (by simp) (by simp <;> omega)] | rw [fzOwn_neat (by simp) (by simp <;> omega)]); try simp [hi, hj, hwi])
        | ((first | refine TstB.go (fun hw_ ew_ => ?_) (fun hw_ ew_ => ?_)) <;> first | (exfalso; first | omega | with_reducible exact hw_ (by assumption) | with_reducible exact absurd hw_ (by assumption)) | simp [ew_, hi, hj, hwi])
        | fail)
    have hei := hE l[i] (List.getElem_mem hi)
    have hwj := wrap_nat hj (by simp only [maxLen]; omega)
    have c3 : PCall Tryz.prog 25 [.agg [encL NodeR.enc l, I next], I l[i].l[j].ino] (.tup [encN (findB l l[i].l[j].ino).1, B (findB l l[i].l[j].ino).2]) := hfd l[i].l[j].ino
    cases hq : (findB l l[i].l[j].ino).2 with
    | false =>
      have e : rf = false := hb fun g => by
        have := g.kids l[i].l[j] (List.getElem_mem hj)
        rw [hq] at this; cases this
      subst e
      rw [hq] at c3
      try simp [hi, hj]
      repeat' (first
        | ((first | refine Tst.go (fun hw_ ew_ => ?_) (fun hw_ ew_ => ?_)) <;> first | (exfalso; first | omega | with_reducible exact hw_ (by assumption) | with_reducible exact absurd hw_ (by assumption)) | (have nw_ := Nw.nw hw_; simp [ew_, nw_, hi, hj]) | simp [ew_, hi, hj])
        | ((first | (refine Pc.go (c3) ?_ ?_; focus (first | rfl | (simp [hi, hj]; done))) | refine AW.room (AW.draw (id := 17) Tryz.checked.mixed (fun _ => false) [2] [(11, .w)] 13 (by kernel_rfl) ?_) | refine AW.draw (id := 9) Tryz.checked.mixed (fun _ => false) [] [] 7 (by kernel_rfl) ?_ | rw [if_pos (by first | omega | (simp only [maxLen]; omega))] | rw [if_neg (by first | omega | (simp only [maxLen]; omega))] | rw [frzOwn_neat (by simp) (by simp <;> omega)] | rw [fzOwn_neat (by simp) (by simp <;> omega)]); try simp [hi, hj])
        | ((first | refine TstB.go (fun hw_ ew_ => ?_) (fun hw_ ew_ => ?_)) <;> first | (exfalso; first | omega | with_reducible exact hw_ (by assumption) | with_reducible exact absurd hw_ (by assumption)) | simp [ew_, hi, hj])
        | fail)
    | true =>
      rw [hq] at c3
      have k3 : ∀ q (h : q < l[i].l.length), q < j + 1 → (findB l l[i].l[q].ino).2 = true := fun q h hqj => by
        by_cases e : q = j
        · subst e; exact hq
        · exact k2 q h (by omega)
      try simp [hi, hj, hwj]
      repeat' (first
        | ((first | refine Tst.go (fun hw_ ew_ => ?_) (fun hw_ ew_ => ?_)) <;> first | (exfalso; first | omega | with_reducible exact hw_ (by assumption) | with_reducible exact absurd hw_ (by assumption)) | (have nw_ := Nw.nw hw_; simp [ew_, nw_, hi, hj, hwj]) | simp [ew_, hi, hj, hwj])
        | (exact hA2 (j + 1) _ (Wk.cutAt _ rfl (by simp) (by simp) (by simp) (by simp)) ⟨hj, k3⟩ (by omega))
        | ((first | (refine Pc.go (c3) ?_ ?_; focus (first | rfl | (simp [hi, hj, hwj]; done))) | refine AW.room (AW.draw (id := 17) Tryz.checked.mixed (fun _ => false) [2] [(11, .w)] 13 (by kernel_rfl) ?_) | refine AW.draw (id := 9) Tryz.checked.mixed (fun _ => false) [] [] 7 (by kernel_rfl) ?_ | rw [if_pos (by first | omega | (simp only [maxLen]; omega))] | rw [if_neg (by first | omega | (simp only [maxLen]; omega))] | rw [frzOwn_neat (by simp) (by simp <;> omega)] | rw [fzOwn_neat (by simp) (by simp <;> omega)]); try simp [hi, hj, hwj])
        | ((first | refine TstB.go (fun hw_ ew_ => ?_) (fun hw_ ew_ => ?_)) <;> first | (exfalso; first | omega | with_reducible exact hw_ (by assumption) | with_reducible exact absurd hw_ (by assumption)) | simp [ew_, hi, hj, hwj])
        | fail)
  have p4 : ¬ 1 < l[i].links := fun e => r2 ⟨p0, .inr ⟨p2, .inl e⟩⟩
  have mb : l[i].ino ∈ belowL l 1 := Decidable.byContradiction fun e => r2 ⟨p0, .inr ⟨p2, .inr e⟩⟩
  rw [show decide (l[i].ino ∈ belowL l 1) = true from decide_eq_true mb] at c2
  try simp [hi, r1, p0, p1, p2, p4, FSR.enc]
  repeat' (first
    | ((first | refine Tst.go (fun hw_ ew_ => ?_) (fun hw_ ew_ => ?_)) <;> first | (exfalso; first | omega | with_reducible exact hw_ (by assumption) | with_reducible exact absurd hw_ (by assumption)) | (have nw_ := Nw.nw hw_; simp [ew_, nw_, hi, r1, p0, p1, p2, p4, FSR.enc]) | simp [ew_, hi, r1, p0, p1, p2, p4, FSR.enc])
    | ((first | (refine Pc.go (c1) ?_ ?_; focus (first | rfl | (simp [hi, r1, p0, p1, p2, p4, FSR.enc]; done))) | (refine Pc.go (c2) ?_ ?_; focus (first | rfl | (simp [hi, r1, p0, p1, p2, p4, FSR.enc]; done))) | refine AW.draw (id := 9) Tryz.checked.mixed (fun _ => false) [] [] 7 (by kernel_rfl) ?_ | rw [if_pos (by first | omega | (simp only [maxLen]; omega))] | rw [if_neg (by first | omega | (simp only [maxLen]; omega))] | rw [frzOwn_neat (by simp) (by simp <;> omega)] | rw [fzOwn_neat (by simp) (by simp <;> omega)]); try simp [hi, r1, p0, p1, p2, p4, FSR.enc])
    | ((first | refine TstB.go (fun hw_ ew_ => ?_) (fun hw_ ew_ => ?_)) <;> first | (exfalso; first | omega | with_reducible exact hw_ (by assumption) | with_reducible exact absurd hw_ (by assumption)) | simp [ew_, hi, r1, p0, p1, p2, p4, FSR.enc])
    | fail)
  refine AW.loopG (lit := fun _ => false) (fun j : Nat => ⟨111, pat [(1, .ptr 0 0 0), (4, enc1 I (belowL l 1)), (5, I i), (6, .ptr 1 0 0), (8, I j)], [.cells 0 [encL NodeR.enc l, I next], .cells 0 l[i].enc]⟩) (fun j => l[i].l.length - j) (fun j => j ≤ l[i].l.length ∧ ∀ q (h : q < l[i].l.length), q < j → (findB l l[i].l[q].ino).2 = true) 0 ?_ ?_ ?_
  · exact Wk.at _ rfl (by simp) (by simp)
  · simp
  rintro j ⟨k1, k2⟩ A2 hA2
  by_cases hj : j < l[i].l.length
  case neg =>
    have gi : GoodN l i l[i] := ⟨r1, r2, fun x hx => by
      obtain ⟨q, hq, rfl⟩ := List.getElem_of_mem hx
      exact k2 q hq (by omega)⟩
    have g3 : ∀ q (h : q < l.length), q < i + 1 → GoodN l q l[q] := fun q h hq => by
      by_cases e : q = i
      · subst e; exact gi
      · exact g2 q h (by omega)
    try simp [hi, hj, hwi]
    repeat' (first
      | ((first | refine Tst.go (fun hw_ ew_ => ?_) (fun hw_ ew_ => ?_)) <;> first | (exfalso; first | omega | with_reducible exact hw_ (by assumption) | with_reducible exact absurd hw_ (by assumption)) | (have nw_ := Nw.nw hw_; simp [ew_, nw_, hi, hj, hwi]) | simp [ew_, hi, hj, hwi])
      | (exact hA (i + 1) _ (Wk.cutAt _ rfl (by simp) (by simp) (by simp) (by simp)) ⟨hi, g3⟩ (by omega))
      | ((first | refine AW.draw (id := 9) Tryz.checked.mixed (fun _ => false) [] [] 7 (by kernel_rfl) ?_ | rw [if_pos (by first | omega | (simp only [maxLen]; omega))] | rw [if_neg (by first | omega | (simp only [maxLen]; omega))] | rw [frzOwn_neat (by simp) (by simp <;> omega)] | rw [fzOwn_neat (by simp) (by simp <;> omega)]); try simp [hi, hj, hwi])
      | ((first | refine TstB.go (fun hw_ ew_ => ?_) (fun hw_ ew_ => ?_)) <;> first | (exfalso; first | omega | with_reducible exact hw_ (by assumption) | with_reducible exact absurd hw_ (by assumption)) | simp [ew_, hi, hj, hwi])
      | fail)
  have hei := hE l[i] (List.getElem_mem hi)
  have hwj := wrap_nat hj (by simp only [maxLen]; omega)
  have c3 : PCall Tryz.prog 25 [.agg [encL NodeR.enc l, I next], I l[i].l[j].ino] (.tup [encN (findB l l[i].l[j].ino).1, B (findB l l[i].l[j].ino).2]) := hfd l[i].l[j].ino
  cases hq : (findB l l[i].l[j].ino).2 with
  | false =>
    have e : rf = false := hb fun g => by
      have := g.kids l[i].l[j] (List.getElem_mem hj)
      rw [hq] at this; cases this
    subst e
    rw [hq] at c3
    try simp [hi, hj]
    repeat' (first
      | ((first | refine Tst.go (fun hw_ ew_ => ?_) (fun hw_ ew_ => ?_)) <;> first | (exfalso; first | omega | with_reducible exact hw_ (by assumption) | with_reducible exact absurd hw_ (by assumption)) | (have nw_ := Nw.nw hw_; simp [ew_, nw_, hi, hj]) | simp [ew_, hi, hj])
      | ((first | (refine Pc.go (c3) ?_ ?_; focus (first | rfl | (simp [hi, hj]; done))) | refine AW.room (AW.draw (id := 17) Tryz.checked.mixed (fun _ => false) [2] [(11, .w)] 13 (by kernel_rfl) ?_) | refine AW.draw (id := 9) Tryz.checked.mixed (fun _ => false) [] [] 7 (by kernel_rfl) ?_ | rw [if_pos (by first | omega | (simp only [maxLen]; omega))] | rw [if_neg (by first | omega | (simp only [maxLen]; omega))] | rw [frzOwn_neat (by simp) (by simp <;> omega)] | rw [fzOwn_neat (by simp) (by simp <;> omega)]); try simp [hi, hj])
      | ((first | refine TstB.go (fun hw_ ew_ => ?_) (fun hw_ ew_ => ?_)) <;> first | (exfalso; first | omega | with_reducible exact hw_ (by assumption) | with_reducible exact absurd hw_ (by assumption)) | simp [ew_, hi, hj])
      | fail)
  | true =>
    rw [hq] at c3
    have k3 : ∀ q (h : q < l[i].l.length), q < j + 1 → (findB l l[i].l[q].ino).2 = true := fun q h hqj => by
      by_cases e : q = j
      · subst e; exact hq
      · exact k2 q h (by omega)
    try simp [hi, hj, hwj]
    repeat' (first
      | ((first | refine Tst.go (fun hw_ ew_ => ?_) (fun hw_ ew_ => ?_)) <;> first | (exfalso; first | omega | with_reducible exact hw_ (by assumption) | with_reducible exact absurd hw_ (by assumption)) | (have nw_ := Nw.nw hw_; simp [ew_, nw_, hi, hj, hwj]) | simp [ew_, hi, hj, hwj])
      | (exact hA2 (j + 1) _ (Wk.cutAt _ rfl (by simp) (by simp) (by simp) (by simp)) ⟨hj, k3⟩ (by omega))
      | ((first | (refine Pc.go (c3) ?_ ?_; focus (first | rfl | (simp [hi, hj, hwj]; done))) | refine AW.room (AW.draw (id := 17) Tryz.checked.mixed (fun _ => false) [2] [(11, .w)] 13 (by kernel_rfl) ?_) | refine AW.draw (id := 9) Tryz.checked.mixed (fun _ => false) [] [] 7 (by kernel_rfl) ?_ | rw [if_pos (by first | omega | (simp only [maxLen]; omega))] | rw [if_neg (by first | omega | (simp only [maxLen]; omega))] | rw [frzOwn_neat (by simp) (by simp <;> omega)] | rw [fzOwn_neat (by simp) (by simp <;> omega)]); try simp [hi, hj, hwj])
      | ((first | refine TstB.go (fun hw_ ew_ => ?_) (fun hw_ ew_ => ?_)) <;> first | (exfalso; first | omega | with_reducible exact hw_ (by assumption) | with_reducible exact absurd hw_ (by assumption)) | simp [ew_, hi, hj, hwj])
      | fail)
end Go.Proofs.YtdnfnddlciafmaaGreat
