/- What is put in, what is taken out; few. -/
import Derived.Test.YtjelapkglkcoiaaTreB
set_option linter.unusedVariables false
set_option linter.unusedSimpArgs false
namespace Go.Proofs.Ytjelapkglkcoiaa
open Go.Cx Tab
set_option maxHeartbeats 400000
set_option maxRecDepth 40000

theorem new_ok : PCall Try.prog 48 [] (encF newF) := by
  refine PCall.mk (fun _ => false) Try.func48 rfl rfl rfl (Ent.mk Try.func48 (by kernel_rfl) rfl) (by simp) (by simp) fun hfit => ?_
  simp [Try.f48, newF, FSR.enc, NodeR.enc]
  try simp
  repeat' (first
    | ((first | refine Tst.go (fun hw_ ew_ => ?_) (fun hw_ ew_ => ?_)) <;> first | (exfalso; first | omega | with_reducible exact hw_ (by assumption) | with_reducible exact absurd hw_ (by assumption)) | (have nw_ := Nw.nw hw_; simp [ew_, nw_]) | simp [ew_])
    | ((first | rw [if_pos (by first | omega | (simp only [maxLen]; omega))] | rw [if_neg (by first | omega | (simp only [maxLen]; omega))] | rw [frzOwn_neat (by simp) (by simp <;> omega)] | rw [fzOwn_neat (by simp) (by simp <;> omega)]); try simp)
    | ((first | refine TstB.go (fun hw_ ew_ => ?_) (fun hw_ ew_ => ?_)) <;> first | (exfalso; first | omega | with_reducible exact hw_ (by assumption) | with_reducible exact absurd hw_ (by assumption)) | simp [ew_])
    | fail)
theorem few_ok (f : FSR) : PCall Try.prog 21 [encF f] (B (fewS f)) := by
  refine PCall.mk (fun _ => false) Try.func21 rfl rfl rfl (Ent.mk Try.func21 (by kernel_rfl) rfl) (by simp) (by simp) fun hfit => ?_
  obtain ⟨l, next⟩ := f
  simp [FSR.enc] at hfit
  have hll := hfit.1
  simp only [maxLen] at hll
  simp [Try.f21, fewS, FSR.enc]
  refine AW.loopG (lit := fun _ => false) (fun x : Nat × Int => ⟨38, pat [(1, .ptr 0 0 0), (3, I x.2), (4, I x.1)], [.cells 0 [encL NodeR.enc l, I next]]⟩) (fun x => l.length - x.1) (fun x => x.1 ≤ l.length ∧ fewFrom x.2 (l.drop x.1) = fewFrom l.length l) (0, (l.length : Int)) ?_ ?_ ?_
  · exact Wk.at _ rfl (by simp) (by simp)
  · simp
  rintro ⟨i, n⟩ ⟨h1, h2⟩ A hA
  simp only at h1 h2
  by_cases hi : i < l.length
  case neg =>
    rw [fewFrom_end hi] at h2
    try simp [hi, ← h2]
    repeat' (first
      | ((first | refine Tst.go (fun hw_ ew_ => ?_) (fun hw_ ew_ => ?_)) <;> first | (exfalso; first | omega | with_reducible exact hw_ (by assumption) | with_reducible exact absurd hw_ (by assumption)) | (have nw_ := Nw.nw hw_; simp [ew_, nw_, hi, ← h2]) | simp [ew_, hi, ← h2])
      | ((first | rw [if_pos (by first | omega | (simp only [maxLen]; omega))] | rw [if_neg (by first | omega | (simp only [maxLen]; omega))] | rw [frzOwn_neat (by simp) (by simp <;> omega)] | rw [fzOwn_neat (by simp) (by simp <;> omega)]); try simp [hi, ← h2])
      | ((first | refine TstB.go (fun hw_ ew_ => ?_) (fun hw_ ew_ => ?_)) <;> first | (exfalso; first | omega | with_reducible exact hw_ (by assumption) | with_reducible exact absurd hw_ (by assumption)) | simp [ew_, hi, ← h2])
      | fail)
  rw [fewFrom_at hi] at h2
  by_cases hn : n ≤ 200
  case neg =>
    rw [if_neg hn] at h2
    try simp [hi, hn, ← h2]
    repeat' (first
      | ((first | refine Tst.go (fun hw_ ew_ => ?_) (fun hw_ ew_ => ?_)) <;> first | (exfalso; first | omega | with_reducible exact hw_ (by assumption) | with_reducible exact absurd hw_ (by assumption)) | (have nw_ := Nw.nw hw_; simp [ew_, nw_, hi, hn, ← h2]) | simp [ew_, hi, hn, ← h2])
      | ((first | rw [if_pos (by first | omega | (simp only [maxLen]; omega))] | rw [if_neg (by first | omega | (simp only [maxLen]; omega))] | rw [frzOwn_neat (by simp) (by simp <;> omega)] | rw [fzOwn_neat (by simp) (by simp <;> omega)]); try simp [hi, hn, ← h2])
      | ((first | refine TstB.go (fun hw_ ew_ => ?_) (fun hw_ ew_ => ?_)) <;> first | (exfalso; first | omega | with_reducible exact hw_ (by assumption) | with_reducible exact absurd hw_ (by assumption)) | simp [ew_, hi, hn, ← h2])
      | fail)
  rw [if_pos hn] at h2
  have hw2 := wrap_nat hi hfit.1
  by_cases ht : 5000 < l[i].text.size
  · rw [if_pos ht] at h2
    try simp [hi, hn, NodeR.enc, ht, ← h2]
    repeat' (first
      | ((first | refine Tst.go (fun hw_ ew_ => ?_) (fun hw_ ew_ => ?_)) <;> first | (exfalso; first | omega | with_reducible exact hw_ (by assumption) | with_reducible exact absurd hw_ (by assumption)) | (have nw_ := Nw.nw hw_; simp [ew_, nw_, hi, hn, NodeR.enc, ht, ← h2]) | simp [ew_, hi, hn, NodeR.enc, ht, ← h2])
      | ((first | rw [if_pos (by first | omega | (simp only [maxLen]; omega))] | rw [if_neg (by first | omega | (simp only [maxLen]; omega))] | rw [frzOwn_neat (by simp) (by simp <;> omega)] | rw [fzOwn_neat (by simp) (by simp <;> omega)]); try simp [hi, hn, NodeR.enc, ht, ← h2])
      | ((first | refine TstB.go (fun hw_ ew_ => ?_) (fun hw_ ew_ => ?_)) <;> first | (exfalso; first | omega | with_reducible exact hw_ (by assumption) | with_reducible exact absurd hw_ (by assumption)) | simp [ew_, hi, hn, NodeR.enc, ht, ← h2])
      | fail)
  · rw [if_neg ht] at h2
    try simp [hi, hn, NodeR.enc, hw2, ht]
    repeat' (first
      | ((first | refine Tst.go (fun hw_ ew_ => ?_) (fun hw_ ew_ => ?_)) <;> first | (exfalso; first | omega | with_reducible exact hw_ (by assumption) | with_reducible exact absurd hw_ (by assumption)) | (have nw_ := Nw.nw hw_; simp [ew_, nw_, hi, hn, NodeR.enc, hw2, ht]) | simp [ew_, hi, hn, NodeR.enc, hw2, ht])
      | (exact hA (i + 1, IntKind.i64.wrap (n + l[i].l.length)) _ (Wk.at _ rfl (by simp) (by simp)) ⟨by simp only; omega, h2⟩ (by simp only; omega))
      | ((first | rw [if_pos (by first | omega | (simp only [maxLen]; omega))] | rw [if_neg (by first | omega | (simp only [maxLen]; omega))] | rw [frzOwn_neat (by simp) (by simp <;> omega)] | rw [fzOwn_neat (by simp) (by simp <;> omega)]); try simp [hi, hn, NodeR.enc, hw2, ht])
      | ((first | refine TstB.go (fun hw_ ew_ => ?_) (fun hw_ ew_ => ?_)) <;> first | (exfalso; first | omega | with_reducible exact hw_ (by assumption) | with_reducible exact absurd hw_ (by assumption)) | simp [ew_, hi, hn, NodeR.enc, hw2, ht])
      | fail)
theorem out1_ok (n : NodeR) (k : Int) : PCall Try.prog 57 [encN n, .fp [I k]] (B (decide (n.ino = k))) := by
  refine PCall.mk (fun _ => false) Try.func57 rfl rfl rfl (Ent.mk Try.func57 (by kernel_rfl) rfl) (by simp) (by simp) fun hfit => ?_
  simp [Try.f57, NodeR.enc]
theorem tout_ok (f : FSR) (k : Int) (hl : f.l.length ≤ 1000000) : PCall Try.prog 29 [encF f, I k] (encF (outF f k)) := by
  refine PCall.mk (fun _ => false) Try.func29 rfl rfl rfl (Ent.mk Try.func29 (by kernel_rfl) rfl) (by simp) (by simp) fun hfit => ?_
  have hdel := deletefN_ok f.l 57 [.ptr 1 0 0] [.fp [I k]] [.cells 0 [I k]] (fun n => decide (n.ino = k)) (by simp) (by simp) (by simp) (fun fu b0 tl => by simp) (fun x _ => out1_ok x k) hl
  simp [Try.f29, FSR.enc]
  refine AW.wkZ (WkZ.freeze [0] 2 (.fp [encL NodeR.enc f.l, I f.next]) (by simp)) ?_
  simp
  refine AW.draw (id := 1) Try.checked.mixed (fun _ => false) [] [(1, .t), (2, .e), (4, .e), (6, .t)] 8 (by kernel_rfl) ?_
  simp
  refine ADcall.fresh [] (clone_ok f.l hl) (by simp) (by simp) ?_
  simp
  refine ADcall.fresh [3, 1] hdel (by simp) (by simp) ?_
  simp [outF, outS, FSR.enc]
  rw [frzOwn_neat (by simp) (by simp)]
  simp [FSR.enc]
theorem tput_ok (f : FSR) (n : NodeR) (hl : f.l.length ≤ 100000) (hn : inI n.ino) (hm : n.ino ≠ 9223372036854775807) : PCall Try.prog 36 [encF f, encN n] (encF (putB f n)) := by
  obtain ⟨hn1, hn2⟩ := hn
  have hw : IntKind.i64.wrap (n.ino + 1) = n.ino + 1 := wrap_id (by omega) (by omega)
  have hse := search_ok f.l n.ino (by omega)
  have hple := plc_le f.l n.ino
  by_cases h : plc f.l n.ino < f.l.length ∧ inoAt f.l (plc f.l n.ino) = n.ino
  · obtain ⟨h1, h2⟩ := h
    refine PCall.mk (fun _ => false) Try.func36 rfl rfl rfl (Ent.mk Try.func36 (by kernel_rfl) rfl) (by simp) (by simp) fun hfit => ?_
    simp only [putB, if_pos (And.intro h1 h2)]
    generalize plc f.l n.ino = q at *
    simp [Try.f36, FSR.enc]
    try simp [FSR.enc, h1, h2, hw]
    repeat' (first
      | ((first | refine Tst.go (fun hw_ ew_ => ?_) (fun hw_ ew_ => ?_)) <;> first | (exfalso; first | omega | with_reducible exact hw_ (by assumption) | with_reducible exact absurd hw_ (by assumption)) | (have nw_ := Nw.nw hw_; simp [ew_, nw_, FSR.enc, h1, h2, hw]) | simp [ew_, FSR.enc, h1, h2, hw])
      | (refine AInv.fresh [] (clone_ok f.l (by omega)) (by simp) (by simp) ?_; simp [h1, h2, hw])
      | ((first | (refine Pc.go (hse) ?_ ?_; focus (first | rfl | (simp [FSR.enc, h1, h2, hw]; done))) | rw [if_pos (by first | omega | (simp only [maxLen]; omega))] | rw [if_neg (by first | omega | (simp only [maxLen]; omega))] | rw [frzOwn_neat (by simp) (by simp <;> omega)] | rw [fzOwn_neat (by simp) (by simp <;> omega)]); try simp [FSR.enc, h1, h2, hw])
      | ((first | refine TstB.go (fun hw_ ew_ => ?_) (fun hw_ ew_ => ?_)) <;> first | (exfalso; first | omega | with_reducible exact hw_ (by assumption) | with_reducible exact absurd hw_ (by assumption)) | simp [ew_, FSR.enc, h1, h2, hw])
      | fail)
  · refine PCall.mk (fun _ => false) Try.func36 rfl rfl rfl (Ent.mk Try.func36 (by kernel_rfl) rfl) (by simp) (by simp) fun hfit => ?_
    simp only [putB, if_neg h]
    have hdec : (decide (plc f.l n.ino < f.l.length) && decide (inoAt f.l (plc f.l n.ino) = n.ino)) = false := by
      rw [Bool.eq_false_iff]; simpa using h
    rw [hdec] at hse
    generalize plc f.l n.ino = q at *
    have hins := insertN_ok f.l q n hple (by omega)
    simp [Try.f36, FSR.enc]
    try simp [FSR.enc, hw]
    repeat' (first
      | ((first | refine Tst.go (fun hw_ ew_ => ?_) (fun hw_ ew_ => ?_)) <;> first | (exfalso; first | omega | with_reducible exact hw_ (by assumption) | with_reducible exact absurd hw_ (by assumption)) | (have nw_ := Nw.nw hw_; simp [ew_, nw_, FSR.enc, hw]) | simp [ew_, FSR.enc, hw])
      | (refine AInv.fresh [] (clone_ok f.l (by omega)) (by simp) (by simp) ?_; simp [hw])
      | (refine AInv.fresh [3] hins (by simp) (by simp) ?_; simp [hw])
      | ((first | (refine Pc.go (hse) ?_ ?_; focus (first | rfl | (simp [FSR.enc, hw]; done))) | rw [if_pos (by first | omega | (simp only [maxLen]; omega))] | rw [if_neg (by first | omega | (simp only [maxLen]; omega))] | rw [frzOwn_neat (by simp) (by simp <;> omega)] | rw [fzOwn_neat (by simp) (by simp <;> omega)]); try simp [FSR.enc, hw])
      | ((first | refine TstB.go (fun hw_ ew_ => ?_) (fun hw_ ew_ => ?_)) <;> first | (exfalso; first | omega | with_reducible exact hw_ (by assumption) | with_reducible exact absurd hw_ (by assumption)) | simp [ew_, FSR.enc, hw])
      | fail)
end Go.Proofs.Ytjelapkglkcoiaa
