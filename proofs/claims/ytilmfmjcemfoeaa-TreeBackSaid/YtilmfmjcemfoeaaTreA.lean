/- slices.Clone and its like at the rows of layer 8. -/
import Derived.Test.YtilmfmjcemfoeaaNodD
import Derived.Test.YtilmfmjcemfoeaaBd
import Derived.Test.YtilmfmjcemfoeaaBg
set_option linter.unusedVariables false
set_option linter.unusedSimpArgs false
namespace Go.Proofs.Ytilmfmjcemfoeaa
open Go.Cx Tab
set_option maxHeartbeats 400000
set_option maxRecDepth 40000

theorem number_ok (n : NodeR) : PCall Try.prog 39 [encN n] (I n.ino) := by
  refine PCall.mk (fun _ => false) Try.func39 rfl rfl rfl (Ent.mk Try.func39 (by kernel_rfl) rfl) (by simp) (by simp) fun hfit => ?_
  simp [Try.f39, NodeR.enc]
theorem compare_ok (x y : Int) : PCall Try.prog 47 [I x, I y] (I (Lib.compareInt x y)) := by
  refine PCall.ofCalls (by simp) rfl (Ent.mk Try.func47 (by kernel_rfl) rfl) fun Z w cargs hz hr => ?_
  cases hr with
  | cons h1 h2 =>
    cases h2 with
    | cons h2 h3 =>
      cases h3
      have hs := concV_ok h1 rfl
      have hs2 := concV_ok h2 rfl
      subst hs hs2
      exact (Try.cmp_Compare_int x y w).mono fun e w' ⟨he, hw⟩ => ⟨he, by rw [hw]; exact .refl _ _⟩
abbrev byIno : AV := .fn 46 [.fp [.fn 39 []]]
theorem search1_ok (n : NodeR) (k : Int) : PCall Try.prog 46 [encN n, I k, .fp [.fn 39 []]] (I (Lib.compareInt n.ino k)) := by
  refine PCall.mk (fun _ => false) Try.func46 rfl rfl rfl (Ent.mk Try.func46 (by kernel_rfl) rfl) (by simp) (by simp) fun hfit => ?_
  simp [Try.f46, NodeR.enc]
  try simp [NodeR.enc]
  repeat' (first
    | ((first | refine Tst.go (fun hw_ ew_ => ?_) (fun hw_ ew_ => ?_)) <;> first | (exfalso; first | omega | with_reducible exact hw_ (by assumption) | with_reducible exact absurd hw_ (by assumption)) | (have nw_ := Nw.nw hw_; simp [ew_, nw_, NodeR.enc]) | simp [ew_, NodeR.enc])
    | ((first | (refine Pc.go (number_ok n) ?_ ?_; focus (first | rfl | (simp [NodeR.enc]; done))) | (refine Pc.go (compare_ok n.ino k) ?_ ?_; focus (first | rfl | (simp [NodeR.enc]; done))) | rw [if_pos (by first | omega | (simp only [maxLen]; omega))] | rw [if_neg (by first | omega | (simp only [maxLen]; omega))] | rw [frzOwn_neat (by simp) (by simp <;> omega)] | rw [fzOwn_neat (by simp) (by simp <;> omega)]); try simp [NodeR.enc])
    | ((first | refine TstB.go (fun hw_ ew_ => ?_) (fun hw_ ew_ => ?_)) <;> first | (exfalso; first | omega | with_reducible exact hw_ (by assumption) | with_reducible exact absurd hw_ (by assumption)) | simp [ew_, NodeR.enc])
    | fail)
theorem cmp_lt (x y : Int) : (Lib.compareInt x y < 0) = (x < y) := by
  unfold Lib.compareInt
  apply propext
  repeat' split
  all_goals (constructor <;> intro h <;> simp_all <;> omega)
theorem cmp_eq (x y : Int) : (Lib.compareInt x y = 0) = (x = y) := by
  unfold Lib.compareInt
  apply propext
  repeat' split
  all_goals (constructor <;> intro h <;> simp_all <;> omega)
theorem bsearch_ok (l : List NodeR) (k : Int) (hl : l.length ≤ 1000000) : PCall Try.prog 45 [encL NodeR.enc l, I k, byIno] (.tup [I (bsGo (inoAt l) k 0 l.length), B (decide (bsGo (inoAt l) k 0 l.length < l.length) && decide (inoAt l (bsGo (inoAt l) k 0 l.length) = k))]) := by
  refine PCall.mk (fun _ => false) Try.func45 rfl rfl rfl (Ent.mk Try.func45 (by kernel_rfl) rfl) (by simp) (by simp) fun hfit => ?_
  simp at hfit
  simp [Try.f45]
  refine AW.loopG (lit := fun _ => false) (fun x : Nat × Nat => ⟨49, pat [(0, encL NodeR.enc l), (1, I k), (2, byIno), (8, I l.length), (9, I x.1), (10, I x.2)], []⟩) (fun x => x.2 - x.1) (fun x => x.1 ≤ x.2 ∧ x.2 ≤ l.length ∧ bsGo (inoAt l) k x.1 x.2 = bsGo (inoAt l) k 0 l.length) (0, l.length) ?_ ?_ ?_
  · exact Wk.at _ rfl rfl (by simp)
  · simp
  rintro ⟨i, j⟩ ⟨h1, h2, h3⟩ A hA
  simp only at h1 h2 h3
  have hat : ∀ m (h : m < l.length), inoAt l m = (l[m]).ino := fun m h => by simp [inoAt, List.getD_eq_getElem?_getD, h]
  by_cases h : i < j
  case neg =>
    have hij : i = j := by omega
    subst hij
    rw [bsGo_ge h] at h3
    by_cases hi : i < l.length
    · have e1 := hat i hi
      try simp [h, hi, ← h3, cmp_eq, NodeR.enc, e1]
      repeat' (first
        | ((first | refine Tst.go (fun hw_ ew_ => ?_) (fun hw_ ew_ => ?_)) <;> first | (exfalso; first | omega | with_reducible exact hw_ (by assumption) | with_reducible exact absurd hw_ (by assumption)) | (have nw_ := Nw.nw hw_; simp [ew_, nw_, h, hi, ← h3, cmp_eq, NodeR.enc, e1]) | simp [ew_, h, hi, ← h3, cmp_eq, NodeR.enc, e1])
        | ((first | (refine Pc.go (search1_ok l[i] k) ?_ ?_; focus (first | rfl | (simp [h, hi, ← h3, cmp_eq, NodeR.enc, e1]; done))) | rw [if_pos (by first | omega | (simp only [maxLen]; omega))] | rw [if_neg (by first | omega | (simp only [maxLen]; omega))] | rw [frzOwn_neat (by simp) (by simp <;> omega)] | rw [fzOwn_neat (by simp) (by simp <;> omega)]); try simp [h, hi, ← h3, cmp_eq, NodeR.enc, e1])
        | ((first | refine TstB.go (fun hw_ ew_ => ?_) (fun hw_ ew_ => ?_)) <;> first | (exfalso; first | omega | with_reducible exact hw_ (by assumption) | with_reducible exact absurd hw_ (by assumption)) | simp [ew_, h, hi, ← h3, cmp_eq, NodeR.enc, e1])
        | fail)
    · try simp [h, hi, ← h3]
      repeat' (first
        | ((first | refine Tst.go (fun hw_ ew_ => ?_) (fun hw_ ew_ => ?_)) <;> first | (exfalso; first | omega | with_reducible exact hw_ (by assumption) | with_reducible exact absurd hw_ (by assumption)) | (have nw_ := Nw.nw hw_; simp [ew_, nw_, h, hi, ← h3]) | simp [ew_, h, hi, ← h3])
        | ((first | rw [if_pos (by first | omega | (simp only [maxLen]; omega))] | rw [if_neg (by first | omega | (simp only [maxLen]; omega))] | rw [frzOwn_neat (by simp) (by simp <;> omega)] | rw [fzOwn_neat (by simp) (by simp <;> omega)]); try simp [h, hi, ← h3])
        | ((first | refine TstB.go (fun hw_ ew_ => ?_) (fun hw_ ew_ => ?_)) <;> first | (exfalso; first | omega | with_reducible exact hw_ (by assumption) | with_reducible exact absurd hw_ (by assumption)) | simp [ew_, h, hi, ← h3])
        | fail)
  rw [bsGo_lt h] at h3
  have hm : (i + j) / 2 < l.length := by omega
  have e1 := hat _ hm
  have w1 : IntKind.i64.wrap ((i : Int) + j) = (i : Int) + j := wrap_id (by omega) (by omega)
  have w2 : ((i : Int) + j) % 18446744073709551616 = (i : Int) + j := by omega
  have w3 : ((i : Int) + j).fdiv 2 = (((i + j) / 2 : Nat) : Int) := by rw [Int.fdiv_eq_ediv_of_nonneg _ (by omega)]; omega
  have w4 : IntKind.i64.wrap (((i + j) / 2 : Nat) : Int) = (((i + j) / 2 : Nat) : Int) := wrap_id (by omega) (by omega)
  generalize hmm : (i + j) / 2 = m at *
  have w5 : IntKind.i64.wrap ((m : Int) + 1) = ((m + 1 : Nat) : Int) := by rw [wrap_id (by omega) (by omega)]; omega
  have hk : inoAt l m < k ∨ ¬ inoAt l m < k := Classical.em _
  rcases hk with hk | hk
  · rw [if_pos hk] at h3
    rw [e1] at hk
    try simp [h, w1, w2, w3, w4, w5, hm, cmp_lt, NodeR.enc, hk]
    repeat' (first
      | ((first | refine Tst.go (fun hw_ ew_ => ?_) (fun hw_ ew_ => ?_)) <;> first | (exfalso; first | omega | with_reducible exact hw_ (by assumption) | with_reducible exact absurd hw_ (by assumption)) | (have nw_ := Nw.nw hw_; simp [ew_, nw_, h, w1, w2, w3, w4, w5, hm, cmp_lt, NodeR.enc, hk]) | simp [ew_, h, w1, w2, w3, w4, w5, hm, cmp_lt, NodeR.enc, hk])
      | (exact hA (m + 1, j) _ (Wk.at _ rfl (by simp) (by simp)) ⟨by simp only; omega, h2, h3⟩ (by simp only; omega))
      | ((first | (refine Pc.go (search1_ok l[m] k) ?_ ?_; focus (first | rfl | (simp [h, w1, w2, w3, w4, w5, hm, cmp_lt, NodeR.enc, hk]; done))) | rw [if_pos (by first | omega | (simp only [maxLen]; omega))] | rw [if_neg (by first | omega | (simp only [maxLen]; omega))] | rw [frzOwn_neat (by simp) (by simp <;> omega)] | rw [fzOwn_neat (by simp) (by simp <;> omega)]); try simp [h, w1, w2, w3, w4, w5, hm, cmp_lt, NodeR.enc, hk])
      | ((first | refine TstB.go (fun hw_ ew_ => ?_) (fun hw_ ew_ => ?_)) <;> first | (exfalso; first | omega | with_reducible exact hw_ (by assumption) | with_reducible exact absurd hw_ (by assumption)) | simp [ew_, h, w1, w2, w3, w4, w5, hm, cmp_lt, NodeR.enc, hk])
      | fail)
  · rw [if_neg hk] at h3
    rw [e1] at hk
    try simp [h, w1, w2, w3, w4, w5, hm, cmp_lt, NodeR.enc, hk]
    repeat' (first
      | ((first | refine Tst.go (fun hw_ ew_ => ?_) (fun hw_ ew_ => ?_)) <;> first | (exfalso; first | omega | with_reducible exact hw_ (by assumption) | with_reducible exact absurd hw_ (by assumption)) | (have nw_ := Nw.nw hw_; simp [ew_, nw_, h, w1, w2, w3, w4, w5, hm, cmp_lt, NodeR.enc, hk]) | simp [ew_, h, w1, w2, w3, w4, w5, hm, cmp_lt, NodeR.enc, hk])
      | (exact hA (i, m) _ (Wk.at _ rfl (by simp) (by simp)) ⟨by simp only; omega, by simp only; omega, h3⟩ (by simp only; omega))
      | ((first | (refine Pc.go (search1_ok l[m] k) ?_ ?_; focus (first | rfl | (simp [h, w1, w2, w3, w4, w5, hm, cmp_lt, NodeR.enc, hk]; done))) | rw [if_pos (by first | omega | (simp only [maxLen]; omega))] | rw [if_neg (by first | omega | (simp only [maxLen]; omega))] | rw [frzOwn_neat (by simp) (by simp <;> omega)] | rw [fzOwn_neat (by simp) (by simp <;> omega)]); try simp [h, w1, w2, w3, w4, w5, hm, cmp_lt, NodeR.enc, hk])
      | ((first | refine TstB.go (fun hw_ ew_ => ?_) (fun hw_ ew_ => ?_)) <;> first | (exfalso; first | omega | with_reducible exact hw_ (by assumption) | with_reducible exact absurd hw_ (by assumption)) | simp [ew_, h, w1, w2, w3, w4, w5, hm, cmp_lt, NodeR.enc, hk])
      | fail)
theorem search_ok (l : List NodeR) (k : Int) (hl : l.length ≤ 1000000) : PCall Try.prog 38 [encL NodeR.enc l, I k, .fn 39 []] (.tup [I (plc l k), B (decide (plc l k < l.length) && decide (inoAt l (plc l k) = k))]) := by
  refine PCall.mk (fun _ => false) Try.func38 rfl rfl rfl (Ent.mk Try.func38 (by kernel_rfl) rfl) (by simp) (by simp) fun hfit => ?_
  simp [Try.f38]
  try simp
  repeat' (first
    | ((first | refine Tst.go (fun hw_ ew_ => ?_) (fun hw_ ew_ => ?_)) <;> first | (exfalso; first | omega | with_reducible exact hw_ (by assumption) | with_reducible exact absurd hw_ (by assumption)) | (have nw_ := Nw.nw hw_; simp [ew_, nw_]) | simp [ew_])
    | ((first | (refine Lc.go (bsearch_ok l k hl) rfl ?_ ?_; focus (first | (simp; done) | (simp; rw [frzOwn_neat (by simp) (by simp <;> omega)]; simp; done))) | rw [if_pos (by first | omega | (simp only [maxLen]; omega))] | rw [if_neg (by first | omega | (simp only [maxLen]; omega))] | rw [frzOwn_neat (by simp) (by simp <;> omega)] | rw [fzOwn_neat (by simp) (by simp <;> omega)]); try simp)
    | ((first | refine TstB.go (fun hw_ ew_ => ?_) (fun hw_ ew_ => ?_)) <;> first | (exfalso; first | omega | with_reducible exact hw_ (by assumption) | with_reducible exact absurd hw_ (by assumption)) | simp [ew_])
    | fail)
abbrev encF (f : FSR) : AV := .agg f.enc
theorem find_ok (f : FSR) (k : Int) (hl : f.l.length ≤ 1000000) : PCall Try.prog 27 [encF f, I k] (.tup [encN (findB f.l k).1, B (findB f.l k).2]) := by
  refine PCall.mk (fun _ => false) Try.func27 rfl rfl rfl (Ent.mk Try.func27 (by kernel_rfl) rfl) (by simp) (by simp) fun hfit => ?_
  by_cases h : plc f.l k < f.l.length
  case neg =>
    simp [Try.f27, FSR.enc, findB, h]
    try simp [FSR.enc, NodeR.enc, NodeR.zero, h]
    repeat' (first
      | ((first | refine Tst.go (fun hw_ ew_ => ?_) (fun hw_ ew_ => ?_)) <;> first | (exfalso; first | omega | with_reducible exact hw_ (by assumption) | with_reducible exact absurd hw_ (by assumption)) | (have nw_ := Nw.nw hw_; simp [ew_, nw_, FSR.enc, NodeR.enc, NodeR.zero, h]) | simp [ew_, FSR.enc, NodeR.enc, NodeR.zero, h])
      | ((first | (refine Pc.go (search_ok f.l k hl) ?_ ?_; focus (first | rfl | (simp [FSR.enc, NodeR.enc, NodeR.zero, h]; done))) | rw [if_pos (by first | omega | (simp only [maxLen]; omega))] | rw [if_neg (by first | omega | (simp only [maxLen]; omega))] | rw [frzOwn_neat (by simp) (by simp <;> omega)] | rw [fzOwn_neat (by simp) (by simp <;> omega)]); try simp [FSR.enc, NodeR.enc, NodeR.zero, h])
      | ((first | refine TstB.go (fun hw_ ew_ => ?_) (fun hw_ ew_ => ?_)) <;> first | (exfalso; first | omega | with_reducible exact hw_ (by assumption) | with_reducible exact absurd hw_ (by assumption)) | simp [ew_, FSR.enc, NodeR.enc, NodeR.zero, h])
      | fail)
  by_cases h2 : inoAt f.l (plc f.l k) = k
  case neg =>
    simp [Try.f27, FSR.enc, findB, h, h2]
    try simp [FSR.enc, NodeR.enc, NodeR.zero, h, h2]
    repeat' (first
      | ((first | refine Tst.go (fun hw_ ew_ => ?_) (fun hw_ ew_ => ?_)) <;> first | (exfalso; first | omega | with_reducible exact hw_ (by assumption) | with_reducible exact absurd hw_ (by assumption)) | (have nw_ := Nw.nw hw_; simp [ew_, nw_, FSR.enc, NodeR.enc, NodeR.zero, h, h2]) | simp [ew_, FSR.enc, NodeR.enc, NodeR.zero, h, h2])
      | ((first | (refine Pc.go (search_ok f.l k hl) ?_ ?_; focus (first | rfl | (simp [FSR.enc, NodeR.enc, NodeR.zero, h, h2]; done))) | rw [if_pos (by first | omega | (simp only [maxLen]; omega))] | rw [if_neg (by first | omega | (simp only [maxLen]; omega))] | rw [frzOwn_neat (by simp) (by simp <;> omega)] | rw [fzOwn_neat (by simp) (by simp <;> omega)]); try simp [FSR.enc, NodeR.enc, NodeR.zero, h, h2])
      | ((first | refine TstB.go (fun hw_ ew_ => ?_) (fun hw_ ew_ => ?_)) <;> first | (exfalso; first | omega | with_reducible exact hw_ (by assumption) | with_reducible exact absurd hw_ (by assumption)) | simp [ew_, FSR.enc, NodeR.enc, NodeR.zero, h, h2])
      | fail)
  have e : f.l.getD (plc f.l k) .zero = f.l[plc f.l k] := by simp [List.getD_eq_getElem?_getD, h]
  simp only [findB, if_pos (And.intro h h2), e]
  simp [Try.f27, FSR.enc]
  try simp [FSR.enc, NodeR.enc, NodeR.zero, h, h2]
  repeat' (first
    | ((first | refine Tst.go (fun hw_ ew_ => ?_) (fun hw_ ew_ => ?_)) <;> first | (exfalso; first | omega | with_reducible exact hw_ (by assumption) | with_reducible exact absurd hw_ (by assumption)) | (have nw_ := Nw.nw hw_; simp [ew_, nw_, FSR.enc, NodeR.enc, NodeR.zero, h, h2]) | simp [ew_, FSR.enc, NodeR.enc, NodeR.zero, h, h2])
    | ((first | (refine Pc.go (search_ok f.l k hl) ?_ ?_; focus (first | rfl | (simp [FSR.enc, NodeR.enc, NodeR.zero, h, h2]; done))) | rw [if_pos (by first | omega | (simp only [maxLen]; omega))] | rw [if_neg (by first | omega | (simp only [maxLen]; omega))] | rw [frzOwn_neat (by simp) (by simp <;> omega)] | rw [fzOwn_neat (by simp) (by simp <;> omega)]); try simp [FSR.enc, NodeR.enc, NodeR.zero, h, h2])
    | ((first | refine TstB.go (fun hw_ ew_ => ?_) (fun hw_ ew_ => ?_)) <;> first | (exfalso; first | omega | with_reducible exact hw_ (by assumption) | with_reducible exact absurd hw_ (by assumption)) | simp [ew_, FSR.enc, NodeR.enc, NodeR.zero, h, h2])
    | fail)

theorem rows_ok (f : FSR) : PCall Try.prog 17 [encF f] (B (rowsOk f)) := by
  refine PCall.mk (fun _ => false) Try.func17 rfl rfl rfl (Ent.mk Try.func17 (by kernel_rfl) rfl) (by simp) (by simp) fun hfit => ?_
  obtain ⟨l, next⟩ := f
  simp [FSR.enc] at hfit
  simp [Try.f17, rowsOk, FSR.enc]
  refine AW.loopG (lit := fun _ => false) (fun i : Nat => ⟨49, pat [(1, .ptr 0 0 0), (6, encL NodeR.enc l), (7, I l.length), (8, I i)], [.cells 0 [encL NodeR.enc l, I next]]⟩) (fun i => l.length - i) (fun i => i ≤ l.length ∧ nodesOk next (prevIno l i) (l.drop i) = nodesOk next none l) 0 ?_ ?_ ?_
  · exact Wk.at _ rfl (by simp) (by simp)
  · simp [prevIno]
  rintro i ⟨h5, h6⟩ A hA
  by_cases hi : i < l.length
  case neg =>
    rw [nodesOk_end next l i (by omega)] at h6
    try simp [← h6, hi]
    repeat' (first
      | ((first | refine Tst.go (fun hw_ ew_ => ?_) (fun hw_ ew_ => ?_)) <;> first | (exfalso; first | omega | with_reducible exact hw_ (by assumption) | with_reducible exact absurd hw_ (by assumption)) | (have nw_ := Nw.nw hw_; simp [ew_, nw_, ← h6, hi]) | simp [ew_, ← h6, hi])
      | ((first | refine AW.draw (id := 4) Try.checked.mixed (fun _ => false) [] [] 26 (by kernel_rfl) ?_ | rw [if_pos (by first | omega | (simp only [maxLen]; omega))] | rw [if_neg (by first | omega | (simp only [maxLen]; omega))] | rw [frzOwn_neat (by simp) (by simp <;> omega)] | rw [fzOwn_neat (by simp) (by simp <;> omega)]); try simp [← h6, hi])
      | ((first | refine TstB.go (fun hw_ ew_ => ?_) (fun hw_ ew_ => ?_)) <;> first | (exfalso; first | omega | with_reducible exact hw_ (by assumption) | with_reducible exact absurd hw_ (by assumption)) | simp [ew_, ← h6, hi])
      | fail)
  rw [nodesOk_at next l i hi] at h6
  have hw2 := wrap_nat hi hfit.1
  cases i with
  | zero =>
    simp [prevIno] at h6
    try simp [hi, NodeR.enc, hw2, ← h6]
    repeat' (first
      | ((first | refine Tst.go (fun hw_ ew_ => ?_) (fun hw_ ew_ => ?_)) <;> first | (exfalso; first | omega | with_reducible exact hw_ (by assumption) | with_reducible exact absurd hw_ (by assumption)) | (have nw_ := Nw.nw hw_; simp [ew_, nw_, hi, NodeR.enc, hw2, ← h6]) | simp [ew_, hi, NodeR.enc, hw2, ← h6])
      | (exact hA 1 _ (Wk.cutAt _ rfl (by simp) (by simp) (by simp) (by simp)) ⟨by omega, by simp [prevIno, hi]; simp_all⟩ (by omega))
      | ((first | (refine Pc.go (nright_ok l[0]) ?_ ?_; focus (first | rfl | (simp [hi, NodeR.enc, hw2, ← h6]; done))) | refine AW.draw (id := 4) Try.checked.mixed (fun _ => false) [] [] 26 (by kernel_rfl) ?_ | rw [if_pos (by first | omega | (simp only [maxLen]; omega))] | rw [if_neg (by first | omega | (simp only [maxLen]; omega))] | rw [frzOwn_neat (by simp) (by simp <;> omega)] | rw [fzOwn_neat (by simp) (by simp <;> omega)]); try simp [hi, NodeR.enc, hw2, ← h6])
      | ((first | refine TstB.go (fun hw_ ew_ => ?_) (fun hw_ ew_ => ?_)) <;> first | (exfalso; first | omega | with_reducible exact hw_ (by assumption) | with_reducible exact absurd hw_ (by assumption)) | simp [ew_, hi, NodeR.enc, hw2, ← h6])
      | fail)
  | succ i =>
    have hw3 : IntKind.i64.wrap ((i : Int) + 1 - 1) = (i : Int) := by rw [show (i : Int) + 1 - 1 = i by omega]; exact wrap_id (by omega) (by have := maxLen_lt hfit.1; omega)
    have hw4 : IntKind.i64.wrap (i : Int) = (i : Int) := wrap_id (by omega) (by have := maxLen_lt hfit.1; omega)
    have hw5 : IntKind.i64.wrap ((i : Int) + 1 + 1) = (i : Int) + 2 := by rw [wrap_id (by omega) (by have := maxLen_lt hfit.1; omega)]; omega
    have hi0 : i < l.length := by omega
    simp [prevIno, hi0] at h6
    try simp [hi, NodeR.enc, hw2, hw3, hw4, hw5, hi0, ← h6]
    repeat' (first
      | ((first | refine Tst.go (fun hw_ ew_ => ?_) (fun hw_ ew_ => ?_)) <;> first | (exfalso; first | omega | with_reducible exact hw_ (by assumption) | with_reducible exact absurd hw_ (by assumption)) | (have nw_ := Nw.nw hw_; simp [ew_, nw_, hi, NodeR.enc, hw2, hw3, hw4, hw5, hi0, ← h6]) | simp [ew_, hi, NodeR.enc, hw2, hw3, hw4, hw5, hi0, ← h6])
      | (exact hA (i + 2) _ (Wk.cutAt _ rfl (by simp) (by simp) (by simp) (by simp)) ⟨by omega, by simp [prevIno, hi]; simp_all⟩ (by omega))
      | ((first | (refine Pc.go (nright_ok l[i + 1]) ?_ ?_; focus (first | rfl | (simp [hi, NodeR.enc, hw2, hw3, hw4, hw5, hi0, ← h6]; done))) | refine AW.draw (id := 4) Try.checked.mixed (fun _ => false) [] [] 26 (by kernel_rfl) ?_ | rw [if_pos (by first | omega | (simp only [maxLen]; omega))] | rw [if_neg (by first | omega | (simp only [maxLen]; omega))] | rw [frzOwn_neat (by simp) (by simp <;> omega)] | rw [fzOwn_neat (by simp) (by simp <;> omega)]); try simp [hi, NodeR.enc, hw2, hw3, hw4, hw5, hi0, ← h6])
      | ((first | refine TstB.go (fun hw_ ew_ => ?_) (fun hw_ ew_ => ?_)) <;> first | (exfalso; first | omega | with_reducible exact hw_ (by assumption) | with_reducible exact absurd hw_ (by assumption)) | simp [ew_, hi, NodeR.enc, hw2, hw3, hw4, hw5, hi0, ← h6])
      | fail)

theorem rrows_ok (f : FSR) : PCall Try.prog 7 [encF f] (B (rowsOk f)) := by
  refine PCall.mk (fun _ => false) Try.func7 rfl rfl rfl (Ent.mk Try.func7 (by kernel_rfl) rfl) (by simp) (by simp) fun hfit => ?_
  obtain ⟨l, next⟩ := f
  simp [FSR.enc] at hfit
  simp [Try.f7, rowsOk, FSR.enc]
  by_cases hl : l.length ≤ 256
  case neg =>
    try simp [hl]
    repeat' (first
      | ((first | refine Tst.go (fun hw_ ew_ => ?_) (fun hw_ ew_ => ?_)) <;> first | (exfalso; first | omega | with_reducible exact hw_ (by assumption) | with_reducible exact absurd hw_ (by assumption)) | (have nw_ := Nw.nw hw_; simp [ew_, nw_, hl]) | simp [ew_, hl])
      | ((first | refine AW.draw (id := 7) Try.checked.mixed (fun _ => false) [] [] 33 (by kernel_rfl) ?_ | rw [if_pos (by first | omega | (simp only [maxLen]; omega))] | rw [if_neg (by first | omega | (simp only [maxLen]; omega))] | rw [frzOwn_neat (by simp) (by simp <;> omega)] | rw [fzOwn_neat (by simp) (by simp <;> omega)]); try simp [hl])
      | ((first | refine TstB.go (fun hw_ ew_ => ?_) (fun hw_ ew_ => ?_)) <;> first | (exfalso; first | omega | with_reducible exact hw_ (by assumption) | with_reducible exact absurd hw_ (by assumption)) | simp [ew_, hl])
      | fail)
  have hl' := Nat.not_lt.2 hl
  by_cases hn : 1 ≤ next
  case neg =>
    try simp [hl, hl', hn]
    repeat' (first
      | ((first | refine Tst.go (fun hw_ ew_ => ?_) (fun hw_ ew_ => ?_)) <;> first | (exfalso; first | omega | with_reducible exact hw_ (by assumption) | with_reducible exact absurd hw_ (by assumption)) | (have nw_ := Nw.nw hw_; simp [ew_, nw_, hl, hl', hn]) | simp [ew_, hl, hl', hn])
      | ((first | refine AW.draw (id := 7) Try.checked.mixed (fun _ => false) [] [] 33 (by kernel_rfl) ?_ | rw [if_pos (by first | omega | (simp only [maxLen]; omega))] | rw [if_neg (by first | omega | (simp only [maxLen]; omega))] | rw [frzOwn_neat (by simp) (by simp <;> omega)] | rw [fzOwn_neat (by simp) (by simp <;> omega)]); try simp [hl, hl', hn])
      | ((first | refine TstB.go (fun hw_ ew_ => ?_) (fun hw_ ew_ => ?_)) <;> first | (exfalso; first | omega | with_reducible exact hw_ (by assumption) | with_reducible exact absurd hw_ (by assumption)) | simp [ew_, hl, hl', hn])
      | fail)
  have hn' := Int.not_lt.2 hn
  simp [hl', hn']
  refine AW.loopG (lit := fun _ => false) (fun i : Nat => ⟨60, pat [(1, .ptr 0 0 0), (3, I i)], [.cells 0 [encL NodeR.enc l, I next]]⟩) (fun i => l.length - i) (fun i => i ≤ l.length ∧ nodesOk next (prevIno l i) (l.drop i) = nodesOk next none l) 0 ?_ ?_ ?_
  · exact Wk.at _ rfl (by simp) (by simp)
  · simp [prevIno]
  rintro i ⟨h5, h6⟩ A hA
  by_cases hi : i < l.length
  case neg =>
    rw [nodesOk_end next l i (by omega)] at h6
    try simp [← h6, hi, hl, hn]
    repeat' (first
      | ((first | refine Tst.go (fun hw_ ew_ => ?_) (fun hw_ ew_ => ?_)) <;> first | (exfalso; first | omega | with_reducible exact hw_ (by assumption) | with_reducible exact absurd hw_ (by assumption)) | (have nw_ := Nw.nw hw_; simp [ew_, nw_, ← h6, hi, hl, hn]) | simp [ew_, ← h6, hi, hl, hn])
      | ((first | refine AW.draw (id := 7) Try.checked.mixed (fun _ => false) [] [] 33 (by kernel_rfl) ?_ | rw [if_pos (by first | omega | (simp only [maxLen]; omega))] | rw [if_neg (by first | omega | (simp only [maxLen]; omega))] | rw [frzOwn_neat (by simp) (by simp <;> omega)] | rw [fzOwn_neat (by simp) (by simp <;> omega)]); try simp [← h6, hi, hl, hn])
      | ((first | refine TstB.go (fun hw_ ew_ => ?_) (fun hw_ ew_ => ?_)) <;> first | (exfalso; first | omega | with_reducible exact hw_ (by assumption) | with_reducible exact absurd hw_ (by assumption)) | simp [ew_, ← h6, hi, hl, hn])
      | fail)
  rw [nodesOk_at next l i hi] at h6
  have hw2 := wrap_nat hi hfit.1
  cases i with
  | zero =>
    simp [prevIno] at h6
    try simp [hi, NodeR.enc, hw2, ← h6, hl, hn]
    repeat' (first
      | ((first | refine Tst.go (fun hw_ ew_ => ?_) (fun hw_ ew_ => ?_)) <;> first | (exfalso; first | omega | with_reducible exact hw_ (by assumption) | with_reducible exact absurd hw_ (by assumption)) | (have nw_ := Nw.nw hw_; simp [ew_, nw_, hi, NodeR.enc, hw2, ← h6, hl, hn]) | simp [ew_, hi, NodeR.enc, hw2, ← h6, hl, hn])
      | (exact hA 1 _ (Wk.at _ rfl (by simp) (by simp)) ⟨by omega, by simp [prevIno, hi]; simp_all⟩ (by omega))
      | ((first | (refine Pc.go (rnright_ok l[0]) ?_ ?_; focus (first | rfl | (simp [hi, NodeR.enc, hw2, ← h6, hl, hn]; done))) | refine AW.draw (id := 7) Try.checked.mixed (fun _ => false) [] [] 33 (by kernel_rfl) ?_ | rw [if_pos (by first | omega | (simp only [maxLen]; omega))] | rw [if_neg (by first | omega | (simp only [maxLen]; omega))] | rw [frzOwn_neat (by simp) (by simp <;> omega)] | rw [fzOwn_neat (by simp) (by simp <;> omega)]); try simp [hi, NodeR.enc, hw2, ← h6, hl, hn])
      | ((first | refine TstB.go (fun hw_ ew_ => ?_) (fun hw_ ew_ => ?_)) <;> first | (exfalso; first | omega | with_reducible exact hw_ (by assumption) | with_reducible exact absurd hw_ (by assumption)) | simp [ew_, hi, NodeR.enc, hw2, ← h6, hl, hn])
      | fail)
  | succ i =>
    have hw3 : IntKind.i64.wrap ((i : Int) + 1 - 1) = (i : Int) := by rw [show (i : Int) + 1 - 1 = i by omega]; exact wrap_id (by omega) (by have := maxLen_lt hfit.1; omega)
    have hw4 : IntKind.i64.wrap (i : Int) = (i : Int) := wrap_id (by omega) (by have := maxLen_lt hfit.1; omega)
    have hw5 : IntKind.i64.wrap ((i : Int) + 1 + 1) = (i : Int) + 2 := by rw [wrap_id (by omega) (by have := maxLen_lt hfit.1; omega)]; omega
    have hi0 : i < l.length := by omega
    simp [prevIno, hi0] at h6
    try simp [hi, NodeR.enc, hw2, hw3, hw4, hw5, hi0, ← h6, hl, hn]
    repeat' (first
      | ((first | refine Tst.go (fun hw_ ew_ => ?_) (fun hw_ ew_ => ?_)) <;> first | (exfalso; first | omega | with_reducible exact hw_ (by assumption) | with_reducible exact absurd hw_ (by assumption)) | (have nw_ := Nw.nw hw_; simp [ew_, nw_, hi, NodeR.enc, hw2, hw3, hw4, hw5, hi0, ← h6, hl, hn]) | simp [ew_, hi, NodeR.enc, hw2, hw3, hw4, hw5, hi0, ← h6, hl, hn])
      | (exact hA (i + 2) _ (Wk.at _ rfl (by simp) (by simp)) ⟨by omega, by simp [prevIno, hi]; simp_all⟩ (by omega))
      | ((first | (refine Pc.go (rnright_ok l[i + 1]) ?_ ?_; focus (first | rfl | (simp [hi, NodeR.enc, hw2, hw3, hw4, hw5, hi0, ← h6, hl, hn]; done))) | refine AW.draw (id := 7) Try.checked.mixed (fun _ => false) [] [] 33 (by kernel_rfl) ?_ | rw [if_pos (by first | omega | (simp only [maxLen]; omega))] | rw [if_neg (by first | omega | (simp only [maxLen]; omega))] | rw [frzOwn_neat (by simp) (by simp <;> omega)] | rw [fzOwn_neat (by simp) (by simp <;> omega)]); try simp [hi, NodeR.enc, hw2, hw3, hw4, hw5, hi0, ← h6, hl, hn])
      | ((first | refine TstB.go (fun hw_ ew_ => ?_) (fun hw_ ew_ => ?_)) <;> first | (exfalso; first | omega | with_reducible exact hw_ (by assumption) | with_reducible exact absurd hw_ (by assumption)) | simp [ew_, hi, NodeR.enc, hw2, hw3, hw4, hw5, hi0, ← h6, hl, hn])
      | fail)

theorem rsame08_ok (f g : FSR) : PCall Try.prog 9 [encF f, encF g] (B (decide (f = g))) := by
  refine PCall.mk (fun _ => false) Try.func9 rfl rfl rfl (Ent.mk Try.func9 (by kernel_rfl) rfl) (by simp) (by simp) fun hfit => ?_
  obtain ⟨a, m⟩ := f
  obtain ⟨b, n⟩ := g
  simp only [FSR.eq_iff]
  simp [FSR.enc] at hfit
  simp [Try.f9, FSR.enc]
  by_cases hm : m = n
  case neg =>
    try simp [hm]
    repeat' (first
      | ((first | refine Tst.go (fun hw_ ew_ => ?_) (fun hw_ ew_ => ?_)) <;> first | (exfalso; first | omega | with_reducible exact hw_ (by assumption) | with_reducible exact absurd hw_ (by assumption)) | (have nw_ := Nw.nw hw_; simp [ew_, nw_, hm]) | simp [ew_, hm])
      | ((first | refine AW.draw (id := 6) Try.checked.mixed (fun _ => false) [] [] 12 (by kernel_rfl) ?_ | rw [if_pos (by first | omega | (simp only [maxLen]; omega))] | rw [if_neg (by first | omega | (simp only [maxLen]; omega))] | rw [frzOwn_neat (by simp) (by simp <;> omega)] | rw [fzOwn_neat (by simp) (by simp <;> omega)]); try simp [hm])
      | ((first | refine TstB.go (fun hw_ ew_ => ?_) (fun hw_ ew_ => ?_)) <;> first | (exfalso; first | omega | with_reducible exact hw_ (by assumption) | with_reducible exact absurd hw_ (by assumption)) | simp [ew_, hm])
      | fail)
  by_cases hl : a.length = b.length
  case neg =>
    have : ¬ a = b := fun e => hl (by rw [e])
    try simp [hm, hl, this]
    repeat' (first
      | ((first | refine Tst.go (fun hw_ ew_ => ?_) (fun hw_ ew_ => ?_)) <;> first | (exfalso; first | omega | with_reducible exact hw_ (by assumption) | with_reducible exact absurd hw_ (by assumption)) | (have nw_ := Nw.nw hw_; simp [ew_, nw_, hm, hl, this]) | simp [ew_, hm, hl, this])
      | ((first | refine AW.draw (id := 6) Try.checked.mixed (fun _ => false) [] [] 12 (by kernel_rfl) ?_ | rw [if_pos (by first | omega | (simp only [maxLen]; omega))] | rw [if_neg (by first | omega | (simp only [maxLen]; omega))] | rw [frzOwn_neat (by simp) (by simp <;> omega)] | rw [fzOwn_neat (by simp) (by simp <;> omega)]); try simp [hm, hl, this])
      | ((first | refine TstB.go (fun hw_ ew_ => ?_) (fun hw_ ew_ => ?_)) <;> first | (exfalso; first | omega | with_reducible exact hw_ (by assumption) | with_reducible exact absurd hw_ (by assumption)) | simp [ew_, hm, hl, this])
      | fail)
  subst hm
  simp [hl]
  refine AW.loopG (lit := fun _ => false) (fun i : Nat => ⟨41, pat [(2, .ptr 0 0 0), (3, .ptr 1 0 0), (5, I i)], [.cells 0 [encL NodeR.enc a, I m], .cells 0 [encL NodeR.enc b, I m]]⟩) (fun i => b.length - i) (fun i => i ≤ b.length ∧ a.take i = b.take i) 0 ?_ ?_ ?_
  · exact Wk.at _ rfl (by simp [hl]) (by simp [hl])
  · simp
  · rintro i ⟨hi, ht⟩ A hA
    by_cases h : i < b.length
    case neg =>
      have := take_done ht (by omega) (by omega)
      try simp [h, hl, eq_true this]
      repeat' (first
        | ((first | refine Tst.go (fun hw_ ew_ => ?_) (fun hw_ ew_ => ?_)) <;> first | (exfalso; first | omega | with_reducible exact hw_ (by assumption) | with_reducible exact absurd hw_ (by assumption)) | (have nw_ := Nw.nw hw_; simp [ew_, nw_, h, hl, eq_true this]) | simp [ew_, h, hl, eq_true this])
        | ((first | refine AW.draw (id := 6) Try.checked.mixed (fun _ => false) [] [] 12 (by kernel_rfl) ?_ | rw [if_pos (by first | omega | (simp only [maxLen]; omega))] | rw [if_neg (by first | omega | (simp only [maxLen]; omega))] | rw [frzOwn_neat (by simp) (by simp <;> omega)] | rw [fzOwn_neat (by simp) (by simp <;> omega)]); try simp [h, hl, eq_true this])
        | ((first | refine TstB.go (fun hw_ ew_ => ?_) (fun hw_ ew_ => ?_)) <;> first | (exfalso; first | omega | with_reducible exact hw_ (by assumption) | with_reducible exact absurd hw_ (by assumption)) | simp [ew_, h, hl, eq_true this])
        | fail)
    have ha : i < a.length := by omega
    have hw2 := wrap_nat ha hfit.1.1
    by_cases h2 : a[i] = b[i]
    · try simp [h, hl, ha, hw2, h2]
      repeat' (first
        | ((first | refine Tst.go (fun hw_ ew_ => ?_) (fun hw_ ew_ => ?_)) <;> first | (exfalso; first | omega | with_reducible exact hw_ (by assumption) | with_reducible exact absurd hw_ (by assumption)) | (have nw_ := Nw.nw hw_; simp [ew_, nw_, h, hl, ha, hw2, h2]) | simp [ew_, h, hl, ha, hw2, h2])
        | (exact hA (i + 1) _ (Wk.at _ rfl (by simp [hl]) (by simp [hl])) ⟨by omega, take_step ht ha h h2⟩ (by omega))
        | ((first | (refine Pc.go (rnsame_ok a[i] b[i]) ?_ ?_; focus (first | rfl | (simp [h, hl, ha, hw2, h2]; done))) | refine AW.draw (id := 6) Try.checked.mixed (fun _ => false) [] [] 12 (by kernel_rfl) ?_ | rw [if_pos (by first | omega | (simp only [maxLen]; omega))] | rw [if_neg (by first | omega | (simp only [maxLen]; omega))] | rw [frzOwn_neat (by simp) (by simp <;> omega)] | rw [fzOwn_neat (by simp) (by simp <;> omega)]); try simp [h, hl, ha, hw2, h2])
        | ((first | refine TstB.go (fun hw_ ew_ => ?_) (fun hw_ ew_ => ?_)) <;> first | (exfalso; first | omega | with_reducible exact hw_ (by assumption) | with_reducible exact absurd hw_ (by assumption)) | simp [ew_, h, hl, ha, hw2, h2])
        | fail)
    · have : ¬ a = b := fun e => by subst e; exact h2 rfl
      try simp [h, hl, ha, hw2, h2, this]
      repeat' (first
        | ((first | refine Tst.go (fun hw_ ew_ => ?_) (fun hw_ ew_ => ?_)) <;> first | (exfalso; first | omega | with_reducible exact hw_ (by assumption) | with_reducible exact absurd hw_ (by assumption)) | (have nw_ := Nw.nw hw_; simp [ew_, nw_, h, hl, ha, hw2, h2, this]) | simp [ew_, h, hl, ha, hw2, h2, this])
        | ((first | (refine Pc.go (rnsame_ok a[i] b[i]) ?_ ?_; focus (first | rfl | (simp [h, hl, ha, hw2, h2, this]; done))) | refine AW.draw (id := 6) Try.checked.mixed (fun _ => false) [] [] 12 (by kernel_rfl) ?_ | rw [if_pos (by first | omega | (simp only [maxLen]; omega))] | rw [if_neg (by first | omega | (simp only [maxLen]; omega))] | rw [frzOwn_neat (by simp) (by simp <;> omega)] | rw [fzOwn_neat (by simp) (by simp <;> omega)]); try simp [h, hl, ha, hw2, h2, this])
        | ((first | refine TstB.go (fun hw_ ew_ => ?_) (fun hw_ ew_ => ?_)) <;> first | (exfalso; first | omega | with_reducible exact hw_ (by assumption) | with_reducible exact absurd hw_ (by assumption)) | simp [ew_, h, hl, ha, hw2, h2, this])
        | fail)
end Go.Proofs.Ytilmfmjcemfoeaa
