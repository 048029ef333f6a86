/- Rows searched, put into; at the rows of layer 14. -/
import Derived.Test.YtpbjeabigckijaaTab
import Derived.Test.YtpbjeabigckijaaBe
import Derived.Test.YtpbjeabigckijaaBe
import Derived.Test.YtpbjeabigckijaaBd
import Derived.Test.YtpbjeabigckijaaBd
import Derived.Test.YtpbjeabigckijaaChecked
import Derived.Test.YtpbjeabigckijaaShelf
import Derived.Test.YtpbjeabigckijaaBh
set_option linter.unusedVariables false
set_option linter.unusedSimpArgs false
namespace Go.Proofs.Ytpbjeabigckijaa
open Go.Cx Tab
set_option maxHeartbeats 400000
set_option maxRecDepth 40000

theorem compare_ok (x y : Int) : PCall Try.prog 61 [I x, I y] (I (Lib.compareInt x y)) := by
  refine PCall.ofCalls (by simp) rfl (Ent.mk Try.func61 (by kernel_rfl) rfl) fun Z w cargs hz hr => ?_
  cases hr with
  | cons h1 h2 =>
    cases h2 with
    | cons h2 h3 =>
      cases h3
      have hs := concV_ok h1 rfl
      have hs2 := concV_ok h2 rfl
      subst hs hs2
      exact (Try.cmp_Compare_int x y w).mono fun e w' ⟨he, hw⟩ => ⟨he, by rw [hw]; exact .refl _ _⟩
theorem cmp_lt (x y : Int) : (Lib.compareInt x y < 0) = (x < y) := by
  unfold Lib.compareInt
  apply propext
  repeat' split
  all_goals (constructor <;> intro h <;> simp_all <;> omega)
theorem cmp_eq (x y : Int) : (Lib.compareInt x y = 0) = (x = y) := by
  unfold Lib.compareInt
  apply propext
  repeat' split
  all_goals (constructor <;> intro h <;> simp_all <;> omega)
theorem keyR_ok (n : RowR) : PCall Try.prog 39 [.agg n.enc] (I n.client) := by
  refine PCall.mk (fun _ => false) Try.func39 rfl rfl rfl (Ent.mk Try.func39 (by kernel_rfl) rfl) (by simp) (by simp) fun hfit => ?_
  simp [Try.f39, RowR.enc]
abbrev byR : AV := .fn 71 [.fp [.fn 39 []]]
theorem search1R_ok (n : RowR) (k : Int) : PCall Try.prog 71 [.agg n.enc, I k, .fp [.fn 39 []]] (I (Lib.compareInt n.client k)) := by
  refine PCall.mk (fun _ => false) Try.func71 rfl rfl rfl (Ent.mk Try.func71 (by kernel_rfl) rfl) (by simp) (by simp) fun hfit => ?_
  simp [Try.f71, RowR.enc]
  try simp [RowR.enc]
  repeat' (first
    | ((first | refine Tst.go (fun hw_ ew_ => ?_) (fun hw_ ew_ => ?_)) <;> first | (exfalso; first | omega | with_reducible exact hw_ (by assumption) | with_reducible exact absurd hw_ (by assumption)) | (have nw_ := Nw.nw hw_; simp [ew_, nw_, RowR.enc]) | simp [ew_, RowR.enc])
    | ((first | (refine Pc.go (keyR_ok n) ?_ ?_; focus (first | rfl | (simp [RowR.enc]; done))) | (refine Pc.go (compare_ok n.client k) ?_ ?_; focus (first | rfl | (simp [RowR.enc]; done))) | rw [if_pos (by first | omega | (simp only [maxLen]; omega))] | rw [if_neg (by first | omega | (simp only [maxLen]; omega))] | rw [frzOwn_neat (by simp) (by simp <;> omega)] | rw [fzOwn_neat (by simp) (by simp <;> omega)]); try simp [RowR.enc])
    | ((first | refine TstB.go (fun hw_ ew_ => ?_) (fun hw_ ew_ => ?_)) <;> first | (exfalso; first | omega | with_reducible exact hw_ (by assumption) | with_reducible exact absurd hw_ (by assumption)) | simp [ew_, RowR.enc])
    | fail)
abbrev atR (l : List RowR) (i : Nat) : Int := (l.getD i .zero).client
theorem bsearchR_ok (l : List RowR) (k : Int) (hl : l.length ≤ 1000000) : PCall Try.prog 70 [encL RowR.enc l, I k, byR] (.tup [I (bsGo (atR l) k 0 l.length), B (decide (bsGo (atR l) k 0 l.length < l.length) && decide (atR l (bsGo (atR l) k 0 l.length) = k))]) := by
  refine PCall.mk (fun _ => false) Try.func70 rfl rfl rfl (Ent.mk Try.func70 (by kernel_rfl) rfl) (by simp) (by simp) fun hfit => ?_
  simp at hfit
  simp [Try.f70]
  refine AW.loopG (lit := fun _ => false) (fun x : Nat × Nat => ⟨49, pat [(0, encL RowR.enc l), (1, I k), (2, byR), (8, I l.length), (9, I x.1), (10, I x.2)], []⟩) (fun x => x.2 - x.1) (fun x => x.1 ≤ x.2 ∧ x.2 ≤ l.length ∧ bsGo (atR l) k x.1 x.2 = bsGo (atR l) k 0 l.length) (0, l.length) ?_ ?_ ?_
  · exact Wk.at _ rfl rfl (by simp)
  · simp
  rintro ⟨i, j⟩ ⟨h1, h2, h3⟩ A hA
  simp only at h1 h2 h3
  have hat : ∀ m (h : m < l.length), atR l m = (l[m]).client := fun m h => by simp [atR, List.getD_eq_getElem?_getD, h]
  by_cases h : i < j
  case neg =>
    have hij : i = j := by omega
    subst hij
    rw [bsGo_ge h] at h3
    by_cases hi : i < l.length
    · have e1 := hat i hi
      try simp [h, hi, ← h3, cmp_eq, RowR.enc, e1]
      repeat' (first
        | ((first | refine Tst.go (fun hw_ ew_ => ?_) (fun hw_ ew_ => ?_)) <;> first | (exfalso; first | omega | with_reducible exact hw_ (by assumption) | with_reducible exact absurd hw_ (by assumption)) | (have nw_ := Nw.nw hw_; simp [ew_, nw_, h, hi, ← h3, cmp_eq, RowR.enc, e1]) | simp [ew_, h, hi, ← h3, cmp_eq, RowR.enc, e1])
        | ((first | (refine Pc.go (search1R_ok l[i] k) ?_ ?_; focus (first | rfl | (simp [h, hi, ← h3, cmp_eq, RowR.enc, e1]; done))) | rw [if_pos (by first | omega | (simp only [maxLen]; omega))] | rw [if_neg (by first | omega | (simp only [maxLen]; omega))] | rw [frzOwn_neat (by simp) (by simp <;> omega)] | rw [fzOwn_neat (by simp) (by simp <;> omega)]); try simp [h, hi, ← h3, cmp_eq, RowR.enc, e1])
        | ((first | refine TstB.go (fun hw_ ew_ => ?_) (fun hw_ ew_ => ?_)) <;> first | (exfalso; first | omega | with_reducible exact hw_ (by assumption) | with_reducible exact absurd hw_ (by assumption)) | simp [ew_, h, hi, ← h3, cmp_eq, RowR.enc, e1])
        | fail)
    · try simp [h, hi, ← h3]
      repeat' (first
        | ((first | refine Tst.go (fun hw_ ew_ => ?_) (fun hw_ ew_ => ?_)) <;> first | (exfalso; first | omega | with_reducible exact hw_ (by assumption) | with_reducible exact absurd hw_ (by assumption)) | (have nw_ := Nw.nw hw_; simp [ew_, nw_, h, hi, ← h3]) | simp [ew_, h, hi, ← h3])
        | ((first | rw [if_pos (by first | omega | (simp only [maxLen]; omega))] | rw [if_neg (by first | omega | (simp only [maxLen]; omega))] | rw [frzOwn_neat (by simp) (by simp <;> omega)] | rw [fzOwn_neat (by simp) (by simp <;> omega)]); try simp [h, hi, ← h3])
        | ((first | refine TstB.go (fun hw_ ew_ => ?_) (fun hw_ ew_ => ?_)) <;> first | (exfalso; first | omega | with_reducible exact hw_ (by assumption) | with_reducible exact absurd hw_ (by assumption)) | simp [ew_, h, hi, ← h3])
        | fail)
  rw [bsGo_lt h] at h3
  have hm : (i + j) / 2 < l.length := by omega
  have e1 := hat _ hm
  have w1 : IntKind.i64.wrap ((i : Int) + j) = (i : Int) + j := wrap_id (by omega) (by omega)
  have w2 : ((i : Int) + j) % 18446744073709551616 = (i : Int) + j := by omega
  have w3 : ((i : Int) + j).fdiv 2 = (((i + j) / 2 : Nat) : Int) := by rw [Int.fdiv_eq_ediv_of_nonneg _ (by omega)]; omega
  have w4 : IntKind.i64.wrap (((i + j) / 2 : Nat) : Int) = (((i + j) / 2 : Nat) : Int) := wrap_id (by omega) (by omega)
  generalize hmm : (i + j) / 2 = m at *
  have w5 : IntKind.i64.wrap ((m : Int) + 1) = ((m + 1 : Nat) : Int) := by rw [wrap_id (by omega) (by omega)]; omega
  have hk : atR l m < k ∨ ¬ atR l m < k := Classical.em _
  rcases hk with hk | hk
  · rw [if_pos hk] at h3
    rw [e1] at hk
    try simp [h, w1, w2, w3, w4, w5, hm, cmp_lt, RowR.enc, hk]
    repeat' (first
      | ((first | refine Tst.go (fun hw_ ew_ => ?_) (fun hw_ ew_ => ?_)) <;> first | (exfalso; first | omega | with_reducible exact hw_ (by assumption) | with_reducible exact absurd hw_ (by assumption)) | (have nw_ := Nw.nw hw_; simp [ew_, nw_, h, w1, w2, w3, w4, w5, hm, cmp_lt, RowR.enc, hk]) | simp [ew_, h, w1, w2, w3, w4, w5, hm, cmp_lt, RowR.enc, hk])
      | (exact hA (m + 1, j) _ (Wk.at _ rfl (by simp) (by simp)) ⟨by simp only; omega, h2, h3⟩ (by simp only; omega))
      | ((first | (refine Pc.go (search1R_ok l[m] k) ?_ ?_; focus (first | rfl | (simp [h, w1, w2, w3, w4, w5, hm, cmp_lt, RowR.enc, hk]; done))) | rw [if_pos (by first | omega | (simp only [maxLen]; omega))] | rw [if_neg (by first | omega | (simp only [maxLen]; omega))] | rw [frzOwn_neat (by simp) (by simp <;> omega)] | rw [fzOwn_neat (by simp) (by simp <;> omega)]); try simp [h, w1, w2, w3, w4, w5, hm, cmp_lt, RowR.enc, hk])
      | ((first | refine TstB.go (fun hw_ ew_ => ?_) (fun hw_ ew_ => ?_)) <;> first | (exfalso; first | omega | with_reducible exact hw_ (by assumption) | with_reducible exact absurd hw_ (by assumption)) | simp [ew_, h, w1, w2, w3, w4, w5, hm, cmp_lt, RowR.enc, hk])
      | fail)
  · rw [if_neg hk] at h3
    rw [e1] at hk
    try simp [h, w1, w2, w3, w4, w5, hm, cmp_lt, RowR.enc, hk]
    repeat' (first
      | ((first | refine Tst.go (fun hw_ ew_ => ?_) (fun hw_ ew_ => ?_)) <;> first | (exfalso; first | omega | with_reducible exact hw_ (by assumption) | with_reducible exact absurd hw_ (by assumption)) | (have nw_ := Nw.nw hw_; simp [ew_, nw_, h, w1, w2, w3, w4, w5, hm, cmp_lt, RowR.enc, hk]) | simp [ew_, h, w1, w2, w3, w4, w5, hm, cmp_lt, RowR.enc, hk])
      | (exact hA (i, m) _ (Wk.at _ rfl (by simp) (by simp)) ⟨by simp only; omega, by simp only; omega, h3⟩ (by simp only; omega))
      | ((first | (refine Pc.go (search1R_ok l[m] k) ?_ ?_; focus (first | rfl | (simp [h, w1, w2, w3, w4, w5, hm, cmp_lt, RowR.enc, hk]; done))) | rw [if_pos (by first | omega | (simp only [maxLen]; omega))] | rw [if_neg (by first | omega | (simp only [maxLen]; omega))] | rw [frzOwn_neat (by simp) (by simp <;> omega)] | rw [fzOwn_neat (by simp) (by simp <;> omega)]); try simp [h, w1, w2, w3, w4, w5, hm, cmp_lt, RowR.enc, hk])
      | ((first | refine TstB.go (fun hw_ ew_ => ?_) (fun hw_ ew_ => ?_)) <;> first | (exfalso; first | omega | with_reducible exact hw_ (by assumption) | with_reducible exact absurd hw_ (by assumption)) | simp [ew_, h, w1, w2, w3, w4, w5, hm, cmp_lt, RowR.enc, hk])
      | fail)
theorem findR_ok (l : List RowR) (k : Int) (hr : rises RowR.client l = true) (hl : l.length ≤ 1000000) : PCall Try.prog 56 [encL RowR.enc l, I k, .fn 39 []] (.tup [I (placeS RowR.client l k), B (findS RowR.client l k).isSome]) := by
  have h1 := bsearchR_ok l k hl
  have hat : ∀ m (h : m < l.length), atR l m = (l[m]).client := fun m h => by simp [atR, List.getD_eq_getElem?_getD, h]
  rw [bs_place RowR.client hr hat k] at h1
  have e : (decide (placeS RowR.client l k < l.length) && decide (atR l (placeS RowR.client l k) = k)) = (findS RowR.client l k).isSome := by
    cases hf : findS RowR.client l k with
    | some x =>
      obtain ⟨hp, e⟩ := find_place RowR.client hr hf
      rw [hat _ hp, e]
      simp [hp, (findS_mem RowR.client hf).2]
    | none =>
      by_cases hp : placeS RowR.client l k < l.length
      · have := place_none RowR.client hr hf hp
        rw [hat _ hp]
        simp [this]
      · simp [hp]
  rw [e] at h1
  refine PCall.mk (fun _ => false) Try.func56 rfl rfl rfl (Ent.mk Try.func56 (by kernel_rfl) rfl) (by simp) (by simp) fun hfit => ?_
  simp [Try.f56]
  try simp
  repeat' (first
    | ((first | refine Tst.go (fun hw_ ew_ => ?_) (fun hw_ ew_ => ?_)) <;> first | (exfalso; first | omega | with_reducible exact hw_ (by assumption) | with_reducible exact absurd hw_ (by assumption)) | (have nw_ := Nw.nw hw_; simp [ew_, nw_]) | simp [ew_])
    | ((first | (refine Lc.go (h1) rfl ?_ ?_; focus (first | (simp; done) | (simp; rw [frzOwn_neat (by simp) (by simp <;> omega)]; simp; done))) | rw [if_pos (by first | omega | (simp only [maxLen]; omega))] | rw [if_neg (by first | omega | (simp only [maxLen]; omega))] | rw [frzOwn_neat (by simp) (by simp <;> omega)] | rw [fzOwn_neat (by simp) (by simp <;> omega)]); try simp)
    | ((first | refine TstB.go (fun hw_ ew_ => ?_) (fun hw_ ew_ => ?_)) <;> first | (exfalso; first | omega | with_reducible exact hw_ (by assumption) | with_reducible exact absurd hw_ (by assumption)) | simp [ew_])
    | fail)
theorem cloneR_ok (l : List RowR) (hl : l.length ≤ 1000000) : XCall Try.prog 57 [encL RowR.enc l] [] (.own 0 0 0 l.length 4) [.cells 0 (l.flatMap RowR.enc)] := by
  refine XCall.mkE 4 (fun _ => false) Try.func57 rfl rfl rfl (Ent.mk Try.func57 (by kernel_rfl) rfl) (by simp) (by simp) (by simp) (by simp) (by simp) fun hfit => ?_
  simp at hfit
  simp [Try.f57]
  rw [if_pos (by simp only [maxLen]; omega)]
  simp
  intro h0
  subst h0
  simp

theorem keyD_ok (n : DecisionR) : PCall Try.prog 30 [.agg n.enc] (I n.seq) := by
  refine PCall.mk (fun _ => false) Try.func30 rfl rfl rfl (Ent.mk Try.func30 (by kernel_rfl) rfl) (by simp) (by simp) fun hfit => ?_
  simp [Try.f30, DecisionR.enc]
abbrev byD : AV := .fn 60 [.fp [.fn 30 []]]
theorem search1D_ok (n : DecisionR) (k : Int) : PCall Try.prog 60 [.agg n.enc, I k, .fp [.fn 30 []]] (I (Lib.compareInt n.seq k)) := by
  refine PCall.mk (fun _ => false) Try.func60 rfl rfl rfl (Ent.mk Try.func60 (by kernel_rfl) rfl) (by simp) (by simp) fun hfit => ?_
  simp [Try.f60, DecisionR.enc]
  try simp [DecisionR.enc]
  repeat' (first
    | ((first | refine Tst.go (fun hw_ ew_ => ?_) (fun hw_ ew_ => ?_)) <;> first | (exfalso; first | omega | with_reducible exact hw_ (by assumption) | with_reducible exact absurd hw_ (by assumption)) | (have nw_ := Nw.nw hw_; simp [ew_, nw_, DecisionR.enc]) | simp [ew_, DecisionR.enc])
    | ((first | (refine Pc.go (keyD_ok n) ?_ ?_; focus (first | rfl | (simp [DecisionR.enc]; done))) | (refine Pc.go (compare_ok n.seq k) ?_ ?_; focus (first | rfl | (simp [DecisionR.enc]; done))) | rw [if_pos (by first | omega | (simp only [maxLen]; omega))] | rw [if_neg (by first | omega | (simp only [maxLen]; omega))] | rw [frzOwn_neat (by simp) (by simp <;> omega)] | rw [fzOwn_neat (by simp) (by simp <;> omega)]); try simp [DecisionR.enc])
    | ((first | refine TstB.go (fun hw_ ew_ => ?_) (fun hw_ ew_ => ?_)) <;> first | (exfalso; first | omega | with_reducible exact hw_ (by assumption) | with_reducible exact absurd hw_ (by assumption)) | simp [ew_, DecisionR.enc])
    | fail)
abbrev atD (l : List DecisionR) (i : Nat) : Int := (l.getD i .zero).seq
theorem bsearchD_ok (l : List DecisionR) (k : Int) (hl : l.length ≤ 1000000) : PCall Try.prog 59 [encL DecisionR.enc l, I k, byD] (.tup [I (bsGo (atD l) k 0 l.length), B (decide (bsGo (atD l) k 0 l.length < l.length) && decide (atD l (bsGo (atD l) k 0 l.length) = k))]) := by
  refine PCall.mk (fun _ => false) Try.func59 rfl rfl rfl (Ent.mk Try.func59 (by kernel_rfl) rfl) (by simp) (by simp) fun hfit => ?_
  simp at hfit
  simp [Try.f59]
  refine AW.loopG (lit := fun _ => false) (fun x : Nat × Nat => ⟨49, pat [(0, encL DecisionR.enc l), (1, I k), (2, byD), (8, I l.length), (9, I x.1), (10, I x.2)], []⟩) (fun x => x.2 - x.1) (fun x => x.1 ≤ x.2 ∧ x.2 ≤ l.length ∧ bsGo (atD l) k x.1 x.2 = bsGo (atD l) k 0 l.length) (0, l.length) ?_ ?_ ?_
  · exact Wk.at _ rfl rfl (by simp)
  · simp
  rintro ⟨i, j⟩ ⟨h1, h2, h3⟩ A hA
  simp only at h1 h2 h3
  have hat : ∀ m (h : m < l.length), atD l m = (l[m]).seq := fun m h => by simp [atD, List.getD_eq_getElem?_getD, h]
  by_cases h : i < j
  case neg =>
    have hij : i = j := by omega
    subst hij
    rw [bsGo_ge h] at h3
    by_cases hi : i < l.length
    · have e1 := hat i hi
      try simp [h, hi, ← h3, cmp_eq, DecisionR.enc, e1]
      repeat' (first
        | ((first | refine Tst.go (fun hw_ ew_ => ?_) (fun hw_ ew_ => ?_)) <;> first | (exfalso; first | omega | with_reducible exact hw_ (by assumption) | with_reducible exact absurd hw_ (by assumption)) | (have nw_ := Nw.nw hw_; simp [ew_, nw_, h, hi, ← h3, cmp_eq, DecisionR.enc, e1]) | simp [ew_, h, hi, ← h3, cmp_eq, DecisionR.enc, e1])
        | ((first | (refine Pc.go (search1D_ok l[i] k) ?_ ?_; focus (first | rfl | (simp [h, hi, ← h3, cmp_eq, DecisionR.enc, e1]; done))) | rw [if_pos (by first | omega | (simp only [maxLen]; omega))] | rw [if_neg (by first | omega | (simp only [maxLen]; omega))] | rw [frzOwn_neat (by simp) (by simp <;> omega)] | rw [fzOwn_neat (by simp) (by simp <;> omega)]); try simp [h, hi, ← h3, cmp_eq, DecisionR.enc, e1])
        | ((first | refine TstB.go (fun hw_ ew_ => ?_) (fun hw_ ew_ => ?_)) <;> first | (exfalso; first | omega | with_reducible exact hw_ (by assumption) | with_reducible exact absurd hw_ (by assumption)) | simp [ew_, h, hi, ← h3, cmp_eq, DecisionR.enc, e1])
        | fail)
    · try simp [h, hi, ← h3]
      repeat' (first
        | ((first | refine Tst.go (fun hw_ ew_ => ?_) (fun hw_ ew_ => ?_)) <;> first | (exfalso; first | omega | with_reducible exact hw_ (by assumption) | with_reducible exact absurd hw_ (by assumption)) | (have nw_ := Nw.nw hw_; simp [ew_, nw_, h, hi, ← h3]) | simp [ew_, h, hi, ← h3])
        | ((first | rw [if_pos (by first | omega | (simp only [maxLen]; omega))] | rw [if_neg (by first | omega | (simp only [maxLen]; omega))] | rw [frzOwn_neat (by simp) (by simp <;> omega)] | rw [fzOwn_neat (by simp) (by simp <;> omega)]); try simp [h, hi, ← h3])
        | ((first | refine TstB.go (fun hw_ ew_ => ?_) (fun hw_ ew_ => ?_)) <;> first | (exfalso; first | omega | with_reducible exact hw_ (by assumption) | with_reducible exact absurd hw_ (by assumption)) | simp [ew_, h, hi, ← h3])
        | fail)
  rw [bsGo_lt h] at h3
  have hm : (i + j) / 2 < l.length := by omega
  have e1 := hat _ hm
  have w1 : IntKind.i64.wrap ((i : Int) + j) = (i : Int) + j := wrap_id (by omega) (by omega)
  have w2 : ((i : Int) + j) % 18446744073709551616 = (i : Int) + j := by omega
  have w3 : ((i : Int) + j).fdiv 2 = (((i + j) / 2 : Nat) : Int) := by rw [Int.fdiv_eq_ediv_of_nonneg _ (by omega)]; omega
  have w4 : IntKind.i64.wrap (((i + j) / 2 : Nat) : Int) = (((i + j) / 2 : Nat) : Int) := wrap_id (by omega) (by omega)
  generalize hmm : (i + j) / 2 = m at *
  have w5 : IntKind.i64.wrap ((m : Int) + 1) = ((m + 1 : Nat) : Int) := by rw [wrap_id (by omega) (by omega)]; omega
  have hk : atD l m < k ∨ ¬ atD l m < k := Classical.em _
  rcases hk with hk | hk
  · rw [if_pos hk] at h3
    rw [e1] at hk
    try simp [h, w1, w2, w3, w4, w5, hm, cmp_lt, DecisionR.enc, hk]
    repeat' (first
      | ((first | refine Tst.go (fun hw_ ew_ => ?_) (fun hw_ ew_ => ?_)) <;> first | (exfalso; first | omega | with_reducible exact hw_ (by assumption) | with_reducible exact absurd hw_ (by assumption)) | (have nw_ := Nw.nw hw_; simp [ew_, nw_, h, w1, w2, w3, w4, w5, hm, cmp_lt, DecisionR.enc, hk]) | simp [ew_, h, w1, w2, w3, w4, w5, hm, cmp_lt, DecisionR.enc, hk])
      | (exact hA (m + 1, j) _ (Wk.at _ rfl (by simp) (by simp)) ⟨by simp only; omega, h2, h3⟩ (by simp only; omega))
      | ((first | (refine Pc.go (search1D_ok l[m] k) ?_ ?_; focus (first | rfl | (simp [h, w1, w2, w3, w4, w5, hm, cmp_lt, DecisionR.enc, hk]; done))) | rw [if_pos (by first | omega | (simp only [maxLen]; omega))] | rw [if_neg (by first | omega | (simp only [maxLen]; omega))] | rw [frzOwn_neat (by simp) (by simp <;> omega)] | rw [fzOwn_neat (by simp) (by simp <;> omega)]); try simp [h, w1, w2, w3, w4, w5, hm, cmp_lt, DecisionR.enc, hk])
      | ((first | refine TstB.go (fun hw_ ew_ => ?_) (fun hw_ ew_ => ?_)) <;> first | (exfalso; first | omega | with_reducible exact hw_ (by assumption) | with_reducible exact absurd hw_ (by assumption)) | simp [ew_, h, w1, w2, w3, w4, w5, hm, cmp_lt, DecisionR.enc, hk])
      | fail)
  · rw [if_neg hk] at h3
    rw [e1] at hk
    try simp [h, w1, w2, w3, w4, w5, hm, cmp_lt, DecisionR.enc, hk]
    repeat' (first
      | ((first | refine Tst.go (fun hw_ ew_ => ?_) (fun hw_ ew_ => ?_)) <;> first | (exfalso; first | omega | with_reducible exact hw_ (by assumption) | with_reducible exact absurd hw_ (by assumption)) | (have nw_ := Nw.nw hw_; simp [ew_, nw_, h, w1, w2, w3, w4, w5, hm, cmp_lt, DecisionR.enc, hk]) | simp [ew_, h, w1, w2, w3, w4, w5, hm, cmp_lt, DecisionR.enc, hk])
      | (exact hA (i, m) _ (Wk.at _ rfl (by simp) (by simp)) ⟨by simp only; omega, by simp only; omega, h3⟩ (by simp only; omega))
      | ((first | (refine Pc.go (search1D_ok l[m] k) ?_ ?_; focus (first | rfl | (simp [h, w1, w2, w3, w4, w5, hm, cmp_lt, DecisionR.enc, hk]; done))) | rw [if_pos (by first | omega | (simp only [maxLen]; omega))] | rw [if_neg (by first | omega | (simp only [maxLen]; omega))] | rw [frzOwn_neat (by simp) (by simp <;> omega)] | rw [fzOwn_neat (by simp) (by simp <;> omega)]); try simp [h, w1, w2, w3, w4, w5, hm, cmp_lt, DecisionR.enc, hk])
      | ((first | refine TstB.go (fun hw_ ew_ => ?_) (fun hw_ ew_ => ?_)) <;> first | (exfalso; first | omega | with_reducible exact hw_ (by assumption) | with_reducible exact absurd hw_ (by assumption)) | simp [ew_, h, w1, w2, w3, w4, w5, hm, cmp_lt, DecisionR.enc, hk])
      | fail)
theorem findD_ok (l : List DecisionR) (k : Int) (hr : rises DecisionR.seq l = true) (hl : l.length ≤ 1000000) : PCall Try.prog 29 [encL DecisionR.enc l, I k, .fn 30 []] (.tup [I (placeS DecisionR.seq l k), B (findS DecisionR.seq l k).isSome]) := by
  have h1 := bsearchD_ok l k hl
  have hat : ∀ m (h : m < l.length), atD l m = (l[m]).seq := fun m h => by simp [atD, List.getD_eq_getElem?_getD, h]
  rw [bs_place DecisionR.seq hr hat k] at h1
  have e : (decide (placeS DecisionR.seq l k < l.length) && decide (atD l (placeS DecisionR.seq l k) = k)) = (findS DecisionR.seq l k).isSome := by
    cases hf : findS DecisionR.seq l k with
    | some x =>
      obtain ⟨hp, e⟩ := find_place DecisionR.seq hr hf
      rw [hat _ hp, e]
      simp [hp, (findS_mem DecisionR.seq hf).2]
    | none =>
      by_cases hp : placeS DecisionR.seq l k < l.length
      · have := place_none DecisionR.seq hr hf hp
        rw [hat _ hp]
        simp [this]
      · simp [hp]
  rw [e] at h1
  refine PCall.mk (fun _ => false) Try.func29 rfl rfl rfl (Ent.mk Try.func29 (by kernel_rfl) rfl) (by simp) (by simp) fun hfit => ?_
  simp [Try.f29]
  try simp
  repeat' (first
    | ((first | refine Tst.go (fun hw_ ew_ => ?_) (fun hw_ ew_ => ?_)) <;> first | (exfalso; first | omega | with_reducible exact hw_ (by assumption) | with_reducible exact absurd hw_ (by assumption)) | (have nw_ := Nw.nw hw_; simp [ew_, nw_]) | simp [ew_])
    | ((first | (refine Lc.go (h1) rfl ?_ ?_; focus (first | (simp; done) | (simp; rw [frzOwn_neat (by simp) (by simp <;> omega)]; simp; done))) | rw [if_pos (by first | omega | (simp only [maxLen]; omega))] | rw [if_neg (by first | omega | (simp only [maxLen]; omega))] | rw [frzOwn_neat (by simp) (by simp <;> omega)] | rw [fzOwn_neat (by simp) (by simp <;> omega)]); try simp)
    | ((first | refine TstB.go (fun hw_ ew_ => ?_) (fun hw_ ew_ => ?_)) <;> first | (exfalso; first | omega | with_reducible exact hw_ (by assumption) | with_reducible exact absurd hw_ (by assumption)) | simp [ew_])
    | fail)
theorem cloneD_ok (l : List DecisionR) (hl : l.length ≤ 1000000) : XCall Try.prog 32 [encL DecisionR.enc l] [] (.own 0 0 0 l.length 2) [.cells 0 (l.flatMap DecisionR.enc)] := by
  refine XCall.mkE 2 (fun _ => false) Try.func32 rfl rfl rfl (Ent.mk Try.func32 (by kernel_rfl) rfl) (by simp) (by simp) (by simp) (by simp) (by simp) fun hfit => ?_
  simp at hfit
  simp [Try.f32]
  rw [if_pos (by simp only [maxLen]; omega)]
  simp
  intro h0
  subst h0
  simp

theorem insertR_ok (l : List RowR) (i : Nat) (x : RowR) (hi : i ≤ l.length) (hl : l.length ≤ 1000000) : XCall Try.prog 58 [.own 0 0 0 l.length 4, I i, .sl true 1 x.enc] [.cells 0 (l.flatMap RowR.enc)] (.own 0 1 0 (l.length + 1) 4) [.cells 1 ((insL l i x).flatMap RowR.enc)] := by
  by_cases hi2 : i = l.length
  case pos =>
    subst hi2
    refine XCall.mkG (fun s (_ : Unit) => s) (fun _ => false) Try.func58 rfl rfl rfl (Ent.mk Try.func58 (by kernel_rfl) rfl) (by simp) (by simp) (by simp) (by simp) (by simp) fun hfit => ?_
    refine ⟨WkE.one _ _, fun _ => ?_⟩
    simp [Try.f58]
    rw [if_pos (by simp only [maxLen]; omega)]
    simp
    exact ⟨_, Wk.refl _ _, by simp [insL_end]⟩
  have hi3 : i < l.length := by omega
  have hcp : ∀ cap, l.length ≤ cap → (l.length * 4 + (cap * 4 - l.length * 4)) / 4 = cap := fun cap h => by omega
  have hw1 : IntKind.i64.wrap ((l.length : Int) + 1) = ((l.length + 1 : Nat) : Int) := by rw [wrap_id (by omega) (by omega)]; omega
  have hw2 : IntKind.i64.wrap ((i : Int) + 1) = ((i + 1 : Nat) : Int) := by rw [wrap_id (by omega) (by omega)]; omega
  have hw3 : IntKind.i64.wrap ((l.length : Int) + 1 - i) = ((l.length + 1 - i : Nat) : Int) := by rw [wrap_id (by omega) (by omega)]; omega
  have hw4 : ((i : Int) + ((l.length + 1 - i : Nat) : Int)).toNat = l.length + 1 := by omega
  have hm1 : min 1 (l.length + 1 - i) = 1 := by omega
  have hm2 : ∀ cap, l.length ≤ cap → min (i * 4) (l.length * 4 + (cap * 4 - l.length * 4)) = i * 4 := fun cap h => by omega
  have hov : ∀ (lb : Nat) (h : AHeap) (y : ABlk) (Q : AV → AHeap → Prop), h[0]? = some y → (blkCells y).map (·.1) = some 0 → Q (B false) h → AInv Try.prog (.fn 72 []) [.sl true 1 x.enc, .own 0 0 (i + 1) lb 4] h Q := fun lb h y Q hy hv hq =>
    overlaps_ok Try.func72 (by kernel_rfl) rfl (by kernel_rfl) rfl rfl (by kernel_rfl) (k := 4) (by kernel_rfl) true 1 _ _ 0 0 (i + 1) lb hy hv (by omega) Q hq
  refine XCall.mkG (fun s (cap : { cap : Nat // l.length ≤ cap ∧ cap ≤ maxLen }) => roomS s 0 0 4 (l.flatMap RowR.enc) cap.1) (fun _ => false) Try.func58 rfl rfl rfl (Ent.mk Try.func58 (by kernel_rfl) rfl) (by simp) (by simp) (by simp) (by simp) (by simp) fun hfit => ?_
  refine ⟨WkE.full (t := 0) (by simp) (by simp) (by omega) (by simp), ?_⟩
  rintro ⟨cap, hc1, hc2⟩
  have hcp1 := hcp cap hc1
  have hm3 := hm2 cap hc1
  have hi4 : ¬ i = l.length := by omega
  have hle : i ≤ l.length := by omega
  generalize hA : List.replicate (cap * 4 - l.length * 4) AV.any = A
  have hAl : A.length = cap * 4 - l.length * 4 := by rw [← hA]; simp
  have hLl : (l.flatMap RowR.enc).length = l.length * 4 := len_RowR l
  have hta : (l.flatMap RowR.enc ++ A).take (i * 4) = (l.flatMap RowR.enc).take (i * 4) := List.take_append_of_le_length (by rw [hLl]; omega)
  have hdr : (l.flatMap RowR.enc).drop (i * 4) = (l.drop i).flatMap RowR.enc := drops_RowR l i
  have hq0 : (l.flatMap RowR.enc ++ A).drop (i * 4) = (l.drop i).flatMap RowR.enc ++ A := by rw [List.drop_append_of_le_length (by rw [hLl]; omega), hdr]
  have hdl : ((l.drop i).flatMap RowR.enc).length = l.length * 4 - i * 4 := by rw [len_RowR, List.length_drop]; omega
  by_cases hr : l.length + 1 ≤ cap
  · have hm4 : min (l.length + 1 - i) (l.length - i) = l.length - i := by omega
    have hm5 : min ((l.length + 1 - i) * 4) ((l.length - i) * 4 + (cap * 4 - l.length * 4)) = (l.length + 1 - i) * 4 := by omega
    have hm6 : min ((l.length + 1 - i) * 4) (l.length * 4 + (cap * 4 - l.length * 4) - i * 4) = (l.length + 1 - i) * 4 := by omega
    have hq1 : List.take ((l.length - i) * 4) (List.take ((l.length + 1 - i) * 4) ((l.drop i).flatMap RowR.enc ++ A)) = (l.drop i).flatMap RowR.enc := by
      rw [List.take_take, Nat.min_eq_left (by omega), List.take_left' (by rw [hdl]; omega)]
    have hq2 : (putAt (l.flatMap RowR.enc ++ A) ((i + 1) * 4) ((l.drop i).flatMap RowR.enc)).length = cap * 4 := by
      rw [putAt_length (by rw [List.length_append, hLl, hAl, hdl]; omega), List.length_append, hLl, hAl]; omega
    have hq3 : (putAt (putAt (l.flatMap RowR.enc ++ A) ((i + 1) * 4) ((l.drop i).flatMap RowR.enc)) (i * 4) x.enc).take ((l.length + 1) * 4) = (insL l i x).flatMap RowR.enc := by
      have := ins_room (L := l.flatMap RowR.enc) (A := A) (X := x.enc) (a := i * 4) (k := 4) hLl (by omega) rfl (by rw [hAl]; omega)
      rw [ins_RowR, hq0, List.take_left' (by rw [hdl])] at this
      rw [show (i + 1) * 4 = i * 4 + 4 by omega, show (l.length + 1) * 4 = l.length * 4 + 4 by omega]
      exact this
    have hone : ∀ y ∈ (l.drop i).flatMap RowR.enc, isOne y = true := List.all_eq_true.1 (one_RowR _)
    simp [Try.f58, roomS, hA]
    try simp [hcp1, hw1, hw2, hw3, hw4, hm1, hm3, hm4, hq0, hq1, hq2, hi3, hi4, hle, hr]
    repeat' (first
      | ((first | refine Tst.go (fun hw_ ew_ => ?_) (fun hw_ ew_ => ?_)) <;> first | (exfalso; first | omega | with_reducible exact hw_ (by assumption) | with_reducible exact absurd hw_ (by assumption)) | (have nw_ := Nw.nw hw_; simp [ew_, nw_, hcp1, hw1, hw2, hw3, hw4, hm1, hm3, hm4, hq0, hq1, hq2, hi3, hi4, hle, hr]) | simp [ew_, hcp1, hw1, hw2, hw3, hw4, hm1, hm3, hm4, hq0, hq1, hq2, hi3, hi4, hle, hr])
      | (refine hov _ _ _ _ rfl rfl ?_; simp)
      | (refine optBif ⟨rfl, by rw [List.length_append, hLl, hAl]; omega, by rw [List.length_take, List.length_append, hdl, hAl]; omega, by rw [hm4, hq1]; exact hone⟩ ?_; simp)
      | ((first | refine AW.draw (id := 11) Try.checked.mixed (fun _ => false) [] [] 9 (by kernel_rfl) ?_ | refine AW.draw (id := 15) Try.checked.mixed (fun _ => false) [] [] 9 (by kernel_rfl) ?_ | rw [if_pos (by first | omega | (simp only [maxLen]; omega))] | rw [if_neg (by first | omega | (simp only [maxLen]; omega))] | rw [frzOwn_neat (by simp) (by simp <;> omega)] | rw [fzOwn_neat (by simp) (by simp <;> omega)]); try simp [hcp1, hw1, hw2, hw3, hw4, hm1, hm3, hm4, hq0, hq1, hq2, hi3, hi4, hle, hr])
      | ((first | refine TstB.go (fun hw_ ew_ => ?_) (fun hw_ ew_ => ?_)) <;> first | (exfalso; first | omega | with_reducible exact hw_ (by assumption) | with_reducible exact absurd hw_ (by assumption)) | simp [ew_, hcp1, hw1, hw2, hw3, hw4, hm1, hm3, hm4, hq0, hq1, hq2, hi3, hi4, hle, hr])
      | fail)
    exact ⟨_, Wk.trans (Wk.prefix 0 0 ((l.length + 1) * 4) rfl rfl) (Wk.bump 6 0 0 0 (l.length + 1) 4 (by simp) rfl), by simp [hq3]⟩
  · have hm5 : min ((l.length - i) * 4) ((l.length - i) * 4 + (cap * 4 - l.length * 4)) = (l.length - i) * 4 := by omega
    have hq1 : List.take ((l.length - i) * 4) (List.take ((l.length - i) * 4) ((l.drop i).flatMap RowR.enc ++ A)) = (l.drop i).flatMap RowR.enc := by
      rw [List.take_take, Nat.min_self, List.take_left' (by rw [hdl]; omega)]
    have hq4 : List.take ((l.length - i) * 4) ((l.drop i).flatMap RowR.enc) = (l.drop i).flatMap RowR.enc := List.take_of_length_le (by rw [hdl]; omega)
    have hone : ∀ y ∈ (l.drop i).flatMap RowR.enc, isOne y = true := List.all_eq_true.1 (one_RowR _)
    simp [Try.f58, roomS, hA]
    generalize hZ : (List.replicate (l.length + 1 - i) [AV.val (Value.int IntKind.i64 0), AV.val (Value.int IntKind.i64 0), AV.val (Value.int IntKind.i64 0), AV.sl true 0 []]).flatten = Z
    have hZl : Z.length = (l.length + 1 - i) * 4 := by rw [← hZ]; simp
    have hta' : ((l.flatMap RowR.enc).take (i * 4)).length = i * 4 := by rw [List.length_take, hLl]; omega
    have hq2 : (putAt ((l.flatMap RowR.enc).take (i * 4) ++ Z) (i * 4) x.enc).length = (l.length + 1) * 4 := by
      rw [putAt_length (by rw [List.length_append, hta', hZl, lenc_RowR]; omega), List.length_append, hta', hZl]; omega
    have hq3 : putAt (putAt ((l.flatMap RowR.enc).take (i * 4) ++ Z) (i * 4) x.enc) ((i + 1) * 4) ((l.drop i).flatMap RowR.enc) = (insL l i x).flatMap RowR.enc := by
      have := ins_grow (L := l.flatMap RowR.enc) (A := A) (X := x.enc) (Z := Z) (a := i * 4) (k := 4) hLl (by omega) rfl (by rw [hZl]; omega)
      rw [ins_RowR, hta, hq0, List.take_left' (by rw [hdl])] at this
      rw [show (i + 1) * 4 = i * 4 + 4 by omega]
      exact this
    try simp [hcp1, hw1, hw2, hw3, hw4, hm1, hm3, hq0, hq1, hq4, hta, hZ, hi3, hi4, hle, hr]
    repeat' (first
      | ((first | refine Tst.go (fun hw_ ew_ => ?_) (fun hw_ ew_ => ?_)) <;> first | (exfalso; first | omega | with_reducible exact hw_ (by assumption) | with_reducible exact absurd hw_ (by assumption)) | (have nw_ := Nw.nw hw_; simp [ew_, nw_, hcp1, hw1, hw2, hw3, hw4, hm1, hm3, hq0, hq1, hq4, hta, hZ, hi3, hi4, hle, hr]) | simp [ew_, hcp1, hw1, hw2, hw3, hw4, hm1, hm3, hq0, hq1, hq4, hta, hZ, hi3, hi4, hle, hr])
      | (refine optBif ⟨by rw [hq2]; omega, hone⟩ ?_; simp)
      | ((first | refine AW.draw (id := 11) Try.checked.mixed (fun _ => false) [] [] 9 (by kernel_rfl) ?_ | refine AW.draw (id := 15) Try.checked.mixed (fun _ => false) [] [] 9 (by kernel_rfl) ?_ | rw [if_pos (by first | omega | (simp only [maxLen]; omega))] | rw [if_neg (by first | omega | (simp only [maxLen]; omega))] | rw [frzOwn_neat (by simp) (by simp <;> omega)] | rw [fzOwn_neat (by simp) (by simp <;> omega)]); try simp [hcp1, hw1, hw2, hw3, hw4, hm1, hm3, hq0, hq1, hq4, hta, hZ, hi3, hi4, hle, hr])
      | ((first | refine TstB.go (fun hw_ ew_ => ?_) (fun hw_ ew_ => ?_)) <;> first | (exfalso; first | omega | with_reducible exact hw_ (by assumption) | with_reducible exact absurd hw_ (by assumption)) | simp [ew_, hcp1, hw1, hw2, hw3, hw4, hm1, hm3, hq0, hq1, hq4, hta, hZ, hi3, hi4, hle, hr])
      | fail)
    exact ⟨_, Wk.move 6 0 1 0 0 (l.length + 1) 4 (by decide) (by simp; omega) rfl rfl rfl, by simp [hq3]⟩

theorem insertD_ok (l : List DecisionR) (i : Nat) (x : DecisionR) (hi : i ≤ l.length) (hl : l.length ≤ 1000000) : XCall Try.prog 31 [.own 0 0 0 l.length 2, I i, .sl true 1 x.enc] [.cells 0 (l.flatMap DecisionR.enc)] (.own 0 1 0 (l.length + 1) 2) [.cells 1 ((insL l i x).flatMap DecisionR.enc)] := by
  by_cases hi2 : i = l.length
  case pos =>
    subst hi2
    refine XCall.mkG (fun s (_ : Unit) => s) (fun _ => false) Try.func31 rfl rfl rfl (Ent.mk Try.func31 (by kernel_rfl) rfl) (by simp) (by simp) (by simp) (by simp) (by simp) fun hfit => ?_
    refine ⟨WkE.one _ _, fun _ => ?_⟩
    simp [Try.f31]
    rw [if_pos (by simp only [maxLen]; omega)]
    simp
    exact ⟨_, Wk.refl _ _, by simp [insL_end]⟩
  have hi3 : i < l.length := by omega
  have hcp : ∀ cap, l.length ≤ cap → (l.length * 2 + (cap * 2 - l.length * 2)) / 2 = cap := fun cap h => by omega
  have hw1 : IntKind.i64.wrap ((l.length : Int) + 1) = ((l.length + 1 : Nat) : Int) := by rw [wrap_id (by omega) (by omega)]; omega
  have hw2 : IntKind.i64.wrap ((i : Int) + 1) = ((i + 1 : Nat) : Int) := by rw [wrap_id (by omega) (by omega)]; omega
  have hw3 : IntKind.i64.wrap ((l.length : Int) + 1 - i) = ((l.length + 1 - i : Nat) : Int) := by rw [wrap_id (by omega) (by omega)]; omega
  have hw4 : ((i : Int) + ((l.length + 1 - i : Nat) : Int)).toNat = l.length + 1 := by omega
  have hm1 : min 1 (l.length + 1 - i) = 1 := by omega
  have hm2 : ∀ cap, l.length ≤ cap → min (i * 2) (l.length * 2 + (cap * 2 - l.length * 2)) = i * 2 := fun cap h => by omega
  have hov : ∀ (lb : Nat) (h : AHeap) (y : ABlk) (Q : AV → AHeap → Prop), h[0]? = some y → (blkCells y).map (·.1) = some 0 → Q (B false) h → AInv Try.prog (.fn 62 []) [.sl true 1 x.enc, .own 0 0 (i + 1) lb 2] h Q := fun lb h y Q hy hv hq =>
    overlaps_ok Try.func62 (by kernel_rfl) rfl (by kernel_rfl) rfl rfl (by kernel_rfl) (k := 2) (by kernel_rfl) true 1 _ _ 0 0 (i + 1) lb hy hv (by omega) Q hq
  refine XCall.mkG (fun s (cap : { cap : Nat // l.length ≤ cap ∧ cap ≤ maxLen }) => roomS s 0 0 2 (l.flatMap DecisionR.enc) cap.1) (fun _ => false) Try.func31 rfl rfl rfl (Ent.mk Try.func31 (by kernel_rfl) rfl) (by simp) (by simp) (by simp) (by simp) (by simp) fun hfit => ?_
  refine ⟨WkE.full (t := 0) (by simp) (by simp) (by omega) (by simp), ?_⟩
  rintro ⟨cap, hc1, hc2⟩
  have hcp1 := hcp cap hc1
  have hm3 := hm2 cap hc1
  have hi4 : ¬ i = l.length := by omega
  have hle : i ≤ l.length := by omega
  generalize hA : List.replicate (cap * 2 - l.length * 2) AV.any = A
  have hAl : A.length = cap * 2 - l.length * 2 := by rw [← hA]; simp
  have hLl : (l.flatMap DecisionR.enc).length = l.length * 2 := len_DecisionR l
  have hta : (l.flatMap DecisionR.enc ++ A).take (i * 2) = (l.flatMap DecisionR.enc).take (i * 2) := List.take_append_of_le_length (by rw [hLl]; omega)
  have hdr : (l.flatMap DecisionR.enc).drop (i * 2) = (l.drop i).flatMap DecisionR.enc := drops_DecisionR l i
  have hq0 : (l.flatMap DecisionR.enc ++ A).drop (i * 2) = (l.drop i).flatMap DecisionR.enc ++ A := by rw [List.drop_append_of_le_length (by rw [hLl]; omega), hdr]
  have hdl : ((l.drop i).flatMap DecisionR.enc).length = l.length * 2 - i * 2 := by rw [len_DecisionR, List.length_drop]; omega
  by_cases hr : l.length + 1 ≤ cap
  · have hm4 : min (l.length + 1 - i) (l.length - i) = l.length - i := by omega
    have hm5 : min ((l.length + 1 - i) * 2) ((l.length - i) * 2 + (cap * 2 - l.length * 2)) = (l.length + 1 - i) * 2 := by omega
    have hm6 : min ((l.length + 1 - i) * 2) (l.length * 2 + (cap * 2 - l.length * 2) - i * 2) = (l.length + 1 - i) * 2 := by omega
    have hq1 : List.take ((l.length - i) * 2) (List.take ((l.length + 1 - i) * 2) ((l.drop i).flatMap DecisionR.enc ++ A)) = (l.drop i).flatMap DecisionR.enc := by
      rw [List.take_take, Nat.min_eq_left (by omega), List.take_left' (by rw [hdl]; omega)]
    have hq2 : (putAt (l.flatMap DecisionR.enc ++ A) ((i + 1) * 2) ((l.drop i).flatMap DecisionR.enc)).length = cap * 2 := by
      rw [putAt_length (by rw [List.length_append, hLl, hAl, hdl]; omega), List.length_append, hLl, hAl]; omega
    have hq3 : (putAt (putAt (l.flatMap DecisionR.enc ++ A) ((i + 1) * 2) ((l.drop i).flatMap DecisionR.enc)) (i * 2) x.enc).take ((l.length + 1) * 2) = (insL l i x).flatMap DecisionR.enc := by
      have := ins_room (L := l.flatMap DecisionR.enc) (A := A) (X := x.enc) (a := i * 2) (k := 2) hLl (by omega) rfl (by rw [hAl]; omega)
      rw [ins_DecisionR, hq0, List.take_left' (by rw [hdl])] at this
      rw [show (i + 1) * 2 = i * 2 + 2 by omega, show (l.length + 1) * 2 = l.length * 2 + 2 by omega]
      exact this
    have hone : ∀ y ∈ (l.drop i).flatMap DecisionR.enc, isOne y = true := List.all_eq_true.1 (one_DecisionR _)
    simp [Try.f31, roomS, hA]
    try simp [hcp1, hw1, hw2, hw3, hw4, hm1, hm3, hm4, hq0, hq1, hq2, hi3, hi4, hle, hr]
    repeat' (first
      | ((first | refine Tst.go (fun hw_ ew_ => ?_) (fun hw_ ew_ => ?_)) <;> first | (exfalso; first | omega | with_reducible exact hw_ (by assumption) | with_reducible exact absurd hw_ (by assumption)) | (have nw_ := Nw.nw hw_; simp [ew_, nw_, hcp1, hw1, hw2, hw3, hw4, hm1, hm3, hm4, hq0, hq1, hq2, hi3, hi4, hle, hr]) | simp [ew_, hcp1, hw1, hw2, hw3, hw4, hm1, hm3, hm4, hq0, hq1, hq2, hi3, hi4, hle, hr])
      | (refine hov _ _ _ _ rfl rfl ?_; simp)
      | (refine optBif ⟨rfl, by rw [List.length_append, hLl, hAl]; omega, by rw [List.length_take, List.length_append, hdl, hAl]; omega, by rw [hm4, hq1]; exact hone⟩ ?_; simp)
      | ((first | refine AW.draw (id := 11) Try.checked.mixed (fun _ => false) [] [] 9 (by kernel_rfl) ?_ | refine AW.draw (id := 15) Try.checked.mixed (fun _ => false) [] [] 9 (by kernel_rfl) ?_ | rw [if_pos (by first | omega | (simp only [maxLen]; omega))] | rw [if_neg (by first | omega | (simp only [maxLen]; omega))] | rw [frzOwn_neat (by simp) (by simp <;> omega)] | rw [fzOwn_neat (by simp) (by simp <;> omega)]); try simp [hcp1, hw1, hw2, hw3, hw4, hm1, hm3, hm4, hq0, hq1, hq2, hi3, hi4, hle, hr])
      | ((first | refine TstB.go (fun hw_ ew_ => ?_) (fun hw_ ew_ => ?_)) <;> first | (exfalso; first | omega | with_reducible exact hw_ (by assumption) | with_reducible exact absurd hw_ (by assumption)) | simp [ew_, hcp1, hw1, hw2, hw3, hw4, hm1, hm3, hm4, hq0, hq1, hq2, hi3, hi4, hle, hr])
      | fail)
    exact ⟨_, Wk.trans (Wk.prefix 0 0 ((l.length + 1) * 2) rfl rfl) (Wk.bump 6 0 0 0 (l.length + 1) 2 (by simp) rfl), by simp [hq3]⟩
  · have hm5 : min ((l.length - i) * 2) ((l.length - i) * 2 + (cap * 2 - l.length * 2)) = (l.length - i) * 2 := by omega
    have hq1 : List.take ((l.length - i) * 2) (List.take ((l.length - i) * 2) ((l.drop i).flatMap DecisionR.enc ++ A)) = (l.drop i).flatMap DecisionR.enc := by
      rw [List.take_take, Nat.min_self, List.take_left' (by rw [hdl]; omega)]
    have hq4 : List.take ((l.length - i) * 2) ((l.drop i).flatMap DecisionR.enc) = (l.drop i).flatMap DecisionR.enc := List.take_of_length_le (by rw [hdl]; omega)
    have hone : ∀ y ∈ (l.drop i).flatMap DecisionR.enc, isOne y = true := List.all_eq_true.1 (one_DecisionR _)
    simp [Try.f31, roomS, hA]
    generalize hZ : (List.replicate (l.length + 1 - i) [AV.val (Value.int IntKind.i64 0), AV.val (Value.bool false)]).flatten = Z
    have hZl : Z.length = (l.length + 1 - i) * 2 := by rw [← hZ]; simp
    have hta' : ((l.flatMap DecisionR.enc).take (i * 2)).length = i * 2 := by rw [List.length_take, hLl]; omega
    have hq2 : (putAt ((l.flatMap DecisionR.enc).take (i * 2) ++ Z) (i * 2) x.enc).length = (l.length + 1) * 2 := by
      rw [putAt_length (by rw [List.length_append, hta', hZl, lenc_DecisionR]; omega), List.length_append, hta', hZl]; omega
    have hq3 : putAt (putAt ((l.flatMap DecisionR.enc).take (i * 2) ++ Z) (i * 2) x.enc) ((i + 1) * 2) ((l.drop i).flatMap DecisionR.enc) = (insL l i x).flatMap DecisionR.enc := by
      have := ins_grow (L := l.flatMap DecisionR.enc) (A := A) (X := x.enc) (Z := Z) (a := i * 2) (k := 2) hLl (by omega) rfl (by rw [hZl]; omega)
      rw [ins_DecisionR, hta, hq0, List.take_left' (by rw [hdl])] at this
      rw [show (i + 1) * 2 = i * 2 + 2 by omega]
      exact this
    try simp [hcp1, hw1, hw2, hw3, hw4, hm1, hm3, hq0, hq1, hq4, hta, hZ, hi3, hi4, hle, hr]
    repeat' (first
      | ((first | refine Tst.go (fun hw_ ew_ => ?_) (fun hw_ ew_ => ?_)) <;> first | (exfalso; first | omega | with_reducible exact hw_ (by assumption) | with_reducible exact absurd hw_ (by assumption)) | (have nw_ := Nw.nw hw_; simp [ew_, nw_, hcp1, hw1, hw2, hw3, hw4, hm1, hm3, hq0, hq1, hq4, hta, hZ, hi3, hi4, hle, hr]) | simp [ew_, hcp1, hw1, hw2, hw3, hw4, hm1, hm3, hq0, hq1, hq4, hta, hZ, hi3, hi4, hle, hr])
      | (refine optBif ⟨by rw [hq2]; omega, hone⟩ ?_; simp)
      | ((first | refine AW.draw (id := 11) Try.checked.mixed (fun _ => false) [] [] 9 (by kernel_rfl) ?_ | refine AW.draw (id := 15) Try.checked.mixed (fun _ => false) [] [] 9 (by kernel_rfl) ?_ | rw [if_pos (by first | omega | (simp only [maxLen]; omega))] | rw [if_neg (by first | omega | (simp only [maxLen]; omega))] | rw [frzOwn_neat (by simp) (by simp <;> omega)] | rw [fzOwn_neat (by simp) (by simp <;> omega)]); try simp [hcp1, hw1, hw2, hw3, hw4, hm1, hm3, hq0, hq1, hq4, hta, hZ, hi3, hi4, hle, hr])
      | ((first | refine TstB.go (fun hw_ ew_ => ?_) (fun hw_ ew_ => ?_)) <;> first | (exfalso; first | omega | with_reducible exact hw_ (by assumption) | with_reducible exact absurd hw_ (by assumption)) | simp [ew_, hcp1, hw1, hw2, hw3, hw4, hm1, hm3, hq0, hq1, hq4, hta, hZ, hi3, hi4, hle, hr])
      | fail)
    exact ⟨_, Wk.move 6 0 1 0 0 (l.length + 1) 2 (by decide) (by simp; omega) rfl rfl rfl, by simp [hq3]⟩

theorem indexfD_ok (l : List DecisionR) (g : FuncId) (cap : List AV) (p : DecisionR → Bool) (hcap : cap.all neat = true) (hp : ∀ x ∈ l, PCall Try.prog g (.agg x.enc :: cap) (B (p x))) (hl : l.length ≤ 1000000) : PCall Try.prog 64 [encL DecisionR.enc l, .fn g cap] (I (idxS p l)) := by
  refine PCall.mk (fun _ => false) Try.func64 rfl rfl rfl (Ent.mk Try.func64 (by kernel_rfl) rfl) (by simp [hcap]) (by simp) fun hfit => ?_
  simp at hfit
  simp [Try.f64]
  refine AW.loopG (lit := fun _ => false) (fun i : Nat => ⟨19, pat [(0, encL DecisionR.enc l), (1, .fn g cap), (7, I l.length), (8, I i)], []⟩) (fun i => l.length - i) (fun i => i ≤ l.length ∧ idxFrom p i (l.drop i) = idxS p l) 0 ?_ ?_ ?_
  · exact Wk.at _ rfl rfl (by simp)
  · simp [idxS]
  rintro i ⟨h1, h2⟩ A hA
  by_cases hi : i < l.length
  case neg =>
    rw [idxFrom_end hi] at h2
    try simp [hi, ← h2]
    repeat' (first
      | ((first | refine Tst.go (fun hw_ ew_ => ?_) (fun hw_ ew_ => ?_)) <;> first | (exfalso; first | omega | with_reducible exact hw_ (by assumption) | with_reducible exact absurd hw_ (by assumption)) | (have nw_ := Nw.nw hw_; simp [ew_, nw_, hi, ← h2]) | simp [ew_, hi, ← h2])
      | ((first | refine AW.draw (id := 11) Try.checked.mixed (fun _ => false) [] [] 9 (by kernel_rfl) ?_ | refine AW.draw (id := 15) Try.checked.mixed (fun _ => false) [] [] 9 (by kernel_rfl) ?_ | rw [if_pos (by first | omega | (simp only [maxLen]; omega))] | rw [if_neg (by first | omega | (simp only [maxLen]; omega))] | rw [frzOwn_neat (by simp) (by simp <;> omega)] | rw [fzOwn_neat (by simp) (by simp <;> omega)]); try simp [hi, ← h2])
      | ((first | refine TstB.go (fun hw_ ew_ => ?_) (fun hw_ ew_ => ?_)) <;> first | (exfalso; first | omega | with_reducible exact hw_ (by assumption) | with_reducible exact absurd hw_ (by assumption)) | simp [ew_, hi, ← h2])
      | fail)
  rw [idxFrom_at hi] at h2
  have hw := wrap_nat hi hfit.1.1
  have hpi := hp l[i] (List.getElem_mem hi)
  cases hpp : p l[i] with
  | true =>
    rw [hpp] at hpi
    simp only [hpp, if_true] at h2
    try simp [hi, ← h2, hpp]
    repeat' (first
      | ((first | refine Tst.go (fun hw_ ew_ => ?_) (fun hw_ ew_ => ?_)) <;> first | (exfalso; first | omega | with_reducible exact hw_ (by assumption) | with_reducible exact absurd hw_ (by assumption)) | (have nw_ := Nw.nw hw_; simp [ew_, nw_, hi, ← h2, hpp]) | simp [ew_, hi, ← h2, hpp])
      | ((first | (refine Pc.go (hpi) ?_ ?_; focus (first | rfl | (simp [hi, ← h2, hpp]; done))) | refine AW.draw (id := 11) Try.checked.mixed (fun _ => false) [] [] 9 (by kernel_rfl) ?_ | refine AW.draw (id := 15) Try.checked.mixed (fun _ => false) [] [] 9 (by kernel_rfl) ?_ | rw [if_pos (by first | omega | (simp only [maxLen]; omega))] | rw [if_neg (by first | omega | (simp only [maxLen]; omega))] | rw [frzOwn_neat (by simp) (by simp <;> omega)] | rw [fzOwn_neat (by simp) (by simp <;> omega)]); try simp [hi, ← h2, hpp])
      | ((first | refine TstB.go (fun hw_ ew_ => ?_) (fun hw_ ew_ => ?_)) <;> first | (exfalso; first | omega | with_reducible exact hw_ (by assumption) | with_reducible exact absurd hw_ (by assumption)) | simp [ew_, hi, ← h2, hpp])
      | fail)
  | false =>
    rw [hpp] at hpi
    simp only [hpp, Bool.false_eq_true, if_false] at h2
    try simp [hi, hw, hpp]
    repeat' (first
      | ((first | refine Tst.go (fun hw_ ew_ => ?_) (fun hw_ ew_ => ?_)) <;> first | (exfalso; first | omega | with_reducible exact hw_ (by assumption) | with_reducible exact absurd hw_ (by assumption)) | (have nw_ := Nw.nw hw_; simp [ew_, nw_, hi, hw, hpp]) | simp [ew_, hi, hw, hpp])
      | (exact hA (i + 1) _ (Wk.at _ rfl (by simp) (by simp)) ⟨by omega, h2⟩ (by omega))
      | ((first | (refine Pc.go (hpi) ?_ ?_; focus (first | rfl | (simp [hi, hw, hpp]; done))) | refine AW.draw (id := 11) Try.checked.mixed (fun _ => false) [] [] 9 (by kernel_rfl) ?_ | refine AW.draw (id := 15) Try.checked.mixed (fun _ => false) [] [] 9 (by kernel_rfl) ?_ | rw [if_pos (by first | omega | (simp only [maxLen]; omega))] | rw [if_neg (by first | omega | (simp only [maxLen]; omega))] | rw [frzOwn_neat (by simp) (by simp <;> omega)] | rw [fzOwn_neat (by simp) (by simp <;> omega)]); try simp [hi, hw, hpp])
      | ((first | refine TstB.go (fun hw_ ew_ => ?_) (fun hw_ ew_ => ?_)) <;> first | (exfalso; first | omega | with_reducible exact hw_ (by assumption) | with_reducible exact absurd hw_ (by assumption)) | simp [ew_, hi, hw, hpp])
      | fail)
theorem deletefD_ok (l : List DecisionR) (g : FuncId) (cap cap' : List AV) (hc : AHeap) (p : DecisionR → Bool) (hcap : cap'.all neat = true) (hcr : cap.all (refsLt (hc.length + 1)) = true) (hhc : hc.all (ABlk.refsLt (hc.length + 1)) = true) (hfr : ∀ (f : Nat) (b0 : ABlk) (tl : AHeap), frzs (b0 :: (hc ++ tl)) 0 (f + 3) cap = some cap')
    (hp : ∀ x ∈ l, PCall Try.prog g (.agg x.enc :: cap') (B (p x))) (hl : l.length ≤ 1000000) : XCall Try.prog 34 [.own 0 0 0 l.length 2, .fn g cap] (.cells 0 (l.flatMap DecisionR.enc) :: hc) (.own 0 0 0 (l.filter fun x => !p x).length 2) (.cells 0 ((l.filter fun x => !p x).flatMap DecisionR.enc) :: hc) := by
  refine XCall.mkG (fun s (_ : Unit) => s) (fun _ => false) Try.func34 rfl rfl rfl (Ent.mk Try.func34 (by kernel_rfl) rfl) (by simp; simpa using hcr) (by simp; simpa using hhc) (by simp) (by simp) (by simp; simpa using hhc) fun hfit => ?_
  refine ⟨WkE.one _ _, fun _ => ?_⟩
  have hix := indexfD_ok l g cap' p hcap hp hl
  have hfz : ∀ (v : AV) (b0 : ABlk) (tl : AHeap), neat v = true → (([v] ++ cap).mapM (frz (b0 :: (hc ++ tl)) 0 12)) = some (v :: cap') := fun v b0 tl hv => by
    have h2 : cap.mapM (frz (b0 :: (hc ++ tl)) 0 12) = some cap' := hfr 9 b0 tl
    rw [List.singleton_append, List.mapM_cons, frz_neat _ _ _ hv, h2]; rfl
  have hlend : ∀ {Q : AV → AHeap → Prop}, Q (I (idxS p l)) (.cells 0 (l.flatMap DecisionR.enc) :: hc) → AInv Try.prog (.fn 64 []) [.own 0 0 0 l.length 2, .fn g cap] (.cells 0 (l.flatMap DecisionR.enc) :: hc) Q := fun hq =>
    AInv.lend hix rfl (by
      have := hfr 8 (.cells 0 (l.flatMap DecisionR.enc)) []
      rw [List.append_nil] at this
      rw [List.append_nil, List.mapM_cons, List.mapM_cons, List.mapM_nil, frz_own, List.getElem?_cons_zero, frzOwn_neat (by simp) (by simp), frz_fn, this]
      rfl) hq
  have hzs : ∀ x : DecisionR, setMany [AV.val (Value.int IntKind.i64 0), AV.val (Value.bool false)] 0 x.enc = x.enc := fun _ => rfl
  by_cases h0 : idxS p l = -1
  · obtain ⟨e1, _⟩ := idxS_none h0
    simp [Try.f34]
    try simp [h0]
    repeat' (first
      | ((first | refine Tst.go (fun hw_ ew_ => ?_) (fun hw_ ew_ => ?_)) <;> first | (exfalso; first | omega | with_reducible exact hw_ (by assumption) | with_reducible exact absurd hw_ (by assumption)) | (have nw_ := Nw.nw hw_; simp [ew_, nw_, h0]) | simp [ew_, h0])
      | (refine hlend ?_; simp [h0])
      | ((first | refine AW.draw (id := 11) Try.checked.mixed (fun _ => false) [] [] 9 (by kernel_rfl) ?_ | refine AW.draw (id := 15) Try.checked.mixed (fun _ => false) [] [] 9 (by kernel_rfl) ?_ | rw [if_pos (by first | omega | (simp only [maxLen]; omega))] | rw [if_neg (by first | omega | (simp only [maxLen]; omega))] | rw [frzOwn_neat (by simp) (by simp <;> omega)] | rw [fzOwn_neat (by simp) (by simp <;> omega)]); try simp [h0])
      | ((first | refine TstB.go (fun hw_ ew_ => ?_) (fun hw_ ew_ => ?_)) <;> first | (exfalso; first | omega | with_reducible exact hw_ (by assumption) | with_reducible exact absurd hw_ (by assumption)) | simp [ew_, h0])
      | fail)
    exact ⟨_, Wk.refl _ _, by simp [e1]⟩
  obtain ⟨j0, hj0, e1, e2, e3⟩ := idxS_some h0
  have hw0 : IntKind.i64.wrap ((j0 : Int) + 1) = (j0 : Int) + 1 := wrap_id (by omega) (by omega)
  have hn0 : ¬ ((j0 : Int) = -1) := by omega
  simp [Try.f34]
  try simp [e1, hw0, hn0]
  repeat' (first
    | ((first | refine Tst.go (fun hw_ ew_ => ?_) (fun hw_ ew_ => ?_)) <;> first | (exfalso; first | omega | with_reducible exact hw_ (by assumption) | with_reducible exact absurd hw_ (by assumption)) | (have nw_ := Nw.nw hw_; simp [ew_, nw_, e1, hw0, hn0]) | simp [ew_, e1, hw0, hn0])
    | (refine hlend ?_; simp [e1, hw0, hn0])
    | ((first | refine AW.draw (id := 11) Try.checked.mixed (fun _ => false) [] [] 9 (by kernel_rfl) ?_ | refine AW.draw (id := 15) Try.checked.mixed (fun _ => false) [] [] 9 (by kernel_rfl) ?_ | rw [if_pos (by first | omega | (simp only [maxLen]; omega))] | rw [if_neg (by first | omega | (simp only [maxLen]; omega))] | rw [frzOwn_neat (by simp) (by simp <;> omega)] | rw [fzOwn_neat (by simp) (by simp <;> omega)]); try simp [e1, hw0, hn0])
    | ((first | refine TstB.go (fun hw_ ew_ => ?_) (fun hw_ ew_ => ?_)) <;> first | (exfalso; first | omega | with_reducible exact hw_ (by assumption) | with_reducible exact absurd hw_ (by assumption)) | simp [ew_, e1, hw0, hn0])
    | fail)
  refine AW.loopG (lit := fun _ => false) (fun x : Nat × Nat × List DecisionR => ⟨42, pat [(0, .own 0 0 0 l.length 2), (1, .fn g cap), (5, I x.1), (6, I x.2.1)], .cells 0 (x.2.2.flatMap DecisionR.enc) :: hc⟩) (fun x => l.length - x.2.1) (fun x => DelAt p l x.2.2 x.1 x.2.1) (j0, j0 + 1, l) ?_ ?_ ?_
  · exact Wk.at _ rfl rfl (by simp)
  · exact .start hj0 e2 e3
  rintro ⟨i, j, m⟩ hd A hA
  simp only at hd hA
  have hml := hd.len
  by_cases hj : j < l.length
  case neg =>
    obtain ⟨d1, d2, d3⟩ := hd.done hj
    try simp [hj, hml]
    repeat' (first
      | ((first | refine Tst.go (fun hw_ ew_ => ?_) (fun hw_ ew_ => ?_)) <;> first | (exfalso; first | omega | with_reducible exact hw_ (by assumption) | with_reducible exact absurd hw_ (by assumption)) | (have nw_ := Nw.nw hw_; simp [ew_, nw_, hj, hml]) | simp [ew_, hj, hml])
      | ((first | refine AW.draw (id := 11) Try.checked.mixed (fun _ => false) [] [] 9 (by kernel_rfl) ?_ | refine AW.draw (id := 15) Try.checked.mixed (fun _ => false) [] [] 9 (by kernel_rfl) ?_ | rw [if_pos (by first | omega | (simp only [maxLen]; omega))] | rw [if_neg (by first | omega | (simp only [maxLen]; omega))] | rw [frzOwn_neat (by simp) (by simp <;> omega)] | rw [fzOwn_neat (by simp) (by simp <;> omega)]); try simp [hj, hml])
      | ((first | refine TstB.go (fun hw_ ew_ => ?_) (fun hw_ ew_ => ?_)) <;> first | (exfalso; first | omega | with_reducible exact hw_ (by assumption) | with_reducible exact absurd hw_ (by assumption)) | simp [ew_, hj, hml])
      | fail)
    exact ⟨_, Wk.prefix 0 0 (i * 2) rfl rfl, by simp [d2], by
      have : (putAt (m.flatMap DecisionR.enc) (i * 2) (zeros [AV.val (Value.int IntKind.i64 0), AV.val (Value.bool false)] (l.length - i))).take (i * 2) = (m.take i).flatMap DecisionR.enc := by
        rw [← takes_DecisionR]
        unfold putAt
        rw [List.append_assoc, List.take_left' (by simp; omega)]
      simp only [zeros] at this
      simp [this, d1]⟩
  have hmj := hd.get hj
  have hx := hp l[j] (List.getElem_mem hj)
  have hw : IntKind.i64.wrap ((j : Int) + 1) = ((j + 1 : Nat) : Int) := by rw [wrap_id (by omega) (by omega)]; omega
  have hi := hd.lt
  have hwi : IntKind.i64.wrap ((i : Int) + 1) = ((i + 1 : Nat) : Int) := by rw [wrap_id (by omega) (by omega)]; omega
  cases hpp : p l[j] with
  | true =>
    rw [hpp] at hx
    have hlx : ∀ (b0 : ABlk) (tl : AHeap) {Q : AV → AHeap → Prop}, Q (B true) (b0 :: (hc ++ tl)) → AInv Try.prog (.fn g cap) [.agg l[j].enc] (b0 :: (hc ++ tl)) Q := fun b0 tl Q hq => AInv.lend hx rfl (hfz _ b0 tl (by simp)) hq
    try simp [hj, hml, hzs, hw, hmj]
    repeat' (first
      | ((first | refine Tst.go (fun hw_ ew_ => ?_) (fun hw_ ew_ => ?_)) <;> first | (exfalso; first | omega | with_reducible exact hw_ (by assumption) | with_reducible exact absurd hw_ (by assumption)) | (have nw_ := Nw.nw hw_; simp [ew_, nw_, hj, hml, hzs, hw, hmj]) | simp [ew_, hj, hml, hzs, hw, hmj])
      | (refine hlx _ _ ?_; simp [hw])
      | (exact hA (i, j + 1, m) _ (Wk.cutAt _ rfl (by simp) (by simp) (by simp; simpa using hhc) (by simp; simpa using hcr)) (hd.skip hj hpp) (by simp only; omega))
      | ((first | refine AW.draw (id := 11) Try.checked.mixed (fun _ => false) [] [] 9 (by kernel_rfl) ?_ | refine AW.draw (id := 15) Try.checked.mixed (fun _ => false) [] [] 9 (by kernel_rfl) ?_ | rw [if_pos (by first | omega | (simp only [maxLen]; omega))] | rw [if_neg (by first | omega | (simp only [maxLen]; omega))] | rw [frzOwn_neat (by simp) (by simp <;> omega)] | rw [fzOwn_neat (by simp) (by simp <;> omega)]); try simp [hj, hml, hzs, hw, hmj])
      | ((first | refine TstB.go (fun hw_ ew_ => ?_) (fun hw_ ew_ => ?_)) <;> first | (exfalso; first | omega | with_reducible exact hw_ (by assumption) | with_reducible exact absurd hw_ (by assumption)) | simp [ew_, hj, hml, hzs, hw, hmj])
      | fail)
  | false =>
    rw [hpp] at hx
    have hlx : ∀ (b0 : ABlk) (tl : AHeap) {Q : AV → AHeap → Prop}, Q (B false) (b0 :: (hc ++ tl)) → AInv Try.prog (.fn g cap) [.agg l[j].enc] (b0 :: (hc ++ tl)) Q := fun b0 tl Q hq => AInv.lend hx rfl (hfz _ b0 tl (by simp)) hq
    have him : i < m.length := by omega
    have hil : i < l.length := by omega
    try simp [hj, hml, hzs, hw, hwi, hmj, him, hil]
    repeat' (first
      | ((first | refine Tst.go (fun hw_ ew_ => ?_) (fun hw_ ew_ => ?_)) <;> first | (exfalso; first | omega | with_reducible exact hw_ (by assumption) | with_reducible exact absurd hw_ (by assumption)) | (have nw_ := Nw.nw hw_; simp [ew_, nw_, hj, hml, hzs, hw, hwi, hmj, him, hil]) | simp [ew_, hj, hml, hzs, hw, hwi, hmj, him, hil])
      | (refine hlx _ _ ?_; simp [hw, hwi, hmj, him, hil])
      | (exact hA (i + 1, j + 1, m.set i l[j]) _ (Wk.cutAt _ rfl (by simp) (by simp) (by simp; simpa using hhc) (by simp; simpa using hcr)) (hd.keep hj hpp) (by simp only; omega))
      | ((first | refine AW.draw (id := 11) Try.checked.mixed (fun _ => false) [] [] 9 (by kernel_rfl) ?_ | refine AW.draw (id := 15) Try.checked.mixed (fun _ => false) [] [] 9 (by kernel_rfl) ?_ | rw [if_pos (by first | omega | (simp only [maxLen]; omega))] | rw [if_neg (by first | omega | (simp only [maxLen]; omega))] | rw [frzOwn_neat (by simp) (by simp <;> omega)] | rw [fzOwn_neat (by simp) (by simp <;> omega)]); try simp [hj, hml, hzs, hw, hwi, hmj, him, hil])
      | ((first | refine TstB.go (fun hw_ ew_ => ?_) (fun hw_ ew_ => ?_)) <;> first | (exfalso; first | omega | with_reducible exact hw_ (by assumption) | with_reducible exact absurd hw_ (by assumption)) | simp [ew_, hj, hml, hzs, hw, hwi, hmj, him, hil])
      | fail)

end Go.Proofs.Ytpbjeabigckijaa
