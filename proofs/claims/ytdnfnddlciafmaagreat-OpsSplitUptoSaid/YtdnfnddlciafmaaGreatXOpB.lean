import Derived.Test.YtdnfnddlciafmaaGreatXOpA
import Derived.Test.YtdnfnddlciafmaaGreatXBd
import Derived.Test.YtdnfnddlciafmaaGreatXBg
import Derived.Test.YtdnfnddlciafmaaGreatXBe
import Derived.Test.YtdnfnddlciafmaaGreatXBe
set_option linter.unusedVariables false
set_option linter.unusedSimpArgs false
namespace Go.Proofs.YtdnfnddlciafmaaGreat
open Go.Cx Tab
set_option maxHeartbeats 400000
set_option maxRecDepth 40000
theorem clone_ok (l : List NodeR) (hl : l.length ≤ 1000000) : XCall Tryz.prog 167 [encL NodeR.enc l] [] (.own 0 0 0 l.length 5) [.cells 0 (l.flatMap NodeR.enc)] := by
  refine XCall.mkE 5 (fun _ => false) Tryz.func167 rfl rfl rfl (Ent.mk Tryz.func167 (by kernel_rfl) rfl) (by simp) (by simp) (by simp) (by simp) (by simp) fun hfit => ?_
  simp at hfit
  simp [Tryz.f167]
  rw [if_pos (by simp only [maxLen]; omega)]
  simp
  intro h0
  subst h0
  simp
theorem number_ok (n : NodeR) : PCall Tryz.prog 155 [encN n] (I n.ino) := by
  refine Pm Tryz.func155 fun hfit => ?_
  simp [Tryz.f155, NodeR.enc]
theorem compare_ok (x y : Int) : PCall Tryz.prog 205 [I x, I y] (I (Lib.compareInt x y)) := by
  refine PCall.ofCalls (by simp) rfl (Ent.mk Tryz.func205 (by kernel_rfl) rfl) fun Z w cargs hz hr => ?_
  cases hr with
  | cons h1 h2 =>
    cases h2 with
    | cons h2 h3 =>
      cases h3
      have hs := concV_ok h1 rfl
      have hs2 := concV_ok h2 rfl
      subst hs hs2
      exact (Tryz.cmp_Compare_int x y w).mono fun e w' ⟨he, hw⟩ => ⟨he, by rw [hw]; exact .refl _ _⟩
abbrev byIno : AV := .fn 204 [.fp [.fn 155 []]]
theorem search1_ok (n : NodeR) (k : Int) : PCall Tryz.prog 204 [encN n, I k, .fp [.fn 155 []]] (I (Lib.compareInt n.ino k)) := by
  refine Pm Tryz.func204 fun hfit => ?_
  simp [Tryz.f204, NodeR.enc]
  have s_ := @NodeR.enc.eq_1
  try simp [s_]
  repeat' ((first | ((first | refine Tp ?_ | refine Tn ?_ | refine T2 ?_ ?_) <;> intro hw_ ew_ nw_) | refine Pg (number_ok n) ?_ | refine Pg (compare_ok n.ino k) ?_ | rw [Ip] | rw [In] | rw [Fz] | rw [Gz] | fail) <;> first | simp [ew_, nw_, s_] | simp [s_] | skip)
theorem cmp_lt (x y : Int) : (Lib.compareInt x y < 0) = (x < y) := by
  unfold Lib.compareInt
  apply propext
  repeat' split
  all_goals (constructor <;> intro h <;> simp_all <;> omega)
theorem cmp_eq (x y : Int) : (Lib.compareInt x y = 0) = (x = y) := by
  unfold Lib.compareInt
  apply propext
  repeat' split
  all_goals (constructor <;> intro h <;> simp_all <;> omega)
theorem bsearch_ok (l : List NodeR) (k : Int) (hl : l.length ≤ 1000000) : PCall Tryz.prog 203 [encL NodeR.enc l, I k, byIno] (.tup [I (bsGo (inoAt l) k 0 l.length), B (decide (bsGo (inoAt l) k 0 l.length < l.length) && decide (inoAt l (bsGo (inoAt l) k 0 l.length) = k))]) := by
  refine Pm Tryz.func203 fun hfit => ?_
  simp at hfit
  simp [Tryz.f203]
  refine AW.loopG (lit := fun _ => false) (fun x : Nat × Nat => ⟨49, pat [(0, encL NodeR.enc l), (1, I k), (2, byIno), (8, I l.length), (9, I x.1), (10, I x.2)], []⟩) (fun x => x.2 - x.1) (fun x => x.1 ≤ x.2 ∧ x.2 ≤ l.length ∧ bsGo (inoAt l) k x.1 x.2 = bsGo (inoAt l) k 0 l.length) (0, l.length) ?_ ?_ ?_
  · exact Wk.at _ rfl rfl (by simp)
  · simp
  rintro ⟨i, j⟩ ⟨h1, h2, h3⟩ A hA
  simp only at h1 h2 h3
  have hat : ∀ m (h : m < l.length), inoAt l m = (l[m]).ino := fun m h => by simp [inoAt, List.getD_eq_getElem?_getD, h]
  by_cases h : i < j
  case neg =>
    have hij : i = j := by omega
    subst hij
    rw [bsGo_ge h] at h3
    by_cases hi : i < l.length
    · have e1 := hat i hi
      have s_ := And.intro @h (And.intro @hi (And.intro (Eq.symm (h3)) (And.intro @cmp_eq (And.intro @NodeR.enc.eq_1 (@e1)))))
      try simp [s_]
      repeat' ((first | ((first | refine Tp ?_ | refine Tn ?_ | refine T2 ?_ ?_) <;> intro hw_ ew_ nw_) | refine Pg (search1_ok l[i] k) ?_ | rw [Ip] | rw [In] | rw [Fz] | rw [Gz] | fail) <;> first | simp [ew_, nw_, s_] | simp [s_] | skip)
    · have s_ := And.intro @h (And.intro @hi (Eq.symm (h3)))
      try simp [s_]
      repeat' ((first | ((first | refine Tp ?_ | refine Tn ?_ | refine T2 ?_ ?_) <;> intro hw_ ew_ nw_) | rw [Ip] | rw [In] | rw [Fz] | rw [Gz] | fail) <;> first | simp [ew_, nw_, s_] | simp [s_] | skip)
  rw [bsGo_lt h] at h3
  have hm : (i + j) / 2 < l.length := by omega
  have e1 := hat _ hm
  have w1 : IntKind.i64.wrap ((i : Int) + j) = (i : Int) + j := wrap_id (by omega) (by omega)
  have w2 : ((i : Int) + j) % 18446744073709551616 = (i : Int) + j := by omega
  have w3 : ((i : Int) + j).fdiv 2 = (((i + j) / 2 : Nat) : Int) := by rw [Int.fdiv_eq_ediv_of_nonneg _ (by omega)]; omega
  have w4 : IntKind.i64.wrap (((i + j) / 2 : Nat) : Int) = (((i + j) / 2 : Nat) : Int) := wrap_id (by omega) (by omega)
  generalize hmm : (i + j) / 2 = m at *
  have w5 : IntKind.i64.wrap ((m : Int) + 1) = ((m + 1 : Nat) : Int) := by rw [wrap_id (by omega) (by omega)]; omega
  have hk : inoAt l m < k ∨ ¬ inoAt l m < k := Classical.em _
  rcases hk with hk | hk
  · rw [if_pos hk] at h3
    rw [e1] at hk
    have s_ := And.intro @h (And.intro @w1 (And.intro @w2 (And.intro @w3 (And.intro @w4 (And.intro @w5 (And.intro @hm (And.intro @cmp_lt (And.intro @NodeR.enc.eq_1 (@hk)))))))))
    try simp [s_]
    repeat' ((first | ((first | refine Tp ?_ | refine Tn ?_ | refine T2 ?_ ?_) <;> intro hw_ ew_ nw_) | (exact hA (m + 1, j) _ Wa ⟨by simp only; omega, h2, h3⟩ (by simp only; omega)) | refine Pg (search1_ok l[m] k) ?_ | rw [Ip] | rw [In] | rw [Fz] | rw [Gz] | fail) <;> first | simp [ew_, nw_, s_] | simp [s_] | skip)
  · rw [if_neg hk] at h3
    rw [e1] at hk
    have s_ := And.intro @h (And.intro @w1 (And.intro @w2 (And.intro @w3 (And.intro @w4 (And.intro @w5 (And.intro @hm (And.intro @cmp_lt (And.intro @NodeR.enc.eq_1 (@hk)))))))))
    try simp [s_]
    repeat' ((first | ((first | refine Tp ?_ | refine Tn ?_ | refine T2 ?_ ?_) <;> intro hw_ ew_ nw_) | (exact hA (i, m) _ Wa ⟨by simp only; omega, by simp only; omega, h3⟩ (by simp only; omega)) | refine Pg (search1_ok l[m] k) ?_ | rw [Ip] | rw [In] | rw [Fz] | rw [Gz] | fail) <;> first | simp [ew_, nw_, s_] | simp [s_] | skip)
theorem search_ok (l : List NodeR) (k : Int) (hl : l.length ≤ 1000000) : PCall Tryz.prog 154 [encL NodeR.enc l, I k, .fn 155 []] (.tup [I (plc l k), B (decide (plc l k < l.length) && decide (inoAt l (plc l k) = k))]) := by
  refine Pm Tryz.func154 fun hfit => ?_
  simp [Tryz.f154]
  try simp
  repeat' ((first | ((first | refine Tp ?_ | refine Tn ?_ | refine T2 ?_ ?_) <;> intro hw_ ew_ nw_) | refine Lg (bsearch_ok l k hl) ?_ | rw [Ip] | rw [In] | rw [Fz] | rw [Gz] | fail) <;> first | simp [ew_, nw_] | simp | skip)
abbrev encF (f : FSR) : AV := .agg f.enc
theorem find_ok (f : FSR) (k : Int) (hl : f.l.length ≤ 1000000) : PCall Tryz.prog 85 [encF f, I k] (.tup [encN (findB f.l k).1, B (findB f.l k).2]) := by
  refine Pm Tryz.func85 fun hfit => ?_
  by_cases h : plc f.l k < f.l.length
  case neg =>
    simp [Tryz.f85, FSR.enc, findB, h]
    have s_ := And.intro @FSR.enc.eq_1 (And.intro @NodeR.enc.eq_1 (And.intro @NodeR.zero.eq_1 (@h)))
    try simp [s_]
    repeat' ((first | ((first | refine Tp ?_ | refine Tn ?_ | refine T2 ?_ ?_) <;> intro hw_ ew_ nw_) | refine Pg (search_ok f.l k hl) ?_ | rw [Ip] | rw [In] | rw [Fz] | rw [Gz] | fail) <;> first | simp [ew_, nw_, s_] | simp [s_] | skip)
  by_cases h2 : inoAt f.l (plc f.l k) = k
  case neg =>
    simp [Tryz.f85, FSR.enc, findB, h, h2]
    have s_ := And.intro @FSR.enc.eq_1 (And.intro @NodeR.enc.eq_1 (And.intro @NodeR.zero.eq_1 (And.intro @h (@h2))))
    try simp [s_]
    repeat' ((first | ((first | refine Tp ?_ | refine Tn ?_ | refine T2 ?_ ?_) <;> intro hw_ ew_ nw_) | refine Pg (search_ok f.l k hl) ?_ | rw [Ip] | rw [In] | rw [Fz] | rw [Gz] | fail) <;> first | simp [ew_, nw_, s_] | simp [s_] | skip)
  have e : f.l.getD (plc f.l k) .zero = f.l[plc f.l k] := by simp [List.getD_eq_getElem?_getD, h]
  simp only [findB, if_pos (And.intro h h2), e]
  simp [Tryz.f85, FSR.enc]
  have s_ := And.intro @FSR.enc.eq_1 (And.intro @NodeR.enc.eq_1 (And.intro @NodeR.zero.eq_1 (And.intro @h (@h2))))
  try simp [s_]
  repeat' ((first | ((first | refine Tp ?_ | refine Tn ?_ | refine T2 ?_ ?_) <;> intro hw_ ew_ nw_) | refine Pg (search_ok f.l k hl) ?_ | rw [Ip] | rw [In] | rw [Fz] | rw [Gz] | fail) <;> first | simp [ew_, nw_, s_] | simp [s_] | skip)
theorem rrows_ok (f : FSR) : PCall Tryz.prog 38 [encF f] (B (rowsOk f)) := by
  refine Pm Tryz.func38 fun hfit => ?_
  obtain ⟨l, next⟩ := f
  simp [FSR.enc] at hfit
  simp [Tryz.f38, rowsOk, FSR.enc]
  by_cases hl : l.length ≤ 256
  case neg =>
    have s_ := hl
    try simp [s_]
    repeat' ((first | ((first | refine Tp ?_ | refine Tn ?_ | refine T2 ?_ ?_) <;> intro hw_ ew_ nw_) | refine Dg 7 33 [] [] ?_ | rw [Ip] | rw [In] | rw [Fz] | rw [Gz] | fail) <;> first | simp [ew_, nw_, s_] | simp [s_] | skip)
  have hl' := Nat.not_lt.2 hl
  by_cases hn : 1 ≤ next
  case neg =>
    have s_ := And.intro @hl (And.intro @hl' (@hn))
    try simp [s_]
    repeat' ((first | ((first | refine Tp ?_ | refine Tn ?_ | refine T2 ?_ ?_) <;> intro hw_ ew_ nw_) | refine Dg 7 33 [] [] ?_ | rw [Ip] | rw [In] | rw [Fz] | rw [Gz] | fail) <;> first | simp [ew_, nw_, s_] | simp [s_] | skip)
  have hn' := Int.not_lt.2 hn
  simp [hl', hn']
  refine AW.loopG (lit := fun _ => false) (fun i : Nat => ⟨60, pat [(1, .ptr 0 0 0), (3, I i)], [.cells 0 [encL NodeR.enc l, I next]]⟩) (fun i => l.length - i) (fun i => i ≤ l.length ∧ nodesOk next (prevIno l i) (l.drop i) = nodesOk next none l) 0 ?_ ?_ ?_
  · exact Wa
  · simp [prevIno]
  rintro i ⟨h5, h6⟩ A hA
  by_cases hi : i < l.length
  case neg =>
    rw [nodesOk_end next l i (by omega)] at h6
    have s_ := And.intro (Eq.symm (h6)) (And.intro @hi (And.intro @hl (@hn)))
    try simp [s_]
    repeat' ((first | ((first | refine Tp ?_ | refine Tn ?_ | refine T2 ?_ ?_) <;> intro hw_ ew_ nw_) | refine Dg 7 33 [] [] ?_ | rw [Ip] | rw [In] | rw [Fz] | rw [Gz] | fail) <;> first | simp [ew_, nw_, s_] | simp [s_] | skip)
  rw [nodesOk_at next l i hi] at h6
  have hw2 := wrap_nat hi hfit.1
  cases i with
  | zero =>
    simp [prevIno] at h6
    have s_ := And.intro @hi (And.intro @NodeR.enc.eq_1 (And.intro @hw2 (And.intro (Eq.symm (h6)) (And.intro @hl (@hn)))))
    try simp [s_]
    repeat' ((first | ((first | refine Tp ?_ | refine Tn ?_ | refine T2 ?_ ?_) <;> intro hw_ ew_ nw_) | (exact hA 1 _ Wa ⟨by omega, by simp [prevIno, hi]; simp_all⟩ (by omega)) | refine Pg (rnright_ok l[0]) ?_ | refine Dg 7 33 [] [] ?_ | rw [Ip] | rw [In] | rw [Fz] | rw [Gz] | fail) <;> first | simp [ew_, nw_, s_] | simp [s_] | skip)
  | succ i =>
    have hw3 : IntKind.i64.wrap ((i : Int) + 1 - 1) = (i : Int) := by rw [show (i : Int) + 1 - 1 = i by omega]; exact wrap_id (by omega) (by have := maxLen_lt hfit.1; omega)
    have hw4 : IntKind.i64.wrap (i : Int) = (i : Int) := wrap_id (by omega) (by have := maxLen_lt hfit.1; omega)
    have hw5 : IntKind.i64.wrap ((i : Int) + 1 + 1) = (i : Int) + 2 := by rw [wrap_id (by omega) (by have := maxLen_lt hfit.1; omega)]; omega
    have hi0 : i < l.length := by omega
    simp [prevIno, hi0] at h6
    have s_ := And.intro @hi (And.intro @NodeR.enc.eq_1 (And.intro @hw2 (And.intro @hw3 (And.intro @hw4 (And.intro @hw5 (And.intro @hi0 (And.intro (Eq.symm (h6)) (And.intro @hl (@hn)))))))))
    try simp [s_]
    repeat' ((first | ((first | refine Tp ?_ | refine Tn ?_ | refine T2 ?_ ?_) <;> intro hw_ ew_ nw_) | (exact hA (i + 2) _ Wa ⟨by omega, by simp [prevIno, hi]; simp_all⟩ (by omega)) | refine Pg (rnright_ok l[i + 1]) ?_ | refine Dg 7 33 [] [] ?_ | rw [Ip] | rw [In] | rw [Fz] | rw [Gz] | fail) <;> first | simp [ew_, nw_, s_] | simp [s_] | skip)
theorem rsame08_ok (f g : FSR) : PCall Tryz.prog 23 [encF f, encF g] (B (decide (f = g))) := by
  refine Pm Tryz.func23 fun hfit => ?_
  obtain ⟨a, m⟩ := f
  obtain ⟨b, n⟩ := g
  simp only [FSR.eq_iff]
  simp [FSR.enc] at hfit
  simp [Tryz.f23, FSR.enc]
  by_cases hm : m = n
  case neg =>
    have s_ := hm
    try simp [s_]
    repeat' ((first | ((first | refine Tp ?_ | refine Tn ?_ | refine T2 ?_ ?_) <;> intro hw_ ew_ nw_) | refine Dg 6 12 [] [] ?_ | rw [Ip] | rw [In] | rw [Fz] | rw [Gz] | fail) <;> first | simp [ew_, nw_, s_] | simp [s_] | skip)
  by_cases hl : a.length = b.length
  case neg =>
    have : ¬ a = b := fun e => hl (by rw [e])
    have s_ := And.intro @hm (And.intro @hl (@this))
    try simp [s_]
    repeat' ((first | ((first | refine Tp ?_ | refine Tn ?_ | refine T2 ?_ ?_) <;> intro hw_ ew_ nw_) | refine Dg 6 12 [] [] ?_ | rw [Ip] | rw [In] | rw [Fz] | rw [Gz] | fail) <;> first | simp [ew_, nw_, s_] | simp [s_] | skip)
  subst hm
  simp [hl]
  refine AW.loopG (lit := fun _ => false) (fun i : Nat => ⟨41, pat [(2, .ptr 0 0 0), (3, .ptr 1 0 0), (5, I i)], [.cells 0 [encL NodeR.enc a, I m], .cells 0 [encL NodeR.enc b, I m]]⟩) (fun i => b.length - i) (fun i => i ≤ b.length ∧ a.take i = b.take i) 0 ?_ ?_ ?_
  · exact Wk.at _ rfl (by simp [hl]) (by simp [hl])
  · simp
  · rintro i ⟨hi, ht⟩ A hA
    by_cases h : i < b.length
    case neg =>
      have := take_done ht (by omega) (by omega)
      have s_ := And.intro @h (And.intro @hl ((eq_true this)))
      try simp [s_]
      repeat' ((first | ((first | refine Tp ?_ | refine Tn ?_ | refine T2 ?_ ?_) <;> intro hw_ ew_ nw_) | refine Dg 6 12 [] [] ?_ | rw [Ip] | rw [In] | rw [Fz] | rw [Gz] | fail) <;> first | simp [ew_, nw_, s_] | simp [s_] | skip)
    have ha : i < a.length := by omega
    have hw2 := wrap_nat ha hfit.1.1
    by_cases h2 : a[i] = b[i]
    · have s_ := And.intro @h (And.intro @hl (And.intro @ha (And.intro @hw2 (@h2))))
      try simp [s_]
      repeat' ((first | ((first | refine Tp ?_ | refine Tn ?_ | refine T2 ?_ ?_) <;> intro hw_ ew_ nw_) | (exact hA (i + 1) _ (Wk.at _ rfl (by simp [hl]) (by simp [hl])) ⟨by omega, take_step ht ha h h2⟩ (by omega)) | refine Pg (rnsame_ok a[i] b[i]) ?_ | refine Dg 6 12 [] [] ?_ | rw [Ip] | rw [In] | rw [Fz] | rw [Gz] | fail) <;> first | simp [ew_, nw_, s_] | simp [s_] | skip)
    · have : ¬ a = b := fun e => by subst e; exact h2 rfl
      have s_ := And.intro @h (And.intro @hl (And.intro @ha (And.intro @hw2 (And.intro @h2 (@this)))))
      try simp [s_]
      repeat' ((first | ((first | refine Tp ?_ | refine Tn ?_ | refine T2 ?_ ?_) <;> intro hw_ ew_ nw_) | refine Pg (rnsame_ok a[i] b[i]) ?_ | refine Dg 6 12 [] [] ?_ | rw [Ip] | rw [In] | rw [Fz] | rw [Gz] | fail) <;> first | simp [ew_, nw_, s_] | simp [s_] | skip)
theorem insertN_ok (l : List NodeR) (i : Nat) (x : NodeR) (hi : i ≤ l.length) (hl : l.length ≤ 1000000) : XCall Tryz.prog 169 [.own 0 0 0 l.length 5, I i, .sl true 1 x.enc] [.cells 0 (l.flatMap NodeR.enc)] (.own 0 1 0 (l.length + 1) 5) [.cells 1 ((insL l i x).flatMap NodeR.enc)] := by
  by_cases hi2 : i = l.length
  case pos =>
    subst hi2
    refine XCall.mkG (fun s (_ : Unit) => s) (fun _ => false) Tryz.func169 rfl rfl rfl (Ent.mk Tryz.func169 (by kernel_rfl) rfl) (by simp) (by simp) (by simp) (by simp) (by simp) fun hfit => ?_
    refine ⟨WkE.one _ _, fun _ => ?_⟩
    simp [Tryz.f169]
    rw [if_pos (by simp only [maxLen]; omega)]
    simp
    exact ⟨_, Wk.refl _ _, by simp [insL_end]⟩
  have hi3 : i < l.length := by omega
  have hcp : ∀ cap, l.length ≤ cap → (l.length * 5 + (cap * 5 - l.length * 5)) / 5 = cap := fun cap h => by omega
  have hw1 : IntKind.i64.wrap ((l.length : Int) + 1) = ((l.length + 1 : Nat) : Int) := by rw [wrap_id (by omega) (by omega)]; omega
  have hw2 : IntKind.i64.wrap ((i : Int) + 1) = ((i + 1 : Nat) : Int) := by rw [wrap_id (by omega) (by omega)]; omega
  have hw3 : IntKind.i64.wrap ((l.length : Int) + 1 - i) = ((l.length + 1 - i : Nat) : Int) := by rw [wrap_id (by omega) (by omega)]; omega
  have hw4 : ((i : Int) + ((l.length + 1 - i : Nat) : Int)).toNat = l.length + 1 := by omega
  have hm1 : min 1 (l.length + 1 - i) = 1 := by omega
  have hm2 : ∀ cap, l.length ≤ cap → min (i * 5) (l.length * 5 + (cap * 5 - l.length * 5)) = i * 5 := fun cap h => by omega
  have hov : ∀ (lb : Nat) (h : AHeap) (y : ABlk) (Q : AV → AHeap → Prop), h[0]? = some y → (blkCells y).map (·.1) = some 0 → Q (B false) h → AInv Tryz.prog (.fn 211 []) [.sl true 1 x.enc, .own 0 0 (i + 1) lb 5] h Q := fun lb h y Q hy hv hq =>
    overlaps_ok Tryz.func211 (by kernel_rfl) rfl (by kernel_rfl) rfl rfl (by kernel_rfl) (k := 5) (by kernel_rfl) true 1 _ _ 0 0 (i + 1) lb hy hv (by omega) Q hq
  refine XCall.mkG (fun s (cap : { cap : Nat // l.length ≤ cap ∧ cap ≤ maxLen }) => roomS s 0 0 5 (l.flatMap NodeR.enc) cap.1) (fun _ => false) Tryz.func169 rfl rfl rfl (Ent.mk Tryz.func169 (by kernel_rfl) rfl) (by simp) (by simp) (by simp) (by simp) (by simp) fun hfit => ?_
  refine ⟨WkE.full (t := 0) (by simp) (by simp) (by omega) (by simp), ?_⟩
  rintro ⟨cap, hc1, hc2⟩
  have hcp1 := hcp cap hc1
  have hm3 := hm2 cap hc1
  have hi4 : ¬ i = l.length := by omega
  have hle : i ≤ l.length := by omega
  generalize hA : List.replicate (cap * 5 - l.length * 5) AV.any = A
  have hAl : A.length = cap * 5 - l.length * 5 := by rw [← hA]; simp
  have hLl : (l.flatMap NodeR.enc).length = l.length * 5 := len_NodeR l
  have hta : (l.flatMap NodeR.enc ++ A).take (i * 5) = (l.flatMap NodeR.enc).take (i * 5) := List.take_append_of_le_length (by rw [hLl]; omega)
  have hdr : (l.flatMap NodeR.enc).drop (i * 5) = (l.drop i).flatMap NodeR.enc := drops_NodeR l i
  have hq0 : (l.flatMap NodeR.enc ++ A).drop (i * 5) = (l.drop i).flatMap NodeR.enc ++ A := by rw [List.drop_append_of_le_length (by rw [hLl]; omega), hdr]
  have hdl : ((l.drop i).flatMap NodeR.enc).length = l.length * 5 - i * 5 := by rw [len_NodeR, List.length_drop]; omega
  by_cases hr : l.length + 1 ≤ cap
  · have hm4 : min (l.length + 1 - i) (l.length - i) = l.length - i := by omega
    have hm5 : min ((l.length + 1 - i) * 5) ((l.length - i) * 5 + (cap * 5 - l.length * 5)) = (l.length + 1 - i) * 5 := by omega
    have hm6 : min ((l.length + 1 - i) * 5) (l.length * 5 + (cap * 5 - l.length * 5) - i * 5) = (l.length + 1 - i) * 5 := by omega
    have hq1 : List.take ((l.length - i) * 5) (List.take ((l.length + 1 - i) * 5) ((l.drop i).flatMap NodeR.enc ++ A)) = (l.drop i).flatMap NodeR.enc := by
      rw [List.take_take, Nat.min_eq_left (by omega), List.take_left' (by rw [hdl]; omega)]
    have hq2 : (putAt (l.flatMap NodeR.enc ++ A) ((i + 1) * 5) ((l.drop i).flatMap NodeR.enc)).length = cap * 5 := by
      rw [putAt_length (by rw [List.length_append, hLl, hAl, hdl]; omega), List.length_append, hLl, hAl]; omega
    have hq3 : (putAt (putAt (l.flatMap NodeR.enc ++ A) ((i + 1) * 5) ((l.drop i).flatMap NodeR.enc)) (i * 5) x.enc).take ((l.length + 1) * 5) = (insL l i x).flatMap NodeR.enc := by
      have := ins_room (L := l.flatMap NodeR.enc) (A := A) (X := x.enc) (a := i * 5) (k := 5) hLl (by omega) rfl (by rw [hAl]; omega)
      rw [ins_NodeR, hq0, List.take_left' (by rw [hdl])] at this
      rw [show (i + 1) * 5 = i * 5 + 5 by omega, show (l.length + 1) * 5 = l.length * 5 + 5 by omega]
      exact this
    have hone : ∀ y ∈ (l.drop i).flatMap NodeR.enc, isOne y = true := List.all_eq_true.1 (one_NodeR _)
    simp [Tryz.f169, roomS, hA]
    have s_ := And.intro @hcp1 (And.intro @hw1 (And.intro @hw2 (And.intro @hw3 (And.intro @hw4 (And.intro @hm1 (And.intro @hm3 (And.intro @hm4 (And.intro @hq0 (And.intro @hq1 (And.intro @hq2 (And.intro @hi3 (And.intro @hi4 (And.intro @hle (@hr))))))))))))))
    try simp [s_]
    repeat' ((first | ((first | refine Tp ?_ | refine Tn ?_ | refine T2 ?_ ?_) <;> intro hw_ ew_ nw_) | (refine hov _ _ _ _ rfl rfl ?_; simp) | (refine optBif ⟨rfl, by rw [List.length_append, hLl, hAl]; omega, by rw [List.length_take, List.length_append, hdl, hAl]; omega, by rw [hm4, hq1]; exact hone⟩ ?_; simp) | refine Dg 11 9 [] [] ?_ | refine Dg 15 9 [] [] ?_ | rw [Ip] | rw [In] | rw [Fz] | rw [Gz] | fail) <;> first | simp [ew_, nw_, s_] | simp [s_] | skip)
    exact ⟨_, Wk.trans (Wk.prefix 0 0 ((l.length + 1) * 5) rfl rfl) (Wk.bump 6 0 0 0 (l.length + 1) 5 (by simp) rfl), by simp [hq3]⟩
  · have hm5 : min ((l.length - i) * 5) ((l.length - i) * 5 + (cap * 5 - l.length * 5)) = (l.length - i) * 5 := by omega
    have hq1 : List.take ((l.length - i) * 5) (List.take ((l.length - i) * 5) ((l.drop i).flatMap NodeR.enc ++ A)) = (l.drop i).flatMap NodeR.enc := by
      rw [List.take_take, Nat.min_self, List.take_left' (by rw [hdl]; omega)]
    have hq4 : List.take ((l.length - i) * 5) ((l.drop i).flatMap NodeR.enc) = (l.drop i).flatMap NodeR.enc := List.take_of_length_le (by rw [hdl]; omega)
    have hone : ∀ y ∈ (l.drop i).flatMap NodeR.enc, isOne y = true := List.all_eq_true.1 (one_NodeR _)
    simp [Tryz.f169, roomS, hA]
    generalize hZ : (List.replicate (l.length + 1 - i) [AV.val (Value.int IntKind.i64 0), AV.val (Value.int IntKind.i64 0), AV.val (Value.int IntKind.i64 0), AV.val (Value.string ByteArray.empty), AV.sl true 0 []]).flatten = Z
    have hZl : Z.length = (l.length + 1 - i) * 5 := by rw [← hZ]; simp
    have hta' : ((l.flatMap NodeR.enc).take (i * 5)).length = i * 5 := by rw [List.length_take, hLl]; omega
    have hq2 : (putAt ((l.flatMap NodeR.enc).take (i * 5) ++ Z) (i * 5) x.enc).length = (l.length + 1) * 5 := by
      rw [putAt_length (by rw [List.length_append, hta', hZl, lenc_NodeR]; omega), List.length_append, hta', hZl]; omega
    have hq3 : putAt (putAt ((l.flatMap NodeR.enc).take (i * 5) ++ Z) (i * 5) x.enc) ((i + 1) * 5) ((l.drop i).flatMap NodeR.enc) = (insL l i x).flatMap NodeR.enc := by
      have := ins_grow (L := l.flatMap NodeR.enc) (A := A) (X := x.enc) (Z := Z) (a := i * 5) (k := 5) hLl (by omega) rfl (by rw [hZl]; omega)
      rw [ins_NodeR, hta, hq0, List.take_left' (by rw [hdl])] at this
      rw [show (i + 1) * 5 = i * 5 + 5 by omega]
      exact this
    have s_ := And.intro @hcp1 (And.intro @hw1 (And.intro @hw2 (And.intro @hw3 (And.intro @hw4 (And.intro @hm1 (And.intro @hm3 (And.intro @hq0 (And.intro @hq1 (And.intro @hq4 (And.intro @hta (And.intro @hZ (And.intro @hi3 (And.intro @hi4 (And.intro @hle (@hr)))))))))))))))
    try simp [s_]
    repeat' ((first | ((first | refine Tp ?_ | refine Tn ?_ | refine T2 ?_ ?_) <;> intro hw_ ew_ nw_) | (refine optBif ⟨by rw [hq2]; omega, hone⟩ ?_; simp) | refine Dg 11 9 [] [] ?_ | refine Dg 15 9 [] [] ?_ | rw [Ip] | rw [In] | rw [Fz] | rw [Gz] | fail) <;> first | simp [ew_, nw_, s_] | simp [s_] | skip)
    exact ⟨_, Wk.move 6 0 1 0 0 (l.length + 1) 5 (by decide) (by simp; omega) rfl rfl rfl, by simp [hq3]⟩
theorem indexfN_ok (l : List NodeR) (g : FuncId) (cap : List AV) (p : NodeR → Bool) (hcap : cap.all neat = true) (hp : ∀ x ∈ l, PCall Tryz.prog g (.agg x.enc :: cap) (B (p x))) (hl : l.length ≤ 1000000) : PCall Tryz.prog 210 [encL NodeR.enc l, .fn g cap] (I (idxS p l)) := by
  refine PCall.mk (fun _ => false) Tryz.func210 rfl rfl rfl (Ent.mk Tryz.func210 (by kernel_rfl) rfl) (by simp [hcap]) (by simp) fun hfit => ?_
  simp at hfit
  simp [Tryz.f210]
  refine AW.loopG (lit := fun _ => false) (fun i : Nat => ⟨19, pat [(0, encL NodeR.enc l), (1, .fn g cap), (7, I l.length), (8, I i)], []⟩) (fun i => l.length - i) (fun i => i ≤ l.length ∧ idxFrom p i (l.drop i) = idxS p l) 0 ?_ ?_ ?_
  · exact Wk.at _ rfl rfl (by simp)
  · simp [idxS]
  rintro i ⟨h1, h2⟩ A hA
  by_cases hi : i < l.length
  case neg =>
    rw [idxFrom_end hi] at h2
    have s_ := And.intro @hi (Eq.symm (h2))
    try simp [s_]
    repeat' ((first | ((first | refine Tp ?_ | refine Tn ?_ | refine T2 ?_ ?_) <;> intro hw_ ew_ nw_) | refine Dg 11 9 [] [] ?_ | refine Dg 15 9 [] [] ?_ | rw [Ip] | rw [In] | rw [Fz] | rw [Gz] | fail) <;> first | simp [ew_, nw_, s_] | simp [s_] | skip)
  rw [idxFrom_at hi] at h2
  have hw := wrap_nat hi hfit.1.1
  have hpi := hp l[i] (List.getElem_mem hi)
  cases hpp : p l[i] with
  | true =>
    rw [hpp] at hpi
    simp only [hpp, if_true] at h2
    have s_ := And.intro @hi (And.intro (Eq.symm (h2)) (@hpp))
    try simp [s_]
    repeat' ((first | ((first | refine Tp ?_ | refine Tn ?_ | refine T2 ?_ ?_) <;> intro hw_ ew_ nw_) | refine Pg hpi ?_ | refine Dg 11 9 [] [] ?_ | refine Dg 15 9 [] [] ?_ | rw [Ip] | rw [In] | rw [Fz] | rw [Gz] | fail) <;> first | simp [ew_, nw_, s_] | simp [s_] | skip)
  | false =>
    rw [hpp] at hpi
    simp only [hpp, Bool.false_eq_true, if_false] at h2
    have s_ := And.intro @hi (And.intro @hw (@hpp))
    try simp [s_]
    repeat' ((first | ((first | refine Tp ?_ | refine Tn ?_ | refine T2 ?_ ?_) <;> intro hw_ ew_ nw_) | (exact hA (i + 1) _ Wa ⟨by omega, h2⟩ (by omega)) | refine Pg hpi ?_ | refine Dg 11 9 [] [] ?_ | refine Dg 15 9 [] [] ?_ | rw [Ip] | rw [In] | rw [Fz] | rw [Gz] | fail) <;> first | simp [ew_, nw_, s_] | simp [s_] | skip)
theorem deletefN_ok (l : List NodeR) (g : FuncId) (cap cap' : List AV) (hc : AHeap) (p : NodeR → Bool) (hcap : cap'.all neat = true) (hcr : cap.all (refsLt (hc.length + 1)) = true) (hhc : hc.all (ABlk.refsLt (hc.length + 1)) = true) (hfr : ∀ (f : Nat) (b0 : ABlk) (tl : AHeap), frzs (b0 :: (hc ++ tl)) 0 (f + 3) cap = some cap')
    (hp : ∀ x ∈ l, PCall Tryz.prog g (.agg x.enc :: cap') (B (p x))) (hl : l.length ≤ 1000000) : XCall Tryz.prog 166 [.own 0 0 0 l.length 5, .fn g cap] (.cells 0 (l.flatMap NodeR.enc) :: hc) (.own 0 0 0 (l.filter fun x => !p x).length 5) (.cells 0 ((l.filter fun x => !p x).flatMap NodeR.enc) :: hc) := by
  refine XCall.mkG (fun s (_ : Unit) => s) (fun _ => false) Tryz.func166 rfl rfl rfl (Ent.mk Tryz.func166 (by kernel_rfl) rfl) (by simp; simpa using hcr) (by simp; simpa using hhc) (by simp) (by simp) (by simp; simpa using hhc) fun hfit => ?_
  refine ⟨WkE.one _ _, fun _ => ?_⟩
  have hix := indexfN_ok l g cap' p hcap hp hl
  have hfz : ∀ (v : AV) (b0 : ABlk) (tl : AHeap), neat v = true → (([v] ++ cap).mapM (frz (b0 :: (hc ++ tl)) 0 12)) = some (v :: cap') := fun v b0 tl hv => by
    have h2 : cap.mapM (frz (b0 :: (hc ++ tl)) 0 12) = some cap' := hfr 9 b0 tl
    rw [List.singleton_append, List.mapM_cons, frz_neat _ _ _ hv, h2]; rfl
  have hlend : ∀ {Q : AV → AHeap → Prop}, Q (I (idxS p l)) (.cells 0 (l.flatMap NodeR.enc) :: hc) → AInv Tryz.prog (.fn 210 []) [.own 0 0 0 l.length 5, .fn g cap] (.cells 0 (l.flatMap NodeR.enc) :: hc) Q := fun hq =>
    AInv.lend hix rfl (by
      have := hfr 8 (.cells 0 (l.flatMap NodeR.enc)) []
      rw [List.append_nil] at this
      rw [List.append_nil, List.mapM_cons, List.mapM_cons, List.mapM_nil, frz_own, List.getElem?_cons_zero, frzOwn_neat (by simp) (by simp), frz_fn, this]
      rfl) hq
  have hzs : ∀ x : NodeR, setMany [AV.val (Value.int IntKind.i64 0), AV.val (Value.int IntKind.i64 0), AV.val (Value.int IntKind.i64 0), AV.val (Value.string ByteArray.empty), AV.sl true 0 []] 0 x.enc = x.enc := fun _ => rfl
  by_cases h0 : idxS p l = -1
  · obtain ⟨e1, _⟩ := idxS_none h0
    simp [Tryz.f166]
    have s_ := h0
    try simp [s_]
    repeat' ((first | ((first | refine Tp ?_ | refine Tn ?_ | refine T2 ?_ ?_) <;> intro hw_ ew_ nw_) | (refine hlend ?_; simp [h0]) | refine Dg 11 9 [] [] ?_ | refine Dg 15 9 [] [] ?_ | rw [Ip] | rw [In] | rw [Fz] | rw [Gz] | fail) <;> first | simp [ew_, nw_, s_] | simp [s_] | skip)
    exact ⟨_, Wk.refl _ _, by simp [e1]⟩
  obtain ⟨j0, hj0, e1, e2, e3⟩ := idxS_some h0
  have hw0 : IntKind.i64.wrap ((j0 : Int) + 1) = (j0 : Int) + 1 := wrap_id (by omega) (by omega)
  have hn0 : ¬ ((j0 : Int) = -1) := by omega
  simp [Tryz.f166]
  have s_ := And.intro @e1 (And.intro @hw0 (@hn0))
  try simp [s_]
  repeat' ((first | ((first | refine Tp ?_ | refine Tn ?_ | refine T2 ?_ ?_) <;> intro hw_ ew_ nw_) | (refine hlend ?_; simp [e1, hw0, hn0]) | refine Dg 11 9 [] [] ?_ | refine Dg 15 9 [] [] ?_ | rw [Ip] | rw [In] | rw [Fz] | rw [Gz] | fail) <;> first | simp [ew_, nw_, s_] | simp [s_] | skip)
  refine AW.loopG (lit := fun _ => false) (fun x : Nat × Nat × List NodeR => ⟨42, pat [(0, .own 0 0 0 l.length 5), (1, .fn g cap), (5, I x.1), (6, I x.2.1)], .cells 0 (x.2.2.flatMap NodeR.enc) :: hc⟩) (fun x => l.length - x.2.1) (fun x => DelAt p l x.2.2 x.1 x.2.1) (j0, j0 + 1, l) ?_ ?_ ?_
  · exact Wk.at _ rfl rfl (by simp)
  · exact .start hj0 e2 e3
  rintro ⟨i, j, m⟩ hd A hA
  simp only at hd hA
  have hml := hd.len
  by_cases hj : j < l.length
  case neg =>
    obtain ⟨d1, d2, d3⟩ := hd.done hj
    have s_ := And.intro @hj (@hml)
    try simp [s_]
    repeat' ((first | ((first | refine Tp ?_ | refine Tn ?_ | refine T2 ?_ ?_) <;> intro hw_ ew_ nw_) | refine Dg 11 9 [] [] ?_ | refine Dg 15 9 [] [] ?_ | rw [Ip] | rw [In] | rw [Fz] | rw [Gz] | fail) <;> first | simp [ew_, nw_, s_] | simp [s_] | skip)
    exact ⟨_, Wk.prefix 0 0 (i * 5) rfl rfl, by simp [d2], by
      have : (putAt (m.flatMap NodeR.enc) (i * 5) (zeros [AV.val (Value.int IntKind.i64 0), AV.val (Value.int IntKind.i64 0), AV.val (Value.int IntKind.i64 0), AV.val (Value.string ByteArray.empty), AV.sl true 0 []] (l.length - i))).take (i * 5) = (m.take i).flatMap NodeR.enc := by
        rw [← takes_NodeR]
        unfold putAt
        rw [List.append_assoc, List.take_left' (by simp; omega)]
      simp only [zeros] at this
      simp [this, d1]⟩
  have hmj := hd.get hj
  have hx := hp l[j] (List.getElem_mem hj)
  have hw : IntKind.i64.wrap ((j : Int) + 1) = ((j + 1 : Nat) : Int) := by rw [wrap_id (by omega) (by omega)]; omega
  have hi := hd.lt
  have hwi : IntKind.i64.wrap ((i : Int) + 1) = ((i + 1 : Nat) : Int) := by rw [wrap_id (by omega) (by omega)]; omega
  cases hpp : p l[j] with
  | true =>
    rw [hpp] at hx
    have hlx : ∀ (b0 : ABlk) (tl : AHeap) {Q : AV → AHeap → Prop}, Q (B true) (b0 :: (hc ++ tl)) → AInv Tryz.prog (.fn g cap) [.agg l[j].enc] (b0 :: (hc ++ tl)) Q := fun b0 tl Q hq => AInv.lend hx rfl (hfz _ b0 tl (by simp)) hq
    have s_ := And.intro @hj (And.intro @hml (And.intro @hzs (And.intro @hw (@hmj))))
    try simp [s_]
    repeat' ((first | ((first | refine Tp ?_ | refine Tn ?_ | refine T2 ?_ ?_) <;> intro hw_ ew_ nw_) | (refine hlx _ _ ?_; simp [hw]) | (exact hA (i, j + 1, m) _ (Wk.cutAt _ rfl (by simp) (by simp) (by simp; simpa using hhc) (by simp; simpa using hcr)) (hd.skip hj hpp) (by simp only; omega)) | refine Dg 11 9 [] [] ?_ | refine Dg 15 9 [] [] ?_ | rw [Ip] | rw [In] | rw [Fz] | rw [Gz] | fail) <;> first | simp [ew_, nw_, s_] | simp [s_] | skip)
  | false =>
    rw [hpp] at hx
    have hlx : ∀ (b0 : ABlk) (tl : AHeap) {Q : AV → AHeap → Prop}, Q (B false) (b0 :: (hc ++ tl)) → AInv Tryz.prog (.fn g cap) [.agg l[j].enc] (b0 :: (hc ++ tl)) Q := fun b0 tl Q hq => AInv.lend hx rfl (hfz _ b0 tl (by simp)) hq
    have him : i < m.length := by omega
    have hil : i < l.length := by omega
    have s_ := And.intro @hj (And.intro @hml (And.intro @hzs (And.intro @hw (And.intro @hwi (And.intro @hmj (And.intro @him (@hil)))))))
    try simp [s_]
    repeat' ((first | ((first | refine Tp ?_ | refine Tn ?_ | refine T2 ?_ ?_) <;> intro hw_ ew_ nw_) | (refine hlx _ _ ?_; simp [hw, hwi, hmj, him, hil]) | (exact hA (i + 1, j + 1, m.set i l[j]) _ (Wk.cutAt _ rfl (by simp) (by simp) (by simp; simpa using hhc) (by simp; simpa using hcr)) (hd.keep hj hpp) (by simp only; omega)) | refine Dg 11 9 [] [] ?_ | refine Dg 15 9 [] [] ?_ | rw [Ip] | rw [In] | rw [Fz] | rw [Gz] | fail) <;> first | simp [ew_, nw_, s_] | simp [s_] | skip)
theorem few_ok (f : FSR) : PCall Tryz.prog 37 [encF f] (B (fewS f)) := by
  refine Pm Tryz.func37 fun hfit => ?_
  obtain ⟨l, next⟩ := f
  simp [FSR.enc] at hfit
  have hll := hfit.1
  simp only [maxLen] at hll
  simp [Tryz.f37, fewS, FSR.enc]
  refine AW.loopG (lit := fun _ => false) (fun x : Nat × Int => ⟨38, pat [(1, .ptr 0 0 0), (3, I x.2), (4, I x.1)], [.cells 0 [encL NodeR.enc l, I next]]⟩) (fun x => l.length - x.1) (fun x => x.1 ≤ l.length ∧ fewFrom x.2 (l.drop x.1) = fewFrom l.length l) (0, (l.length : Int)) ?_ ?_ ?_
  · exact Wa
  · simp
  rintro ⟨i, n⟩ ⟨h1, h2⟩ A hA
  simp only at h1 h2
  by_cases hi : i < l.length
  case neg =>
    rw [fewFrom_end hi] at h2
    have s_ := And.intro @hi (Eq.symm (h2))
    try simp [s_]
    repeat' ((first | ((first | refine Tp ?_ | refine Tn ?_ | refine T2 ?_ ?_) <;> intro hw_ ew_ nw_) | rw [Ip] | rw [In] | rw [Fz] | rw [Gz] | fail) <;> first | simp [ew_, nw_, s_] | simp [s_] | skip)
  rw [fewFrom_at hi] at h2
  by_cases hn : n ≤ 200
  case neg =>
    rw [if_neg hn] at h2
    have s_ := And.intro @hi (And.intro @hn (Eq.symm (h2)))
    try simp [s_]
    repeat' ((first | ((first | refine Tp ?_ | refine Tn ?_ | refine T2 ?_ ?_) <;> intro hw_ ew_ nw_) | rw [Ip] | rw [In] | rw [Fz] | rw [Gz] | fail) <;> first | simp [ew_, nw_, s_] | simp [s_] | skip)
  rw [if_pos hn] at h2
  have hw2 := wrap_nat hi hfit.1
  by_cases ht : 5000 < l[i].text.size
  · rw [if_pos ht] at h2
    have s_ := And.intro @hi (And.intro @hn (And.intro @NodeR.enc.eq_1 (And.intro @ht (Eq.symm (h2)))))
    try simp [s_]
    repeat' ((first | ((first | refine Tp ?_ | refine Tn ?_ | refine T2 ?_ ?_) <;> intro hw_ ew_ nw_) | rw [Ip] | rw [In] | rw [Fz] | rw [Gz] | fail) <;> first | simp [ew_, nw_, s_] | simp [s_] | skip)
  · rw [if_neg ht] at h2
    have s_ := And.intro @hi (And.intro @hn (And.intro @NodeR.enc.eq_1 (And.intro @hw2 (@ht))))
    try simp [s_]
    repeat' ((first | ((first | refine Tp ?_ | refine Tn ?_ | refine T2 ?_ ?_) <;> intro hw_ ew_ nw_) | (exact hA (i + 1, IntKind.i64.wrap (n + l[i].l.length)) _ Wa ⟨by simp only; omega, h2⟩ (by simp only; omega)) | rw [Ip] | rw [In] | rw [Fz] | rw [Gz] | fail) <;> first | simp [ew_, nw_, s_] | simp [s_] | skip)
theorem out1_ok (n : NodeR) (k : Int) : PCall Tryz.prog 168 [encN n, .fp [I k]] (B (decide (n.ino = k))) := by
  refine Pm Tryz.func168 fun hfit => ?_
  simp [Tryz.f168, NodeR.enc]
theorem tout_ok (f : FSR) (k : Int) (hl : f.l.length ≤ 1000000) : PCall Tryz.prog 99 [encF f, I k] (encF (outF f k)) := by
  refine Pm Tryz.func99 fun hfit => ?_
  have hdel := deletefN_ok f.l 168 [.ptr 1 0 0] [.fp [I k]] [.cells 0 [I k]] (fun n => decide (n.ino = k)) (by simp) (by simp) (by simp) (fun fu b0 tl => by simp) (fun x _ => out1_ok x k) hl
  simp [Tryz.f99, FSR.enc]
  refine AW.wkZ (WkZ.freeze [0] 2 (.fp [encL NodeR.enc f.l, I f.next]) (by simp)) ?_
  simp
  refine Dg 1 8 [] [(1, .t), (2, .e), (4, .e), (6, .t)] ?_
  simp
  refine ADcall.fresh [] (clone_ok f.l hl) (by simp) (by simp) ?_
  simp
  refine ADcall.fresh [3, 1] hdel (by simp) (by simp) ?_
  simp [outF, outS, FSR.enc]
  rw [frzOwn_neat (by simp) (by simp)]
  simp [FSR.enc]
theorem tput_ok (f : FSR) (n : NodeR) (hl : f.l.length ≤ 100000) (hn : inI n.ino) (hm : n.ino ≠ 9223372036854775807) : PCall Tryz.prog 100 [encF f, encN n] (encF (putB f n)) := by
  obtain ⟨hn1, hn2⟩ := hn
  have hw : IntKind.i64.wrap (n.ino + 1) = n.ino + 1 := wrap_id (by omega) (by omega)
  have hse := search_ok f.l n.ino (by omega)
  have hple := plc_le f.l n.ino
  by_cases h : plc f.l n.ino < f.l.length ∧ inoAt f.l (plc f.l n.ino) = n.ino
  · obtain ⟨h1, h2⟩ := h
    refine Pm Tryz.func100 fun hfit => ?_
    simp only [putB, if_pos (And.intro h1 h2)]
    generalize plc f.l n.ino = q at *
    simp [Tryz.f100, FSR.enc]
    have s_ := And.intro @FSR.enc.eq_1 (And.intro @h1 (And.intro @h2 (@hw)))
    try simp [s_]
    repeat' ((first | ((first | refine Tp ?_ | refine Tn ?_ | refine T2 ?_ ?_) <;> intro hw_ ew_ nw_) | (refine AInv.fresh [] (clone_ok f.l (by omega)) (by simp) (by simp) ?_; simp [h1, h2, hw]) | refine Pg hse ?_ | rw [Ip] | rw [In] | rw [Fz] | rw [Gz] | fail) <;> first | simp [ew_, nw_, s_] | simp [s_] | skip)
  · refine Pm Tryz.func100 fun hfit => ?_
    simp only [putB, if_neg h]
    have hdec : (decide (plc f.l n.ino < f.l.length) && decide (inoAt f.l (plc f.l n.ino) = n.ino)) = false := by
      rw [Bool.eq_false_iff]; simpa using h
    rw [hdec] at hse
    generalize plc f.l n.ino = q at *
    have hins := insertN_ok f.l q n hple (by omega)
    simp [Tryz.f100, FSR.enc]
    have s_ := And.intro @FSR.enc.eq_1 (@hw)
    try simp [s_]
    repeat' ((first | ((first | refine Tp ?_ | refine Tn ?_ | refine T2 ?_ ?_) <;> intro hw_ ew_ nw_) | (refine AInv.fresh [] (clone_ok f.l (by omega)) (by simp) (by simp) ?_; simp [hw]) | (refine AInv.fresh [3] hins (by simp) (by simp) ?_; simp [hw]) | refine Pg hse ?_ | rw [Ip] | rw [In] | rw [Fz] | rw [Gz] | fail) <;> first | simp [ew_, nw_, s_] | simp [s_] | skip)
end Go.Proofs.YtdnfnddlciafmaaGreat
