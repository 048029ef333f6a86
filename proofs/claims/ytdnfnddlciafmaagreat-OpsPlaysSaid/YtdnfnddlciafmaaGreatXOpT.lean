import Derived.Test.YtdnfnddlciafmaaGreatXOpS
set_option linter.unusedVariables false
set_option linter.unusedSimpArgs false
namespace Go.Proofs.YtdnfnddlciafmaaGreat
open Go.Cx Tab
set_option maxHeartbeats 400000
set_option maxRecDepth 40000
theorem growN_ok (m : Nat) (hm : m ≤ 1000000) : XCall Tryz.prog 164 [.sl true 0 [], I m] [] (.own 0 0 0 0 5) [.cells 0 []] := by
  have hw : IntKind.i64.wrap (m : Int) = m := wrap_id (by omega) (by omega)
  by_cases h0 : m = 0
  · subst h0
    refine XCall.mkG (fun s (_ : Unit) => s) (fun _ => false) Tryz.func164 rfl rfl rfl (Ent.mk Tryz.func164 (by kernel_rfl) rfl) (by simp) (by simp) (by simp) (by simp) (by simp) fun hfit => ?_
    refine ⟨WkE.one _ _, fun _ => ?_⟩
    have s_ := And.intro (@Tryz.f164.eq_1) (@hw)
    try simp [s_]
    repeat' ((first | ((first | refine Tp ?_ | refine Tn ?_ | refine T2 ?_ ?_) <;> intro hw_ ew_ nw_) | rw [Ip] | rw [In] | rw [Fz] | rw [Gz] | fail) <;> first | simp [ew_, nw_, s_] | simp [s_] | skip)
    exact ⟨_, Wk.ownNil 4 5 (by simp), by simp⟩
  · refine XCall.mkG (fun s (_ : Unit) => s) (fun _ => false) Tryz.func164 rfl rfl rfl (Ent.mk Tryz.func164 (by kernel_rfl) rfl) (by simp) (by simp) (by simp) (by simp) (by simp) fun hfit => ?_
    refine ⟨WkE.one _ _, fun _ => ?_⟩
    have h1 : 0 < m := by omega
    have hx : m ≤ maxLen := by simp only [maxLen]; omega
    have s_ := And.intro (@Tryz.f164.eq_1) (And.intro @hw (And.intro @h0 (And.intro @h1 (@hx))))
    try simp [s_]
    repeat' ((first | ((first | refine Tp ?_ | refine Tn ?_ | refine T2 ?_ ?_) <;> intro hw_ ew_ nw_) | rw [Ip] | rw [In] | rw [Fz] | rw [Gz] | fail) <;> first | simp [ew_, nw_, s_] | simp [s_] | skip)
    exact ⟨_, Wk.prefix 0 0 0 rfl rfl, by simp⟩
theorem concatN_ok (a b : List NodeR) (ha : a.length ≤ 400000) (hb : b.length ≤ 400000) : PCall Tryz.prog 97 [.sl false 2 [encL NodeR.enc a, encL NodeR.enc b]] (encL NodeR.enc (a ++ b)) := by
  have hg := growN_ok (a.length + b.length) (by omega)
  have hw1 : IntKind.i64.wrap (a.length : Int) = a.length := wrap_id (by omega) (by omega)
  have hw2 : IntKind.i64.wrap ((a.length : Int) + b.length) = ((a.length + b.length : Nat) : Int) := by rw [wrap_id (by omega) (by omega)]; omega
  refine Pm Tryz.func97 fun hfit => ?_
  simp [Tryz.f97]
  refine AW.loopG (lit := fun _ => false) (fun i : Nat => ⟨36, pat [(0, .sl false 2 [encL NodeR.enc a, encL NodeR.enc b]), (3, I (if i = 0 then 0 else if i = 1 then a.length else a.length + b.length : Nat)), (9, .sl false 2 [encL NodeR.enc a, encL NodeR.enc b]), (10, I 2), (11, I i)], []⟩) (fun i => 2 - i) (fun i => i ≤ 2) 0 ?_ ?_ ?_
  · exact Wa
  · simp
  rintro i g1 A hA
  have hi : i = 0 ∨ i = 1 ∨ i = 2 := by omega
  rcases hi with rfl | rfl | rfl
  · have s_ := hw1
    try simp [s_]
    repeat' ((first | ((first | refine Tp ?_ | refine Tn ?_ | refine T2 ?_ ?_) <;> intro hw_ ew_ nw_) | (exact hA 1 _ Wa (by simp) (by simp)) | rw [Ip] | rw [In] | rw [Fz] | rw [Gz] | fail) <;> first | simp [ew_, nw_, s_] | simp [s_] | skip)
  · have s_ := hw2
    try simp [s_]
    repeat' ((first | ((first | refine Tp ?_ | refine Tn ?_ | refine T2 ?_ ?_) <;> intro hw_ ew_ nw_) | (exact hA 2 _ Wa (by simp) (by simp)) | rw [Ip] | rw [In] | rw [Fz] | rw [Gz] | fail) <;> first | simp [ew_, nw_, s_] | simp [s_] | skip)
  · try simp
    repeat' ((first | ((first | refine Tp ?_ | refine Tn ?_ | refine T2 ?_ ?_) <;> intro hw_ ew_ nw_) | (refine AInv.fresh [] hg (by simp) (by simp) ?_; simp) | rw [Ip] | rw [In] | rw [Fz] | rw [Gz] | fail) <;> first | simp [ew_, nw_] | simp | skip)
    refine AW.loopG (lit := fun _ => false) (fun x : Nat × Nat × List NodeR => ⟨36, pat [(6, .own 0 x.2.1 0 x.2.2.length 5), (25, .sl false 2 [encL NodeR.enc a, encL NodeR.enc b]), (26, I 2), (27, I x.1)], [.cells x.2.1 (x.2.2.flatMap NodeR.enc)]⟩) (fun x => 2 - x.1) (fun x => x.1 ≤ 2 ∧ x.2.2 = if x.1 = 0 then [] else if x.1 = 1 then a else a ++ b) (0, 0, []) ?_ ?_ ?_
    · exact Wa
    · simp
    rintro ⟨j, ver, acc⟩ ⟨k1, k2⟩ A2 hA2
    simp only at k1 k2 hA2
    have hj : j = 0 ∨ j = 1 ∨ j = 2 := by omega
    rcases hj with rfl | rfl | rfl
    · have k2 : acc = [] := k2
      subst k2
      have hx : a.length ≤ maxLen := by simp only [maxLen]; omega
      have s_ := hx
      try simp [s_]
      repeat' ((first | ((first | refine Tp ?_ | refine Tn ?_ | refine T2 ?_ ?_) <;> intro hw_ ew_ nw_) | (exact hA2 (1, ver + 1, a) _ Wc ⟨by simp, by simp⟩ (by simp)) | rw [Ip] | rw [In] | rw [Fz] | rw [Gz] | fail) <;> first | simp [ew_, nw_, s_] | simp [s_] | skip)
    · have k2 : acc = a := k2
      subst k2
      have hx : acc.length + b.length ≤ maxLen := by simp only [maxLen]; omega
      have s_ := hx
      try simp [s_]
      repeat' ((first | ((first | refine Tp ?_ | refine Tn ?_ | refine T2 ?_ ?_) <;> intro hw_ ew_ nw_) | (exact hA2 (2, ver + 1, acc ++ b) _ Wc ⟨by simp, by simp⟩ (by simp)) | rw [Ip] | rw [In] | rw [Fz] | rw [Gz] | fail) <;> first | simp [ew_, nw_, s_] | simp [s_] | skip)
    · have k2 : acc = a ++ b := k2
      subst k2
      try simp
      repeat' ((first | ((first | refine Tp ?_ | refine Tn ?_ | refine T2 ?_ ?_) <;> intro hw_ ew_ nw_) | rw [Ip] | rw [In] | rw [Fz] | rw [Gz] | fail) <;> first | simp [ew_, nw_] | simp | skip)
theorem chg_set (k : Int) (y : NodeR) : setMany [AV.val (.int .i64 k), AV.val (.bool false), AV.val (.int .i64 0), AV.val (.int .i64 0), AV.val (.int .i64 0), AV.val (.string .empty), AV.sl true 0 []] 2 y.enc = (⟨k, false, y⟩ : ChangeR).enc := rfl
theorem changes_ok (a b : FSR) (ha : a.l.length ≤ 100000) (hb : b.l.length ≤ 100000) : PCall Tryz.prog 36 [encF a, encF b] (encL ChangeR.enc (changesS a b)) := by
  have hcc := concatN_ok a.l b.l (by omega) (by omega)
  have hall : (a.l ++ b.l).length = a.l.length + b.l.length := List.length_append
  have ech : changesS a b = (numsS ((a.l ++ b.l).map (·.ino))).flatMap (changeS a b) := by rw [changesS, List.map_append]
  rw [ech]
  generalize hL : a.l ++ b.l = L at *
  refine Pm Tryz.func36 fun hfit => ?_
  simp [Tryz.f36, FSR.enc]
  try simp
  repeat' ((first | ((first | refine Tp ?_ | refine Tn ?_ | refine T2 ?_ ?_) <;> intro hw_ ew_ nw_) | refine Sg hcc ?_ | rw [Ip] | rw [In] | rw [Fz] | rw [Gz] | fail) <;> first | simp [ew_, nw_] | simp | skip)
  refine AW.loopG (lit := fun _ => false) (fun x : Nat × List Int => ⟨76, pat [(2, .ptr 0 0 0), (3, .ptr 1 0 0), (5, .own 2 x.2.length 0 x.2.length 1), (20, encL NodeR.enc L), (21, I L.length), (22, I x.1)], [.cells 0 [encL NodeR.enc a.l, I a.next], .cells 0 [encL NodeR.enc b.l, I b.next], .cells x.2.length (x.2.map I)]⟩) (fun x => L.length - x.1) (fun x => x.1 ≤ L.length ∧ x.2.length = x.1 ∧ x.2 ++ (L.drop x.1).map (·.ino) = L.map (·.ino)) (0, []) ?_ ?_ ?_
  · exact Wk.trans (Wk.ownNil 5 1 (by simp)) Wa
  · simp
  rintro ⟨i, acc⟩ ⟨g1, g2, g3⟩ A hA
  simp only at g1 g2 g3 hA
  by_cases hi : i < L.length
  case pos =>
    have hwi := wrap_nat hi (by simp only [maxLen]; omega)
    have hm : acc.length + 1 ≤ maxLen := by simp only [maxLen]; omega
    rw [List.drop_eq_getElem_cons hi, List.map_cons] at g3
    have hal : (acc ++ [L[i].ino]).length = acc.length + 1 := by simp
    have s_ := And.intro @hi (And.intro @hwi (And.intro @hm ((show acc.length + 1 ≤ 17592186044416 by omega))))
    try simp [s_]
    repeat' ((first | ((first | refine Tp ?_ | refine Tn ?_ | refine T2 ?_ ?_) <;> intro hw_ ew_ nw_) | (exact hA (i + 1, acc ++ [L[i].ino]) _ Wc ⟨hi, by simp only [hal]; omega, by simpa using g3⟩ (by simp only; omega)) | rw [Ip] | rw [In] | rw [Fz] | rw [Gz] | fail) <;> first | simp [ew_, nw_, s_] | simp [s_] | skip)
  rw [List.drop_eq_nil_of_le (by omega), List.map_nil, List.append_nil] at g3
  have hnum := numbers_ok acc.length acc (by omega)
  obtain ⟨q, hq⟩ : ∃ q, q = numsS (L.map (·.ino)) := ⟨_, rfl⟩
  rw [g3, ← hq] at hnum
  rw [← hq]
  have hql : q.length ≤ 1000000 := by
    have h1 := compact_sort (L.map (·.ino))
    have h2 := compact_len ((L.map (·.ino)).mergeSort fun x y => decide (x ≤ y))
    rw [h1, ← hq, List.length_mergeSort, List.length_map] at h2
    omega
  rw [← g3] at hnum
  have s_ := hi
  try simp [s_]
  repeat' ((first | ((first | refine Tp ?_ | refine Tn ?_ | refine T2 ?_ ?_) <;> intro hw_ ew_ nw_) | (refine AInv.heap [2] hnum (by simp) (by simp) ?_; simp) | rw [Ip] | rw [In] | rw [Fz] | rw [Gz] | fail) <;> first | simp [ew_, nw_, s_] | simp [s_] | skip)
  generalize acc.length = ver at *
  refine AW.loopG (lit := fun _ => false) (fun x : Nat × List ChangeR => ⟨76, pat [(2, .ptr 0 0 0), (3, .ptr 1 0 0), (8, .own 3 x.2.length 0 x.2.length 7), (33, .own 2 ver 0 q.length 1), (34, I q.length), (35, I x.1)], [.cells 0 [encL NodeR.enc a.l, I a.next], .cells 0 [encL NodeR.enc b.l, I b.next], .cells ver (q.map I), .cells x.2.length (x.2.flatMap ChangeR.enc)]⟩) (fun x => q.length - x.1) (fun x => x.1 ≤ q.length ∧ x.2.length ≤ x.1 ∧ x.2 ++ (q.drop x.1).flatMap (changeS a b) = q.flatMap (changeS a b)) (0, []) ?_ ?_ ?_
  · exact Wk.trans (Wk.ownNil 8 7 (by simp)) Wa
  · simp
  rintro ⟨j, out⟩ ⟨k1, k2, k3⟩ A2 hA2
  simp only at k1 k2 k3 hA2
  by_cases hj : j < q.length
  case neg =>
    rw [List.drop_eq_nil_of_le (by omega), List.flatMap_nil, List.append_nil] at k3
    rw [← k3]
    have s_ := hj
    try simp [s_]
    repeat' ((first | ((first | refine Tp ?_ | refine Tn ?_ | refine T2 ?_ ?_) <;> intro hw_ ew_ nw_) | rw [Ip] | rw [In] | rw [Fz] | rw [Gz] | fail) <;> first | simp [ew_, nw_, s_] | simp [s_] | skip)
  rw [List.drop_eq_getElem_cons hj, List.flatMap_cons] at k3
  have hwj := wrap_nat hj (by simp only [maxLen]; omega)
  have hm : out.length + 1 ≤ maxLen := by simp only [maxLen]; omega
  have f1 : PCall Tryz.prog 85 [.agg [encL NodeR.enc a.l, I a.next], I q[j]] (.tup [encN (findB a.l q[j]).1, B (findB a.l q[j]).2]) := find_ok a q[j] (by omega)
  have f2 : PCall Tryz.prog 85 [.agg [encL NodeR.enc b.l, I b.next], I q[j]] (.tup [encN (findB b.l q[j]).1, B (findB b.l q[j]).2]) := find_ok b q[j] (by omega)
  have f3 := nsame_ok (findB a.l q[j]).1 (findB b.l q[j]).1
  have hal : ∀ c : ChangeR, (out ++ [c]).length = out.length + 1 := fun c => by simp
  generalize hk : q[j] = k at *
  have hr := show changeS a b k = _ from rfl
  cases hb2 : (findB b.l k).2 with
  | false =>
    have e : changeS a b k = [⟨k, true, .zero⟩] := by unfold changeS; rw [if_pos hb2]
    rw [e] at k3
    rw [hb2] at f2
    have s_ := And.intro @hj (And.intro @hwj (And.intro @hm (@hk)))
    try simp [s_]
    repeat' ((first | ((first | refine Tp ?_ | refine Tn ?_ | refine T2 ?_ ?_) <;> intro hw_ ew_ nw_) | refine Pg f1 ?_ | refine Pg f2 ?_ | rw [Ip] | rw [In] | rw [Fz] | rw [Gz] | fail) <;> first | simp [ew_, nw_, s_] | simp [s_] | skip)
    refine hA2 (j + 1, out ++ [⟨k, true, .zero⟩]) _ (Wk.trans (Wk.softEnd 3 (out.length + 1) (out.flatMap ChangeR.enc) (x' := [I k, B true, I 0, I 0, I 0, S .empty, .sl false 0 []]) rfl (by simp)) (Wk.cutAt _ rfl (by simp) ?_ (by simp) (by simp))) ⟨hj, by simp only [hal]; omega, by simpa using k3⟩ (by simp only; omega)
    simp [ChangeR.enc, zeroN_enc]
  | true =>
    rw [hb2] at f2
    cases ha2 : (findB a.l k).2 with
    | false =>
      have e : changeS a b k = [⟨k, false, (findB b.l k).1⟩] := by unfold changeS; rw [if_neg (by rw [hb2]; simp), if_pos (.inl ha2)]
      rw [e] at k3
      rw [ha2] at f1
      generalize (findB b.l k).1 = y at *
      have s_ := And.intro @hj (And.intro @hwj (And.intro @hm (And.intro @hk (@chg_set))))
      try simp [s_]
      repeat' ((first | ((first | refine Tp ?_ | refine Tn ?_ | refine T2 ?_ ?_) <;> intro hw_ ew_ nw_) | (exact hA2 (j + 1, out ++ [⟨k, false, y⟩]) _ Wc ⟨hj, by simp only [hal]; omega, by simpa using k3⟩ (by simp only; omega)) | refine Pg f1 ?_ | refine Pg f2 ?_ | rw [Ip] | rw [In] | rw [Fz] | rw [Gz] | fail) <;> first | simp [ew_, nw_, s_] | simp [s_] | skip)
    | true =>
      rw [ha2] at f1
      by_cases hxy : (findB a.l k).1 = (findB b.l k).1
      · have e : changeS a b k = [] := by unfold changeS; rw [if_neg (by rw [hb2]; simp), if_neg (by rw [ha2]; simpa using hxy)]
        rw [e, List.nil_append] at k3
        rw [show decide ((findB a.l k).1 = (findB b.l k).1) = true from decide_eq_true hxy] at f3
        generalize (findB b.l k).1 = y at *
        generalize (findB a.l k).1 = z at *
        have s_ := And.intro @hj (And.intro @hwj (And.intro @hm (And.intro @hk (@chg_set))))
        try simp [s_]
        repeat' ((first | ((first | refine Tp ?_ | refine Tn ?_ | refine T2 ?_ ?_) <;> intro hw_ ew_ nw_) | (exact hA2 (j + 1, out) _ Wc ⟨hj, by simp only; omega, k3⟩ (by simp only; omega)) | refine Pg f1 ?_ | refine Pg f2 ?_ | refine Pg f3 ?_ | rw [Ip] | rw [In] | rw [Fz] | rw [Gz] | fail) <;> first | simp [ew_, nw_, s_] | simp [s_] | skip)
      · have e : changeS a b k = [⟨k, false, (findB b.l k).1⟩] := by unfold changeS; rw [if_neg (by rw [hb2]; simp), if_pos (.inr hxy)]
        rw [e] at k3
        rw [show decide ((findB a.l k).1 = (findB b.l k).1) = false from decide_eq_false hxy] at f3
        generalize (findB b.l k).1 = y at *
        generalize (findB a.l k).1 = z at *
        have s_ := And.intro @hj (And.intro @hwj (And.intro @hm (And.intro @hk (@chg_set))))
        try simp [s_]
        repeat' ((first | ((first | refine Tp ?_ | refine Tn ?_ | refine T2 ?_ ?_) <;> intro hw_ ew_ nw_) | (exact hA2 (j + 1, out ++ [⟨k, false, y⟩]) _ Wc ⟨hj, by simp only [hal]; omega, by simpa using k3⟩ (by simp only; omega)) | refine Pg f1 ?_ | refine Pg f2 ?_ | refine Pg f3 ?_ | rw [Ip] | rw [In] | rw [Fz] | rw [Gz] | fail) <;> first | simp [ew_, nw_, s_] | simp [s_] | skip)
end Go.Proofs.YtdnfnddlciafmaaGreat
