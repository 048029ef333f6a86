import Derived.Test.YtdnfnddlciafmaaGreatXOpT
import Derived.Test.YtdnfnddlciafmaaGreatXBn
set_option linter.unusedVariables false
set_option linter.unusedSimpArgs false
namespace Go.Proofs.YtdnfnddlciafmaaGreat
open Go.Cx Tab
set_option maxHeartbeats 400000
set_option maxRecDepth 40000
theorem rfind08_ok (f : FSR) (k : Int) (hr : rises NodeR.ino f.l = true) (hl : f.l.length ≤ 1000000) : PCall Tryz.prog 25 [encF f, I k] (.tup [encN (findB f.l k).1, B (findB f.l k).2]) := by
  have hiff := findB_iff hr k
  have hnone := @findB_none f.l k
  obtain ⟨l, next⟩ := f
  simp only at *
  refine Pm Tryz.func25 fun hfit => ?_
  simp [Tryz.f25, FSR.enc]
  refine AW.loopG (lit := fun _ => false) (fun i : Nat => ⟨28, pat [(1, I k), (2, .ptr 0 0 0), (4, .ptr 1 0 0), (6, I i)], [.cells 0 [encL NodeR.enc l, I next], .cells 0 [I 0, I 0, I 0, S .empty, .sl true 0 []]]⟩) (fun i => l.length - i) (fun i => i ≤ l.length ∧ ∀ j (h : j < l.length), j < i → l[j].ino ≠ k) 0 ?_ ?_ ?_
  · exact Wa
  · simp
  rintro i ⟨g1, g2⟩ A hA
  by_cases hi : i < l.length
  case neg =>
    have e : findB l k = (.zero, false) := hnone fun n hn => by
      obtain ⟨j, hj, rfl⟩ := List.getElem_of_mem hn
      exact g2 j hj (by omega)
    rw [e]
    have s_ := And.intro @hi (@zeroN_enc)
    try simp [s_]
    repeat' ((first | ((first | refine Tp ?_ | refine Tn ?_ | refine T2 ?_ ?_) <;> intro hw_ ew_ nw_) | rw [Ip] | rw [In] | rw [Fz] | rw [Gz] | fail) <;> first | simp [ew_, nw_, s_] | simp [s_] | skip)
  have hwi := wrap_nat hi (by simp only [maxLen]; omega)
  by_cases hk : l[i].ino = k
  · have e : findB l k = (l[i], true) := (hiff _).2 ⟨List.getElem_mem hi, hk⟩
    rw [e]
    have s_ := And.intro @hi (@hk)
    try simp [s_]
    repeat' ((first | ((first | refine Tp ?_ | refine Tn ?_ | refine T2 ?_ ?_) <;> intro hw_ ew_ nw_) | rw [Ip] | rw [In] | rw [Fz] | rw [Gz] | fail) <;> first | simp [ew_, nw_, s_] | simp [s_] | skip)
  · have g3 : ∀ j (h : j < l.length), j < i + 1 → l[j].ino ≠ k := fun j h hj => by
      by_cases e : j = i
      · subst e; exact hk
      · exact g2 j h (by omega)
    have s_ := And.intro @hi (And.intro @hwi (@hk))
    try simp [s_]
    repeat' ((first | ((first | refine Tp ?_ | refine Tn ?_ | refine T2 ?_ ?_) <;> intro hw_ ew_ nw_) | (exact hA (i + 1) _ Wa ⟨hi, g3⟩ (by omega)) | rw [Ip] | rw [In] | rw [Fz] | rw [Gz] | fail) <;> first | simp [ew_, nw_, s_] | simp [s_] | skip)
theorem has_ok (l : List Int) (k : Int) (hl : l.length ≤ 1000000) : PCall Tryz.prog 74 [enc1 I l, I k] (B (decide (k ∈ l))) := by
  refine Pm Tryz.func74 fun hfit => ?_
  simp [Tryz.f74]
  refine AW.loopG (lit := fun _ => false) (fun i : Nat => ⟨18, pat [(0, enc1 I l), (1, I k), (5, I i)], []⟩) (fun i => l.length - i) (fun i => i ≤ l.length ∧ ∀ j (h : j < l.length), j < i → l[j] ≠ k) 0 ?_ ?_ ?_
  · exact Wa
  · simp
  rintro i ⟨g1, g2⟩ A hA
  by_cases hi : i < l.length
  case neg =>
    have e : ¬ k ∈ l := fun hm => by
      obtain ⟨j, hj, e⟩ := List.getElem_of_mem hm
      exact g2 j hj (by omega) e
    have s_ := And.intro @hi (@e)
    try simp [s_]
    repeat' ((first | ((first | refine Tp ?_ | refine Tn ?_ | refine T2 ?_ ?_) <;> intro hw_ ew_ nw_) | rw [Ip] | rw [In] | rw [Fz] | rw [Gz] | fail) <;> first | simp [ew_, nw_, s_] | simp [s_] | skip)
  have hwi := wrap_nat hi (by simp only [maxLen]; omega)
  by_cases hk : l[i] = k
  · have e : k ∈ l := hk ▸ List.getElem_mem hi
    have s_ := And.intro @hi (And.intro @hk (@e))
    try simp [s_]
    repeat' ((first | ((first | refine Tp ?_ | refine Tn ?_ | refine T2 ?_ ?_) <;> intro hw_ ew_ nw_) | rw [Ip] | rw [In] | rw [Fz] | rw [Gz] | fail) <;> first | simp [ew_, nw_, s_] | simp [s_] | skip)
  · have g3 : ∀ j (h : j < l.length), j < i + 1 → l[j] ≠ k := fun j h hj => by
      by_cases e : j = i
      · subst e; exact hk
      · exact g2 j h (by omega)
    have s_ := And.intro @hi (And.intro @hwi (@hk))
    try simp [s_]
    repeat' ((first | ((first | refine Tp ?_ | refine Tn ?_ | refine T2 ?_ ?_) <;> intro hw_ ew_ nw_) | (exact hA (i + 1) _ Wa ⟨hi, g3⟩ (by omega)) | rw [Ip] | rw [In] | rw [Fz] | rw [Gz] | fail) <;> first | simp [ew_, nw_, s_] | simp [s_] | skip)
theorem rnames08_ok (f : FSR) (k : Int) (hl : f.l.length ≤ 256) (hE : ∀ n ∈ f.l, n.l.length ≤ 256) : PCall Tryz.prog 73 [encF f, I k] (I ((allKids f.l).count k : Nat)) := by
  have hak := allKids_le hE
  obtain ⟨l, next⟩ := f
  simp only at *
  have hcl := fun (L : List Int) => List.count_le_length (a := k) (l := L)
  refine Pm Tryz.func73 fun hfit => ?_
  simp [Tryz.f73, FSR.enc]
  refine AW.loopG (lit := fun _ => false) (fun x : Nat × Nat => ⟨41, pat [(1, I k), (2, .ptr 0 0 0), (5, I x.2), (6, I x.1)], [.cells 0 [encL NodeR.enc l, I next]]⟩) (fun x => l.length - x.1) (fun x => x.1 ≤ l.length ∧ x.2 + (allKids (l.drop x.1)).count k = (allKids l).count k) (0, 0) ?_ ?_ ?_
  · exact Wa
  · simp
  rintro ⟨i, n⟩ ⟨g1, g2⟩ A hA
  simp only at g1 g2 hA
  by_cases hi : i < l.length
  case neg =>
    rw [List.drop_eq_nil_of_le (by omega)] at g2
    simp only [allKids, List.flatMap_nil, List.count_nil, Nat.add_zero] at g2
    have e : List.count k (allKids l) = n := g2.symm
    have s_ := And.intro @hi (@e)
    try simp [s_]
    repeat' ((first | ((first | refine Tp ?_ | refine Tn ?_ | refine T2 ?_ ?_) <;> intro hw_ ew_ nw_) | rw [Ip] | rw [In] | rw [Fz] | rw [Gz] | fail) <;> first | simp [ew_, nw_, s_] | simp [s_] | skip)
  have hwi := wrap_nat hi (by simp only [maxLen]; omega)
  have g3 : n + ((l[i].l.map (·.ino)).count k + (allKids (l.drop (i + 1))).count k) = (allKids l).count k := by
    rw [← g2, List.drop_eq_getElem_cons hi]
    simp only [allKids, List.flatMap_cons, List.count_append]
  have hb := hcl (allKids l)
  have hei := hE l[i] (List.getElem_mem hi)
  have s_ := hi
  try simp [s_]
  repeat' ((first | ((first | refine Tp ?_ | refine Tn ?_ | refine T2 ?_ ?_) <;> intro hw_ ew_ nw_) | rw [Ip] | rw [In] | rw [Fz] | rw [Gz] | fail) <;> first | simp [ew_, nw_, s_] | simp [s_] | skip)
  refine AW.loopG (lit := fun _ => false) (fun x : Nat × Nat => ⟨41, pat [(1, I k), (2, .ptr 0 0 0), (5, I x.2), (6, I i), (7, I x.1)], [.cells 0 [encL NodeR.enc l, I next]]⟩) (fun x => l[i].l.length - x.1) (fun x => x.1 ≤ l[i].l.length ∧ x.2 + (((l[i].l.drop x.1).map (·.ino)).count k + (allKids (l.drop (i + 1))).count k) = (allKids l).count k) (0, n) ?_ ?_ ?_
  · exact Wa
  · exact ⟨by simp, by simpa using g3⟩
  rintro ⟨j, m⟩ ⟨k1, k2⟩ A2 hA2
  simp only at k1 k2 hA2
  by_cases hj : j < l[i].l.length
  case neg =>
    rw [List.drop_eq_nil_of_le (by omega)] at k2
    simp only [List.map_nil, List.count_nil, Nat.zero_add] at k2
    have s_ := And.intro @hi (And.intro @hj (@hwi))
    try simp [s_]
    repeat' ((first | ((first | refine Tp ?_ | refine Tn ?_ | refine T2 ?_ ?_) <;> intro hw_ ew_ nw_) | (exact hA (i + 1, m) _ Wa ⟨hi, k2⟩ (by simp only; omega)) | rw [Ip] | rw [In] | rw [Fz] | rw [Gz] | fail) <;> first | simp [ew_, nw_, s_] | simp [s_] | skip)
  have hwj := wrap_nat hj (by simp only [maxLen]; omega)
  rw [List.drop_eq_getElem_cons hj, List.map_cons, List.count_cons] at k2
  by_cases hk : l[i].l[j].ino = k
  · rw [if_pos (by simpa using hk)] at k2
    have hwm : IntKind.i64.wrap ((m : Int) + 1) = ((m + 1 : Nat) : Int) := by rw [wrap_id (by omega) (by omega)]; omega
    have s_ := And.intro @hi (And.intro @hj (And.intro @hwi (And.intro @hwj (And.intro @hwm (@hk)))))
    try simp [s_]
    repeat' ((first | ((first | refine Tp ?_ | refine Tn ?_ | refine T2 ?_ ?_) <;> intro hw_ ew_ nw_) | (exact hA2 (j + 1, m + 1) _ Wa ⟨hj, by simp only; omega⟩ (by simp only; omega)) | rw [Ip] | rw [In] | rw [Fz] | rw [Gz] | fail) <;> first | simp [ew_, nw_, s_] | simp [s_] | skip)
  · rw [if_neg (by simpa using hk), Nat.add_zero] at k2
    have s_ := And.intro @hi (And.intro @hj (And.intro @hwi (And.intro @hwj (@hk))))
    try simp [s_]
    repeat' ((first | ((first | refine Tp ?_ | refine Tn ?_ | refine T2 ?_ ?_) <;> intro hw_ ew_ nw_) | (exact hA2 (j + 1, m) _ Wa ⟨hj, k2⟩ (by simp only; omega)) | rw [Ip] | rw [In] | rw [Fz] | rw [Gz] | fail) <;> first | simp [ew_, nw_, s_] | simp [s_] | skip)
theorem addAll_cons (o : List Int) (k : Int) (ks : List Int) : addAll o (k :: ks) = addAll (addNew o k) ks := rfl
theorem under08_ok (f : FSR) (top : Int) (hr : rises NodeR.ino f.l = true) (hl : f.l.length ≤ 256) (hE : ∀ n ∈ f.l, n.l.length ≤ 256) : PCall Tryz.prog 72 [encF f, I top] (enc1 I (belowL f.l top)) := by
  have hak := allKids_le hE
  have hfind := fun k => rfind08_ok f k hr (by omega)
  have hkl := kids_le hE
  have hst := bfs_start f.l top
  obtain ⟨l, next⟩ := f
  simp only at *
  have hkT : kidsF l top = (findB l top).1.l.map (·.ino) := rfl
  have hU := kids_all l
  have hkt := hkl top
  rw [hkT, List.length_map] at hkt
  unfold belowL
  rw [hkT] at hst ⊢
  have h1 := hfind top
  generalize hn : (findB l top) = Nd at *
  refine Pm Tryz.func72 fun hfit => ?_
  simp [Tryz.f72, FSR.enc]
  have s_ := @FSR.enc.eq_1
  try simp [s_]
  repeat' ((first | ((first | refine Tp ?_ | refine Tn ?_ | refine T2 ?_ ?_) <;> intro hw_ ew_ nw_) | refine Pg h1 ?_ | rw [Ip] | rw [In] | rw [Fz] | rw [Gz] | fail) <;> first | simp [ew_, nw_, s_] | simp [s_] | skip)
  refine AW.loopG (lit := fun _ => false) (fun x : Nat × List Int × Nat => ⟨89, pat [(2, .ptr 0 0 0), (5, .own 2 x.2.2 0 x.2.1.length 1), (6, .ptr 1 0 0), (8, I x.1)], [.cells 0 [encL NodeR.enc l, I next], .cells 0 Nd.1.enc, .cells x.2.2 (x.2.1.map I)]⟩) (fun x => Nd.1.l.length - x.1)
    (fun x => x.1 ≤ Nd.1.l.length ∧ x.2.1.length ≤ x.1 ∧ addAll x.2.1 ((Nd.1.l.drop x.1).map (·.ino)) = addAll [] (Nd.1.l.map (·.ino))) (0, [], 0) ?_ ?_ ?_
  · exact Wk.trans (Wk.ownNil 5 1 (by simp)) Wa
  · simp
  rintro ⟨i, acc, ver⟩ ⟨g1, g2, g3⟩ A hA
  simp only at g1 g2 g3 hA
  by_cases hi : i < Nd.1.l.length
  case pos =>
    have hwi := wrap_nat hi (by simp only [maxLen]; omega)
    rw [List.drop_eq_getElem_cons hi, List.map_cons, addAll_cons] at g3
    have hh := has_ok acc Nd.1.l[i].ino (by omega)
    have hm : acc.length + 1 ≤ maxLen := by simp only [maxLen]; omega
    by_cases hk : Nd.1.l[i].ino ∈ acc
    · rw [show addNew acc Nd.1.l[i].ino = acc from if_pos hk] at g3
      rw [show decide (Nd.1.l[i].ino ∈ acc) = true from decide_eq_true hk] at hh
      have s_ := And.intro @hi (@hwi)
      try simp [s_]
      repeat' ((first | ((first | refine Tp ?_ | refine Tn ?_ | refine T2 ?_ ?_) <;> intro hw_ ew_ nw_) | (exact hA (i + 1, acc, ver) _ Wc ⟨hi, by simp only; omega, g3⟩ (by simp only; omega)) | refine Lg hh ?_ | refine Sg hh ?_ | rw [Ip] | rw [In] | rw [Fz] | rw [Gz] | fail) <;> first | simp [ew_, nw_, s_] | simp [s_] | skip)
    · rw [show addNew acc Nd.1.l[i].ino = acc ++ [Nd.1.l[i].ino] from if_neg hk] at g3
      rw [show decide (Nd.1.l[i].ino ∈ acc) = false from decide_eq_false hk] at hh
      have hal : (acc ++ [Nd.1.l[i].ino]).length = acc.length + 1 := by simp
      have s_ := And.intro @hi (And.intro @hwi (And.intro @hm ((show acc.length + 1 ≤ 17592186044416 by omega))))
      try simp [s_]
      repeat' ((first | ((first | refine Tp ?_ | refine Tn ?_ | refine T2 ?_ ?_) <;> intro hw_ ew_ nw_) | (exact hA (i + 1, acc ++ [Nd.1.l[i].ino], ver + 1) _ Wc ⟨hi, by simp only [hal]; omega, g3⟩ (by simp only; omega)) | refine Lg hh ?_ | refine Sg hh ?_ | rw [Ip] | rw [In] | rw [Fz] | rw [Gz] | fail) <;> first | simp [ew_, nw_, s_] | simp [s_] | skip)
  rw [List.drop_eq_nil_of_le (by omega), List.map_nil] at g3
  have g4 : acc = addAll [] (Nd.1.l.map (·.ino)) := g3
  subst g4
  have s_ := hi
  try simp [s_]
  repeat' ((first | ((first | refine Tp ?_ | refine Tn ?_ | refine T2 ?_ ?_) <;> intro hw_ ew_ nw_) | rw [Ip] | rw [In] | rw [Fz] | rw [Gz] | fail) <;> first | simp [ew_, nw_, s_] | simp [s_] | skip)
  clear g1 g2 g3 hA hi
  obtain ⟨N, hN⟩ : ∃ N, N = (allKids l).length + 1 := ⟨_, rfl⟩
  rw [← hN]
  generalize hF : bfs (kidsF l) N 0 (addAll [] (Nd.1.l.map (·.ino))) = F at *
  refine AW.loopG (lit := fun _ => false) (fun x : Nat × List Int × Nat => ⟨89, pat [(2, .ptr 0 0 0), (5, .own 2 x.2.2 0 x.2.1.length 1), (10, I x.1)], [.cells 0 [encL NodeR.enc l, I next], .cells 0 Nd.1.enc, .cells x.2.2 (x.2.1.map I)]⟩) (fun x => N - x.1)
    (fun x => x.1 < N ∧ Bfs (kidsF l) (allKids l) top x.1 x.2.1 ∧ bfs (kidsF l) (N - x.1) x.1 x.2.1 = F) (0, addAll [] (Nd.1.l.map (·.ino)), ver) ?_ ?_ ?_
  · exact Wa
  · exact ⟨by simp only; omega, hst, hF⟩
  rintro ⟨k, o, vo⟩ ⟨g1, g2, g3⟩ A hA
  simp only at g1 g2 g3 hA
  have hol := sub_len g2.nodup g2.sub
  obtain ⟨n', hn'⟩ : ∃ n', N - k = n' + 1 := ⟨N - k - 1, by omega⟩
  rw [hn', bfs] at g3
  by_cases hk : k < o.length
  case neg =>
    rw [List.getElem?_eq_none (by omega)] at g3
    have g3 : o = F := g3
    subst g3
    have s_ := hk
    try simp [s_]
    repeat' ((first | ((first | refine Tp ?_ | refine Tn ?_ | refine T2 ?_ ?_) <;> intro hw_ ew_ nw_) | rw [Ip] | rw [In] | rw [Fz] | rw [Gz] | fail) <;> first | simp [ew_, nw_, s_] | simp [s_] | skip)
  have hok := List.getElem?_eq_getElem hk
  rw [hok] at g3
  have g3 : bfs (kidsF l) n' (k + 1) (addAll o (kidsF l o[k])) = F := g3
  have g4 := g2.next hU hok
  have hwk := wrap_nat hk (by simp only [maxLen]; omega)
  have h2 := hfind o[k]
  have hkT2 : kidsF l o[k] = (findB l o[k]).1.l.map (·.ino) := rfl
  have hk2 := hkl o[k]
  rw [hkT2] at g3 g4 hk2
  rw [List.length_map] at hk2
  generalize hM : findB l o[k] = M at *
  have s_ := hk
  try simp [s_]
  repeat' ((first | ((first | refine Tp ?_ | refine Tn ?_ | refine T2 ?_ ?_) <;> intro hw_ ew_ nw_) | refine Pg h2 ?_ | refine AW.room (Dg 12 11 [3] [(9, .w)] ?_) | rw [Ip] | rw [In] | rw [Fz] | rw [Gz] | fail) <;> first | simp [ew_, nw_, s_] | simp [s_] | skip)
  refine AW.loopG (lit := fun _ => false) (fun x : Nat × List Int × Nat => ⟨89, pat [(2, .ptr 0 0 0), (5, .own 2 x.2.2 0 x.2.1.length 1), (10, I k), (11, .ptr 3 1 0), (13, I x.1)], [.cells 0 [encL NodeR.enc l, I next], .cells 0 Nd.1.enc, .cells x.2.2 (x.2.1.map I), .cells 1 M.1.enc]⟩) (fun x => M.1.l.length - x.1)
    (fun x => x.1 ≤ M.1.l.length ∧ x.2.1.length ≤ o.length + x.1 ∧ addAll x.2.1 ((M.1.l.drop x.1).map (·.ino)) = addAll o (M.1.l.map (·.ino))) (0, o, vo) ?_ ?_ ?_
  · exact Wa
  · simp
  rintro ⟨i, acc, v2⟩ ⟨k1, k2, k3⟩ A2 hA2
  simp only at k1 k2 k3 hA2
  by_cases hi : i < M.1.l.length
  case neg =>
    rw [List.drop_eq_nil_of_le (by omega), List.map_nil] at k3
    have k4 : acc = addAll o (M.1.l.map (·.ino)) := k3
    rw [← k4] at g3 g4
    have hsl := sub_len g4.nodup g4.sub
    have hle := g4.le
    have e5 : N - (k + 1) = n' := by omega
    have s_ := And.intro @hi (@hwk)
    try simp [s_]
    repeat' ((first | ((first | refine Tp ?_ | refine Tn ?_ | refine T2 ?_ ?_) <;> intro hw_ ew_ nw_) | (exact hA (k + 1, acc, v2) _ Wc ⟨by simp only; omega, g4, by simp only [e5]; exact g3⟩ (by simp only; omega)) | rw [Ip] | rw [In] | rw [Fz] | rw [Gz] | fail) <;> first | simp [ew_, nw_, s_] | simp [s_] | skip)
  have hwi := wrap_nat hi (by simp only [maxLen]; omega)
  rw [List.drop_eq_getElem_cons hi, List.map_cons, addAll_cons] at k3
  have hh := has_ok acc M.1.l[i].ino (by omega)
  have hm : acc.length + 1 ≤ maxLen := by simp only [maxLen]; omega
  by_cases hq : M.1.l[i].ino ∈ acc
  · rw [show addNew acc M.1.l[i].ino = acc from if_pos hq] at k3
    rw [show decide (M.1.l[i].ino ∈ acc) = true from decide_eq_true hq] at hh
    have s_ := And.intro @hi (@hwi)
    try simp [s_]
    repeat' ((first | ((first | refine Tp ?_ | refine Tn ?_ | refine T2 ?_ ?_) <;> intro hw_ ew_ nw_) | (exact hA2 (i + 1, acc, v2) _ Wc ⟨hi, by simp only; omega, k3⟩ (by simp only; omega)) | refine Lg hh ?_ | refine Sg hh ?_ | rw [Ip] | rw [In] | rw [Fz] | rw [Gz] | fail) <;> first | simp [ew_, nw_, s_] | simp [s_] | skip)
  · rw [show addNew acc M.1.l[i].ino = acc ++ [M.1.l[i].ino] from if_neg hq] at k3
    rw [show decide (M.1.l[i].ino ∈ acc) = false from decide_eq_false hq] at hh
    have hal : (acc ++ [M.1.l[i].ino]).length = acc.length + 1 := by simp
    have s_ := And.intro @hi (And.intro @hwi (And.intro @hm ((show acc.length + 1 ≤ 17592186044416 by omega))))
    try simp [s_]
    repeat' ((first | ((first | refine Tp ?_ | refine Tn ?_ | refine T2 ?_ ?_) <;> intro hw_ ew_ nw_) | (exact hA2 (i + 1, acc ++ [M.1.l[i].ino], v2 + 1) _ Wc ⟨hi, by simp only [hal]; omega, k3⟩ (by simp only; omega)) | refine Lg hh ?_ | refine Sg hh ?_ | rw [Ip] | rw [In] | rw [Fz] | rw [Gz] | fail) <;> first | simp [ew_, nw_, s_] | simp [s_] | skip)
end Go.Proofs.YtdnfnddlciafmaaGreat
