import Derived.Test.YtdnfnddlciafmaaGreatXOpZb
set_option linter.unusedVariables false
set_option linter.unusedSimpArgs false
namespace Go.Proofs.YtdnfnddlciafmaaGreat
open Go.Cx Tab
set_option maxHeartbeats 400000
set_option maxRecDepth 40000
theorem rplay_ok (f : FSR) (l : List CallR) (R : RowsF f) (T : TreeP f) (hn : f.next + l.length < 4611686018427387904) (hw : ∀ c ∈ l, c.wf) (hl : l.length ≤ 100000) : PCall Tryz.prog 40 [encF f, encCalls l] (.tup [encF (playS f l).1, encReplies (playS f l).2]) := by
  refine Pm Tryz.func40 fun hfit => ?_
  simp [Tryz.f40]
  refine AW.loopG (lit := fun _ => false) (fun x : Nat × FSR × List ReplyR => ⟨32, pat [(1, encCalls l), (2, .ptr 0 0 0), (4, .ptr 1 0 0), (6, .own 2 x.2.2.length 0 x.2.2.length 6), (7, I x.1)], [.cells 0 x.2.1.enc, .cells 0 [.sl true 0 [], I 0], .cells x.2.2.length (x.2.2.flatMap ReplyR.enc)]⟩) (fun x => l.length - x.1)
    (fun x => x.1 ≤ l.length ∧ x.2.2.length = x.1 ∧ (RowsF x.2.1 ∧ TreeP x.2.1 ∧ x.2.1.next ≤ f.next + x.1) ∧ (playS x.2.1 (l.drop x.1)).1 = (playS f l).1 ∧ x.2.2 ++ (playS x.2.1 (l.drop x.1)).2 = (playS f l).2) (0, f, []) ?_ ?_ ?_
  · exact Wk.trans (Wk.ownNil 6 6 (by simp)) Wa
  · exact ⟨by simp, rfl, ⟨R, T, by simp⟩, by simp, by simp⟩
  rintro ⟨i, g, acc⟩ ⟨g1, g2, ⟨k1, k2, k3⟩, g4, g5⟩ A hA
  simp only at g1 g2 k1 k2 k3 g4 g5 hA
  by_cases hi : i < l.length
  case neg =>
    rw [List.drop_eq_nil_of_le (by omega)] at g4 g5
    simp only [playS, List.append_nil] at g4 g5
    rw [← g4, ← g5]
    have s_ := hi
    try simp [s_]
    repeat' ((first | ((first | refine Tp ?_ | refine Tn ?_ | refine T2 ?_ ?_) <;> intro hw_ ew_ nw_) | rw [Ip] | rw [In] | rw [Fz] | rw [Gz] | fail) <;> first | simp [ew_, nw_, s_] | simp [s_] | skip)
  rw [List.drop_eq_getElem_cons hi] at g4 g5
  have hwi := wrap_nat hi (by simp only [maxLen]; omega)
  have K := doS_kept k1 k2 l[i]
  have h1 := rdo_ok g l[i] k1 k2 (by omega) (hw _ (List.getElem_mem hi))
  simp only [playS] at g4 g5
  generalize doS g l[i] = X at *
  have hal : (acc ++ [X.2]).length = acc.length + 1 := by simp
  have hm : acc.length + 1 ≤ maxLen := by simp only [maxLen]; omega
  have hkn := K.next
  have s_ := And.intro @hi (And.intro @hwi (And.intro @hm (@setF_enc)))
  try simp [s_]
  repeat' ((first | ((first | refine Tp ?_ | refine Tn ?_ | refine T2 ?_ ?_) <;> intro hw_ ew_ nw_) | (refine AW.room (AW.room (Dg 5 12 [3, 4] [(9, .r 3), (10, .r 4)] ?_)); simp [hi]) | (exact hA (i + 1, X.1, acc ++ [X.2]) _ Wc ⟨hi, by simp only [hal]; omega, ⟨K.rows, K.tree, by simp only; omega⟩, g4, by simpa using g5⟩ (by simp only; omega)) | refine Pg h1 ?_ | rw [Ip] | rw [In] | rw [Fz] | rw [Gz] | fail) <;> first | simp [ew_, nw_, s_] | simp [s_] | skip)
theorem rapply_ok (f : FSR) (l : List ChangeR) (next : Int) (hr : rises NodeR.ino f.l = true) (hf : f.l.length ≤ 40000) (hl : l.length ≤ 40000) (hn : ∀ c ∈ l, inI c.node.ino ∧ c.node.ino ≠ 9223372036854775807) :
    PCall Tryz.prog 43 [encF f, encL ChangeR.enc l, I next] (encF (applyS f l next)) := by
  refine Pm Tryz.func43 fun hfit => ?_
  simp [Tryz.f43]
  refine AW.loopG (lit := fun _ => false) (fun i : Nat => ⟨40, pat [(1, encL ChangeR.enc l), (2, I next), (3, .ptr 0 0 0), (6, .ptr 1 0 0), (7, I i)], [.cells 0 ((l.take i).foldl applyOne f).enc, .cells 0 [.sl true 0 [], I 0]]⟩) (fun i => l.length - i) (fun i => i ≤ l.length ∧ rises NodeR.ino ((l.take i).foldl applyOne f).l = true) 0 ?_ ?_ ?_
  · exact Wa
  · exact ⟨by simp, by simpa using hr⟩
  rintro i ⟨g1, g2⟩ A hA
  by_cases hi : i < l.length
  case neg =>
    have e : List.take i l = l := List.take_of_length_le (by omega)
    have e2 : applyS f l next = { l.foldl applyOne f with next := max (l.foldl applyOne f).next next } := rfl
    rw [e2]
    have e3 : (List.take i l).foldl applyOne f = l.foldl applyOne f := by rw [e]
    generalize l.foldl applyOne f = g at *
    by_cases q : g.next < next
    · have e4 : max g.next next = next := by omega
      have s_ := And.intro @hi (And.intro @e3 (And.intro @q (And.intro @e4 (@FSR.enc.eq_1))))
      try simp [s_]
      repeat' ((first | ((first | refine Tp ?_ | refine Tn ?_ | refine T2 ?_ ?_) <;> intro hw_ ew_ nw_) | refine Dg 5 7 [] [] ?_ | refine Dg 6 7 [] [] ?_ | rw [Ip] | rw [In] | rw [Fz] | rw [Gz] | fail) <;> first | simp [ew_, nw_, s_] | simp [s_] | skip)
    · have e4 : max g.next next = g.next := by omega
      have s_ := And.intro @hi (And.intro @e3 (And.intro @q (And.intro @e4 (@FSR.enc.eq_1))))
      try simp [s_]
      repeat' ((first | ((first | refine Tp ?_ | refine Tn ?_ | refine T2 ?_ ?_) <;> intro hw_ ew_ nw_) | refine Dg 5 7 [] [] ?_ | refine Dg 6 7 [] [] ?_ | rw [Ip] | rw [In] | rw [Fz] | rw [Gz] | fail) <;> first | simp [ew_, nw_, s_] | simp [s_] | skip)
  have hwi := wrap_nat hi (by simp only [maxLen]; omega)
  have hlen := apply_len (l.take i) f
  have e1 : (l.take (i + 1)).foldl applyOne f = applyOne ((l.take i).foldl applyOne f) l[i] := by
    rw [List.take_succ_eq_append_getElem hi, List.foldl_append]; rfl
  have hc := hn l[i] (List.getElem_mem hi)
  simp only [List.length_take] at hlen
  generalize hg : (l.take i).foldl applyOne f = g at *
  have h1 := rout_ok g l[i].ino (by omega)
  have h2 := rput_ok g l[i].node (by omega) hc.1 hc.2
  rw [putR_eq g2] at h2
  cases hk : l[i].gone with
  | true =>
    have e3 : outF g l[i].ino = (l.take (i + 1)).foldl applyOne f := by rw [e1]; simp [applyOne, hk]
    have hr2 : rises NodeR.ino ((l.take (i + 1)).foldl applyOne f).l = true := by rw [← e3]; exact rises_filter _ g2 _
    rw [e3] at h1
    have s_ := And.intro @hi (And.intro @hwi (And.intro @hk (@setF_enc)))
    try simp [s_]
    repeat' ((first | ((first | refine Tp ?_ | refine Tn ?_ | refine T2 ?_ ?_) <;> intro hw_ ew_ nw_) | (exact hA (i + 1) _ Wc ⟨hi, hr2⟩ (by omega)) | refine Pg h1 ?_ | refine Dg 5 7 [] [] ?_ | refine Dg 6 7 [] [] ?_ | rw [Ip] | rw [In] | rw [Fz] | rw [Gz] | fail) <;> first | simp [ew_, nw_, s_] | simp [s_] | skip)
  | false =>
    have e3 : putB g l[i].node = (l.take (i + 1)).foldl applyOne f := by rw [e1]; simp [applyOne, hk]
    have hr2 : rises NodeR.ino ((l.take (i + 1)).foldl applyOne f).l = true := by rw [← e3]; exact (put_spec g2 _).1
    rw [e3] at h2
    have s_ := And.intro @hi (And.intro @hwi (And.intro @hk (@setF_enc)))
    try simp [s_]
    repeat' ((first | ((first | refine Tp ?_ | refine Tn ?_ | refine T2 ?_ ?_) <;> intro hw_ ew_ nw_) | (exact hA (i + 1) _ Wc ⟨hi, hr2⟩ (by omega)) | refine Pg h2 ?_ | refine Dg 5 7 [] [] ?_ | refine Dg 6 7 [] [] ?_ | rw [Ip] | rw [In] | rw [Fz] | rw [Gz] | fail) <;> first | simp [ew_, nw_, s_] | simp [s_] | skip)
theorem change_eq (a b : ChangeR) : a = b ↔ a.node = b.node ∧ a.ino = b.ino ∧ a.gone = b.gone := by
  cases a; cases b; simp only [ChangeR.mk.injEq]; exact ⟨fun h => ⟨h.2.2, h.1, h.2.1⟩, fun h => ⟨h.2.1, h.2.2, h.1⟩⟩
theorem rturns_ok (a b : List ChangeR) : PCall Tryz.prog 42 [encL ChangeR.enc a, encL ChangeR.enc b] (B (decide (a = b))) := by
  refine Pm Tryz.func42 fun hfit => ?_
  simp at hfit
  simp [Tryz.f42]
  by_cases hl : a.length = b.length
  case neg =>
    have : ¬ a = b := fun e => hl (by rw [e])
    simp [hl, this]
  simp [hl]
  refine AW.loopG (lit := fun _ => false) (fun i : Nat => ⟨57, pat [(0, encL ChangeR.enc a), (1, encL ChangeR.enc b), (5, I i)], []⟩) (fun i => b.length - i) (fun i => i ≤ b.length ∧ a.take i = b.take i) 0 ?_ ?_ ?_
  · exact Wz
  · simp
  rintro i ⟨hi, ht⟩ A hA
  by_cases h : i < b.length
  case neg =>
    have := take_done ht (by omega) (by omega)
    subst this
    have s_ := h
    try simp [s_]
    repeat' ((first | ((first | refine Tp ?_ | refine Tn ?_ | refine T2 ?_ ?_) <;> intro hw_ ew_ nw_) | refine Dg 6 12 [] [] ?_ | refine Dg 7 28 [] [] ?_ | rw [Ip] | rw [In] | rw [Fz] | rw [Gz] | fail) <;> first | simp [ew_, nw_, s_] | simp [s_] | skip)
  have ha : i < a.length := by omega
  have hwi := wrap_nat ha hfit.1.1
  have h1 := rnsame_ok a[i].node b[i].node
  have hno : ¬ a[i] = b[i] → ¬ a = b := fun q e => by subst e; exact q rfl
  have hce := change_eq a[i] b[i]
  by_cases q1 : a[i].node = b[i].node
  case neg =>
    have hab := hno fun e => q1 (hce.1 e).1
    have s_ := And.intro @h (And.intro @ha (And.intro @q1 (And.intro @hl ((eq_false hab)))))
    try simp [s_]
    repeat' ((first | ((first | refine Tp ?_ | refine Tn ?_ | refine T2 ?_ ?_) <;> intro hw_ ew_ nw_) | refine Pg h1 ?_ | refine Dg 6 12 [] [] ?_ | refine Dg 7 28 [] [] ?_ | rw [Ip] | rw [In] | rw [Fz] | rw [Gz] | fail) <;> first | simp [ew_, nw_, s_] | simp [s_] | skip)
  by_cases q2 : a[i].ino = b[i].ino
  case neg =>
    have hab := hno fun e => q2 (hce.1 e).2.1
    have s_ := And.intro @h (And.intro @ha (And.intro @q1 (And.intro @q2 (And.intro @hl ((eq_false hab))))))
    try simp [s_]
    repeat' ((first | ((first | refine Tp ?_ | refine Tn ?_ | refine T2 ?_ ?_) <;> intro hw_ ew_ nw_) | refine Pg h1 ?_ | refine Dg 6 12 [] [] ?_ | refine Dg 7 28 [] [] ?_ | rw [Ip] | rw [In] | rw [Fz] | rw [Gz] | fail) <;> first | simp [ew_, nw_, s_] | simp [s_] | skip)
  by_cases q3 : a[i].gone = b[i].gone
  case neg =>
    have hab := hno fun e => q3 (hce.1 e).2.2
    have s_ := And.intro @h (And.intro @ha (And.intro @q1 (And.intro @q2 (And.intro @q3 (And.intro @hl ((eq_false hab)))))))
    try simp [s_]
    repeat' ((first | ((first | refine Tp ?_ | refine Tn ?_ | refine T2 ?_ ?_) <;> intro hw_ ew_ nw_) | refine Pg h1 ?_ | refine Dg 6 12 [] [] ?_ | refine Dg 7 28 [] [] ?_ | rw [Ip] | rw [In] | rw [Fz] | rw [Gz] | fail) <;> first | simp [ew_, nw_, s_] | simp [s_] | skip)
  have hs := take_step ht ha h (hce.2 ⟨q1, q2, q3⟩)
  have s_ := And.intro @h (And.intro @ha (And.intro @q1 (And.intro @q2 (And.intro @q3 (And.intro @hl (@hwi))))))
  try simp [s_]
  repeat' ((first | ((first | refine Tp ?_ | refine Tn ?_ | refine T2 ?_ ?_) <;> intro hw_ ew_ nw_) | (exact hA (i + 1) _ Wz ⟨h, hs⟩ (by omega)) | refine Pg h1 ?_ | refine Dg 6 12 [] [] ?_ | refine Dg 7 28 [] [] ?_ | rw [Ip] | rw [In] | rw [Fz] | rw [Gz] | fail) <;> first | simp [ew_, nw_, s_] | simp [s_] | skip)
theorem rchanges_ok (a b : FSR) (ha : RowsF a) (hb : RowsF b) : PCall Tryz.prog 41 [encF a, encF b] (encL ChangeR.enc (changesS a b)) := by
  have hal := ha.len
  have hbl := hb.len
  have fa := fun k => rfindR a k ha
  have fb := fun k => rfindR b k hb
  have hg : ∀ k, changeS a b k = changeS a b k := fun k => rfl
  clear ha hb
  unfold changesS
  obtain ⟨la, na⟩ := a
  obtain ⟨lb, nb⟩ := b
  simp only at *
  refine Pm Tryz.func41 fun hfit => ?_
  simp [Tryz.f41, FSR.enc]
  refine AW.loopG (lit := fun _ => false) (fun x : Nat × List Int => ⟨98, pat [(2, .ptr 0 0 0), (3, .ptr 1 0 0), (5, enc1 I x.2), (6, I x.1)], [.cells 0 [encL NodeR.enc la, I na], .cells 0 [encL NodeR.enc lb, I nb]]⟩) (fun x => la.length - x.1) (fun x => x.1 ≤ la.length ∧ risesI x.2 = true ∧ x.2.length ≤ x.1 ∧ x.2 = ((la.take x.1).map (·.ino)).foldl withI []) (0, []) ?_ ?_ ?_
  · exact Wk.cutLe _ rfl (by simp) (by simp) (by simp) (by simp [le.refl, le.loose, enc1])
  · exact ⟨by simp, rfl, by simp, by simp⟩
  rintro ⟨i, acc⟩ ⟨g1, g2, g3, g4⟩ A hA
  simp only at g1 g2 g3 g4 hA
  by_cases hi : i < la.length
  case pos =>
    have hwi := wrap_nat hi (by simp only [maxLen]; omega)
    have w := rwith_ok acc la[i].ino g2 (by omega)
    obtain ⟨r1, _⟩ := withI_spec g2 la[i].ino
    have r2 := withI_len acc la[i].ino
    have r3 : withI acc la[i].ino = ((la.take (i + 1)).map (·.ino)).foldl withI [] := by
      rw [List.take_succ_eq_append_getElem hi, List.map_append, List.foldl_append, ← g4]; rfl
    generalize withI acc la[i].ino = acc2 at *
    have s_ := And.intro @hi (@hwi)
    try simp [s_]
    repeat' ((first | ((first | refine Tp ?_ | refine Tn ?_ | refine T2 ?_ ?_) <;> intro hw_ ew_ nw_) | (exact hA (i + 1, acc2) _ Wc ⟨hi, r1, by simp only; omega, r3⟩ (by simp only; omega)) | refine Pg w ?_ | refine Dg 20 9 [] [] ?_ | rw [Ip] | rw [In] | rw [Fz] | rw [Gz] | fail) <;> first | simp [ew_, nw_, s_] | simp [s_] | skip)
  have e1 : la.take i = la := List.take_of_length_le (by omega)
  rw [e1] at g4
  have s_ := hi
  try simp [s_]
  repeat' ((first | ((first | refine Tp ?_ | refine Tn ?_ | refine T2 ?_ ?_) <;> intro hw_ ew_ nw_) | refine Dg 20 9 [] [] ?_ | rw [Ip] | rw [In] | rw [Fz] | rw [Gz] | fail) <;> first | simp [ew_, nw_, s_] | simp [s_] | skip)
  clear hA hi A
  refine AW.loopG (lit := fun _ => false) (fun x : Nat × List Int => ⟨98, pat [(2, .ptr 0 0 0), (3, .ptr 1 0 0), (5, enc1 I x.2), (7, I x.1)], [.cells 0 [encL NodeR.enc la, I na], .cells 0 [encL NodeR.enc lb, I nb]]⟩) (fun x => lb.length - x.1) (fun x => x.1 ≤ lb.length ∧ risesI x.2 = true ∧ x.2.length ≤ la.length + x.1 ∧ x.2 = ((lb.take x.1).map (·.ino)).foldl withI acc) (0, acc) ?_ ?_ ?_
  · exact Wc
  · exact ⟨by simp, g2, by simp only; omega, by simp⟩
  rintro ⟨j, all⟩ ⟨k1, k2, k3, k4⟩ A hA
  simp only at k1 k2 k3 k4 hA
  by_cases hj : j < lb.length
  case pos =>
    have hwi := wrap_nat hj (by simp only [maxLen]; omega)
    have w := rwith_ok all lb[j].ino k2 (by omega)
    obtain ⟨r1, _⟩ := withI_spec k2 lb[j].ino
    have r2 := withI_len all lb[j].ino
    have r3 : withI all lb[j].ino = ((lb.take (j + 1)).map (·.ino)).foldl withI acc := by
      rw [List.take_succ_eq_append_getElem hj, List.map_append, List.foldl_append, ← k4]; rfl
    generalize withI all lb[j].ino = acc2 at *
    have s_ := And.intro @hj (@hwi)
    try simp [s_]
    repeat' ((first | ((first | refine Tp ?_ | refine Tn ?_ | refine T2 ?_ ?_) <;> intro hw_ ew_ nw_) | (exact hA (j + 1, acc2) _ Wc ⟨hj, r1, by simp only; omega, r3⟩ (by simp only; omega)) | refine Pg w ?_ | refine Dg 20 9 [] [] ?_ | rw [Ip] | rw [In] | rw [Fz] | rw [Gz] | fail) <;> first | simp [ew_, nw_, s_] | simp [s_] | skip)
  have e2 : lb.take j = lb := List.take_of_length_le (by omega)
  rw [e2, g4, ← List.foldl_append] at k4
  have k4 : all = numsS (la.map (·.ino) ++ lb.map (·.ino)) := k4
  rw [← k4]
  have s_ := hj
  try simp [s_]
  repeat' ((first | ((first | refine Tp ?_ | refine Tn ?_ | refine T2 ?_ ?_) <;> intro hw_ ew_ nw_) | refine Dg 20 9 [] [] ?_ | rw [Ip] | rw [In] | rw [Fz] | rw [Gz] | fail) <;> first | simp [ew_, nw_, s_] | simp [s_] | skip)
  clear hA hj A e1 e2 g4
  refine AW.loopG (lit := fun _ => false) (fun x : Nat × List ChangeR => ⟨98, pat [(2, .ptr 0 0 0), (3, .ptr 1 0 0), (5, enc1 I all), (8, .own 2 x.2.length 0 x.2.length 7), (9, I x.1)], [.cells 0 [encL NodeR.enc la, I na], .cells 0 [encL NodeR.enc lb, I nb], .cells x.2.length (x.2.flatMap ChangeR.enc)]⟩) (fun x => all.length - x.1)
    (fun x => x.1 ≤ all.length ∧ x.2.length ≤ x.1 ∧ x.2 ++ (all.drop x.1).flatMap (changeS ⟨la, na⟩ ⟨lb, nb⟩) = all.flatMap (changeS ⟨la, na⟩ ⟨lb, nb⟩)) (0, []) ?_ ?_ ?_
  · exact Wk.trans (Wk.ownNil 8 7 (by simp)) Wa
  · simp
  rintro ⟨i, out⟩ ⟨m1, m2, m3⟩ A hA
  simp only at m1 m2 m3 hA
  by_cases hi : i < all.length
  case neg =>
    rw [List.drop_eq_nil_of_le (by omega), List.flatMap_nil, List.append_nil] at m3
    rw [← m3]
    have s_ := hi
    try simp [s_]
    repeat' ((first | ((first | refine Tp ?_ | refine Tn ?_ | refine T2 ?_ ?_) <;> intro hw_ ew_ nw_) | refine Dg 20 9 [] [] ?_ | rw [Ip] | rw [In] | rw [Fz] | rw [Gz] | fail) <;> first | simp [ew_, nw_, s_] | simp [s_] | skip)
  rw [List.drop_eq_getElem_cons hi, List.flatMap_cons] at m3
  have hwi := wrap_nat hi (by simp only [maxLen]; omega)
  have hm : out.length + 1 ≤ maxLen := by simp only [maxLen]; omega
  have hm' : out.length + 1 ≤ 17592186044416 := by omega
  have f1 : PCall Tryz.prog 25 [.agg [encL NodeR.enc la, I na], I all[i]] (.tup [encN (findB la all[i]).1, B (findB la all[i]).2]) := fa all[i]
  have f2 : PCall Tryz.prog 25 [.agg [encL NodeR.enc lb, I nb], I all[i]] (.tup [encN (findB lb all[i]).1, B (findB lb all[i]).2]) := fb all[i]
  have f3 := rnsame_ok (findB la all[i]).1 (findB lb all[i]).1
  have hal2 : ∀ c : ChangeR, (out ++ [c]).length = out.length + 1 := fun c => by simp
  generalize hk : all[i] = k at *
  have hcs : ∀ v : List ChangeR, changeS ⟨la, na⟩ ⟨lb, nb⟩ k = v → out ++ (v ++ (all.drop (i + 1)).flatMap (changeS ⟨la, na⟩ ⟨lb, nb⟩)) = all.flatMap (changeS ⟨la, na⟩ ⟨lb, nb⟩) := fun v e => by rw [← e]; exact m3
  obtain ⟨rc, hrc⟩ : ∃ rc, rc = changeS ⟨la, na⟩ ⟨lb, nb⟩ k := ⟨_, rfl⟩
  have hcs := hcs rc hrc.symm
  unfold changeS at hrc
  simp only at hrc
  clear m3 fa fb
  generalize hX : findB la k = X at *
  generalize hY : findB lb k = Y at *
  cases hb2 : Y.2 with
  | false =>
    rw [if_pos hb2] at hrc
    subst hrc
    rw [hb2] at f2
    have s_ := And.intro @hi (And.intro @hwi (And.intro @hm (And.intro @hm' (And.intro @hk (@hb2)))))
    try simp [s_]
    repeat' ((first | ((first | refine Tp ?_ | refine Tn ?_ | refine T2 ?_ ?_) <;> intro hw_ ew_ nw_) | refine Pg f1 ?_ | refine Pg f2 ?_ | refine Pg f3 ?_ | refine AW.room (Dg 14 11 [3] [(9, .w)] ?_) | refine AW.room (Dg 15 11 [4] [(9, .w)] ?_) | refine Dg 20 9 [] [] ?_ | rw [Ip] | rw [In] | rw [Fz] | rw [Gz] | fail) <;> first | simp [ew_, nw_, s_] | simp [s_] | skip)
    all_goals refine hA (i + 1, out ++ [⟨k, true, .zero⟩]) _ (Wk.trans (Wk.softEnd 2 (out.length + 1) (out.flatMap ChangeR.enc) (x' := [I k, B true, I 0, I 0, I 0, S .empty, .sl false 0 []]) rfl (by simp)) (Wk.cutAt _ rfl (by simp) ?_ (by simp) (by simp))) ⟨hi, by simp only [hal2]; omega, by simpa using hcs⟩ (by simp only; omega)
    all_goals simp [ChangeR.enc, zeroN_enc]
  | true =>
    rw [hb2] at f2
    rw [if_neg (by rw [hb2]; simp)] at hrc
    cases ha2 : X.2 with
    | false =>
      rw [if_pos (.inl ha2)] at hrc
      subst hrc
      rw [ha2] at f1
      have s_ := And.intro @hi (And.intro @hwi (And.intro @hm (And.intro @hm' (And.intro @hk (And.intro @hb2 (And.intro @ha2 (@chg_set)))))))
      try simp [s_]
      repeat' ((first | ((first | refine Tp ?_ | refine Tn ?_ | refine T2 ?_ ?_) <;> intro hw_ ew_ nw_) | (exact hA (i + 1, out ++ [⟨k, false, Y.1⟩]) _ Wc ⟨hi, by simp only [hal2]; omega, by simpa using hcs⟩ (by simp only; omega)) | refine Pg f1 ?_ | refine Pg f2 ?_ | refine Pg f3 ?_ | refine AW.room (Dg 14 11 [3] [(9, .w)] ?_) | refine AW.room (Dg 15 11 [4] [(9, .w)] ?_) | refine Dg 20 9 [] [] ?_ | rw [Ip] | rw [In] | rw [Fz] | rw [Gz] | fail) <;> first | simp [ew_, nw_, s_] | simp [s_] | skip)
    | true =>
      rw [ha2] at f1
      by_cases hxy : X.1 = Y.1
      · rw [if_neg (by rw [ha2]; simpa using hxy)] at hrc
        subst hrc
        rw [show decide (X.1 = Y.1) = true from decide_eq_true hxy] at f3
        have s_ := And.intro @hi (And.intro @hwi (And.intro @hm (And.intro @hm' (And.intro @hk (And.intro @hb2 (And.intro @ha2 (@chg_set)))))))
        try simp [s_]
        repeat' ((first | ((first | refine Tp ?_ | refine Tn ?_ | refine T2 ?_ ?_) <;> intro hw_ ew_ nw_) | (exact hA (i + 1, out) _ Wc ⟨hi, by simp only; omega, by simpa using hcs⟩ (by simp only; omega)) | refine Pg f1 ?_ | refine Pg f2 ?_ | refine Pg f3 ?_ | refine AW.room (Dg 14 11 [3] [(9, .w)] ?_) | refine AW.room (Dg 15 11 [4] [(9, .w)] ?_) | refine Dg 20 9 [] [] ?_ | rw [Ip] | rw [In] | rw [Fz] | rw [Gz] | fail) <;> first | simp [ew_, nw_, s_] | simp [s_] | skip)
      · rw [if_pos (.inr hxy)] at hrc
        subst hrc
        rw [show decide (X.1 = Y.1) = false from decide_eq_false hxy] at f3
        have s_ := And.intro @hi (And.intro @hwi (And.intro @hm (And.intro @hm' (And.intro @hk (And.intro @hb2 (And.intro @ha2 (@chg_set)))))))
        try simp [s_]
        repeat' ((first | ((first | refine Tp ?_ | refine Tn ?_ | refine T2 ?_ ?_) <;> intro hw_ ew_ nw_) | (exact hA (i + 1, out ++ [⟨k, false, Y.1⟩]) _ Wc ⟨hi, by simp only [hal2]; omega, by simpa using hcs⟩ (by simp only; omega)) | refine Pg f1 ?_ | refine Pg f2 ?_ | refine Pg f3 ?_ | refine AW.room (Dg 14 11 [3] [(9, .w)] ?_) | refine AW.room (Dg 15 11 [4] [(9, .w)] ?_) | refine Dg 20 9 [] [] ?_ | rw [Ip] | rw [In] | rw [Fz] | rw [Gz] | fail) <;> first | simp [ew_, nw_, s_] | simp [s_] | skip)
end Go.Proofs.YtdnfnddlciafmaaGreat
