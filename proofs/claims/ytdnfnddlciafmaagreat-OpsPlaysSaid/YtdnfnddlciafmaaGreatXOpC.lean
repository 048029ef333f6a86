import Derived.Test.YtdnfnddlciafmaaGreatXOpB
import Derived.Test.YtdnfnddlciafmaaGreatXBg
import Derived.Test.YtdnfnddlciafmaaGreatXBg
import Derived.Test.YtdnfnddlciafmaaGreatXBe
set_option linter.unusedVariables false
set_option linter.unusedSimpArgs false
namespace Go.Proofs.YtdnfnddlciafmaaGreat
open Go.Cx Tab
set_option maxHeartbeats 400000
set_option maxRecDepth 40000
abbrev underH (f : FSR) (m : MI) : AHeap := [.cells 0 [encL NodeR.enc f.l, I f.next], .map (mKs m) (mVs m), .cells 0 [.mp 1], .cells 0 [.fn 218 [.ptr 0 0 0, .ptr 2 0 0, .ptr 3 0 0]]]
theorem under1_ok (f : FSR) (hl : f.l.length ≤ 1000000) (hE : ∀ n ∈ f.l, n.l.length ≤ 256) : ∀ (fuel : Nat) (ino : Int) (m : MI) (c : Nat), MOk m c → c + (unseen (allKids f.l) m + 1) * 256 ≤ 1099511627776 → unseen (allKids f.l) m < fuel →
    HCall Tryz.prog 218 [I ino, .ptr 0 0 0, .ptr 2 0 0, .ptr 3 0 0] (underH f m) (.tup []) (underH f (lookS (kidsF f.l) fuel ino m)) := by
  intro fuel
  induction fuel with
  | zero => intro ino m c _ _ h; omega
  | succ fuel ih =>
  intro ino m c hm hc hu
  have hfind := find_ok f ino hl
  refine HCall.mk' (fun _ => false) Tryz.func218 rfl rfl rfl (Ent.mk Tryz.func218 (by kernel_rfl) rfl) (by simp) (by simp) (by simp) (by simp) (by simp) fun hfit => ?_
  rw [lookS_succ]
  simp [Tryz.f218]
  generalize hes : (findB f.l ino).1 = n at *
  have hkid : kidsF f.l ino = n.l.map (·.ino) := by unfold kidsF; rw [hes]
  try simp
  repeat' ((first | ((first | refine Tp ?_ | refine Tn ?_ | refine T2 ?_ ?_) <;> intro hw_ ew_ nw_) | refine Pg hfind ?_ | rw [Ip] | rw [In] | rw [Fz] | rw [Gz] | fail) <;> first | simp [ew_, nw_] | simp | skip)
  have hnl : n.l.length ≤ 256 := by
    have := kids_le hE ino
    rwa [hkid, List.length_map] at this
  refine AW.loopG (lit := fun _ => false) (fun x : Nat × MI × Nat => ⟨37, pat [(1, .ptr 0 0 0), (2, .ptr 2 0 0), (3, .ptr 3 0 0), (16, encL EntryR.enc n.l), (17, I n.l.length), (18, I x.1)], underH f x.2.1⟩) (fun x => n.l.length - x.1)
    (fun x => x.1 ≤ n.l.length ∧ x.2.1 = ((n.l.take x.1).map (·.ino)).foldl (lookStep (kidsF f.l) fuel) m ∧ MOk x.2.1 x.2.2 ∧ x.2.2 + unseen (allKids f.l) x.2.1 * 256 ≤ c + unseen (allKids f.l) m * 256 + x.1 ∧ unseen (allKids f.l) x.2.1 ≤ unseen (allKids f.l) m) (0, m, c) ?_ ?_ ?_
  · exact Wc
  · exact ⟨by simp, by simp, hm, by simp, Nat.le_refl _⟩
  rintro ⟨i, m', c'⟩ ⟨g1, g2, g3, g4, g5⟩ A hA
  simp only at g1 g2 g3 g4 g5 hA
  by_cases hi : i < n.l.length
  case neg =>
    have hti : n.l.take i = n.l := List.take_of_length_le (by omega)
    rw [hti, ← hkid] at g2
    subst g2
    have s_ := And.intro @hi (@PostA_n)
    try simp [s_]
    repeat' ((first | ((first | refine Tp ?_ | refine Tn ?_ | refine T2 ?_ ?_) <;> intro hw_ ew_ nw_) | rw [Ip] | rw [In] | rw [Fz] | rw [Gz] | fail) <;> first | simp [ew_, nw_, s_] | simp [s_] | skip)
  have hkk : n.l[i].ino ∈ allKids f.l := kids_all f.l ino _ (by rw [hkid]; exact List.mem_map_of_mem (List.getElem_mem hi))
  have hg0 := g3.nonneg n.l[i].ino
  have hgc := g3.le n.l[i].ino
  have hw1 : IntKind.i64.wrap (getM m' n.l[i].ino + 1) = getM m' n.l[i].ino + 1 := wrap_id (by omega) (by omega)
  have hg2 : getM (setM m' n.l[i].ino (getM m' n.l[i].ino + 1)) n.l[i].ino = getM m' n.l[i].ino + 1 := by rw [getM_set, if_pos rfl]
  have hwi : IntKind.i64.wrap ((i : Int) + 1) = ((i + 1 : Nat) : Int) := by rw [IntKind.wrap_i64]; omega
  have hstep : lookStep (kidsF f.l) fuel m' n.l[i].ino = ((n.l.take (i + 1)).map (·.ino)).foldl (lookStep (kidsF f.l) fuel) m := by
    rw [List.take_succ_eq_append_getElem hi, List.map_append, List.foldl_append, ← g2]; rfl
  obtain ⟨s1, c1, o1, b1⟩ := step_ok (kids_all f.l) (kids_le hE) fuel hkk g3
  have hum := unseen_mono (U := allKids f.l) s1
  by_cases h0 : getM m' n.l[i].ino = 0
  · have hn := (g3.zero _).1 h0
    have hui := unseen_inc hkk hn
    have hrec := ih n.l[i].ino (incM m' n.l[i].ino) (c' + 1) (g3.inc _) (by omega) (by omega)
    rw [lookStep, if_pos h0] at hstep hum o1 b1
    have hinc : setM m' n.l[i].ino 1 = incM m' n.l[i].ino := by rw [incM, h0]; rfl
    have hg3 : getM (incM m' n.l[i].ino) n.l[i].ino = 1 := by rw [incM, getM_set, if_pos rfl, h0]; rfl
    have s_ := And.intro @hi (And.intro @h0 (And.intro @hinc (And.intro @hg3 (@hwi))))
    try simp [s_]
    repeat' ((first | ((first | refine Tp ?_ | refine Tn ?_ | refine T2 ?_ ?_) <;> intro hw_ ew_ nw_) | (refine AInv.heap [0, 1, 2, 3] hrec (by simp) (by simp) ?_; simp [hwi]) | (exact hA (i + 1, _, c1) _ Wc ⟨hi, hstep, o1, by simp only; omega, by simp only; omega⟩ (by simp only; omega)) | rw [Ip] | rw [In] | rw [Fz] | rw [Gz] | fail) <;> first | simp [ew_, nw_, s_] | simp [s_] | skip)
  · rw [lookStep, if_neg h0] at hstep hum o1 b1
    have hg3 : getM (incM m' n.l[i].ino) n.l[i].ino = getM m' n.l[i].ino + 1 := by rw [incM, getM_set, if_pos rfl]
    obtain ⟨m2, hm2⟩ : ∃ m2, m2 = incM m' n.l[i].ino := ⟨_, rfl⟩
    have hinc : setM m' n.l[i].ino (getM m' n.l[i].ino + 1) = m2 := hm2.symm
    rw [← hm2] at hstep hum o1 b1 hg3
    have s_ := And.intro @hi (And.intro @h0 (And.intro @hw1 (And.intro @hinc (And.intro @hg3 (@hwi)))))
    try simp [s_]
    repeat' ((first | ((first | refine Tp ?_ | refine Tn ?_ | refine T2 ?_ ?_) <;> intro hw_ ew_ nw_) | (exact hA (i + 1, _, c1) _ Wc ⟨hi, hstep, o1, by simp only; omega, by simp only; omega⟩ (by simp only; omega)) | rw [Ip] | rw [In] | rw [Fz] | rw [Gz] | fail) <;> first | simp [ew_, nw_, s_] | simp [s_] | skip)
theorem under_ok (f : FSR) (top : Int) (hl : f.l.length ≤ 1000000) (hE : ∀ n ∈ f.l, n.l.length ≤ 256) : PCall Tryz.prog 184 [encF f, I top] (.fmap (mKs (underS f.l top)) (mVs (underS f.l top))) := by
  have hak := allKids_le hE
  have hun : unseen (allKids f.l) [] ≤ (allKids f.l).length := List.length_filter_le _ _
  have h1 := under1_ok f hl hE ((allKids f.l).length + 1) top [] 0 .nil (by omega) (by omega)
  refine Pm Tryz.func184 fun hfit => ?_
  simp [Tryz.f184, FSR.enc]
  have s_ := @FSR.enc.eq_1
  try simp [s_]
  repeat' ((first | ((first | refine Tp ?_ | refine Tn ?_ | refine T2 ?_ ?_) <;> intro hw_ ew_ nw_) | (refine AInv.heap [0, 1, 2, 3] h1 (by simp) (by simp) ?_; simp) | rw [Ip] | rw [In] | rw [Fz] | rw [Gz] | fail) <;> first | simp [ew_, nw_, s_] | simp [s_] | skip)
  simp [underS, Function.comp_def]
theorem below_ok (f : FSR) (ino top : Int) (hl : f.l.length ≤ 1000000) (hE : ∀ n ∈ f.l, n.l.length ≤ 256) : PCall Tryz.prog 197 [encF f, I ino, I top] (B (decide (0 < getM (underS f.l top) ino))) := by
  have hun := under_ok f top hl hE
  refine Pm Tryz.func197 fun hfit => ?_
  simp [Tryz.f197, FSR.enc]
  have s_ := @FSR.enc.eq_1
  try simp [s_]
  repeat' ((first | ((first | refine Tp ?_ | refine Tn ?_ | refine T2 ?_ ?_) <;> intro hw_ ew_ nw_) | refine Pg hun ?_ | rw [Ip] | rw [In] | rw [Fz] | rw [Gz] | fail) <;> first | simp [ew_, nw_, s_] | simp [s_] | skip)
theorem rout_ok (f : FSR) (k : Int) (hl : f.l.length ≤ 1000000) : PCall Tryz.prog 101 [encF f, I k] (encF (outF f k)) := by
  refine Pm Tryz.func101 fun hfit => ?_
  obtain ⟨l, next⟩ := f
  simp only [outF, outS] at *
  simp [Tryz.f101, FSR.enc]
  refine AW.loopG (lit := fun _ => false) (fun x : Nat × List NodeR => ⟨36, pat [(1, I k), (2, .ptr 0 0 0), (4, .ptr 1 0 0), (5, .ptr 2 0 0), (6, I x.1)], [.cells 0 [encL NodeR.enc l, I next], .cells 0 [.sl true 0 [], I 0], .cells 0 [.own 3 x.2.length 0 x.2.length 5, I next], .cells x.2.length (x.2.flatMap NodeR.enc)]⟩) (fun x => l.length - x.1)
    (fun x => x.1 ≤ l.length ∧ x.2.length ≤ x.1 ∧ x.2 ++ (l.drop x.1).filter (fun x => !decide (x.ino = k)) = l.filter (fun x => !decide (x.ino = k))) (0, []) ?_ ?_ ?_
  · exact Wk.trans (Wk.ownNilCell 2 0 0 5 rfl rfl) Wa
  · exact ⟨by simp, by simp, by simp⟩
  rintro ⟨i, acc⟩ ⟨g1, g2, g3⟩ A hA
  simp only at g1 g2 g3 hA
  by_cases hi : i < l.length
  case neg =>
    rw [List.drop_eq_nil_of_le (by omega), List.filter_nil, List.append_nil] at g3
    rw [← g3]
    have s_ := And.intro @hi (@FSR.enc.eq_1)
    try simp [s_]
    repeat' ((first | ((first | refine Tp ?_ | refine Tn ?_ | refine T2 ?_ ?_) <;> intro hw_ ew_ nw_) | refine Dg 6 10 [] [] ?_ | rw [Ip] | rw [In] | rw [Fz] | rw [Gz] | fail) <;> first | simp [ew_, nw_, s_] | simp [s_] | skip)
  rw [List.drop_eq_getElem_cons hi, List.filter_cons] at g3
  have hw := wrap_nat hi (by simp only [maxLen]; omega)
  by_cases hk : l[i].ino = k
  · rw [if_neg (by simp [hk])] at g3
    have s_ := And.intro @hi (And.intro @hw (@hk))
    try simp [s_]
    repeat' ((first | ((first | refine Tp ?_ | refine Tn ?_ | refine T2 ?_ ?_) <;> intro hw_ ew_ nw_) | (exact hA (i + 1, acc) _ Wa ⟨hi, by simp only; omega, g3⟩ (by simp only; omega)) | refine Dg 6 10 [] [] ?_ | rw [Ip] | rw [In] | rw [Fz] | rw [Gz] | fail) <;> first | simp [ew_, nw_, s_] | simp [s_] | skip)
  · rw [if_pos (by simp [hk])] at g3
    have g5 : (acc ++ [l[i]]).length = acc.length + 1 := by simp
    have s_ := And.intro @hi (And.intro @hw (@hk))
    try simp [s_]
    repeat' ((first | ((first | refine Tp ?_ | refine Tn ?_ | refine T2 ?_ ?_) <;> intro hw_ ew_ nw_) | (exact hA (i + 1, acc ++ [l[i]]) _ Wc ⟨hi, by simp only [g5]; omega, by simpa using g3⟩ (by simp only; omega)) | refine Dg 6 10 [] [] ?_ | rw [Ip] | rw [In] | rw [Fz] | rw [Gz] | fail) <;> first | simp [ew_, nw_, s_] | simp [s_] | skip)
def putR (f : FSR) (n : NodeR) : FSR := ⟨f.l.takeWhile (fun x => decide (x.ino < n.ino)) ++ (n :: (f.l.dropWhile (fun x => decide (x.ino < n.ino))).filter (fun x => !decide (x.ino = n.ino))), max f.next (n.ino + 1)⟩
theorem rises_eq : ∀ {a b : List NodeR}, rises NodeR.ino a = true → rises NodeR.ino b = true → (∀ x, x ∈ a ↔ x ∈ b) → a = b
  | [], [], _, _, _ => rfl
  | [], y :: b, _, _, h => by have := (h y).2 (by simp); cases this
  | x :: a, [], _, _, h => by have := (h x).1 (by simp); cases this
  | x :: a, y :: b, ha, hb, h => by
    obtain ⟨a1, a2⟩ := rises_tail NodeR.ino ha
    obtain ⟨b1, b2⟩ := rises_tail NodeR.ino hb
    have hxy : x = y := by
      rcases List.mem_cons.1 ((h x).1 (by simp)) with e | h1
      · exact e
      rcases List.mem_cons.1 ((h y).2 (by simp)) with e | h2
      · exact e.symm
      have := a2 y h2
      have := b2 x h1
      omega
    subst hxy
    rw [rises_eq a1 b1 fun z => ⟨fun hz => ?_, fun hz => ?_⟩]
    · rcases List.mem_cons.1 ((h z).1 (by simp [hz])) with e | h1
      · have := a2 z hz; subst e; omega
      · exact h1
    · rcases List.mem_cons.1 ((h z).2 (by simp [hz])) with e | h1
      · have := b2 z hz; subst e; omega
      · exact h1
theorem tw_mem {l : List NodeR} (h : rises NodeR.ino l = true) (k : Int) (x : NodeR) : (x ∈ l.takeWhile (fun x => decide (x.ino < k)) ↔ x ∈ l ∧ x.ino < k) ∧ (x ∈ l.dropWhile (fun x => decide (x.ino < k)) ↔ x ∈ l ∧ ¬ x.ino < k) := by
  induction l with
  | nil => simp
  | cons y l ih =>
    obtain ⟨h1, h2⟩ := rises_tail NodeR.ino h
    have ih := ih h1
    by_cases hy : y.ino < k
    · rw [List.takeWhile_cons_of_pos (by simpa using hy), List.dropWhile_cons_of_pos (by simpa using hy), List.mem_cons, List.mem_cons, ih.1, ih.2]
      constructor
      · constructor
        · rintro (rfl | h)
          · exact ⟨.inl rfl, hy⟩
          · exact ⟨.inr h.1, h.2⟩
        · rintro ⟨rfl | h, h'⟩
          · exact .inl rfl
          · exact .inr ⟨h, h'⟩
      · constructor
        · rintro h; exact ⟨.inr h.1, h.2⟩
        · rintro ⟨rfl | h, h'⟩
          · exact absurd hy h'
          · exact ⟨h, h'⟩
    · rw [List.takeWhile_cons_of_neg (by simpa using hy), List.dropWhile_cons_of_neg (by simpa using hy)]
      have hall : ∀ z ∈ y :: l, ¬ z.ino < k := fun z hz => by
        rcases List.mem_cons.1 hz with rfl | hz
        · exact hy
        · have := h2 z hz; omega
      exact ⟨⟨fun h => (by cases h), fun h => absurd h.2 (hall x h.1)⟩, ⟨fun h => ⟨h, hall x h⟩, fun h => h.1⟩⟩
theorem putR_eq {f : FSR} (h : rises NodeR.ino f.l = true) (n : NodeR) : putR f n = putB f n := by
  obtain ⟨p1, p2, _⟩ := put_spec h n
  have hl : (putR f n).l = (putB f n).l := by
    refine rises_eq ?_ p1 fun x => ?_
    · refine (rises_pair NodeR.ino _).2 (List.pairwise_append.2 ⟨?_, List.pairwise_cons.2 ⟨fun y hy => ?_, ?_⟩, fun a ha b hb => ?_⟩)
      · exact ((rises_pair NodeR.ino _).1 h).sublist (List.takeWhile_sublist _)
      · simp only [List.mem_filter, (tw_mem h _ _).2, Bool.not_eq_true', decide_eq_false_iff_not] at hy
        omega
      · exact (((rises_pair NodeR.ino _).1 h).sublist (List.dropWhile_sublist _)).filter _
      · have ha := ((tw_mem h _ _).1.1 ha).2
        rcases List.mem_cons.1 hb with rfl | hb
        · exact ha
        · simp only [List.mem_filter, (tw_mem h _ _).2, Bool.not_eq_true', decide_eq_false_iff_not] at hb
          omega
    · rw [p2]
      simp only [putR, List.mem_append, List.mem_cons, List.mem_filter, tw_mem h, Bool.not_eq_true', decide_eq_false_iff_not]
      constructor
      · rintro (h | h | h)
        · exact .inr ⟨h.1, by omega⟩
        · exact .inl h
        · exact .inr ⟨h.1.1, h.2⟩
      · rintro (h | h)
        · exact .inr (.inl h)
        · by_cases hx : x.ino < n.ino
          · exact .inl ⟨h.1, hx⟩
          · exact .inr (.inr ⟨⟨h.1, hx⟩, h.2⟩)
  cases hb : putB f n with
  | mk l nx =>
    rw [hb] at hl
    have : nx = max f.next (n.ino + 1) := by have := congrArg FSR.next hb; simpa [putB] using this.symm
    subst this
    show FSR.mk (putR f n).l (max f.next (n.ino + 1)) = _
    rw [hl]
theorem rput_ok (f : FSR) (n : NodeR) (hl : f.l.length ≤ 1000000) (hn : inI n.ino) (hm : n.ino ≠ 9223372036854775807) : PCall Tryz.prog 79 [encF f, encN n] (encF (putR f n)) := by
  refine Pm Tryz.func79 fun hfit => ?_
  obtain ⟨l, next⟩ := f
  simp only [putR] at *
  have hw1 : IntKind.i64.wrap (n.ino + 1) = n.ino + 1 := by simp only [inI] at hn; rw [IntKind.wrap_i64]; omega
  obtain ⟨M, hM⟩ : ∃ M, M = max next (n.ino + 1) := ⟨_, rfl⟩
  rw [← hM]
  simp [Tryz.f79, FSR.enc]
  by_cases hg : next < n.ino + 1
  case pos =>
    have e : n.ino + 1 = M := by omega
    have s_ := And.intro @FSR.enc.eq_1 (And.intro @NodeR.enc.eq_1 (And.intro @hw1 (@hg)))
    try simp [s_]
    repeat' ((first | ((first | refine Tp ?_ | refine Tn ?_ | refine T2 ?_ ?_) <;> intro hw_ ew_ nw_) | refine Dg 5 16 [] [] ?_ | refine Dg 6 10 [] [] ?_ | refine Dg 10 9 [] [] ?_ | refine Dg 11 10 [] [] ?_ | rw [Ip] | rw [In] | rw [Fz] | rw [Gz] | fail) <;> first | simp [ew_, nw_, s_] | simp [s_] | skip)
    refine AW.loopG (lit := fun _ => false) (fun i : Nat => ⟨81, pat [(2, .ptr 0 0 0), (3, .ptr 1 0 0), (4, .ptr 2 0 0), (5, .ptr 3 0 0), (6, I i)], [.cells 0 [encL NodeR.enc l, I next], .cells 0 n.enc, .cells 0 [.sl true 0 [], I 0], .cells 0 [.own 4 i 0 i 5, I M], .cells i ((l.take i).flatMap NodeR.enc)]⟩) (fun i => l.length - i)
      (fun i => i ≤ l.length ∧ l.take i ++ (l.drop i).takeWhile (fun x => decide (x.ino < n.ino)) = l.takeWhile (fun x => decide (x.ino < n.ino)) ∧ (l.drop i).dropWhile (fun x => decide (x.ino < n.ino)) = l.dropWhile (fun x => decide (x.ino < n.ino))) 0 ?_ ?_ ?_
    · exact Wk.trans (Wk.ownNilCell 3 0 0 5 rfl rfl) (Wk.at _ rfl (by simp [e, NodeR.enc]) (by simp [e, NodeR.enc]))
    · exact ⟨by simp, by simp, by simp⟩
    rintro i ⟨g1, g2, g3⟩ A hA
    have hli : (l.take i).length = i := by simp; omega
    by_cases hi : i < l.length
    case neg =>
      rw [List.drop_eq_nil_of_le (by omega), List.takeWhile_nil, List.append_nil] at g2
      rw [← g3, ← g2]
      rw [show (l.drop i).dropWhile (fun x => decide (x.ino < n.ino)) = l.drop i by rw [List.drop_eq_nil_of_le (by omega)]; rfl]
      have s_ := And.intro @hi (And.intro @hli (@NodeR.enc.eq_1))
      try simp [s_]
      repeat' ((first | ((first | refine Tp ?_ | refine Tn ?_ | refine T2 ?_ ?_) <;> intro hw_ ew_ nw_) | refine Dg 5 16 [] [] ?_ | refine Dg 6 10 [] [] ?_ | refine Dg 10 9 [] [] ?_ | refine Dg 11 10 [] [] ?_ | rw [Ip] | rw [In] | rw [Fz] | rw [Gz] | fail) <;> first | simp [ew_, nw_, s_] | simp [s_] | skip)
      refine AW.loopG (lit := fun _ => false) (fun x : Nat × List NodeR => ⟨81, pat [(2, .ptr 0 0 0), (3, .ptr 1 0 0), (4, .ptr 2 0 0), (5, .ptr 3 0 0), (6, I x.1)], [.cells 0 [encL NodeR.enc l, I next], .cells 0 n.enc, .cells 0 [.sl true 0 [], I 0], .cells 0 [.own 4 x.2.length 0 x.2.length 5, I M], .cells x.2.length (x.2.flatMap NodeR.enc)]⟩) (fun x => l.length - x.1)
        (fun x => x.1 ≤ l.length ∧ x.2.length ≤ x.1 + 1 ∧ x.2 ++ (l.drop x.1).filter (fun x => !decide (x.ino = n.ino)) = l.take i ++ (n :: (l.drop i).filter (fun x => !decide (x.ino = n.ino)))) (i, l.take i ++ [n]) ?_ ?_ ?_
      · exact Wk.cutAt _ rfl (by simp [hli, NodeR.enc]) (by simp [hli, NodeR.enc]) (by simp [hli, NodeR.enc]) (by simp [hli, NodeR.enc])
      · exact ⟨g1, by simp [hli], by simp⟩
      rintro ⟨j, acc⟩ ⟨k1, k2, k3⟩ A2 hA2
      simp only at k1 k2 k3 hA2
      by_cases hj : j < l.length
      case neg =>
        rw [List.drop_eq_nil_of_le (by omega), List.filter_nil, List.append_nil] at k3
        rw [← k3]
        have s_ := And.intro @hj (@FSR.enc.eq_1)
        try simp [s_]
        repeat' ((first | ((first | refine Tp ?_ | refine Tn ?_ | refine T2 ?_ ?_) <;> intro hw_ ew_ nw_) | refine Dg 5 16 [] [] ?_ | refine Dg 6 10 [] [] ?_ | refine Dg 10 9 [] [] ?_ | refine Dg 11 10 [] [] ?_ | rw [Ip] | rw [In] | rw [Fz] | rw [Gz] | fail) <;> first | simp [ew_, nw_, s_] | simp [s_] | skip)
      rw [List.drop_eq_getElem_cons hj, List.filter_cons] at k3
      have hwj := wrap_nat hj (by simp only [maxLen]; omega)
      by_cases hk : l[j].ino = n.ino
      · rw [if_neg (by simp [hk])] at k3
        have s_ := And.intro @hj (And.intro @hwj (@hk))
        try simp [s_]
        repeat' ((first | ((first | refine Tp ?_ | refine Tn ?_ | refine T2 ?_ ?_) <;> intro hw_ ew_ nw_) | (exact hA2 (j + 1, acc) _ Wa ⟨hj, by simp only; omega, k3⟩ (by simp only; omega)) | refine Dg 5 16 [] [] ?_ | refine Dg 6 10 [] [] ?_ | refine Dg 10 9 [] [] ?_ | refine Dg 11 10 [] [] ?_ | rw [Ip] | rw [In] | rw [Fz] | rw [Gz] | fail) <;> first | simp [ew_, nw_, s_] | simp [s_] | skip)
      · rw [if_pos (by simp [hk])] at k3
        have k5 : (acc ++ [l[j]]).length = acc.length + 1 := by simp
        have s_ := And.intro @hj (And.intro @hwj (@hk))
        try simp [s_]
        repeat' ((first | ((first | refine Tp ?_ | refine Tn ?_ | refine T2 ?_ ?_) <;> intro hw_ ew_ nw_) | (exact hA2 (j + 1, acc ++ [l[j]]) _ Wc ⟨hj, by simp only [k5]; omega, by simpa using k3⟩ (by simp only; omega)) | refine Dg 5 16 [] [] ?_ | refine Dg 6 10 [] [] ?_ | refine Dg 10 9 [] [] ?_ | refine Dg 11 10 [] [] ?_ | rw [Ip] | rw [In] | rw [Fz] | rw [Gz] | fail) <;> first | simp [ew_, nw_, s_] | simp [s_] | skip)
    have hd := List.drop_eq_getElem_cons hi
    by_cases hp : l[i].ino < n.ino
    case neg =>
      have hd1 : (l.drop i).dropWhile (fun x => decide (x.ino < n.ino)) = l.drop i := by rw [hd, List.dropWhile_cons_of_neg (by simpa using hp)]
      rw [hd, List.takeWhile_cons_of_neg (by simpa using hp), List.append_nil] at g2
      rw [hd1] at g3
      rw [← g3, ← g2]
      have s_ := And.intro @hi (And.intro @hp (And.intro @hli (@NodeR.enc.eq_1)))
      try simp [s_]
      repeat' ((first | ((first | refine Tp ?_ | refine Tn ?_ | refine T2 ?_ ?_) <;> intro hw_ ew_ nw_) | refine Dg 5 16 [] [] ?_ | refine Dg 6 10 [] [] ?_ | refine Dg 10 9 [] [] ?_ | refine Dg 11 10 [] [] ?_ | rw [Ip] | rw [In] | rw [Fz] | rw [Gz] | fail) <;> first | simp [ew_, nw_, s_] | simp [s_] | skip)
      refine AW.loopG (lit := fun _ => false) (fun x : Nat × List NodeR => ⟨81, pat [(2, .ptr 0 0 0), (3, .ptr 1 0 0), (4, .ptr 2 0 0), (5, .ptr 3 0 0), (6, I x.1)], [.cells 0 [encL NodeR.enc l, I next], .cells 0 n.enc, .cells 0 [.sl true 0 [], I 0], .cells 0 [.own 4 x.2.length 0 x.2.length 5, I M], .cells x.2.length (x.2.flatMap NodeR.enc)]⟩) (fun x => l.length - x.1)
        (fun x => x.1 ≤ l.length ∧ x.2.length ≤ x.1 + 1 ∧ x.2 ++ (l.drop x.1).filter (fun x => !decide (x.ino = n.ino)) = l.take i ++ (n :: (l.drop i).filter (fun x => !decide (x.ino = n.ino)))) (i, l.take i ++ [n]) ?_ ?_ ?_
      · exact Wk.cutAt _ rfl (by simp [hli, NodeR.enc]) (by simp [hli, NodeR.enc]) (by simp [hli, NodeR.enc]) (by simp [hli, NodeR.enc])
      · exact ⟨g1, by simp [hli], by simp⟩
      rintro ⟨j, acc⟩ ⟨k1, k2, k3⟩ A2 hA2
      simp only at k1 k2 k3 hA2
      by_cases hj : j < l.length
      case neg =>
        rw [List.drop_eq_nil_of_le (by omega), List.filter_nil, List.append_nil] at k3
        rw [← k3]
        have s_ := And.intro @hj (@FSR.enc.eq_1)
        try simp [s_]
        repeat' ((first | ((first | refine Tp ?_ | refine Tn ?_ | refine T2 ?_ ?_) <;> intro hw_ ew_ nw_) | refine Dg 5 16 [] [] ?_ | refine Dg 6 10 [] [] ?_ | refine Dg 10 9 [] [] ?_ | refine Dg 11 10 [] [] ?_ | rw [Ip] | rw [In] | rw [Fz] | rw [Gz] | fail) <;> first | simp [ew_, nw_, s_] | simp [s_] | skip)
      rw [List.drop_eq_getElem_cons hj, List.filter_cons] at k3
      have hwj := wrap_nat hj (by simp only [maxLen]; omega)
      by_cases hk : l[j].ino = n.ino
      · rw [if_neg (by simp [hk])] at k3
        have s_ := And.intro @hj (And.intro @hwj (@hk))
        try simp [s_]
        repeat' ((first | ((first | refine Tp ?_ | refine Tn ?_ | refine T2 ?_ ?_) <;> intro hw_ ew_ nw_) | (exact hA2 (j + 1, acc) _ Wa ⟨hj, by simp only; omega, k3⟩ (by simp only; omega)) | refine Dg 5 16 [] [] ?_ | refine Dg 6 10 [] [] ?_ | refine Dg 10 9 [] [] ?_ | refine Dg 11 10 [] [] ?_ | rw [Ip] | rw [In] | rw [Fz] | rw [Gz] | fail) <;> first | simp [ew_, nw_, s_] | simp [s_] | skip)
      · rw [if_pos (by simp [hk])] at k3
        have k5 : (acc ++ [l[j]]).length = acc.length + 1 := by simp
        have s_ := And.intro @hj (And.intro @hwj (@hk))
        try simp [s_]
        repeat' ((first | ((first | refine Tp ?_ | refine Tn ?_ | refine T2 ?_ ?_) <;> intro hw_ ew_ nw_) | (exact hA2 (j + 1, acc ++ [l[j]]) _ Wc ⟨hj, by simp only [k5]; omega, by simpa using k3⟩ (by simp only; omega)) | refine Dg 5 16 [] [] ?_ | refine Dg 6 10 [] [] ?_ | refine Dg 10 9 [] [] ?_ | refine Dg 11 10 [] [] ?_ | rw [Ip] | rw [In] | rw [Fz] | rw [Gz] | fail) <;> first | simp [ew_, nw_, s_] | simp [s_] | skip)
    rw [hd, List.takeWhile_cons_of_pos (by simpa using hp)] at g2
    rw [hd, List.dropWhile_cons_of_pos (by simpa using hp)] at g3
    have hwi := wrap_nat hi (by simp only [maxLen]; omega)
    have htk : l.take (i + 1) = l.take i ++ [l[i]] := by simp
    have hfm : (l.take (i + 1)).flatMap NodeR.enc = (l.take i).flatMap NodeR.enc ++ l[i].enc := by rw [htk, List.flatMap_append]; simp
    have s_ := And.intro @hi (And.intro @hwi (And.intro @hp (@hli)))
    try simp [s_]
    repeat' ((first | ((first | refine Tp ?_ | refine Tn ?_ | refine T2 ?_ ?_) <;> intro hw_ ew_ nw_) | refine Dg 5 16 [] [] ?_ | refine Dg 6 10 [] [] ?_ | refine Dg 10 9 [] [] ?_ | refine Dg 11 10 [] [] ?_ | rw [Ip] | rw [In] | rw [Fz] | rw [Gz] | fail) <;> first | simp [ew_, nw_, s_] | simp [s_] | skip)
    exact hA (i + 1) _ (Wk.cutAt _ rfl (by simp [hli, hfm]) (by simp [hli, hfm]) (by simp [hli, hfm]) (by simp [hli, hfm])) ⟨hi, by rw [htk, List.append_assoc]; exact g2, g3⟩ (by omega)
  case neg =>
    have e : next = M := by omega
    have s_ := And.intro @FSR.enc.eq_1 (And.intro @NodeR.enc.eq_1 (And.intro @hw1 (@hg)))
    try simp [s_]
    repeat' ((first | ((first | refine Tp ?_ | refine Tn ?_ | refine T2 ?_ ?_) <;> intro hw_ ew_ nw_) | refine Dg 5 16 [] [] ?_ | refine Dg 6 10 [] [] ?_ | refine Dg 10 9 [] [] ?_ | refine Dg 11 10 [] [] ?_ | rw [Ip] | rw [In] | rw [Fz] | rw [Gz] | fail) <;> first | simp [ew_, nw_, s_] | simp [s_] | skip)
    refine AW.loopG (lit := fun _ => false) (fun i : Nat => ⟨81, pat [(2, .ptr 0 0 0), (3, .ptr 1 0 0), (4, .ptr 2 0 0), (5, .ptr 3 0 0), (6, I i)], [.cells 0 [encL NodeR.enc l, I next], .cells 0 n.enc, .cells 0 [.sl true 0 [], I 0], .cells 0 [.own 4 i 0 i 5, I M], .cells i ((l.take i).flatMap NodeR.enc)]⟩) (fun i => l.length - i)
      (fun i => i ≤ l.length ∧ l.take i ++ (l.drop i).takeWhile (fun x => decide (x.ino < n.ino)) = l.takeWhile (fun x => decide (x.ino < n.ino)) ∧ (l.drop i).dropWhile (fun x => decide (x.ino < n.ino)) = l.dropWhile (fun x => decide (x.ino < n.ino))) 0 ?_ ?_ ?_
    · exact Wk.trans (Wk.ownNilCell 3 0 0 5 rfl rfl) (Wk.at _ rfl (by simp [e, NodeR.enc]) (by simp [e, NodeR.enc]))
    · exact ⟨by simp, by simp, by simp⟩
    rintro i ⟨g1, g2, g3⟩ A hA
    have hli : (l.take i).length = i := by simp; omega
    by_cases hi : i < l.length
    case neg =>
      rw [List.drop_eq_nil_of_le (by omega), List.takeWhile_nil, List.append_nil] at g2
      rw [← g3, ← g2]
      rw [show (l.drop i).dropWhile (fun x => decide (x.ino < n.ino)) = l.drop i by rw [List.drop_eq_nil_of_le (by omega)]; rfl]
      have s_ := And.intro @hi (And.intro @hli (@NodeR.enc.eq_1))
      try simp [s_]
      repeat' ((first | ((first | refine Tp ?_ | refine Tn ?_ | refine T2 ?_ ?_) <;> intro hw_ ew_ nw_) | refine Dg 5 16 [] [] ?_ | refine Dg 6 10 [] [] ?_ | refine Dg 10 9 [] [] ?_ | refine Dg 11 10 [] [] ?_ | rw [Ip] | rw [In] | rw [Fz] | rw [Gz] | fail) <;> first | simp [ew_, nw_, s_] | simp [s_] | skip)
      refine AW.loopG (lit := fun _ => false) (fun x : Nat × List NodeR => ⟨81, pat [(2, .ptr 0 0 0), (3, .ptr 1 0 0), (4, .ptr 2 0 0), (5, .ptr 3 0 0), (6, I x.1)], [.cells 0 [encL NodeR.enc l, I next], .cells 0 n.enc, .cells 0 [.sl true 0 [], I 0], .cells 0 [.own 4 x.2.length 0 x.2.length 5, I M], .cells x.2.length (x.2.flatMap NodeR.enc)]⟩) (fun x => l.length - x.1)
        (fun x => x.1 ≤ l.length ∧ x.2.length ≤ x.1 + 1 ∧ x.2 ++ (l.drop x.1).filter (fun x => !decide (x.ino = n.ino)) = l.take i ++ (n :: (l.drop i).filter (fun x => !decide (x.ino = n.ino)))) (i, l.take i ++ [n]) ?_ ?_ ?_
      · exact Wk.cutAt _ rfl (by simp [hli, NodeR.enc]) (by simp [hli, NodeR.enc]) (by simp [hli, NodeR.enc]) (by simp [hli, NodeR.enc])
      · exact ⟨g1, by simp [hli], by simp⟩
      rintro ⟨j, acc⟩ ⟨k1, k2, k3⟩ A2 hA2
      simp only at k1 k2 k3 hA2
      by_cases hj : j < l.length
      case neg =>
        rw [List.drop_eq_nil_of_le (by omega), List.filter_nil, List.append_nil] at k3
        rw [← k3]
        have s_ := And.intro @hj (@FSR.enc.eq_1)
        try simp [s_]
        repeat' ((first | ((first | refine Tp ?_ | refine Tn ?_ | refine T2 ?_ ?_) <;> intro hw_ ew_ nw_) | refine Dg 5 16 [] [] ?_ | refine Dg 6 10 [] [] ?_ | refine Dg 10 9 [] [] ?_ | refine Dg 11 10 [] [] ?_ | rw [Ip] | rw [In] | rw [Fz] | rw [Gz] | fail) <;> first | simp [ew_, nw_, s_] | simp [s_] | skip)
      rw [List.drop_eq_getElem_cons hj, List.filter_cons] at k3
      have hwj := wrap_nat hj (by simp only [maxLen]; omega)
      by_cases hk : l[j].ino = n.ino
      · rw [if_neg (by simp [hk])] at k3
        have s_ := And.intro @hj (And.intro @hwj (@hk))
        try simp [s_]
        repeat' ((first | ((first | refine Tp ?_ | refine Tn ?_ | refine T2 ?_ ?_) <;> intro hw_ ew_ nw_) | (exact hA2 (j + 1, acc) _ Wa ⟨hj, by simp only; omega, k3⟩ (by simp only; omega)) | refine Dg 5 16 [] [] ?_ | refine Dg 6 10 [] [] ?_ | refine Dg 10 9 [] [] ?_ | refine Dg 11 10 [] [] ?_ | rw [Ip] | rw [In] | rw [Fz] | rw [Gz] | fail) <;> first | simp [ew_, nw_, s_] | simp [s_] | skip)
      · rw [if_pos (by simp [hk])] at k3
        have k5 : (acc ++ [l[j]]).length = acc.length + 1 := by simp
        have s_ := And.intro @hj (And.intro @hwj (@hk))
        try simp [s_]
        repeat' ((first | ((first | refine Tp ?_ | refine Tn ?_ | refine T2 ?_ ?_) <;> intro hw_ ew_ nw_) | (exact hA2 (j + 1, acc ++ [l[j]]) _ Wc ⟨hj, by simp only [k5]; omega, by simpa using k3⟩ (by simp only; omega)) | refine Dg 5 16 [] [] ?_ | refine Dg 6 10 [] [] ?_ | refine Dg 10 9 [] [] ?_ | refine Dg 11 10 [] [] ?_ | rw [Ip] | rw [In] | rw [Fz] | rw [Gz] | fail) <;> first | simp [ew_, nw_, s_] | simp [s_] | skip)
    have hd := List.drop_eq_getElem_cons hi
    by_cases hp : l[i].ino < n.ino
    case neg =>
      have hd1 : (l.drop i).dropWhile (fun x => decide (x.ino < n.ino)) = l.drop i := by rw [hd, List.dropWhile_cons_of_neg (by simpa using hp)]
      rw [hd, List.takeWhile_cons_of_neg (by simpa using hp), List.append_nil] at g2
      rw [hd1] at g3
      rw [← g3, ← g2]
      have s_ := And.intro @hi (And.intro @hp (And.intro @hli (@NodeR.enc.eq_1)))
      try simp [s_]
      repeat' ((first | ((first | refine Tp ?_ | refine Tn ?_ | refine T2 ?_ ?_) <;> intro hw_ ew_ nw_) | refine Dg 5 16 [] [] ?_ | refine Dg 6 10 [] [] ?_ | refine Dg 10 9 [] [] ?_ | refine Dg 11 10 [] [] ?_ | rw [Ip] | rw [In] | rw [Fz] | rw [Gz] | fail) <;> first | simp [ew_, nw_, s_] | simp [s_] | skip)
      refine AW.loopG (lit := fun _ => false) (fun x : Nat × List NodeR => ⟨81, pat [(2, .ptr 0 0 0), (3, .ptr 1 0 0), (4, .ptr 2 0 0), (5, .ptr 3 0 0), (6, I x.1)], [.cells 0 [encL NodeR.enc l, I next], .cells 0 n.enc, .cells 0 [.sl true 0 [], I 0], .cells 0 [.own 4 x.2.length 0 x.2.length 5, I M], .cells x.2.length (x.2.flatMap NodeR.enc)]⟩) (fun x => l.length - x.1)
        (fun x => x.1 ≤ l.length ∧ x.2.length ≤ x.1 + 1 ∧ x.2 ++ (l.drop x.1).filter (fun x => !decide (x.ino = n.ino)) = l.take i ++ (n :: (l.drop i).filter (fun x => !decide (x.ino = n.ino)))) (i, l.take i ++ [n]) ?_ ?_ ?_
      · exact Wk.cutAt _ rfl (by simp [hli, NodeR.enc]) (by simp [hli, NodeR.enc]) (by simp [hli, NodeR.enc]) (by simp [hli, NodeR.enc])
      · exact ⟨g1, by simp [hli], by simp⟩
      rintro ⟨j, acc⟩ ⟨k1, k2, k3⟩ A2 hA2
      simp only at k1 k2 k3 hA2
      by_cases hj : j < l.length
      case neg =>
        rw [List.drop_eq_nil_of_le (by omega), List.filter_nil, List.append_nil] at k3
        rw [← k3]
        have s_ := And.intro @hj (@FSR.enc.eq_1)
        try simp [s_]
        repeat' ((first | ((first | refine Tp ?_ | refine Tn ?_ | refine T2 ?_ ?_) <;> intro hw_ ew_ nw_) | refine Dg 5 16 [] [] ?_ | refine Dg 6 10 [] [] ?_ | refine Dg 10 9 [] [] ?_ | refine Dg 11 10 [] [] ?_ | rw [Ip] | rw [In] | rw [Fz] | rw [Gz] | fail) <;> first | simp [ew_, nw_, s_] | simp [s_] | skip)
      rw [List.drop_eq_getElem_cons hj, List.filter_cons] at k3
      have hwj := wrap_nat hj (by simp only [maxLen]; omega)
      by_cases hk : l[j].ino = n.ino
      · rw [if_neg (by simp [hk])] at k3
        have s_ := And.intro @hj (And.intro @hwj (@hk))
        try simp [s_]
        repeat' ((first | ((first | refine Tp ?_ | refine Tn ?_ | refine T2 ?_ ?_) <;> intro hw_ ew_ nw_) | (exact hA2 (j + 1, acc) _ Wa ⟨hj, by simp only; omega, k3⟩ (by simp only; omega)) | refine Dg 5 16 [] [] ?_ | refine Dg 6 10 [] [] ?_ | refine Dg 10 9 [] [] ?_ | refine Dg 11 10 [] [] ?_ | rw [Ip] | rw [In] | rw [Fz] | rw [Gz] | fail) <;> first | simp [ew_, nw_, s_] | simp [s_] | skip)
      · rw [if_pos (by simp [hk])] at k3
        have k5 : (acc ++ [l[j]]).length = acc.length + 1 := by simp
        have s_ := And.intro @hj (And.intro @hwj (@hk))
        try simp [s_]
        repeat' ((first | ((first | refine Tp ?_ | refine Tn ?_ | refine T2 ?_ ?_) <;> intro hw_ ew_ nw_) | (exact hA2 (j + 1, acc ++ [l[j]]) _ Wc ⟨hj, by simp only [k5]; omega, by simpa using k3⟩ (by simp only; omega)) | refine Dg 5 16 [] [] ?_ | refine Dg 6 10 [] [] ?_ | refine Dg 10 9 [] [] ?_ | refine Dg 11 10 [] [] ?_ | rw [Ip] | rw [In] | rw [Fz] | rw [Gz] | fail) <;> first | simp [ew_, nw_, s_] | simp [s_] | skip)
    rw [hd, List.takeWhile_cons_of_pos (by simpa using hp)] at g2
    rw [hd, List.dropWhile_cons_of_pos (by simpa using hp)] at g3
    have hwi := wrap_nat hi (by simp only [maxLen]; omega)
    have htk : l.take (i + 1) = l.take i ++ [l[i]] := by simp
    have hfm : (l.take (i + 1)).flatMap NodeR.enc = (l.take i).flatMap NodeR.enc ++ l[i].enc := by rw [htk, List.flatMap_append]; simp
    have s_ := And.intro @hi (And.intro @hwi (And.intro @hp (@hli)))
    try simp [s_]
    repeat' ((first | ((first | refine Tp ?_ | refine Tn ?_ | refine T2 ?_ ?_) <;> intro hw_ ew_ nw_) | refine Dg 5 16 [] [] ?_ | refine Dg 6 10 [] [] ?_ | refine Dg 10 9 [] [] ?_ | refine Dg 11 10 [] [] ?_ | rw [Ip] | rw [In] | rw [Fz] | rw [Gz] | fail) <;> first | simp [ew_, nw_, s_] | simp [s_] | skip)
    exact hA (i + 1) _ (Wk.cutAt _ rfl (by simp [hli, hfm]) (by simp [hli, hfm]) (by simp [hli, hfm]) (by simp [hli, hfm])) ⟨hi, by rw [htk, List.append_assoc]; exact g2, g3⟩ (by omega)
end Go.Proofs.YtdnfnddlciafmaaGreat
