/- The reference's put; what was put is put. -/
import Derived.Test.YtjelapkglkcoiaaTreF
set_option linter.unusedVariables false
set_option linter.unusedSimpArgs false
namespace Go.Proofs.Ytjelapkglkcoiaa
open Go.Cx Tab
set_option maxHeartbeats 400000
set_option maxRecDepth 40000

def putR (f : FSR) (n : NodeR) : FSR := ⟨f.l.takeWhile (fun x => decide (x.ino < n.ino)) ++ (n :: (f.l.dropWhile (fun x => decide (x.ino < n.ino))).filter (fun x => !decide (x.ino = n.ino))), max f.next (n.ino + 1)⟩
theorem rises_eq : ∀ {a b : List NodeR}, rises NodeR.ino a = true → rises NodeR.ino b = true → (∀ x, x ∈ a ↔ x ∈ b) → a = b
  | [], [], _, _, _ => rfl
  | [], y :: b, _, _, h => by have := (h y).2 (by simp); cases this
  | x :: a, [], _, _, h => by have := (h x).1 (by simp); cases this
  | x :: a, y :: b, ha, hb, h => by
    obtain ⟨a1, a2⟩ := rises_tail NodeR.ino ha
    obtain ⟨b1, b2⟩ := rises_tail NodeR.ino hb
    have hxy : x = y := by
      rcases List.mem_cons.1 ((h x).1 (by simp)) with e | h1
      · exact e
      rcases List.mem_cons.1 ((h y).2 (by simp)) with e | h2
      · exact e.symm
      have := a2 y h2
      have := b2 x h1
      omega
    subst hxy
    rw [rises_eq a1 b1 fun z => ⟨fun hz => ?_, fun hz => ?_⟩]
    · rcases List.mem_cons.1 ((h z).1 (by simp [hz])) with e | h1
      · have := a2 z hz; subst e; omega
      · exact h1
    · rcases List.mem_cons.1 ((h z).2 (by simp [hz])) with e | h1
      · have := b2 z hz; subst e; omega
      · exact h1
theorem tw_mem {l : List NodeR} (h : rises NodeR.ino l = true) (k : Int) (x : NodeR) : (x ∈ l.takeWhile (fun x => decide (x.ino < k)) ↔ x ∈ l ∧ x.ino < k) ∧ (x ∈ l.dropWhile (fun x => decide (x.ino < k)) ↔ x ∈ l ∧ ¬ x.ino < k) := by
  induction l with
  | nil => simp
  | cons y l ih =>
    obtain ⟨h1, h2⟩ := rises_tail NodeR.ino h
    have ih := ih h1
    by_cases hy : y.ino < k
    · rw [List.takeWhile_cons_of_pos (by simpa using hy), List.dropWhile_cons_of_pos (by simpa using hy), List.mem_cons, List.mem_cons, ih.1, ih.2]
      constructor
      · constructor
        · rintro (rfl | h)
          · exact ⟨.inl rfl, hy⟩
          · exact ⟨.inr h.1, h.2⟩
        · rintro ⟨rfl | h, h'⟩
          · exact .inl rfl
          · exact .inr ⟨h, h'⟩
      · constructor
        · rintro h; exact ⟨.inr h.1, h.2⟩
        · rintro ⟨rfl | h, h'⟩
          · exact absurd hy h'
          · exact ⟨h, h'⟩
    · rw [List.takeWhile_cons_of_neg (by simpa using hy), List.dropWhile_cons_of_neg (by simpa using hy)]
      have hall : ∀ z ∈ y :: l, ¬ z.ino < k := fun z hz => by
        rcases List.mem_cons.1 hz with rfl | hz
        · exact hy
        · have := h2 z hz; omega
      exact ⟨⟨fun h => (by cases h), fun h => absurd h.2 (hall x h.1)⟩, ⟨fun h => ⟨h, hall x h⟩, fun h => h.1⟩⟩
theorem putR_eq {f : FSR} (h : rises NodeR.ino f.l = true) (n : NodeR) : putR f n = putB f n := by
  obtain ⟨p1, p2, _⟩ := put_spec h n
  have hl : (putR f n).l = (putB f n).l := by
    refine rises_eq ?_ p1 fun x => ?_
    · refine (rises_pair NodeR.ino _).2 (List.pairwise_append.2 ⟨?_, List.pairwise_cons.2 ⟨fun y hy => ?_, ?_⟩, fun a ha b hb => ?_⟩)
      · exact ((rises_pair NodeR.ino _).1 h).sublist (List.takeWhile_sublist _)
      · simp only [List.mem_filter, (tw_mem h _ _).2, Bool.not_eq_true', decide_eq_false_iff_not] at hy
        omega
      · exact (((rises_pair NodeR.ino _).1 h).sublist (List.dropWhile_sublist _)).filter _
      · have ha := ((tw_mem h _ _).1.1 ha).2
        rcases List.mem_cons.1 hb with rfl | hb
        · exact ha
        · simp only [List.mem_filter, (tw_mem h _ _).2, Bool.not_eq_true', decide_eq_false_iff_not] at hb
          omega
    · rw [p2]
      simp only [putR, List.mem_append, List.mem_cons, List.mem_filter, tw_mem h, Bool.not_eq_true', decide_eq_false_iff_not]
      constructor
      · rintro (h | h | h)
        · exact .inr ⟨h.1, by omega⟩
        · exact .inl h
        · exact .inr ⟨h.1.1, h.2⟩
      · rintro (h | h)
        · exact .inr (.inl h)
        · by_cases hx : x.ino < n.ino
          · exact .inl ⟨h.1, hx⟩
          · exact .inr (.inr ⟨⟨h.1, hx⟩, h.2⟩)
  cases hb : putB f n with
  | mk l nx =>
    rw [hb] at hl
    have : nx = max f.next (n.ino + 1) := by have := congrArg FSR.next hb; simpa [putB] using this.symm
    subst this
    show FSR.mk (putR f n).l (max f.next (n.ino + 1)) = _
    rw [hl]
theorem rput_ok (f : FSR) (n : NodeR) (hl : f.l.length ≤ 1000000) (hn : inI n.ino) (hm : n.ino ≠ 9223372036854775807) : PCall Try.prog 40 [encF f, encN n] (encF (putR f n)) := by
  refine PCall.mk (fun _ => false) Try.func40 rfl rfl rfl (Ent.mk Try.func40 (by kernel_rfl) rfl) (by simp) (by simp) fun hfit => ?_
  obtain ⟨l, next⟩ := f
  simp only [putR] at *
  have hw1 : IntKind.i64.wrap (n.ino + 1) = n.ino + 1 := by simp only [inI] at hn; rw [IntKind.wrap_i64]; omega
  obtain ⟨M, hM⟩ : ∃ M, M = max next (n.ino + 1) := ⟨_, rfl⟩
  rw [← hM]
  simp [Try.f40, FSR.enc]
  by_cases hg : next < n.ino + 1
  case pos =>
    have e : n.ino + 1 = M := by omega
    try simp [FSR.enc, NodeR.enc, hw1, hg]
    repeat' (first
      | ((first | refine Tst.go (fun hw_ ew_ => ?_) (fun hw_ ew_ => ?_)) <;> first | (exfalso; first | omega | with_reducible exact hw_ (by assumption) | with_reducible exact absurd hw_ (by assumption)) | (have nw_ := Nw.nw hw_; simp [ew_, nw_, FSR.enc, NodeR.enc, hw1, hg]) | simp [ew_, FSR.enc, NodeR.enc, hw1, hg])
      | ((first | refine AW.draw (id := 5) Try.checked.mixed (fun _ => false) [] [] 16 (by kernel_rfl) ?_ | refine AW.draw (id := 6) Try.checked.mixed (fun _ => false) [] [] 10 (by kernel_rfl) ?_ | refine AW.draw (id := 10) Try.checked.mixed (fun _ => false) [] [] 9 (by kernel_rfl) ?_ | refine AW.draw (id := 11) Try.checked.mixed (fun _ => false) [] [] 10 (by kernel_rfl) ?_ | rw [if_pos (by first | omega | (simp only [maxLen]; omega))] | rw [if_neg (by first | omega | (simp only [maxLen]; omega))] | rw [frzOwn_neat (by simp) (by simp <;> omega)] | rw [fzOwn_neat (by simp) (by simp <;> omega)]); try simp [FSR.enc, NodeR.enc, hw1, hg])
      | ((first | refine TstB.go (fun hw_ ew_ => ?_) (fun hw_ ew_ => ?_)) <;> first | (exfalso; first | omega | with_reducible exact hw_ (by assumption) | with_reducible exact absurd hw_ (by assumption)) | simp [ew_, FSR.enc, NodeR.enc, hw1, hg])
      | fail)
    refine AW.loopG (lit := fun _ => false) (fun i : Nat => ⟨81, pat [(2, .ptr 0 0 0), (3, .ptr 1 0 0), (4, .ptr 2 0 0), (5, .ptr 3 0 0), (6, I i)], [.cells 0 [encL NodeR.enc l, I next], .cells 0 n.enc, .cells 0 [.sl true 0 [], I 0], .cells 0 [.own 4 i 0 i 5, I M], .cells i ((l.take i).flatMap NodeR.enc)]⟩) (fun i => l.length - i)
      (fun i => i ≤ l.length ∧ l.take i ++ (l.drop i).takeWhile (fun x => decide (x.ino < n.ino)) = l.takeWhile (fun x => decide (x.ino < n.ino)) ∧ (l.drop i).dropWhile (fun x => decide (x.ino < n.ino)) = l.dropWhile (fun x => decide (x.ino < n.ino))) 0 ?_ ?_ ?_
    · exact Wk.trans (Wk.ownNilCell 3 0 0 5 rfl rfl) (Wk.at _ rfl (by simp [e, NodeR.enc]) (by simp [e, NodeR.enc]))
    · exact ⟨by simp, by simp, by simp⟩
    rintro i ⟨g1, g2, g3⟩ A hA
    have hli : (l.take i).length = i := by simp; omega
    by_cases hi : i < l.length
    case neg =>
      rw [List.drop_eq_nil_of_le (by omega), List.takeWhile_nil, List.append_nil] at g2
      rw [← g3, ← g2]
      rw [show (l.drop i).dropWhile (fun x => decide (x.ino < n.ino)) = l.drop i by rw [List.drop_eq_nil_of_le (by omega)]; rfl]
      try simp [hi, hli, NodeR.enc]
      repeat' (first
        | ((first | refine Tst.go (fun hw_ ew_ => ?_) (fun hw_ ew_ => ?_)) <;> first | (exfalso; first | omega | with_reducible exact hw_ (by assumption) | with_reducible exact absurd hw_ (by assumption)) | (have nw_ := Nw.nw hw_; simp [ew_, nw_, hi, hli, NodeR.enc]) | simp [ew_, hi, hli, NodeR.enc])
        | ((first | refine AW.draw (id := 5) Try.checked.mixed (fun _ => false) [] [] 16 (by kernel_rfl) ?_ | refine AW.draw (id := 6) Try.checked.mixed (fun _ => false) [] [] 10 (by kernel_rfl) ?_ | refine AW.draw (id := 10) Try.checked.mixed (fun _ => false) [] [] 9 (by kernel_rfl) ?_ | refine AW.draw (id := 11) Try.checked.mixed (fun _ => false) [] [] 10 (by kernel_rfl) ?_ | rw [if_pos (by first | omega | (simp only [maxLen]; omega))] | rw [if_neg (by first | omega | (simp only [maxLen]; omega))] | rw [frzOwn_neat (by simp) (by simp <;> omega)] | rw [fzOwn_neat (by simp) (by simp <;> omega)]); try simp [hi, hli, NodeR.enc])
        | ((first | refine TstB.go (fun hw_ ew_ => ?_) (fun hw_ ew_ => ?_)) <;> first | (exfalso; first | omega | with_reducible exact hw_ (by assumption) | with_reducible exact absurd hw_ (by assumption)) | simp [ew_, hi, hli, NodeR.enc])
        | fail)
      refine AW.loopG (lit := fun _ => false) (fun x : Nat × List NodeR => ⟨81, pat [(2, .ptr 0 0 0), (3, .ptr 1 0 0), (4, .ptr 2 0 0), (5, .ptr 3 0 0), (6, I x.1)], [.cells 0 [encL NodeR.enc l, I next], .cells 0 n.enc, .cells 0 [.sl true 0 [], I 0], .cells 0 [.own 4 x.2.length 0 x.2.length 5, I M], .cells x.2.length (x.2.flatMap NodeR.enc)]⟩) (fun x => l.length - x.1)
        (fun x => x.1 ≤ l.length ∧ x.2.length ≤ x.1 + 1 ∧ x.2 ++ (l.drop x.1).filter (fun x => !decide (x.ino = n.ino)) = l.take i ++ (n :: (l.drop i).filter (fun x => !decide (x.ino = n.ino)))) (i, l.take i ++ [n]) ?_ ?_ ?_
      · exact Wk.cutAt _ rfl (by simp [hli, NodeR.enc]) (by simp [hli, NodeR.enc]) (by simp [hli, NodeR.enc]) (by simp [hli, NodeR.enc])
      · exact ⟨g1, by simp [hli], by simp⟩
      rintro ⟨j, acc⟩ ⟨k1, k2, k3⟩ A2 hA2
      simp only at k1 k2 k3 hA2
      by_cases hj : j < l.length
      case neg =>
        rw [List.drop_eq_nil_of_le (by omega), List.filter_nil, List.append_nil] at k3
        rw [← k3]
        try simp [hj, FSR.enc]
        repeat' (first
          | ((first | refine Tst.go (fun hw_ ew_ => ?_) (fun hw_ ew_ => ?_)) <;> first | (exfalso; first | omega | with_reducible exact hw_ (by assumption) | with_reducible exact absurd hw_ (by assumption)) | (have nw_ := Nw.nw hw_; simp [ew_, nw_, hj, FSR.enc]) | simp [ew_, hj, FSR.enc])
          | ((first | refine AW.draw (id := 5) Try.checked.mixed (fun _ => false) [] [] 16 (by kernel_rfl) ?_ | refine AW.draw (id := 6) Try.checked.mixed (fun _ => false) [] [] 10 (by kernel_rfl) ?_ | refine AW.draw (id := 10) Try.checked.mixed (fun _ => false) [] [] 9 (by kernel_rfl) ?_ | refine AW.draw (id := 11) Try.checked.mixed (fun _ => false) [] [] 10 (by kernel_rfl) ?_ | rw [if_pos (by first | omega | (simp only [maxLen]; omega))] | rw [if_neg (by first | omega | (simp only [maxLen]; omega))] | rw [frzOwn_neat (by simp) (by simp <;> omega)] | rw [fzOwn_neat (by simp) (by simp <;> omega)]); try simp [hj, FSR.enc])
          | ((first | refine TstB.go (fun hw_ ew_ => ?_) (fun hw_ ew_ => ?_)) <;> first | (exfalso; first | omega | with_reducible exact hw_ (by assumption) | with_reducible exact absurd hw_ (by assumption)) | simp [ew_, hj, FSR.enc])
          | fail)
      rw [List.drop_eq_getElem_cons hj, List.filter_cons] at k3
      have hwj := wrap_nat hj (by simp only [maxLen]; omega)
      by_cases hk : l[j].ino = n.ino
      · rw [if_neg (by simp [hk])] at k3
        try simp [hj, hwj, hk]
        repeat' (first
          | ((first | refine Tst.go (fun hw_ ew_ => ?_) (fun hw_ ew_ => ?_)) <;> first | (exfalso; first | omega | with_reducible exact hw_ (by assumption) | with_reducible exact absurd hw_ (by assumption)) | (have nw_ := Nw.nw hw_; simp [ew_, nw_, hj, hwj, hk]) | simp [ew_, hj, hwj, hk])
          | (exact hA2 (j + 1, acc) _ (Wk.at _ rfl (by simp) (by simp)) ⟨hj, by simp only; omega, k3⟩ (by simp only; omega))
          | ((first | refine AW.draw (id := 5) Try.checked.mixed (fun _ => false) [] [] 16 (by kernel_rfl) ?_ | refine AW.draw (id := 6) Try.checked.mixed (fun _ => false) [] [] 10 (by kernel_rfl) ?_ | refine AW.draw (id := 10) Try.checked.mixed (fun _ => false) [] [] 9 (by kernel_rfl) ?_ | refine AW.draw (id := 11) Try.checked.mixed (fun _ => false) [] [] 10 (by kernel_rfl) ?_ | rw [if_pos (by first | omega | (simp only [maxLen]; omega))] | rw [if_neg (by first | omega | (simp only [maxLen]; omega))] | rw [frzOwn_neat (by simp) (by simp <;> omega)] | rw [fzOwn_neat (by simp) (by simp <;> omega)]); try simp [hj, hwj, hk])
          | ((first | refine TstB.go (fun hw_ ew_ => ?_) (fun hw_ ew_ => ?_)) <;> first | (exfalso; first | omega | with_reducible exact hw_ (by assumption) | with_reducible exact absurd hw_ (by assumption)) | simp [ew_, hj, hwj, hk])
          | fail)
      · rw [if_pos (by simp [hk])] at k3
        have k5 : (acc ++ [l[j]]).length = acc.length + 1 := by simp
        try simp [hj, hwj, hk]
        repeat' (first
          | ((first | refine Tst.go (fun hw_ ew_ => ?_) (fun hw_ ew_ => ?_)) <;> first | (exfalso; first | omega | with_reducible exact hw_ (by assumption) | with_reducible exact absurd hw_ (by assumption)) | (have nw_ := Nw.nw hw_; simp [ew_, nw_, hj, hwj, hk]) | simp [ew_, hj, hwj, hk])
          | (exact hA2 (j + 1, acc ++ [l[j]]) _ (Wk.cutAt _ rfl (by simp) (by simp) (by simp) (by simp)) ⟨hj, by simp only [k5]; omega, by simpa using k3⟩ (by simp only; omega))
          | ((first | refine AW.draw (id := 5) Try.checked.mixed (fun _ => false) [] [] 16 (by kernel_rfl) ?_ | refine AW.draw (id := 6) Try.checked.mixed (fun _ => false) [] [] 10 (by kernel_rfl) ?_ | refine AW.draw (id := 10) Try.checked.mixed (fun _ => false) [] [] 9 (by kernel_rfl) ?_ | refine AW.draw (id := 11) Try.checked.mixed (fun _ => false) [] [] 10 (by kernel_rfl) ?_ | rw [if_pos (by first | omega | (simp only [maxLen]; omega))] | rw [if_neg (by first | omega | (simp only [maxLen]; omega))] | rw [frzOwn_neat (by simp) (by simp <;> omega)] | rw [fzOwn_neat (by simp) (by simp <;> omega)]); try simp [hj, hwj, hk])
          | ((first | refine TstB.go (fun hw_ ew_ => ?_) (fun hw_ ew_ => ?_)) <;> first | (exfalso; first | omega | with_reducible exact hw_ (by assumption) | with_reducible exact absurd hw_ (by assumption)) | simp [ew_, hj, hwj, hk])
          | fail)
    have hd := List.drop_eq_getElem_cons hi
    by_cases hp : l[i].ino < n.ino
    case neg =>
      have hd1 : (l.drop i).dropWhile (fun x => decide (x.ino < n.ino)) = l.drop i := by rw [hd, List.dropWhile_cons_of_neg (by simpa using hp)]
      rw [hd, List.takeWhile_cons_of_neg (by simpa using hp), List.append_nil] at g2
      rw [hd1] at g3
      rw [← g3, ← g2]
      try simp [hi, hp, hli, NodeR.enc]
      repeat' (first
        | ((first | refine Tst.go (fun hw_ ew_ => ?_) (fun hw_ ew_ => ?_)) <;> first | (exfalso; first | omega | with_reducible exact hw_ (by assumption) | with_reducible exact absurd hw_ (by assumption)) | (have nw_ := Nw.nw hw_; simp [ew_, nw_, hi, hp, hli, NodeR.enc]) | simp [ew_, hi, hp, hli, NodeR.enc])
        | ((first | refine AW.draw (id := 5) Try.checked.mixed (fun _ => false) [] [] 16 (by kernel_rfl) ?_ | refine AW.draw (id := 6) Try.checked.mixed (fun _ => false) [] [] 10 (by kernel_rfl) ?_ | refine AW.draw (id := 10) Try.checked.mixed (fun _ => false) [] [] 9 (by kernel_rfl) ?_ | refine AW.draw (id := 11) Try.checked.mixed (fun _ => false) [] [] 10 (by kernel_rfl) ?_ | rw [if_pos (by first | omega | (simp only [maxLen]; omega))] | rw [if_neg (by first | omega | (simp only [maxLen]; omega))] | rw [frzOwn_neat (by simp) (by simp <;> omega)] | rw [fzOwn_neat (by simp) (by simp <;> omega)]); try simp [hi, hp, hli, NodeR.enc])
        | ((first | refine TstB.go (fun hw_ ew_ => ?_) (fun hw_ ew_ => ?_)) <;> first | (exfalso; first | omega | with_reducible exact hw_ (by assumption) | with_reducible exact absurd hw_ (by assumption)) | simp [ew_, hi, hp, hli, NodeR.enc])
        | fail)
      refine AW.loopG (lit := fun _ => false) (fun x : Nat × List NodeR => ⟨81, pat [(2, .ptr 0 0 0), (3, .ptr 1 0 0), (4, .ptr 2 0 0), (5, .ptr 3 0 0), (6, I x.1)], [.cells 0 [encL NodeR.enc l, I next], .cells 0 n.enc, .cells 0 [.sl true 0 [], I 0], .cells 0 [.own 4 x.2.length 0 x.2.length 5, I M], .cells x.2.length (x.2.flatMap NodeR.enc)]⟩) (fun x => l.length - x.1)
        (fun x => x.1 ≤ l.length ∧ x.2.length ≤ x.1 + 1 ∧ x.2 ++ (l.drop x.1).filter (fun x => !decide (x.ino = n.ino)) = l.take i ++ (n :: (l.drop i).filter (fun x => !decide (x.ino = n.ino)))) (i, l.take i ++ [n]) ?_ ?_ ?_
      · exact Wk.cutAt _ rfl (by simp [hli, NodeR.enc]) (by simp [hli, NodeR.enc]) (by simp [hli, NodeR.enc]) (by simp [hli, NodeR.enc])
      · exact ⟨g1, by simp [hli], by simp⟩
      rintro ⟨j, acc⟩ ⟨k1, k2, k3⟩ A2 hA2
      simp only at k1 k2 k3 hA2
      by_cases hj : j < l.length
      case neg =>
        rw [List.drop_eq_nil_of_le (by omega), List.filter_nil, List.append_nil] at k3
        rw [← k3]
        try simp [hj, FSR.enc]
        repeat' (first
          | ((first | refine Tst.go (fun hw_ ew_ => ?_) (fun hw_ ew_ => ?_)) <;> first | (exfalso; first | omega | with_reducible exact hw_ (by assumption) | with_reducible exact absurd hw_ (by assumption)) | (have nw_ := Nw.nw hw_; simp [ew_, nw_, hj, FSR.enc]) | simp [ew_, hj, FSR.enc])
          | ((first | refine AW.draw (id := 5) Try.checked.mixed (fun _ => false) [] [] 16 (by kernel_rfl) ?_ | refine AW.draw (id := 6) Try.checked.mixed (fun _ => false) [] [] 10 (by kernel_rfl) ?_ | refine AW.draw (id := 10) Try.checked.mixed (fun _ => false) [] [] 9 (by kernel_rfl) ?_ | refine AW.draw (id := 11) Try.checked.mixed (fun _ => false) [] [] 10 (by kernel_rfl) ?_ | rw [if_pos (by first | omega | (simp only [maxLen]; omega))] | rw [if_neg (by first | omega | (simp only [maxLen]; omega))] | rw [frzOwn_neat (by simp) (by simp <;> omega)] | rw [fzOwn_neat (by simp) (by simp <;> omega)]); try simp [hj, FSR.enc])
          | ((first | refine TstB.go (fun hw_ ew_ => ?_) (fun hw_ ew_ => ?_)) <;> first | (exfalso; first | omega | with_reducible exact hw_ (by assumption) | with_reducible exact absurd hw_ (by assumption)) | simp [ew_, hj, FSR.enc])
          | fail)
      rw [List.drop_eq_getElem_cons hj, List.filter_cons] at k3
      have hwj := wrap_nat hj (by simp only [maxLen]; omega)
      by_cases hk : l[j].ino = n.ino
      · rw [if_neg (by simp [hk])] at k3
        try simp [hj, hwj, hk]
        repeat' (first
          | ((first | refine Tst.go (fun hw_ ew_ => ?_) (fun hw_ ew_ => ?_)) <;> first | (exfalso; first | omega | with_reducible exact hw_ (by assumption) | with_reducible exact absurd hw_ (by assumption)) | (have nw_ := Nw.nw hw_; simp [ew_, nw_, hj, hwj, hk]) | simp [ew_, hj, hwj, hk])
          | (exact hA2 (j + 1, acc) _ (Wk.at _ rfl (by simp) (by simp)) ⟨hj, by simp only; omega, k3⟩ (by simp only; omega))
          | ((first | refine AW.draw (id := 5) Try.checked.mixed (fun _ => false) [] [] 16 (by kernel_rfl) ?_ | refine AW.draw (id := 6) Try.checked.mixed (fun _ => false) [] [] 10 (by kernel_rfl) ?_ | refine AW.draw (id := 10) Try.checked.mixed (fun _ => false) [] [] 9 (by kernel_rfl) ?_ | refine AW.draw (id := 11) Try.checked.mixed (fun _ => false) [] [] 10 (by kernel_rfl) ?_ | rw [if_pos (by first | omega | (simp only [maxLen]; omega))] | rw [if_neg (by first | omega | (simp only [maxLen]; omega))] | rw [frzOwn_neat (by simp) (by simp <;> omega)] | rw [fzOwn_neat (by simp) (by simp <;> omega)]); try simp [hj, hwj, hk])
          | ((first | refine TstB.go (fun hw_ ew_ => ?_) (fun hw_ ew_ => ?_)) <;> first | (exfalso; first | omega | with_reducible exact hw_ (by assumption) | with_reducible exact absurd hw_ (by assumption)) | simp [ew_, hj, hwj, hk])
          | fail)
      · rw [if_pos (by simp [hk])] at k3
        have k5 : (acc ++ [l[j]]).length = acc.length + 1 := by simp
        try simp [hj, hwj, hk]
        repeat' (first
          | ((first | refine Tst.go (fun hw_ ew_ => ?_) (fun hw_ ew_ => ?_)) <;> first | (exfalso; first | omega | with_reducible exact hw_ (by assumption) | with_reducible exact absurd hw_ (by assumption)) | (have nw_ := Nw.nw hw_; simp [ew_, nw_, hj, hwj, hk]) | simp [ew_, hj, hwj, hk])
          | (exact hA2 (j + 1, acc ++ [l[j]]) _ (Wk.cutAt _ rfl (by simp) (by simp) (by simp) (by simp)) ⟨hj, by simp only [k5]; omega, by simpa using k3⟩ (by simp only; omega))
          | ((first | refine AW.draw (id := 5) Try.checked.mixed (fun _ => false) [] [] 16 (by kernel_rfl) ?_ | refine AW.draw (id := 6) Try.checked.mixed (fun _ => false) [] [] 10 (by kernel_rfl) ?_ | refine AW.draw (id := 10) Try.checked.mixed (fun _ => false) [] [] 9 (by kernel_rfl) ?_ | refine AW.draw (id := 11) Try.checked.mixed (fun _ => false) [] [] 10 (by kernel_rfl) ?_ | rw [if_pos (by first | omega | (simp only [maxLen]; omega))] | rw [if_neg (by first | omega | (simp only [maxLen]; omega))] | rw [frzOwn_neat (by simp) (by simp <;> omega)] | rw [fzOwn_neat (by simp) (by simp <;> omega)]); try simp [hj, hwj, hk])
          | ((first | refine TstB.go (fun hw_ ew_ => ?_) (fun hw_ ew_ => ?_)) <;> first | (exfalso; first | omega | with_reducible exact hw_ (by assumption) | with_reducible exact absurd hw_ (by assumption)) | simp [ew_, hj, hwj, hk])
          | fail)
    rw [hd, List.takeWhile_cons_of_pos (by simpa using hp)] at g2
    rw [hd, List.dropWhile_cons_of_pos (by simpa using hp)] at g3
    have hwi := wrap_nat hi (by simp only [maxLen]; omega)
    have htk : l.take (i + 1) = l.take i ++ [l[i]] := by simp
    have hfm : (l.take (i + 1)).flatMap NodeR.enc = (l.take i).flatMap NodeR.enc ++ l[i].enc := by rw [htk, List.flatMap_append]; simp
    try simp [hi, hwi, hp, hli]
    repeat' (first
      | ((first | refine Tst.go (fun hw_ ew_ => ?_) (fun hw_ ew_ => ?_)) <;> first | (exfalso; first | omega | with_reducible exact hw_ (by assumption) | with_reducible exact absurd hw_ (by assumption)) | (have nw_ := Nw.nw hw_; simp [ew_, nw_, hi, hwi, hp, hli]) | simp [ew_, hi, hwi, hp, hli])
      | ((first | refine AW.draw (id := 5) Try.checked.mixed (fun _ => false) [] [] 16 (by kernel_rfl) ?_ | refine AW.draw (id := 6) Try.checked.mixed (fun _ => false) [] [] 10 (by kernel_rfl) ?_ | refine AW.draw (id := 10) Try.checked.mixed (fun _ => false) [] [] 9 (by kernel_rfl) ?_ | refine AW.draw (id := 11) Try.checked.mixed (fun _ => false) [] [] 10 (by kernel_rfl) ?_ | rw [if_pos (by first | omega | (simp only [maxLen]; omega))] | rw [if_neg (by first | omega | (simp only [maxLen]; omega))] | rw [frzOwn_neat (by simp) (by simp <;> omega)] | rw [fzOwn_neat (by simp) (by simp <;> omega)]); try simp [hi, hwi, hp, hli])
      | ((first | refine TstB.go (fun hw_ ew_ => ?_) (fun hw_ ew_ => ?_)) <;> first | (exfalso; first | omega | with_reducible exact hw_ (by assumption) | with_reducible exact absurd hw_ (by assumption)) | simp [ew_, hi, hwi, hp, hli])
      | fail)
    exact hA (i + 1) _ (Wk.cutAt _ rfl (by simp [hli, hfm]) (by simp [hli, hfm]) (by simp [hli, hfm]) (by simp [hli, hfm])) ⟨hi, by rw [htk, List.append_assoc]; exact g2, g3⟩ (by omega)
  case neg =>
    have e : next = M := by omega
    try simp [FSR.enc, NodeR.enc, hw1, hg]
    repeat' (first
      | ((first | refine Tst.go (fun hw_ ew_ => ?_) (fun hw_ ew_ => ?_)) <;> first | (exfalso; first | omega | with_reducible exact hw_ (by assumption) | with_reducible exact absurd hw_ (by assumption)) | (have nw_ := Nw.nw hw_; simp [ew_, nw_, FSR.enc, NodeR.enc, hw1, hg]) | simp [ew_, FSR.enc, NodeR.enc, hw1, hg])
      | ((first | refine AW.draw (id := 5) Try.checked.mixed (fun _ => false) [] [] 16 (by kernel_rfl) ?_ | refine AW.draw (id := 6) Try.checked.mixed (fun _ => false) [] [] 10 (by kernel_rfl) ?_ | refine AW.draw (id := 10) Try.checked.mixed (fun _ => false) [] [] 9 (by kernel_rfl) ?_ | refine AW.draw (id := 11) Try.checked.mixed (fun _ => false) [] [] 10 (by kernel_rfl) ?_ | rw [if_pos (by first | omega | (simp only [maxLen]; omega))] | rw [if_neg (by first | omega | (simp only [maxLen]; omega))] | rw [frzOwn_neat (by simp) (by simp <;> omega)] | rw [fzOwn_neat (by simp) (by simp <;> omega)]); try simp [FSR.enc, NodeR.enc, hw1, hg])
      | ((first | refine TstB.go (fun hw_ ew_ => ?_) (fun hw_ ew_ => ?_)) <;> first | (exfalso; first | omega | with_reducible exact hw_ (by assumption) | with_reducible exact absurd hw_ (by assumption)) | simp [ew_, FSR.enc, NodeR.enc, hw1, hg])
      | fail)
    refine AW.loopG (lit := fun _ => false) (fun i : Nat => ⟨81, pat [(2, .ptr 0 0 0), (3, .ptr 1 0 0), (4, .ptr 2 0 0), (5, .ptr 3 0 0), (6, I i)], [.cells 0 [encL NodeR.enc l, I next], .cells 0 n.enc, .cells 0 [.sl true 0 [], I 0], .cells 0 [.own 4 i 0 i 5, I M], .cells i ((l.take i).flatMap NodeR.enc)]⟩) (fun i => l.length - i)
      (fun i => i ≤ l.length ∧ l.take i ++ (l.drop i).takeWhile (fun x => decide (x.ino < n.ino)) = l.takeWhile (fun x => decide (x.ino < n.ino)) ∧ (l.drop i).dropWhile (fun x => decide (x.ino < n.ino)) = l.dropWhile (fun x => decide (x.ino < n.ino))) 0 ?_ ?_ ?_
    · exact Wk.trans (Wk.ownNilCell 3 0 0 5 rfl rfl) (Wk.at _ rfl (by simp [e, NodeR.enc]) (by simp [e, NodeR.enc]))
    · exact ⟨by simp, by simp, by simp⟩
    rintro i ⟨g1, g2, g3⟩ A hA
    have hli : (l.take i).length = i := by simp; omega
    by_cases hi : i < l.length
    case neg =>
      rw [List.drop_eq_nil_of_le (by omega), List.takeWhile_nil, List.append_nil] at g2
      rw [← g3, ← g2]
      rw [show (l.drop i).dropWhile (fun x => decide (x.ino < n.ino)) = l.drop i by rw [List.drop_eq_nil_of_le (by omega)]; rfl]
      try simp [hi, hli, NodeR.enc]
      repeat' (first
        | ((first | refine Tst.go (fun hw_ ew_ => ?_) (fun hw_ ew_ => ?_)) <;> first | (exfalso; first | omega | with_reducible exact hw_ (by assumption) | with_reducible exact absurd hw_ (by assumption)) | (have nw_ := Nw.nw hw_; simp [ew_, nw_, hi, hli, NodeR.enc]) | simp [ew_, hi, hli, NodeR.enc])
        | ((first | refine AW.draw (id := 5) Try.checked.mixed (fun _ => false) [] [] 16 (by kernel_rfl) ?_ | refine AW.draw (id := 6) Try.checked.mixed (fun _ => false) [] [] 10 (by kernel_rfl) ?_ | refine AW.draw (id := 10) Try.checked.mixed (fun _ => false) [] [] 9 (by kernel_rfl) ?_ | refine AW.draw (id := 11) Try.checked.mixed (fun _ => false) [] [] 10 (by kernel_rfl) ?_ | rw [if_pos (by first | omega | (simp only [maxLen]; omega))] | rw [if_neg (by first | omega | (simp only [maxLen]; omega))] | rw [frzOwn_neat (by simp) (by simp <;> omega)] | rw [fzOwn_neat (by simp) (by simp <;> omega)]); try simp [hi, hli, NodeR.enc])
        | ((first | refine TstB.go (fun hw_ ew_ => ?_) (fun hw_ ew_ => ?_)) <;> first | (exfalso; first | omega | with_reducible exact hw_ (by assumption) | with_reducible exact absurd hw_ (by assumption)) | simp [ew_, hi, hli, NodeR.enc])
        | fail)
      refine AW.loopG (lit := fun _ => false) (fun x : Nat × List NodeR => ⟨81, pat [(2, .ptr 0 0 0), (3, .ptr 1 0 0), (4, .ptr 2 0 0), (5, .ptr 3 0 0), (6, I x.1)], [.cells 0 [encL NodeR.enc l, I next], .cells 0 n.enc, .cells 0 [.sl true 0 [], I 0], .cells 0 [.own 4 x.2.length 0 x.2.length 5, I M], .cells x.2.length (x.2.flatMap NodeR.enc)]⟩) (fun x => l.length - x.1)
        (fun x => x.1 ≤ l.length ∧ x.2.length ≤ x.1 + 1 ∧ x.2 ++ (l.drop x.1).filter (fun x => !decide (x.ino = n.ino)) = l.take i ++ (n :: (l.drop i).filter (fun x => !decide (x.ino = n.ino)))) (i, l.take i ++ [n]) ?_ ?_ ?_
      · exact Wk.cutAt _ rfl (by simp [hli, NodeR.enc]) (by simp [hli, NodeR.enc]) (by simp [hli, NodeR.enc]) (by simp [hli, NodeR.enc])
      · exact ⟨g1, by simp [hli], by simp⟩
      rintro ⟨j, acc⟩ ⟨k1, k2, k3⟩ A2 hA2
      simp only at k1 k2 k3 hA2
      by_cases hj : j < l.length
      case neg =>
        rw [List.drop_eq_nil_of_le (by omega), List.filter_nil, List.append_nil] at k3
        rw [← k3]
        try simp [hj, FSR.enc]
        repeat' (first
          | ((first | refine Tst.go (fun hw_ ew_ => ?_) (fun hw_ ew_ => ?_)) <;> first | (exfalso; first | omega | with_reducible exact hw_ (by assumption) | with_reducible exact absurd hw_ (by assumption)) | (have nw_ := Nw.nw hw_; simp [ew_, nw_, hj, FSR.enc]) | simp [ew_, hj, FSR.enc])
          | ((first | refine AW.draw (id := 5) Try.checked.mixed (fun _ => false) [] [] 16 (by kernel_rfl) ?_ | refine AW.draw (id := 6) Try.checked.mixed (fun _ => false) [] [] 10 (by kernel_rfl) ?_ | refine AW.draw (id := 10) Try.checked.mixed (fun _ => false) [] [] 9 (by kernel_rfl) ?_ | refine AW.draw (id := 11) Try.checked.mixed (fun _ => false) [] [] 10 (by kernel_rfl) ?_ | rw [if_pos (by first | omega | (simp only [maxLen]; omega))] | rw [if_neg (by first | omega | (simp only [maxLen]; omega))] | rw [frzOwn_neat (by simp) (by simp <;> omega)] | rw [fzOwn_neat (by simp) (by simp <;> omega)]); try simp [hj, FSR.enc])
          | ((first | refine TstB.go (fun hw_ ew_ => ?_) (fun hw_ ew_ => ?_)) <;> first | (exfalso; first | omega | with_reducible exact hw_ (by assumption) | with_reducible exact absurd hw_ (by assumption)) | simp [ew_, hj, FSR.enc])
          | fail)
      rw [List.drop_eq_getElem_cons hj, List.filter_cons] at k3
      have hwj := wrap_nat hj (by simp only [maxLen]; omega)
      by_cases hk : l[j].ino = n.ino
      · rw [if_neg (by simp [hk])] at k3
        try simp [hj, hwj, hk]
        repeat' (first
          | ((first | refine Tst.go (fun hw_ ew_ => ?_) (fun hw_ ew_ => ?_)) <;> first | (exfalso; first | omega | with_reducible exact hw_ (by assumption) | with_reducible exact absurd hw_ (by assumption)) | (have nw_ := Nw.nw hw_; simp [ew_, nw_, hj, hwj, hk]) | simp [ew_, hj, hwj, hk])
          | (exact hA2 (j + 1, acc) _ (Wk.at _ rfl (by simp) (by simp)) ⟨hj, by simp only; omega, k3⟩ (by simp only; omega))
          | ((first | refine AW.draw (id := 5) Try.checked.mixed (fun _ => false) [] [] 16 (by kernel_rfl) ?_ | refine AW.draw (id := 6) Try.checked.mixed (fun _ => false) [] [] 10 (by kernel_rfl) ?_ | refine AW.draw (id := 10) Try.checked.mixed (fun _ => false) [] [] 9 (by kernel_rfl) ?_ | refine AW.draw (id := 11) Try.checked.mixed (fun _ => false) [] [] 10 (by kernel_rfl) ?_ | rw [if_pos (by first | omega | (simp only [maxLen]; omega))] | rw [if_neg (by first | omega | (simp only [maxLen]; omega))] | rw [frzOwn_neat (by simp) (by simp <;> omega)] | rw [fzOwn_neat (by simp) (by simp <;> omega)]); try simp [hj, hwj, hk])
          | ((first | refine TstB.go (fun hw_ ew_ => ?_) (fun hw_ ew_ => ?_)) <;> first | (exfalso; first | omega | with_reducible exact hw_ (by assumption) | with_reducible exact absurd hw_ (by assumption)) | simp [ew_, hj, hwj, hk])
          | fail)
      · rw [if_pos (by simp [hk])] at k3
        have k5 : (acc ++ [l[j]]).length = acc.length + 1 := by simp
        try simp [hj, hwj, hk]
        repeat' (first
          | ((first | refine Tst.go (fun hw_ ew_ => ?_) (fun hw_ ew_ => ?_)) <;> first | (exfalso; first | omega | with_reducible exact hw_ (by assumption) | with_reducible exact absurd hw_ (by assumption)) | (have nw_ := Nw.nw hw_; simp [ew_, nw_, hj, hwj, hk]) | simp [ew_, hj, hwj, hk])
          | (exact hA2 (j + 1, acc ++ [l[j]]) _ (Wk.cutAt _ rfl (by simp) (by simp) (by simp) (by simp)) ⟨hj, by simp only [k5]; omega, by simpa using k3⟩ (by simp only; omega))
          | ((first | refine AW.draw (id := 5) Try.checked.mixed (fun _ => false) [] [] 16 (by kernel_rfl) ?_ | refine AW.draw (id := 6) Try.checked.mixed (fun _ => false) [] [] 10 (by kernel_rfl) ?_ | refine AW.draw (id := 10) Try.checked.mixed (fun _ => false) [] [] 9 (by kernel_rfl) ?_ | refine AW.draw (id := 11) Try.checked.mixed (fun _ => false) [] [] 10 (by kernel_rfl) ?_ | rw [if_pos (by first | omega | (simp only [maxLen]; omega))] | rw [if_neg (by first | omega | (simp only [maxLen]; omega))] | rw [frzOwn_neat (by simp) (by simp <;> omega)] | rw [fzOwn_neat (by simp) (by simp <;> omega)]); try simp [hj, hwj, hk])
          | ((first | refine TstB.go (fun hw_ ew_ => ?_) (fun hw_ ew_ => ?_)) <;> first | (exfalso; first | omega | with_reducible exact hw_ (by assumption) | with_reducible exact absurd hw_ (by assumption)) | simp [ew_, hj, hwj, hk])
          | fail)
    have hd := List.drop_eq_getElem_cons hi
    by_cases hp : l[i].ino < n.ino
    case neg =>
      have hd1 : (l.drop i).dropWhile (fun x => decide (x.ino < n.ino)) = l.drop i := by rw [hd, List.dropWhile_cons_of_neg (by simpa using hp)]
      rw [hd, List.takeWhile_cons_of_neg (by simpa using hp), List.append_nil] at g2
      rw [hd1] at g3
      rw [← g3, ← g2]
      try simp [hi, hp, hli, NodeR.enc]
      repeat' (first
        | ((first | refine Tst.go (fun hw_ ew_ => ?_) (fun hw_ ew_ => ?_)) <;> first | (exfalso; first | omega | with_reducible exact hw_ (by assumption) | with_reducible exact absurd hw_ (by assumption)) | (have nw_ := Nw.nw hw_; simp [ew_, nw_, hi, hp, hli, NodeR.enc]) | simp [ew_, hi, hp, hli, NodeR.enc])
        | ((first | refine AW.draw (id := 5) Try.checked.mixed (fun _ => false) [] [] 16 (by kernel_rfl) ?_ | refine AW.draw (id := 6) Try.checked.mixed (fun _ => false) [] [] 10 (by kernel_rfl) ?_ | refine AW.draw (id := 10) Try.checked.mixed (fun _ => false) [] [] 9 (by kernel_rfl) ?_ | refine AW.draw (id := 11) Try.checked.mixed (fun _ => false) [] [] 10 (by kernel_rfl) ?_ | rw [if_pos (by first | omega | (simp only [maxLen]; omega))] | rw [if_neg (by first | omega | (simp only [maxLen]; omega))] | rw [frzOwn_neat (by simp) (by simp <;> omega)] | rw [fzOwn_neat (by simp) (by simp <;> omega)]); try simp [hi, hp, hli, NodeR.enc])
        | ((first | refine TstB.go (fun hw_ ew_ => ?_) (fun hw_ ew_ => ?_)) <;> first | (exfalso; first | omega | with_reducible exact hw_ (by assumption) | with_reducible exact absurd hw_ (by assumption)) | simp [ew_, hi, hp, hli, NodeR.enc])
        | fail)
      refine AW.loopG (lit := fun _ => false) (fun x : Nat × List NodeR => ⟨81, pat [(2, .ptr 0 0 0), (3, .ptr 1 0 0), (4, .ptr 2 0 0), (5, .ptr 3 0 0), (6, I x.1)], [.cells 0 [encL NodeR.enc l, I next], .cells 0 n.enc, .cells 0 [.sl true 0 [], I 0], .cells 0 [.own 4 x.2.length 0 x.2.length 5, I M], .cells x.2.length (x.2.flatMap NodeR.enc)]⟩) (fun x => l.length - x.1)
        (fun x => x.1 ≤ l.length ∧ x.2.length ≤ x.1 + 1 ∧ x.2 ++ (l.drop x.1).filter (fun x => !decide (x.ino = n.ino)) = l.take i ++ (n :: (l.drop i).filter (fun x => !decide (x.ino = n.ino)))) (i, l.take i ++ [n]) ?_ ?_ ?_
      · exact Wk.cutAt _ rfl (by simp [hli, NodeR.enc]) (by simp [hli, NodeR.enc]) (by simp [hli, NodeR.enc]) (by simp [hli, NodeR.enc])
      · exact ⟨g1, by simp [hli], by simp⟩
      rintro ⟨j, acc⟩ ⟨k1, k2, k3⟩ A2 hA2
      simp only at k1 k2 k3 hA2
      by_cases hj : j < l.length
      case neg =>
        rw [List.drop_eq_nil_of_le (by omega), List.filter_nil, List.append_nil] at k3
        rw [← k3]
        try simp [hj, FSR.enc]
        repeat' (first
          | ((first | refine Tst.go (fun hw_ ew_ => ?_) (fun hw_ ew_ => ?_)) <;> first | (exfalso; first | omega | with_reducible exact hw_ (by assumption) | with_reducible exact absurd hw_ (by assumption)) | (have nw_ := Nw.nw hw_; simp [ew_, nw_, hj, FSR.enc]) | simp [ew_, hj, FSR.enc])
          | ((first | refine AW.draw (id := 5) Try.checked.mixed (fun _ => false) [] [] 16 (by kernel_rfl) ?_ | refine AW.draw (id := 6) Try.checked.mixed (fun _ => false) [] [] 10 (by kernel_rfl) ?_ | refine AW.draw (id := 10) Try.checked.mixed (fun _ => false) [] [] 9 (by kernel_rfl) ?_ | refine AW.draw (id := 11) Try.checked.mixed (fun _ => false) [] [] 10 (by kernel_rfl) ?_ | rw [if_pos (by first | omega | (simp only [maxLen]; omega))] | rw [if_neg (by first | omega | (simp only [maxLen]; omega))] | rw [frzOwn_neat (by simp) (by simp <;> omega)] | rw [fzOwn_neat (by simp) (by simp <;> omega)]); try simp [hj, FSR.enc])
          | ((first | refine TstB.go (fun hw_ ew_ => ?_) (fun hw_ ew_ => ?_)) <;> first | (exfalso; first | omega | with_reducible exact hw_ (by assumption) | with_reducible exact absurd hw_ (by assumption)) | simp [ew_, hj, FSR.enc])
          | fail)
      rw [List.drop_eq_getElem_cons hj, List.filter_cons] at k3
      have hwj := wrap_nat hj (by simp only [maxLen]; omega)
      by_cases hk : l[j].ino = n.ino
      · rw [if_neg (by simp [hk])] at k3
        try simp [hj, hwj, hk]
        repeat' (first
          | ((first | refine Tst.go (fun hw_ ew_ => ?_) (fun hw_ ew_ => ?_)) <;> first | (exfalso; first | omega | with_reducible exact hw_ (by assumption) | with_reducible exact absurd hw_ (by assumption)) | (have nw_ := Nw.nw hw_; simp [ew_, nw_, hj, hwj, hk]) | simp [ew_, hj, hwj, hk])
          | (exact hA2 (j + 1, acc) _ (Wk.at _ rfl (by simp) (by simp)) ⟨hj, by simp only; omega, k3⟩ (by simp only; omega))
          | ((first | refine AW.draw (id := 5) Try.checked.mixed (fun _ => false) [] [] 16 (by kernel_rfl) ?_ | refine AW.draw (id := 6) Try.checked.mixed (fun _ => false) [] [] 10 (by kernel_rfl) ?_ | refine AW.draw (id := 10) Try.checked.mixed (fun _ => false) [] [] 9 (by kernel_rfl) ?_ | refine AW.draw (id := 11) Try.checked.mixed (fun _ => false) [] [] 10 (by kernel_rfl) ?_ | rw [if_pos (by first | omega | (simp only [maxLen]; omega))] | rw [if_neg (by first | omega | (simp only [maxLen]; omega))] | rw [frzOwn_neat (by simp) (by simp <;> omega)] | rw [fzOwn_neat (by simp) (by simp <;> omega)]); try simp [hj, hwj, hk])
          | ((first | refine TstB.go (fun hw_ ew_ => ?_) (fun hw_ ew_ => ?_)) <;> first | (exfalso; first | omega | with_reducible exact hw_ (by assumption) | with_reducible exact absurd hw_ (by assumption)) | simp [ew_, hj, hwj, hk])
          | fail)
      · rw [if_pos (by simp [hk])] at k3
        have k5 : (acc ++ [l[j]]).length = acc.length + 1 := by simp
        try simp [hj, hwj, hk]
        repeat' (first
          | ((first | refine Tst.go (fun hw_ ew_ => ?_) (fun hw_ ew_ => ?_)) <;> first | (exfalso; first | omega | with_reducible exact hw_ (by assumption) | with_reducible exact absurd hw_ (by assumption)) | (have nw_ := Nw.nw hw_; simp [ew_, nw_, hj, hwj, hk]) | simp [ew_, hj, hwj, hk])
          | (exact hA2 (j + 1, acc ++ [l[j]]) _ (Wk.cutAt _ rfl (by simp) (by simp) (by simp) (by simp)) ⟨hj, by simp only [k5]; omega, by simpa using k3⟩ (by simp only; omega))
          | ((first | refine AW.draw (id := 5) Try.checked.mixed (fun _ => false) [] [] 16 (by kernel_rfl) ?_ | refine AW.draw (id := 6) Try.checked.mixed (fun _ => false) [] [] 10 (by kernel_rfl) ?_ | refine AW.draw (id := 10) Try.checked.mixed (fun _ => false) [] [] 9 (by kernel_rfl) ?_ | refine AW.draw (id := 11) Try.checked.mixed (fun _ => false) [] [] 10 (by kernel_rfl) ?_ | rw [if_pos (by first | omega | (simp only [maxLen]; omega))] | rw [if_neg (by first | omega | (simp only [maxLen]; omega))] | rw [frzOwn_neat (by simp) (by simp <;> omega)] | rw [fzOwn_neat (by simp) (by simp <;> omega)]); try simp [hj, hwj, hk])
          | ((first | refine TstB.go (fun hw_ ew_ => ?_) (fun hw_ ew_ => ?_)) <;> first | (exfalso; first | omega | with_reducible exact hw_ (by assumption) | with_reducible exact absurd hw_ (by assumption)) | simp [ew_, hj, hwj, hk])
          | fail)
    rw [hd, List.takeWhile_cons_of_pos (by simpa using hp)] at g2
    rw [hd, List.dropWhile_cons_of_pos (by simpa using hp)] at g3
    have hwi := wrap_nat hi (by simp only [maxLen]; omega)
    have htk : l.take (i + 1) = l.take i ++ [l[i]] := by simp
    have hfm : (l.take (i + 1)).flatMap NodeR.enc = (l.take i).flatMap NodeR.enc ++ l[i].enc := by rw [htk, List.flatMap_append]; simp
    try simp [hi, hwi, hp, hli]
    repeat' (first
      | ((first | refine Tst.go (fun hw_ ew_ => ?_) (fun hw_ ew_ => ?_)) <;> first | (exfalso; first | omega | with_reducible exact hw_ (by assumption) | with_reducible exact absurd hw_ (by assumption)) | (have nw_ := Nw.nw hw_; simp [ew_, nw_, hi, hwi, hp, hli]) | simp [ew_, hi, hwi, hp, hli])
      | ((first | refine AW.draw (id := 5) Try.checked.mixed (fun _ => false) [] [] 16 (by kernel_rfl) ?_ | refine AW.draw (id := 6) Try.checked.mixed (fun _ => false) [] [] 10 (by kernel_rfl) ?_ | refine AW.draw (id := 10) Try.checked.mixed (fun _ => false) [] [] 9 (by kernel_rfl) ?_ | refine AW.draw (id := 11) Try.checked.mixed (fun _ => false) [] [] 10 (by kernel_rfl) ?_ | rw [if_pos (by first | omega | (simp only [maxLen]; omega))] | rw [if_neg (by first | omega | (simp only [maxLen]; omega))] | rw [frzOwn_neat (by simp) (by simp <;> omega)] | rw [fzOwn_neat (by simp) (by simp <;> omega)]); try simp [hi, hwi, hp, hli])
      | ((first | refine TstB.go (fun hw_ ew_ => ?_) (fun hw_ ew_ => ?_)) <;> first | (exfalso; first | omega | with_reducible exact hw_ (by assumption) | with_reducible exact absurd hw_ (by assumption)) | simp [ew_, hi, hwi, hp, hli])
      | fail)
    exact hA (i + 1) _ (Wk.cutAt _ rfl (by simp [hli, hfm]) (by simp [hli, hfm]) (by simp [hli, hfm]) (by simp [hli, hfm])) ⟨hi, by rw [htk, List.append_assoc]; exact g2, g3⟩ (by omega)
end Go.Proofs.Ytjelapkglkcoiaa
