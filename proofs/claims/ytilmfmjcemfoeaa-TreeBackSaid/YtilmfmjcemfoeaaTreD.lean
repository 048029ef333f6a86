/- How many names; what is below; whether a file system is right. -/
import Derived.Test.YtilmfmjcemfoeaaTreC
import Derived.Test.YtilmfmjcemfoeaaBg
set_option linter.unusedVariables false
set_option linter.unusedSimpArgs false
namespace Go.Proofs.Ytilmfmjcemfoeaa
open Go.Cx Tab
set_option maxHeartbeats 400000
set_option maxRecDepth 40000

abbrev underH (f : FSR) (m : MI) : AHeap := [.cells 0 [encL NodeR.enc f.l, I f.next], .map (mKs m) (mVs m), .cells 0 [.mp 1], .cells 0 [.fn 37 [.ptr 0 0 0, .ptr 2 0 0, .ptr 3 0 0]]]
theorem under1_ok (f : FSR) (hl : f.l.length ≤ 1000000) (hE : ∀ n ∈ f.l, n.l.length ≤ 256) : ∀ (fuel : Nat) (ino : Int) (m : MI) (c : Nat), MOk m c → c + (unseen (allKids f.l) m + 1) * 256 ≤ 1099511627776 → unseen (allKids f.l) m < fuel →
    HCall Try.prog 37 [I ino, .ptr 0 0 0, .ptr 2 0 0, .ptr 3 0 0] (underH f m) (.tup []) (underH f (lookS (kidsF f.l) fuel ino m)) := by
  intro fuel
  induction fuel with
  | zero => intro ino m c _ _ h; omega
  | succ fuel ih =>
  intro ino m c hm hc hu
  have hfind := find_ok f ino hl
  refine HCall.mk' (fun _ => false) Try.func37 rfl rfl rfl (Ent.mk Try.func37 (by kernel_rfl) rfl) (by simp) (by simp) (by simp) (by simp) (by simp) fun hfit => ?_
  rw [lookS_succ]
  simp [Try.f37]
  generalize hes : (findB f.l ino).1 = n at *
  have hkid : kidsF f.l ino = n.l.map (·.ino) := by unfold kidsF; rw [hes]
  try simp
  repeat' (first
    | ((first | refine Tst.go (fun hw_ ew_ => ?_) (fun hw_ ew_ => ?_)) <;> first | (exfalso; first | omega | with_reducible exact hw_ (by assumption) | with_reducible exact absurd hw_ (by assumption)) | (have nw_ := Nw.nw hw_; simp [ew_, nw_]) | simp [ew_])
    | ((first | (refine Pc.go (hfind) ?_ ?_; focus (first | rfl | (simp; done))) | rw [if_pos (by first | omega | (simp only [maxLen]; omega))] | rw [if_neg (by first | omega | (simp only [maxLen]; omega))] | rw [frzOwn_neat (by simp) (by simp <;> omega)] | rw [fzOwn_neat (by simp) (by simp <;> omega)]); try simp)
    | ((first | refine TstB.go (fun hw_ ew_ => ?_) (fun hw_ ew_ => ?_)) <;> first | (exfalso; first | omega | with_reducible exact hw_ (by assumption) | with_reducible exact absurd hw_ (by assumption)) | simp [ew_])
    | fail)
  have hnl : n.l.length ≤ 256 := by
    have := kids_le hE ino
    rwa [hkid, List.length_map] at this
  refine AW.loopG (lit := fun _ => false) (fun x : Nat × MI × Nat => ⟨37, pat [(1, .ptr 0 0 0), (2, .ptr 2 0 0), (3, .ptr 3 0 0), (16, encL EntryR.enc n.l), (17, I n.l.length), (18, I x.1)], underH f x.2.1⟩) (fun x => n.l.length - x.1)
    (fun x => x.1 ≤ n.l.length ∧ x.2.1 = ((n.l.take x.1).map (·.ino)).foldl (lookStep (kidsF f.l) fuel) m ∧ MOk x.2.1 x.2.2 ∧ x.2.2 + unseen (allKids f.l) x.2.1 * 256 ≤ c + unseen (allKids f.l) m * 256 + x.1 ∧ unseen (allKids f.l) x.2.1 ≤ unseen (allKids f.l) m) (0, m, c) ?_ ?_ ?_
  · exact Wk.cutAt _ rfl (by simp) (by simp) (by simp) (by simp)
  · exact ⟨by simp, by simp, hm, by simp, Nat.le_refl _⟩
  rintro ⟨i, m', c'⟩ ⟨g1, g2, g3, g4, g5⟩ A hA
  simp only at g1 g2 g3 g4 g5 hA
  by_cases hi : i < n.l.length
  case neg =>
    have hti : n.l.take i = n.l := List.take_of_length_le (by omega)
    rw [hti, ← hkid] at g2
    subst g2
    try simp [hi, PostA_n]
    repeat' (first
      | ((first | refine Tst.go (fun hw_ ew_ => ?_) (fun hw_ ew_ => ?_)) <;> first | (exfalso; first | omega | with_reducible exact hw_ (by assumption) | with_reducible exact absurd hw_ (by assumption)) | (have nw_ := Nw.nw hw_; simp [ew_, nw_, hi, PostA_n]) | simp [ew_, hi, PostA_n])
      | ((first | rw [if_pos (by first | omega | (simp only [maxLen]; omega))] | rw [if_neg (by first | omega | (simp only [maxLen]; omega))] | rw [frzOwn_neat (by simp) (by simp <;> omega)] | rw [fzOwn_neat (by simp) (by simp <;> omega)]); try simp [hi, PostA_n])
      | ((first | refine TstB.go (fun hw_ ew_ => ?_) (fun hw_ ew_ => ?_)) <;> first | (exfalso; first | omega | with_reducible exact hw_ (by assumption) | with_reducible exact absurd hw_ (by assumption)) | simp [ew_, hi, PostA_n])
      | fail)
  have hkk : n.l[i].ino ∈ allKids f.l := kids_all f.l ino _ (by rw [hkid]; exact List.mem_map_of_mem (List.getElem_mem hi))
  have hg0 := g3.nonneg n.l[i].ino
  have hgc := g3.le n.l[i].ino
  have hw1 : IntKind.i64.wrap (getM m' n.l[i].ino + 1) = getM m' n.l[i].ino + 1 := wrap_id (by omega) (by omega)
  have hg2 : getM (setM m' n.l[i].ino (getM m' n.l[i].ino + 1)) n.l[i].ino = getM m' n.l[i].ino + 1 := by rw [getM_set, if_pos rfl]
  have hwi : IntKind.i64.wrap ((i : Int) + 1) = ((i + 1 : Nat) : Int) := by rw [IntKind.wrap_i64]; omega
  have hstep : lookStep (kidsF f.l) fuel m' n.l[i].ino = ((n.l.take (i + 1)).map (·.ino)).foldl (lookStep (kidsF f.l) fuel) m := by
    rw [List.take_succ_eq_append_getElem hi, List.map_append, List.foldl_append, ← g2]; rfl
  obtain ⟨s1, c1, o1, b1⟩ := step_ok (kids_all f.l) (kids_le hE) fuel hkk g3
  have hum := unseen_mono (U := allKids f.l) s1
  by_cases h0 : getM m' n.l[i].ino = 0
  · have hn := (g3.zero _).1 h0
    have hui := unseen_inc hkk hn
    have hrec := ih n.l[i].ino (incM m' n.l[i].ino) (c' + 1) (g3.inc _) (by omega) (by omega)
    rw [lookStep, if_pos h0] at hstep hum o1 b1
    have hinc : setM m' n.l[i].ino 1 = incM m' n.l[i].ino := by rw [incM, h0]; rfl
    have hg3 : getM (incM m' n.l[i].ino) n.l[i].ino = 1 := by rw [incM, getM_set, if_pos rfl, h0]; rfl
    try simp [hi, h0, hinc, hg3, hwi]
    repeat' (first
      | ((first | refine Tst.go (fun hw_ ew_ => ?_) (fun hw_ ew_ => ?_)) <;> first | (exfalso; first | omega | with_reducible exact hw_ (by assumption) | with_reducible exact absurd hw_ (by assumption)) | (have nw_ := Nw.nw hw_; simp [ew_, nw_, hi, h0, hinc, hg3, hwi]) | simp [ew_, hi, h0, hinc, hg3, hwi])
      | (refine AInv.heap [0, 1, 2, 3] hrec (by simp) (by simp) ?_; simp [hwi])
      | (exact hA (i + 1, _, c1) _ (Wk.cutAt _ rfl (by simp) (by simp) (by simp) (by simp)) ⟨hi, hstep, o1, by simp only; omega, by simp only; omega⟩ (by simp only; omega))
      | ((first | rw [if_pos (by first | omega | (simp only [maxLen]; omega))] | rw [if_neg (by first | omega | (simp only [maxLen]; omega))] | rw [frzOwn_neat (by simp) (by simp <;> omega)] | rw [fzOwn_neat (by simp) (by simp <;> omega)]); try simp [hi, h0, hinc, hg3, hwi])
      | ((first | refine TstB.go (fun hw_ ew_ => ?_) (fun hw_ ew_ => ?_)) <;> first | (exfalso; first | omega | with_reducible exact hw_ (by assumption) | with_reducible exact absurd hw_ (by assumption)) | simp [ew_, hi, h0, hinc, hg3, hwi])
      | fail)
  · rw [lookStep, if_neg h0] at hstep hum o1 b1
    have hg3 : getM (incM m' n.l[i].ino) n.l[i].ino = getM m' n.l[i].ino + 1 := by rw [incM, getM_set, if_pos rfl]
    obtain ⟨m2, hm2⟩ : ∃ m2, m2 = incM m' n.l[i].ino := ⟨_, rfl⟩
    have hinc : setM m' n.l[i].ino (getM m' n.l[i].ino + 1) = m2 := hm2.symm
    rw [← hm2] at hstep hum o1 b1 hg3
    try simp [hi, h0, hw1, hinc, hg3, hwi]
    repeat' (first
      | ((first | refine Tst.go (fun hw_ ew_ => ?_) (fun hw_ ew_ => ?_)) <;> first | (exfalso; first | omega | with_reducible exact hw_ (by assumption) | with_reducible exact absurd hw_ (by assumption)) | (have nw_ := Nw.nw hw_; simp [ew_, nw_, hi, h0, hw1, hinc, hg3, hwi]) | simp [ew_, hi, h0, hw1, hinc, hg3, hwi])
      | (exact hA (i + 1, _, c1) _ (Wk.cutAt _ rfl (by simp) (by simp) (by simp) (by simp)) ⟨hi, hstep, o1, by simp only; omega, by simp only; omega⟩ (by simp only; omega))
      | ((first | rw [if_pos (by first | omega | (simp only [maxLen]; omega))] | rw [if_neg (by first | omega | (simp only [maxLen]; omega))] | rw [frzOwn_neat (by simp) (by simp <;> omega)] | rw [fzOwn_neat (by simp) (by simp <;> omega)]); try simp [hi, h0, hw1, hinc, hg3, hwi])
      | ((first | refine TstB.go (fun hw_ ew_ => ?_) (fun hw_ ew_ => ?_)) <;> first | (exfalso; first | omega | with_reducible exact hw_ (by assumption) | with_reducible exact absurd hw_ (by assumption)) | simp [ew_, hi, h0, hw1, hinc, hg3, hwi])
      | fail)
theorem under_ok (f : FSR) (top : Int) (hl : f.l.length ≤ 1000000) (hE : ∀ n ∈ f.l, n.l.length ≤ 256) : PCall Try.prog 26 [encF f, I top] (.fmap (mKs (underS f.l top)) (mVs (underS f.l top))) := by
  have hak := allKids_le hE
  have hun : unseen (allKids f.l) [] ≤ (allKids f.l).length := List.length_filter_le _ _
  have h1 := under1_ok f hl hE ((allKids f.l).length + 1) top [] 0 .nil (by omega) (by omega)
  refine PCall.mk (fun _ => false) Try.func26 rfl rfl rfl (Ent.mk Try.func26 (by kernel_rfl) rfl) (by simp) (by simp) fun hfit => ?_
  simp [Try.f26, FSR.enc]
  try simp [FSR.enc]
  repeat' (first
    | ((first | refine Tst.go (fun hw_ ew_ => ?_) (fun hw_ ew_ => ?_)) <;> first | (exfalso; first | omega | with_reducible exact hw_ (by assumption) | with_reducible exact absurd hw_ (by assumption)) | (have nw_ := Nw.nw hw_; simp [ew_, nw_, FSR.enc]) | simp [ew_, FSR.enc])
    | (refine AInv.heap [0, 1, 2, 3] h1 (by simp) (by simp) ?_; simp)
    | ((first | rw [if_pos (by first | omega | (simp only [maxLen]; omega))] | rw [if_neg (by first | omega | (simp only [maxLen]; omega))] | rw [frzOwn_neat (by simp) (by simp <;> omega)] | rw [fzOwn_neat (by simp) (by simp <;> omega)]); try simp [FSR.enc])
    | ((first | refine TstB.go (fun hw_ ew_ => ?_) (fun hw_ ew_ => ?_)) <;> first | (exfalso; first | omega | with_reducible exact hw_ (by assumption) | with_reducible exact absurd hw_ (by assumption)) | simp [ew_, FSR.enc])
    | fail)
  simp [underS, Function.comp_def]
theorem below_ok (f : FSR) (ino top : Int) (hl : f.l.length ≤ 1000000) (hE : ∀ n ∈ f.l, n.l.length ≤ 256) : PCall Try.prog 12 [encF f, I ino, I top] (B (decide (0 < getM (underS f.l top) ino))) := by
  have hun := under_ok f top hl hE
  refine PCall.mk (fun _ => false) Try.func12 rfl rfl rfl (Ent.mk Try.func12 (by kernel_rfl) rfl) (by simp) (by simp) fun hfit => ?_
  simp [Try.f12, FSR.enc]
  try simp [FSR.enc]
  repeat' (first
    | ((first | refine Tst.go (fun hw_ ew_ => ?_) (fun hw_ ew_ => ?_)) <;> first | (exfalso; first | omega | with_reducible exact hw_ (by assumption) | with_reducible exact absurd hw_ (by assumption)) | (have nw_ := Nw.nw hw_; simp [ew_, nw_, FSR.enc]) | simp [ew_, FSR.enc])
    | ((first | (refine Pc.go (hun) ?_ ?_; focus (first | rfl | (simp [FSR.enc]; done))) | rw [if_pos (by first | omega | (simp only [maxLen]; omega))] | rw [if_neg (by first | omega | (simp only [maxLen]; omega))] | rw [frzOwn_neat (by simp) (by simp <;> omega)] | rw [fzOwn_neat (by simp) (by simp <;> omega)]); try simp [FSR.enc])
    | ((first | refine TstB.go (fun hw_ ew_ => ?_) (fun hw_ ew_ => ?_)) <;> first | (exfalso; first | omega | with_reducible exact hw_ (by assumption) | with_reducible exact absurd hw_ (by assumption)) | simp [ew_, FSR.enc])
    | fail)
theorem counts_ok (f : FSR) : PCall Try.prog 25 [encF f] (.fmap (mKs (countsS f.l [])) (mVs (countsS f.l []))) := by
  refine PCall.mk (fun _ => false) Try.func25 rfl rfl rfl (Ent.mk Try.func25 (by kernel_rfl) rfl) (by simp) (by simp) fun hfit => ?_
  obtain ⟨l, next⟩ := f
  simp [FSR.enc] at hfit
  simp [Try.f25, FSR.enc]
  refine AW.loopG (lit := fun _ => false) (fun x : Nat × MI => ⟨31, pat [(3, .mp 1), (10, encL NodeR.enc l), (11, I l.length), (12, I x.1)], [.cells 0 [encL NodeR.enc l, I next], .map (mKs x.2) (mVs x.2)]⟩) (fun x => l.length - x.1) (fun x => x.1 ≤ l.length ∧ countsS (l.drop x.1) x.2 = countsS l []) (0, []) ?_ ?_ ?_
  · exact Wk.at _ rfl (by simp) (by simp)
  · simp
  rintro ⟨i, m⟩ ⟨h1, h2⟩ A hA
  simp only at h1 h2
  by_cases hi : i < l.length
  case neg =>
    rw [List.drop_eq_nil_of_le (by omega)] at h2
    have h2' : countsS l [] = m := h2.symm
    try simp [hi, h2']
    repeat' (first
      | ((first | refine Tst.go (fun hw_ ew_ => ?_) (fun hw_ ew_ => ?_)) <;> first | (exfalso; first | omega | with_reducible exact hw_ (by assumption) | with_reducible exact absurd hw_ (by assumption)) | (have nw_ := Nw.nw hw_; simp [ew_, nw_, hi, h2']) | simp [ew_, hi, h2'])
      | ((first | rw [if_pos (by first | omega | (simp only [maxLen]; omega))] | rw [if_neg (by first | omega | (simp only [maxLen]; omega))] | rw [frzOwn_neat (by simp) (by simp <;> omega)] | rw [fzOwn_neat (by simp) (by simp <;> omega)]); try simp [hi, h2'])
      | ((first | refine TstB.go (fun hw_ ew_ => ?_) (fun hw_ ew_ => ?_)) <;> first | (exfalso; first | omega | with_reducible exact hw_ (by assumption) | with_reducible exact absurd hw_ (by assumption)) | simp [ew_, hi, h2'])
      | fail)
  have hw := wrap_nat hi hfit.1
  rw [List.drop_eq_getElem_cons hi] at h2
  try simp [hi]
  repeat' (first
    | ((first | refine Tst.go (fun hw_ ew_ => ?_) (fun hw_ ew_ => ?_)) <;> first | (exfalso; first | omega | with_reducible exact hw_ (by assumption) | with_reducible exact absurd hw_ (by assumption)) | (have nw_ := Nw.nw hw_; simp [ew_, nw_, hi]) | simp [ew_, hi])
    | ((first | rw [if_pos (by first | omega | (simp only [maxLen]; omega))] | rw [if_neg (by first | omega | (simp only [maxLen]; omega))] | rw [frzOwn_neat (by simp) (by simp <;> omega)] | rw [fzOwn_neat (by simp) (by simp <;> omega)]); try simp [hi])
    | ((first | refine TstB.go (fun hw_ ew_ => ?_) (fun hw_ ew_ => ?_)) <;> first | (exfalso; first | omega | with_reducible exact hw_ (by assumption) | with_reducible exact absurd hw_ (by assumption)) | simp [ew_, hi])
    | fail)
  refine AW.loopG (lit := fun _ => false) (fun x : Nat × MI => ⟨31, pat [(3, .mp 1), (10, encL NodeR.enc l), (11, I l.length), (12, I i), (17, encL EntryR.enc l[i].l), (18, I l[i].l.length), (19, I x.1)], [.cells 0 [encL NodeR.enc l, I next], .map (mKs x.2) (mVs x.2)]⟩) (fun x => l[i].l.length - x.1) (fun x => x.1 ≤ l[i].l.length ∧ countE (l[i].l.drop x.1) x.2 = countE l[i].l m) (0, m) ?_ ?_ ?_
  · exact Wk.cutAt _ rfl (by simp) (by simp) (by simp) (by simp)
  · simp
  rintro ⟨j, m'⟩ ⟨h3, h4⟩ A' hA'
  simp only at h3 h4
  by_cases hj : j < l[i].l.length
  case neg =>
    rw [List.drop_eq_nil_of_le (by omega)] at h4
    have h4' : countE l[i].l m = m' := h4.symm
    have h5 : countsS (l.drop (i + 1)) m' = countsS l [] := by rw [← h4', ← h2]; rfl
    try simp [hj, hw]
    repeat' (first
      | ((first | refine Tst.go (fun hw_ ew_ => ?_) (fun hw_ ew_ => ?_)) <;> first | (exfalso; first | omega | with_reducible exact hw_ (by assumption) | with_reducible exact absurd hw_ (by assumption)) | (have nw_ := Nw.nw hw_; simp [ew_, nw_, hj, hw]) | simp [ew_, hj, hw])
      | (exact hA (i + 1, m') _ (Wk.at _ rfl (by simp) (by simp)) ⟨hi, h5⟩ (by simp only; omega))
      | ((first | rw [if_pos (by first | omega | (simp only [maxLen]; omega))] | rw [if_neg (by first | omega | (simp only [maxLen]; omega))] | rw [frzOwn_neat (by simp) (by simp <;> omega)] | rw [fzOwn_neat (by simp) (by simp <;> omega)]); try simp [hj, hw])
      | ((first | refine TstB.go (fun hw_ ew_ => ?_) (fun hw_ ew_ => ?_)) <;> first | (exfalso; first | omega | with_reducible exact hw_ (by assumption) | with_reducible exact absurd hw_ (by assumption)) | simp [ew_, hj, hw])
      | fail)
  rw [List.drop_eq_getElem_cons hj] at h4
  have hel : l[i].l.length ≤ maxLen := by
    have := hfit.2 l[i] (List.getElem_mem hi) (encL EntryR.enc l[i].l) (by simp [NodeR.enc])
    simp at this
    exact this.1
  have hwj := wrap_nat hj hel
  obtain ⟨m2, hm2⟩ : ∃ m2, m2 = setM m' l[i].l[j].ino (IntKind.i64.wrap (getM m' l[i].l[j].ino + 1)) := ⟨_, rfl⟩
  have h4' : countE (l[i].l.drop (j + 1)) m2 = countE l[i].l m := by rw [← h4, hm2]; rfl
  have hinc := hm2.symm
  try simp [hj, hwj, hinc]
  repeat' (first
    | ((first | refine Tst.go (fun hw_ ew_ => ?_) (fun hw_ ew_ => ?_)) <;> first | (exfalso; first | omega | with_reducible exact hw_ (by assumption) | with_reducible exact absurd hw_ (by assumption)) | (have nw_ := Nw.nw hw_; simp [ew_, nw_, hj, hwj, hinc]) | simp [ew_, hj, hwj, hinc])
    | (exact hA' (j + 1, m2) _ (Wk.cutAt _ rfl (by simp) (by simp) (by simp) (by simp)) ⟨hj, h4'⟩ (by simp only; omega))
    | ((first | rw [if_pos (by first | omega | (simp only [maxLen]; omega))] | rw [if_neg (by first | omega | (simp only [maxLen]; omega))] | rw [frzOwn_neat (by simp) (by simp <;> omega)] | rw [fzOwn_neat (by simp) (by simp <;> omega)]); try simp [hj, hwj, hinc])
    | ((first | refine TstB.go (fun hw_ ew_ => ?_) (fun hw_ ew_ => ?_)) <;> first | (exfalso; first | omega | with_reducible exact hw_ (by assumption) | with_reducible exact absurd hw_ (by assumption)) | simp [ew_, hj, hwj, hinc])
    | fail)
theorem names_ok (f : FSR) (ino : Int) : PCall Try.prog 11 [encF f, I ino] (I (getM (countsS f.l []) ino)) := by
  have hc := counts_ok f
  refine PCall.mk (fun _ => false) Try.func11 rfl rfl rfl (Ent.mk Try.func11 (by kernel_rfl) rfl) (by simp) (by simp) fun hfit => ?_
  simp [Try.f11, FSR.enc]
  try simp [FSR.enc]
  repeat' (first
    | ((first | refine Tst.go (fun hw_ ew_ => ?_) (fun hw_ ew_ => ?_)) <;> first | (exfalso; first | omega | with_reducible exact hw_ (by assumption) | with_reducible exact absurd hw_ (by assumption)) | (have nw_ := Nw.nw hw_; simp [ew_, nw_, FSR.enc]) | simp [ew_, FSR.enc])
    | ((first | (refine Pc.go (hc) ?_ ?_; focus (first | rfl | (simp [FSR.enc]; done))) | rw [if_pos (by first | omega | (simp only [maxLen]; omega))] | rw [if_neg (by first | omega | (simp only [maxLen]; omega))] | rw [frzOwn_neat (by simp) (by simp <;> omega)] | rw [fzOwn_neat (by simp) (by simp <;> omega)]); try simp [FSR.enc])
    | ((first | refine TstB.go (fun hw_ ew_ => ?_) (fun hw_ ew_ => ?_)) <;> first | (exfalso; first | omega | with_reducible exact hw_ (by assumption) | with_reducible exact absurd hw_ (by assumption)) | simp [ew_, FSR.enc])
    | fail)
theorem right_ok (f : FSR) : PCall Try.prog 13 [encF f] (B (rightF f)) := by
  have hrows := rows_ok f
  have hcts := counts_ok f
  by_cases hr : rowsOk f = true
  case neg =>
    have hr' : rowsOk f = false := by simpa using hr
    rw [hr'] at hrows
    refine PCall.mk (fun _ => false) Try.func13 rfl rfl rfl (Ent.mk Try.func13 (by kernel_rfl) rfl) (by simp) (by simp) fun hfit => ?_
    simp [Try.f13, FSR.enc, rightF, hr']
    try simp [FSR.enc]
    repeat' (first
      | ((first | refine Tst.go (fun hw_ ew_ => ?_) (fun hw_ ew_ => ?_)) <;> first | (exfalso; first | omega | with_reducible exact hw_ (by assumption) | with_reducible exact absurd hw_ (by assumption)) | (have nw_ := Nw.nw hw_; simp [ew_, nw_, FSR.enc]) | simp [ew_, FSR.enc])
      | ((first | (refine Pc.go (hrows) ?_ ?_; focus (first | rfl | (simp [FSR.enc]; done))) | refine AW.draw (id := 3) Try.checked.mixed (fun _ => false) [] [] 6 (by kernel_rfl) ?_ | rw [if_pos (by first | omega | (simp only [maxLen]; omega))] | rw [if_neg (by first | omega | (simp only [maxLen]; omega))] | rw [frzOwn_neat (by simp) (by simp <;> omega)] | rw [fzOwn_neat (by simp) (by simp <;> omega)]); try simp [FSR.enc])
      | ((first | refine TstB.go (fun hw_ ew_ => ?_) (fun hw_ ew_ => ?_)) <;> first | (exfalso; first | omega | with_reducible exact hw_ (by assumption) | with_reducible exact absurd hw_ (by assumption)) | simp [ew_, FSR.enc])
      | fail)
  obtain ⟨hl, hE, _⟩ := rowsOk_le hr
  have hun := under_ok f 1 (by omega) hE
  rw [hr] at hrows
  generalize hcc : countsS f.l [] = C at *
  generalize huu : underS f.l 1 = U at *
  have hri : rightF f = (headF f.l && C.all (fun p => (findB f.l p.1).2) && f.l.all (nodeS C U)) := by
    simp only [rightF, hr, hcc, huu, Bool.true_and]
  rw [hri]
  clear hri
  obtain ⟨l, next⟩ := f
  simp only at *
  cases l with
  | nil =>
    refine PCall.mk (fun _ => false) Try.func13 rfl rfl rfl (Ent.mk Try.func13 (by kernel_rfl) rfl) (by simp) (by simp) fun hfit => ?_
    simp [Try.f13, FSR.enc]
    try simp [FSR.enc]
    repeat' (first
      | ((first | refine Tst.go (fun hw_ ew_ => ?_) (fun hw_ ew_ => ?_)) <;> first | (exfalso; first | omega | with_reducible exact hw_ (by assumption) | with_reducible exact absurd hw_ (by assumption)) | (have nw_ := Nw.nw hw_; simp [ew_, nw_, FSR.enc]) | simp [ew_, FSR.enc])
      | ((first | (refine Pc.go (hrows) ?_ ?_; focus (first | rfl | (simp [FSR.enc]; done))) | refine AW.draw (id := 3) Try.checked.mixed (fun _ => false) [] [] 6 (by kernel_rfl) ?_ | rw [if_pos (by first | omega | (simp only [maxLen]; omega))] | rw [if_neg (by first | omega | (simp only [maxLen]; omega))] | rw [frzOwn_neat (by simp) (by simp <;> omega)] | rw [fzOwn_neat (by simp) (by simp <;> omega)]); try simp [FSR.enc])
      | ((first | refine TstB.go (fun hw_ ew_ => ?_) (fun hw_ ew_ => ?_)) <;> first | (exfalso; first | omega | with_reducible exact hw_ (by assumption) | with_reducible exact absurd hw_ (by assumption)) | simp [ew_, FSR.enc])
      | fail)
  | cons r l =>
  by_cases h1 : r.ino = 1
  case neg =>
    refine PCall.mk (fun _ => false) Try.func13 rfl rfl rfl (Ent.mk Try.func13 (by kernel_rfl) rfl) (by simp) (by simp) fun hfit => ?_
    simp [Try.f13, FSR.enc, h1]
    try simp [FSR.enc, h1, NodeR.enc]
    repeat' (first
      | ((first | refine Tst.go (fun hw_ ew_ => ?_) (fun hw_ ew_ => ?_)) <;> first | (exfalso; first | omega | with_reducible exact hw_ (by assumption) | with_reducible exact absurd hw_ (by assumption)) | (have nw_ := Nw.nw hw_; simp [ew_, nw_, FSR.enc, h1, NodeR.enc]) | simp [ew_, FSR.enc, h1, NodeR.enc])
      | ((first | (refine Pc.go (hrows) ?_ ?_; focus (first | rfl | (simp [FSR.enc, h1, NodeR.enc]; done))) | refine AW.draw (id := 3) Try.checked.mixed (fun _ => false) [] [] 6 (by kernel_rfl) ?_ | rw [if_pos (by first | omega | (simp only [maxLen]; omega))] | rw [if_neg (by first | omega | (simp only [maxLen]; omega))] | rw [frzOwn_neat (by simp) (by simp <;> omega)] | rw [fzOwn_neat (by simp) (by simp <;> omega)]); try simp [FSR.enc, h1, NodeR.enc])
      | ((first | refine TstB.go (fun hw_ ew_ => ?_) (fun hw_ ew_ => ?_)) <;> first | (exfalso; first | omega | with_reducible exact hw_ (by assumption) | with_reducible exact absurd hw_ (by assumption)) | simp [ew_, FSR.enc, h1, NodeR.enc])
      | fail)
  by_cases h2 : r.kind = 2
  case neg =>
    refine PCall.mk (fun _ => false) Try.func13 rfl rfl rfl (Ent.mk Try.func13 (by kernel_rfl) rfl) (by simp) (by simp) fun hfit => ?_
    simp [Try.f13, FSR.enc, h1, h2]
    try simp [FSR.enc, h1, h2, NodeR.enc]
    repeat' (first
      | ((first | refine Tst.go (fun hw_ ew_ => ?_) (fun hw_ ew_ => ?_)) <;> first | (exfalso; first | omega | with_reducible exact hw_ (by assumption) | with_reducible exact absurd hw_ (by assumption)) | (have nw_ := Nw.nw hw_; simp [ew_, nw_, FSR.enc, h1, h2, NodeR.enc]) | simp [ew_, FSR.enc, h1, h2, NodeR.enc])
      | ((first | (refine Pc.go (hrows) ?_ ?_; focus (first | rfl | (simp [FSR.enc, h1, h2, NodeR.enc]; done))) | refine AW.draw (id := 3) Try.checked.mixed (fun _ => false) [] [] 6 (by kernel_rfl) ?_ | rw [if_pos (by first | omega | (simp only [maxLen]; omega))] | rw [if_neg (by first | omega | (simp only [maxLen]; omega))] | rw [frzOwn_neat (by simp) (by simp <;> omega)] | rw [fzOwn_neat (by simp) (by simp <;> omega)]); try simp [FSR.enc, h1, h2, NodeR.enc])
      | ((first | refine TstB.go (fun hw_ ew_ => ?_) (fun hw_ ew_ => ?_)) <;> first | (exfalso; first | omega | with_reducible exact hw_ (by assumption) | with_reducible exact absurd hw_ (by assumption)) | simp [ew_, FSR.enc, h1, h2, NodeR.enc])
      | fail)
  by_cases h3 : r.links = 0
  case neg =>
    refine PCall.mk (fun _ => false) Try.func13 rfl rfl rfl (Ent.mk Try.func13 (by kernel_rfl) rfl) (by simp) (by simp) fun hfit => ?_
    simp [Try.f13, FSR.enc, h1, h2, h3]
    try simp [FSR.enc, h1, h2, h3, NodeR.enc]
    repeat' (first
      | ((first | refine Tst.go (fun hw_ ew_ => ?_) (fun hw_ ew_ => ?_)) <;> first | (exfalso; first | omega | with_reducible exact hw_ (by assumption) | with_reducible exact absurd hw_ (by assumption)) | (have nw_ := Nw.nw hw_; simp [ew_, nw_, FSR.enc, h1, h2, h3, NodeR.enc]) | simp [ew_, FSR.enc, h1, h2, h3, NodeR.enc])
      | ((first | (refine Pc.go (hrows) ?_ ?_; focus (first | rfl | (simp [FSR.enc, h1, h2, h3, NodeR.enc]; done))) | refine AW.draw (id := 3) Try.checked.mixed (fun _ => false) [] [] 6 (by kernel_rfl) ?_ | rw [if_pos (by first | omega | (simp only [maxLen]; omega))] | rw [if_neg (by first | omega | (simp only [maxLen]; omega))] | rw [frzOwn_neat (by simp) (by simp <;> omega)] | rw [fzOwn_neat (by simp) (by simp <;> omega)]); try simp [FSR.enc, h1, h2, h3, NodeR.enc])
      | ((first | refine TstB.go (fun hw_ ew_ => ?_) (fun hw_ ew_ => ?_)) <;> first | (exfalso; first | omega | with_reducible exact hw_ (by assumption) | with_reducible exact absurd hw_ (by assumption)) | simp [ew_, FSR.enc, h1, h2, h3, NodeR.enc])
      | fail)
  have hf0 := fun k => find_ok ⟨r :: l, next⟩ k (by simp only; omega)
  obtain ⟨NN, hNN⟩ : ∃ NN, NN = (r :: l).all (nodeS C U) := ⟨_, rfl⟩
  rw [← hNN]
  have hee : List.flatMap NodeR.enc (r :: l) = r.enc ++ l.flatMap NodeR.enc := rfl
  refine PCall.mk (fun _ => false) Try.func13 rfl rfl rfl (Ent.mk Try.func13 (by kernel_rfl) rfl) (by simp) (by simp) fun hfit => ?_
  simp [Try.f13, FSR.enc, h1, h2, h3]
  have hm73 : isMap Try.prog 59 = true := by kernel_rfl
  try simp [FSR.enc, h1, h2, h3, NodeR.enc, hm73]
  repeat' (first
    | ((first | refine Tst.go (fun hw_ ew_ => ?_) (fun hw_ ew_ => ?_)) <;> first | (exfalso; first | omega | with_reducible exact hw_ (by assumption) | with_reducible exact absurd hw_ (by assumption)) | (have nw_ := Nw.nw hw_; simp [ew_, nw_, FSR.enc, h1, h2, h3, NodeR.enc, hm73]) | simp [ew_, FSR.enc, h1, h2, h3, NodeR.enc, hm73])
    | ((first | (refine Pc.go (hrows) ?_ ?_; focus (first | rfl | (simp [FSR.enc, h1, h2, h3, NodeR.enc, hm73]; done))) | (refine Pc.go (hcts) ?_ ?_; focus (first | rfl | (simp [FSR.enc, h1, h2, h3, NodeR.enc, hm73]; done))) | (refine Pc.go (hun) ?_ ?_; focus (first | rfl | (simp [FSR.enc, h1, h2, h3, NodeR.enc, hm73]; done))) | refine AW.draw (id := 3) Try.checked.mixed (fun _ => false) [] [] 6 (by kernel_rfl) ?_ | rw [if_pos (by first | omega | (simp only [maxLen]; omega))] | rw [if_neg (by first | omega | (simp only [maxLen]; omega))] | rw [frzOwn_neat (by simp) (by simp <;> omega)] | rw [fzOwn_neat (by simp) (by simp <;> omega)]); try simp [FSR.enc, h1, h2, h3, NodeR.enc, hm73])
    | ((first | refine TstB.go (fun hw_ ew_ => ?_) (fun hw_ ew_ => ?_)) <;> first | (exfalso; first | omega | with_reducible exact hw_ (by assumption) | with_reducible exact absurd hw_ (by assumption)) | simp [ew_, FSR.enc, h1, h2, h3, NodeR.enc, hm73])
    | fail)
  refine AW.loopG (lit := fun _ => false) (fun x : List Nat × Option Nat => ⟨103, pat [(1, .ptr 0 0 0), (3, .fmap (mKs C) (mVs C)), (4, .fmap (mKs U) (mVs U)), (48, .ptr 1 0 0)], [.cells 0 [encL NodeR.enc (r :: l), I next], .iter (mKs C) (mVs C) x.1 x.2]⟩) (fun x => x.1.length) (fun x => x.1.Nodup ∧ ∀ i p, C[i]? = some p → i ∉ x.1 → (findB (r :: l) p.1).2 = true) (List.range C.length, none) ?_ ?_ ?_
  · exact Wk.at _ rfl (by simp) (by simp)
  · refine ⟨List.nodup_range, fun i p hp hn => ?_⟩
    have := (List.getElem?_eq_some_iff.1 hp).1
    simp [List.mem_range] at hn
    omega
  rintro ⟨todo, cur⟩ ⟨hnd, hfound⟩ A hA
  simp only at hnd hfound hA
  simp
  refine ⟨fun htodo => ?_, ?_⟩
  · subst htodo
    have hall : C.all (fun p => (findB (r :: l) p.1).2) = true := List.all_eq_true.2 fun p hp => by
      obtain ⟨i, hi, e⟩ := List.getElem_of_mem hp
      exact hfound i p (by rw [List.getElem?_eq_getElem hi, e]) (by simp)
    simp only [hall, Bool.and_true]
    refine AW.loopG (lit := fun _ => false) (fun i : Nat => ⟨103, pat [(1, .ptr 0 0 0), (3, .fmap (mKs C) (mVs C)), (4, .fmap (mKs U) (mVs U)), (62, encL NodeR.enc (r :: l)), (63, I (r :: l).length), (64, I i)], [.cells 0 [encL NodeR.enc (r :: l), I next]]⟩) (fun i => (r :: l).length - i) (fun i => i ≤ (r :: l).length ∧ ((r :: l).drop i).all (nodeS C U) = NN) 0 ?_ ?_ ?_
    · exact Wk.cutAt _ rfl (by simp) (by simp) (by simp) (by simp)
    · simp [hNN]
    generalize hL : r :: l = L at *
    rintro i ⟨g1, g2⟩ K hK
    by_cases hi : i < L.length
    case neg =>
      rw [List.drop_eq_nil_of_le (by omega)] at g2
      have g2' : NN = true := g2.symm
      try simp [hi, g2', h1, h2, h3]
      repeat' (first
        | ((first | refine Tst.go (fun hw_ ew_ => ?_) (fun hw_ ew_ => ?_)) <;> first | (exfalso; first | omega | with_reducible exact hw_ (by assumption) | with_reducible exact absurd hw_ (by assumption)) | (have nw_ := Nw.nw hw_; simp [ew_, nw_, hi, g2', h1, h2, h3]) | simp [ew_, hi, g2', h1, h2, h3])
        | ((first | refine AW.draw (id := 3) Try.checked.mixed (fun _ => false) [] [] 6 (by kernel_rfl) ?_ | rw [if_pos (by first | omega | (simp only [maxLen]; omega))] | rw [if_neg (by first | omega | (simp only [maxLen]; omega))] | rw [frzOwn_neat (by simp) (by simp <;> omega)] | rw [fzOwn_neat (by simp) (by simp <;> omega)]); try simp [hi, g2', h1, h2, h3])
        | ((first | refine TstB.go (fun hw_ ew_ => ?_) (fun hw_ ew_ => ?_)) <;> first | (exfalso; first | omega | with_reducible exact hw_ (by assumption) | with_reducible exact absurd hw_ (by assumption)) | simp [ew_, hi, g2', h1, h2, h3])
        | fail)
    rw [List.drop_eq_getElem_cons hi, List.all_cons] at g2
    have hw := wrap_nat hi (by simp only [maxLen]; omega)
    by_cases c1 : L[i].links = getM C L[i].ino
    case neg =>
      have g3 : NN = false := by rw [← g2]; simp [nodeS, c1]
      try simp [hi, hw, c1, g3]
      repeat' (first
        | ((first | refine Tst.go (fun hw_ ew_ => ?_) (fun hw_ ew_ => ?_)) <;> first | (exfalso; first | omega | with_reducible exact hw_ (by assumption) | with_reducible exact absurd hw_ (by assumption)) | (have nw_ := Nw.nw hw_; simp [ew_, nw_, hi, hw, c1, g3]) | simp [ew_, hi, hw, c1, g3])
        | ((first | refine AW.draw (id := 3) Try.checked.mixed (fun _ => false) [] [] 6 (by kernel_rfl) ?_ | rw [if_pos (by first | omega | (simp only [maxLen]; omega))] | rw [if_neg (by first | omega | (simp only [maxLen]; omega))] | rw [frzOwn_neat (by simp) (by simp <;> omega)] | rw [fzOwn_neat (by simp) (by simp <;> omega)]); try simp [hi, hw, c1, g3])
        | ((first | refine TstB.go (fun hw_ ew_ => ?_) (fun hw_ ew_ => ?_)) <;> first | (exfalso; first | omega | with_reducible exact hw_ (by assumption) | with_reducible exact absurd hw_ (by assumption)) | simp [ew_, hi, hw, c1, g3])
        | fail)
    have c1' := c1.symm
    by_cases c2 : 1 < L[i].ino
    case neg =>
      have g3 : (L.drop (i + 1)).all (nodeS C U) = NN := by rw [← g2]; simp [nodeS, c1', c2]
      try simp [hi, hw, c1', c2]
      repeat' (first
        | ((first | refine Tst.go (fun hw_ ew_ => ?_) (fun hw_ ew_ => ?_)) <;> first | (exfalso; first | omega | with_reducible exact hw_ (by assumption) | with_reducible exact absurd hw_ (by assumption)) | (have nw_ := Nw.nw hw_; simp [ew_, nw_, hi, hw, c1', c2]) | simp [ew_, hi, hw, c1', c2])
        | (exact hK (i + 1) _ (Wk.cutAt _ rfl (by simp) (by simp) (by simp) (by simp)) ⟨hi, g3⟩ (by omega))
        | ((first | refine AW.draw (id := 3) Try.checked.mixed (fun _ => false) [] [] 6 (by kernel_rfl) ?_ | rw [if_pos (by first | omega | (simp only [maxLen]; omega))] | rw [if_neg (by first | omega | (simp only [maxLen]; omega))] | rw [frzOwn_neat (by simp) (by simp <;> omega)] | rw [fzOwn_neat (by simp) (by simp <;> omega)]); try simp [hi, hw, c1', c2])
        | ((first | refine TstB.go (fun hw_ ew_ => ?_) (fun hw_ ew_ => ?_)) <;> first | (exfalso; first | omega | with_reducible exact hw_ (by assumption) | with_reducible exact absurd hw_ (by assumption)) | simp [ew_, hi, hw, c1', c2])
        | fail)
    by_cases c3 : L[i].links < 1
    · have g3 : NN = false := by rw [← g2]; simp [nodeS, c1', c2, c3]
      try simp [hi, hw, c1', c2, c3, g3]
      repeat' (first
        | ((first | refine Tst.go (fun hw_ ew_ => ?_) (fun hw_ ew_ => ?_)) <;> first | (exfalso; first | omega | with_reducible exact hw_ (by assumption) | with_reducible exact absurd hw_ (by assumption)) | (have nw_ := Nw.nw hw_; simp [ew_, nw_, hi, hw, c1', c2, c3, g3]) | simp [ew_, hi, hw, c1', c2, c3, g3])
        | ((first | refine AW.draw (id := 3) Try.checked.mixed (fun _ => false) [] [] 6 (by kernel_rfl) ?_ | rw [if_pos (by first | omega | (simp only [maxLen]; omega))] | rw [if_neg (by first | omega | (simp only [maxLen]; omega))] | rw [frzOwn_neat (by simp) (by simp <;> omega)] | rw [fzOwn_neat (by simp) (by simp <;> omega)]); try simp [hi, hw, c1', c2, c3, g3])
        | ((first | refine TstB.go (fun hw_ ew_ => ?_) (fun hw_ ew_ => ?_)) <;> first | (exfalso; first | omega | with_reducible exact hw_ (by assumption) | with_reducible exact absurd hw_ (by assumption)) | simp [ew_, hi, hw, c1', c2, c3, g3])
        | fail)
    by_cases c4 : L[i].kind = 2
    case neg =>
      have g3 : (L.drop (i + 1)).all (nodeS C U) = NN := by rw [← g2]; simp [nodeS, c1', c2, c3, c4]
      try simp [hi, hw, c1', c2, c3, c4]
      repeat' (first
        | ((first | refine Tst.go (fun hw_ ew_ => ?_) (fun hw_ ew_ => ?_)) <;> first | (exfalso; first | omega | with_reducible exact hw_ (by assumption) | with_reducible exact absurd hw_ (by assumption)) | (have nw_ := Nw.nw hw_; simp [ew_, nw_, hi, hw, c1', c2, c3, c4]) | simp [ew_, hi, hw, c1', c2, c3, c4])
        | (exact hK (i + 1) _ (Wk.cutAt _ rfl (by simp) (by simp) (by simp) (by simp)) ⟨hi, g3⟩ (by omega))
        | ((first | refine AW.draw (id := 3) Try.checked.mixed (fun _ => false) [] [] 6 (by kernel_rfl) ?_ | rw [if_pos (by first | omega | (simp only [maxLen]; omega))] | rw [if_neg (by first | omega | (simp only [maxLen]; omega))] | rw [frzOwn_neat (by simp) (by simp <;> omega)] | rw [fzOwn_neat (by simp) (by simp <;> omega)]); try simp [hi, hw, c1', c2, c3, c4])
        | ((first | refine TstB.go (fun hw_ ew_ => ?_) (fun hw_ ew_ => ?_)) <;> first | (exfalso; first | omega | with_reducible exact hw_ (by assumption) | with_reducible exact absurd hw_ (by assumption)) | simp [ew_, hi, hw, c1', c2, c3, c4])
        | fail)
    by_cases c5 : L[i].links = 1
    case neg =>
      have g3 : NN = false := by rw [← g2]; simp [nodeS, c1', c2, c4, c5]
      try simp [hi, hw, c1', c2, c3, c4, c5, g3]
      repeat' (first
        | ((first | refine Tst.go (fun hw_ ew_ => ?_) (fun hw_ ew_ => ?_)) <;> first | (exfalso; first | omega | with_reducible exact hw_ (by assumption) | with_reducible exact absurd hw_ (by assumption)) | (have nw_ := Nw.nw hw_; simp [ew_, nw_, hi, hw, c1', c2, c3, c4, c5, g3]) | simp [ew_, hi, hw, c1', c2, c3, c4, c5, g3])
        | ((first | refine AW.draw (id := 3) Try.checked.mixed (fun _ => false) [] [] 6 (by kernel_rfl) ?_ | rw [if_pos (by first | omega | (simp only [maxLen]; omega))] | rw [if_neg (by first | omega | (simp only [maxLen]; omega))] | rw [frzOwn_neat (by simp) (by simp <;> omega)] | rw [fzOwn_neat (by simp) (by simp <;> omega)]); try simp [hi, hw, c1', c2, c3, c4, c5, g3])
        | ((first | refine TstB.go (fun hw_ ew_ => ?_) (fun hw_ ew_ => ?_)) <;> first | (exfalso; first | omega | with_reducible exact hw_ (by assumption) | with_reducible exact absurd hw_ (by assumption)) | simp [ew_, hi, hw, c1', c2, c3, c4, c5, g3])
        | fail)
    by_cases c6 : getM U L[i].ino = 0
    · have g3 : NN = false := by rw [← g2]; simp [nodeS, c1', c2, c4, c6]
      try simp [hi, hw, c1', c2, c3, c4, c5, c6, g3]
      repeat' (first
        | ((first | refine Tst.go (fun hw_ ew_ => ?_) (fun hw_ ew_ => ?_)) <;> first | (exfalso; first | omega | with_reducible exact hw_ (by assumption) | with_reducible exact absurd hw_ (by assumption)) | (have nw_ := Nw.nw hw_; simp [ew_, nw_, hi, hw, c1', c2, c3, c4, c5, c6, g3]) | simp [ew_, hi, hw, c1', c2, c3, c4, c5, c6, g3])
        | ((first | refine AW.draw (id := 3) Try.checked.mixed (fun _ => false) [] [] 6 (by kernel_rfl) ?_ | rw [if_pos (by first | omega | (simp only [maxLen]; omega))] | rw [if_neg (by first | omega | (simp only [maxLen]; omega))] | rw [frzOwn_neat (by simp) (by simp <;> omega)] | rw [fzOwn_neat (by simp) (by simp <;> omega)]); try simp [hi, hw, c1', c2, c3, c4, c5, c6, g3])
        | ((first | refine TstB.go (fun hw_ ew_ => ?_) (fun hw_ ew_ => ?_)) <;> first | (exfalso; first | omega | with_reducible exact hw_ (by assumption) | with_reducible exact absurd hw_ (by assumption)) | simp [ew_, hi, hw, c1', c2, c3, c4, c5, c6, g3])
        | fail)
    · have g3 : (L.drop (i + 1)).all (nodeS C U) = NN := by rw [← g2]; simp [nodeS, c1', c2, c3, c4, c5, c6]
      try simp [hi, hw, c1', c2, c3, c4, c5, c6]
      repeat' (first
        | ((first | refine Tst.go (fun hw_ ew_ => ?_) (fun hw_ ew_ => ?_)) <;> first | (exfalso; first | omega | with_reducible exact hw_ (by assumption) | with_reducible exact absurd hw_ (by assumption)) | (have nw_ := Nw.nw hw_; simp [ew_, nw_, hi, hw, c1', c2, c3, c4, c5, c6]) | simp [ew_, hi, hw, c1', c2, c3, c4, c5, c6])
        | (exact hK (i + 1) _ (Wk.cutAt _ rfl (by simp) (by simp) (by simp) (by simp)) ⟨hi, g3⟩ (by omega))
        | ((first | refine AW.draw (id := 3) Try.checked.mixed (fun _ => false) [] [] 6 (by kernel_rfl) ?_ | rw [if_pos (by first | omega | (simp only [maxLen]; omega))] | rw [if_neg (by first | omega | (simp only [maxLen]; omega))] | rw [frzOwn_neat (by simp) (by simp <;> omega)] | rw [fzOwn_neat (by simp) (by simp <;> omega)]); try simp [hi, hw, c1', c2, c3, c4, c5, c6])
        | ((first | refine TstB.go (fun hw_ ew_ => ?_) (fun hw_ ew_ => ?_)) <;> first | (exfalso; first | omega | with_reducible exact hw_ (by assumption) | with_reducible exact absurd hw_ (by assumption)) | simp [ew_, hi, hw, c1', c2, c3, c4, c5, c6])
        | fail)
  · intro i k v hi a b hc hk a' b' hc' hv
    subst hk hv
    have hfa := hf0 a
    have hn : (todo.erase i).Nodup := hnd.erase _
    have hlen : (todo.erase i).length < todo.length := by
      have := List.length_pos_of_mem hi
      rw [List.length_erase_of_mem hi]; omega
    cases hfb : (findB (r :: l) a).2 with
    | false =>
      have hall : C.all (fun p => (findB (r :: l) p.1).2) = false := by
        rw [Bool.eq_false_iff]
        intro h
        have := List.all_eq_true.1 h (a, b) (List.mem_of_getElem? hc)
        rw [hfb] at this
        cases this
      simp only at hfa
      rw [hfb] at hfa
      simp [hc]
      try simp [FSR.enc, hall]
      repeat' (first
        | ((first | refine Tst.go (fun hw_ ew_ => ?_) (fun hw_ ew_ => ?_)) <;> first | (exfalso; first | omega | with_reducible exact hw_ (by assumption) | with_reducible exact absurd hw_ (by assumption)) | (have nw_ := Nw.nw hw_; simp [ew_, nw_, FSR.enc, hall]) | simp [ew_, FSR.enc, hall])
        | ((first | (refine Pc.go (hfa) ?_ ?_; focus (first | rfl | (simp [FSR.enc, hall]; done))) | refine AW.draw (id := 3) Try.checked.mixed (fun _ => false) [] [] 6 (by kernel_rfl) ?_ | rw [if_pos (by first | omega | (simp only [maxLen]; omega))] | rw [if_neg (by first | omega | (simp only [maxLen]; omega))] | rw [frzOwn_neat (by simp) (by simp <;> omega)] | rw [fzOwn_neat (by simp) (by simp <;> omega)]); try simp [FSR.enc, hall])
        | ((first | refine TstB.go (fun hw_ ew_ => ?_) (fun hw_ ew_ => ?_)) <;> first | (exfalso; first | omega | with_reducible exact hw_ (by assumption) | with_reducible exact absurd hw_ (by assumption)) | simp [ew_, FSR.enc, hall])
        | fail)
    | true =>
      have hfound' : ∀ j p, C[j]? = some p → j ∉ todo.erase i → (findB (r :: l) p.1).2 = true := fun j p hp hn => by
        by_cases hji : j = i
        · subst hji; rw [hc] at hp; injection hp with hp; subst hp; exact hfb
        · exact hfound j p hp fun hj => hn ((List.mem_erase_of_ne hji).2 hj)
      simp only at hfa
      rw [hfb] at hfa
      simp [hc]
      try simp [FSR.enc]
      repeat' (first
        | ((first | refine Tst.go (fun hw_ ew_ => ?_) (fun hw_ ew_ => ?_)) <;> first | (exfalso; first | omega | with_reducible exact hw_ (by assumption) | with_reducible exact absurd hw_ (by assumption)) | (have nw_ := Nw.nw hw_; simp [ew_, nw_, FSR.enc]) | simp [ew_, FSR.enc])
        | (exact hA (todo.erase i, some i) _ (Wk.cutAt _ rfl (by simp) (by simp) (by simp) (by simp)) ⟨hn, hfound'⟩ hlen)
        | ((first | (refine Pc.go (hfa) ?_ ?_; focus (first | rfl | (simp [FSR.enc]; done))) | refine AW.draw (id := 3) Try.checked.mixed (fun _ => false) [] [] 6 (by kernel_rfl) ?_ | rw [if_pos (by first | omega | (simp only [maxLen]; omega))] | rw [if_neg (by first | omega | (simp only [maxLen]; omega))] | rw [frzOwn_neat (by simp) (by simp <;> omega)] | rw [fzOwn_neat (by simp) (by simp <;> omega)]); try simp [FSR.enc])
        | ((first | refine TstB.go (fun hw_ ew_ => ?_) (fun hw_ ew_ => ?_)) <;> first | (exfalso; first | omega | with_reducible exact hw_ (by assumption) | with_reducible exact absurd hw_ (by assumption)) | simp [ew_, FSR.enc])
        | fail)
end Go.Proofs.Ytilmfmjcemfoeaa
