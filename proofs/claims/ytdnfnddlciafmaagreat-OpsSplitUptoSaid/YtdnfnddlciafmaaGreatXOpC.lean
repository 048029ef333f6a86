import Derived.Test.YtdnfnddlciafmaaGreatXOpB
import Derived.Test.YtdnfnddlciafmaaGreatXBg
import Derived.Test.YtdnfnddlciafmaaGreatXBg
import Derived.Test.YtdnfnddlciafmaaGreatXBe
set_option linter.unusedVariables false
set_option linter.unusedSimpArgs false
namespace Go.Proofs.YtdnfnddlciafmaaGreat
open Go.Cx Tab
set_option maxHeartbeats 400000
set_option maxRecDepth 40000
abbrev underH (f : FSR) (m : MI) : AHeap := [.cells 0 [encL NodeR.enc f.l, I f.next], .map (mKs m) (mVs m), .cells 0 [.mp 1], .cells 0 [.fn 218 [.ptr 0 0 0, .ptr 2 0 0, .ptr 3 0 0]]]
theorem under1_ok (f : FSR) (hl : f.l.length ≤ 1000000) (hE : ∀ n ∈ f.l, n.l.length ≤ 256) : ∀ (fuel : Nat) (ino : Int) (m : MI) (c : Nat), MOk m c → c + (unseen (allKids f.l) m + 1) * 256 ≤ 1099511627776 → unseen (allKids f.l) m < fuel →
    HCall Tryz.prog 218 [I ino, .ptr 0 0 0, .ptr 2 0 0, .ptr 3 0 0] (underH f m) (.tup []) (underH f (lookS (kidsF f.l) fuel ino m)) := by
  intro fuel
  induction fuel with
  | zero => intro ino m c _ _ h; omega
  | succ fuel ih =>
  intro ino m c hm hc hu
  have hfind := find_ok f ino hl
  refine HCall.mk' (fun _ => false) Tryz.func218 rfl rfl rfl (Ent.mk Tryz.func218 (by kernel_rfl) rfl) (by simp) (by simp) (by simp) (by simp) (by simp) fun hfit => ?_
  rw [lookS_succ]
  simp [Tryz.f218]
  generalize hes : (findB f.l ino).1 = n at *
  have hkid : kidsF f.l ino = n.l.map (·.ino) := by unfold kidsF; rw [hes]
  try simp
  repeat' ((first | ((first | refine Tp ?_ | refine Tn ?_ | refine T2 ?_ ?_) <;> intro hw_ ew_ nw_) | refine Pg hfind ?_ | rw [Ip] | rw [In] | rw [Fz] | rw [Gz] | fail) <;> first | simp [ew_, nw_] | simp | skip)
  have hnl : n.l.length ≤ 256 := by
    have := kids_le hE ino
    rwa [hkid, List.length_map] at this
  refine AW.loopG (lit := fun _ => false) (fun x : Nat × MI × Nat => ⟨37, pat [(1, .ptr 0 0 0), (2, .ptr 2 0 0), (3, .ptr 3 0 0), (16, encL EntryR.enc n.l), (17, I n.l.length), (18, I x.1)], underH f x.2.1⟩) (fun x => n.l.length - x.1)
    (fun x => x.1 ≤ n.l.length ∧ x.2.1 = ((n.l.take x.1).map (·.ino)).foldl (lookStep (kidsF f.l) fuel) m ∧ MOk x.2.1 x.2.2 ∧ x.2.2 + unseen (allKids f.l) x.2.1 * 256 ≤ c + unseen (allKids f.l) m * 256 + x.1 ∧ unseen (allKids f.l) x.2.1 ≤ unseen (allKids f.l) m) (0, m, c) ?_ ?_ ?_
  · exact Wc
  · exact ⟨by simp, by simp, hm, by simp, Nat.le_refl _⟩
  rintro ⟨i, m', c'⟩ ⟨g1, g2, g3, g4, g5⟩ A hA
  simp only at g1 g2 g3 g4 g5 hA
  by_cases hi : i < n.l.length
  case neg =>
    have hti : n.l.take i = n.l := List.take_of_length_le (by omega)
    rw [hti, ← hkid] at g2
    subst g2
    have s_ := And.intro @hi (@PostA_n)
    try simp [s_]
    repeat' ((first | ((first | refine Tp ?_ | refine Tn ?_ | refine T2 ?_ ?_) <;> intro hw_ ew_ nw_) | rw [Ip] | rw [In] | rw [Fz] | rw [Gz] | fail) <;> first | simp [ew_, nw_, s_] | simp [s_] | skip)
  have hkk : n.l[i].ino ∈ allKids f.l := kids_all f.l ino _ (by rw [hkid]; exact List.mem_map_of_mem (List.getElem_mem hi))
  have hg0 := g3.nonneg n.l[i].ino
  have hgc := g3.le n.l[i].ino
  have hw1 : IntKind.i64.wrap (getM m' n.l[i].ino + 1) = getM m' n.l[i].ino + 1 := wrap_id (by omega) (by omega)
  have hg2 : getM (setM m' n.l[i].ino (getM m' n.l[i].ino + 1)) n.l[i].ino = getM m' n.l[i].ino + 1 := by rw [getM_set, if_pos rfl]
  have hwi : IntKind.i64.wrap ((i : Int) + 1) = ((i + 1 : Nat) : Int) := by rw [IntKind.wrap_i64]; omega
  have hstep : lookStep (kidsF f.l) fuel m' n.l[i].ino = ((n.l.take (i + 1)).map (·.ino)).foldl (lookStep (kidsF f.l) fuel) m := by
    rw [List.take_succ_eq_append_getElem hi, List.map_append, List.foldl_append, ← g2]; rfl
  obtain ⟨s1, c1, o1, b1⟩ := step_ok (kids_all f.l) (kids_le hE) fuel hkk g3
  have hum := unseen_mono (U := allKids f.l) s1
  by_cases h0 : getM m' n.l[i].ino = 0
  · have hn := (g3.zero _).1 h0
    have hui := unseen_inc hkk hn
    have hrec := ih n.l[i].ino (incM m' n.l[i].ino) (c' + 1) (g3.inc _) (by omega) (by omega)
    rw [lookStep, if_pos h0] at hstep hum o1 b1
    have hinc : setM m' n.l[i].ino 1 = incM m' n.l[i].ino := by rw [incM, h0]; rfl
    have hg3 : getM (incM m' n.l[i].ino) n.l[i].ino = 1 := by rw [incM, getM_set, if_pos rfl, h0]; rfl
    have s_ := And.intro @hi (And.intro @h0 (And.intro @hinc (And.intro @hg3 (@hwi))))
    try simp [s_]
    repeat' ((first | ((first | refine Tp ?_ | refine Tn ?_ | refine T2 ?_ ?_) <;> intro hw_ ew_ nw_) | (refine AInv.heap [0, 1, 2, 3] hrec (by simp) (by simp) ?_; simp [hwi]) | (exact hA (i + 1, _, c1) _ Wc ⟨hi, hstep, o1, by simp only; omega, by simp only; omega⟩ (by simp only; omega)) | rw [Ip] | rw [In] | rw [Fz] | rw [Gz] | fail) <;> first | simp [ew_, nw_, s_] | simp [s_] | skip)
  · rw [lookStep, if_neg h0] at hstep hum o1 b1
    have hg3 : getM (incM m' n.l[i].ino) n.l[i].ino = getM m' n.l[i].ino + 1 := by rw [incM, getM_set, if_pos rfl]
    obtain ⟨m2, hm2⟩ : ∃ m2, m2 = incM m' n.l[i].ino := ⟨_, rfl⟩
    have hinc : setM m' n.l[i].ino (getM m' n.l[i].ino + 1) = m2 := hm2.symm
    rw [← hm2] at hstep hum o1 b1 hg3
    have s_ := And.intro @hi (And.intro @h0 (And.intro @hw1 (And.intro @hinc (And.intro @hg3 (@hwi)))))
    try simp [s_]
    repeat' ((first | ((first | refine Tp ?_ | refine Tn ?_ | refine T2 ?_ ?_) <;> intro hw_ ew_ nw_) | (exact hA (i + 1, _, c1) _ Wc ⟨hi, hstep, o1, by simp only; omega, by simp only; omega⟩ (by simp only; omega)) | rw [Ip] | rw [In] | rw [Fz] | rw [Gz] | fail) <;> first | simp [ew_, nw_, s_] | simp [s_] | skip)
theorem under_ok (f : FSR) (top : Int) (hl : f.l.length ≤ 1000000) (hE : ∀ n ∈ f.l, n.l.length ≤ 256) : PCall Tryz.prog 184 [encF f, I top] (.fmap (mKs (underS f.l top)) (mVs (underS f.l top))) := by
  have hak := allKids_le hE
  have hun : unseen (allKids f.l) [] ≤ (allKids f.l).length := List.length_filter_le _ _
  have h1 := under1_ok f hl hE ((allKids f.l).length + 1) top [] 0 .nil (by omega) (by omega)
  refine Pm Tryz.func184 fun hfit => ?_
  simp [Tryz.f184, FSR.enc]
  have s_ := @FSR.enc.eq_1
  try simp [s_]
  repeat' ((first | ((first | refine Tp ?_ | refine Tn ?_ | refine T2 ?_ ?_) <;> intro hw_ ew_ nw_) | (refine AInv.heap [0, 1, 2, 3] h1 (by simp) (by simp) ?_; simp) | rw [Ip] | rw [In] | rw [Fz] | rw [Gz] | fail) <;> first | simp [ew_, nw_, s_] | simp [s_] | skip)
  simp [underS, Function.comp_def]
theorem below_ok (f : FSR) (ino top : Int) (hl : f.l.length ≤ 1000000) (hE : ∀ n ∈ f.l, n.l.length ≤ 256) : PCall Tryz.prog 197 [encF f, I ino, I top] (B (decide (0 < getM (underS f.l top) ino))) := by
  have hun := under_ok f top hl hE
  refine Pm Tryz.func197 fun hfit => ?_
  simp [Tryz.f197, FSR.enc]
  have s_ := @FSR.enc.eq_1
  try simp [s_]
  repeat' ((first | ((first | refine Tp ?_ | refine Tn ?_ | refine T2 ?_ ?_) <;> intro hw_ ew_ nw_) | refine Pg hun ?_ | rw [Ip] | rw [In] | rw [Fz] | rw [Gz] | fail) <;> first | simp [ew_, nw_, s_] | simp [s_] | skip)
end Go.Proofs.YtdnfnddlciafmaaGreat
