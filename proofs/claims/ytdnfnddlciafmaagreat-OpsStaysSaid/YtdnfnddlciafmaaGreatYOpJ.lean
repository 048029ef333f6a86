import Derived.Test.YtdnfnddlciafmaaGreatYOpI
import Derived.Test.YtdnfnddlciafmaaGreatYBl
set_option linter.unusedVariables false
set_option linter.unusedSimpArgs false
namespace Go.Proofs.YtdnfnddlciafmaaGreat
open Go.Cx Tab
set_option maxHeartbeats 400000
set_option maxRecDepth 40000
theorem first_ok (l : List Int) (hl : l.length ≤ 1000000) : PCall Tryz.prog 186 [enc1 I l] (I (firstS l)) := by
  refine PCall.mk (fun _ => false) Tryz.func186 rfl rfl rfl (Ent.mk Tryz.func186 (by kernel_rfl) rfl) (by simp) (by simp) fun hfit => ?_
  simp [Tryz.f186]
  refine AW.loopG (lit := fun _ => false) (fun i : Nat => ⟨15, pat [(5, enc1 I l), (6, I l.length), (7, I i)], []⟩) (fun i => l.length - i) (fun i => i ≤ l.length ∧ firstS (l.drop i) = firstS l) 0 ?_ ?_ ?_
  · exact Wk.at _ rfl (by simp) (by simp)
  · simp
  rintro i ⟨h1, h2⟩ A hA
  by_cases hi : i < l.length
  case neg =>
    rw [List.drop_eq_nil_of_le (by omega)] at h2
    try simp [hi, ← h2, firstS]
    repeat' (first
      | ((first | refine Tst.go (fun hw_ ew_ => ?_) (fun hw_ ew_ => ?_)) <;> first | (exfalso; first | omega | with_reducible exact hw_ (by assumption) | with_reducible exact absurd hw_ (by assumption)) | (have nw_ := Nw.nw hw_; simp [ew_, nw_, hi, ← h2, firstS]) | simp [ew_, hi, ← h2, firstS])
      | ((first | rw [if_pos (by first | omega | (simp only [maxLen]; omega))] | rw [if_neg (by first | omega | (simp only [maxLen]; omega))] | rw [frzOwn_neat (by simp) (by simp <;> omega)] | rw [fzOwn_neat (by simp) (by simp <;> omega)]); try simp [hi, ← h2, firstS])
      | ((first | refine TstB.go (fun hw_ ew_ => ?_) (fun hw_ ew_ => ?_)) <;> first | (exfalso; first | omega | with_reducible exact hw_ (by assumption) | with_reducible exact absurd hw_ (by assumption)) | simp [ew_, hi, ← h2, firstS])
      | fail)
  rw [List.drop_eq_getElem_cons hi] at h2
  have hwi := wrap_nat hi (by simp only [maxLen]; omega)
  by_cases hk : l[i] = 0
  · have h3 : firstS (l.drop (i + 1)) = firstS l := by rw [← h2]; simp [firstS, hk]
    try simp [hi, hwi, hk]
    repeat' (first
      | ((first | refine Tst.go (fun hw_ ew_ => ?_) (fun hw_ ew_ => ?_)) <;> first | (exfalso; first | omega | with_reducible exact hw_ (by assumption) | with_reducible exact absurd hw_ (by assumption)) | (have nw_ := Nw.nw hw_; simp [ew_, nw_, hi, hwi, hk]) | simp [ew_, hi, hwi, hk])
      | (exact hA (i + 1) _ (Wk.at _ rfl (by simp) (by simp)) ⟨hi, h3⟩ (by omega))
      | ((first | rw [if_pos (by first | omega | (simp only [maxLen]; omega))] | rw [if_neg (by first | omega | (simp only [maxLen]; omega))] | rw [frzOwn_neat (by simp) (by simp <;> omega)] | rw [fzOwn_neat (by simp) (by simp <;> omega)]); try simp [hi, hwi, hk])
      | ((first | refine TstB.go (fun hw_ ew_ => ?_) (fun hw_ ew_ => ?_)) <;> first | (exfalso; first | omega | with_reducible exact hw_ (by assumption) | with_reducible exact absurd hw_ (by assumption)) | simp [ew_, hi, hwi, hk])
      | fail)
  · have h3 : firstS l = l[i] := by rw [← h2]; simp [firstS, hk]
    try simp [hi, hwi, hk, h3]
    repeat' (first
      | ((first | refine Tst.go (fun hw_ ew_ => ?_) (fun hw_ ew_ => ?_)) <;> first | (exfalso; first | omega | with_reducible exact hw_ (by assumption) | with_reducible exact absurd hw_ (by assumption)) | (have nw_ := Nw.nw hw_; simp [ew_, nw_, hi, hwi, hk, h3]) | simp [ew_, hi, hwi, hk, h3])
      | ((first | rw [if_pos (by first | omega | (simp only [maxLen]; omega))] | rw [if_neg (by first | omega | (simp only [maxLen]; omega))] | rw [frzOwn_neat (by simp) (by simp <;> omega)] | rw [fzOwn_neat (by simp) (by simp <;> omega)]); try simp [hi, hwi, hk, h3])
      | ((first | refine TstB.go (fun hw_ ew_ => ?_) (fun hw_ ew_ => ?_)) <;> first | (exfalso; first | omega | with_reducible exact hw_ (by assumption) | with_reducible exact absurd hw_ (by assumption)) | simp [ew_, hi, hwi, hk, h3])
      | fail)
theorem unless_ok (b : Bool) (e : Int) : PCall Tryz.prog 194 [B b, I e] (I (unlessS b e)) := by
  refine PCall.mk (fun _ => false) Tryz.func194 rfl rfl rfl (Ent.mk Tryz.func194 (by kernel_rfl) rfl) (by simp) (by simp) fun hfit => ?_
  simp [Tryz.f194, unlessS]
  cases b <;> simp
theorem there_ok (d : NodeR) (s : ByteArray) (hr : risesE d.l = true) (hl : d.l.length ≤ 1000000) : PCall Tryz.prog 195 [encN d, S s] (B (findE d.l s).2) := by
  refine PCall.mk (fun _ => false) Tryz.func195 rfl rfl rfl (Ent.mk Tryz.func195 (by kernel_rfl) rfl) (by simp) (by simp) fun hfit => ?_
  simp [Tryz.f195]
  try simp
  repeat' (first
    | ((first | refine Tst.go (fun hw_ ew_ => ?_) (fun hw_ ew_ => ?_)) <;> first | (exfalso; first | omega | with_reducible exact hw_ (by assumption) | with_reducible exact absurd hw_ (by assumption)) | (have nw_ := Nw.nw hw_; simp [ew_, nw_]) | simp [ew_])
    | ((first | (refine Pc.go (nfind_ok d.l s hr hl) ?_ ?_; focus (first | rfl | (simp; done))) | rw [if_pos (by first | omega | (simp only [maxLen]; omega))] | rw [if_neg (by first | omega | (simp only [maxLen]; omega))] | rw [frzOwn_neat (by simp) (by simp <;> omega)] | rw [fzOwn_neat (by simp) (by simp <;> omega)]); try simp)
    | ((first | refine TstB.go (fun hw_ ew_ => ?_) (fun hw_ ew_ => ?_)) <;> first | (exfalso; first | omega | with_reducible exact hw_ (by assumption) | with_reducible exact absurd hw_ (by assumption)) | simp [ew_])
    | fail)
theorem zeroN_enc : NodeR.zero.enc = [I 0, I 0, I 0, S .empty, .sl false 0 []] := rfl
theorem unl_t (e : Int) : PCall Tryz.prog 194 [B true, I e] (I e) := unless_ok true e
theorem unl_f (e : Int) : PCall Tryz.prog 194 [B false, I e] (I 0) := unless_ok false e
theorem over_ok (n old : NodeR) : PCall Tryz.prog 198 [encN n, encN old] (I (overD n old)) := by
  have h4 : ∀ a b c : Int, PCall Tryz.prog 186 [enc1 I [a, b, c]] (I (firstS [a, b, c])) := fun a b c => first_ok [a, b, c] (by simp)
  have e8 : PCall Tryz.prog 186 [enc1 I [8, 0, 0]] (I 8) := h4 8 0 0
  have e8' : PCall Tryz.prog 186 [enc1 I [8, 0, 11]] (I 8) := h4 8 0 11
  have e9 : PCall Tryz.prog 186 [enc1 I [0, 9, 0]] (I 9) := h4 0 9 0
  have e9' : PCall Tryz.prog 186 [enc1 I [0, 9, 11]] (I 9) := h4 0 9 11
  have e0 : PCall Tryz.prog 186 [enc1 I [0, 0, 0]] (I 0) := h4 0 0 0
  have e0' : PCall Tryz.prog 186 [enc1 I [0, 0, 11]] (I 11) := h4 0 0 11
  by_cases q1 : n.kind = 2 <;> by_cases q2 : old.kind = 2 <;> by_cases q3 : 0 < old.l.length
  all_goals
    refine PCall.mk (fun _ => false) Tryz.func198 rfl rfl rfl (Ent.mk Tryz.func198 (by kernel_rfl) rfl) (by simp) (by simp) fun hfit => ?_
    simp [Tryz.f198, overD, q1, q2, q3]
    try simp [q1, q2, q3]
    repeat' (first
      | ((first | refine Tst.go (fun hw_ ew_ => ?_) (fun hw_ ew_ => ?_)) <;> first | (exfalso; first | omega | with_reducible exact hw_ (by assumption) | with_reducible exact absurd hw_ (by assumption)) | (have nw_ := Nw.nw hw_; simp [ew_, nw_, q1, q2, q3]) | simp [ew_, q1, q2, q3])
      | ((first | (refine Pc.go (unl_t 8) ?_ ?_; focus (first | rfl | (simp [q1, q2, q3]; done))) | (refine Pc.go (unl_f 8) ?_ ?_; focus (first | rfl | (simp [q1, q2, q3]; done))) | (refine Pc.go (unl_t 9) ?_ ?_; focus (first | rfl | (simp [q1, q2, q3]; done))) | (refine Pc.go (unl_f 9) ?_ ?_; focus (first | rfl | (simp [q1, q2, q3]; done))) | (refine Pc.go (unl_t 11) ?_ ?_; focus (first | rfl | (simp [q1, q2, q3]; done))) | (refine Pc.go (unl_f 11) ?_ ?_; focus (first | rfl | (simp [q1, q2, q3]; done))) | (refine Lc.go (e8) rfl ?_ ?_; focus (first | (simp [q1, q2, q3]; done) | (simp; rw [frzOwn_neat (by simp) (by simp <;> omega)]; simp [q1, q2, q3]; done))) | (refine Sc.go (e8) ?_ ?_; focus (simp [q1, q2, q3]; done)) | (refine Lc.go (e8') rfl ?_ ?_; focus (first | (simp [q1, q2, q3]; done) | (simp; rw [frzOwn_neat (by simp) (by simp <;> omega)]; simp [q1, q2, q3]; done))) | (refine Sc.go (e8') ?_ ?_; focus (simp [q1, q2, q3]; done)) | (refine Lc.go (e9) rfl ?_ ?_; focus (first | (simp [q1, q2, q3]; done) | (simp; rw [frzOwn_neat (by simp) (by simp <;> omega)]; simp [q1, q2, q3]; done))) | (refine Sc.go (e9) ?_ ?_; focus (simp [q1, q2, q3]; done)) | (refine Lc.go (e9') rfl ?_ ?_; focus (first | (simp [q1, q2, q3]; done) | (simp; rw [frzOwn_neat (by simp) (by simp <;> omega)]; simp [q1, q2, q3]; done))) | (refine Sc.go (e9') ?_ ?_; focus (simp [q1, q2, q3]; done)) | (refine Lc.go (e0) rfl ?_ ?_; focus (first | (simp [q1, q2, q3]; done) | (simp; rw [frzOwn_neat (by simp) (by simp <;> omega)]; simp [q1, q2, q3]; done))) | (refine Sc.go (e0) ?_ ?_; focus (simp [q1, q2, q3]; done)) | (refine Lc.go (e0') rfl ?_ ?_; focus (first | (simp [q1, q2, q3]; done) | (simp; rw [frzOwn_neat (by simp) (by simp <;> omega)]; simp [q1, q2, q3]; done))) | (refine Sc.go (e0') ?_ ?_; focus (simp [q1, q2, q3]; done)) | refine AW.draw (id := 1) Tryz.checked.mixed (fun _ => false) [] [] 26 (by kernel_rfl) ?_ | rw [if_pos (by first | omega | (simp only [maxLen]; omega))] | rw [if_neg (by first | omega | (simp only [maxLen]; omega))] | rw [frzOwn_neat (by simp) (by simp <;> omega)] | rw [fzOwn_neat (by simp) (by simp <;> omega)]); try simp [q1, q2, q3])
      | ((first | refine TstB.go (fun hw_ ew_ => ?_) (fun hw_ ew_ => ?_)) <;> first | (exfalso; first | omega | with_reducible exact hw_ (by assumption) | with_reducible exact absurd hw_ (by assumption)) | simp [ew_, q1, q2, q3])
      | fail)
theorem dir_ok (f : FSR) (d : Int) (h : f.l.length ≤ 1000000) : PCall Tryz.prog 129 [encF f, I d] (.tup [encN (dirD f d).1, I (dirD f d).2]) := by
  have h1 := find_ok f d h
  unfold dirD
  by_cases q1 : (findB f.l d).2 = false
  · rw [if_pos q1]
    refine PCall.mk (fun _ => false) Tryz.func129 rfl rfl rfl (Ent.mk Tryz.func129 (by kernel_rfl) rfl) (by simp) (by simp) fun hfit => ?_
    simp [Tryz.f129]
    try simp [q1, zeroN_enc]
    repeat' (first
      | ((first | refine Tst.go (fun hw_ ew_ => ?_) (fun hw_ ew_ => ?_)) <;> first | (exfalso; first | omega | with_reducible exact hw_ (by assumption) | with_reducible exact absurd hw_ (by assumption)) | (have nw_ := Nw.nw hw_; simp [ew_, nw_, q1, zeroN_enc]) | simp [ew_, q1, zeroN_enc])
      | ((first | (refine Pc.go (h1) ?_ ?_; focus (first | rfl | (simp [q1, zeroN_enc]; done))) | rw [if_pos (by first | omega | (simp only [maxLen]; omega))] | rw [if_neg (by first | omega | (simp only [maxLen]; omega))] | rw [frzOwn_neat (by simp) (by simp <;> omega)] | rw [fzOwn_neat (by simp) (by simp <;> omega)]); try simp [q1, zeroN_enc])
      | ((first | refine TstB.go (fun hw_ ew_ => ?_) (fun hw_ ew_ => ?_)) <;> first | (exfalso; first | omega | with_reducible exact hw_ (by assumption) | with_reducible exact absurd hw_ (by assumption)) | simp [ew_, q1, zeroN_enc])
      | fail)
  by_cases q2 : (findB f.l d).1.kind ≠ 2
  · rw [if_neg q1, if_pos q2]
    refine PCall.mk (fun _ => false) Tryz.func129 rfl rfl rfl (Ent.mk Tryz.func129 (by kernel_rfl) rfl) (by simp) (by simp) fun hfit => ?_
    simp [Tryz.f129]
    try simp [q1, q2, zeroN_enc]
    repeat' (first
      | ((first | refine Tst.go (fun hw_ ew_ => ?_) (fun hw_ ew_ => ?_)) <;> first | (exfalso; first | omega | with_reducible exact hw_ (by assumption) | with_reducible exact absurd hw_ (by assumption)) | (have nw_ := Nw.nw hw_; simp [ew_, nw_, q1, q2, zeroN_enc]) | simp [ew_, q1, q2, zeroN_enc])
      | ((first | (refine Pc.go (h1) ?_ ?_; focus (first | rfl | (simp [q1, q2, zeroN_enc]; done))) | rw [if_pos (by first | omega | (simp only [maxLen]; omega))] | rw [if_neg (by first | omega | (simp only [maxLen]; omega))] | rw [frzOwn_neat (by simp) (by simp <;> omega)] | rw [fzOwn_neat (by simp) (by simp <;> omega)]); try simp [q1, q2, zeroN_enc])
      | ((first | refine TstB.go (fun hw_ ew_ => ?_) (fun hw_ ew_ => ?_)) <;> first | (exfalso; first | omega | with_reducible exact hw_ (by assumption) | with_reducible exact absurd hw_ (by assumption)) | simp [ew_, q1, q2, zeroN_enc])
      | fail)
  · rw [if_neg q1, if_neg q2]
    refine PCall.mk (fun _ => false) Tryz.func129 rfl rfl rfl (Ent.mk Tryz.func129 (by kernel_rfl) rfl) (by simp) (by simp) fun hfit => ?_
    simp [Tryz.f129]
    try simp [q1, q2]
    repeat' (first
      | ((first | refine Tst.go (fun hw_ ew_ => ?_) (fun hw_ ew_ => ?_)) <;> first | (exfalso; first | omega | with_reducible exact hw_ (by assumption) | with_reducible exact absurd hw_ (by assumption)) | (have nw_ := Nw.nw hw_; simp [ew_, nw_, q1, q2]) | simp [ew_, q1, q2])
      | ((first | (refine Pc.go (h1) ?_ ?_; focus (first | rfl | (simp [q1, q2]; done))) | rw [if_pos (by first | omega | (simp only [maxLen]; omega))] | rw [if_neg (by first | omega | (simp only [maxLen]; omega))] | rw [frzOwn_neat (by simp) (by simp <;> omega)] | rw [fzOwn_neat (by simp) (by simp <;> omega)]); try simp [q1, q2])
      | ((first | refine TstB.go (fun hw_ ew_ => ?_) (fun hw_ ew_ => ?_)) <;> first | (exfalso; first | omega | with_reducible exact hw_ (by assumption) | with_reducible exact absurd hw_ (by assumption)) | simp [ew_, q1, q2])
      | fail)
end Go.Proofs.YtdnfnddlciafmaaGreat
