import Derived.Test.YtdnfnddlciafmaaGreatXOpR
set_option linter.unusedVariables false
set_option linter.unusedSimpArgs false
namespace Go.Proofs.YtdnfnddlciafmaaGreat
open Go.Cx Tab
set_option maxHeartbeats 400000
set_option maxRecDepth 40000
theorem apply_ok (f : FSR) (l : List ChangeR) (next : Int) (hf : f.l.length ≤ 40000) (hl : l.length ≤ 40000) (hn : ∀ c ∈ l, inI c.node.ino ∧ c.node.ino ≠ 9223372036854775807) :
    PCall Tryz.prog 39 [encF f, encL ChangeR.enc l, I next] (encF (applyS f l next)) := by
  refine PCall.mk (fun _ => false) Tryz.func39 rfl rfl rfl (Ent.mk Tryz.func39 (by kernel_rfl) rfl) (by simp) (by simp) fun hfit => ?_
  simp [Tryz.f39]
  refine AW.loopG (lit := fun _ => false) (fun i : Nat => ⟨32, pat [(2, I next), (3, .ptr 0 0 0), (6, .ptr 1 0 0), (9, encL ChangeR.enc l), (10, I l.length), (11, I i)], [.cells 0 ((l.take i).foldl applyOne f).enc, .cells 0 [.sl true 0 [], I 0]]⟩) (fun i => l.length - i) (fun i => i ≤ l.length) 0 ?_ ?_ ?_
  · exact Wk.at _ rfl (by simp) (by simp)
  · simp
  rintro i g1 A hA
  by_cases hi : i < l.length
  case neg =>
    have e : List.take i l = l := List.take_of_length_le (by omega)
    have e2 : applyS f l next = { l.foldl applyOne f with next := max (l.foldl applyOne f).next next } := rfl
    rw [e2]
    have e3 : (List.take i l).foldl applyOne f = l.foldl applyOne f := by rw [e]
    generalize l.foldl applyOne f = g at *
    try simp [hi, e3, FSR.enc]
    repeat' (first
      | ((first | refine Tst.go (fun hw_ ew_ => ?_) (fun hw_ ew_ => ?_)) <;> first | (exfalso; first | omega | with_reducible exact hw_ (by assumption) | with_reducible exact absurd hw_ (by assumption)) | (have nw_ := Nw.nw hw_; simp [ew_, nw_, hi, e3, FSR.enc]) | simp [ew_, hi, e3, FSR.enc])
      | ((first | rw [if_pos (by first | omega | (simp only [maxLen]; omega))] | rw [if_neg (by first | omega | (simp only [maxLen]; omega))] | rw [frzOwn_neat (by simp) (by simp <;> omega)] | rw [fzOwn_neat (by simp) (by simp <;> omega)]); try simp [hi, e3, FSR.enc])
      | ((first | refine TstB.go (fun hw_ ew_ => ?_) (fun hw_ ew_ => ?_)) <;> first | (exfalso; first | omega | with_reducible exact hw_ (by assumption) | with_reducible exact absurd hw_ (by assumption)) | simp [ew_, hi, e3, FSR.enc])
      | fail)
  have hwi := wrap_nat hi (by simp only [maxLen]; omega)
  have hlen := apply_len (l.take i) f
  have e1 : (l.take (i + 1)).foldl applyOne f = applyOne ((l.take i).foldl applyOne f) l[i] := by
    rw [List.take_succ_eq_append_getElem hi, List.foldl_append]; rfl
  have hc := hn l[i] (List.getElem_mem hi)
  simp only [List.length_take] at hlen
  generalize hg : (l.take i).foldl applyOne f = g at *
  have h1 := tout_ok g l[i].ino (by omega)
  have h2 := tput_ok g l[i].node (by omega) hc.1 hc.2
  cases hk : l[i].gone with
  | true =>
    have e3 : outF g l[i].ino = (l.take (i + 1)).foldl applyOne f := by rw [e1]; simp [applyOne, hk]
    rw [e3] at h1
    try simp [hi, hwi, hk, setF_enc]
    repeat' (first
      | ((first | refine Tst.go (fun hw_ ew_ => ?_) (fun hw_ ew_ => ?_)) <;> first | (exfalso; first | omega | with_reducible exact hw_ (by assumption) | with_reducible exact absurd hw_ (by assumption)) | (have nw_ := Nw.nw hw_; simp [ew_, nw_, hi, hwi, hk, setF_enc]) | simp [ew_, hi, hwi, hk, setF_enc])
      | (exact hA (i + 1) _ (Wk.cutAt _ rfl (by simp) (by simp) (by simp) (by simp)) hi (by omega))
      | ((first | (refine Pc.go (h1) ?_ ?_; focus (first | rfl | (simp [hi, hwi, hk, setF_enc]; done))) | rw [if_pos (by first | omega | (simp only [maxLen]; omega))] | rw [if_neg (by first | omega | (simp only [maxLen]; omega))] | rw [frzOwn_neat (by simp) (by simp <;> omega)] | rw [fzOwn_neat (by simp) (by simp <;> omega)]); try simp [hi, hwi, hk, setF_enc])
      | ((first | refine TstB.go (fun hw_ ew_ => ?_) (fun hw_ ew_ => ?_)) <;> first | (exfalso; first | omega | with_reducible exact hw_ (by assumption) | with_reducible exact absurd hw_ (by assumption)) | simp [ew_, hi, hwi, hk, setF_enc])
      | fail)
  | false =>
    have e3 : putB g l[i].node = (l.take (i + 1)).foldl applyOne f := by rw [e1]; simp [applyOne, hk]
    rw [e3] at h2
    try simp [hi, hwi, hk, setF_enc]
    repeat' (first
      | ((first | refine Tst.go (fun hw_ ew_ => ?_) (fun hw_ ew_ => ?_)) <;> first | (exfalso; first | omega | with_reducible exact hw_ (by assumption) | with_reducible exact absurd hw_ (by assumption)) | (have nw_ := Nw.nw hw_; simp [ew_, nw_, hi, hwi, hk, setF_enc]) | simp [ew_, hi, hwi, hk, setF_enc])
      | (exact hA (i + 1) _ (Wk.cutAt _ rfl (by simp) (by simp) (by simp) (by simp)) hi (by omega))
      | ((first | (refine Pc.go (h2) ?_ ?_; focus (first | rfl | (simp [hi, hwi, hk, setF_enc]; done))) | rw [if_pos (by first | omega | (simp only [maxLen]; omega))] | rw [if_neg (by first | omega | (simp only [maxLen]; omega))] | rw [frzOwn_neat (by simp) (by simp <;> omega)] | rw [fzOwn_neat (by simp) (by simp <;> omega)]); try simp [hi, hwi, hk, setF_enc])
      | ((first | refine TstB.go (fun hw_ ew_ => ?_) (fun hw_ ew_ => ?_)) <;> first | (exfalso; first | omega | with_reducible exact hw_ (by assumption) | with_reducible exact absurd hw_ (by assumption)) | simp [ew_, hi, hwi, hk, setF_enc])
      | fail)
end Go.Proofs.YtdnfnddlciafmaaGreat
