import Derived.Test.YtdnfnddlciafmaaGreatXOpT
import Derived.Test.YtdnfnddlciafmaaGreatXBm
set_option linter.unusedVariables false
set_option linter.unusedSimpArgs false
namespace Go.Proofs.YtdnfnddlciafmaaGreat
open Go.Cx Tab
set_option maxHeartbeats 400000
set_option maxRecDepth 40000
theorem rnew08_ok : PCall Tryz.prog 68 [] (encF newF) := by
  refine PCall.mk (fun _ => false) Tryz.func68 rfl rfl rfl (Ent.mk Tryz.func68 (by kernel_rfl) rfl) (by simp) (by simp) fun hfit => ?_
  simp [Tryz.f68]
  try simp [FSR.enc, newF, NodeR.enc]
  repeat' (first
    | ((first | refine Tst.go (fun hw_ ew_ => ?_) (fun hw_ ew_ => ?_)) <;> first | (exfalso; first | omega | with_reducible exact hw_ (by assumption) | with_reducible exact absurd hw_ (by assumption)) | (have nw_ := Nw.nw hw_; simp [ew_, nw_, FSR.enc, newF, NodeR.enc]) | simp [ew_, FSR.enc, newF, NodeR.enc])
    | ((first | rw [if_pos (by first | omega | (simp only [maxLen]; omega))] | rw [if_neg (by first | omega | (simp only [maxLen]; omega))] | rw [frzOwn_neat (by simp) (by simp <;> omega)] | rw [fzOwn_neat (by simp) (by simp <;> omega)]); try simp [FSR.enc, newF, NodeR.enc])
    | ((first | refine TstB.go (fun hw_ ew_ => ?_) (fun hw_ ew_ => ?_)) <;> first | (exfalso; first | omega | with_reducible exact hw_ (by assumption) | with_reducible exact absurd hw_ (by assumption)) | simp [ew_, FSR.enc, newF, NodeR.enc])
    | fail)
theorem shown11_ok : PCall Tryz.prog 19 [] (B true) := by
  have hwf : cA.wf := by unfold CallR.wf cA; simp only [inI]; exact ⟨⟨by decide, by decide⟩, ⟨by decide, by decide⟩, ⟨by decide, by decide⟩, ⟨by decide, by decide⟩, ⟨by decide, by decide⟩, by decide, by decide, by decide⟩
  have hN := (rows_iff newF).1 rowsN
  have hA := (rows_iff fA).1 rowsA
  have h0 := rnew08_ok
  have h1 := do_ok newF cA hN (by decide) hwf ⟨by decide +kernel, by decide +kernel⟩
  have h2 := do_ok fA cA hA (by decide) hwf ⟨by decide +kernel, by decide +kernel⟩
  have h3 := looks_ok fA cA hA
  rw [doA] at h1
  rw [doB] at h2
  rw [looksA] at h3
  have hl : fA.l.length = 2 := rfl
  generalize newF = F at *
  generalize fA = G at *
  have e1 : encC cA = .agg [I 6, I 1, I 0, I 0, I 0, S (T [97]), S .empty, S .empty] := rfl
  rw [e1] at h1 h2 h3
  have e2 : (⟨#[97]⟩ : ByteArray) = T [97] := rfl
  refine PCall.mk (fun _ => false) Tryz.func19 rfl rfl rfl (Ent.mk Tryz.func19 (by kernel_rfl) rfl) (by simp) (by simp) fun hfit => ?_
  simp [Tryz.f19]
  try simp [e2, hl, errR, ReplyR.enc, FSR.enc]
  repeat' (first
    | ((first | refine Tst.go (fun hw_ ew_ => ?_) (fun hw_ ew_ => ?_)) <;> first | (exfalso; first | omega | with_reducible exact hw_ (by assumption) | with_reducible exact absurd hw_ (by assumption)) | (have nw_ := Nw.nw hw_; simp [ew_, nw_, e2, hl, errR, ReplyR.enc, FSR.enc]) | simp [ew_, e2, hl, errR, ReplyR.enc, FSR.enc])
    | (refine AW.room (AW.room (AW.draw (id := 2) Tryz.checked.mixed (fun _ => false) [1, 2] [(6, .r 1), (7, .r 2)] 9 (by kernel_rfl) ?_)); simp [e2])
    | ((first | (refine Pc.go (h0) ?_ ?_; focus (first | rfl | (simp [e2, hl, errR, ReplyR.enc, FSR.enc]; done))) | (refine Pc.go (h1) ?_ ?_; focus (first | rfl | (simp [e2, hl, errR, ReplyR.enc, FSR.enc]; done))) | (refine Pc.go (h2) ?_ ?_; focus (first | rfl | (simp [e2, hl, errR, ReplyR.enc, FSR.enc]; done))) | (refine Pc.go (h3) ?_ ?_; focus (first | rfl | (simp [e2, hl, errR, ReplyR.enc, FSR.enc]; done))) | rw [if_pos (by first | omega | (simp only [maxLen]; omega))] | rw [if_neg (by first | omega | (simp only [maxLen]; omega))] | rw [frzOwn_neat (by simp) (by simp <;> omega)] | rw [fzOwn_neat (by simp) (by simp <;> omega)]); try simp [e2, hl, errR, ReplyR.enc, FSR.enc])
    | ((first | refine TstB.go (fun hw_ ew_ => ?_) (fun hw_ ew_ => ?_)) <;> first | (exfalso; first | omega | with_reducible exact hw_ (by assumption) | with_reducible exact absurd hw_ (by assumption)) | simp [ew_, e2, hl, errR, ReplyR.enc, FSR.enc])
    | fail)
theorem law_applies (f g : FSR) : PCall Tryz.prog 9 [encF f, encF g] (B true) := by
  have h0 := shown11_ok
  have h1 := few_ok f
  have h2 := few_ok g
  have h3 := rrows_ok f
  have h4 := rrows_ok g
  cases q1 : fewS f with
  | false =>
    rw [q1] at h1
    refine PCall.mk (fun _ => false) Tryz.func9 rfl rfl rfl (Ent.mk Tryz.func9 (by kernel_rfl) rfl) (by simp) (by simp) fun hfit => ?_
    simp [Tryz.f9]
    try simp
    repeat' (first
      | ((first | refine Tst.go (fun hw_ ew_ => ?_) (fun hw_ ew_ => ?_)) <;> first | (exfalso; first | omega | with_reducible exact hw_ (by assumption) | with_reducible exact absurd hw_ (by assumption)) | (have nw_ := Nw.nw hw_; simp [ew_, nw_]) | simp [ew_])
      | ((first | (refine Pc.go (h0) ?_ ?_; focus (first | rfl | (simp; done))) | (refine Pc.go (h1) ?_ ?_; focus (first | rfl | (simp; done))) | refine AW.draw (id := 5) Tryz.checked.mixed (fun _ => false) [] [] 18 (by kernel_rfl) ?_ | rw [if_pos (by first | omega | (simp only [maxLen]; omega))] | rw [if_neg (by first | omega | (simp only [maxLen]; omega))] | rw [frzOwn_neat (by simp) (by simp <;> omega)] | rw [fzOwn_neat (by simp) (by simp <;> omega)]); try simp)
      | ((first | refine TstB.go (fun hw_ ew_ => ?_) (fun hw_ ew_ => ?_)) <;> first | (exfalso; first | omega | with_reducible exact hw_ (by assumption) | with_reducible exact absurd hw_ (by assumption)) | simp [ew_])
      | fail)
  | true =>
  rw [q1] at h1
  cases q2 : fewS g with
  | false =>
    rw [q2] at h2
    refine PCall.mk (fun _ => false) Tryz.func9 rfl rfl rfl (Ent.mk Tryz.func9 (by kernel_rfl) rfl) (by simp) (by simp) fun hfit => ?_
    simp [Tryz.f9]
    try simp
    repeat' (first
      | ((first | refine Tst.go (fun hw_ ew_ => ?_) (fun hw_ ew_ => ?_)) <;> first | (exfalso; first | omega | with_reducible exact hw_ (by assumption) | with_reducible exact absurd hw_ (by assumption)) | (have nw_ := Nw.nw hw_; simp [ew_, nw_]) | simp [ew_])
      | ((first | (refine Pc.go (h0) ?_ ?_; focus (first | rfl | (simp; done))) | (refine Pc.go (h1) ?_ ?_; focus (first | rfl | (simp; done))) | (refine Pc.go (h2) ?_ ?_; focus (first | rfl | (simp; done))) | refine AW.draw (id := 5) Tryz.checked.mixed (fun _ => false) [] [] 18 (by kernel_rfl) ?_ | rw [if_pos (by first | omega | (simp only [maxLen]; omega))] | rw [if_neg (by first | omega | (simp only [maxLen]; omega))] | rw [frzOwn_neat (by simp) (by simp <;> omega)] | rw [fzOwn_neat (by simp) (by simp <;> omega)]); try simp)
      | ((first | refine TstB.go (fun hw_ ew_ => ?_) (fun hw_ ew_ => ?_)) <;> first | (exfalso; first | omega | with_reducible exact hw_ (by assumption) | with_reducible exact absurd hw_ (by assumption)) | simp [ew_])
      | fail)
  | true =>
  rw [q2] at h2
  cases q3 : rowsOk f with
  | false =>
    rw [q3] at h3
    refine PCall.mk (fun _ => false) Tryz.func9 rfl rfl rfl (Ent.mk Tryz.func9 (by kernel_rfl) rfl) (by simp) (by simp) fun hfit => ?_
    simp [Tryz.f9]
    try simp
    repeat' (first
      | ((first | refine Tst.go (fun hw_ ew_ => ?_) (fun hw_ ew_ => ?_)) <;> first | (exfalso; first | omega | with_reducible exact hw_ (by assumption) | with_reducible exact absurd hw_ (by assumption)) | (have nw_ := Nw.nw hw_; simp [ew_, nw_]) | simp [ew_])
      | ((first | (refine Pc.go (h0) ?_ ?_; focus (first | rfl | (simp; done))) | (refine Pc.go (h1) ?_ ?_; focus (first | rfl | (simp; done))) | (refine Pc.go (h2) ?_ ?_; focus (first | rfl | (simp; done))) | (refine Pc.go (h3) ?_ ?_; focus (first | rfl | (simp; done))) | refine AW.draw (id := 5) Tryz.checked.mixed (fun _ => false) [] [] 18 (by kernel_rfl) ?_ | rw [if_pos (by first | omega | (simp only [maxLen]; omega))] | rw [if_neg (by first | omega | (simp only [maxLen]; omega))] | rw [frzOwn_neat (by simp) (by simp <;> omega)] | rw [fzOwn_neat (by simp) (by simp <;> omega)]); try simp)
      | ((first | refine TstB.go (fun hw_ ew_ => ?_) (fun hw_ ew_ => ?_)) <;> first | (exfalso; first | omega | with_reducible exact hw_ (by assumption) | with_reducible exact absurd hw_ (by assumption)) | simp [ew_])
      | fail)
  | true =>
  rw [q3] at h3
  cases q4 : rowsOk g with
  | false =>
    rw [q4] at h4
    refine PCall.mk (fun _ => false) Tryz.func9 rfl rfl rfl (Ent.mk Tryz.func9 (by kernel_rfl) rfl) (by simp) (by simp) fun hfit => ?_
    simp [Tryz.f9]
    try simp
    repeat' (first
      | ((first | refine Tst.go (fun hw_ ew_ => ?_) (fun hw_ ew_ => ?_)) <;> first | (exfalso; first | omega | with_reducible exact hw_ (by assumption) | with_reducible exact absurd hw_ (by assumption)) | (have nw_ := Nw.nw hw_; simp [ew_, nw_]) | simp [ew_])
      | ((first | (refine Pc.go (h0) ?_ ?_; focus (first | rfl | (simp; done))) | (refine Pc.go (h1) ?_ ?_; focus (first | rfl | (simp; done))) | (refine Pc.go (h2) ?_ ?_; focus (first | rfl | (simp; done))) | (refine Pc.go (h3) ?_ ?_; focus (first | rfl | (simp; done))) | (refine Pc.go (h4) ?_ ?_; focus (first | rfl | (simp; done))) | refine AW.draw (id := 5) Tryz.checked.mixed (fun _ => false) [] [] 18 (by kernel_rfl) ?_ | rw [if_pos (by first | omega | (simp only [maxLen]; omega))] | rw [if_neg (by first | omega | (simp only [maxLen]; omega))] | rw [frzOwn_neat (by simp) (by simp <;> omega)] | rw [fzOwn_neat (by simp) (by simp <;> omega)]); try simp)
      | ((first | refine TstB.go (fun hw_ ew_ => ?_) (fun hw_ ew_ => ?_)) <;> first | (exfalso; first | omega | with_reducible exact hw_ (by assumption) | with_reducible exact absurd hw_ (by assumption)) | simp [ew_])
      | fail)
  | true =>
  rw [q4] at h4
  have F := (rows_iff f).1 q3
  have G := (rows_iff g).1 q4
  have hfl := F.len
  have hgl := G.len
  by_cases q5 : 1152921504606846976 ≤ g.next
  · refine PCall.mk (fun _ => false) Tryz.func9 rfl rfl rfl (Ent.mk Tryz.func9 (by kernel_rfl) rfl) (by simp) (by simp) fun hfit => ?_
    simp [Tryz.f9]
    try simp [q5, FSR.enc]
    repeat' (first
      | ((first | refine Tst.go (fun hw_ ew_ => ?_) (fun hw_ ew_ => ?_)) <;> first | (exfalso; first | omega | with_reducible exact hw_ (by assumption) | with_reducible exact absurd hw_ (by assumption)) | (have nw_ := Nw.nw hw_; simp [ew_, nw_, q5, FSR.enc]) | simp [ew_, q5, FSR.enc])
      | ((first | (refine Pc.go (h0) ?_ ?_; focus (first | rfl | (simp [q5, FSR.enc]; done))) | (refine Pc.go (h1) ?_ ?_; focus (first | rfl | (simp [q5, FSR.enc]; done))) | (refine Pc.go (h2) ?_ ?_; focus (first | rfl | (simp [q5, FSR.enc]; done))) | (refine Pc.go (h3) ?_ ?_; focus (first | rfl | (simp [q5, FSR.enc]; done))) | (refine Pc.go (h4) ?_ ?_; focus (first | rfl | (simp [q5, FSR.enc]; done))) | refine AW.draw (id := 5) Tryz.checked.mixed (fun _ => false) [] [] 18 (by kernel_rfl) ?_ | rw [if_pos (by first | omega | (simp only [maxLen]; omega))] | rw [if_neg (by first | omega | (simp only [maxLen]; omega))] | rw [frzOwn_neat (by simp) (by simp <;> omega)] | rw [fzOwn_neat (by simp) (by simp <;> omega)]); try simp [q5, FSR.enc])
      | ((first | refine TstB.go (fun hw_ ew_ => ?_) (fun hw_ ew_ => ?_)) <;> first | (exfalso; first | omega | with_reducible exact hw_ (by assumption) | with_reducible exact absurd hw_ (by assumption)) | simp [ew_, q5, FSR.enc])
      | fail)
  by_cases q6 : g.next < f.next
  · refine PCall.mk (fun _ => false) Tryz.func9 rfl rfl rfl (Ent.mk Tryz.func9 (by kernel_rfl) rfl) (by simp) (by simp) fun hfit => ?_
    simp [Tryz.f9]
    try simp [q5, q6, FSR.enc]
    repeat' (first
      | ((first | refine Tst.go (fun hw_ ew_ => ?_) (fun hw_ ew_ => ?_)) <;> first | (exfalso; first | omega | with_reducible exact hw_ (by assumption) | with_reducible exact absurd hw_ (by assumption)) | (have nw_ := Nw.nw hw_; simp [ew_, nw_, q5, q6, FSR.enc]) | simp [ew_, q5, q6, FSR.enc])
      | ((first | (refine Pc.go (h0) ?_ ?_; focus (first | rfl | (simp [q5, q6, FSR.enc]; done))) | (refine Pc.go (h1) ?_ ?_; focus (first | rfl | (simp [q5, q6, FSR.enc]; done))) | (refine Pc.go (h2) ?_ ?_; focus (first | rfl | (simp [q5, q6, FSR.enc]; done))) | (refine Pc.go (h3) ?_ ?_; focus (first | rfl | (simp [q5, q6, FSR.enc]; done))) | (refine Pc.go (h4) ?_ ?_; focus (first | rfl | (simp [q5, q6, FSR.enc]; done))) | refine AW.draw (id := 5) Tryz.checked.mixed (fun _ => false) [] [] 18 (by kernel_rfl) ?_ | rw [if_pos (by first | omega | (simp only [maxLen]; omega))] | rw [if_neg (by first | omega | (simp only [maxLen]; omega))] | rw [frzOwn_neat (by simp) (by simp <;> omega)] | rw [fzOwn_neat (by simp) (by simp <;> omega)]); try simp [q5, q6, FSR.enc])
      | ((first | refine TstB.go (fun hw_ ew_ => ?_) (fun hw_ ew_ => ?_)) <;> first | (exfalso; first | omega | with_reducible exact hw_ (by assumption) | with_reducible exact absurd hw_ (by assumption)) | simp [ew_, q5, q6, FSR.enc])
      | fail)
  have c1 := changes_ok f g (by omega) (by omega)
  have c2 := changes_ok f f (by omega) (by omega)
  rw [changes_self f F] at c2
  have e := applies F G (by omega)
  have c3 := apply_ok f (changesS f g) g.next (by omega) (changes_len f g (by omega) (by omega)) (changes_in G (by omega))
  rw [e] at c3
  have c4 := rsame08_ok g g
  simp only [decide_true] at c4
  generalize changesS f g = L at *
  refine PCall.mk (fun _ => false) Tryz.func9 rfl rfl rfl (Ent.mk Tryz.func9 (by kernel_rfl) rfl) (by simp) (by simp) fun hfit => ?_
  simp [Tryz.f9]
  try simp [q5, q6, FSR.enc]
  repeat' (first
    | ((first | refine Tst.go (fun hw_ ew_ => ?_) (fun hw_ ew_ => ?_)) <;> first | (exfalso; first | omega | with_reducible exact hw_ (by assumption) | with_reducible exact absurd hw_ (by assumption)) | (have nw_ := Nw.nw hw_; simp [ew_, nw_, q5, q6, FSR.enc]) | simp [ew_, q5, q6, FSR.enc])
    | ((first | (refine Pc.go (h0) ?_ ?_; focus (first | rfl | (simp [q5, q6, FSR.enc]; done))) | (refine Pc.go (h1) ?_ ?_; focus (first | rfl | (simp [q5, q6, FSR.enc]; done))) | (refine Pc.go (h2) ?_ ?_; focus (first | rfl | (simp [q5, q6, FSR.enc]; done))) | (refine Pc.go (h3) ?_ ?_; focus (first | rfl | (simp [q5, q6, FSR.enc]; done))) | (refine Pc.go (h4) ?_ ?_; focus (first | rfl | (simp [q5, q6, FSR.enc]; done))) | (refine Pc.go (c1) ?_ ?_; focus (first | rfl | (simp [q5, q6, FSR.enc]; done))) | (refine Pc.go (c2) ?_ ?_; focus (first | rfl | (simp [q5, q6, FSR.enc]; done))) | (refine Pc.go (c3) ?_ ?_; focus (first | rfl | (simp [q5, q6, FSR.enc]; done))) | (refine Pc.go (c4) ?_ ?_; focus (first | rfl | (simp [q5, q6, FSR.enc]; done))) | refine AW.draw (id := 5) Tryz.checked.mixed (fun _ => false) [] [] 18 (by kernel_rfl) ?_ | rw [if_pos (by first | omega | (simp only [maxLen]; omega))] | rw [if_neg (by first | omega | (simp only [maxLen]; omega))] | rw [frzOwn_neat (by simp) (by simp <;> omega)] | rw [fzOwn_neat (by simp) (by simp <;> omega)]); try simp [q5, q6, FSR.enc])
    | ((first | refine TstB.go (fun hw_ ew_ => ?_) (fun hw_ ew_ => ?_)) <;> first | (exfalso; first | omega | with_reducible exact hw_ (by assumption) | with_reducible exact absurd hw_ (by assumption)) | simp [ew_, q5, q6, FSR.enc])
    | fail)
end Go.Proofs.YtdnfnddlciafmaaGreat
