import Derived.Test.YtdnfnddlciafmaaGreatYOpT
import Derived.Test.YtdnfnddlciafmaaGreatYBm
set_option linter.unusedVariables false
set_option linter.unusedSimpArgs false
namespace Go.Proofs.YtdnfnddlciafmaaGreat
open Go.Cx Tab
set_option maxHeartbeats 400000
set_option maxRecDepth 40000
theorem rnew08_ok : PCall Tryz.prog 68 [] (encF newF) := by
  refine PCall.mk (fun _ => false) Tryz.func68 rfl rfl rfl (Ent.mk Tryz.func68 (by kernel_rfl) rfl) (by simp) (by simp) fun hfit => ?_
  simp [Tryz.f68]
  try simp [FSR.enc, newF, NodeR.enc]
  repeat' (first
    | ((first | refine Tst.go (fun hw_ ew_ => ?_) (fun hw_ ew_ => ?_)) <;> first | (exfalso; first | omega | with_reducible exact hw_ (by assumption) | with_reducible exact absurd hw_ (by assumption)) | (have nw_ := Nw.nw hw_; simp [ew_, nw_, FSR.enc, newF, NodeR.enc]) | simp [ew_, FSR.enc, newF, NodeR.enc])
    | ((first | rw [if_pos (by first | omega | (simp only [maxLen]; omega))] | rw [if_neg (by first | omega | (simp only [maxLen]; omega))] | rw [frzOwn_neat (by simp) (by simp <;> omega)] | rw [fzOwn_neat (by simp) (by simp <;> omega)]); try simp [FSR.enc, newF, NodeR.enc])
    | ((first | refine TstB.go (fun hw_ ew_ => ?_) (fun hw_ ew_ => ?_)) <;> first | (exfalso; first | omega | with_reducible exact hw_ (by assumption) | with_reducible exact absurd hw_ (by assumption)) | simp [ew_, FSR.enc, newF, NodeR.enc])
    | fail)
theorem shown11_ok : PCall Tryz.prog 19 [] (B true) := by
  have hwf : cA.wf := by unfold CallR.wf cA; simp only [inI]; exact ⟨⟨by decide, by decide⟩, ⟨by decide, by decide⟩, ⟨by decide, by decide⟩, ⟨by decide, by decide⟩, ⟨by decide, by decide⟩, by decide, by decide, by decide⟩
  have hN := (rows_iff newF).1 rowsN
  have hA := (rows_iff fA).1 rowsA
  have h0 := rnew08_ok
  have h1 := do_ok newF cA hN (by decide) hwf ⟨by decide +kernel, by decide +kernel⟩
  have h2 := do_ok fA cA hA (by decide) hwf ⟨by decide +kernel, by decide +kernel⟩
  have h3 := looks_ok fA cA hA
  rw [doA] at h1
  rw [doB] at h2
  rw [looksA] at h3
  have hl : fA.l.length = 2 := rfl
  generalize newF = F at *
  generalize fA = G at *
  have e1 : encC cA = .agg [I 6, I 1, I 0, I 0, I 0, S (T [97]), S .empty, S .empty] := rfl
  rw [e1] at h1 h2 h3
  have e2 : (⟨#[97]⟩ : ByteArray) = T [97] := rfl
  refine PCall.mk (fun _ => false) Tryz.func19 rfl rfl rfl (Ent.mk Tryz.func19 (by kernel_rfl) rfl) (by simp) (by simp) fun hfit => ?_
  simp [Tryz.f19]
  try simp [e2, hl, errR, ReplyR.enc, FSR.enc]
  repeat' (first
    | ((first | refine Tst.go (fun hw_ ew_ => ?_) (fun hw_ ew_ => ?_)) <;> first | (exfalso; first | omega | with_reducible exact hw_ (by assumption) | with_reducible exact absurd hw_ (by assumption)) | (have nw_ := Nw.nw hw_; simp [ew_, nw_, e2, hl, errR, ReplyR.enc, FSR.enc]) | simp [ew_, e2, hl, errR, ReplyR.enc, FSR.enc])
    | (refine AW.room (AW.room (AW.draw (id := 2) Tryz.checked.mixed (fun _ => false) [1, 2] [(6, .r 1), (7, .r 2)] 9 (by kernel_rfl) ?_)); simp [e2])
    | ((first | (refine Pc.go (h0) ?_ ?_; focus (first | rfl | (simp [e2, hl, errR, ReplyR.enc, FSR.enc]; done))) | (refine Pc.go (h1) ?_ ?_; focus (first | rfl | (simp [e2, hl, errR, ReplyR.enc, FSR.enc]; done))) | (refine Pc.go (h2) ?_ ?_; focus (first | rfl | (simp [e2, hl, errR, ReplyR.enc, FSR.enc]; done))) | (refine Pc.go (h3) ?_ ?_; focus (first | rfl | (simp [e2, hl, errR, ReplyR.enc, FSR.enc]; done))) | rw [if_pos (by first | omega | (simp only [maxLen]; omega))] | rw [if_neg (by first | omega | (simp only [maxLen]; omega))] | rw [frzOwn_neat (by simp) (by simp <;> omega)] | rw [fzOwn_neat (by simp) (by simp <;> omega)]); try simp [e2, hl, errR, ReplyR.enc, FSR.enc])
    | ((first | refine TstB.go (fun hw_ ew_ => ?_) (fun hw_ ew_ => ?_)) <;> first | (exfalso; first | omega | with_reducible exact hw_ (by assumption) | with_reducible exact absurd hw_ (by assumption)) | simp [ew_, e2, hl, errR, ReplyR.enc, FSR.enc])
    | fail)
end Go.Proofs.YtdnfnddlciafmaaGreat
