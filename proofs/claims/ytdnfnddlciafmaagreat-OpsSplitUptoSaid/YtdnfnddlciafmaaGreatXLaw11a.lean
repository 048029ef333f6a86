import Derived.Test.YtdnfnddlciafmaaGreatXOpT
import Derived.Test.YtdnfnddlciafmaaGreatXBm
set_option linter.unusedVariables false
set_option linter.unusedSimpArgs false
namespace Go.Proofs.YtdnfnddlciafmaaGreat
open Go.Cx Tab
set_option maxHeartbeats 400000
set_option maxRecDepth 40000
theorem rnew08_ok : PCall Tryz.prog 68 [] (encF newF) := by
  refine Pm Tryz.func68 fun hfit => ?_
  simp [Tryz.f68]
  have s_ := And.intro @FSR.enc.eq_1 (And.intro @newF.eq_1 (@NodeR.enc.eq_1))
  try simp [s_]
  repeat' ((first | ((first | refine Tp ?_ | refine Tn ?_ | refine T2 ?_ ?_) <;> intro hw_ ew_ nw_) | rw [Ip] | rw [In] | rw [Fz] | rw [Gz] | fail) <;> first | simp [ew_, nw_, s_] | simp [s_] | skip)
theorem shown11_ok : PCall Tryz.prog 19 [] (B true) := by
  have hwf : cA.wf := by unfold CallR.wf cA; simp only [inI]; exact ⟨⟨by decide, by decide⟩, ⟨by decide, by decide⟩, ⟨by decide, by decide⟩, ⟨by decide, by decide⟩, ⟨by decide, by decide⟩, by decide, by decide, by decide⟩
  have hN := (rows_iff newF).1 rowsN
  have hA := (rows_iff fA).1 rowsA
  have h0 := rnew08_ok
  have h1 := do_ok newF cA hN (by decide) hwf ⟨by decide +kernel, by decide +kernel⟩
  have h2 := do_ok fA cA hA (by decide) hwf ⟨by decide +kernel, by decide +kernel⟩
  have h3 := looks_ok fA cA hA
  rw [doA] at h1
  rw [doB] at h2
  rw [looksA] at h3
  have hl : fA.l.length = 2 := rfl
  generalize newF = F at *
  generalize fA = G at *
  have e1 : encC cA = .agg [I 6, I 1, I 0, I 0, I 0, S (T [97]), S .empty, S .empty] := rfl
  rw [e1] at h1 h2 h3
  have e2 : (⟨#[97]⟩ : ByteArray) = T [97] := rfl
  refine Pm Tryz.func19 fun hfit => ?_
  simp [Tryz.f19]
  have s_ := And.intro @e2 (And.intro @hl (And.intro @errR.eq_1 (And.intro @ReplyR.enc.eq_1 (@FSR.enc.eq_1))))
  try simp [s_]
  repeat' ((first | ((first | refine Tp ?_ | refine Tn ?_ | refine T2 ?_ ?_) <;> intro hw_ ew_ nw_) | (refine AW.room (AW.room (Dg 2 9 [1, 2] [(6, .r 1), (7, .r 2)] ?_)); simp [e2]) | refine Pg h0 ?_ | refine Pg h1 ?_ | refine Pg h2 ?_ | refine Pg h3 ?_ | rw [Ip] | rw [In] | rw [Fz] | rw [Gz] | fail) <;> first | simp [ew_, nw_, s_] | simp [s_] | skip)
end Go.Proofs.YtdnfnddlciafmaaGreat
