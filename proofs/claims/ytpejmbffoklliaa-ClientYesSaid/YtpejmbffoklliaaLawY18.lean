/- ClientYes, walked. -/
import Derived.Test.YtpejmbffoklliaaLawW18
set_option linter.unusedVariables false
set_option linter.unusedSimpArgs false
namespace Go.Proofs.Ytpejmbffoklliaa
open Go.Cx Tab
set_option maxHeartbeats 400000
set_option maxRecDepth 4000

theorem yes_ok (c : ClientR) (r : RspR) (hs : c.seq < 9223372036854775808) : PCall Try.prog 6 [.agg c.enc, .agg r.enc] (B true) := by
  refine PCall.mk (fun _ => false) Try.func6 rfl rfl rfl (Ent.mk Try.func6 (by kernel_rfl) rfl) (by simp) (by simp) fun hfit => ?_
  simp [Try.f6, ClientR.enc, RspR.enc, ReplyR.enc]
  refine AInv.pure shown_ok rfl ?_
  simp
  refine AInv.pure (good_ok c) rfl ?_
  cases hg : goodS c with
  | false => simp
  | true =>
  simp
  by_cases hn : r.r.names.length ≤ 100
  case neg => simp [Nat.lt_of_not_le hn]
  simp [Nat.not_lt.2 hn]
  obtain ⟨hf, hr⟩ := good_right hg
  have hf := fewS_told hf
  have hk := hears c r (by have := hr.at_; omega)
  refine AInv.pure (hear_ok c r hr.inJob (by omega) (by omega)) rfl ?_
  have hw : IntKind.i64.wrap ((c.told.length : Int) + 1) = (c.told.length : Int) + 1 := wrap_id (by omega) (by omega)
  generalize hearS c r = k at *
  cases hk with
  | same => simp [ClientR.enc]
  | begin hp => simp [ClientR.enc, callsS]
  | call hp => simp [ClientR.enc, callsS]
  | ack hp => simp [ClientR.enc, ackS]
  | over hp =>
    have hne : ¬ ((c.told.length : Int) + 1 = c.told.length) := by omega
    have hlt : (c.told.length : Int) < (c.told.length : Int) + 1 := by omega
    have hk3 : r.kind = 3 ∨ r.kind = 5 ∨ (¬ r.kind = 3 ∧ ¬ r.kind = 5) := by omega
    by_cases he : r.r.e = 0
    · rcases hk3 with a | a | ⟨a, b⟩
      · simp [ClientR.enc, overS, hw, hne, hlt, DoneR.enc, a, he, -List.flatMap_append]
        refine AInv.pure (all_ok c.now c.now) rfl ?_
        simp
      · simp [ClientR.enc, overS, hw, hne, hlt, DoneR.enc, a, he, -List.flatMap_append]
        refine AInv.pure (all_ok c.now c.now) rfl ?_
        simp
      · simp [ClientR.enc, overS, hw, hne, hlt, DoneR.enc, a, b, he, -List.flatMap_append]
        refine AInv.pure (all_ok c.now c.now) rfl ?_
        simp
    · rcases hk3 with a | a | ⟨a, b⟩
      · simp [ClientR.enc, overS, hw, hne, hlt, DoneR.enc, a, he, -List.flatMap_append]
        refine AInv.pure (all_ok c.now c.now) rfl ?_
        simp
      · simp [ClientR.enc, overS, hw, hne, hlt, DoneR.enc, a, he, -List.flatMap_append]
        refine AInv.pure (all_ok c.now c.now) rfl ?_
        simp
      · simp [ClientR.enc, overS, hw, hne, hlt, DoneR.enc, a, b, he, -List.flatMap_append]
        refine AInv.pure (all_ok c.now c.now) rfl ?_
        simp
end Go.Proofs.Ytpejmbffoklliaa
