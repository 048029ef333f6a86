/- ClientOthers, walked. -/
import Derived.Test.YtpejmbffoklliaaLawW18
import Derived.Test.YtpejmbffoklliaaR18X
import Derived.Test.YtpejmbffoklliaaCliU
set_option linter.unusedVariables false
set_option linter.unusedSimpArgs false
namespace Go.Proofs.Ytpejmbffoklliaa
open Go.Cx Tab
set_option maxHeartbeats 400000
set_option maxRecDepth 4000

theorem others_ok (c : ClientR) (r : RspR) (hs : c.seq < 9223372036854775808) : PCall Try.prog 4 [.agg c.enc, .agg r.enc] (B true) := by
  refine PCall.mk (fun _ => false) Try.func4 rfl rfl rfl (Ent.mk Try.func4 (by kernel_rfl) rfl) (by simp) (by simp) fun hfit => ?_
  simp [Try.f4, ClientR.enc, RspR.enc, ReplyR.enc]
  refine AInv.pure shown_ok rfl ?_
  simp
  refine AInv.pure (good_ok c) rfl ?_
  cases hg : goodS c with
  | false => simp
  | true =>
  simp
  by_cases hn : r.r.names.length ≤ 100
  case neg => simp [Nat.lt_of_not_le hn]
  simp [Nat.not_lt.2 hn]
  obtain ⟨hf, hr⟩ := good_right hg
  have hf := fewS_told hf
  have hk := hears c r (by have := hr.at_; omega)
  have hs : c.seq < 9223372036854775807 := hr.seq_lt hs (by omega)
  have hag := hear_again (r := r) hr hs (by omega)
  have hot := fun h => hear_other (c := c) (r := r) h
  have hR : RightP (hearS c r) := hr.hears hs (by omega) hk
  have hl' : ∀ k, Hears c r k → k.told.length ≤ 1000000 ∧ k.now.length ≤ 1000000 := by
    intro k hk
    cases hk with
    | same => omega
    | over hp => simp [overS]; omega
    | begin hp => simp [callsS]; omega
    | call hp => simp [callsS]; omega
    | ack hp => simp [ackS]; omega
  have hl := hl' _ hk
  clear hl'
  refine AInv.pure (hear_ok c r hr.inJob (by omega) (by omega)) rfl ?_
  generalize hearS c r = k at *
  have rest : ∀ (Q : Prop), Q → Q := fun _ h => h
  by_cases o : r.client ≠ c.me ∨ r.epoch ≠ c.epoch ∨ r.seq ≠ c.seq
  · have ek := hot o
    subst ek
    by_cases o1 : r.client = k.me
    · by_cases o2 : r.epoch = k.epoch
      · have o3 : ¬ r.seq = k.seq := by omega
        simp [ClientR.enc, eq_true o1, eq_true o2, o3]
        refine AInv.pure (rsame_ok k k) rfl ?_
        simp
        refine AInv.pure (hear_ok k r hR.inJob hl.1 hl.2) rfl ?_
        rw [hag]
        simp [ClientR.enc]
        refine AInv.pure (say_ok k hR.inJob) rfl ?_
        simp [MsgR.enc, CallR.enc]
        refine AInv.pure (rsame_ok k k) rfl ?_
        simp
      · simp [ClientR.enc, eq_true o1, o2]
        refine AInv.pure (rsame_ok k k) rfl ?_
        simp
        refine AInv.pure (hear_ok k r hR.inJob hl.1 hl.2) rfl ?_
        rw [hag]
        simp [ClientR.enc]
        refine AInv.pure (say_ok k hR.inJob) rfl ?_
        simp [MsgR.enc, CallR.enc]
        refine AInv.pure (rsame_ok k k) rfl ?_
        simp
    · simp [ClientR.enc, o1]
      refine AInv.pure (rsame_ok k k) rfl ?_
      simp
      refine AInv.pure (hear_ok k r hR.inJob hl.1 hl.2) rfl ?_
      rw [hag]
      simp [ClientR.enc]
      refine AInv.pure (say_ok k hR.inJob) rfl ?_
      simp [MsgR.enc, CallR.enc]
      refine AInv.pure (rsame_ok k k) rfl ?_
      simp
  · have o1 : r.client = c.me := by false_or_by_contra; rename_i h; exact o (.inl h)
    have o2 : r.epoch = c.epoch := by false_or_by_contra; rename_i h; exact o (.inr (.inl h))
    have o3 : r.seq = c.seq := by false_or_by_contra; rename_i h; exact o (.inr (.inr h))
    simp [ClientR.enc, eq_true o1, eq_true o2, eq_true o3]
    refine AInv.pure (hear_ok k r hR.inJob hl.1 hl.2) rfl ?_
    rw [hag]
    simp [ClientR.enc]
    refine AInv.pure (say_ok k hR.inJob) rfl ?_
    simp [MsgR.enc, CallR.enc]
    refine AInv.pure (rsame_ok k k) rfl ?_
    simp
end Go.Proofs.Ytpejmbffoklliaa
