/- What is heard again, in plain Lean. -/
import Derived.Test.YtpejmbffoklliaaCliT
set_option linter.unusedVariables false
set_option linter.unusedSimpArgs false
namespace Go.Cx

theorem hear_skip1 {k : ClientR} {r : RspR} (h1 : r.kind ≠ (sayS k).1.kind) (h2 : ¬ ((asksS k).2 = true ∧ r.kind = 5)) : hearS k r = k := by
  unfold hearS
  split
  · rfl
  · rw [if_pos (.inl ⟨h1, h2⟩)]
theorem hear_skip2 {k : ClientR} {r : RspR} (h : r.seq ≠ k.seq) : hearS k r = k := by
  unfold hearS
  rw [if_pos (.inr (.inr (.inr h)))]
theorem hear_skip3 {k : ClientR} {r : RspR} (h : r.kind = 2 ∧ r.n ≠ (sayS k).1.n ∧ r.n ≠ -1) : hearS k r = k := by
  unfold hearS
  split
  · rfl
  · rw [if_pos (.inr h)]

/-- What is heard turns it, or not. -/
theorem hear_ways (c : ClientR) (r : RspR) : hearS c r = c ∨ ((r.client = c.me ∧ r.epoch = c.epoch ∧ r.seq = c.seq) ∧
    ((∃ yes e, hearS c r = overS c yes e ∧ (r.kind = 1 ∨ r.kind = 2 ∨ r.kind = 3 ∨ r.kind = 5)) ∨ (hearS c r = callsS { c with stamp := r.r.a } ∧ r.kind = 1) ∨
     (hearS c r = callsS { c with now := c.now ++ [r.r], n := w64 (c.n + 1) } ∧ r.kind = 2 ∧ r.n = w64 (c.n + 1) ∧ r.n ≠ -1) ∨ (hearS c r = ackS c ∧ c.phase = 3))) := by
  unfold hearS
  split
  · exact .inl rfl
  · rename_i h1
    have hs : (sayS c).2 = true := by
      cases h : (sayS c).2 with
      | true => rfl
      | false => exact absurd (.inl h) h1
    have hm : r.client = c.me ∧ r.epoch = c.epoch ∧ r.seq = c.seq := by
      refine ⟨?_, ?_, ?_⟩ <;> false_or_by_contra <;> rename_i h
      · exact h1 (.inr (.inl h))
      · exact h1 (.inr (.inr (.inl h)))
      · exact h1 (.inr (.inr (.inr h)))
    split
    · exact .inl rfl
    · rename_i h2
      have hp := say_phase hs
      have hk : r.kind = (sayS c).1.kind ∨ ((asksS c).2 = true ∧ r.kind = 5) := by
        by_cases h : r.kind = (sayS c).1.kind
        · exact .inl h
        · refine .inr ?_
          false_or_by_contra
          rename_i h3
          exact h2 (.inl ⟨h, h3⟩)
      split
      · rename_i k
        unfold beginS
        split
        · exact .inr ⟨hm, .inr (.inl ⟨rfl, k⟩)⟩
        · split
          · exact .inl rfl
          · exact .inr ⟨hm, .inl ⟨_, _, rfl, .inl k⟩⟩
      · split
        · rename_i k1 k
          have hph : c.phase = 1 := by omega
          unfold callS
          split
          · exact .inr ⟨hm, .inl ⟨_, _, rfl, .inr (.inl k)⟩⟩
          · rename_i hn
            have hn2 : r.n = (sayS c).1.n := by
              false_or_by_contra
              rename_i h
              exact h2 (.inr ⟨k, h, hn⟩)
            have e : (sayS c).1.n = w64 (c.n + 1) := by
              unfold sayS
              rw [if_neg (by omega), if_pos hph]; rfl
            exact .inr ⟨hm, .inr (.inr (.inl ⟨rfl, k, by rw [hn2, e], hn⟩))⟩
        · split
          · rename_i k1 k2 k
            unfold decidedS
            split
            · exact .inl rfl
            · exact .inr ⟨hm, .inl ⟨_, _, rfl, by omega⟩⟩
          · rename_i k1 k2 k3
            exact .inr ⟨hm, .inr (.inr (.inr ⟨rfl, by omega⟩))⟩

theorem calls_phase (c : ClientR) : ((callsS c).phase = 1 ∧ (sayS (callsS c)).1.kind = 2 ∧ (sayS (callsS c)).1.n = w64 (c.n + 1)) ∨ ((callsS c).phase = 2 ∧ (sayS (callsS c)).1.kind = 3) := by
  unfold callsS
  split
  · right; exact ⟨rfl, by simp [sayS, msgS]⟩
  · left; exact ⟨rfl, by simp [sayS, msgS], by simp [sayS, msgS]⟩

theorem hear_again {c : ClientR} {r : RspR} (h : RightP c) (hs : c.seq < 9223372036854775807) (hn : c.now.length ≤ 1000000) : hearS (hearS c r) r = hearS c r := by
  rcases hear_ways c r with e | ⟨⟨_, _, hq⟩, ⟨yes, er, e, hk⟩ | ⟨e, hk⟩ | ⟨e, hk, hn1, hn2⟩ | ⟨e, hp⟩⟩
  · rw [e, e]
  · rw [e]
    refine hear_skip1 ?_ ?_
    · have : (sayS (overS c yes er)).1.kind = 6 := by simp [sayS, overS, msgS]
      omega
    · rintro ⟨h1, _⟩
      simp [asksS, overS] at h1
  · rw [e]
    refine hear_skip1 ?_ (by omega)
    have := calls_phase { c with stamp := r.r.a }
    omega
  · rw [e]
    rcases calls_phase { c with now := c.now ++ [r.r], n := w64 (c.n + 1) } with ⟨_, _, h3⟩ | ⟨_, h2⟩
    · refine hear_skip3 ⟨hk, ?_, hn2⟩
      rw [h3, hn1]
      have h6 := h.now
      have e2 : w64 (c.n + 1) = c.n + 1 := w64_id (by omega) (by omega)
      show w64 (c.n + 1) ≠ w64 (w64 (c.n + 1) + 1)
      rw [e2, w64_id (n := c.n + 1 + 1) (by omega) (by omega)]
      omega
    · exact hear_skip1 (by rw [h2]; omega) (by omega)
  · rw [e]
    refine hear_skip2 ?_
    have h3 := h.seq
    show r.seq ≠ w64 (c.seq + 1)
    rw [hq, w64_id (by omega) (by omega)]
    omega
theorem hear_other {c : ClientR} {r : RspR} (h : r.client ≠ c.me ∨ r.epoch ≠ c.epoch ∨ r.seq ≠ c.seq) : hearS c r = c := by
  unfold hearS
  rw [if_pos (.inr h)]

/-- The answer to its call. -/
theorem hear_call {c : ClientR} (h : RightP c) (hp : c.phase = 1) (hn : c.now.length ≤ 1000000) (q : ReplyR) : hearS c ⟨2, c.me, c.epoch, c.seq, w64 (c.n + 1), q⟩ = callsS { c with now := c.now ++ [q], n := w64 (c.n + 1) } := by
  have h6 := h.now
  have e2 : w64 (c.n + 1) = c.n + 1 := w64_id (by omega) (by omega)
  have hs : sayS c = (msgS c 2 (w64 (c.n + 1)) c.stamp (callAt c), true) := by
    unfold sayS
    rw [if_neg (by omega), if_pos hp]
  unfold hearS
  rw [hs]
  have : ¬ (c.n + 1 = -1) := by omega
  simp [msgS, callS, e2, this]
end Go.Cx
