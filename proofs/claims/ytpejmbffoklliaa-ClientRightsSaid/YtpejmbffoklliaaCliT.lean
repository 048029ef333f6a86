/- What holds of a client, in plain Lean. -/
import Derived.Test.YtpejmbffoklliaaCliS
set_option linter.unusedVariables false
set_option linter.unusedSimpArgs false
namespace Go.Cx

/-- Right, written out. -/
structure RightP (c : ClientR) : Prop where
  me : 0 ≤ c.me
  epoch : 1 ≤ c.epoch
  seq : 1 ≤ c.seq
  now : c.n = c.now.length
  told : seqOk 1 c.told = true
  stamp : c.stamp ≠ 0 → c.phase = 1 ∨ c.phase = 2
  at_ : (c.phase = 3 ∧ c.n = 0 ∧ (c.told.length : Int) = c.seq ∧ c.told.length ≤ c.jobs.length) ∨
    ((c.told.length : Int) = w64 (c.seq - 1) ∧ ((c.phase = 4 ∧ c.n = 0 ∧ c.told.length = c.jobs.length) ∨
      (c.told.length < c.jobs.length ∧ ((c.phase = 0 ∧ c.n = 0) ∨ (c.phase = 1 ∧ c.n < (jobS c).length) ∨ (c.phase = 2 ∧ c.n = (jobS c).length)))))

theorem right_iff (c : ClientR) : rightS c = true ↔ RightP c := by
  constructor
  · intro h
    simp only [rightS, Bool.and_eq_true, decide_eq_true_eq] at h
    obtain ⟨⟨⟨⟨h1, h2, h3, h4, h5, h6⟩, h7⟩, h8⟩, h9⟩ := h
    refine ⟨h1, h2, h3, h6, h7, h8, ?_⟩
    split at h9
    · rename_i hp
      simp only [decide_eq_true_eq] at h9
      exact .inl ⟨hp, h9⟩
    · simp only [Bool.and_eq_true, decide_eq_true_eq] at h9
      refine .inr ⟨h9.1, ?_⟩
      have h9 := h9.2
      split at h9
      · rename_i hp
        simp only [decide_eq_true_eq] at h9
        exact .inl ⟨hp, h9⟩
      · simp only [Bool.and_eq_true, decide_eq_true_eq] at h9
        exact .inr h9
  · intro ⟨h1, h2, h3, h6, h7, h8, h9⟩
    have hph : 0 ≤ c.phase ∧ c.phase ≤ 4 := by omega
    simp only [rightS, Bool.and_eq_true, decide_eq_true_eq]
    refine ⟨⟨⟨⟨h1, h2, h3, hph.1, hph.2, h6⟩, h7⟩, h8⟩, ?_⟩
    rcases h9 with ⟨a, b⟩ | ⟨a, ⟨b, d⟩ | ⟨b, d⟩⟩
    · rw [if_pos a]; simpa using b
    · rw [if_neg (by omega), if_pos b]; simp only [Bool.and_eq_true, decide_eq_true_eq]; exact ⟨a, d⟩
    · rw [if_neg (by omega), if_neg (by omega)]; simp only [Bool.and_eq_true, decide_eq_true_eq]; exact ⟨a, b, d⟩

def inJobP (c : ClientR) : Prop := c.phase = 1 → 0 ≤ c.n ∧ c.n < (jobS c).length
theorem RightP.inJob {c : ClientR} (h : RightP c) : inJobP c := by
  intro hp
  have h1 := h.now
  have h2 := h.at_
  omega

/-- What a client hears, told by what it comes to. -/
inductive Hears (c : ClientR) (r : RspR) : ClientR → Prop
  | same : Hears c r c
  | over : c.phase = 0 ∨ c.phase = 1 ∨ c.phase = 2 → Hears c r (overS c (decide ((r.kind = 3 ∨ r.kind = 5) ∧ r.r.e = 0)) r.r.e)
  | begin : c.phase = 0 → Hears c r (callsS { c with stamp := r.r.a })
  | call : c.phase = 1 → Hears c r (callsS { c with now := c.now ++ [r.r], n := w64 (c.n + 1) })
  | ack : c.phase = 3 → Hears c r (ackS c)

theorem say_phase {c : ClientR} (h : (sayS c).2 = true) : ((sayS c).1.kind = 1 ∧ c.phase = 0) ∨ ((sayS c).1.kind = 2 ∧ c.phase = 1) ∨ ((sayS c).1.kind = 3 ∧ c.phase = 2) ∨ ((sayS c).1.kind = 6 ∧ c.phase = 3) := by
  unfold sayS at *
  split
  · simp_all [msgS]
  · split
    · simp_all [msgS]
    · split
      · simp_all [msgS]
      · split
        · simp_all [msgS]
        · simp_all
theorem asks_phase {c : ClientR} (h : (asksS c).2 = true) : c.phase < 3 := by
  unfold asksS at h
  split at h
  · simp at h
  · omega

theorem hears (c : ClientR) (r : RspR) (h0 : 0 ≤ c.phase) : Hears c r (hearS c r) := by
  unfold hearS
  split
  · exact .same
  · rename_i h1
    have hs : (sayS c).2 = true := by
      cases h : (sayS c).2 with
      | true => rfl
      | false => exact absurd (.inl h) h1
    split
    · exact .same
    · rename_i h2
      have hp := say_phase hs
      have hk : r.kind = (sayS c).1.kind ∨ ((asksS c).2 = true ∧ r.kind = 5) := by
        by_cases h : r.kind = (sayS c).1.kind
        · exact .inl h
        · refine .inr ?_
          false_or_by_contra
          rename_i h3
          exact h2 (.inl ⟨h, h3⟩)
      split
      · rename_i k
        have : c.phase = 0 := by omega
        unfold beginS
        split
        · exact .begin this
        · split
          · exact .same
          · have e : (decide ((r.kind = 3 ∨ r.kind = 5) ∧ r.r.e = 0)) = false := by simp; omega
            have := Hears.over (c := c) (r := r) (.inl this)
            rw [e] at this; exact this
      · split
        · rename_i k1 k
          have : c.phase = 1 := by omega
          unfold callS
          split
          · have e : (decide ((r.kind = 3 ∨ r.kind = 5) ∧ r.r.e = 0)) = false := by simp; omega
            have := Hears.over (c := c) (r := r) (.inr (.inl this))
            rw [e] at this; exact this
          · exact .call this
        · split
          · rename_i k1 k2 k
            unfold decidedS
            split
            · exact .same
            · have hph : c.phase = 0 ∨ c.phase = 1 ∨ c.phase = 2 := by
                rcases hk with hk | hk
                · omega
                · have := asks_phase hk.1; omega
              have := Hears.over (c := c) (r := r) hph
              have e : (decide ((r.kind = 3 ∨ r.kind = 5) ∧ r.r.e = 0)) = decide (r.r.e = 0) := by simp [k]
              rw [e] at this; exact this
          · rename_i k1 k2 k3
            have : c.phase = 3 := by omega
            exact .ack this

theorem w64_id {n : Int} (h1 : -9223372036854775808 ≤ n) (h2 : n < 9223372036854775808) : w64 n = n := wrap_id h1 h2
theorem seqOk_snoc (l : List DoneR) (d : DoneR) : ∀ k : Int, seqOk k l = true → d.seq = k + l.length → seqOk k (l ++ [d]) = true := by
  induction l with
  | nil => intro k _ h; simp [seqOk]; simpa using h
  | cons a l ih =>
    intro k h hd
    simp only [List.cons_append, seqOk, Bool.and_eq_true] at h ⊢
    refine ⟨h.1, ih (k + 1) h.2 ?_⟩
    simp only [List.length_cons] at hd
    omega

theorem RightP.seq_lt {c : ClientR} (h : RightP c) (hs : c.seq < 9223372036854775808) (ht : c.told.length ≤ 30) : c.seq < 9223372036854775807 := by
  have h3 := h.seq
  have e1 : w64 (c.seq - 1) = c.seq - 1 := w64_id (by omega) (by omega)
  have h9 := h.at_
  rw [e1] at h9
  omega
/-- It stays right. -/
theorem RightP.hears {c k : ClientR} {r : RspR} (h : RightP c) (hs : c.seq < 9223372036854775807) (hn : c.now.length ≤ 1000000) (hk : Hears c r k) : RightP k := by
  obtain ⟨h1, h2, h3, h6, h7, h8, h9⟩ := h
  have e1 : w64 (c.seq - 1) = c.seq - 1 := w64_id (by omega) (by omega)
  rw [e1] at h9
  have hjob : ∀ (ph n st : Int) (t : List DoneR) (nw : List ReplyR), jobS { c with phase := ph, n := n, stamp := st, told := t, now := nw } = jobS c := fun _ _ _ _ _ => rfl
  cases hk with
  | same => exact ⟨h1, h2, h3, h6, h7, h8, by rw [e1]; exact h9⟩
  | over hp =>
    refine ⟨h1, h2, h3, rfl, seqOk_snoc _ _ 1 h7 (by simp only []; omega), fun h => absurd rfl h, .inl ⟨rfl, rfl, ?_, ?_⟩⟩
    · simp only [overS, List.length_append, List.length_cons, List.length_nil]; omega
    · simp only [overS, List.length_append, List.length_cons, List.length_nil]; omega
  | begin hp =>
    have hl : c.told.length < c.jobs.length ∧ (c.told.length : Int) = c.seq - 1 ∧ c.n = 0 := by omega
    refine ⟨h1, h2, h3, h6, h7, fun _ => ?_, .inr ⟨by show (c.told.length : Int) = w64 (c.seq - 1); rw [e1]; exact hl.2.1, .inr ⟨hl.1, .inr ?_⟩⟩⟩
    · simp only [callsS]; split <;> simp
    · show ((if c.n = ((jobS { c with stamp := r.r.a }).length : Int) then (2 : Int) else 1) = 1 ∧ c.n < (jobS c).length) ∨ ((if c.n = ((jobS { c with stamp := r.r.a }).length : Int) then (2 : Int) else 1) = 2 ∧ c.n = (jobS c).length)
      have : jobS { c with stamp := r.r.a } = jobS c := rfl
      rw [this]
      split
      · right; omega
      · left; omega
  | call hp =>
    have hl : c.told.length < c.jobs.length ∧ (c.told.length : Int) = c.seq - 1 ∧ c.n < (jobS c).length := by omega
    have e2 : w64 (c.n + 1) = c.n + 1 := w64_id (by omega) (by omega)
    have ej : jobS { c with now := c.now ++ [r.r], n := w64 (c.n + 1) } = jobS c := rfl
    refine ⟨h1, h2, h3, ?_, h7, fun _ => ?_, .inr ⟨by show (c.told.length : Int) = w64 (c.seq - 1); rw [e1]; exact hl.2.1, .inr ⟨hl.1, .inr ?_⟩⟩⟩
    · show w64 (c.n + 1) = ((c.now ++ [r.r]).length : Int)
      rw [e2]; simp only [List.length_append, List.length_cons, List.length_nil]; omega
    · simp only [callsS]; split <;> simp
    · show ((if w64 (c.n + 1) = ((jobS { c with now := c.now ++ [r.r], n := w64 (c.n + 1) }).length : Int) then (2 : Int) else 1) = 1 ∧ w64 (c.n + 1) < (jobS c).length) ∨ ((if w64 (c.n + 1) = ((jobS { c with now := c.now ++ [r.r], n := w64 (c.n + 1) }).length : Int) then (2 : Int) else 1) = 2 ∧ w64 (c.n + 1) = (jobS c).length)
      rw [ej, e2]
      split
      · right; omega
      · left; omega
  | ack hp =>
    have hl : (c.told.length : Int) = c.seq ∧ c.told.length ≤ c.jobs.length := by omega
    have e2 : w64 (c.seq + 1) = c.seq + 1 := w64_id (by omega) (by omega)
    have e3 : w64 (c.seq + 1 - 1) = c.seq := by rw [show c.seq + 1 - 1 = c.seq by omega]; exact w64_id (by omega) (by omega)
    refine ⟨h1, h2, by show 1 ≤ w64 (c.seq + 1); omega, rfl, h7, fun h => absurd rfl h, .inr ⟨?_, ?_⟩⟩
    · show (c.told.length : Int) = w64 (w64 (c.seq + 1) - 1)
      rw [e2, e3]; exact hl.1
    · show ((if (c.jobs.length : Int) < w64 (c.seq + 1) then (4 : Int) else 0) = 4 ∧ (0 : Int) = 0 ∧ c.told.length = c.jobs.length) ∨ (c.told.length < c.jobs.length ∧ _)
      rw [e2]
      by_cases hj : (c.jobs.length : Int) < c.seq + 1
      · left; rw [if_pos hj]; omega
      · right
        refine ⟨by omega, .inl ⟨?_, rfl⟩⟩
        show (if (c.jobs.length : Int) < w64 (c.seq + 1) then (4 : Int) else 0) = 0
        rw [e2, if_neg hj]

theorem Hears.keeps {c k : ClientR} {r : RspR} (hk : Hears c r k) : k.me = c.me ∧ k.epoch = c.epoch ∧ (k.seq = c.seq ∨ k.seq = w64 (c.seq + 1)) ∧ (k.told = c.told ∨ ∃ d, k.told = c.told ++ [d]) := by
  cases hk with
  | same => exact ⟨rfl, rfl, .inl rfl, .inl rfl⟩
  | over hp => exact ⟨rfl, rfl, .inl rfl, .inr ⟨_, rfl⟩⟩
  | begin hp => exact ⟨rfl, rfl, .inl rfl, .inl rfl⟩
  | call hp => exact ⟨rfl, rfl, .inl rfl, .inl rfl⟩
  | ack hp => exact ⟨rfl, rfl, .inr rfl, .inl rfl⟩
end Go.Cx
