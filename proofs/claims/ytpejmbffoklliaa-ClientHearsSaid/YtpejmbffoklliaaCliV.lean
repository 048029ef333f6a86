/- A client that is answered OK each time, in plain Lean. -/
import Derived.Test.YtpejmbffoklliaaCliU
set_option linter.unusedVariables false
set_option linter.unusedSimpArgs false
namespace Go.Cx

def reply0 : ReplyR := ⟨0, 0, 0, 0, .empty, []⟩
def rspE (c : ClientR) : RspR := ⟨(sayS c).1.kind, c.me, c.epoch, (sayS c).1.seq, (sayS c).1.n, reply0⟩
def stepE (c : ClientR) : ClientR := hearS c (rspE c)
def sumF : List (List CallR) → Nat
  | [] => 0
  | l :: ls => l.length + 3 + sumF ls
def leftE (c : ClientR) : Nat :=
  if c.phase = 0 then sumF (c.jobs.drop c.told.length)
  else if c.phase = 1 ∨ c.phase = 2 then (jobS c).length - c.n.toNat + 2 + sumF (c.jobs.drop (c.told.length + 1))
  else if c.phase = 3 then 1 + sumF (c.jobs.drop c.told.length) else 0
structure EndP (c : ClientR) : Prop where
  right : RightP c
  jobs : c.jobs.length ≤ 20
  seqle : c.seq ≤ c.jobs.length + 1
  small : ∀ l ∈ c.jobs, l.length ≤ 30
  told : ∀ i (h : i < c.told.length) (h' : i < c.jobs.length), (c.told[i]).yes = true ∧ (c.told[i]).l.length = (c.jobs[i]).length

theorem sumF_drop (l : List (List CallR)) (k : Nat) (h : k < l.length) : sumF (l.drop k) = l[k].length + 3 + sumF (l.drop (k + 1)) := by
  rw [List.drop_eq_getElem_cons h, sumF]
theorem sumF_end (l : List (List CallR)) (k : Nat) (h : l.length ≤ k) : sumF (l.drop k) = 0 := by
  rw [List.drop_eq_nil_of_le h, sumF]

/-- Where it stands, in numbers. -/
theorem EndP.seq_eq {c : ClientR} (h : EndP c) : (c.phase = 3 ∧ (c.told.length : Int) = c.seq ∧ c.told.length ≤ c.jobs.length ∧ c.n = 0) ∨
    ((c.told.length : Int) = c.seq - 1 ∧ ((c.phase = 4 ∧ c.n = 0 ∧ c.told.length = c.jobs.length) ∨ (c.told.length < c.jobs.length ∧ ((c.phase = 0 ∧ c.n = 0) ∨ (c.phase = 1 ∧ c.n < (jobS c).length) ∨ (c.phase = 2 ∧ c.n = (jobS c).length))))) := by
  have h1 := h.right.at_
  have h2 := h.right.seq
  have h3 := h.jobs
  rcases h1 with ⟨a, b, d, e⟩ | ⟨a, b⟩
  · exact .inl ⟨a, d, e, b⟩
  · refine .inr ⟨?_, b⟩
    have h4 := h.seqle
    rw [a, w64_id (by omega) (by omega)]

theorem jobS_at {c : ClientR} (h : (c.told.length : Int) = c.seq - 1) (hl : c.told.length < c.jobs.length) : jobS c = c.jobs[c.told.length] := by
  have e : (c.seq - 1).toNat = c.told.length := by omega
  unfold jobS
  rw [if_neg (by omega), e]
  simp [hl]

theorem EndP.init {me epoch : Int} {jobs : List (List CallR)} (h1 : 0 ≤ me) (h2 : 1 ≤ epoch) (hj : jobs.length ≤ 20) (hs : ∀ l ∈ jobs, l.length ≤ 30) : EndP (newS me epoch jobs).1 ∧ leftE (newS me epoch jobs).1 = sumF jobs := by
  have e : (newS me epoch jobs).1 = ⟨me, epoch, 1, jobs, if jobs.length = 0 then 4 else 0, 0, 0, [], []⟩ := by
    unfold newS
    rw [if_neg (by omega)]
  rw [e]
  refine ⟨⟨⟨h1, h2, by simp, rfl, rfl, by simp, .inr ⟨by show (0 : Int) = w64 (1 - 1); decide, ?_⟩⟩, hj, by simp; omega, hs, fun i h => by simp at h⟩, ?_⟩
  · by_cases h0 : jobs.length = 0
    · left; simp [h0]
    · right; refine ⟨by simp; omega, .inl ?_⟩; simp [h0]
  · by_cases h0 : jobs.length = 0
    · have : jobs = [] := List.eq_nil_of_length_eq_zero h0
      subst this
      simp [leftE, sumF]
    · simp [leftE, h0]

theorem leftE_calls (c : ClientR) : leftE (callsS c) = (jobS c).length - c.n.toNat + 2 + sumF (c.jobs.drop (c.told.length + 1)) := by
  have hp : (callsS c).phase = 1 ∨ (callsS c).phase = 2 := by
    unfold callsS; dsimp only; split
    · exact .inr rfl
    · exact .inl rfl
  unfold leftE
  rw [if_neg (by omega), if_pos hp]
  rfl
theorem Hears.keep3 {c k : ClientR} {r : RspR} (hk : Hears c r k) : k.jobs = c.jobs ∧ k.me = c.me ∧ k.epoch = c.epoch := by
  cases hk <;> exact ⟨rfl, rfl, rfl⟩
/-- One answer that says OK. -/
theorem EndP.step {c : ClientR} (h : EndP c) {k : Nat} (hk : leftE c = k + 1) : (sayS c).2 = true ∧ EndP (stepE c) ∧ leftE (stepE c) = k ∧ (stepE c).jobs = c.jobs ∧ (stepE c).me = c.me ∧ (stepE c).epoch = c.epoch := by
  have hseq := h.seq_eq
  have hj := h.jobs
  have hr := h.right
  have hnow := hr.now
  have h3 := hr.seq
  have hsl := h.seqle
  have hhears := hears c (rspE c) (by omega)
  have hR : RightP (stepE c) := hr.hears (by omega) (by
    by_cases hp : c.phase = 1 ∨ c.phase = 2
    · have hl : c.told.length < c.jobs.length := by omega
      have := jobS_at (c := c) (by omega) hl
      have h2 := h.small _ (List.getElem_mem hl)
      rw [← this] at h2
      omega
    · omega) hhears
  have keep : (stepE c).jobs = c.jobs ∧ (stepE c).me = c.me ∧ (stepE c).epoch = c.epoch := hhears.keep3
  have hph : c.phase = 0 ∨ c.phase = 1 ∨ c.phase = 2 ∨ c.phase = 3 ∨ c.phase = 4 := by omega
  rcases hph with hp | hp | hp | hp | hp
  · -- it begins
    have hl : c.told.length < c.jobs.length := by omega
    have hn : c.n = 0 := by omega
    have hjob := jobS_at (c := c) (by omega) hl
    have hs : sayS c = (msgS c 1 0 0 .zero, true) := by unfold sayS; rw [if_pos hp]
    have e : stepE c = callsS { c with stamp := 0 } := by
      unfold stepE rspE hearS
      rw [hs]
      simp [msgS, beginS, reply0]
    have ej : jobS { c with stamp := 0 } = jobS c := rfl
    have ek : leftE c = (jobS c).length + 3 + sumF (c.jobs.drop (c.told.length + 1)) := by
      rw [leftE, if_pos hp, sumF_drop _ _ hl, hjob]
    refine ⟨by rw [hs], ⟨hR, by rw [keep.1]; exact hj, by rw [keep.1, e]; exact hsl, by rw [keep.1]; exact h.small, ?_⟩, ?_, keep⟩
    · rw [e]; exact h.told
    · rw [e, leftE_calls]
      show (jobS c).length - c.n.toNat + 2 + sumF (c.jobs.drop (c.told.length + 1)) = k
      omega
  · -- a call
    have hl : c.told.length < c.jobs.length := by omega
    have hjob := jobS_at (c := c) (by omega) hl
    have hn : c.n < (jobS c).length := by omega
    have h2 := h.small _ (List.getElem_mem hl)
    rw [← hjob] at h2
    have hs : sayS c = (msgS c 2 (w64 (c.n + 1)) c.stamp (callAt c), true) := by unfold sayS; rw [if_neg (by omega), if_pos hp]
    have ew : w64 (c.n + 1) = c.n + 1 := w64_id (by omega) (by omega)
    have e : stepE c = callsS { c with now := c.now ++ [reply0], n := c.n + 1 } := by
      unfold stepE rspE hearS
      rw [hs]
      have : ¬ c.n + 1 = -1 := by omega
      simp [msgS, callS, ew, this]
    have ej : jobS { c with now := c.now ++ [reply0], n := c.n + 1 } = jobS c := rfl
    have ek : leftE c = (jobS c).length - c.n.toNat + 2 + sumF (c.jobs.drop (c.told.length + 1)) := by
      rw [leftE, if_neg (by omega), if_pos (.inl hp)]
    refine ⟨by rw [hs], ⟨hR, by rw [keep.1]; exact hj, by rw [keep.1, e]; exact hsl, by rw [keep.1]; exact h.small, ?_⟩, ?_, keep⟩
    · rw [e]; exact h.told
    · rw [e, leftE_calls]
      show (jobS c).length - (c.n + 1).toNat + 2 + sumF (c.jobs.drop (c.told.length + 1)) = k
      omega
  · -- it commits
    have hl : c.told.length < c.jobs.length := by omega
    have hjob := jobS_at (c := c) (by omega) hl
    have hn : c.n = (jobS c).length := by omega
    have hs : sayS c = (msgS c 3 c.n c.stamp .zero, true) := by unfold sayS; rw [if_neg (by omega), if_neg (by omega), if_pos hp]
    have e : stepE c = overS c true 0 := by
      unfold stepE rspE hearS
      rw [hs]
      simp [msgS, decidedS, reply0]
    have ek : leftE c = (jobS c).length - c.n.toNat + 2 + sumF (c.jobs.drop (c.told.length + 1)) := by
      rw [leftE, if_neg (by omega), if_pos (.inr hp)]
    refine ⟨by rw [hs], ⟨hR, by rw [keep.1]; exact hj, by rw [keep.1, e]; exact hsl, by rw [keep.1]; exact h.small, ?_⟩, ?_, keep⟩
    · rw [e]
      intro i hi hi'
      simp only [overS] at hi hi' ⊢
      by_cases hlt : i < c.told.length
      · rw [List.getElem_append_left hlt]; exact h.told i hlt hi'
      · have : i = c.told.length := by simp at hi; omega
        subst this
        rw [List.getElem_append_right (Nat.le_refl _)]
        simp only [Nat.sub_self, List.getElem_cons_zero]
        rw [hjob] at hn
        exact ⟨by simp, by omega⟩
    · rw [e]
      simp [leftE, overS]; omega
  · -- it is over
    have hl : (c.told.length : Int) = c.seq ∧ c.told.length ≤ c.jobs.length := by omega
    have hs : sayS c = (msgS c 6 0 0 .zero, true) := by unfold sayS; rw [if_neg (by omega), if_neg (by omega), if_neg (by omega), if_pos hp]
    have ew : w64 (c.seq + 1) = c.seq + 1 := w64_id (by omega) (by omega)
    have e : stepE c = ackS c := by
      unfold stepE rspE hearS
      rw [hs]
      simp [msgS]
    have ek : leftE c = 1 + sumF (c.jobs.drop c.told.length) := by
      rw [leftE, if_neg (by omega), if_neg (by omega), if_pos hp]
    refine ⟨by rw [hs], ⟨hR, by rw [keep.1]; exact hj, ?_, by rw [keep.1]; exact h.small, ?_⟩, ?_, keep⟩
    · rw [keep.1, e]; show w64 (c.seq + 1) ≤ _; omega
    · rw [e]; exact h.told
    · rw [e]
      by_cases h0 : (c.jobs.length : Int) < c.seq + 1
      · have : sumF (c.jobs.drop c.told.length) = 0 := sumF_end _ _ (by omega)
        simp [leftE, ackS, ew, h0]; omega
      · simp [leftE, ackS, ew, h0]; omega
  · exfalso
    rw [leftE, if_neg (by omega), if_neg (by omega), if_neg (by omega)] at hk
    omega

theorem EndP.fin {c : ClientR} (h : EndP c) (hk : leftE c = 0) : (sayS c).2 = false ∧ c.told.length = c.jobs.length ∧ c.phase = 4 := by
  have hseq := h.seq_eq
  unfold leftE at hk
  have hp : c.phase = 4 := by
    by_cases h0 : c.phase = 0
    · have hl : c.told.length < c.jobs.length := by omega
      rw [if_pos h0, sumF_drop _ _ hl] at hk; omega
    · rw [if_neg h0] at hk
      by_cases h1 : c.phase = 1 ∨ c.phase = 2
      · rw [if_pos h1] at hk; omega
      · rw [if_neg h1] at hk
        by_cases h3 : c.phase = 3
        · rw [if_pos h3] at hk; omega
        · omega
  refine ⟨?_, by omega, hp⟩
  unfold sayS
  rw [if_neg (by omega), if_neg (by omega), if_neg (by omega), if_neg (by omega)]
end Go.Cx
