/- What a client does, in plain Lean. -/
import Derived.Test.YtpejmbffoklliaaApiM
set_option linter.unusedVariables false
namespace Go.Cx

abbrev w64 (n : Int) : Int := IntKind.i64.wrap n
def jobS (c : ClientR) : List CallR := if c.seq < 1 ∨ c.jobs.length < c.seq then [] else c.jobs.getD (c.seq - 1).toNat []
def newS (me epoch : Int) (jobs : List (List CallR)) : ClientR × Int :=
  if me < 0 ∨ epoch < 1 then (⟨0, 0, 0, [], 0, 0, 0, [], []⟩, 1) else (⟨me, epoch, 1, jobs, if jobs.length = 0 then 4 else 0, 0, 0, [], []⟩, 0)
def msgS (c : ClientR) (kind n stamp : Int) (call : CallR) : MsgR := ⟨kind, c.me, c.epoch, c.seq, n, stamp, call⟩
def callAt (c : ClientR) : CallR := ((jobS c)[c.n.toNat]?).getD .zero
def sayS (c : ClientR) : MsgR × Bool :=
  if c.phase = 0 then (msgS c 1 0 0 .zero, true)
  else if c.phase = 1 then (msgS c 2 (w64 (c.n + 1)) c.stamp (callAt c), true)
  else if c.phase = 2 then (msgS c 3 c.n c.stamp .zero, true)
  else if c.phase = 3 then (msgS c 6 0 0 .zero, true)
  else (.zero, false)
def asksS (c : ClientR) : MsgR × Bool := if 3 ≤ c.phase then (.zero, false) else (msgS c 5 0 0 .zero, true)
def overS (c : ClientR) (yes : Bool) (e : Int) : ClientR := { c with told := c.told ++ [⟨c.seq, yes, e, c.now⟩], phase := 3, n := 0, stamp := 0, now := [] }
def callsS (c : ClientR) : ClientR := { c with phase := if c.n = (jobS c).length then 2 else 1 }
def beginS (c : ClientR) (r : RspR) : ClientR :=
  if r.r.e = 0 then callsS { c with stamp := r.r.a } else if r.r.e = 7 ∨ r.r.e = 20 ∨ r.r.e = 12 then c else overS c false r.r.e
def callS (c : ClientR) (r : RspR) : ClientR := if r.n = -1 then overS c false r.r.e else callsS { c with now := c.now ++ [r.r], n := w64 (c.n + 1) }
def decidedS (c : ClientR) (r : RspR) : ClientR := if r.r.e = 20 ∨ r.r.e = 12 ∨ r.r.e = 5 ∨ r.r.e = 19 then c else overS c (r.r.e = 0) r.r.e
def ackS (c : ClientR) : ClientR := { c with seq := w64 (c.seq + 1), phase := if c.jobs.length < w64 (c.seq + 1) then 4 else 0, n := 0, stamp := 0, now := [] }
def hearS (c : ClientR) (r : RspR) : ClientR :=
  if (sayS c).2 = false ∨ r.client ≠ c.me ∨ r.epoch ≠ c.epoch ∨ r.seq ≠ c.seq then c
  else if (r.kind ≠ (sayS c).1.kind ∧ ¬ ((asksS c).2 = true ∧ r.kind = 5)) ∨ (r.kind = 2 ∧ r.n ≠ (sayS c).1.n ∧ r.n ≠ -1) then c
  else if r.kind = 1 then beginS c r else if r.kind = 2 then callS c r else if r.kind = 3 ∨ r.kind = 5 then decidedS c r else ackS c

def smallGo : List CallR → Int → Int
  | [], n => n
  | c :: l, n => if n ≤ 2000 then smallGo l (w64 (w64 (w64 (n + c.name.size) + c.name2.size) + c.text.size)) else n
def smallS (l : List CallR) : Bool := decide (smallGo l l.length ≤ 2000) && decide (l.length ≤ 30)
def fewS (c : ClientR) : Bool := decide (c.jobs.length ≤ 20 ∧ c.told.length ≤ 30 ∧ c.now.length ≤ 40) && c.jobs.all smallS && c.told.all fun d => decide (d.l.length ≤ 40)
/-- The rows are numbered from 1 on. -/
def seqOk : Int → List DoneR → Bool
  | _, [] => true
  | i, d :: l => decide (d.seq = i) && seqOk (i + 1) l
def rightS (c : ClientR) : Bool :=
  decide (0 ≤ c.me ∧ 1 ≤ c.epoch ∧ 1 ≤ c.seq ∧ 0 ≤ c.phase ∧ c.phase ≤ 4 ∧ c.n = c.now.length) && seqOk 1 c.told &&
  decide (c.stamp ≠ 0 → c.phase = 1 ∨ c.phase = 2) &&
  (if c.phase = 3 then decide (c.n = 0 ∧ (c.told.length : Int) = c.seq ∧ c.told.length ≤ c.jobs.length)
   else decide ((c.told.length : Int) = w64 (c.seq - 1)) &&
    (if c.phase = 4 then decide (c.n = 0 ∧ c.told.length = c.jobs.length)
     else decide (c.told.length < c.jobs.length) && decide ((c.phase = 0 ∧ c.n = 0) ∨ (c.phase = 1 ∧ c.n < (jobS c).length) ∨ (c.phase = 2 ∧ c.n = (jobS c).length))))
theorem smallGo_step {l : List CallR} {i : Nat} (h : i < l.length) (n : Int) (hn : n ≤ 2000) : smallGo (l.drop i) n = smallGo (l.drop (i + 1)) (w64 (w64 (w64 (n + (l[i]).name.size) + (l[i]).name2.size) + (l[i]).text.size)) := by
  rw [List.drop_eq_getElem_cons h, smallGo, if_pos hn]
theorem smallGo_big (l : List CallR) (n : Int) (hn : ¬ n ≤ 2000) : smallGo l n = n := by
  cases l with
  | nil => rfl
  | cons c l => rw [smallGo, if_neg hn]
theorem seqOk_iff (l : List DoneR) (k : Int) : seqOk k l = true ↔ ∀ i (h : i < l.length), (l[i]).seq = k + i := by
  induction l generalizing k with
  | nil => simp [seqOk]
  | cons d l ih =>
    simp only [seqOk, Bool.and_eq_true, decide_eq_true_eq, ih]
    constructor
    · rintro ⟨h1, h2⟩ i hi
      cases i with
      | zero => simpa using h1
      | succ i => have := h2 i (by simpa using hi); simp only [List.getElem_cons_succ, this]; omega
    · intro h
      refine ⟨by have := h 0 (by simp); simp only [List.getElem_cons_zero] at this; omega, fun i hi => ?_⟩
      have := h (i + 1) (by simpa using hi)
      simp only [List.getElem_cons_succ] at this
      rw [this]; omega

theorem say_kind {c : ClientR} (h : (sayS c).2 = true) : (sayS c).1.kind = 1 ∨ (sayS c).1.kind = 2 ∨ (sayS c).1.kind = 3 ∨ (sayS c).1.kind = 6 := by
  unfold sayS at *
  split
  · simp [msgS]
  · split
    · simp [msgS]
    · split
      · simp [msgS]
      · split
        · simp [msgS]
        · simp_all
end Go.Cx
