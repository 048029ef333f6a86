/- Rows, taken of a text; in plain Lean. -/
import Derived.Test.YtpbjeabigckijaaBh
import Derived.Test.YtpbjeabigckijaaBf
set_option linter.unusedVariables false
set_option linter.unusedSimpArgs false
namespace Go.Cx

def numM (most : Nat) (r : Rst) : Nat × Rst := if r.2 = 0 then ((takeS r.1).1, ((takeS r.1).2.1, if (takeS r.1).2.2 = 0 ∧ most < (takeS r.1).1 then 5 else (takeS r.1).2.2)) else (0, r)
theorem numM_len (most : Nat) (r : Rst) : (numM most r).2.1.length ≤ r.1.length := by
  unfold numM; split
  · exact takeS_len' _
  · simp
theorem numM_lt (most : Nat) (r : Rst) : (numM most r).1 < 18446744073709551616 := by
  unfold numM; split
  · exact takeS_lt _
  · simp
theorem numM_big {most : Nat} (h : 18446744073709551615 ≤ most) (r : Rst) : numM most r = numR r := by
  unfold numM numR
  split
  · have := takeS_lt r.1
    rw [if_neg (by omega)]
  · rfl
theorem numM_le {most : Nat} {r : Rst} (h : (numM most r).2.2 = 0) : (numM most r).1 ≤ most := by
  unfold numM at *
  split
  · rename_i h0
    rw [if_pos h0] at h
    simp only at h ⊢
    split at h
    · cases h
    · rename_i h1; have h2 := h; simp only [h2, true_and, Nat.not_lt] at h1; exact h1
  · simp
theorem numM_bad {most : Nat} {r : Rst} (h : r.2 ≠ 0) : numM most r = (0, r) := by unfold numM; rw [if_neg h]

/-- What was taken so far; whether something was odd; what is left. -/
structure Dt where
  l : List DecisionR
  odd : Bool
  r : Rst
def Dt.step (a : Dt) : Dt := ⟨a.l ++ [⟨unfoldS (numR a.r).1, decide ((numR (numR a.r).2).1 = 1)⟩], a.odd || decide (1 < (numR (numR a.r).2).1), (numR (numR a.r).2).2⟩
def decsT : Nat → Dt → Dt
  | 0, a => a
  | k + 1, a => if a.r.2 = 0 then decsT k a.step else a
theorem decsT_bad {a : Dt} (h : a.r.2 ≠ 0) (k : Nat) : decsT k a = a := by
  cases k with
  | zero => rfl
  | succ k => rw [decsT, if_neg h]
theorem decsT_succ {a : Dt} (h : a.r.2 = 0) (k : Nat) : decsT (k + 1) a = decsT k a.step := by rw [decsT, if_pos h]
theorem Dt.step_len (a : Dt) : a.step.r.1.length ≤ a.r.1.length := Nat.le_trans (numR_len _) (numR_len _)
theorem decsT_len : ∀ (k : Nat) (a : Dt), (decsT k a).r.1.length ≤ a.r.1.length
  | 0, a => Nat.le_refl _
  | k + 1, a => by
    rw [decsT]; split
    · exact Nat.le_trans (decsT_len k a.step) a.step_len
    · exact Nat.le_refl _
structure Rt where
  l : List RowR
  odd : Bool
  r : Rst
def Rt.head (a : Rt) : Nat × Rst := numM 256 (numR (numR (numR a.r).2).2).2
def Rt.inner (a : Rt) : Dt := decsT a.head.1 ⟨[], a.odd, a.head.2⟩
def Rt.step (a : Rt) : Rt := ⟨a.l ++ [⟨unfoldS (numR a.r).1, unfoldS (numR (numR a.r).2).1, unfoldS (numR (numR (numR a.r).2).2).1, a.inner.l⟩], a.inner.odd, a.inner.r⟩
def rowsT : Nat → Rt → Rt
  | 0, a => a
  | k + 1, a => if a.r.2 = 0 then rowsT k a.step else a
theorem rowsT_bad {a : Rt} (h : a.r.2 ≠ 0) (k : Nat) : rowsT k a = a := by
  cases k with
  | zero => rfl
  | succ k => rw [rowsT, if_neg h]
theorem rowsT_succ {a : Rt} (h : a.r.2 = 0) (k : Nat) : rowsT (k + 1) a = rowsT k a.step := by rw [rowsT, if_pos h]
theorem Rt.head_len (a : Rt) : a.head.2.1.length ≤ a.r.1.length := Nat.le_trans (numM_len _ _) (Nat.le_trans (numR_len _) (Nat.le_trans (numR_len _) (numR_len _)))
theorem Rt.step_len (a : Rt) : a.step.r.1.length ≤ a.r.1.length := Nat.le_trans (decsT_len _ _) a.head_len
/-- What is taken of a text ahead of the question whether it is right. -/
def takenT (s : List UInt8) : Rt := rowsT (numM 64 (s, 0)).1 ⟨[], false, (numM 64 (s, 0)).2⟩
noncomputable def takeT (s : List UInt8) : List RowR × Int :=
  if (takenT s).r.2 ≠ 0 then ([], (takenT s).r.2) else
  @ite _ ((takenT s).odd = false ∧ (takenT s).r.1 = [] ∧ RightT (takenT s).l) (Classical.propDecidable _) ((takenT s).l, 0) ([], 3)
end Go.Cx
