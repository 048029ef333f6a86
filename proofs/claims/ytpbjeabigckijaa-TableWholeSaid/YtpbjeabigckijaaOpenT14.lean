/- What is handed to the laws of layer 14 about texts, opened. -/
import Derived.Test.YtpbjeabigckijaaLawT14
import Derived.Test.YtpbjeabigckijaaRows
set_option linter.unusedVariables false
set_option linter.unusedSimpArgs false
namespace Go.Proofs.Ytpbjeabigckijaa
open Go.Cx Tab Go.ChangeShapes Go.WideShapes
set_option maxHeartbeats 1600000
set_option maxRecDepth 100000

theorem own : ownKnob Try.prog.godebug = none := by kernel_rfl
theorem laid : laidOutB Try.prog = true := by kernel_rfl
section
variable {W : World}
theorem oDecision : Opn Try.prog W 65 (fun xs => ∃ c : DecisionR, xs = c.enc ∧ c.wf) :=
  (opn_struct tst65 ts65 (.cons (opn_int tui3) ts3 (.cons (opn_bool tub4) ts4 .nil))).mono fun xs h => by
    obtain ⟨_, _, ⟨x0, rfl, h0⟩, ⟨_, _, ⟨x1, rfl⟩, rfl, rfl⟩, rfl⟩ := h
    exact ⟨⟨x0, x1⟩, by simp [DecisionR.enc], h0⟩
theorem oRow : Opn Try.prog W 63 (fun xs => ∃ c : RowR, xs = c.enc ∧ c.wf) :=
  (opn_struct tst63 ts63 (.cons (opn_int tui3) ts3 (.cons (opn_int tui3) ts3 (.cons (opn_int tui3) ts3 (.cons (opn_rows te61 ts65 (by omega) oDecision) ts61 .nil))))).mono fun xs h => by
    obtain ⟨_, _, ⟨x0, rfl, h0⟩, ⟨_, _, ⟨x1, rfl, h1⟩, ⟨_, _, ⟨x2, rfl, h2⟩, ⟨_, _, ⟨x3, rfl, h3⟩, rfl, rfl⟩, rfl⟩, rfl⟩, rfl⟩ := h
    exact ⟨⟨x0, x1, x2, x3⟩, by simp [RowR.enc], h0, h1, h2, h3⟩
theorem oTableWholeIn : Opn Try.prog W 59 (fun xs => ∃ c : TableWholeInR, xs = c.enc ∧ c.wf) :=
  (opn_struct tst59 ts59 (.cons (opn_rows te22 ts63 (by omega) oRow) ts22 (.cons (opn_int tui3) ts3 (.cons (opn_int tui3) ts3 (.cons (opn_int tui3) ts3 (.cons (opn_int tui3) ts3 .nil)))))).mono fun xs h => by
    obtain ⟨_, _, ⟨x0, rfl, h0⟩, ⟨_, _, ⟨x1, rfl, h1⟩, ⟨_, _, ⟨x2, rfl, h2⟩, ⟨_, _, ⟨x3, rfl, h3⟩, ⟨_, _, ⟨x4, rfl, h4⟩, rfl, rfl⟩, rfl⟩, rfl⟩, rfl⟩, rfl⟩ := h
    exact ⟨⟨x0, x1, x2, x3, x4⟩, by simp [TableWholeInR.enc], h0, h1, h2, h3, h4⟩
end
end Go.Proofs.Ytpbjeabigckijaa
