/- What is handed to the laws of layers 7 and 8, opened. -/
import Derived.Test.YtjelapkglkcoiaaLaw07
import Derived.Test.YtjelapkglkcoiaaRows
set_option linter.unusedVariables false
set_option linter.unusedSimpArgs false
namespace Go.Proofs.Ytjelapkglkcoiaa
open Go.Cx Tab Go.ChangeShapes Go.WideShapes
set_option maxHeartbeats 1600000
set_option maxRecDepth 100000

theorem own : ownKnob Try.prog.godebug = none := by kernel_rfl
theorem laid : laidOutB Try.prog = true := by kernel_rfl
section
variable {W : World}
theorem oEntry : Opn Try.prog W 41 (fun xs => ∃ c : EntryR, xs = c.enc ∧ c.wf) :=
  (opn_struct tst41 ts41 (.cons (opn_string tus9) ts9 (.cons (opn_int tui3) ts3 .nil))).mono fun xs h => by
    obtain ⟨_, _, ⟨x0, rfl, h0⟩, ⟨_, _, ⟨x1, rfl, h1⟩, rfl, rfl⟩, rfl⟩ := h
    exact ⟨⟨x0, x1⟩, by simp [EntryR.enc], h0, h1⟩
theorem oNode : Opn Try.prog W 24 (fun xs => ∃ c : NodeR, xs = c.enc ∧ c.wf) :=
  (opn_struct tst24 ts24 (.cons (opn_int tui3) ts3 (.cons (opn_int tui3) ts3 (.cons (opn_int tui3) ts3 (.cons (opn_string tus9) ts9 (.cons (opn_rows te22 ts41 (by omega) oEntry) ts22 .nil)))))).mono fun xs h => by
    obtain ⟨_, _, ⟨x0, rfl, h0⟩, ⟨_, _, ⟨x1, rfl, h1⟩, ⟨_, _, ⟨x2, rfl, h2⟩, ⟨_, _, ⟨x3, rfl, h3⟩, ⟨_, _, ⟨x4, rfl, h4⟩, rfl, rfl⟩, rfl⟩, rfl⟩, rfl⟩, rfl⟩ := h
    exact ⟨⟨x0, x1, x2, x3, x4⟩, by simp [NodeR.enc], h0, h1, h2, h3, h4⟩
end
end Go.Proofs.Ytjelapkglkcoiaa
