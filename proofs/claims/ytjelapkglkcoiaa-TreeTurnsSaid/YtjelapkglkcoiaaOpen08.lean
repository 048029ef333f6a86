/- What is handed to the laws of layer 8, opened. -/
import Derived.Test.YtjelapkglkcoiaaLaw08
import Derived.Test.YtjelapkglkcoiaaRows
set_option linter.unusedVariables false
set_option linter.unusedSimpArgs false
namespace Go.Proofs.Ytjelapkglkcoiaa
open Go.Cx Tab Go.ChangeShapes Go.WideShapes
set_option maxHeartbeats 1600000
set_option maxRecDepth 100000

theorem own : ownKnob Try.prog.godebug = none := by kernel_rfl
theorem laid : laidOutB Try.prog = true := by kernel_rfl
section
variable {W : World}
theorem oEntry : Opn Try.prog W 41 (fun xs => ∃ c : EntryR, xs = c.enc ∧ c.wf) :=
  (opn_struct tst41 ts41 (.cons (opn_string tus9) ts9 (.cons (opn_int tui3) ts3 .nil))).mono fun xs h => by
    obtain ⟨_, _, ⟨x0, rfl, h0⟩, ⟨_, _, ⟨x1, rfl, h1⟩, rfl, rfl⟩, rfl⟩ := h
    exact ⟨⟨x0, x1⟩, by simp [EntryR.enc], h0, h1⟩
theorem oNode : Opn Try.prog W 24 (fun xs => ∃ c : NodeR, xs = c.enc ∧ c.wf) :=
  (opn_struct tst24 ts24 (.cons (opn_int tui3) ts3 (.cons (opn_int tui3) ts3 (.cons (opn_int tui3) ts3 (.cons (opn_string tus9) ts9 (.cons (opn_rows te22 ts41 (by omega) oEntry) ts22 .nil)))))).mono fun xs h => by
    obtain ⟨_, _, ⟨x0, rfl, h0⟩, ⟨_, _, ⟨x1, rfl, h1⟩, ⟨_, _, ⟨x2, rfl, h2⟩, ⟨_, _, ⟨x3, rfl, h3⟩, ⟨_, _, ⟨x4, rfl, h4⟩, rfl, rfl⟩, rfl⟩, rfl⟩, rfl⟩, rfl⟩ := h
    exact ⟨⟨x0, x1, x2, x3, x4⟩, by simp [NodeR.enc], h0, h1, h2, h3, h4⟩
theorem oFS : Opn Try.prog W 31 (fun xs => ∃ c : FSR, xs = c.enc ∧ c.wf) :=
  (opn_struct tst31 ts31 (.cons (opn_rows te29 ts24 (by omega) oNode) ts29 (.cons (opn_int tui3) ts3 .nil))).mono fun xs h => by
    obtain ⟨_, _, ⟨x0, rfl, h0⟩, ⟨_, _, ⟨x1, rfl, h1⟩, rfl, rfl⟩, rfl⟩ := h
    exact ⟨⟨x0, x1⟩, by simp [FSR.enc], h0, h1⟩
theorem oTreeBelowIn : Opn Try.prog W 37 (fun xs => ∃ c : TreeBelowInR, xs = c.enc ∧ c.wf) :=
  (opn_struct tst37 ts37 (.cons (oFS) ts31 (.cons (opn_int tui3) ts3 (.cons (opn_int tui3) ts3 (.cons (opn_int tui3) ts3 .nil))))).mono fun xs h => by
    obtain ⟨_, _, ⟨x0, rfl, h0⟩, ⟨_, _, ⟨x1, rfl, h1⟩, ⟨_, _, ⟨x2, rfl, h2⟩, ⟨_, _, ⟨x3, rfl, h3⟩, rfl, rfl⟩, rfl⟩, rfl⟩, rfl⟩ := h
    exact ⟨⟨x0, x1, x2, x3⟩, by simp [TreeBelowInR.enc], h0, h1, h2, h3⟩
theorem oTreeTurnsIn : Opn Try.prog W 61 (fun xs => ∃ c : TreeTurnsInR, xs = c.enc ∧ c.wf) :=
  (opn_struct tst61 ts61 (.cons (oFS) ts31 (.cons (oNode) ts24 (.cons (opn_int tui3) ts3 (.cons (opn_string tus9) ts9 .nil))))).mono fun xs h => by
    obtain ⟨_, _, ⟨x0, rfl, h0⟩, ⟨_, _, ⟨x1, rfl, h1⟩, ⟨_, _, ⟨x2, rfl, h2⟩, ⟨_, _, ⟨x3, rfl, h3⟩, rfl, rfl⟩, rfl⟩, rfl⟩, rfl⟩ := h
    exact ⟨⟨x0, x1, x2, x3⟩, by simp [TreeTurnsInR.enc], h0, h1, h2, h3⟩
end
end Go.Proofs.Ytjelapkglkcoiaa
