import Derived.Test.YtdnfnddlciafmaaGreatXLaw11a
import Derived.Test.YtdnfnddlciafmaaGreatRows
set_option linter.unusedVariables false
set_option linter.unusedSimpArgs false
namespace Go.Proofs.YtdnfnddlciafmaaGreat
open Go.Cx Tab Go.ChangeShapes Go.WideShapes
set_option maxHeartbeats 1600000
set_option maxRecDepth 100000
theorem and_tt {a b : Bool} (ha : a = true) (hb : b = true) : (a && b) = true := by rw [ha, hb]; rfl
theorem own : ownKnob Tryz.prog.godebug = none := by kernel_rfl
theorem laid : laidOutB Tryz.prog = true := by kernel_rfl
section
variable {W : World}
theorem oEntry : Opn Tryz.prog W 121 (fun xs => ∃ c : EntryR, xs = c.enc ∧ c.wf) :=
  (opn_struct tst121 ts121 (.cons (opn_string tus9) ts9 (.cons (opn_int tui3) ts3 .nil))).mono fun xs h => by
    obtain ⟨_, _, ⟨x0, rfl, h0⟩, ⟨_, _, ⟨x1, rfl, h1⟩, rfl, rfl⟩, rfl⟩ := h
    exact ⟨⟨x0, x1⟩, by simp [EntryR.enc], h0, h1⟩
theorem oNode : Opn Tryz.prog W 43 (fun xs => ∃ c : NodeR, xs = c.enc ∧ c.wf) :=
  (opn_struct tst43 ts43 (.cons (opn_int tui3) ts3 (.cons (opn_int tui3) ts3 (.cons (opn_int tui3) ts3 (.cons (opn_string tus9) ts9 (.cons (opn_rows te41 ts121 (by omega) oEntry) ts41 .nil)))))).mono fun xs h => by
    obtain ⟨_, _, ⟨x0, rfl, h0⟩, ⟨_, _, ⟨x1, rfl, h1⟩, ⟨_, _, ⟨x2, rfl, h2⟩, ⟨_, _, ⟨x3, rfl, h3⟩, ⟨_, _, ⟨x4, rfl, h4⟩, rfl, rfl⟩, rfl⟩, rfl⟩, rfl⟩, rfl⟩ := h
    exact ⟨⟨x0, x1, x2, x3, x4⟩, by simp [NodeR.enc], h0, h1, h2, h3, h4⟩
theorem oFS : Opn Tryz.prog W 24 (fun xs => ∃ c : FSR, xs = c.enc ∧ c.wf) :=
  (opn_struct tst24 ts24 (.cons (opn_rows te22 ts43 (by omega) oNode) ts22 (.cons (opn_int tui3) ts3 .nil))).mono fun xs h => by
    obtain ⟨_, _, ⟨x0, rfl, h0⟩, ⟨_, _, ⟨x1, rfl, h1⟩, rfl, rfl⟩, rfl⟩ := h
    exact ⟨⟨x0, x1⟩, by simp [FSR.enc], h0, h1⟩
end
end Go.Proofs.YtdnfnddlciafmaaGreat
