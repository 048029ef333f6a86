import Derived.Test.YtdnfnddlciafmaaGreatXOpen11
set_option linter.unusedVariables false
set_option linter.unusedSimpArgs false
namespace Go.Proofs.YtdnfnddlciafmaaGreat
open Go.Cx Tab Go.ChangeShapes Go.WideShapes
set_option maxHeartbeats 1600000
set_option maxRecDepth 100000
section
variable {W : World}
theorem oReply : Opn Tryz.prog W 34 (fun xs => ∃ c : ReplyR, xs = c.enc ∧ c.wf) :=
  (opn_struct tst34 ts34 (.cons (opn_int tui31) ts31 (.cons (opn_int tui3) ts3 (.cons (opn_int tui3) ts3 (.cons (opn_int tui3) ts3 (.cons (opn_string tus9) ts9 (.cons (opn_rows1 (enc := S) (p := fun x => x.size ≤ maxLen) te32 ts9 (opn_string tus9)) ts32 .nil))))))).mono fun xs h => by
    obtain ⟨_, _, ⟨x0, rfl, h0⟩, ⟨_, _, ⟨x1, rfl, h1⟩, ⟨_, _, ⟨x2, rfl, h2⟩, ⟨_, _, ⟨x3, rfl, h3⟩, ⟨_, _, ⟨x4, rfl, h4⟩, ⟨_, _, ⟨x5, rfl, h5⟩, rfl, rfl⟩, rfl⟩, rfl⟩, rfl⟩, rfl⟩, rfl⟩ := h
    exact ⟨⟨x0, x1, x2, x3, x4, x5⟩, by simp [ReplyR.enc], h0, h1, h2, h3, h4, h5⟩
end
end Go.Proofs.YtdnfnddlciafmaaGreat
