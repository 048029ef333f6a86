/- What is handed to the laws of layer 18, opened. -/
import Derived.Test.YtpejmbffoklliaaLawW18
import Derived.Test.YtpejmbffoklliaaRows
set_option linter.unusedVariables false
set_option linter.unusedSimpArgs false
namespace Go.Proofs.Ytpejmbffoklliaa
open Go.Cx Tab Go.ChangeShapes Go.WideShapes
set_option maxHeartbeats 1600000
set_option maxRecDepth 100000

theorem own : ownKnob Try.prog.godebug = none := by kernel_rfl
theorem laid : laidOutB Try.prog = true := by kernel_rfl
section
variable {W : World}
theorem oCall : Opn Try.prog W 40 (fun xs => ∃ c : CallR, xs = c.enc ∧ c.wf) := opn_call tst40 ts40 tui3 ts3 tus9 ts9
theorem oReply : Opn Try.prog W 30 (fun xs => ∃ c : ReplyR, xs = c.enc ∧ c.wf) := opn_reply tst30 ts30 tui3 ts3 tui27 ts27 tus9 ts9 te28 ts28
theorem oDone : Opn Try.prog W 49 (fun xs => ∃ c : DoneR, xs = c.enc ∧ c.wf) := opn_done tst49 ts49 tui3 ts3 tui27 ts27 tub4 ts4 te24 ts24 ts30 oReply
theorem oClient : Opn Try.prog W 26 (fun xs => ∃ c : ClientR, xs = c.enc ∧ c.wf) := opn_client tst26 ts26 tui3 ts3 te22 ts22 te47 ts47 ts40 te23 ts23 ts49 te24 ts24 ts30 oCall oDone oReply
theorem oRsp : Opn Try.prog W 32 (fun xs => ∃ c : RspR, xs = c.enc ∧ c.wf) := opn_rsp tst32 ts32 tui3 ts3 ts30 oReply
end

def z0 : Value := .int .i64 0
def nilS : Value := .slice none 0 0
def client0 : Value := .agg #[z0, z0, z0, nilS, z0, z0, z0, nilS, nilS]
def rsp0V : Value := .agg #[z0, z0, z0, z0, z0, z0, z0, z0, z0, .string .empty, nilS]
end Go.Proofs.Ytpejmbffoklliaa
