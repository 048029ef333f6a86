/- ClientStays, as it is claimed. -/
import Derived.Test.YtpejmbffoklliaaLawW18
import Derived.Test.YtpejmbffoklliaaRows
set_option linter.unusedVariables false
set_option linter.unusedSimpArgs false
namespace Go.Proofs.Ytpejmbffoklliaa
open Go.Cx Tab Go.ChangeShapes Go.WideShapes
set_option maxHeartbeats 1600000
set_option maxRecDepth 100000

theorem own : ownKnob Try.prog.godebug = none := by kernel_rfl
theorem laid : laidOutB Try.prog = true := by kernel_rfl
section
variable {W : World}
theorem oCall : Opn Try.prog W 40 (fun xs => ∃ c : CallR, xs = c.enc ∧ c.wf) := opn_call tst40 ts40 tui3 ts3 tus9 ts9
theorem oReply : Opn Try.prog W 30 (fun xs => ∃ c : ReplyR, xs = c.enc ∧ c.wf) := opn_reply tst30 ts30 tui3 ts3 tui27 ts27 tus9 ts9 te28 ts28
theorem oDone : Opn Try.prog W 49 (fun xs => ∃ c : DoneR, xs = c.enc ∧ c.wf) := opn_done tst49 ts49 tui3 ts3 tui27 ts27 tub4 ts4 te24 ts24 ts30 oReply
theorem oClient : Opn Try.prog W 26 (fun xs => ∃ c : ClientR, xs = c.enc ∧ c.wf) := opn_client tst26 ts26 tui3 ts3 te22 ts22 te47 ts47 ts40 te23 ts23 ts49 te24 ts24 ts30 oCall oDone oReply
theorem oRsp : Opn Try.prog W 32 (fun xs => ∃ c : RspR, xs = c.enc ∧ c.wf) := opn_rsp tst32 ts32 tui3 ts3 ts30 oReply
end

def z0 : Value := .int .i64 0
def nilS : Value := .slice none 0 0
def client0 : Value := .agg #[z0, z0, z0, nilS, z0, z0, z0, nilS, nilS]
def rsp0V : Value := .agg #[z0, z0, z0, z0, z0, z0, z0, z0, z0, .string .empty, nilS]

theorem stays_lifted (os : Os) (started : os.Started) (H : Type) (enc : TypeId × Value → H) :
    ReturnsInHanded {} Try.checked os 3 .any (Rows.clientStaysSpec.pre6 enc Try.prog Try.f3 Rows.clientStaysRow.domain false) (Rows.clientStaysSpec.post enc Try.prog Try.f3 false true false false) := by
  refine returnsInHanded_of_change (C := Try.checked) own started (by kernel_rfl) Try.func3
    (ChangeSpec.witness6 (enc := enc) (C := Try.checked) false ⟨#[], #[client0, rsp0V], []⟩ 8 (by kernel_rfl) (by kernel_rfl) (by kernel_rfl) (by kernel_rfl)) ?_
  intro W base args ds gs before hval hW _ _
  have hW' := hW
  obtain ⟨p, q, hA0, hV, _, _, _⟩ := hW'
  obtain ⟨hg, _⟩ := trodVars_none hV
  subst hg
  have hA : DataW.TrodAll enc Try.prog W 0 (fun _ => true) true [26, 32] args.toList ds p := hA0
  obtain ⟨v0, v1, d0, d1, p0, p1, rfl, rfl, rfl, h0, h1⟩ := trodAll_two hA
  have hv0 : Value.okWide Try.prog W .any base 26 v0 := hval 0 26 v0 rfl rfl
  have hv1 : Value.okWide Try.prog W .any base 32 v1 := hval 1 32 v1 rfl rfl
  obtain ⟨_, ⟨c, rfl, hc⟩, r0⟩ := arg_struct tst26 hv0 h0 oClient
  obtain ⟨_, ⟨r, rfl, hr⟩, r1⟩ := arg_struct tst32 hv1 h1 oRsp
  exact law_calls (stays_ok c r hc.2.2.1.2) (.cons r0 (.cons r1 .nil)) hW rfl rfl (t := 4) (by kernel_rfl) tub4 laid (by decide)

theorem clientStays : Rows.ClientStaysSaid :=
  OpenClaim.holds_of_wide 3 Try.f3 rfl rfl rfl rfl rfl rfl rfl ⟨rfl, rfl, rfl, rfl, rfl⟩ rfl rfl rfl rfl rfl (by kernel_rfl) Try.func3 (by kernel_rfl)
    (of_decide_eq_true (by kernel_rfl)) (by unfold Func.isWrapper; rw [if_neg (of_decide_eq_false (by kernel_rfl))]; exact ⟨rfl, rfl⟩)
    (fun os started H enc _ => stays_lifted os started H enc)
end Go.Proofs.Ytpejmbffoklliaa
