/- ClientCalls, as it is claimed. -/
import Derived.Test.YtpejmbffoklliaaOpen18
import Derived.Test.YtpejmbffoklliaaLawC18
set_option linter.unusedVariables false
set_option linter.unusedSimpArgs false
namespace Go.Proofs.Ytpejmbffoklliaa
open Go.Cx Tab Go.ChangeShapes Go.WideShapes
set_option maxHeartbeats 1600000
set_option maxRecDepth 100000

def reply0V : Value := .agg #[z0, z0, z0, z0, .string .empty, nilS]
theorem calls_lifted (os : Os) (started : os.Started) (H : Type) (enc : TypeId × Value → H) :
    ReturnsInHanded {} Try.checked os 7 .any (Rows.clientCallsSpec.pre6 enc Try.prog Try.f7 Rows.clientCallsRow.domain false) (Rows.clientCallsSpec.post enc Try.prog Try.f7 false true false false) := by
  refine returnsInHanded_of_change (C := Try.checked) own started (by kernel_rfl) Try.func7
    (ChangeSpec.witness6 (enc := enc) (C := Try.checked) false ⟨#[], #[client0, reply0V], []⟩ 8 (by kernel_rfl) (by kernel_rfl) (by kernel_rfl) (by kernel_rfl)) ?_
  intro W base args ds gs before hval hW _ _
  have hW' := hW
  obtain ⟨p, q, hA0, hV, _, _, _⟩ := hW'
  obtain ⟨hg, _⟩ := trodVars_none hV
  subst hg
  have hA : DataW.TrodAll enc Try.prog W 0 (fun _ => true) true [26, 30] args.toList ds p := hA0
  obtain ⟨v0, v1, d0, d1, p0, p1, rfl, rfl, rfl, h0, h1⟩ := trodAll_two hA
  have hv0 : Value.okWide Try.prog W .any base 26 v0 := hval 0 26 v0 rfl rfl
  have hv1 : Value.okWide Try.prog W .any base 30 v1 := hval 1 30 v1 rfl rfl
  obtain ⟨_, ⟨c, rfl, hc⟩, r0⟩ := arg_struct tst26 hv0 h0 oClient
  obtain ⟨_, ⟨r, rfl, hr⟩, r1⟩ := arg_struct tst30 hv1 h1 oReply
  exact law_calls (calls_law_ok c r hc.2.2.1.2) (.cons r0 (.cons r1 .nil)) hW rfl rfl (t := 4) (by kernel_rfl) tub4 laid (by decide)

theorem clientCalls : Rows.ClientCallsSaid :=
  OpenClaim.holds_of_wide 7 Try.f7 rfl rfl rfl rfl rfl rfl rfl ⟨rfl, rfl, rfl, rfl, rfl⟩ rfl rfl rfl rfl rfl (by kernel_rfl) Try.func7 (by kernel_rfl)
    (of_decide_eq_true (by kernel_rfl)) (by unfold Func.isWrapper; rw [if_neg (of_decide_eq_false (by kernel_rfl))]; exact ⟨rfl, rfl⟩)
    (fun os started H enc _ => calls_lifted os started H enc)
end Go.Proofs.Ytpejmbffoklliaa
