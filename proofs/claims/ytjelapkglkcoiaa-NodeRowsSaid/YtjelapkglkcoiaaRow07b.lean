/- NodeRows, as it is claimed. -/
import Derived.Test.YtjelapkglkcoiaaOpen07
set_option linter.unusedVariables false
set_option linter.unusedSimpArgs false
namespace Go.Proofs.Ytjelapkglkcoiaa
open Go.Cx Tab Go.ChangeShapes Go.WideShapes
set_option maxHeartbeats 1600000
set_option maxRecDepth 100000

theorem nodeRows_lifted (os : Os) (started : os.Started) (H : Type) (enc : TypeId × Value → H) :
    ReturnsInHanded {} Try.checked os 11 .any (Rows.nodeRowsSpec.pre6 enc Try.prog Try.f11 Rows.nodeRowsRow.domain false) (Rows.nodeRowsSpec.post enc Try.prog Try.f11 false true false false) := by
  refine returnsInHanded_of_change (C := Try.checked) own started (by kernel_rfl) Try.func11
    (ChangeSpec.witness6 (enc := enc) (C := Try.checked) false ⟨#[], #[Value.agg #[Value.int .i64 0, Value.int .i64 0, Value.int .i64 0, Value.string .empty, Value.slice none 0 0], Value.agg #[Value.int .i64 0, Value.int .i64 0, Value.int .i64 0, Value.string .empty, Value.slice none 0 0]], []⟩ 8 (by kernel_rfl) (by kernel_rfl) (by kernel_rfl) (by kernel_rfl)) ?_
  intro W base args ds gs before hval hW _ _
  have hW' := hW
  obtain ⟨p, q, hA0, hV, _, _, _⟩ := hW'
  obtain ⟨hg, _⟩ := trodVars_none hV
  subst hg
  have hA : DataW.TrodAll enc Try.prog W 0 (fun _ => true) true [24, 24] args.toList ds p := hA0
  obtain ⟨v0, v1, d0, d1, p0, p1, rfl, rfl, rfl, h0, h1⟩ := trodAll_two hA
  have hv0 : Value.okWide Try.prog W .any base 24 v0 := hval 0 24 v0 rfl rfl
  obtain ⟨_, ⟨x0, rfl, w0⟩, r0⟩ := arg_struct tst24 hv0 h0 (oNode)
  have hv1 : Value.okWide Try.prog W .any base 24 v1 := hval 1 24 v1 rfl rfl
  obtain ⟨_, ⟨x1, rfl, w1⟩, r1⟩ := arg_struct tst24 hv1 h1 (oNode)
  exact law_calls (law_rows x0 x1 w0 w1) (.cons r0 (.cons r1 .nil)) hW rfl rfl (t := 4) (by kernel_rfl) tub4 laid (by decide)
theorem nodeRows : Rows.NodeRowsSaid :=
  OpenClaim.holds_of_wide 11 Try.f11 rfl rfl rfl rfl rfl rfl rfl ⟨rfl, rfl, rfl, rfl, rfl⟩ rfl rfl rfl rfl rfl (by kernel_rfl) Try.func11 (by kernel_rfl)
    (of_decide_eq_true (by kernel_rfl)) (by unfold Func.isWrapper; rw [if_neg (of_decide_eq_false (by kernel_rfl))]; exact ⟨rfl, rfl⟩)
    (fun os started H enc _ => nodeRows_lifted os started H enc)
end Go.Proofs.Ytjelapkglkcoiaa
