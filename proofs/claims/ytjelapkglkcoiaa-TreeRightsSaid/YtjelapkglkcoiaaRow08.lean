/- TreeRights and TreeBelow, as they are claimed. -/
import Derived.Test.YtjelapkglkcoiaaOpen08
set_option linter.unusedVariables false
set_option linter.unusedSimpArgs false
namespace Go.Proofs.Ytjelapkglkcoiaa
open Go.Cx Tab Go.ChangeShapes Go.WideShapes
set_option maxHeartbeats 1600000
set_option maxRecDepth 100000

theorem treeRights_lifted (os : Os) (started : os.Started) (H : Type) (enc : TypeId × Value → H) :
    ReturnsInHanded {} Try.checked os 4 .any (Rows.treeRightsSpec.pre6 enc Try.prog Try.f4 Rows.treeRightsRow.domain false) (Rows.treeRightsSpec.post enc Try.prog Try.f4 false true false false) := by
  refine returnsInHanded_of_change (C := Try.checked) own started (by kernel_rfl) Try.func4
    (ChangeSpec.witness6 (enc := enc) (C := Try.checked) false ⟨#[], #[Value.agg #[Value.slice none 0 0, Value.int .i64 0], Value.int .i64 0], []⟩ 8 (by kernel_rfl) (by kernel_rfl) (by kernel_rfl) (by kernel_rfl)) ?_
  intro W base args ds gs before hval hW _ _
  have hW' := hW
  obtain ⟨p, q, hA0, hV, _, _, _⟩ := hW'
  obtain ⟨hg, _⟩ := trodVars_none hV
  subst hg
  have hA : DataW.TrodAll enc Try.prog W 0 (fun _ => true) true [31, 3] args.toList ds p := hA0
  obtain ⟨v0, v1, d0, d1, p0, p1, rfl, rfl, rfl, h0, h1⟩ := trodAll_two hA
  have hv0 : Value.okWide Try.prog W .any base 31 v0 := hval 0 31 v0 rfl rfl
  obtain ⟨_, ⟨x0, rfl, w0⟩, r0⟩ := arg_struct tst31 hv0 h0 (oFS)
  have hv1 : Value.okWide Try.prog W .any base 3 v1 := hval 1 3 v1 rfl rfl
  obtain ⟨_, rfl⟩ := okWide_int tui3 hv1
  obtain ⟨_, ⟨x1, e1, w1⟩, r1⟩ := arg_one rfl h1 (opn_int tui3)
  cases e1
  exact law_calls (law_rights x0 x1) (.cons r0 (.cons r1 .nil)) hW rfl rfl (t := 4) (by kernel_rfl) tub4 laid (by decide)
theorem treeRights : Rows.TreeRightsSaid :=
  OpenClaim.holds_of_wide 4 Try.f4 rfl rfl rfl rfl rfl rfl rfl ⟨rfl, rfl, rfl, rfl, rfl⟩ rfl rfl rfl rfl rfl (by kernel_rfl) Try.func4 (by kernel_rfl)
    (of_decide_eq_true (by kernel_rfl)) (by unfold Func.isWrapper; rw [if_neg (of_decide_eq_false (by kernel_rfl))]; exact ⟨rfl, rfl⟩)
    (fun os started H enc _ => treeRights_lifted os started H enc)
theorem treeBelow_lifted (os : Os) (started : os.Started) (H : Type) (enc : TypeId × Value → H) :
    ReturnsInHanded {} Try.checked os 5 .any (Rows.treeBelowSpec.pre6 enc Try.prog Try.f5 Rows.treeBelowRow.domain false) (Rows.treeBelowSpec.post enc Try.prog Try.f5 false true false false) := by
  refine returnsInHanded_of_change (C := Try.checked) own started (by kernel_rfl) Try.func5
    (ChangeSpec.witness6 (enc := enc) (C := Try.checked) false ⟨#[], #[Value.agg #[Value.slice none 0 0, Value.int .i64 0, Value.int .i64 0, Value.int .i64 0, Value.int .i64 0]], []⟩ 8 (by kernel_rfl) (by kernel_rfl) (by kernel_rfl) (by kernel_rfl)) ?_
  intro W base args ds gs before hval hW _ _
  have hW' := hW
  obtain ⟨p, q, hA0, hV, _, _, _⟩ := hW'
  obtain ⟨hg, _⟩ := trodVars_none hV
  subst hg
  have hA : DataW.TrodAll enc Try.prog W 0 (fun _ => true) true [37] args.toList ds p := hA0
  obtain ⟨v0, d0, rfl, rfl, h0⟩ := trodAll_one hA
  have hv0 : Value.okWide Try.prog W .any base 37 v0 := hval 0 37 v0 rfl rfl
  obtain ⟨_, ⟨x0, rfl, w0⟩, r0⟩ := arg_struct tst37 hv0 h0 (oTreeBelowIn)
  exact law_calls (law_below x0) (.cons r0 .nil) hW rfl rfl (t := 4) (by kernel_rfl) tub4 laid (by decide)
theorem treeBelow : Rows.TreeBelowSaid :=
  OpenClaim.holds_of_wide 5 Try.f5 rfl rfl rfl rfl rfl rfl rfl ⟨rfl, rfl, rfl, rfl, rfl⟩ rfl rfl rfl rfl rfl (by kernel_rfl) Try.func5 (by kernel_rfl)
    (of_decide_eq_true (by kernel_rfl)) (by unfold Func.isWrapper; rw [if_neg (of_decide_eq_false (by kernel_rfl))]; exact ⟨rfl, rfl⟩)
    (fun os started H enc _ => treeBelow_lifted os started H enc)
end Go.Proofs.Ytjelapkglkcoiaa
