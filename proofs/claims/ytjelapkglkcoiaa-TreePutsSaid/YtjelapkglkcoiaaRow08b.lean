/- TreeOuts and TreePuts, as they are claimed. -/
import Derived.Test.YtjelapkglkcoiaaOpen08
import Derived.Test.YtjelapkglkcoiaaLaw08b
set_option linter.unusedVariables false
set_option linter.unusedSimpArgs false
namespace Go.Proofs.Ytjelapkglkcoiaa
open Go.Cx Tab Go.ChangeShapes Go.WideShapes
set_option maxHeartbeats 1600000
set_option maxRecDepth 100000

theorem treeOuts_lifted (os : Os) (started : os.Started) (H : Type) (enc : TypeId × Value → H) :
    ReturnsInHanded {} Try.checked os 8 .any (Rows.treeOutsSpec.pre6 enc Try.prog Try.f8 Rows.treeOutsRow.domain false) (Rows.treeOutsSpec.post enc Try.prog Try.f8 false true false false) := by
  refine returnsInHanded_of_change (C := Try.checked) own started (by kernel_rfl) Try.func8
    (ChangeSpec.witness6 (enc := enc) (C := Try.checked) false ⟨#[], #[Value.agg #[Value.slice none 0 0, Value.int .i64 0], Value.int .i64 0], []⟩ 8 (by kernel_rfl) (by kernel_rfl) (by kernel_rfl) (by kernel_rfl)) ?_
  intro W base args ds gs before hval hW _ _
  have hW' := hW
  obtain ⟨p, q, hA0, hV, _, _, _⟩ := hW'
  obtain ⟨hg, _⟩ := trodVars_none hV
  subst hg
  have hA : DataW.TrodAll enc Try.prog W 0 (fun _ => true) true [31, 3] args.toList ds p := hA0
  obtain ⟨v0, v1, d0, d1, p0, p1, rfl, rfl, rfl, h0, h1⟩ := trodAll_two hA
  have hv0 : Value.okWide Try.prog W .any base 31 v0 := hval 0 31 v0 rfl rfl
  obtain ⟨_, ⟨x0, rfl, w0⟩, r0⟩ := arg_struct tst31 hv0 h0 (oFS)
  have hv1 : Value.okWide Try.prog W .any base 3 v1 := hval 1 3 v1 rfl rfl
  obtain ⟨_, rfl⟩ := okWide_int tui3 hv1
  obtain ⟨_, ⟨x1, e1, w1⟩, r1⟩ := arg_one rfl h1 (opn_int tui3)
  cases e1
  exact law_calls (law_outs x0 x1) (.cons r0 (.cons r1 .nil)) hW rfl rfl (t := 4) (by kernel_rfl) tub4 laid (by decide)
theorem treeOuts : Rows.TreeOutsSaid :=
  OpenClaim.holds_of_wide 8 Try.f8 rfl rfl rfl rfl rfl rfl rfl ⟨rfl, rfl, rfl, rfl, rfl⟩ rfl rfl rfl rfl rfl (by kernel_rfl) Try.func8 (by kernel_rfl)
    (of_decide_eq_true (by kernel_rfl)) (by unfold Func.isWrapper; rw [if_neg (of_decide_eq_false (by kernel_rfl))]; exact ⟨rfl, rfl⟩)
    (fun os started H enc _ => treeOuts_lifted os started H enc)
theorem treePuts_lifted (os : Os) (started : os.Started) (H : Type) (enc : TypeId × Value → H) :
    ReturnsInHanded {} Try.checked os 13 .any (Rows.treePutsSpec.pre6 enc Try.prog Try.f13 Rows.treePutsRow.domain false) (Rows.treePutsSpec.post enc Try.prog Try.f13 false true false false) := by
  refine returnsInHanded_of_change (C := Try.checked) own started (by kernel_rfl) Try.func13
    (ChangeSpec.witness6 (enc := enc) (C := Try.checked) false ⟨#[], #[Value.agg #[Value.slice none 0 0, Value.int .i64 0], Value.agg #[Value.int .i64 0, Value.int .i64 0, Value.int .i64 0, Value.string .empty, Value.slice none 0 0], Value.int .i64 0], []⟩ 8 (by kernel_rfl) (by kernel_rfl) (by kernel_rfl) (by kernel_rfl)) ?_
  intro W base args ds gs before hval hW _ _
  have hW' := hW
  obtain ⟨p, q, hA0, hV, _, _, _⟩ := hW'
  obtain ⟨hg, _⟩ := trodVars_none hV
  subst hg
  have hA : DataW.TrodAll enc Try.prog W 0 (fun _ => true) true [31, 24, 3] args.toList ds p := hA0
  obtain ⟨v0, v1, v2, d0, d1, d2, p0, p1, p2, rfl, rfl, rfl, h0, h1, h2⟩ := trodAll_three hA
  have hv0 : Value.okWide Try.prog W .any base 31 v0 := hval 0 31 v0 rfl rfl
  obtain ⟨_, ⟨x0, rfl, w0⟩, r0⟩ := arg_struct tst31 hv0 h0 (oFS)
  have hv1 : Value.okWide Try.prog W .any base 24 v1 := hval 1 24 v1 rfl rfl
  obtain ⟨_, ⟨x1, rfl, w1⟩, r1⟩ := arg_struct tst24 hv1 h1 (oNode)
  have hv2 : Value.okWide Try.prog W .any base 3 v2 := hval 2 3 v2 rfl rfl
  obtain ⟨_, rfl⟩ := okWide_int tui3 hv2
  obtain ⟨_, ⟨x2, e2, w2⟩, r2⟩ := arg_one rfl h2 (opn_int tui3)
  cases e2
  exact law_calls (law_puts x0 x1 x2 w1) (.cons r0 (.cons r1 (.cons r2 .nil))) hW rfl rfl (t := 4) (by kernel_rfl) tub4 laid (by decide)
theorem treePuts : Rows.TreePutsSaid :=
  OpenClaim.holds_of_wide 13 Try.f13 rfl rfl rfl rfl rfl rfl rfl ⟨rfl, rfl, rfl, rfl, rfl⟩ rfl rfl rfl rfl rfl (by kernel_rfl) Try.func13 (by kernel_rfl)
    (of_decide_eq_true (by kernel_rfl)) (by unfold Func.isWrapper; rw [if_neg (of_decide_eq_false (by kernel_rfl))]; exact ⟨rfl, rfl⟩)
    (fun os started H enc _ => treePuts_lifted os started H enc)
end Go.Proofs.Ytjelapkglkcoiaa
