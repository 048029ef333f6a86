import Derived.Test.YtdnfnddlciafmaaGreatXOpen11
set_option linter.unusedVariables false
set_option linter.unusedSimpArgs false
namespace Go.Proofs.YtdnfnddlciafmaaGreat
open Go.Cx Tab Go.ChangeShapes Go.WideShapes
set_option maxHeartbeats 1600000
set_option maxRecDepth 100000
theorem opsApplies_lifted (os : Os) (started : os.Started) (H : Type) (enc : TypeId × Value → H) :
    ReturnsInHanded {} Tryz.checked os 9 .any (Rows.opsAppliesSpec.pre6 enc Tryz.prog Tryz.f9 Rows.opsAppliesRow.domain false) (Rows.opsAppliesSpec.post enc Tryz.prog Tryz.f9 false true false false) := by
  refine returnsInHanded_of_change (C := Tryz.checked) own started (by kernel_rfl) Tryz.func9
    (ChangeSpec.witness6 (enc := enc) (C := Tryz.checked) false ⟨#[], #[Value.agg #[Value.slice none 0 0, Value.int .i64 0], Value.agg #[Value.slice none 0 0, Value.int .i64 0]], []⟩ 8 (by kernel_rfl) (by kernel_rfl) (by kernel_rfl) (by kernel_rfl)) ?_
  intro W base args ds gs before hval hW _ _
  have hW' := hW
  obtain ⟨p, q, hA0, hV, _, _, _⟩ := hW'
  obtain ⟨hg, _⟩ := trodVars_none hV
  subst hg
  have hA : DataW.TrodAll enc Tryz.prog W 0 (fun _ => true) true [24, 24] args.toList ds p := hA0
  obtain ⟨v0, v1, d0, d1, p0, p1, rfl, rfl, rfl, h0, h1⟩ := trodAll_two hA
  have hv0 : Value.okWide Tryz.prog W .any base 24 v0 := hval 0 24 v0 rfl rfl
  obtain ⟨_, ⟨x0, rfl, w0⟩, r0⟩ := arg_struct tst24 hv0 h0 (oFS)
  have hv1 : Value.okWide Tryz.prog W .any base 24 v1 := hval 1 24 v1 rfl rfl
  obtain ⟨_, ⟨x1, rfl, w1⟩, r1⟩ := arg_struct tst24 hv1 h1 (oFS)
  exact law_calls (law_applies x0 x1) (.cons r0 (.cons r1 .nil)) hW rfl rfl (t := 4) (by kernel_rfl) tub4 laid (by decide)
theorem opsApplies_closed : Go.joinedFacts Tryz.prog 9 Tryz.f9 Rows.opsAppliesSpec Rows.opsAppliesRow = true := by
  unfold Go.joinedFacts
  repeat' (with_reducible refine and_tt ?_ ?_)
  all_goals as_aux_lemma => kernel_rfl
theorem opsApplies : Rows.OpsAppliesSaid :=
  OpenClaim.holds_of_wide 9 Tryz.f9 rfl rfl rfl rfl rfl rfl rfl ⟨rfl, rfl, rfl, rfl, rfl⟩ rfl rfl rfl rfl rfl (by kernel_rfl) Tryz.func9 (opsApplies_closed)
    (of_decide_eq_true (by kernel_rfl)) (by unfold Func.isWrapper; rw [if_neg (of_decide_eq_false (by kernel_rfl))]; exact ⟨rfl, rfl⟩)
    (fun os started H enc _ => opsApplies_lifted os started H enc)
end Go.Proofs.YtdnfnddlciafmaaGreat
