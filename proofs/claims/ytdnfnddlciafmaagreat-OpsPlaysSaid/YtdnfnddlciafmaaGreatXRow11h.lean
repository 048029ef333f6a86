import Derived.Test.YtdnfnddlciafmaaGreatXOpen11
import Derived.Test.YtdnfnddlciafmaaGreatXLaw11h
set_option linter.unusedVariables false
set_option linter.unusedSimpArgs false
namespace Go.Proofs.YtdnfnddlciafmaaGreat
open Go.Cx Tab Go.ChangeShapes Go.WideShapes
set_option maxHeartbeats 1600000
set_option maxRecDepth 100000
theorem opsPlays_lifted (os : Os) (started : os.Started) (H : Type) (enc : TypeId × Value → H) :
    ReturnsInHanded {} Tryz.checked os 10 .any (Rows.opsPlaysSpec.pre6 enc Tryz.prog Tryz.f10 Rows.opsPlaysRow.domain false) (Rows.opsPlaysSpec.post enc Tryz.prog Tryz.f10 false true false false) := by
  refine returnsInHanded_of_change (C := Tryz.checked) own started (by kernel_rfl) Tryz.func10
    (ChangeSpec.witness6 (enc := enc) (C := Tryz.checked) false ⟨#[], #[Value.agg #[Value.slice none 0 0, Value.int .i64 0, Value.slice none 0 0, Value.slice none 0 0, Value.int .i64 0, Value.int .i64 0]], []⟩ 8 (by kernel_rfl) (by kernel_rfl) (by kernel_rfl) (by kernel_rfl)) ?_
  intro W base args ds gs before hval hW _ _
  have hW' := hW
  obtain ⟨p, q, hA0, hV, _, _, _⟩ := hW'
  obtain ⟨hg, _⟩ := trodVars_none hV
  subst hg
  have hA : DataW.TrodAll enc Tryz.prog W 0 (fun _ => true) true [69] args.toList ds p := hA0
  obtain ⟨v0, d0, rfl, rfl, h0⟩ := trodAll_one hA
  have hv0 : Value.okWide Tryz.prog W .any base 69 v0 := hval 0 69 v0 rfl rfl
  obtain ⟨_, ⟨x0, rfl, w0⟩, r0⟩ := arg_struct tst69 hv0 h0 (oOpsPlaysIn)
  exact law_calls (law_plays x0 w0) (.cons r0 .nil) hW rfl rfl (t := 4) (by kernel_rfl) tub4 laid (by decide)
theorem opsPlays_closed : Go.joinedFacts Tryz.prog 10 Tryz.f10 Rows.opsPlaysSpec Rows.opsPlaysRow = true := by
  unfold Go.joinedFacts
  repeat' (with_reducible refine and_tt ?_ ?_)
  all_goals as_aux_lemma => kernel_rfl
theorem opsPlays : Rows.OpsPlaysSaid :=
  OpenClaim.holds_of_wide 10 Tryz.f10 rfl rfl rfl rfl rfl rfl rfl ⟨rfl, rfl, rfl, rfl, rfl⟩ rfl rfl rfl rfl rfl (by kernel_rfl) Tryz.func10 (opsPlays_closed)
    (of_decide_eq_true (by kernel_rfl)) (by unfold Func.isWrapper; rw [if_neg (of_decide_eq_false (by kernel_rfl))]; exact ⟨rfl, rfl⟩)
    (fun os started H enc _ => opsPlays_lifted os started H enc)
end Go.Proofs.YtdnfnddlciafmaaGreat
