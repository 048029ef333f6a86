/- What is handed to TreeBack, opened; TreeBack, as it is claimed. -/
import Derived.Test.YtilmfmjcemfoeaaLaw08d
import Derived.Test.YtilmfmjcemfoeaaRows
set_option linter.unusedVariables false
set_option linter.unusedSimpArgs false
namespace Go.Proofs.Ytilmfmjcemfoeaa
open Go.Cx Tab Go.ChangeShapes Go.WideShapes
set_option maxHeartbeats 1600000
set_option maxRecDepth 100000

theorem own : ownKnob Try.prog.godebug = none := by kernel_rfl
theorem laid : laidOutB Try.prog = true := by kernel_rfl
section
variable {W : World}
theorem oEntry : Opn Try.prog W 74 (fun xs => ∃ c : EntryR, xs = c.enc ∧ c.wf) :=
  (opn_struct tst74 ts74 (.cons (opn_string tus9) ts9 (.cons (opn_int tui3) ts3 .nil))).mono fun xs h => by
    obtain ⟨_, _, ⟨x0, rfl, h0⟩, ⟨_, _, ⟨x1, rfl, h1⟩, rfl, rfl⟩, rfl⟩ := h
    exact ⟨⟨x0, x1⟩, by simp [EntryR.enc], h0, h1⟩
theorem oNode : Opn Try.prog W 38 (fun xs => ∃ c : NodeR, xs = c.enc ∧ c.wf) :=
  (opn_struct tst38 ts38 (.cons (opn_int tui3) ts3 (.cons (opn_int tui3) ts3 (.cons (opn_int tui3) ts3 (.cons (opn_string tus9) ts9 (.cons (opn_rows te36 ts74 (by omega) oEntry) ts36 .nil)))))).mono fun xs h => by
    obtain ⟨_, _, ⟨x0, rfl, h0⟩, ⟨_, _, ⟨x1, rfl, h1⟩, ⟨_, _, ⟨x2, rfl, h2⟩, ⟨_, _, ⟨x3, rfl, h3⟩, ⟨_, _, ⟨x4, rfl, h4⟩, rfl, rfl⟩, rfl⟩, rfl⟩, rfl⟩, rfl⟩ := h
    exact ⟨⟨x0, x1, x2, x3, x4⟩, by simp [NodeR.enc], h0, h1, h2, h3, h4⟩
theorem oFS : Opn Try.prog W 24 (fun xs => ∃ c : FSR, xs = c.enc ∧ c.wf) :=
  (opn_struct tst24 ts24 (.cons (opn_rows te22 ts38 (by omega) oNode) ts22 (.cons (opn_int tui3) ts3 .nil))).mono fun xs h => by
    obtain ⟨_, _, ⟨x0, rfl, h0⟩, ⟨_, _, ⟨x1, rfl, h1⟩, rfl, rfl⟩, rfl⟩ := h
    exact ⟨⟨x0, x1⟩, by simp [FSR.enc], h0, h1⟩
end
theorem treeBack_lifted (os : Os) (started : os.Started) (H : Type) (enc : TypeId × Value → H) :
    ReturnsInHanded {} Try.checked os 3 .any (Rows.treeBackSpec.pre6 enc Try.prog Try.f3 Rows.treeBackRow.domain false) (Rows.treeBackSpec.post enc Try.prog Try.f3 false true false false) := by
  refine returnsInHanded_of_change (C := Try.checked) own started (by kernel_rfl) Try.func3
    (ChangeSpec.witness6 (enc := enc) (C := Try.checked) false ⟨#[], #[Value.agg #[Value.slice none 0 0, Value.int .i64 0], Value.string .empty], []⟩ 8 (by kernel_rfl) (by kernel_rfl) (by kernel_rfl) (by kernel_rfl)) ?_
  intro W base args ds gs before hval hW _ _
  have hW' := hW
  obtain ⟨p, q, hA0, hV, _, _, _⟩ := hW'
  obtain ⟨hg, _⟩ := trodVars_none hV
  subst hg
  have hA : DataW.TrodAll enc Try.prog W 0 (fun _ => true) true [24, 9] args.toList ds p := hA0
  obtain ⟨v0, v1, d0, d1, p0, p1, rfl, rfl, rfl, h0, h1⟩ := trodAll_two hA
  have hv0 : Value.okWide Try.prog W .any base 24 v0 := hval 0 24 v0 rfl rfl
  obtain ⟨_, ⟨x0, rfl, w0⟩, r0⟩ := arg_struct tst24 hv0 h0 (oFS)
  have hv1 : Value.okWide Try.prog W .any base 9 v1 := hval 1 9 v1 rfl rfl
  obtain ⟨_, rfl⟩ := okWide_string tus9 hv1
  obtain ⟨_, ⟨x1, e1, w1⟩, r1⟩ := arg_one rfl h1 (opn_string tus9)
  cases e1
  exact law_calls (law_back x0 w0 x1) (.cons r0 (.cons r1 .nil)) hW rfl rfl (t := 4) (by kernel_rfl) tub4 laid (by decide)
theorem treeBack : Rows.TreeBackSaid :=
  OpenClaim.holds_of_wide 3 Try.f3 rfl rfl rfl rfl rfl rfl rfl ⟨rfl, rfl, rfl, rfl, rfl⟩ rfl rfl rfl rfl rfl (by kernel_rfl) Try.func3 (by kernel_rfl)
    (of_decide_eq_true (by kernel_rfl)) (by unfold Func.isWrapper; rw [if_neg (of_decide_eq_false (by kernel_rfl))]; exact ⟨rfl, rfl⟩)
    (fun os started H enc _ => treeBack_lifted os started H enc)
end Go.Proofs.Ytilmfmjcemfoeaa
