/- ClientEnds, ClientRights, ClientHears, as they are claimed. -/
import Derived.Test.YtpejmbffoklliaaOpen18
import Derived.Test.YtpejmbffoklliaaLawE18
set_option linter.unusedVariables false
set_option linter.unusedSimpArgs false
namespace Go.Proofs.Ytpejmbffoklliaa
open Go.Cx Tab Go.ChangeShapes Go.WideShapes
set_option maxHeartbeats 1600000
set_option maxRecDepth 100000

theorem oJobs {W : World} : Opn Try.prog W 22 (fun xs => ∃ l : List (List CallR), xs = [enc1 encCalls l] ∧ ∀ x ∈ l, ∀ c ∈ x, c.wf) :=
  opn_rows1 (enc := encCalls) (p := fun x => ∀ c ∈ x, c.wf) te22 ts47 (opn_rows te47 ts40 (by omega) oCall)

theorem clientEnds_lifted (os : Os) (started : os.Started) (H : Type) (enc : TypeId × Value → H) :
    ReturnsInHanded {} Try.checked os 5 .any (Rows.clientEndsSpec.pre6 enc Try.prog Try.f5 Rows.clientEndsRow.domain false) (Rows.clientEndsSpec.post enc Try.prog Try.f5 false true false false) := by
  refine returnsInHanded_of_change (C := Try.checked) own started (by kernel_rfl) Try.func5
    (ChangeSpec.witness6 (enc := enc) (C := Try.checked) false ⟨#[], #[Value.int .i64 0, Value.int .i64 0, Value.slice none 0 0], []⟩ 8 (by kernel_rfl) (by kernel_rfl) (by kernel_rfl) (by kernel_rfl)) ?_
  intro W base args ds gs before hval hW _ _
  have hW' := hW
  obtain ⟨p, q, hA0, hV, _, _, _⟩ := hW'
  obtain ⟨hg, _⟩ := trodVars_none hV
  subst hg
  have hA : DataW.TrodAll enc Try.prog W 0 (fun _ => true) true [3, 3, 22] args.toList ds p := hA0
  obtain ⟨v0, v1, v2, d0, d1, d2, p0, p1, p2, rfl, rfl, rfl, h0, h1, h2⟩ := trodAll_three hA
  have hv0 : Value.okWide Try.prog W .any base 3 v0 := hval 0 3 v0 rfl rfl
  obtain ⟨_, rfl⟩ := okWide_int tui3 hv0
  obtain ⟨_, ⟨x0, e0, w0⟩, r0⟩ := arg_one rfl h0 (opn_int tui3)
  cases e0
  have hv1 : Value.okWide Try.prog W .any base 3 v1 := hval 1 3 v1 rfl rfl
  obtain ⟨_, rfl⟩ := okWide_int tui3 hv1
  obtain ⟨_, ⟨x1, e1, w1⟩, r1⟩ := arg_one rfl h1 (opn_int tui3)
  cases e1
  have hv2 : Value.okWide Try.prog W .any base 22 v2 := hval 2 22 v2 rfl rfl
  obtain ⟨_, _, _, rfl⟩ := okWide_slice (run_telem te22) hv2
  obtain ⟨_, ⟨x2, e2, w2⟩, r2⟩ := arg_one rfl h2 (oJobs)
  cases e2
  exact law_calls (ends_ok x0 x1 x2) (.cons r0 (.cons r1 (.cons r2 .nil))) hW rfl rfl (t := 4) (by kernel_rfl) tub4 laid (by decide)
theorem clientEnds : Rows.ClientEndsSaid :=
  OpenClaim.holds_of_wide 5 Try.f5 rfl rfl rfl rfl rfl rfl rfl ⟨rfl, rfl, rfl, rfl, rfl⟩ rfl rfl rfl rfl rfl (by kernel_rfl) Try.func5 (by kernel_rfl)
    (of_decide_eq_true (by kernel_rfl)) (by unfold Func.isWrapper; rw [if_neg (of_decide_eq_false (by kernel_rfl))]; exact ⟨rfl, rfl⟩)
    (fun os started H enc _ => clientEnds_lifted os started H enc)
theorem clientRights_lifted (os : Os) (started : os.Started) (H : Type) (enc : TypeId × Value → H) :
    ReturnsInHanded {} Try.checked os 8 .any (Rows.clientRightsSpec.pre6 enc Try.prog Try.f8 Rows.clientRightsRow.domain false) (Rows.clientRightsSpec.post enc Try.prog Try.f8 false true false false) := by
  refine returnsInHanded_of_change (C := Try.checked) own started (by kernel_rfl) Try.func8
    (ChangeSpec.witness6 (enc := enc) (C := Try.checked) false ⟨#[], #[Value.agg #[Value.int .i64 0, Value.int .i64 0, Value.int .i64 0, Value.slice none 0 0, Value.int .i64 0, Value.int .i64 0, Value.int .i64 0, Value.slice none 0 0, Value.slice none 0 0], Value.int .i64 0, Value.int .i64 0], []⟩ 8 (by kernel_rfl) (by kernel_rfl) (by kernel_rfl) (by kernel_rfl)) ?_
  intro W base args ds gs before hval hW _ _
  have hW' := hW
  obtain ⟨p, q, hA0, hV, _, _, _⟩ := hW'
  obtain ⟨hg, _⟩ := trodVars_none hV
  subst hg
  have hA : DataW.TrodAll enc Try.prog W 0 (fun _ => true) true [26, 3, 3] args.toList ds p := hA0
  obtain ⟨v0, v1, v2, d0, d1, d2, p0, p1, p2, rfl, rfl, rfl, h0, h1, h2⟩ := trodAll_three hA
  have hv0 : Value.okWide Try.prog W .any base 26 v0 := hval 0 26 v0 rfl rfl
  obtain ⟨_, ⟨x0, rfl, w0⟩, r0⟩ := arg_struct tst26 hv0 h0 (oClient)
  have hv1 : Value.okWide Try.prog W .any base 3 v1 := hval 1 3 v1 rfl rfl
  obtain ⟨_, rfl⟩ := okWide_int tui3 hv1
  obtain ⟨_, ⟨x1, e1, w1⟩, r1⟩ := arg_one rfl h1 (opn_int tui3)
  cases e1
  have hv2 : Value.okWide Try.prog W .any base 3 v2 := hval 2 3 v2 rfl rfl
  obtain ⟨_, rfl⟩ := okWide_int tui3 hv2
  obtain ⟨_, ⟨x2, e2, w2⟩, r2⟩ := arg_one rfl h2 (opn_int tui3)
  cases e2
  exact law_calls (rights_ok x0 x1 x2) (.cons r0 (.cons r1 (.cons r2 .nil))) hW rfl rfl (t := 4) (by kernel_rfl) tub4 laid (by decide)
theorem clientRights : Rows.ClientRightsSaid :=
  OpenClaim.holds_of_wide 8 Try.f8 rfl rfl rfl rfl rfl rfl rfl ⟨rfl, rfl, rfl, rfl, rfl⟩ rfl rfl rfl rfl rfl (by kernel_rfl) Try.func8 (by kernel_rfl)
    (of_decide_eq_true (by kernel_rfl)) (by unfold Func.isWrapper; rw [if_neg (of_decide_eq_false (by kernel_rfl))]; exact ⟨rfl, rfl⟩)
    (fun os started H enc _ => clientRights_lifted os started H enc)
theorem clientHears_lifted (os : Os) (started : os.Started) (H : Type) (enc : TypeId × Value → H) :
    ReturnsInHanded {} Try.checked os 9 .any (Rows.clientHearsSpec.pre6 enc Try.prog Try.f9 Rows.clientHearsRow.domain false) (Rows.clientHearsSpec.post enc Try.prog Try.f9 false true false false) := by
  refine returnsInHanded_of_change (C := Try.checked) own started (by kernel_rfl) Try.func9
    (ChangeSpec.witness6 (enc := enc) (C := Try.checked) false ⟨#[], #[Value.agg #[Value.int .i64 0, Value.int .i64 0, Value.int .i64 0, Value.slice none 0 0, Value.int .i64 0, Value.int .i64 0, Value.int .i64 0, Value.slice none 0 0, Value.slice none 0 0], Value.agg #[Value.int .i64 0, Value.int .i64 0, Value.int .i64 0, Value.int .i64 0, Value.int .i64 0, Value.int .i64 0, Value.int .i64 0, Value.int .i64 0, Value.int .i64 0, Value.string .empty, Value.slice none 0 0], Value.agg #[Value.int .i64 0, Value.int .i64 0, Value.int .i64 0, Value.slice none 0 0, Value.int .i64 0, Value.int .i64 0, Value.int .i64 0, Value.slice none 0 0, Value.slice none 0 0]], []⟩ 8 (by kernel_rfl) (by kernel_rfl) (by kernel_rfl) (by kernel_rfl)) ?_
  intro W base args ds gs before hval hW _ _
  have hW' := hW
  obtain ⟨p, q, hA0, hV, _, _, _⟩ := hW'
  obtain ⟨hg, _⟩ := trodVars_none hV
  subst hg
  have hA : DataW.TrodAll enc Try.prog W 0 (fun _ => true) true [26, 32, 26] args.toList ds p := hA0
  obtain ⟨v0, v1, v2, d0, d1, d2, p0, p1, p2, rfl, rfl, rfl, h0, h1, h2⟩ := trodAll_three hA
  have hv0 : Value.okWide Try.prog W .any base 26 v0 := hval 0 26 v0 rfl rfl
  obtain ⟨_, ⟨x0, rfl, w0⟩, r0⟩ := arg_struct tst26 hv0 h0 (oClient)
  have hv1 : Value.okWide Try.prog W .any base 32 v1 := hval 1 32 v1 rfl rfl
  obtain ⟨_, ⟨x1, rfl, w1⟩, r1⟩ := arg_struct tst32 hv1 h1 (oRsp)
  have hv2 : Value.okWide Try.prog W .any base 26 v2 := hval 2 26 v2 rfl rfl
  obtain ⟨_, ⟨x2, rfl, w2⟩, r2⟩ := arg_struct tst26 hv2 h2 (oClient)
  exact law_calls (hears_ok x0 x2 x1) (.cons r0 (.cons r1 (.cons r2 .nil))) hW rfl rfl (t := 4) (by kernel_rfl) tub4 laid (by decide)
theorem clientHears : Rows.ClientHearsSaid :=
  OpenClaim.holds_of_wide 9 Try.f9 rfl rfl rfl rfl rfl rfl rfl ⟨rfl, rfl, rfl, rfl, rfl⟩ rfl rfl rfl rfl rfl (by kernel_rfl) Try.func9 (by kernel_rfl)
    (of_decide_eq_true (by kernel_rfl)) (by unfold Func.isWrapper; rw [if_neg (of_decide_eq_false (by kernel_rfl))]; exact ⟨rfl, rfl⟩)
    (fun os started H enc _ => clientHears_lifted os started H enc)
end Go.Proofs.Ytpejmbffoklliaa
