import Derived.Test.YtdnfnddlciafmaaGreatXOpen11
import Derived.Test.YtdnfnddlciafmaaGreatXLaw11i
import Derived.Test.YtdnfnddlciafmaaGreatXBd
import Derived.JoinedCond
set_option linter.unusedVariables false
set_option linter.unusedSimpArgs false
namespace Go.Proofs.YtdnfnddlciafmaaGreat
open Go.Cx Tab Go.ChangeShapes Go.WideShapes
set_option maxHeartbeats 1600000
set_option maxRecDepth 100000
mutual
theorem blk_le {H : Type} : ∀ d : DataW H, blk d ≤ Rows.uptoBulk d
  | .lit l => by cases l <;> simp [blk, Rows.uptoBulk]
  | .nil => by simp [blk, Rows.uptoBulk]
  | .ptr d => by simp [blk, Rows.uptoBulk]
  | .slice elems spare => by have := blkAll_le elems; simp only [blk, Rows.uptoBulk]; omega
  | .agg parts => by have := blkAll_le parts; simp only [blk, Rows.uptoBulk]; omega
  | .iface t d => by simp [blk, Rows.uptoBulk]
  | .map es => by simp [blk, Rows.uptoBulk]
  | .held h => by simp [blk, Rows.uptoBulk]
theorem blkAll_le {H : Type} : ∀ l : List (DataW H), blkAll l ≤ Rows.uptoBulkAll l
  | [] => by simp [blkAll, Rows.uptoBulkAll]
  | d :: r => by have := blk_le d; have := blkAll_le r; simp only [blkAll, Rows.uptoBulkAll]; omega
end
def wtC (c : CallR) : Nat := 1
theorem wtC_sum : ∀ l : List CallR, (l.map wtC).sum = l.length
  | [] => rfl
  | c :: l => by simp [wtC, wtC_sum l]; omega
section
variable {W : World}
theorem bCall : OpnB Tryz.prog W 26 (fun xs b => ∃ c : CallR, xs = c.enc ∧ c.wf ∧ wtC c ≤ b) :=
  (opnB_struct tst26 ts26 (.cons (opn_int tui3).b ts3 (.cons (opn_int tui3).b ts3 (.cons (opn_int tui3).b ts3 (.cons (opn_int tui3).b ts3 (.cons (opn_int tui3).b ts3 (.cons (opn_string tus9).b ts9 (.cons (opn_string tus9).b ts9 (.cons (opn_string tus9).b ts9 .nil))))))))).mono fun xs b h => by
    obtain ⟨b1, l1, _, _, _, _, _, ⟨x0, rfl, h0⟩, ⟨_, _, _, _, _, ⟨x1, rfl, h1⟩, ⟨_, _, _, _, _, ⟨x2, rfl, h2⟩, ⟨_, _, _, _, _, ⟨x3, rfl, h3⟩, ⟨_, _, _, _, _, ⟨x4, rfl, h4⟩, ⟨_, _, _, _, _, ⟨x5, rfl, h5⟩, ⟨_, _, _, _, _, ⟨x6, rfl, h6⟩, ⟨_, _, _, _, _, ⟨x7, rfl, h7⟩, rfl, rfl⟩, rfl⟩, rfl⟩, rfl⟩, rfl⟩, rfl⟩, rfl⟩, rfl⟩ := h
    exact ⟨⟨x0, x1, x2, x3, x4, x5, x6, x7⟩, by simp [CallR.enc], ⟨h0, h1, h2, h3, h4, h5, h6, h7⟩, by simp only [wtC]; omega⟩
theorem bCalls : OpnB Tryz.prog W 30 (fun xs b => ∃ cs : List CallR, xs = [encL CallR.enc cs] ∧ (∀ c ∈ cs, c.wf) ∧ (cs.map wtC).sum + 1 ≤ b) :=
  opnB_rows te30 ts26 (by omega) bCall
end
theorem law_split' (f : FSR) (a b : List CallR) (ha : ∀ c ∈ a, c.wf) (hb : ∀ c ∈ b, c.wf) (hl : (a.map wtC).sum + (b.map wtC).sum ≤ 1048576) : PCall Tryz.prog 6 [encF f, encL CallR.enc a, encL CallR.enc b] (B true) :=
  law_split f a b ha hb (by rw [wtC_sum, wtC_sum] at hl; exact hl)
theorem opsSplit_lifted (os : Os) (started : os.Started) (H : Type) (enc : TypeId × Value → H) (F : Stop.Interp) :
    ReturnsInHanded {} Tryz.checked os 6 .any ((Rows.OpenSpec.upto Rows.opsSplitSpec).pre6 enc Tryz.prog Tryz.f6 Rows.opsSplitUptoRow.domain false) (((Rows.OpenSpec.upto Rows.opsSplitSpec).at F).post enc Tryz.prog Tryz.f6 false true false false) := by
  refine returnsInHanded_of_cond (C := Tryz.checked) (s := (Rows.OpenSpec.upto Rows.opsSplitSpec)) (k := Rows.uptoSmall) rfl own started (by kernel_rfl) Tryz.func6
    (OpenSpec.witness (enc := enc) (C := Tryz.checked) (s := (Rows.OpenSpec.upto Rows.opsSplitSpec)) (k := Rows.uptoSmall) rfl false ⟨#[], #[Value.agg #[Value.slice none 0 0, Value.int .i64 0], Value.slice none 0 0, Value.slice none 0 0], []⟩ 8 (by kernel_rfl) (by kernel_rfl) (by kernel_rfl) (x := ([.agg [.nil, .lit (.int .i64 0)], .nil, .nil], [], [])) (by kernel_rfl) rfl (by kernel_rfl)) ?_
  intro W base args ds gs before hval hW _ hk _
  have hW' := hW
  obtain ⟨p, q, hA0, hV, _, _, _⟩ := hW'
  obtain ⟨hg, _⟩ := trodVars_none hV
  subst hg
  have hA : DataW.TrodAll enc Tryz.prog W 0 (fun _ => true) true [24, 30, 30] args.toList ds p := hA0
  obtain ⟨v0, v1, v2, d0, d1, d2, p0, p1, p2, rfl, rfl, rfl, h0, h1, h2⟩ := trodAll_three hA
  have hv0 : Value.okWide Tryz.prog W .any base 24 v0 := hval 0 24 v0 rfl rfl
  obtain ⟨_, ⟨x0, rfl, w0⟩, r0⟩ := arg_struct tst24 hv0 h0 (oFS)
  have hv1 : Value.okWide Tryz.prog W .any base 30 v1 := hval 1 30 v1 rfl rfl
  obtain ⟨_, _, _, rfl⟩ := okWide_slice (run_telem te30) hv1
  obtain ⟨_, ⟨x1, e1, w1, g1⟩, r1⟩ := argB_one rfl h1 (bCalls)
  cases e1
  have hv2 : Value.okWide Tryz.prog W .any base 30 v2 := hval 2 30 v2 rfl rfl
  obtain ⟨_, _, _, rfl⟩ := okWide_slice (run_telem te30) hv2
  obtain ⟨_, ⟨x2, e2, w2, g2⟩, r2⟩ := argB_one rfl h2 (bCalls)
  cases e2
  have hsm : blkAll [d0, d1, d2] ≤ 1048576 := Nat.le_trans (blkAll_le _) (of_decide_eq_true hk)
  exact law_calls (law_split' x0 x1 x2 w1 w2 (by simp only [blkAll] at hsm; omega)) (.cons r0 (.cons r1 (.cons r2 .nil))) hW rfl rfl (t := 4) (by kernel_rfl) tub4 laid (by decide)
theorem opsSplit_closed : Go.joinedFacts Tryz.prog 6 Tryz.f6 (Rows.OpenSpec.upto Rows.opsSplitSpec).bare Rows.opsSplitUptoRow = true := by
  unfold Go.joinedFacts
  repeat' (with_reducible refine and_tt ?_ ?_)
  all_goals as_aux_lemma => kernel_rfl
theorem opsSplit : Rows.OpsSplitUptoSaid :=
  OpenClaim.holds_of_cond 6 Tryz.f6 rfl rfl rfl rfl rfl rfl rfl ⟨rfl, rfl, rfl, rfl, rfl⟩ rfl rfl rfl rfl rfl (by kernel_rfl) Tryz.func6 (opsSplit_closed)
    (of_decide_eq_true (by kernel_rfl)) (by unfold Func.isWrapper; rw [if_neg (of_decide_eq_false (by kernel_rfl))]; exact ⟨rfl, rfl⟩)
    (fun os started H enc _ F => opsSplit_lifted os started H enc F)
end Go.Proofs.YtdnfnddlciafmaaGreat
