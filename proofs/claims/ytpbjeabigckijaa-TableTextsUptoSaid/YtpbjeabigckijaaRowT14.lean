/- TableWhole, as it is claimed; TableTexts, as it is claimed where what is read is of bulk at most its bound. -/
import Derived.Test.YtpbjeabigckijaaOpenT14
import Derived.JoinedCond
set_option linter.unusedVariables false
set_option linter.unusedSimpArgs false
namespace Go.Proofs.Ytpbjeabigckijaa
open Go.Cx Tab Go.ChangeShapes Go.WideShapes
set_option maxHeartbeats 1600000
set_option maxRecDepth 100000

mutual
theorem blk_le {H : Type} : ∀ d : DataW H, blk d ≤ Rows.uptoBulk d
  | .lit l => by cases l <;> simp [blk, Rows.uptoBulk]
  | .nil => by simp [blk, Rows.uptoBulk]
  | .ptr d => by simp [blk, Rows.uptoBulk]
  | .slice elems spare => by have := blkAll_le elems; simp only [blk, Rows.uptoBulk]; omega
  | .agg parts => by have := blkAll_le parts; simp only [blk, Rows.uptoBulk]; omega
  | .iface t d => by simp [blk, Rows.uptoBulk]
  | .map es => by simp [blk, Rows.uptoBulk]
  | .held h => by simp [blk, Rows.uptoBulk]
theorem blkAll_le {H : Type} : ∀ l : List (DataW H), blkAll l ≤ Rows.uptoBulkAll l
  | [] => by simp [blkAll, Rows.uptoBulkAll]
  | d :: r => by have := blk_le d; have := blkAll_le r; simp only [blkAll, Rows.uptoBulkAll]; omega
end
def wtD (d : DecisionR) : Nat := 1
def wtR (x : RowR) : Nat := x.l.length
section
variable {W : World}
theorem bDec : OpnB Try.prog W 65 (fun xs b => ∃ c : DecisionR, xs = c.enc ∧ c.wf ∧ wtD c ≤ b) :=
  (opnB_struct tst65 ts65 (.cons (opn_int tui3).b ts3 (.cons (opn_bool tub4).b ts4 .nil))).mono fun xs b h => by
    obtain ⟨b1, l1, _, _, _, _, _, ⟨x0, rfl, h0⟩, ⟨_, _, _, _, _, ⟨x1, rfl⟩, rfl, rfl⟩, rfl⟩ := h
    exact ⟨⟨x0, x1⟩, by simp [DecisionR.enc], by first | exact h0 | exact ⟨h0, trivial⟩ | exact ⟨h0⟩, by simp only [wtD]; omega⟩
theorem bRow : OpnB Try.prog W 63 (fun xs b => ∃ c : RowR, xs = c.enc ∧ c.wf ∧ wtR c ≤ b) :=
  (opnB_struct tst63 ts63 (.cons (opn_int tui3).b ts3 (.cons (opn_int tui3).b ts3 (.cons (opn_int tui3).b ts3 (.cons (opnB_rows te61 ts65 (by omega) bDec) ts61 .nil))))).mono fun xs b h => by
    obtain ⟨b1, l1, _, _, _, _, m1, ⟨x0, rfl, h0⟩, ⟨_, _, _, _, m2, ⟨x1, rfl, h1⟩, ⟨_, _, _, _, m3, ⟨x2, rfl, h2⟩, ⟨_, _, _, _, m4, ⟨x3, rfl, h3, g3⟩, rfl, rfl⟩, rfl⟩, rfl⟩, rfl⟩ := h
    exact ⟨⟨x0, x1, x2, x3⟩, by simp [RowR.enc], ⟨h0, h1, h2, h3⟩, by
      have : (x3.map wtD).sum = x3.length := by
        have : ∀ l : List DecisionR, (l.map wtD).sum = l.length := fun l => by induction l with | nil => rfl | cons y l ih => simp [wtD, ih]; omega
        exact this x3
      simp only [wtR]; omega⟩
theorem bRows : OpnB Try.prog W 22 (fun xs b => ∃ cs : List RowR, xs = [encL RowR.enc cs] ∧ (∀ c ∈ cs, c.wf) ∧ (cs.map wtR).sum + 1 ≤ b) :=
  opnB_rows te22 ts63 (by omega) bRow
end
theorem rowsL_wt (l : List RowR) (hw : ∀ r ∈ l, RowW r) (h : (l.map wtR).sum ≤ 1048576) : (rowsL l).length ≤ 1000000000000 ∨ fewT l.length l = false := by
  by_cases hb : l.length ≤ 1000
  case neg =>
    right
    cases l with
    | nil => simp at hb
    | cons x l => rw [fewT, if_neg (by omega)]
  left
  have key : ∀ l : List RowR, (∀ r ∈ l, RowW r) → (l.map wtR).sum ≤ 1048576 → (l.flatMap rowL).length ≤ 40 * l.length + 20 * (l.map wtR).sum := by
    intro l
    induction l with
    | nil => simp
    | cons x l ih =>
      intro hl hsum
      simp only [List.map_cons, List.sum_cons, wtR] at hsum
      have h2 := ih (fun y hy => hl y (by simp [hy])) (by omega)
      have h3 := rowL_len (hl x (by simp)) (by omega)
      simp only [List.flatMap_cons, List.length_append, List.length_cons, List.map_cons, List.sum_cons, wtR] at *
      omega
  have := key l hw h
  have := numL_10 (n := l.length) (by omega)
  simp only [rowsL, List.length_append]
  omega
theorem law_ttexts' (l : List RowR) (b : ByteArray) (hw : ∀ c ∈ l, c.wf) (h : (l.map wtR).sum ≤ 1048576) : PCall Try.prog 8 [encL RowR.enc l, S b] (B true) := by
  have hw' : ∀ r ∈ l, RowW r := fun r hr => by
    have := hw r hr
    simp only [RowR.wf] at this
    exact ⟨this.1, this.2.1, this.2.2.1, fun d hd => this.2.2.2 d hd⟩
  have := law_ttexts l (bs b) hw' (rowsL_wt l hw' h)
  rwa [T_bs] at this

theorem tableTexts_lifted (os : Os) (started : os.Started) (H : Type) (enc : TypeId × Value → H) (F : Stop.Interp) :
    ReturnsInHanded {} Try.checked os 8 .any ((Rows.OpenSpec.upto Rows.tableTextsSpec).pre6 enc Try.prog Try.f8 Rows.tableTextsUptoRow.domain false) (((Rows.OpenSpec.upto Rows.tableTextsSpec).at F).post enc Try.prog Try.f8 false true false false) := by
  refine returnsInHanded_of_cond (C := Try.checked) (s := (Rows.OpenSpec.upto Rows.tableTextsSpec)) (k := Rows.uptoSmall) rfl own started (by kernel_rfl) Try.func8
    (OpenSpec.witness (enc := enc) (C := Try.checked) (s := (Rows.OpenSpec.upto Rows.tableTextsSpec)) (k := Rows.uptoSmall) rfl false ⟨#[], #[Value.slice none 0 0, Value.string .empty], []⟩ 8 (by kernel_rfl) (by kernel_rfl) (by kernel_rfl) (x := ([.nil, .lit (.string [])], [], [])) (by kernel_rfl) rfl (by kernel_rfl)) ?_
  intro W base args ds gs before hval hW _ hk _
  have hW' := hW
  obtain ⟨p, q, hA0, hV, _, _, _⟩ := hW'
  obtain ⟨hg, _⟩ := trodVars_none hV
  subst hg
  have hA : DataW.TrodAll enc Try.prog W 0 (fun _ => true) true [22, 9] args.toList ds p := hA0
  obtain ⟨v0, v1, d0, d1, p0, p1, rfl, rfl, rfl, h0, h1⟩ := trodAll_two hA
  have hv0 : Value.okWide Try.prog W .any base 22 v0 := hval 0 22 v0 rfl rfl
  obtain ⟨_, _, _, rfl⟩ := okWide_slice (run_telem te22) hv0
  obtain ⟨_, ⟨x0, e0, w0, g0⟩, r0⟩ := argB_one rfl h0 (bRows)
  cases e0
  have hv1 : Value.okWide Try.prog W .any base 9 v1 := hval 1 9 v1 rfl rfl
  obtain ⟨_, rfl⟩ := okWide_string tus9 hv1
  obtain ⟨_, ⟨x1, e1, w1⟩, r1⟩ := arg_one rfl h1 (opn_string tus9)
  cases e1
  have hsm : blkAll [d0, d1] ≤ 1048576 := Nat.le_trans (blkAll_le _) (of_decide_eq_true hk)
  exact law_calls (law_ttexts' x0 x1 w0 (by simp only [blkAll] at hsm; omega)) (.cons r0 (.cons r1 .nil)) hW rfl rfl (t := 4) (by kernel_rfl) tub4 laid (by decide)
theorem tableTexts : Rows.TableTextsUptoSaid :=
  OpenClaim.holds_of_cond 8 Try.f8 rfl rfl rfl rfl rfl rfl rfl ⟨rfl, rfl, rfl, rfl, rfl⟩ rfl rfl rfl rfl rfl (by kernel_rfl) Try.func8 (by kernel_rfl)
    (of_decide_eq_true (by kernel_rfl)) (by unfold Func.isWrapper; rw [if_neg (of_decide_eq_false (by kernel_rfl))]; exact ⟨rfl, rfl⟩)
    (fun os started H enc _ F => tableTexts_lifted os started H enc F)
theorem tableWhole_lifted (os : Os) (started : os.Started) (H : Type) (enc : TypeId × Value → H) :
    ReturnsInHanded {} Try.checked os 9 .any (Rows.tableWholeSpec.pre6 enc Try.prog Try.f9 Rows.tableWholeRow.domain false) (Rows.tableWholeSpec.post enc Try.prog Try.f9 false true false false) := by
  refine returnsInHanded_of_change (C := Try.checked) own started (by kernel_rfl) Try.func9
    (ChangeSpec.witness6 (enc := enc) (C := Try.checked) false ⟨#[], #[Value.agg #[Value.slice none 0 0, Value.int .i64 0, Value.int .i64 0, Value.int .i64 0, Value.int .i64 0]], []⟩ 8 (by kernel_rfl) (by kernel_rfl) (by kernel_rfl) (by kernel_rfl)) ?_
  intro W base args ds gs before hval hW _ _
  have hW' := hW
  obtain ⟨p, q, hA0, hV, _, _, _⟩ := hW'
  obtain ⟨hg, _⟩ := trodVars_none hV
  subst hg
  have hA : DataW.TrodAll enc Try.prog W 0 (fun _ => true) true [59] args.toList ds p := hA0
  obtain ⟨v0, d0, rfl, rfl, h0⟩ := trodAll_one hA
  have hv0 : Value.okWide Try.prog W .any base 59 v0 := hval 0 59 v0 rfl rfl
  obtain ⟨_, ⟨x0, rfl, w0⟩, r0⟩ := arg_struct tst59 hv0 h0 (oTableWholeIn)
  exact law_calls (law_whole x0 w0) (.cons r0 .nil) hW rfl rfl (t := 4) (by kernel_rfl) tub4 laid (by decide)
theorem tableWhole : Rows.TableWholeSaid :=
  OpenClaim.holds_of_wide 9 Try.f9 rfl rfl rfl rfl rfl rfl rfl ⟨rfl, rfl, rfl, rfl, rfl⟩ rfl rfl rfl rfl rfl (by kernel_rfl) Try.func9 (by kernel_rfl)
    (of_decide_eq_true (by kernel_rfl)) (by unfold Func.isWrapper; rw [if_neg (of_decide_eq_false (by kernel_rfl))]; exact ⟨rfl, rfl⟩)
    (fun os started H enc _ => tableWhole_lifted os started H enc)
end Go.Proofs.Ytpbjeabigckijaa
