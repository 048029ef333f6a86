/- NodeTexts, as it is claimed where what is read is of bulk at most its bound. -/
import Derived.Test.YtjelapkglkcoiaaLaw07u
import Derived.Test.YtjelapkglkcoiaaOpen07
import Derived.JoinedCond
set_option linter.unusedVariables false
set_option linter.unusedSimpArgs false
namespace Go.Proofs.Ytjelapkglkcoiaa
open Go.Cx Tab Go.ChangeShapes Go.WideShapes
set_option maxHeartbeats 1600000
set_option maxRecDepth 100000

mutual
theorem blk_le {H : Type} : ∀ d : DataW H, blk d ≤ Rows.uptoBulk d
  | .lit l => by cases l <;> simp [blk, Rows.uptoBulk]
  | .nil => by simp [blk, Rows.uptoBulk]
  | .ptr d => by simp [blk, Rows.uptoBulk]
  | .slice elems spare => by have := blkAll_le elems; simp only [blk, Rows.uptoBulk]; omega
  | .agg parts => by have := blkAll_le parts; simp only [blk, Rows.uptoBulk]; omega
  | .iface t d => by simp [blk, Rows.uptoBulk]
  | .map es => by simp [blk, Rows.uptoBulk]
  | .held h => by simp [blk, Rows.uptoBulk]
theorem blkAll_le {H : Type} : ∀ l : List (DataW H), blkAll l ≤ Rows.uptoBulkAll l
  | [] => by simp [blkAll, Rows.uptoBulkAll]
  | d :: r => by have := blk_le d; have := blkAll_le r; simp only [blkAll, Rows.uptoBulkAll]; omega
end
def wtE (x : EntryR) : Nat := x.name.size
def wtN (n : NodeR) : Nat := n.text.size + (n.l.map wtE).sum
section
variable {W : World}
theorem bEntry : OpnB Try.prog W 41 (fun xs b => ∃ c : EntryR, xs = c.enc ∧ c.wf ∧ wtE c ≤ b) :=
  (opnB_struct tst41 ts41 (.cons (opnB_string tus9) ts9 (.cons (opn_int tui3).b ts3 .nil))).mono fun xs b h => by
    obtain ⟨b1, l1, _, _, b2, b3, l2, ⟨x0, rfl, h0, g0⟩, ⟨_, _, b4, b5, l3, ⟨x1, rfl, h1⟩, rfl, rfl⟩, rfl⟩ := h
    exact ⟨⟨x0, x1⟩, by simp [EntryR.enc], ⟨h0, h1⟩, by simp only [wtE]; omega⟩
theorem bNode : OpnB Try.prog W 24 (fun xs b => ∃ c : NodeR, xs = c.enc ∧ c.wf ∧ wtN c ≤ b) :=
  (opnB_struct tst24 ts24 (.cons (opn_int tui3).b ts3 (.cons (opn_int tui3).b ts3 (.cons (opn_int tui3).b ts3 (.cons (opnB_string tus9) ts9 (.cons (opnB_rows te22 ts41 (by omega) bEntry) ts22 .nil)))))).mono fun xs b h => by
    obtain ⟨b1, l1, _, _, _, _, m1, ⟨x0, rfl, h0⟩, ⟨_, _, _, _, m2, ⟨x1, rfl, h1⟩, ⟨_, _, _, _, m3, ⟨x2, rfl, h2⟩, ⟨_, _, _, _, m4, ⟨x3, rfl, h3, g3⟩, ⟨_, _, _, _, m5, ⟨x4, rfl, h4, g4⟩, rfl, rfl⟩, rfl⟩, rfl⟩, rfl⟩, rfl⟩ := h
    exact ⟨⟨x0, x1, x2, x3, x4⟩, by simp [NodeR.enc], ⟨h0, h1, h2, h3, h4⟩, by simp only [wtN]; omega⟩
end
theorem nodeL_wt (n : NodeR) (hw : n.wf) (h : wtN n ≤ 1048576) (hn : n.l.length ≤ maxLen) : (nodeL n).length ≤ 1099511627776 ∨ 300 < n.l.length := by
  by_cases h3 : 300 < n.l.length
  · exact .inr h3
  left
  have hs : ∀ l : List EntryR, (∀ x ∈ l, x.wf) → (l.map wtE).sum ≤ 1048576 → (l.flatMap entL).length ≤ (l.map wtE).sum + 20 * l.length := by
    intro l
    induction l with
    | nil => simp
    | cons x l ih =>
      intro hl hsum
      simp only [List.map_cons, List.sum_cons, wtE] at hsum
      have h2 := ih (fun y hy => hl y (by simp [hy])) (by omega)
      have h3 := numL_10 (foldS_lt (hl x (by simp)).2)
      have h4 := numL_10 (n := x.name.size) (by omega)
      have : (entL x).length = (numL x.name.size).length + x.name.size + (numL (foldS x.ino)).length := by simp [entL, textL, whl]; omega
      simp only [List.flatMap_cons, List.length_append, List.length_cons, List.map_cons, List.sum_cons, wtE] at *
      omega
  simp only [wtN] at h
  have h1 := hs n.l hw.2.2.2.2 (by omega)
  have h2 := numL_10 (foldS_lt hw.1)
  have h4 := numL_10 (foldS_lt hw.2.1)
  have h5 := numL_10 (foldS_lt hw.2.2.1)
  have h6 := numL_10 (n := n.text.size) (by omega)
  have h7 := numL_10 (n := n.l.length) (by omega)
  rw [nodeL_len']
  omega
theorem law_texts' (n other : NodeR) (b : ByteArray) (hn : n.wf) (hw : wtN n ≤ 1048576) : PCall Try.prog 12 [encN n, encN other, S b] (B true) := by
  by_cases hx : n.l.length ≤ maxLen
  · have := law_texts n other (bs b) hn (nodeL_wt n hn hw hx)
    rwa [T_bs] at this
  · have := law_texts n other (bs b) hn (.inr (by simp only [maxLen] at hx; omega))
    rwa [T_bs] at this

theorem nodeTexts_lifted (os : Os) (started : os.Started) (H : Type) (enc : TypeId × Value → H) (F : Stop.Interp) :
    ReturnsInHanded {} Try.checked os 12 .any ((Rows.OpenSpec.upto Rows.nodeTextsSpec).pre6 enc Try.prog Try.f12 Rows.nodeTextsUptoRow.domain false) (((Rows.OpenSpec.upto Rows.nodeTextsSpec).at F).post enc Try.prog Try.f12 false true false false) := by
  refine returnsInHanded_of_cond (C := Try.checked) (s := (Rows.OpenSpec.upto Rows.nodeTextsSpec)) (k := Rows.uptoSmall) rfl own started (by kernel_rfl) Try.func12
    (OpenSpec.witness (enc := enc) (C := Try.checked) (s := (Rows.OpenSpec.upto Rows.nodeTextsSpec)) (k := Rows.uptoSmall) rfl false ⟨#[], #[Value.agg #[Value.int .i64 0, Value.int .i64 0, Value.int .i64 0, Value.string .empty, Value.slice none 0 0], Value.agg #[Value.int .i64 0, Value.int .i64 0, Value.int .i64 0, Value.string .empty, Value.slice none 0 0], Value.string .empty], []⟩ 8 (by kernel_rfl) (by kernel_rfl) (by kernel_rfl) (x := ([.agg [.lit (.int .i64 0), .lit (.int .i64 0), .lit (.int .i64 0), .lit (.string []), .nil], .agg [.lit (.int .i64 0), .lit (.int .i64 0), .lit (.int .i64 0), .lit (.string []), .nil], .lit (.string [])], [], [])) (by kernel_rfl) rfl (by kernel_rfl)) ?_
  intro W base args ds gs before hval hW _ hk _
  have hW' := hW
  obtain ⟨p, q, hA0, hV, _, _, _⟩ := hW'
  obtain ⟨hg, _⟩ := trodVars_none hV
  subst hg
  have hA : DataW.TrodAll enc Try.prog W 0 (fun _ => true) true [24, 24, 9] args.toList ds p := hA0
  obtain ⟨v0, v1, v2, d0, d1, d2, p0, p1, p2, rfl, rfl, rfl, h0, h1, h2⟩ := trodAll_three hA
  have hv0 : Value.okWide Try.prog W .any base 24 v0 := hval 0 24 v0 rfl rfl
  obtain ⟨_, ⟨x0, rfl, w0, g0⟩, r0⟩ := argB_struct tst24 hv0 h0 (bNode)
  have hv1 : Value.okWide Try.prog W .any base 24 v1 := hval 1 24 v1 rfl rfl
  obtain ⟨_, ⟨x1, rfl, w1⟩, r1⟩ := arg_struct tst24 hv1 h1 (oNode)
  have hv2 : Value.okWide Try.prog W .any base 9 v2 := hval 2 9 v2 rfl rfl
  obtain ⟨_, rfl⟩ := okWide_string tus9 hv2
  obtain ⟨_, ⟨x2, e2, w2⟩, r2⟩ := arg_one rfl h2 (opn_string tus9)
  cases e2
  have hsm : blkAll [d0, d1, d2] ≤ 1048576 := Nat.le_trans (blkAll_le _) (of_decide_eq_true hk)
  exact law_calls (law_texts' x0 x1 x2 w0 (by simp only [blkAll] at hsm; omega)) (.cons r0 (.cons r1 (.cons r2 .nil))) hW rfl rfl (t := 4) (by kernel_rfl) tub4 laid (by decide)
theorem nodeTexts : Rows.NodeTextsUptoSaid :=
  OpenClaim.holds_of_cond 12 Try.f12 rfl rfl rfl rfl rfl rfl rfl ⟨rfl, rfl, rfl, rfl, rfl⟩ rfl rfl rfl rfl rfl (by kernel_rfl) Try.func12 (by kernel_rfl)
    (of_decide_eq_true (by kernel_rfl)) (by unfold Func.isWrapper; rw [if_neg (of_decide_eq_false (by kernel_rfl))]; exact ⟨rfl, rfl⟩)
    (fun os started H enc _ F => nodeTexts_lifted os started H enc F)
end Go.Proofs.Ytjelapkglkcoiaa
