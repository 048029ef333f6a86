/- Nodes' texts, in plain Lean. -/
import Derived.Test.YtjelapkglkcoiaaNameS
set_option linter.unusedVariables false
set_option linter.unusedSimpArgs false
namespace Go.Cx

abbrev bs (b : ByteArray) : List UInt8 := b.data.toList
@[simp] theorem T_bs (b : ByteArray) : T (bs b) = b := by cases b; simp [T]
@[simp] theorem T_toList (b : ByteArray) : T b.data.toList = b := T_bs b
@[simp] theorem bs_T (l : List UInt8) : bs (T l) = l := by simp [T, bs]
@[simp] theorem len_bs (b : ByteArray) : (bs b).length = b.size := by simp [bs]

def EntryR.vals (c : EntryR) : List Value := [.string c.name, .int .i64 c.ino]
abbrev entK : List TypeDesc := [.string, .int .i64]
theorem EntryR.kinds (c : EntryR) : Kinds entK c.vals := .cons rfl (.cons rfl .nil)
theorem EntryR.vals_eq (a b : EntryR) : a.vals = b.vals ↔ a = b := by
  cases a; cases b; simp [EntryR.vals]
section
variable {P : Program} {t : TypeId} (ox oy : Operand)
@[simp] theorem ent_neq (ht : tflat P t = some entK) (hg : tagg P t = some true) (a b : EntryR) : abin P .neq t ox oy (.agg a.enc) (.agg b.enc) = some (.val (.bool (!decide (a = b)))) := by
  have := (bin_agg ht hg a.kinds b.kinds ox oy).2
  have e : decide (a.vals = b.vals) = decide (a = b) := by rw [decide_eq_decide]; exact EntryR.vals_eq a b
  rw [e] at this; exact this
end
abbrev encN (n : NodeR) : AV := .agg n.enc
/-- A number with a sign. -/
abbrev whl (n : Int) : List UInt8 := numL (foldS n)
def entL (x : EntryR) : List UInt8 := textL (bs x.name) ++ whl x.ino
def headL (n : NodeR) : List UInt8 := whl n.ino ++ whl n.kind ++ whl n.links ++ (textL (bs n.text) ++ numL n.l.length)
def nodeL (n : NodeR) : List UInt8 := headL n ++ n.l.flatMap entL
def nodeOk (n : NodeR) : Bool := decide (1 ≤ n.ino) && decide (1 ≤ n.kind) && decide (n.kind ≤ 3) && decide (0 ≤ n.links) && decide (n.links ≤ 64) && decide (n.text.size ≤ 4096) && rowOk n.l && (decide (n.kind ≠ 2) || decide (n.text = T [])) && (decide (n.kind = 2) || decide (n.l.length = 0))
def sizeS (n : NodeR) : Int := if n.kind = 2 then n.l.length else n.text.size

/-- What is left of a text; why nothing can be taken any more. -/
abbrev Rst := List UInt8 × Int
def numR (r : Rst) : Nat × Rst := if r.2 = 0 then takeS r.1 else (0, r)
def textR (r : Rst) (most : Int) : List UInt8 × Rst := if r.2 = 0 then takeTextS r.1 most else ([], r)
theorem takeS_len' (s : List UInt8) : (takeS s).2.1.length ≤ s.length := by
  rcases takeS_form s with h | h | h
  · exact Nat.le_of_lt (takeS_len h)
  · rw [h]; simp
  · rw [h]; simp
theorem numR_len (r : Rst) : (numR r).2.1.length ≤ r.1.length := by
  unfold numR; split
  · exact takeS_len' _
  · simp
theorem textR_len (r : Rst) (most : Int) : (textR r most).2.1.length ≤ r.1.length := by
  unfold textR; split
  · unfold takeTextS
    have := takeS_len' r.1
    split
    · simp
    · split
      · simp
      · split
        · simp
        · simp; omega
  · simp
theorem numR_lt (r : Rst) : (numR r).1 < 18446744073709551616 := by
  unfold numR; split
  · exact takeS_lt _
  · simp
def entStep (a : List EntryR × Rst) : List EntryR × Rst := (a.1 ++ [⟨T (textR a.2 32).1, unfoldS (numR (textR a.2 32).2).1⟩], (numR (textR a.2 32).2).2)
def entsAt (r : Rst) : Nat → List EntryR × Rst
  | 0 => ([], r)
  | k + 1 => entStep (entsAt r k)
theorem entsAt_len (r : Rst) (k : Nat) : (entsAt r k).1.length = k := by
  induction k with
  | zero => rfl
  | succ k ih => simp [entsAt, entStep, ih]
theorem entsAt_rest (r : Rst) (k : Nat) : (entsAt r k).2.1.length ≤ r.1.length := by
  induction k with
  | zero => exact Nat.le_refl _
  | succ k ih =>
    have h1 := textR_len (entsAt r k).2 32
    have h2 := numR_len (textR (entsAt r k).2 32).2
    simp only [entsAt, entStep]
    omega
theorem entsAt_bad {r : Rst} {i : Nat} (h : (entsAt r i).2.2 ≠ 0) (j : Nat) (hj : i ≤ j) : (entsAt r j).2 = (entsAt r i).2 := by
  induction j with
  | zero => have : i = 0 := by omega
            subst this; rfl
  | succ j ih =>
    rcases Nat.lt_or_ge j i with h1 | h1
    · have : i = j + 1 := by omega
      subst this; rfl
    · have e := ih h1
      have h' : (entsAt r j).2.2 ≠ 0 := by rw [e]; exact h
      simp only [entsAt, entStep, textR, numR, e, if_neg h]
def takeK (a b c t m : Nat × Rst) : Unit := ()
structure Hd where
  (ino kind links : Int) (text : List UInt8) (many : Nat) (r : Rst)
def headR (s : List UInt8) : Hd :=
  let a := numR (s, 0); let b := numR a.2; let c := numR b.2; let t := textR c.2 4096; let m := numR t.2
  ⟨unfoldS a.1, unfoldS b.1, unfoldS c.1, t.1, m.1, (m.2.1, if m.2.2 = 0 ∧ 256 < m.1 then 5 else m.2.2)⟩
def Hd.node (h : Hd) (l : List EntryR) : NodeR := ⟨h.ino, h.kind, h.links, T h.text, l⟩
/-- What is taken: a node, what is left, why not. -/
def takeN (s : List UInt8) : NodeR × List UInt8 × Int :=
  let h := headR s
  if h.r.2 ≠ 0 then (.zero, [], h.r.2) else
  let q := entsAt h.r h.many
  if q.2.2 ≠ 0 then (.zero, [], q.2.2) else
  if nodeOk (h.node q.1) = true then (h.node q.1, q.2.1, 0) else (.zero, [], 3)

/-! what is taken is what was told -/
theorem numR_ok {r q : Rst} {n : Nat} (h : numR r = (n, q)) (hq : q.2 = 0) : r.1 = numL n ++ q.1 ∧ r.2 = 0 := by
  unfold numR at h
  split at h
  · rename_i h0
    obtain ⟨q1, q2⟩ := q
    simp only at hq; subst hq
    exact ⟨(takeS_ok h).1, h0⟩
  · rename_i h0
    simp only [Prod.mk.injEq] at h
    rw [← h.2] at hq
    exact absurd hq h0
theorem numR_num {n : Nat} (h : n < 18446744073709551616) (r : List UInt8) : numR (numL n ++ r, 0) = (n, (r, 0)) := by
  simp only [numR, if_true]; exact takeS_num h r
theorem textR_ok {r q : Rst} {t : List UInt8} {most : Int} (h : textR r most = (t, q)) (hq : q.2 = 0) : r.1 = textL t ++ q.1 ∧ r.2 = 0 ∧ (t.length : Int) ≤ most := by
  unfold textR at h
  split at h
  · rename_i h0
    unfold takeTextS at h
    split at h
    · rename_i h1; rw [← (Prod.mk.inj h).2] at hq; exact absurd hq h1
    · rename_i h1
      split at h
      · rw [← (Prod.mk.inj h).2] at hq; simp at hq
      · split at h
        · rw [← (Prod.mk.inj h).2] at hq; simp at hq
        · rename_i h2 h3
          have h1 : (takeS r.1).2.2 = 0 := by simpa using h1
          obtain ⟨rfl, rfl⟩ := Prod.mk.inj h
          have e := (takeS_ok (s := r.1) (r := (takeS r.1).2.1) (n := (takeS r.1).1) (by rw [← h1])).1
          refine ⟨?_, h0, ?_⟩
          · have e3 : min (takeS r.1).1 (takeS r.1).2.1.length = (takeS r.1).1 := by omega
            simp only [textL, List.length_take, List.append_assoc, e3, List.take_append_drop]
            exact e
          · rw [List.length_take]; omega
  · rename_i h0
    rw [← (Prod.mk.inj h).2] at hq; exact absurd hq h0
theorem textR_text {t : List UInt8} {most : Int} (h : (t.length : Int) ≤ most) (hl : t.length < 18446744073709551616) (r : List UInt8) : textR (textL t ++ r, 0) most = (t, (r, 0)) := by
  simp only [textR, if_true, takeTextS, textL, List.append_assoc]
  rw [takeS_num hl]
  simp only [ne_eq, not_true_eq_false, if_false]
  rw [if_neg (by omega), if_neg (by simp)]
  simp
theorem numR_ok' {r : Rst} (h : (numR r).2.2 = 0) : r.1 = numL (numR r).1 ++ (numR r).2.1 ∧ r.2 = 0 := numR_ok (n := (numR r).1) (q := (numR r).2) rfl h
theorem textR_ok' {r : Rst} {most : Int} (h : (textR r most).2.2 = 0) : r.1 = textL (textR r most).1 ++ (textR r most).2.1 ∧ r.2 = 0 ∧ ((textR r most).1.length : Int) ≤ most := textR_ok (t := (textR r most).1) (q := (textR r most).2) rfl h
/-- Entries, one behind the other. -/
theorem entsAt_ok {r : Rst} : ∀ (k : Nat), (entsAt r k).2.2 = 0 → r.2 = 0 ∧ r.1 = (entsAt r k).1.flatMap entL ++ (entsAt r k).2.1
  | 0, h => ⟨h, by simp [entsAt]⟩
  | k + 1, h => by
    simp only [entsAt, entStep] at h ⊢
    obtain ⟨w1, w2⟩ := numR_ok (r := (textR (entsAt r k).2 32).2) (q := (numR (textR (entsAt r k).2 32).2).2) (n := (numR (textR (entsAt r k).2 32).2).1) rfl h
    obtain ⟨t1, t2, _⟩ := textR_ok (r := (entsAt r k).2) (q := (textR (entsAt r k).2 32).2) (t := (textR (entsAt r k).2 32).1) rfl w2
    obtain ⟨i1, i2⟩ := entsAt_ok k t2
    refine ⟨i1, ?_⟩
    rw [i2, t1, w1]
    simp [entL, whl, fold_unfold]
theorem entsAt_ents (l : List EntryR) (r : List UInt8) (hl : ∀ x ∈ l, x.name.size ≤ 32 ∧ inI x.ino) : ∀ k, k ≤ l.length → entsAt (l.flatMap entL ++ r, 0) k = (l.take k, ((l.drop k).flatMap entL ++ r, 0))
  | 0, _ => by simp [entsAt]
  | k + 1, h => by
    rw [entsAt, entsAt_ents l r hl k (by omega), entStep]
    have hk : k < l.length := by omega
    obtain ⟨h1, h2⟩ := hl l[k] (List.getElem_mem hk)
    have e1 : (l.drop k).flatMap entL ++ r = textL (bs (l[k]).name) ++ (numL (foldS (l[k]).ino) ++ ((l.drop (k + 1)).flatMap entL ++ r)) := by
      rw [List.drop_eq_getElem_cons hk, List.flatMap_cons]; simp [entL, whl]
    simp only [e1]
    rw [textR_text (by simp; omega) (by simp; omega), numR_num (foldS_lt h2)]
    simp [unfold_fold]
    rw [List.take_succ_eq_append_getElem hk]

/-- The row's bounds. -/
theorem rowOk_at {l : List EntryR} (h : rowOk l = true) : l.length ≤ 256 ∧ ∀ x ∈ l, nameOk x.name = true ∧ 1 ≤ x.ino := by
  simp only [rowOk, Bool.and_eq_true, decide_eq_true_eq] at h
  refine ⟨h.1, ?_⟩
  have : ∀ (l : List EntryR) (p : Option ByteArray), entsOk p l = true → ∀ x ∈ l, nameOk x.name = true ∧ 1 ≤ x.ino := by
    intro l
    induction l with
    | nil => intro p _ x hx; simp at hx
    | cons y l ih =>
      intro p hp x hx
      simp only [entsOk, Bool.and_eq_true, decide_eq_true_eq] at hp
      rcases List.mem_cons.1 hx with rfl | hx
      · exact hp.1.1
      · exact ih _ hp.2 x hx
  exact this l none h.2
structure NOk (n : NodeR) : Prop where
  ino : 1 ≤ n.ino
  k1 : 1 ≤ n.kind
  k3 : n.kind ≤ 3
  l0 : 0 ≤ n.links
  l64 : n.links ≤ 64
  size : n.text.size ≤ 4096
  row : rowOk n.l = true
  dir : n.kind = 2 → n.text = T []
  els : n.kind ≠ 2 → n.l.length = 0
theorem nodeOk_iff (n : NodeR) : nodeOk n = true ↔ NOk n := by
  simp only [nodeOk, Bool.and_eq_true, Bool.or_eq_true, decide_eq_true_eq]
  constructor
  · rintro ⟨⟨⟨⟨⟨⟨⟨⟨h1, h2⟩, h3⟩, h4⟩, h5⟩, h6⟩, h7⟩, h8⟩, h9⟩
    exact ⟨h1, h2, h3, h4, h5, h6, h7, fun h => h8.resolve_left (fun h' => h' h), fun h => h9.resolve_left h⟩
  · rintro ⟨h1, h2, h3, h4, h5, h6, h7, h8, h9⟩
    refine ⟨⟨⟨⟨⟨⟨⟨⟨h1, h2⟩, h3⟩, h4⟩, h5⟩, h6⟩, h7⟩, ?_⟩, ?_⟩
    · by_cases h : n.kind = 2
      · exact .inr (h8 h)
      · exact .inl h
    · by_cases h : n.kind = 2
      · exact .inl h
      · exact .inr (h9 h)
theorem headR_head {n : NodeR} (h : NOk n) (hi : inI n.ino) (r : List UInt8) : headR (headL n ++ r) = ⟨n.ino, n.kind, n.links, bs n.text, n.l.length, (r, 0)⟩ := by
  have h2 : inI n.kind := by have := h.k1; have := h.k3; simp only [inI]; omega
  have h3 : inI n.links := by have := h.l0; have := h.l64; simp only [inI]; omega
  have h4 := (rowOk_at h.row).1
  have h5 := h.size
  have e : headL n ++ r = numL (foldS n.ino) ++ (numL (foldS n.kind) ++ (numL (foldS n.links) ++ (textL (bs n.text) ++ (numL n.l.length ++ r)))) := by simp [headL, whl]
  rw [e]
  unfold headR
  simp only [numR_num (foldS_lt hi), numR_num (foldS_lt h2), numR_num (foldS_lt h3)]
  rw [textR_text (by simp; omega) (by simp; omega)]
  simp only [numR_num (show n.l.length < 18446744073709551616 by omega), unfold_fold]
  rw [if_neg (by omega)]
theorem node_eta (n : NodeR) : (⟨n.ino, n.kind, n.links, T (bs n.text), n.l⟩ : NodeR) = n := by rw [T_bs]
/-- What a right node's text tells is taken as it was. -/
theorem takeN_node {n : NodeR} (h : nodeOk n = true) (hw : n.wf) (r : List UInt8) : takeN (nodeL n ++ r) = (n, r, 0) := by
  have h' := (nodeOk_iff n).1 h
  have hr := rowOk_at h'.row
  unfold takeN
  rw [nodeL, List.append_assoc, headR_head h' hw.1]
  have e := entsAt_ents n.l r (fun x hx => ⟨(name_yes (hr.2 x hx).1).1.2, (hw.2.2.2.2 x hx).2⟩) n.l.length (Nat.le_refl _)
  simp only [List.take_length, List.drop_length, List.flatMap_nil, List.nil_append] at e
  simp only [e, Hd.node, node_eta, h]
  simp
theorem headR_ok {s : List UInt8} {h : Hd} (e : headR s = h) (h0 : h.r.2 = 0) : s = whl h.ino ++ whl h.kind ++ whl h.links ++ (textL h.text ++ numL h.many) ++ h.r.1 ∧ h.many ≤ 256 ∧ h.text.length ≤ 4096 := by
  subst e
  simp only [headR] at h0 ⊢
  split at h0
  · simp at h0
  · rename_i hm
    have hm : (numR (textR (numR (numR (numR (s, 0)).2).2).2 4096).2).1 ≤ 256 := by
      false_or_by_contra
      exact hm ⟨h0, by omega⟩
    obtain ⟨m1, m2⟩ := numR_ok' h0
    obtain ⟨t1, t2, t3⟩ := textR_ok' m2
    obtain ⟨c1, c2⟩ := numR_ok' t2
    obtain ⟨b1, b2⟩ := numR_ok' c2
    obtain ⟨a1, a2⟩ := numR_ok' b2
    refine ⟨?_, hm, by omega⟩
    simp only [whl, fold_unfold]
    simp only at a1
    conv => lhs; rw [a1, b1, c1, t1, m1]
    simp
/-- What is taken is right, and was told so. -/
theorem takeN_ok {s r : List UInt8} {n : NodeR} (h : takeN s = (n, r, 0)) : nodeOk n = true ∧ s = nodeL n ++ r := by
  unfold takeN at h
  simp only at h
  split at h
  · rename_i h1; rw [← (Prod.mk.inj (Prod.mk.inj h).2).2] at h1; simp at h1
  rename_i h1
  split at h
  · rename_i h2; rw [← (Prod.mk.inj (Prod.mk.inj h).2).2] at h2; simp at h2
  rename_i h2
  split at h
  · rename_i h3
    have h1 : (headR s).r.2 = 0 := by simpa using h1
    have h2 : (entsAt (headR s).r (headR s).many).2.2 = 0 := by simpa using h2
    obtain ⟨rfl, hr⟩ := Prod.mk.inj h
    have hr := (Prod.mk.inj hr).1
    refine ⟨h3, ?_⟩
    obtain ⟨e1, e2, e3⟩ := headR_ok rfl h1
    have e4 := (entsAt_ok _ h2).2
    conv => lhs; rw [e1, e4, hr]
    have hl := entsAt_len (headR s).r (headR s).many
    simp only [nodeL, headL, Hd.node, hl, bs_T, List.append_assoc]
  · simp at h
/-- Two right nodes of one text are the same. -/
theorem nodeL_inj {a b : NodeR} (ha : nodeOk a = true) (hb : nodeOk b = true) (wa : a.wf) (wb : b.wf) (e : nodeL a = nodeL b) : a = b := by
  have h1 := takeN_node ha wa []
  have h2 := takeN_node hb wb []
  rw [e, h2] at h1
  exact (Prod.mk.inj h1).1.symm

theorem ents_len (B : Nat) (l : List EntryR) (h : ∀ x ∈ l, x.name.size ≤ B ∧ inI x.ino) (hB : B < 18446744073709551616) : (l.flatMap entL).length ≤ (B + 20) * l.length := by
  induction l with
  | nil => simp
  | cons x l ih =>
    have h1 := h x (by simp)
    have h2 := ih fun y hy => h y (by simp [hy])
    have h3 := numL_10 (foldS_lt h1.2)
    have h4 := numL_10 (n := x.name.size) (by omega)
    rw [List.flatMap_cons, List.length_append, List.length_cons, Nat.mul_add]
    have : (entL x).length = (numL x.name.size).length + x.name.size + (numL (foldS x.ino)).length := by simp [entL, textL, whl]; omega
    omega
theorem nodeL_len (n : NodeR) (hw : n.wf) (h : ∀ x ∈ n.l, x.name.size ≤ 32) (ht : n.text.size < 18446744073709551616) (hn : n.l.length < 18446744073709551616) : (nodeL n).length ≤ 60 + n.text.size + 52 * n.l.length := by
  have h1 := ents_len 32 n.l (fun x hx => ⟨h x hx, (hw.2.2.2.2 x hx).2⟩) (by omega)
  have h2 := numL_10 (foldS_lt hw.1)
  have h3 := numL_10 (foldS_lt hw.2.1)
  have h4 := numL_10 (foldS_lt hw.2.2.1)
  have h5 := numL_10 (n := n.text.size) ht
  have h6 := numL_10 (n := n.l.length) hn
  have : (nodeL n).length = (numL (foldS n.ino)).length + (numL (foldS n.kind)).length + (numL (foldS n.links)).length + (numL n.text.size).length + n.text.size + (numL n.l.length).length + (n.l.flatMap entL).length := by
    simp only [nodeL, headL, textL, whl, List.length_append, len_bs]; omega
  omega
theorem nodeL_small {n : NodeR} (hw : n.wf) (h : nodeOk n = true) : (nodeL n).length ≤ 20000 := by
  have h' := (nodeOk_iff n).1 h
  have hr := rowOk_at h'.row
  have h1 := h'.size
  have := nodeL_len n hw (fun x hx => (name_yes (hr.2 x hx).1).1.2) (by omega) (by omega)
  omega

theorem textR_short (r : Rst) (most : Int) (h0 : 0 ≤ most) : ((textR r most).1.length : Int) ≤ most := by
  unfold textR; split
  · unfold takeTextS
    split
    · simpa using h0
    · split
      · simpa using h0
      · split
        · simpa using h0
        · rename_i h1 h2 h3
          simp only [List.length_take]; omega
  · simpa using h0
theorem entsAt_wf (r : Rst) (k : Nat) : ∀ x ∈ (entsAt r k).1, x.wf := by
  induction k with
  | zero => simp [entsAt]
  | succ k ih =>
    intro x hx
    simp only [entsAt, entStep, List.mem_append, List.mem_singleton] at hx
    rcases hx with hx | rfl
    · exact ih x hx
    · have := textR_short (entsAt r k).2 32 (by omega)
      refine ⟨?_, unfoldS_in (numR_lt _)⟩
      simp only [T_size, maxLen]; omega
theorem takeN_wf (s : List UInt8) : (takeN s).1.wf := by
  have hz : NodeR.wf .zero := by simp [NodeR.wf, NodeR.zero, inI]
  unfold takeN
  simp only
  split
  · exact hz
  · split
    · exact hz
    · split
      · refine ⟨unfoldS_in (numR_lt _), unfoldS_in (numR_lt _), unfoldS_in (numR_lt _), ?_, entsAt_wf _ _⟩
        have := textR_short (numR (numR (numR (s, 0)).2).2).2 4096 (by omega)
        simp only [Hd.node, headR, T_size, maxLen]; omega
      · exact hz
end Go.Cx
