/- Beginnings of nodes' texts, in plain Lean. -/
import Derived.Test.YtjelapkglkcoiaaNodeS
set_option linter.unusedVariables false
set_option linter.unusedSimpArgs false
namespace Go.Cx

theorem numR_cut {k : Nat} (hk : k < 18446744073709551616) (r : List UInt8) (c : Nat) : numR ((numL k ++ r).take c, 0) = if (numL k).length ≤ c then (k, (r.take (c - (numL k).length), 0)) else (0, ([], 2)) := by
  split
  · rename_i h
    rw [List.take_append, List.take_of_length_le h]
    exact numR_num hk _
  · rename_i h
    obtain ⟨p, d, h1, h2, h3, h4⟩ := numL_form k
    have h10 := numL_10 hk
    have e : (numL k ++ r).take c = p.take c := by
      rw [h1] at h ⊢
      rw [List.length_append, List.length_singleton] at h
      rw [List.append_assoc, List.take_append_of_le_length (by omega)]
    have hl : (p.take c).length < 10 := by
      rw [h1, List.length_append, List.length_singleton] at h10
      rw [List.length_take]; omega
    have ha : (p.take c).all hi = true := by
      rw [List.all_eq_true] at h2 ⊢
      exact fun x hx => h2 x (List.mem_of_mem_take hx)
    rw [e]
    simp only [numR, if_true]
    rw [takeS_all ha, if_neg (by omega)]
theorem textR_cut {t : List UInt8} {most : Int} (hm : (t.length : Int) ≤ most) (ht : t.length < 18446744073709551616) (r : List UInt8) (c : Nat) : textR ((textL t ++ r).take c, 0) most = if (textL t).length ≤ c then (t, (r.take (c - (textL t).length), 0)) else ([], ([], 2)) := by
  split
  · rename_i h
    rw [List.take_append, List.take_of_length_le h]
    exact textR_text hm ht _
  · rename_i h
    have e := numR_cut ht (t ++ r) c
    simp only [numR, if_true] at e
    simp only [textR, if_true, takeTextS, textL, List.append_assoc, e]
    simp only [textL, List.length_append] at h
    split
    · rename_i h2
      have : (List.take (c - (numL t.length).length) (t ++ r)).length < t.length := by
        rw [List.length_take]; omega
      simp only [ne_eq, not_true_eq_false, if_false, this, if_true]
      rw [if_neg (by omega)]
    · simp
theorem numR_bad : numR ([], 2) = (0, ([], 2)) := by simp [numR]
theorem textR_bad (most : Int) : textR ([], 2) most = ([], ([], 2)) := by simp [textR]
theorem entsAt_cut (l : List EntryR) (r : List UInt8) (c : Nat) (hl : ∀ x ∈ l, x.name.size ≤ 32 ∧ inI x.ino) : ∀ k, k ≤ l.length →
    (((l.take k).flatMap entL).length ≤ c → entsAt ((l.flatMap entL ++ r).take c, 0) k = (l.take k, (((l.drop k).flatMap entL ++ r).take (c - ((l.take k).flatMap entL).length), 0))) ∧
    (c < ((l.take k).flatMap entL).length → (entsAt ((l.flatMap entL ++ r).take c, 0) k).2 = ([], 2))
  | 0, _ => by simp [entsAt]
  | k + 1, h => by
    obtain ⟨i1, i2⟩ := entsAt_cut l r c hl k (by omega)
    have hk : k < l.length := by omega
    obtain ⟨h1, h2⟩ := hl l[k] (List.getElem_mem hk)
    have e0 : (l.take (k + 1)).flatMap entL = (l.take k).flatMap entL ++ entL l[k] := by rw [List.take_succ_eq_append_getElem hk, List.flatMap_append, List.flatMap_cons, List.flatMap_nil, List.append_nil]
    have e1 : (l.drop k).flatMap entL ++ r = textL (bs (l[k]).name) ++ (numL (foldS (l[k]).ino) ++ ((l.drop (k + 1)).flatMap entL ++ r)) := by
      rw [List.drop_eq_getElem_cons hk, List.flatMap_cons]; simp [entL, whl]
    have e2 : (entL l[k]).length = (textL (bs (l[k]).name)).length + (numL (foldS (l[k]).ino)).length := by simp [entL, whl]
    rw [e0, List.length_append, e2]
    rw [entsAt]
    by_cases h0 : ((l.take k).flatMap entL).length ≤ c
    · rw [i1 h0, e1]
      simp only [entStep]
      rw [textR_cut (by simp; omega) (by simp; omega)]
      split
      · rename_i h3
        simp only
        rw [numR_cut (foldS_lt h2)]
        split
        · rename_i h4
          refine ⟨fun _ => ?_, fun hc => by omega⟩
          simp only [T_bs, unfold_fold]
          rw [List.take_succ_eq_append_getElem hk]
          rw [Nat.sub_sub, Nat.sub_sub]
        · rename_i h4
          exact ⟨fun hc => by omega, fun _ => rfl⟩
      · rename_i h3
        simp only [numR_bad]
        exact ⟨fun hc => by omega, fun _ => trivial⟩
    · have e3 := i2 (by omega)
      refine ⟨fun hc => by omega, fun _ => ?_⟩
      simp only [entStep, e3, textR_bad, numR_bad]
/-- No beginning of what a right node's text tells is taken. -/
theorem takeN_cut {n : NodeR} (h : nodeOk n = true) (hw : n.wf) (c : Nat) (hc : c < (nodeL n).length) : takeN ((nodeL n).take c) = (.zero, [], 2) := by
  have h' := (nodeOk_iff n).1 h
  have hr := rowOk_at h'.row
  have h2 : inI n.kind := by have := h'.k1; have := h'.k3; simp only [inI]; omega
  have h3 : inI n.links := by have := h'.l0; have := h'.l64; simp only [inI]; omega
  have h4 := hr.1
  have h5 := h'.size
  have e : nodeL n = numL (foldS n.ino) ++ (numL (foldS n.kind) ++ (numL (foldS n.links) ++ (textL (bs n.text) ++ (numL n.l.length ++ (n.l.flatMap entL ++ []))))) := by simp [nodeL, headL, whl]
  have hlen := congrArg List.length e
  simp only [List.length_append, List.length_nil] at hlen
  rw [e]
  unfold takeN headR
  simp only
  rw [numR_cut (foldS_lt hw.1)]
  split
  case isFalse => simp [numR_bad, textR_bad]
  rename_i c1
  simp only
  rw [numR_cut (foldS_lt h2)]
  split
  case isFalse => simp [numR_bad, textR_bad]
  rename_i c2
  simp only
  rw [numR_cut (foldS_lt h3)]
  split
  case isFalse => simp [numR_bad, textR_bad]
  rename_i c3
  simp only
  rw [textR_cut (by simp; omega) (by simp; omega)]
  split
  case isFalse => simp [numR_bad, textR_bad]
  rename_i c4
  simp only
  rw [numR_cut (by omega)]
  split
  case isFalse => simp [numR_bad, textR_bad]
  rename_i c5
  have c6 := (entsAt_cut n.l [] (c - (numL (foldS n.ino)).length - (numL (foldS n.kind)).length - (numL (foldS n.links)).length - (textL (bs n.text)).length - (numL n.l.length).length) (fun x hx => ⟨(name_yes (hr.2 x hx).1).1.2, (hw.2.2.2.2 x hx).2⟩) n.l.length (Nat.le_refl _)).2 (by rw [List.take_length]; omega)
  have c7 : ¬ 256 < n.l.length := by omega
  simp only [true_and, c7, if_false, ne_eq, not_true_eq_false]
  rw [c6]
  simp

theorem numL_mono : ∀ (b a : Nat), a ≤ b → (numL a).length ≤ (numL b).length := by
  intro b
  induction b using Nat.strongRecOn with
  | _ b ih =>
    intro a h
    by_cases hb : b < 128
    · rw [numL_lo hb, numL_lo (by omega)]; simp
    · by_cases ha : a < 128
      · rw [numL_lo ha]; have := numL_pos b; simp; omega
      · rw [numL_hi hb, numL_hi ha, List.length_cons, List.length_cons]
        have := ih (b / 128) (by omega) (a / 128) (by omega)
        omega
/-- A directory with an entry more; a text with a byte more. -/
abbrev extD (n : NodeR) : NodeR := { n with l := n.l ++ [⟨T [122, 122], 3⟩] }
abbrev extT (n : NodeR) : NodeR := { n with text := n.text ++ T [120] }
theorem extD_wf {n : NodeR} (h : n.wf) : (extD n).wf := by
  obtain ⟨h1, h2, h3, h4, h5⟩ := h
  refine ⟨h1, h2, h3, h4, fun x hx => ?_⟩
  rcases List.mem_append.1 hx with hx | hx
  · exact h5 x hx
  · rw [List.mem_singleton] at hx; subst hx; simp [EntryR.wf, inI, T_size, maxLen]
theorem extT_size (n : NodeR) : (extT n).text.size = n.text.size + 1 := by
  simp [extT, ByteArray.size_append]; rfl
theorem extT_wf {n : NodeR} (h : n.wf) (hs : n.text.size ≤ 4096) : (extT n).wf := by
  obtain ⟨h1, h2, h3, h4, h5⟩ := h
  refine ⟨h1, h2, h3, ?_, h5⟩
  rw [extT_size]; simp only [maxLen]; omega
theorem nodeL_len' (n : NodeR) : (nodeL n).length = (numL (foldS n.ino)).length + (numL (foldS n.kind)).length + (numL (foldS n.links)).length + (numL n.text.size).length + n.text.size + (numL n.l.length).length + (n.l.flatMap entL).length := by
  simp only [nodeL, headL, textL, whl, List.length_append, len_bs]; omega
theorem extD_lt (n : NodeR) : (nodeL n).length < (nodeL (extD n)).length := by
  rw [nodeL_len', nodeL_len']
  have h := numL_mono (n.l.length + 1) n.l.length (by omega)
  have h2 := numL_pos (foldS 3)
  simp only [extD, List.length_append, List.length_singleton, List.flatMap_append, List.flatMap_cons, List.flatMap_nil, List.append_nil, entL, textL, whl, bs_T, List.length_cons, List.length_nil, Nat.zero_add]
  omega
theorem extT_lt (n : NodeR) : (nodeL n).length < (nodeL (extT n)).length := by
  rw [nodeL_len', nodeL_len', extT_size]
  have h := numL_mono (n.text.size + 1) n.text.size (by omega)
  show _ < (numL (foldS n.ino)).length + (numL (foldS n.kind)).length + (numL (foldS n.links)).length + (numL (n.text.size + 1)).length + (n.text.size + 1) + (numL n.l.length).length + (n.l.flatMap entL).length
  omega
theorem ext_small {n : NodeR} (hw : n.wf) (h : nodeOk n = true) : (nodeL (extD n)).length ≤ 20000 ∧ (nodeL (extT n)).length ≤ 20000 := by
  have h' := (nodeOk_iff n).1 h
  have hr := rowOk_at h'.row
  have h1 := h'.size
  have hx : ∀ x ∈ n.l, x.name.size ≤ 32 := fun x hx => (name_yes (hr.2 x hx).1).1.2
  have h2 := nodeL_len (extD n) (extD_wf hw) (fun x hx' => by
    rcases List.mem_append.1 hx' with h | h
    · exact hx x h
    · rw [List.mem_singleton] at h; subst h; simp [T_size]) (by simp [extD]; omega) (by simp [extD]; omega)
  have h3 := nodeL_len (extT n) (extT_wf hw h1) hx (by rw [extT_size]; omega) (by simp [extT]; omega)
  rw [extT_size] at h3
  simp only [extD, extT, List.length_append, List.length_singleton] at h2 h3 ⊢
  omega
theorem extD_ne (n : NodeR) : extD n ≠ n := fun e => by
  have := congrArg (fun n => n.l.length) e
  simp [extD] at this
theorem extT_ne (n : NodeR) : extT n ≠ n := fun e => by
  have h : (extT n).text.size = n.text.size := congrArg (fun n => n.text.size) e
  rw [extT_size] at h
  omega
end Go.Cx
