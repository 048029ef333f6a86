/- A file system's text: told, and taken; in plain Lean. -/
import Derived.Test.YtilmfmjcemfoeaaBg
set_option linter.unusedVariables false
set_option linter.unusedSimpArgs false
namespace Go.Cx

def treeL (f : FSR) : List UInt8 := (whl f.next ++ numL f.l.length) ++ f.l.flatMap nodeL
theorem takeNs_tell (r : List UInt8) : ∀ l : List NodeR, (∀ x ∈ l, nodeOk x = true ∧ x.wf) → takeNs l.length (l.flatMap nodeL ++ r) = (l, r, 0)
  | [], _ => rfl
  | x :: l, h => by
    have ih := takeNs_tell r l fun y hy => h y (by simp [hy])
    have hx := takeN_node (h x (by simp)).1 (h x (by simp)).2 (l.flatMap nodeL ++ r)
    rw [List.length_cons, takeNs, List.flatMap_cons, List.append_assoc, hx]
    simp only
    rw [if_neg (by simp), ih]
    simp
theorem takeNs_ok : ∀ (m : Nat) (s r : List UInt8) (l : List NodeR), takeNs m s = (l, r, 0) → l.length = m ∧ s = l.flatMap nodeL ++ r
  | 0, s, r, l, h => by
    simp only [takeNs, Prod.mk.injEq, and_true] at h
    obtain ⟨rfl, rfl⟩ := h
    simp
  | m + 1, s, r, l, h => by
    rw [takeNs] at h
    split at h
    · rename_i h1; rw [← (Prod.mk.inj (Prod.mk.inj h).2).2] at h1; simp at h1
    · rename_i h1
      split at h
      · rename_i h2; rw [← (Prod.mk.inj (Prod.mk.inj h).2).2] at h2; simp at h2
      · rename_i h2
        simp only [Prod.mk.injEq, and_true] at h
        obtain ⟨rfl, rfl⟩ := h
        have e1 : takeN s = ((takeN s).1, (takeN s).2.1, 0) := by
          have : (takeN s).2.2 = 0 := by simpa using h1
          rw [← this]
        have e2 := (takeN_ok e1).2
        have e3 : takeNs m (takeN s).2.1 = ((takeNs m (takeN s).2.1).1, (takeNs m (takeN s).2.1).2.1, 0) := by
          have : (takeNs m (takeN s).2.1).2.2 = 0 := by simpa using h2
          rw [← this]
        obtain ⟨e4, e5⟩ := takeNs_ok m _ _ _ e3
        refine ⟨by simp [e4], ?_⟩
        rw [List.flatMap_cons, List.append_assoc, ← e5]
        exact e2
theorem takeF_tree {f : FSR} (h : rowsOk f = true) (hw : f.wf) : takeF (treeL f) = (f, 0) := by
  have h0 := h
  simp only [rowsOk, Bool.and_eq_true, decide_eq_true_eq] at h0
  obtain ⟨⟨h1, h2⟩, h3⟩ := h0
  have hn := (nodesOk_rises h1).2
  have e1 : takeS (treeL f) = (foldS f.next, numL f.l.length ++ f.l.flatMap nodeL, 0) := by
    unfold treeL whl; rw [List.append_assoc]; exact takeS_num (foldS_lt hw.2) _
  have e2 : takeS (numL f.l.length ++ f.l.flatMap nodeL) = (f.l.length, f.l.flatMap nodeL, 0) := takeS_num (by omega) _
  have e3 := takeNs_tell [] f.l (fun x hx => ⟨(hn x hx).1, hw.1 x hx⟩)
  rw [List.append_nil] at e3
  unfold takeF
  rw [e1]
  simp only
  rw [e2]
  simp only
  rw [e3, if_neg (by simp), if_neg (by simp), if_neg (by omega), if_neg (by simp), unfold_fold]
  rw [if_pos ⟨rfl, h⟩]
theorem takeF_ok {s : List UInt8} {a : FSR} (h : takeF s = (a, 0)) : rowsOk a = true ∧ s = treeL a := by
  unfold takeF at h
  split at h
  · rename_i h1; rw [← (Prod.mk.inj h).2] at h1; simp at h1
  split at h
  · rename_i h2; rw [← (Prod.mk.inj h).2] at h2; simp at h2
  split at h
  · simp at h
  split at h
  · rename_i h4; rw [← (Prod.mk.inj h).2] at h4; simp at h4
  split at h
  · rename_i h1 h2 h3 h4 h5
    obtain ⟨h5, h6⟩ := h5
    simp only [Prod.mk.injEq, and_true] at h
    subst h
    refine ⟨h6, ?_⟩
    have e1 : takeS s = ((takeS s).1, (takeS s).2.1, 0) := by
      have : (takeS s).2.2 = 0 := by simpa using h1
      rw [← this]
    have e2 : takeS (takeS s).2.1 = ((takeS (takeS s).2.1).1, (takeS (takeS s).2.1).2.1, 0) := by
      have : (takeS (takeS s).2.1).2.2 = 0 := by simpa using h2
      rw [← this]
    have e3 : takeNs (takeS (takeS s).2.1).1 (takeS (takeS s).2.1).2.1 = ((takeNs (takeS (takeS s).2.1).1 (takeS (takeS s).2.1).2.1).1, [], 0) := by
      have : (takeNs (takeS (takeS s).2.1).1 (takeS (takeS s).2.1).2.1).2.2 = 0 := by simpa using h4
      rw [← this, ← h5]
    obtain ⟨e4, e5⟩ := takeNs_ok _ _ _ _ e3
    have f1 := (takeS_ok e1).1
    have f2 := (takeS_ok e2).1
    unfold treeL whl
    simp only
    rw [fold_unfold, e4, List.append_assoc]
    rw [List.append_nil] at e5
    rw [← e5, ← f2]
    exact f1
  · simp at h
end Go.Cx
