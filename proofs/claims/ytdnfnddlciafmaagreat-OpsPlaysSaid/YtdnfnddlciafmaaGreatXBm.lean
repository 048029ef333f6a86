import Derived.Test.YtdnfnddlciafmaaGreatXBl
import Derived.Test.YtdnfnddlciafmaaGreatXBk
set_option linter.unusedVariables false
set_option linter.unusedSimpArgs false
namespace Go.Cx
theorem changeS_len (a b : FSR) (k : Int) : (changeS a b k).length ≤ 1 := by
  unfold changeS
  split
  · simp
  · split <;> simp
theorem numsS_len (l : List Int) : (numsS l).length ≤ l.length := by
  have h : ∀ (l a : List Int), (l.foldl withI a).length ≤ a.length + l.length := by
    intro l
    induction l with
    | nil => intro a; simp
    | cons x l ih =>
      intro a
      have h1 := ih (withI a x)
      have h2 : (withI a x).length ≤ a.length + 1 := by
        have e1 : a.takeWhile (fun y => decide (y < x)) ++ a.dropWhile (fun y => decide (y < x)) = a := List.takeWhile_append_dropWhile
        have h3 : (a.dropWhile fun y => decide (y ≤ x)).length ≤ (a.dropWhile fun y => decide (y < x)).length := by
          clear e1 h1 ih
          induction a with
          | nil => simp
          | cons y a iha =>
            simp only [List.dropWhile_cons]
            by_cases q1 : y < x
            · rw [if_pos (by simp; omega), if_pos (by simpa using q1)]; exact iha
            · rw [if_neg (c := (decide (y < x)) = true) (by simpa using q1)]
              split
              · exact Nat.le_trans (List.dropWhile_sublist _).length_le (by simp)
              · exact Nat.le_refl _
        have h4 := congrArg List.length e1
        simp only [List.length_append] at h4
        simp only [withI, List.length_append, List.length_cons]
        omega
      simp only [List.foldl_cons, List.length_cons]
      omega
  have := h l []
  simp only [List.length_nil, Nat.zero_add] at this
  exact this
theorem flatMap_len1 {α β : Type} (f : α → List β) (h : ∀ x, (f x).length ≤ 1) : ∀ l : List α, (l.flatMap f).length ≤ l.length
  | [] => by simp
  | a :: l => by
    have h1 := h a
    have h2 := flatMap_len1 f h l
    simp only [List.flatMap_cons, List.length_append, List.length_cons]; omega
theorem changes_len (f g : FSR) (hf : f.l.length ≤ 10000) (hg : g.l.length ≤ 10000) : (changesS f g).length ≤ 40000 := by
  have h1 := flatMap_len1 (changeS f g) (changeS_len f g) (numsS (f.l.map (·.ino) ++ g.l.map (·.ino)))
  have h2 := numsS_len (f.l.map (·.ino) ++ g.l.map (·.ino))
  simp only [List.length_append, List.length_map] at h2
  unfold changesS
  omega
theorem changes_in {f g : FSR} (hg : RowsF g) (hb : g.next ≤ 4611686018427387904) : ∀ c ∈ changesS f g, inI c.node.ino ∧ c.node.ino ≠ 9223372036854775807 := by
  intro c hc
  unfold changesS at hc
  obtain ⟨k, hk, hc⟩ := List.mem_flatMap.1 hc
  have h1 := hg.num k
  unfold changeS at hc
  have h2 : c.node = .zero ∨ c.node = (findB g.l k).1 := by
    split at hc
    · simp at hc; subst hc; exact .inl rfl
    · split at hc
      · simp at hc; subst hc; exact .inr rfl
      · cases hc
  rcases h2 with e | e
  · rw [e]; exact ⟨⟨by decide, by decide⟩, by decide⟩
  · rw [e]; exact ⟨⟨by omega, by omega⟩, by omega⟩
def cA : CallR := ⟨6, 1, 0, 0, 0, T [97], .empty, .empty⟩
def fA : FSR := ⟨[⟨1, 2, 0, .empty, [⟨T [97], 2⟩]⟩, ⟨2, 1, 1, .empty, []⟩], 3⟩
theorem doA : doS newF cA = (fA, ⟨0, 2, 0, 0, .empty, []⟩) := by decide +kernel
theorem doB : doS fA cA = (fA, errR 7) := by decide +kernel
theorem looksA : looksS fA cA = [0, 1, 2] := by decide +kernel
theorem rowsN : rowsOk newF = true := by decide +kernel
theorem rowsA : rowsOk fA = true := by decide +kernel
end Go.Cx
