import Derived.Test.YtdnfnddlciafmaaGreatXBg
import Derived.Test.YtdnfnddlciafmaaGreatXBe
set_option linter.unusedVariables false
set_option linter.unusedSimpArgs false
namespace Go.Cx
section
variable {α : Type} (key : α → Int)
theorem rises_same : ∀ {a b : List α}, rises key a = true → rises key b = true → (∀ x, x ∈ a ↔ x ∈ b) → a = b
  | [], [], _, _, _ => rfl
  | [], y :: b, _, _, h => by have := (h y).2 (by simp); cases this
  | x :: a, [], _, _, h => by have := (h x).1 (by simp); cases this
  | x :: a, y :: b, ha, hb, h => by
    obtain ⟨a1, a2⟩ := rises_tail key ha
    obtain ⟨b1, b2⟩ := rises_tail key hb
    have hxy : x = y := by
      rcases List.mem_cons.1 ((h x).1 (by simp)) with e | h1
      · exact e
      rcases List.mem_cons.1 ((h y).2 (by simp)) with e | h2
      · exact e.symm
      have := a2 y h2
      have := b2 x h1
      omega
    subst hxy
    rw [rises_same a1 b1 fun z => ⟨fun hz => ?_, fun hz => ?_⟩]
    · rcases List.mem_cons.1 ((h z).1 (by simp [hz])) with e | h1
      · have := a2 z hz; subst e; omega
      · exact h1
    · rcases List.mem_cons.1 ((h z).2 (by simp [hz])) with e | h1
      · have := b2 z hz; subst e; omega
      · exact h1
theorem putS_spec {l : List α} (h : rises key l = true) (x : α) : rises key (putS key l x) = true ∧ ∀ y, y ∈ putS key l x ↔ y = x ∨ (y ∈ l ∧ key y ≠ key x) := by
  have hp := (rises_pair key l).1 h
  have h1 : ∀ y, y ∈ l.takeWhile (fun y => decide (key y < key x)) → key y < key x := fun y hy => by
    simpa using List.all_eq_true.1 (List.all_takeWhile (p := fun y => decide (key y < key x)) (l := l)) y hy
  have h2 : ∀ {l : List α}, l.Pairwise (fun a b => key a < key b) → ∀ y, y ∈ l.dropWhile (fun y => decide (key y ≤ key x)) ↔ y ∈ l ∧ key x < key y := by
    intro l
    induction l with
    | nil => simp
    | cons a l ih =>
      intro hp y
      obtain ⟨p1, p2⟩ := List.pairwise_cons.1 hp
      by_cases ha : key a ≤ key x
      · rw [List.dropWhile_cons_of_pos (by simpa using ha), ih p2, List.mem_cons]
        constructor
        · exact fun q => ⟨.inr q.1, q.2⟩
        · rintro ⟨rfl | q, q2⟩
          · omega
          · exact ⟨q, q2⟩
      · rw [List.dropWhile_cons_of_neg (by simpa using ha)]
        refine ⟨fun q => ⟨q, ?_⟩, fun q => q.1⟩
        rcases List.mem_cons.1 q with rfl | q
        · omega
        · have := p1 y q; omega
  have h3 : ∀ y, y ∈ l → key y < key x → y ∈ l.takeWhile (fun y => decide (key y < key x)) := by
    intro y hy hk
    obtain ⟨i, hi, rfl⟩ := List.getElem_of_mem hy
    have hlt : i < placeS key l (key x) := by
      rcases Nat.lt_or_ge i (placeS key l (key x)) with q | q
      · exact q
      · have := placeS_ge key h (key x) i q hi; omega
    have e := List.IsPrefix.getElem (List.takeWhile_prefix (fun y => decide (key y < key x)) (l := l)) (i := i) hlt
    rw [← e]
    exact List.getElem_mem _
  constructor
  · refine (rises_pair key _).2 (List.pairwise_append.2 ⟨hp.sublist (List.takeWhile_sublist _), List.pairwise_cons.2 ⟨fun y hy => ((h2 hp y).1 hy).2, hp.sublist (List.dropWhile_sublist _)⟩, fun a ha b hb => ?_⟩)
    have := h1 a ha
    rcases List.mem_cons.1 hb with rfl | hb
    · exact this
    · have := ((h2 hp b).1 hb).2; omega
  · intro y
    simp only [putS, List.mem_append, List.mem_cons, h2 hp]
    constructor
    · rintro (q | q | q)
      · exact .inr ⟨(List.takeWhile_sublist _).subset q, by have := h1 y q; omega⟩
      · exact .inl q
      · exact .inr ⟨q.1, by omega⟩
    · rintro (q | ⟨q, q2⟩)
      · exact .inr (.inl q)
      · by_cases hy : key y < key x
        · exact .inl (h3 y q hy)
        · exact .inr (.inr ⟨q, by omega⟩)
end
end Go.Cx
set_option linter.unusedVariables false
set_option linter.unusedSimpArgs false
namespace Go.Cx
end Go.Cx
