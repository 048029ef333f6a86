/- Scopes and jumps to a label. -/
import Derived.Test.YtjelapkglkcoiaaCxS
import Derived.ScopeJumps
set_option linter.unusedVariables false
set_option linter.unusedSimpArgs false
namespace Go.Cx
variable {P : Program} {lit : TypeId → Bool} {n : Nat}

/-- As Q; at a jump to label l: J. -/
def jumpA (l : Nat) (J : AState → Prop) (Q : Exit → AState → Prop) : Exit → AState → Prop
  | .goto l', s => l' = l ∧ J s
  | e, s => Q e s
section
variable (l : Nat) (J : AState → Prop) (Q : Exit → AState → Prop) (s : AState)
@[simp] theorem jumpA_normal : jumpA l J Q .normal s = Q .normal s := rfl
@[simp] theorem jumpA_exit (id : Nat) : jumpA l J Q (.exit id) s = Q (.exit id) s := rfl
@[simp] theorem jumpA_goto (l' : Nat) : jumpA l J Q (.goto l') s = (l' = l ∧ J s) := rfl
@[simp] theorem jumpA_ret : jumpA l J Q .ret s = Q .ret s := rfl
end

theorem AW.scope {c rest : Code} {Q : Exit → AState → Prop} {s : AState} (l : Nat) (I : AState → Prop) (μ : AState → Nat) (hf : findLabel c l = some rest)
    (h0 : AW P n c (jumpA l (fun s' => ∃ s'', Wk n s' s'' ∧ I s'') Q) s)
    (hr : ∀ s, I s → AW P n rest (jumpA l (fun s' => ∃ s'', Wk n s' s'' ∧ I s'' ∧ μ s'' < μ s) Q) s) : AW P n (.scope c) Q s := by
  intro Z κ a w r hn
  let J : Act → World → Nat → Prop := fun a' w' m => After n (fun s' => I s' ∧ μ s' = m) Z κ w a' w'
  let I' : Act → World → Prop := fun a' w' => ∃ m, J a' w' m
  have lst : ∀ a' w', I' a' w' → ∃ m, J a' w' m ∧ ∀ k, J a' w' k → m ≤ k := by
    intro a' w' ⟨m, hm⟩
    induction m using Nat.strongRecOn with
    | _ m ih =>
      by_cases hex : ∃ k, k < m ∧ J a' w' k
      · obtain ⟨k, hk, hj⟩ := hex; exact ih k hk hj
      · exact ⟨m, hm, fun k hk => Nat.le_of_not_lt fun hlt => hex ⟨k, hlt, hk⟩⟩
  let μ' : Act → World → Nat := fun a' w' => Classical.epsilon fun m => J a' w' m ∧ ∀ k, J a' w' k → m ≤ k
  have hμ : ∀ a' w', I' a' w' → J a' w' (μ' a' w') ∧ ∀ k, J a' w' k → μ' a' w' ≤ k := fun a' w' hi => Classical.epsilon_spec (lst a' w' hi)
  refine wp_scope_jumps l I' μ' hf ?_ fun a' w' hi => ?_
  · refine wp_mono (h0 Z κ a w r hn) fun e a2 w2 ha => ?_
    cases e with
    | normal => exact ha
    | exit id => exact ha
    | goto l' =>
      obtain ⟨s2, Z2, κ2, ⟨hl, s3, hwk, hI3⟩, r2, e2, st2, n2⟩ := ha
      obtain ⟨κ3, r3, e3, st3, n3⟩ := hwk Z2 κ2 a2 w2 r2 n2
      exact ⟨hl, _, s3, Z2, κ3, ⟨hI3, rfl⟩, r3, e2.trans e3, st2.trans st3, n3⟩
    | ret => exact ha
    | panic ch => exact ha
    | outgrown => exact ha
  · obtain ⟨⟨s1, Z1, κ1, ⟨hI, hm⟩, r1, e1, st1, n1⟩, hle⟩ := hμ a' w' hi
    refine wp_mono (hr s1 hI Z1 κ1 a' w' r1 n1) fun e a2 w2 ha => ?_
    have ha := ha.trans e1 st1
    cases e with
    | normal => exact ha
    | exit id => exact ha
    | goto l' =>
      obtain ⟨s2, Z2, κ2, ⟨hl, s3, hwk, hI3, hlt⟩, r2, e2, st2, n2⟩ := ha
      obtain ⟨κ3, r3, e3, st3, n3⟩ := hwk Z2 κ2 a2 w2 r2 n2
      have hj : J a2 w2 (μ s3) := ⟨s3, Z2, κ3, ⟨hI3, rfl⟩, r3, e2.trans e3, st2.trans st3, n3⟩
      refine ⟨hl, ⟨_, hj⟩, ?_⟩
      have := (hμ a2 w2 ⟨_, hj⟩).2 _ hj
      omega
    | ret => exact ha
    | panic ch => exact ha
    | outgrown => exact ha

/-- A scope, its states at the label by a family. -/
theorem AW.scopeF {α : Type} {c rest : Code} {Q : Exit → AState → Prop} {s : AState} (l : Nat) (S : α → AState) (μ : α → Nat) (good : α → Prop) (hf : findLabel c l = some rest)
    (h0 : AX P lit n c (jumpA l (fun s' => ∃ x', Wk n s' (S x') ∧ good x') Q) s)
    (hr : ∀ x, good x → AX P lit n rest (jumpA l (fun s' => ∃ x', Wk n s' (S x') ∧ good x' ∧ μ x' < μ x) Q) (S x)) : AW P n (.scope c) Q s := by
  let I : AState → Prop := fun s => ∃ x, good x ∧ S x = s
  let M : AState → Nat → Prop := fun s m => ∃ x, good x ∧ S x = s ∧ μ x = m
  have lst : ∀ s, I s → ∃ m, M s m ∧ ∀ k, M s k → m ≤ k := by
    rintro s ⟨x, hg, hs⟩
    have : ∀ m, M s m → ∃ m, M s m ∧ ∀ k, M s k → m ≤ k := by
      intro m
      induction m using Nat.strongRecOn with
      | _ m ih =>
        intro hm
        by_cases hex : ∃ k, k < m ∧ M s k
        · obtain ⟨k, hk, hj⟩ := hex; exact ih k hk hj
        · exact ⟨m, hm, fun k hk => Nat.le_of_not_lt fun hlt => hex ⟨k, hlt, hk⟩⟩
    exact this (μ x) ⟨x, hg, hs, rfl⟩
  let μ' : AState → Nat := fun s => Classical.epsilon fun m => M s m ∧ ∀ k, M s k → m ≤ k
  have hμ : ∀ s, I s → M s (μ' s) ∧ ∀ k, M s k → μ' s ≤ k := fun s hi => Classical.epsilon_spec (lst s hi)
  refine AW.scope l I μ' hf ?_ fun s hi => ?_
  · intro Z κ a w r hn
    refine wp_mono (AX_ok c _ _ h0 Z κ a w r hn) fun e a' w' ha => ha.mono fun s2 h2 => ?_
    cases e with
    | goto l' => obtain ⟨hl, x', hw, hg⟩ := h2; exact ⟨hl, S x', hw, x', hg, rfl⟩
    | normal => exact h2
    | exit id => exact h2
    | ret => exact h2
    | panic ch => exact h2
    | outgrown => exact h2
  · obtain ⟨⟨x, hg, hs, hm⟩, _⟩ := hμ s hi
    subst hs
    intro Z κ a w r hn
    refine wp_mono (AX_ok rest _ _ (hr x hg) Z κ a w r hn) fun e a' w' ha => ha.mono fun s2 h2 => ?_
    cases e with
    | goto l' =>
      obtain ⟨hl, x', hw, hg', hlt⟩ := h2
      refine ⟨hl, S x', hw, ⟨x', hg', rfl⟩, ?_⟩
      have := (hμ (S x') ⟨x', hg', rfl⟩).2 _ ⟨x', hg', rfl, rfl⟩
      omega
    | normal => exact h2
    | exit id => exact h2
    | ret => exact h2
    | panic ch => exact h2
    | outgrown => exact h2
/-- Slots are kept, and the heap, by sight. -/
theorem Wk.at {n N' : Nat} {s : AState} {h' : AHeap} (l : List (Nat × AV)) (hN : s.N = N') (hh : s.h = h') (hl : ∀ p ∈ l, s.T p.1 = p.2) : Wk n s ⟨N', Cx.pat l, h'⟩ := by
  subst hN hh
  exact Wk.keep l hl
theorem Wk.cutAt {n N' : Nat} {s : AState} {h' : AHeap} (l : List (Nat × AV)) (hN : s.N = N') (hnm : n ≤ h'.length) (hh : s.h.take h'.length = h') (hc : h'.all (ABlk.refsLt h'.length) = true) (hl : ∀ p ∈ l, s.T p.1 = p.2 ∧ refsLt h'.length p.2 = true) : Wk n s ⟨N', Cx.pat l, h'⟩ := by
  subst hN
  have := Wk.cut (s := s) h'.length l hnm (by have := congrArg List.length hh; simp at this; omega) (by rw [hh]; exact hc) hl
  rwa [hh] at this
/-- The same, what stands behind a round under a name of its own. -/
theorem AW.scopeG {α : Type} {c rest : Code} {Q : Exit → AState → Prop} {s : AState} (l : Nat) (S : α → AState) (μ : α → Nat) (good : α → Prop) (hf : findLabel c l = some rest)
    (h0 : ∀ A : AState → Prop, (∀ x' s', Wk n s' (S x') → good x' → A s') → AX P lit n c (jumpA l A Q) s)
    (hr : ∀ x, good x → ∀ A : AState → Prop, (∀ x' s', Wk n s' (S x') → good x' → μ x' < μ x → A s') → AX P lit n rest (jumpA l A Q) (S x)) : AW P n (.scope c) Q s :=
  AW.scopeF (lit := lit) l S μ good hf (h0 _ fun x' s' h1 h2 => ⟨x', h1, h2⟩) (fun x hx => hr x hx _ fun x' s' h1 h2 h3 => ⟨x', h1, h2, h3⟩)
theorem AW.loopG {α : Type} {c : Code} {Q : Exit → AState → Prop} {s : AState} (S : α → AState) (μ : α → Nat) (good : α → Prop) (x0 : α) (h0 : Wk n s (S x0)) (g0 : good x0)
    (hr : ∀ x, good x → ∀ A : AState → Prop, (∀ x' s', Wk n s' (S x') → good x' → μ x' < μ x → A s') → AX P lit n c (thenA A Q) (S x)) : AW P n (.loop c) Q s :=
  AW.loopF (lit := lit) S μ good x0 h0 g0 (fun x hx => hr x hx _ fun x' s' h1 h2 h3 => ⟨x', h1, h2, h3⟩)
end Go.Cx
