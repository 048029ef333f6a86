import Derived.Test.YtdnfnddlciafmaaGreatXBl
import Derived.Test.YtdnfnddlciafmaaGreatXBk
set_option linter.unusedVariables false
set_option linter.unusedSimpArgs false
namespace Go.Cx
structure Step (f g h : FSR) (P : Int → Prop) : Prop where
  rise : rises NodeR.ino h.l = true
  next : h.next ≤ g.next
  yes : ∀ q, P q → findB h.l q = findB g.l q
  no : ∀ q, ¬ P q → findB h.l q = findB f.l q
theorem step_one {f g h : FSR} {P : Int → Prop} (hf : RowsF f) (hg : RowsF g) (H : Step f g h P) (k : Int) (hk : ¬ P k) : Step f g ((changeS f g k).foldl applyOne h) (fun q => q = k ∨ P q) := by
  unfold changeS
  by_cases h1 : (findB g.l k).2 = false
  · rw [if_pos h1]
    simp only [List.foldl_cons, List.foldl_nil, applyOne, if_true]
    have hz : findB g.l k = (.zero, false) := Prod.ext (findB_false h1) h1
    refine ⟨rises_filter _ H.rise _, H.next, fun q hq => ?_, fun q hq => ?_⟩
    · rw [find_out H.rise]
      by_cases e : q = k
      · rw [if_pos e, e, hz]
      · rw [if_neg e]; exact H.yes q (hq.resolve_left e)
    · rw [find_out H.rise, if_neg (fun e => hq (.inl e))]
      exact H.no q (fun e => hq (.inr e))
  rw [if_neg h1]
  have h1' : (findB g.l k).2 = true := by simpa using h1
  obtain ⟨m1, m2⟩ := findB_true h1'
  by_cases h2 : (findB f.l k).2 = false ∨ (findB f.l k).1 ≠ (findB g.l k).1
  · rw [if_pos h2]
    simp only [List.foldl_cons, List.foldl_nil, applyOne, Bool.false_eq_true, if_false]
    have hlt := hg.lt _ m1
    refine ⟨(put_spec H.rise _).1, ?_, fun q hq => ?_, fun q hq => ?_⟩
    · show max h.next ((findB g.l k).1.ino + 1) ≤ g.next
      have := H.next; omega
    · rw [find_put H.rise]
      by_cases e : q = k
      · rw [if_pos (e.trans m2.symm), e]
        exact Prod.ext rfl h1'.symm
      · rw [if_neg (fun e2 => e (e2.trans m2))]; exact H.yes q (hq.resolve_left e)
    · rw [find_put H.rise, if_neg (fun e2 => hq (.inl (e2.trans m2)))]
      exact H.no q (fun e => hq (.inr e))
  · rw [if_neg h2]
    show Step f g h _
    simp only [not_or, ne_eq, Decidable.not_not, Bool.not_eq_false] at h2
    refine ⟨H.rise, H.next, fun q hq => ?_, fun q hq => H.no q (fun e => hq (.inr e))⟩
    rcases hq with rfl | hq
    · rw [H.no q hk]; exact Prod.ext h2.2 (h2.1.trans h1'.symm)
    · exact H.yes q hq
theorem step_all {f g : FSR} (hf : RowsF f) (hg : RowsF g) : ∀ (ks : List Int) (h : FSR) (P : Int → Prop), Step f g h P → (∀ k ∈ ks, ¬ P k) → ks.Nodup → Step f g ((ks.flatMap (changeS f g)).foldl applyOne h) (fun q => q ∈ ks ∨ P q)
  | [], h, P, H, _, _ => by simpa using H
  | k :: ks, h, P, H, hP, hn => by
    have h1 := step_one hf hg H k (hP k (by simp))
    obtain ⟨n1, n2⟩ := List.nodup_cons.1 hn
    have h2 := step_all hf hg ks _ _ h1 (fun q hq e => e.elim (fun e => n1 (e ▸ hq)) (hP q (by simp [hq]))) n2
    rw [List.flatMap_cons, List.foldl_append]
    exact ⟨h2.rise, h2.next, fun q hq => h2.yes q (by simp only [List.mem_cons] at hq; rcases hq with (h | h) | h <;> simp [h]), fun q hq => h2.no q (fun e => hq (by simp only [List.mem_cons]; rcases e with h | h | h <;> simp [h]))⟩
theorem nodup_rises {l : List Int} (h : risesI l = true) : l.Nodup := by
  rw [rises_pair] at h
  exact h.imp fun h => by show ¬ _ = _; intro e; subst e; exact absurd h (Int.lt_irrefl _)
theorem find_mem {l : List NodeR} (h : rises NodeR.ino l = true) (n : NodeR) : n ∈ l ↔ findB l n.ino = (n, true) := by
  rw [findB_iff h]; simp
theorem applies {f g : FSR} (hf : RowsF f) (hg : RowsF g) (hn : f.next ≤ g.next) : applyS f (changesS f g) g.next = g := by
  obtain ⟨r1, r2⟩ := numsS_spec (f.l.map (·.ino) ++ g.l.map (·.ino))
  have H := step_all hf hg (numsS (f.l.map (·.ino) ++ g.l.map (·.ino))) f (fun _ => False) ⟨hf.rise, hn, fun _ h => h.elim, fun _ _ => rfl⟩ (fun _ _ => id) (nodup_rises r1)
  unfold applyS changesS
  generalize ((numsS (f.l.map (·.ino) ++ g.l.map (·.ino))).flatMap (changeS f g)).foldl applyOne f = h at *
  have hm : ∀ q, q ∈ numsS (f.l.map (·.ino) ++ g.l.map (·.ino)) ↔ (∃ n ∈ f.l, n.ino = q) ∨ ∃ n ∈ g.l, n.ino = q := fun q => by rw [r2]; simp
  have e : h.l = g.l := by
    refine rises_same NodeR.ino H.rise hg.rise fun n => ?_
    rw [find_mem H.rise, find_mem hg.rise]
    by_cases hq : n.ino ∈ numsS (f.l.map (·.ino) ++ g.l.map (·.ino))
    · rw [H.yes n.ino (.inl hq)]
    · rw [H.no n.ino (fun e => e.elim hq id)]
      have h1 : ¬ findB f.l n.ino = (n, true) := fun e => hq ((hm _).2 (.inl ⟨n, (find_mem hf.rise n).2 e, rfl⟩))
      have h2 : ¬ findB g.l n.ino = (n, true) := fun e => hq ((hm _).2 (.inr ⟨n, (find_mem hg.rise n).2 e, rfl⟩))
      exact ⟨fun e => absurd e h1, fun e => absurd e h2⟩
  have hx := H.next
  cases g with
  | mk gl gn =>
    simp only at e hx ⊢
    rw [e]
    congr 1
    omega
theorem changes_self (f : FSR) (hf : RowsF f) : changesS f f = [] := by
  unfold changesS
  rw [List.flatMap_eq_nil_iff]
  intro k hk
  obtain ⟨_, r2⟩ := numsS_spec (f.l.map (·.ino) ++ f.l.map (·.ino))
  rw [r2] at hk
  have : ∃ n ∈ f.l, n.ino = k := by simpa using hk
  obtain ⟨n, hn, rfl⟩ := this
  have e := findB_of hf.rise hn
  unfold changeS
  rw [e]
  simp
theorem changeS_len (a b : FSR) (k : Int) : (changeS a b k).length ≤ 1 := by
  unfold changeS
  split
  · simp
  · split <;> simp
theorem numsS_len (l : List Int) : (numsS l).length ≤ l.length := by
  have h : ∀ (l a : List Int), (l.foldl withI a).length ≤ a.length + l.length := by
    intro l
    induction l with
    | nil => intro a; simp
    | cons x l ih =>
      intro a
      have h1 := ih (withI a x)
      have h2 : (withI a x).length ≤ a.length + 1 := by
        have e1 : a.takeWhile (fun y => decide (y < x)) ++ a.dropWhile (fun y => decide (y < x)) = a := List.takeWhile_append_dropWhile
        have h3 : (a.dropWhile fun y => decide (y ≤ x)).length ≤ (a.dropWhile fun y => decide (y < x)).length := by
          clear e1 h1 ih
          induction a with
          | nil => simp
          | cons y a iha =>
            simp only [List.dropWhile_cons]
            by_cases q1 : y < x
            · rw [if_pos (by simp; omega), if_pos (by simpa using q1)]; exact iha
            · rw [if_neg (c := (decide (y < x)) = true) (by simpa using q1)]
              split
              · exact Nat.le_trans (List.dropWhile_sublist _).length_le (by simp)
              · exact Nat.le_refl _
        have h4 := congrArg List.length e1
        simp only [List.length_append] at h4
        simp only [withI, List.length_append, List.length_cons]
        omega
      simp only [List.foldl_cons, List.length_cons]
      omega
  have := h l []
  simp only [List.length_nil, Nat.zero_add] at this
  exact this
theorem flatMap_len1 {α β : Type} (f : α → List β) (h : ∀ x, (f x).length ≤ 1) : ∀ l : List α, (l.flatMap f).length ≤ l.length
  | [] => by simp
  | a :: l => by
    have h1 := h a
    have h2 := flatMap_len1 f h l
    simp only [List.flatMap_cons, List.length_append, List.length_cons]; omega
theorem changes_len (f g : FSR) (hf : f.l.length ≤ 10000) (hg : g.l.length ≤ 10000) : (changesS f g).length ≤ 40000 := by
  have h1 := flatMap_len1 (changeS f g) (changeS_len f g) (numsS (f.l.map (·.ino) ++ g.l.map (·.ino)))
  have h2 := numsS_len (f.l.map (·.ino) ++ g.l.map (·.ino))
  simp only [List.length_append, List.length_map] at h2
  unfold changesS
  omega
theorem changes_in {f g : FSR} (hg : RowsF g) (hb : g.next ≤ 4611686018427387904) : ∀ c ∈ changesS f g, inI c.node.ino ∧ c.node.ino ≠ 9223372036854775807 := by
  intro c hc
  unfold changesS at hc
  obtain ⟨k, hk, hc⟩ := List.mem_flatMap.1 hc
  have h1 := hg.num k
  unfold changeS at hc
  have h2 : c.node = .zero ∨ c.node = (findB g.l k).1 := by
    split at hc
    · simp at hc; subst hc; exact .inl rfl
    · split at hc
      · simp at hc; subst hc; exact .inr rfl
      · cases hc
  rcases h2 with e | e
  · rw [e]; exact ⟨⟨by decide, by decide⟩, by decide⟩
  · rw [e]; exact ⟨⟨by omega, by omega⟩, by omega⟩
def cA : CallR := ⟨6, 1, 0, 0, 0, T [97], .empty, .empty⟩
def fA : FSR := ⟨[⟨1, 2, 0, .empty, [⟨T [97], 2⟩]⟩, ⟨2, 1, 1, .empty, []⟩], 3⟩
theorem doA : doS newF cA = (fA, ⟨0, 2, 0, 0, .empty, []⟩) := by decide +kernel
theorem doB : doS fA cA = (fA, errR 7) := by decide +kernel
theorem looksA : looksS fA cA = [0, 1, 2] := by decide +kernel
theorem rowsN : rowsOk newF = true := by decide +kernel
theorem rowsA : rowsOk fA = true := by decide +kernel
end Go.Cx
