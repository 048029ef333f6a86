import Derived.Test.YtdnfnddlciafmaaGreatXBm
import Derived.Test.YtdnfnddlciafmaaGreatXBg
set_option linter.unusedVariables false
set_option linter.unusedSimpArgs false
namespace Go.Cx
def addNew (o : List Int) (k : Int) : List Int := if k ∈ o then o else o ++ [k]
def addAll (o : List Int) (ks : List Int) : List Int := ks.foldl addNew o
def bfs (kids : Int → List Int) : Nat → Nat → List Int → List Int
  | 0, _, o => o
  | n + 1, k, o => match o[k]? with
    | some x => bfs kids n (k + 1) (addAll o (kids x))
    | none => o
theorem addNew_mem (o : List Int) (k y : Int) : y ∈ addNew o k ↔ y ∈ o ∨ y = k := by
  unfold addNew
  split
  · rename_i h; exact ⟨.inl, fun h' => h'.elim id fun e => e ▸ h⟩
  · simp
theorem addAll_mem : ∀ (ks o : List Int) (y : Int), y ∈ addAll o ks ↔ y ∈ o ∨ y ∈ ks
  | [], o, y => by simp [addAll]
  | k :: ks, o, y => by
    have := addAll_mem ks (addNew o k) y
    unfold addAll at this ⊢
    rw [List.foldl_cons, this, addNew_mem]
    simp only [List.mem_cons, or_assoc]
theorem addNew_nodup {o : List Int} (h : o.Nodup) (k : Int) : (addNew o k).Nodup := by
  unfold addNew
  split
  · exact h
  · rename_i hk
    rw [List.nodup_append]
    exact ⟨h, by simp, fun a ha b hb e => by simp at hb; subst hb e; exact hk ha⟩
theorem addAll_nodup : ∀ (ks : List Int) {o : List Int}, o.Nodup → (addAll o ks).Nodup
  | [], o, h => h
  | k :: ks, o, h => addAll_nodup ks (addNew_nodup h k)
theorem addNew_get {o : List Int} {i : Nat} {x : Int} (h : o[i]? = some x) (k : Int) : (addNew o k)[i]? = some x := by
  unfold addNew
  split
  · exact h
  · rw [List.getElem?_append_left (List.getElem?_eq_some_iff.1 h).1]; exact h
theorem addAll_get : ∀ (ks : List Int) {o : List Int} {i : Nat} {x : Int}, o[i]? = some x → (addAll o ks)[i]? = some x
  | [], o, i, x, h => h
  | k :: ks, o, i, x, h => addAll_get ks (addNew_get h k)
theorem addNew_len (o : List Int) (k : Int) : o.length ≤ (addNew o k).length := by
  unfold addNew
  split <;> simp
theorem addAll_len : ∀ (ks o : List Int), o.length ≤ (addAll o ks).length
  | [], o => Nat.le_refl _
  | k :: ks, o => Nat.le_trans (addNew_len o k) (addAll_len ks _)
structure Bfs (kids : Int → List Int) (U : List Int) (top : Int) (k : Nat) (o : List Int) : Prop where
  nodup : o.Nodup
  sub : ∀ y ∈ o, y ∈ U
  sound : ∀ y ∈ o, Reach kids top y
  first : ∀ y ∈ kids top, y ∈ o
  done : ∀ j x, j < k → o[j]? = some x → ∀ y ∈ kids x, y ∈ o
  le : k ≤ o.length
theorem sub_len {o U : List Int} (h : o.Nodup) (hs : ∀ y ∈ o, y ∈ U) : o.length ≤ U.length := by
  induction o generalizing U with
  | nil => simp
  | cons a o ih =>
    obtain ⟨h1, h2⟩ := List.nodup_cons.1 h
    have ha : a ∈ U := hs a (by simp)
    have := ih (U := U.erase a) h2 fun y hy => (List.mem_erase_of_ne (by rintro rfl; exact h1 hy)).2 (hs y (by simp [hy]))
    rw [List.length_erase_of_mem ha] at this
    have : 0 < U.length := List.length_pos_of_mem ha
    simp only [List.length_cons]
    omega
theorem Bfs.next {kids : Int → List Int} {U : List Int} {top : Int} {k : Nat} {o : List Int} (hU : ∀ i, ∀ y ∈ kids i, y ∈ U) (h : Bfs kids U top k o) {x : Int} (hx : o[k]? = some x) : Bfs kids U top (k + 1) (addAll o (kids x)) := by
  have hxo : x ∈ o := List.mem_of_getElem? hx
  refine ⟨addAll_nodup _ h.nodup, fun y hy => ?_, fun y hy => ?_, fun y hy => (addAll_mem _ _ _).2 (.inl (h.first y hy)), fun j z hj hz y hy => ?_, ?_⟩
  · rcases (addAll_mem _ _ _).1 hy with hy | hy
    · exact h.sub y hy
    · exact hU x y hy
  · rcases (addAll_mem _ _ _).1 hy with hy | hy
    · exact h.sound y hy
    · exact .step (h.sound x hxo) hy
  · have hjl : j < o.length := by
      have := (List.getElem?_eq_some_iff.1 hx).1; omega
    have hz' : o[j]? = some z := by
      have h1 := addAll_get (kids x) (List.getElem?_eq_getElem hjl)
      rw [h1] at hz
      rw [List.getElem?_eq_getElem hjl]; exact hz
    by_cases hjk : j = k
    · subst hjk
      rw [hx] at hz'
      injection hz' with e
      subst e
      exact (addAll_mem _ _ _).2 (.inr hy)
    · exact (addAll_mem _ _ _).2 (.inl (h.done j z (by omega) hz' y hy))
  · have h1 := addAll_len (kids x) o
    have := (List.getElem?_eq_some_iff.1 hx).1
    omega
theorem Bfs.end {kids : Int → List Int} {U : List Int} {top : Int} {k : Nat} {o : List Int} (h : Bfs kids U top k o) (hk : o.length ≤ k) (q : Int) : q ∈ o ↔ Reach kids top q := by
  refine ⟨h.sound q, fun hr => ?_⟩
  induction hr with
  | one hy => exact h.first _ hy
  | step _ hy ih =>
    obtain ⟨j, hj, e⟩ := List.getElem_of_mem ih
    exact h.done j _ (by omega) (by rw [List.getElem?_eq_getElem hj, e]) _ hy
theorem bfs_spec {kids : Int → List Int} {U : List Int} {top : Int} (hU : ∀ i, ∀ y ∈ kids i, y ∈ U) : ∀ (n k : Nat) (o : List Int), Bfs kids U top k o → U.length < n + k → (∀ q, q ∈ bfs kids n k o ↔ Reach kids top q) ∧ (bfs kids n k o).length ≤ U.length
  | 0, k, o, h, hn => by
    have h1 := sub_len h.nodup h.sub
    have h2 := h.le
    omega
  | n + 1, k, o, h, hn => by
    rw [bfs]
    cases hx : o[k]? with
    | none => exact ⟨h.end (List.getElem?_eq_none_iff.1 hx), sub_len h.nodup h.sub⟩
    | some x => exact bfs_spec hU n (k + 1) _ (h.next hU hx) (by omega)
def belowL (l : List NodeR) (top : Int) : List Int := bfs (kidsF l) ((allKids l).length + 1) 0 (addAll [] (kidsF l top))
theorem bfs_start (l : List NodeR) (top : Int) : Bfs (kidsF l) (allKids l) top 0 (addAll [] (kidsF l top)) :=
  ⟨addAll_nodup _ List.nodup_nil, fun y hy => kids_all l top y (((addAll_mem _ _ _).1 hy).resolve_left (by simp)), fun y hy => .one (((addAll_mem _ _ _).1 hy).resolve_left (by simp)), fun y hy => (addAll_mem _ _ _).2 (.inr hy), fun j x hj => by omega, Nat.zero_le _⟩
theorem belowL_iff (l : List NodeR) (top q : Int) : q ∈ belowL l top ↔ Reach (kidsF l) top q := (bfs_spec (kids_all l) _ 0 _ (bfs_start l top) (by omega)).1 q
theorem belowL_len (l : List NodeR) (top : Int) : (belowL l top).length ≤ (allKids l).length := (bfs_spec (kids_all l) _ 0 _ (bfs_start l top) (by omega)).2
def badN (l : List NodeR) (i : Nat) (n : NodeR) : Prop := 0 < i ∧ (n.links < 1 ∨ n.kind = 2 ∧ (1 < n.links ∨ ¬ n.ino ∈ belowL l 1))
structure GoodN (l : List NodeR) (i : Nat) (n : NodeR) : Prop where
  links : n.links = ((allKids l).count n.ino : Nat)
  not : ¬ badN l i n
  kids : ∀ x ∈ n.l, (findB l x.ino).2 = true
theorem first_ino {f : FSR} (h : RowsF f) (hh : headF f.l = true) {i : Nat} (hi : i < f.l.length) : (0 < i ↔ 1 < f.l[i].ino) := by
  have h0' : ∀ r, f.l[0]? = some r → r.ino = 1 := by
    intro r hr
    cases hl : f.l with
    | nil => rw [hl] at hr; cases hr
    | cons q l =>
      rw [hl] at hh hr
      simp only [headF_cons, Bool.and_eq_true, decide_eq_true_eq] at hh
      simp only [List.getElem?_cons_zero, Option.some.injEq] at hr
      rw [← hr]; exact hh.1.1
  have h0 := h0' (f.l[0]'(by omega)) (List.getElem?_eq_getElem _)
  constructor
  · intro hp
    have := (rises_pair (key := NodeR.ino) f.l).1 h.rise
    have := List.pairwise_iff_getElem.1 this 0 i (by omega) hi hp
    omega
  · intro hp
    rcases Nat.eq_zero_or_pos i with e | e
    · subst e; omega
    · exact e
theorem rightF_iff (f : FSR) (h : RowsF f) (hh : headF f.l = true) : rightF f = true ↔ ∀ (i : Nat) (hi : i < f.l.length), GoodN f.l i f.l[i] := by
  have hr := (rows_iff f).2 h
  have hE : ∀ n ∈ f.l, n.l.length ≤ 256 := fun n hn => ((rowOk_iff _).1 ((nodeOk_iff n).1 (h.ok n hn)).row).len
  have hnm := fun k => names_eq h.len hE k
  have hak := allKids_le hE
  obtain ⟨c, ho, _⟩ := look_ok (kids_all f.l) (kids_le hE) ((allKids f.l).length + 1) 1 [] 0 .nil
  have hb : ∀ q, getM (underS f.l 1) q = 0 ↔ ¬ q ∈ belowL f.l 1 := fun q => by
    rw [belowL_iff, ← below_eq hE]
    obtain ⟨_, c', o, _⟩ := look_ok (kids_all f.l) (kids_le hE) ((allKids f.l).length + 1) 1 [] 0 .nil
    have := o.nonneg q
    unfold underS at this ⊢
    omega
  simp only [rightF, hr, hh, Bool.true_and, Bool.and_eq_true, List.all_eq_true]
  constructor
  · rintro ⟨h1, h2⟩ i hi
    have g := h2 _ (List.getElem_mem hi)
    have hp := first_ino h hh hi
    simp only [nodeS, Bool.and_eq_true, decide_eq_true_eq, Bool.not_eq_true', Bool.and_eq_false_iff, Bool.or_eq_false_iff, decide_eq_false_iff_not, hb] at g
    refine ⟨by rw [g.1, hnm], ?_, fun x hx => ?_⟩
    · rintro ⟨b1, b2⟩
      rcases g.2 with g2 | ⟨g2, g3⟩
      · exact g2 (hp.1 b1)
      · rcases b2 with b2 | ⟨b2, b3⟩
        · exact g2 b2
        · rcases g3 with g3 | ⟨g3, g4⟩
          · exact g3 b2
          · rcases b3 with b3 | b3
            · omega
            · exact g4 b3
    · have hk : x.ino ∈ allKids f.l := List.mem_flatMap.2 ⟨_, List.getElem_mem hi, List.mem_map.2 ⟨x, hx, rfl⟩⟩
      have hp2 : 0 < getM (countsS f.l []) x.ino := by rw [hnm]; have := List.count_pos_iff.2 hk; omega
      rcases findIdx_spec (countsS f.l []) x.ino with ⟨_, _, h0⟩ | ⟨j, v, _, hj, _, _⟩
      · omega
      · exact h1 _ (List.mem_of_getElem? hj)
  · intro g
    refine ⟨fun p hp => ?_, fun n hn => ?_⟩
    · have hlen := h.len
      have hm := (countsS_ok f.l [] 0 .nil (by omega)).1.pos p.1 (by unfold hasM; exact List.any_eq_true.2 ⟨p, hp, by simp⟩)
      rw [hnm] at hm
      have hk := List.count_pos_iff.1 (show 0 < (allKids f.l).count p.1 by omega)
      obtain ⟨n, hn, hx⟩ := List.mem_flatMap.1 hk
      obtain ⟨x, hx, e⟩ := List.mem_map.1 hx
      obtain ⟨i, hi, rfl⟩ := List.getElem_of_mem hn
      rw [← e]
      exact (g i hi).kids x hx
    · obtain ⟨i, hi, rfl⟩ := List.getElem_of_mem hn
      have hp := first_ino h hh hi
      have gi := g i hi
      simp only [nodeS, Bool.and_eq_true, decide_eq_true_eq, Bool.not_eq_true', Bool.and_eq_false_iff, Bool.or_eq_false_iff, decide_eq_false_iff_not, hb]
      refine ⟨by rw [gi.links, hnm], ?_⟩
      by_cases b1 : 0 < i
      · have nb := gi.not
        refine .inr ⟨fun e => nb ⟨b1, .inl e⟩, ?_⟩
        by_cases b2 : f.l[i].kind = 2
        · refine .inr ⟨fun e => e ?_, fun e => nb ⟨b1, .inr ⟨b2, .inr e⟩⟩⟩
          have h3 : ¬ f.l[i].links < 1 := fun e => nb ⟨b1, .inl e⟩
          have h4 : ¬ 1 < f.l[i].links := fun e => nb ⟨b1, .inr ⟨b2, .inl e⟩⟩
          omega
        · exact .inl b2
      · exact .inl fun e => b1 (hp.2 e)
end Go.Cx
