/- File systems, in plain Lean. What is below: numbers that are looked at, one behind the other; in plain Lean. What holds of right file systems; in plain Lean. What was put, and what was taken out, is found so; in plain Lean. File systems' texts; in plain Lean. -/
import Derived.Test.YtilmfmjcemfoeaaBf
import Derived.Test.YtilmfmjcemfoeaaBe
set_option linter.unusedVariables false
set_option linter.unusedSimpArgs false
namespace Go.Cx

/-- Nodes are right, below next, and rise, one behind the other. -/
def nodesOk (next : Int) : Option Int → List NodeR → Bool
  | _, [] => true
  | p, x :: l => nodeOk x && decide (x.ino < next) && (p.map fun q => decide (q < x.ino)).getD true && nodesOk next (some x.ino) l
def prevIno (l : List NodeR) (i : Nat) : Option Int := if i = 0 then none else (l[i - 1]?).map (·.ino)
def rowsOk (f : FSR) : Bool := nodesOk f.next none f.l && decide (f.l.length ≤ 256) && decide (1 ≤ f.next)
theorem nodesOk_at (next : Int) (l : List NodeR) (i : Nat) (h : i < l.length) : nodesOk next (prevIno l i) (l.drop i) = (nodeOk l[i] && decide (l[i].ino < next) && ((prevIno l i).map fun q => decide (q < l[i].ino)).getD true && nodesOk next (prevIno l (i + 1)) (l.drop (i + 1))) := by
  have e : prevIno l (i + 1) = some l[i].ino := by simp [prevIno, h]
  rw [List.drop_eq_getElem_cons h, nodesOk, e]
theorem nodesOk_end (next : Int) (l : List NodeR) (i : Nat) (h : l.length ≤ i) : nodesOk next (prevIno l i) (l.drop i) = true := by
  rw [List.drop_eq_nil_of_le h, nodesOk]
theorem nodesOk_rises {next : Int} {l : List NodeR} {p : Option Int} (h : nodesOk next p l = true) : rises NodeR.ino l = true ∧ ∀ x ∈ l, nodeOk x = true ∧ x.ino < next := by
  induction l generalizing p with
  | nil => exact ⟨rfl, by simp⟩
  | cons a l ih =>
    simp only [nodesOk, Bool.and_eq_true, decide_eq_true_eq] at h
    obtain ⟨h1, h2⟩ := ih h.2
    refine ⟨?_, fun x hx => ?_⟩
    · cases l with
      | nil => rfl
      | cons b l =>
        simp only [rises, Bool.and_eq_true, decide_eq_true_eq]
        have := h.2
        simp only [nodesOk, Option.map_some, Option.getD_some, Bool.and_eq_true, decide_eq_true_eq] at this
        exact ⟨this.1.2, h1⟩
    · rcases List.mem_cons.1 hx with rfl | hx
      · exact h.1.1
      · exact h2 x hx

/-! ### few -/
def fewFrom : Int → List NodeR → Bool
  | n, [] => decide (n ≤ 200)
  | n, x :: l => if n ≤ 200 then (if 5000 < x.text.size then false else fewFrom (IntKind.i64.wrap (n + x.l.length)) l) else false
def fewS (f : FSR) : Bool := fewFrom f.l.length f.l
theorem fewFrom_le : ∀ (l : List NodeR) (n : Int), 0 ≤ n → (∀ x ∈ l, x.l.length ≤ 1000000) → fewFrom n l = true → n ≤ 200 ∧ ∀ x ∈ l, x.text.size ≤ 5000 ∧ x.l.length ≤ 200
  | [], n, _, _, h => by simpa [fewFrom] using h
  | x :: l, n, h0, hb, h => by
    simp only [fewFrom] at h
    split at h
    · split at h
      · cases h
      · rename_i h1 h2
        have hx := hb x (by simp)
        have hw : IntKind.i64.wrap (n + x.l.length) = n + x.l.length := by rw [IntKind.wrap_i64]; omega
        rw [hw] at h
        obtain ⟨h3, h4⟩ := fewFrom_le l _ (by omega) (fun y hy => hb y (by simp [hy])) h
        refine ⟨h1, fun y hy => ?_⟩
        rcases List.mem_cons.1 hy with rfl | hy
        · exact ⟨by omega, by omega⟩
        · exact h4 y hy
    · cases h
theorem few_le {f : FSR} (h : fewS f = true) (hb : ∀ x ∈ f.l, x.l.length ≤ 1000000) : f.l.length ≤ 200 ∧ ∀ x ∈ f.l, x.text.size ≤ 5000 ∧ x.l.length ≤ 200 := by
  obtain ⟨h1, h2⟩ := fewFrom_le _ _ (by omega) hb h
  exact ⟨by omega, h2⟩
theorem fewFrom_at {l : List NodeR} {n : Int} {i : Nat} (h : i < l.length) : fewFrom n (l.drop i) = if n ≤ 200 then (if 5000 < l[i].text.size then false else fewFrom (IntKind.i64.wrap (n + l[i].l.length)) (l.drop (i + 1))) else false := by
  rw [List.drop_eq_getElem_cons h, fewFrom]
theorem fewFrom_end {l : List NodeR} {n : Int} {i : Nat} (h : ¬ i < l.length) : fewFrom n (l.drop i) = decide (n ≤ 200) := by
  rw [List.drop_eq_nil_of_le (by omega), fewFrom]
def newF : FSR := ⟨[⟨1, 2, 0, .empty, []⟩], 2⟩

/-! ### found, put, taken out -/
abbrev inoAt (l : List NodeR) (i : Nat) : Int := (l.getD i .zero).ino
abbrev plc (l : List NodeR) (k : Int) : Nat := bsGo (inoAt l) k 0 l.length
def findB (l : List NodeR) (k : Int) : NodeR × Bool := if plc l k < l.length ∧ inoAt l (plc l k) = k then (l.getD (plc l k) .zero, true) else (.zero, false)
def outF (f : FSR) (k : Int) : FSR := ⟨outS NodeR.ino f.l k, f.next⟩
def putB (f : FSR) (n : NodeR) : FSR := ⟨if plc f.l n.ino < f.l.length ∧ inoAt f.l (plc f.l n.ino) = n.ino then f.l.set (plc f.l n.ino) n else insL f.l (plc f.l n.ino) n, max f.next (n.ino + 1)⟩
theorem bsGo_le (f : Nat → Int) (k : Int) : ∀ (d i j : Nat), j - i = d → i ≤ j → bsGo f k i j ≤ j := by
  intro d
  induction d using Nat.strongRecOn with
  | _ d ih =>
    intro i j hd hij
    by_cases h : i < j
    · rw [bsGo_lt h]
      split
      · exact ih (j - ((i + j) / 2 + 1)) (by omega) _ _ rfl (by omega)
      · exact Nat.le_trans (ih ((i + j) / 2 - i) (by omega) _ _ rfl (by omega)) (by omega)
    · rw [bsGo_ge h]; exact hij
theorem plc_le (l : List NodeR) (k : Int) : plc l k ≤ l.length := bsGo_le _ _ _ _ _ rfl (Nat.zero_le _)
end Go.Cx

set_option linter.unusedVariables false
set_option linter.unusedSimpArgs false
namespace Go.Cx
abbrev MI := List (Int × Int)

/-- One more of a number. -/
def incM (m : MI) (k : Int) : MI := setM m k (getM m k + 1)
def lookS (kids : Int → List Int) : Nat → Int → MI → MI
  | 0, _, m => m
  | f + 1, ino, m => (kids ino).foldl (fun m k => if getM m k = 0 then lookS kids f k (incM m k) else incM m k) m
def lookStep (kids : Int → List Int) (f : Nat) (m : MI) (k : Int) : MI := if getM m k = 0 then lookS kids f k (incM m k) else incM m k
theorem lookS_succ (kids : Int → List Int) (f : Nat) (ino : Int) (m : MI) : lookS kids (f + 1) ino m = (kids ino).foldl (lookStep kids f) m := rfl

structure MOk (m : MI) (c : Nat) : Prop where
  pos : ∀ k, hasM m k = true → 1 ≤ getM m k
  le : ∀ k, getM m k ≤ c
theorem getM_none {m : MI} {k : Int} (h : hasM m k = false) : getM m k = 0 := by
  rcases findIdx_spec m k with ⟨_, _, h3⟩ | ⟨j, v, _, _, h3, _⟩
  · exact h3
  · rw [h] at h3; cases h3
theorem MOk.zero {m : MI} {c : Nat} (h : MOk m c) (k : Int) : getM m k = 0 ↔ hasM m k = false := by
  refine ⟨fun h0 => ?_, getM_none⟩
  cases hh : hasM m k with
  | false => rfl
  | true => have := h.pos k hh; omega
theorem MOk.nonneg {m : MI} {c : Nat} (h : MOk m c) (k : Int) : 0 ≤ getM m k := by
  cases hh : hasM m k with
  | false => rw [getM_none hh]; omega
  | true => have := h.pos k hh; omega
theorem MOk.inc {m : MI} {c : Nat} (h : MOk m c) (k : Int) : MOk (incM m k) (c + 1) := by
  have h0 := h.nonneg k
  have h1 := h.le k
  refine ⟨fun q hq => ?_, fun q => ?_⟩
  · unfold incM at *
    rw [getM_set]
    rw [hasM_set] at hq
    split
    · omega
    · rename_i hn
      simp only [hn, decide_false, Bool.false_or] at hq
      exact h.pos q hq
  · unfold incM
    rw [getM_set]
    split
    · omega
    · have := h.le q; omega
theorem MOk.nil : MOk [] 0 := ⟨fun k h => by simp [hasM] at h, fun k => by simp [getM]⟩
theorem hasM_inc (m : MI) (k q : Int) : hasM (incM m k) q = (decide (q = k) || hasM m q) := hasM_set _ _ _ _

def unseen (U : List Int) (m : MI) : Nat := (U.filter fun k => !hasM m k).length
theorem filter_le {α : Type} {p q : α → Bool} (h : ∀ x, q x = true → p x = true) : ∀ l : List α, (l.filter q).length ≤ (l.filter p).length
  | [] => Nat.le_refl _
  | x :: l => by
    have ih := filter_le h l
    by_cases hq : q x = true
    · simp [List.filter_cons, hq, h x hq, ih]
    · by_cases hp : p x = true
      · simp [List.filter_cons, hq, hp]; omega
      · simp [List.filter_cons, hq, hp, ih]
theorem filter_lt {α : Type} {p q : α → Bool} (h : ∀ x, q x = true → p x = true) {a : α} (hp : p a = true) (hq : q a = false) : ∀ l : List α, a ∈ l → (l.filter q).length < (l.filter p).length
  | [], ha => by simp at ha
  | x :: l, ha => by
    rcases List.mem_cons.1 ha with rfl | ha
    · have := filter_le h l
      simp [List.filter_cons, hp, hq]; omega
    · have ih := filter_lt h hp hq l ha
      by_cases hqx : q x = true
      · simp [List.filter_cons, hqx, h x hqx, ih]
      · by_cases hpx : p x = true
        · simp [List.filter_cons, hqx, hpx]; omega
        · simp [List.filter_cons, hqx, hpx, ih]
theorem unseen_mono {U : List Int} {m m' : MI} (h : ∀ k, hasM m k = true → hasM m' k = true) : unseen U m' ≤ unseen U m :=
  filter_le (fun x hx => by
    cases hm : hasM m x with
    | false => rfl
    | true => rw [h x hm] at hx; exact hx) U
theorem unseen_inc {U : List Int} {m : MI} {k : Int} (hk : k ∈ U) (h0 : hasM m k = false) : unseen U (incM m k) + 1 ≤ unseen U m := by
  refine filter_lt (fun x hx => ?_) (a := k) (by simp [h0]) (by simp [hasM_inc]) U hk
  cases hm : hasM m x with
  | false => rfl
  | true => rw [hasM_inc, hm] at hx; simp at hx
theorem inc_sub (m : MI) (k : Int) : ∀ q, hasM m q = true → hasM (incM m k) q = true := fun q h => by rw [hasM_inc, h]; simp

inductive Reach (kids : Int → List Int) (top : Int) : Int → Prop
  | one {k : Int} : k ∈ kids top → Reach kids top k
  | step {j k : Int} : Reach kids top j → k ∈ kids j → Reach kids top k
theorem Reach.trans {kids : Int → List Int} {a b c : Int} (h : Reach kids a b) (k : Reach kids b c) : Reach kids a c := by
  induction k with
  | one hk => exact .step h hk
  | step _ hk ih => exact .step ih hk
section
variable {kids : Int → List Int} {U : List Int} (hU : ∀ i, ∀ k ∈ kids i, k ∈ U) (hW : ∀ i, (kids i).length ≤ 256)
include hU hW
/-- What stays right. -/
theorem look_ok (f : Nat) : ∀ (ino : Int) (m : MI) (c : Nat), MOk m c → (∀ k, hasM m k = true → hasM (lookS kids f ino m) k = true) ∧ ∃ c', MOk (lookS kids f ino m) c' ∧ c' + unseen U (lookS kids f ino m) * 256 ≤ c + (unseen U m + 1) * 256 := by
  induction f with
  | zero => intro ino m c h; exact ⟨fun k h => h, c, h, by simp only [lookS]; omega⟩
  | succ f ih =>
    intro ino m c h
    rw [lookS_succ]
    have key : ∀ (l : List Int) (m : MI) (c : Nat), (∀ k ∈ l, k ∈ U) → MOk m c → (∀ k, hasM m k = true → hasM (l.foldl (lookStep kids f) m) k = true) ∧ ∃ c', MOk (l.foldl (lookStep kids f) m) c' ∧ c' + unseen U (l.foldl (lookStep kids f) m) * 256 ≤ c + unseen U m * 256 + l.length := by
      intro l
      induction l with
      | nil => intro m c _ h; exact ⟨fun k h => h, c, h, by simp⟩
      | cons k l ihl =>
        intro m c hl h
        have hk := hl k (by simp)
        have hl' : ∀ k ∈ l, k ∈ U := fun q hq => hl q (by simp [hq])
        simp only [List.foldl_cons, List.length_cons]
        by_cases h0 : getM m k = 0
        · have hn := (h.zero k).1 h0
          obtain ⟨s1, c1, o1, b1⟩ := ih k (incM m k) (c + 1) (h.inc k)
          have hu := unseen_inc hk hn
          have e : lookStep kids f m k = lookS kids f k (incM m k) := by rw [lookStep, if_pos h0]
          rw [e]
          obtain ⟨s2, c2, o2, b2⟩ := ihl _ c1 hl' o1
          exact ⟨fun q hq => s2 q (s1 q (inc_sub m k q hq)), c2, o2, by omega⟩
        · have e : lookStep kids f m k = incM m k := by rw [lookStep, if_neg h0]
          rw [e]
          obtain ⟨s2, c2, o2, b2⟩ := ihl _ (c + 1) hl' (h.inc k)
          have hu := unseen_mono (U := U) (inc_sub m k)
          exact ⟨fun q hq => s2 q (inc_sub m k q hq), c2, o2, by omega⟩
    obtain ⟨s, c', o, b⟩ := key (kids ino) m c (hU ino) h
    have := hW ino
    exact ⟨s, c', o, by omega⟩

/-- One step of it. -/
theorem step_ok (f : Nat) {m : MI} {c : Nat} {k : Int} (hk : k ∈ U) (h : MOk m c) : (∀ q, hasM m q = true → hasM (lookStep kids f m k) q = true) ∧ ∃ c', MOk (lookStep kids f m k) c' ∧ c' + unseen U (lookStep kids f m k) * 256 ≤ c + unseen U m * 256 + 1 := by
  by_cases h0 : getM m k = 0
  · have hn := (h.zero k).1 h0
    obtain ⟨s1, c1, o1, b1⟩ := look_ok hU hW f k (incM m k) (c + 1) (h.inc k)
    have hu := unseen_inc hk hn
    have e : lookStep kids f m k = lookS kids f k (incM m k) := by rw [lookStep, if_pos h0]
    rw [e]
    exact ⟨fun q hq => s1 q (inc_sub m k q hq), c1, o1, by omega⟩
  · have e : lookStep kids f m k = incM m k := by rw [lookStep, if_neg h0]
    rw [e]
    have hu := unseen_mono (U := U) (inc_sub m k)
    exact ⟨inc_sub m k, c + 1, h.inc k, by omega⟩

omit hU hW in
theorem look_sound (f : Nat) : ∀ (ino : Int) (m : MI) (q : Int), hasM (lookS kids f ino m) q = true → hasM m q = true ∨ Reach kids ino q := by
  induction f with
  | zero => intro ino m q h; exact .inl h
  | succ f ih =>
    intro ino m q h
    rw [lookS_succ] at h
    have key : ∀ (l : List Int) (m : MI), (∀ k ∈ l, k ∈ kids ino) → hasM (l.foldl (lookStep kids f) m) q = true → hasM m q = true ∨ Reach kids ino q := by
      intro l
      induction l with
      | nil => intro m _ h; exact .inl h
      | cons k l ihl =>
        intro m hl h
        have hk := hl k (by simp)
        rcases ihl _ (fun q hq => hl q (by simp [hq])) h with h1 | h1
        · unfold lookStep at h1
          have inc : hasM (incM m k) q = true → hasM m q = true ∨ Reach kids ino q := fun h2 => by
            rw [hasM_inc] at h2
            simp only [Bool.or_eq_true, decide_eq_true_eq] at h2
            rcases h2 with rfl | h2
            · exact .inr (.one hk)
            · exact .inl h2
          split at h1
          · rcases ih k _ q h1 with h2 | h2
            · exact inc h2
            · exact .inr (Reach.trans (.one hk) h2)
          · exact inc h1
        · exact .inr h1
    exact key _ m (fun k hk => hk) h

theorem look_sub (f : Nat) (ino : Int) (m : MI) {c : Nat} (h : MOk m c) : ∀ k, hasM m k = true → hasM (lookS kids f ino m) k = true := (look_ok hU hW f ino m c h).1
/-- All that is looked at is looked through. -/
theorem look_full (f : Nat) : ∀ (ino : Int) (m : MI) (c : Nat), MOk m c → unseen U m < f →
    (∀ k ∈ kids ino, hasM (lookS kids f ino m) k = true) ∧ ∀ q, hasM (lookS kids f ino m) q = true → hasM m q = false → ∀ k ∈ kids q, hasM (lookS kids f ino m) k = true := by
  induction f with
  | zero => intro ino m c _ h; omega
  | succ f ih =>
    intro ino m c h hf
    rw [lookS_succ]
    have key : ∀ (l : List Int) (m : MI) (c : Nat), (∀ k ∈ l, k ∈ U) → MOk m c → unseen U m ≤ f →
        (∀ q, hasM m q = true → hasM (l.foldl (lookStep kids f) m) q = true) ∧ (∀ k ∈ l, hasM (l.foldl (lookStep kids f) m) k = true) ∧ ∀ q, hasM (l.foldl (lookStep kids f) m) q = true → hasM m q = false → ∀ k ∈ kids q, hasM (l.foldl (lookStep kids f) m) k = true := by
      intro l
      induction l with
      | nil => intro m c _ _ _; exact ⟨fun q h => h, by simp, fun q h1 h2 => by rw [List.foldl_nil, h2] at h1; cases h1⟩
      | cons k l ihl =>
        intro m c hl h hu
        have hk := hl k (by simp)
        have hl' : ∀ k ∈ l, k ∈ U := fun q hq => hl q (by simp [hq])
        simp only [List.foldl_cons]
        by_cases h0 : getM m k = 0
        · have hn := (h.zero k).1 h0
          have hui := unseen_inc hk hn
          obtain ⟨s1, c1, o1, _⟩ := look_ok hU hW f k (incM m k) (c + 1) (h.inc k)
          obtain ⟨f1, f2⟩ := ih k (incM m k) (c + 1) (h.inc k) (by omega)
          have e : lookStep kids f m k = lookS kids f k (incM m k) := by rw [lookStep, if_pos h0]
          rw [e]
          have hum := unseen_mono (U := U) s1
          obtain ⟨g1, g2, g3⟩ := ihl _ c1 hl' o1 (by omega)
          have hsk : hasM (incM m k) k = true := by rw [hasM_inc]; simp
          refine ⟨fun q hq => g1 q (s1 q (inc_sub m k q hq)), fun q hq => ?_, fun q hq hm x hx => ?_⟩
          · rcases List.mem_cons.1 hq with rfl | hq
            · exact g1 _ (s1 _ hsk)
            · exact g2 q hq
          · cases hl1 : hasM (lookS kids f k (incM m k)) q with
            | false => exact g3 q hq hl1 x hx
            | true =>
              by_cases hqk : q = k
              · subst hqk; exact g1 x (f1 x hx)
              · exact g1 x (f2 q hl1 (by rw [hasM_inc, hm]; simp [hqk]) x hx)
        · have e : lookStep kids f m k = incM m k := by rw [lookStep, if_neg h0]
          rw [e]
          have hum := unseen_mono (U := U) (inc_sub m k)
          obtain ⟨g1, g2, g3⟩ := ihl _ (c + 1) hl' (h.inc k) (by omega)
          have hkm : hasM m k = true := by
            cases hh : hasM m k with
            | true => rfl
            | false => exact absurd (getM_none hh) h0
          refine ⟨fun q hq => g1 q (inc_sub m k q hq), fun q hq => ?_, fun q hq hm x hx => ?_⟩
          · rcases List.mem_cons.1 hq with rfl | hq
            · exact g1 _ (inc_sub m _ _ hkm)
            · exact g2 q hq
          · have hqk : ¬ q = k := fun e => by rw [e, hkm] at hm; cases hm
            exact g3 q hq (by rw [hasM_inc, hm]; simp [hqk]) x hx
    obtain ⟨_, g2, g3⟩ := key (kids ino) m c (hU ino) h (by omega)
    exact ⟨g2, g3⟩
/-- What is below is what is looked at. -/
theorem look_reach (top q : Int) (f : Nat) (hf : U.length < f) : 0 < getM (lookS kids f top []) q ↔ Reach kids top q := by
  have hu : unseen U [] < f := Nat.lt_of_le_of_lt (List.length_filter_le _ _) hf
  obtain ⟨f1, f2⟩ := look_full hU hW f top [] 0 .nil hu
  obtain ⟨_, c', o, _⟩ := look_ok hU hW f top [] 0 .nil
  have hp : 0 < getM (lookS kids f top []) q ↔ hasM (lookS kids f top []) q = true := by
    constructor
    · intro h
      cases hh : hasM (lookS kids f top []) q with
      | true => rfl
      | false => rw [getM_none hh] at h; omega
    · intro h; have := o.pos q h; omega
  rw [hp]
  constructor
  · intro h
    rcases look_sound f top [] q h with h1 | h1
    · simp [hasM] at h1
    · exact h1
  · intro h
    clear hp
    induction h with
    | one hk => exact f1 _ hk
    | step _ hk ih => exact f2 _ ih (by simp [hasM]) _ hk
end

/-! ### the words of layer 8 -/
def kidsF (l : List NodeR) (j : Int) : List Int := (findB l j).1.l.map (·.ino)
def allKids (l : List NodeR) : List Int := l.flatMap fun n => n.l.map (·.ino)
theorem findB_mem (l : List NodeR) (j : Int) : (findB l j).1 ∈ l ∨ (findB l j).1 = .zero := by
  unfold findB
  split
  · rename_i h
    left
    simp [List.getD_eq_getElem?_getD, h.1]
  · exact .inr rfl
theorem kids_all (l : List NodeR) : ∀ i, ∀ k ∈ kidsF l i, k ∈ allKids l := by
  intro i k hk
  rcases findB_mem l i with h | h
  · exact List.mem_flatMap.2 ⟨_, h, hk⟩
  · unfold kidsF at hk; rw [h] at hk; simp [NodeR.zero] at hk
theorem kids_le {l : List NodeR} (hE : ∀ n ∈ l, n.l.length ≤ 256) : ∀ i, (kidsF l i).length ≤ 256 := by
  intro i
  rcases findB_mem l i with h | h
  · simpa [kidsF] using hE _ h
  · unfold kidsF; rw [h]; simp [NodeR.zero]
theorem allKids_le {l : List NodeR} (hE : ∀ n ∈ l, n.l.length ≤ 256) : (allKids l).length ≤ l.length * 256 := by
  induction l with
  | nil => simp [allKids]
  | cons n l ih =>
    have := ih fun x hx => hE x (by simp [hx])
    have h1 := hE n (by simp)
    simp only [allKids, List.flatMap_cons, List.length_append, List.length_map, List.length_cons] at *
    omega
def underS (l : List NodeR) (top : Int) : MI := lookS (kidsF l) ((allKids l).length + 1) top []
def countE (l : List EntryR) (m : MI) : MI := l.foldl (fun m x => setM m x.ino (IntKind.i64.wrap (getM m x.ino + 1))) m
def countsS (l : List NodeR) (m : MI) : MI := l.foldl (fun m n => countE n.l m) m
def nodeS (names below : MI) (n : NodeR) : Bool := decide (n.links = getM names n.ino) && !(decide (1 < n.ino) && (decide (n.links < 1) || decide (n.kind = 2) && (decide (n.links ≠ 1) || decide (getM below n.ino = 0))))
def headF : List NodeR → Bool
  | [] => false
  | r :: _ => decide (r.ino = 1) && decide (r.kind = 2) && decide (r.links = 0)
@[simp] theorem headF_nil : headF [] = false := rfl
@[simp] theorem headF_cons (r : NodeR) (l : List NodeR) : headF (r :: l) = (decide (r.ino = 1) && decide (r.kind = 2) && decide (r.links = 0)) := rfl
def rightF (f : FSR) : Bool := rowsOk f && headF f.l && (countsS f.l []).all (fun p => (findB f.l p.1).2) && f.l.all (nodeS (countsS f.l []) (underS f.l 1))
theorem rowsOk_le {f : FSR} (h : rowsOk f = true) : f.l.length ≤ 256 ∧ (∀ n ∈ f.l, n.l.length ≤ 256) ∧ ∀ n ∈ f.l, nodeOk n = true := by
  simp only [rowsOk, Bool.and_eq_true, decide_eq_true_eq] at h
  obtain ⟨_, h2⟩ := nodesOk_rises h.1.1
  refine ⟨h.1.2, fun n hn => ?_, fun n hn => (h2 n hn).1⟩
  have := (h2 n hn).1
  simp only [nodeOk, rowOk, Bool.and_eq_true, decide_eq_true_eq] at this
  exact this.1.1.2.1
end Go.Cx

set_option linter.unusedVariables false
set_option linter.unusedSimpArgs false
namespace Go.Cx

/-! ### found -/
theorem plc_place {l : List NodeR} (h : rises NodeR.ino l = true) (k : Int) : plc l k = placeS NodeR.ino l k := bs_place NodeR.ino h (fun i hi => by simp [inoAt, List.getD_eq_getElem?_getD, hi]) k
theorem findB_of {l : List NodeR} (h : rises NodeR.ino l = true) {n : NodeR} (hn : n ∈ l) : findB l n.ino = (n, true) := by
  obtain ⟨i, hi, rfl⟩ := List.getElem_of_mem hn
  have hp : plc l l[i].ino = i := by
    rw [plc_place h]
    have h1 : placeS NodeR.ino l l[i].ino ≤ i := by
      rcases Nat.lt_or_ge i (placeS NodeR.ino l l[i].ino) with h2 | h2
      · have := placeS_lt NodeR.ino l l[i].ino i h2 hi; omega
      · exact h2
    rcases Nat.lt_or_ge (placeS NodeR.ino l l[i].ino) i with h2 | h2
    · have h3 := placeS_ge NodeR.ino h l[i].ino _ (Nat.le_refl _) (by omega)
      have h4 := rises_get NodeR.ino h _ _ (by omega) hi h2
      omega
    · omega
  unfold findB
  rw [hp]
  simp [inoAt, List.getD_eq_getElem?_getD, hi]
theorem findB_true {l : List NodeR} {k : Int} (h : (findB l k).2 = true) : (findB l k).1 ∈ l ∧ (findB l k).1.ino = k := by
  unfold findB at *
  split
  · rename_i hc
    refine ⟨by simp [List.getD_eq_getElem?_getD, hc.1], hc.2⟩
  · rename_i hc; rw [if_neg hc] at h; cases h
theorem findB_false {l : List NodeR} {k : Int} (h : (findB l k).2 = false) : (findB l k).1 = .zero := by
  unfold findB at *
  split
  · rename_i hc; rw [if_pos hc] at h; cases h
  · rfl
theorem findB_none {l : List NodeR} {k : Int} (h : ∀ n ∈ l, n.ino ≠ k) : findB l k = (.zero, false) := by
  cases hf : (findB l k).2 with
  | true => exact absurd (findB_true hf).2 (h _ (findB_true hf).1)
  | false => exact Prod.ext (findB_false hf) hf
theorem kidsF_of {l : List NodeR} (h : rises NodeR.ino l = true) {n : NodeR} (hn : n ∈ l) : kidsF l n.ino = n.l.map (·.ino) := by rw [kidsF, findB_of h hn]
theorem kidsF_mem {l : List NodeR} {j k : Int} (h : k ∈ kidsF l j) : ∃ n ∈ l, n.ino = j ∧ k ∈ n.l.map (·.ino) := by
  cases hf : (findB l j).2 with
  | true => exact ⟨_, (findB_true hf).1, (findB_true hf).2, h⟩
  | false => unfold kidsF at h; rw [findB_false hf] at h; simp [NodeR.zero] at h

/-! ### counted -/
theorem countE_ok : ∀ (es : List EntryR) (m : MI) (c : Nat), MOk m c → c + es.length ≤ 1099511627776 → MOk (countE es m) (c + es.length) ∧ ∀ k, getM (countE es m) k = getM m k + (es.map (·.ino)).count k
  | [], m, c, h, _ => ⟨by simpa [countE] using h, by simp [countE]⟩
  | x :: es, m, c, h, hc => by
    simp only [List.length_cons] at hc
    have h0 := h.nonneg x.ino
    have h1 := h.le x.ino
    have hw : IntKind.i64.wrap (getM m x.ino + 1) = getM m x.ino + 1 := by rw [IntKind.wrap_i64]; omega
    have e : countE (x :: es) m = countE es (incM m x.ino) := by
      show countE es (setM m x.ino (IntKind.i64.wrap (getM m x.ino + 1))) = _
      rw [hw]; rfl
    rw [e]
    obtain ⟨g1, g2⟩ := countE_ok es (incM m x.ino) (c + 1) (h.inc _) (by omega)
    refine ⟨by rw [List.length_cons, Nat.add_comm es.length, ← Nat.add_assoc]; exact g1, fun k => ?_⟩
    rw [g2, incM, getM_set, List.map_cons, List.count_cons]
    by_cases hk : k = x.ino
    · subst hk; simp; omega
    · have : ¬ x.ino = k := fun e => hk e.symm
      simp [hk, this]
theorem countsS_ok : ∀ (l : List NodeR) (m : MI) (c : Nat), MOk m c → c + (allKids l).length ≤ 1099511627776 → MOk (countsS l m) (c + (allKids l).length) ∧ ∀ k, getM (countsS l m) k = getM m k + (allKids l).count k
  | [], m, c, h, _ => ⟨by simpa [countsS, allKids] using h, by simp [countsS, allKids]⟩
  | n :: l, m, c, h, hc => by
    have ha : allKids (n :: l) = n.l.map (·.ino) ++ allKids l := rfl
    rw [ha] at hc ⊢
    simp only [List.length_append, List.length_map] at hc ⊢
    obtain ⟨g1, g2⟩ := countE_ok n.l m c h (by omega)
    obtain ⟨g3, g4⟩ := countsS_ok l (countE n.l m) (c + n.l.length) g1 (by omega)
    refine ⟨by rw [← Nat.add_assoc]; exact g3, fun k => ?_⟩
    have := g4 k
    have e : countsS (n :: l) m = countsS l (countE n.l m) := rfl
    rw [e, this, g2, List.count_append]; omega
theorem names_eq {l : List NodeR} (hl : l.length ≤ 256) (hE : ∀ n ∈ l, n.l.length ≤ 256) (k : Int) : getM (countsS l []) k = ((allKids l).count k : Nat) := by
  have := allKids_le hE
  rw [(countsS_ok l [] 0 .nil (by omega)).2 k]; simp [getM]
theorem below_eq {l : List NodeR} (hE : ∀ n ∈ l, n.l.length ≤ 256) (top q : Int) : 0 < getM (underS l top) q ↔ Reach (kidsF l) top q :=
  look_reach (kids_all l) (kids_le hE) top q _ (Nat.lt_succ_self _)
theorem reach_all {l : List NodeR} {top q : Int} (h : Reach (kidsF l) top q) : q ∈ allKids l := by
  cases h with
  | one h => exact kids_all l _ _ h
  | step _ h => exact kids_all l _ _ h
theorem reach_last {kids : Int → List Int} {a b : Int} (h : Reach kids a b) : ∃ j, (j = a ∨ Reach kids a j) ∧ b ∈ kids j := by
  cases h with
  | one h => exact ⟨a, .inl rfl, h⟩
  | step h1 h2 => exact ⟨_, .inr h1, h2⟩
theorem reach_first {kids : Int → List Int} {a b : Int} (h : Reach kids a b) : kids a ≠ [] := by
  induction h with
  | one h => intro e; rw [e] at h; cases h
  | step _ _ ih => exact ih

/-- A number that stands once has one place. -/
theorem once_one {α : Type} (f : α → List Int) {k : Int} : ∀ (l : List α) (a b : α), a ∈ l → b ∈ l → k ∈ f a → k ∈ f b → (l.flatMap f).count k ≤ 1 → a = b
  | x :: l, a, b, ha, hb, h1, h2, hc => by
    rw [List.flatMap_cons, List.count_append] at hc
    rcases List.mem_cons.1 ha with rfl | ha' <;> rcases List.mem_cons.1 hb with rfl | hb'
    · rfl
    · have e1 := List.count_pos_iff.2 h1
      have e2 := List.count_pos_iff.2 (List.mem_flatMap.2 ⟨b, hb', h2⟩)
      omega
    · have e1 := List.count_pos_iff.2 h2
      have e2 := List.count_pos_iff.2 (List.mem_flatMap.2 ⟨a, ha', h1⟩)
      omega
    · exact once_one f l a b ha' hb' h1 h2 (by omega)

structure RightF (f : FSR) : Prop where
  rise : rises NodeR.ino f.l = true
  ok : ∀ n ∈ f.l, nodeOk n = true
  len : f.l.length ≤ 256
  ent : ∀ n ∈ f.l, n.l.length ≤ 256
  root : ∃ r ∈ f.l, r.ino = 1 ∧ r.kind = 2 ∧ r.links = 0
  here : ∀ k ∈ allKids f.l, ∃ n ∈ f.l, n.ino = k
  names : ∀ n ∈ f.l, n.links = ((allKids f.l).count n.ino : Nat)
  file : ∀ n ∈ f.l, 1 < n.ino → 1 ≤ n.links
  dir : ∀ n ∈ f.l, 1 < n.ino → n.kind = 2 → n.links = 1 ∧ Reach (kidsF f.l) 1 n.ino
theorem right_of {f : FSR} (h : rightF f = true) : RightF f := by
  simp only [rightF, Bool.and_eq_true] at h
  obtain ⟨⟨⟨h1, h2⟩, h3⟩, h4⟩ := h
  obtain ⟨hl, hE, hok⟩ := rowsOk_le h1
  have h1' := h1
  simp only [rowsOk, Bool.and_eq_true, decide_eq_true_eq] at h1'
  obtain ⟨hr, _⟩ := nodesOk_rises h1'.1.1
  have hnm := fun k => names_eq hl hE k
  have h4 := List.all_eq_true.1 h4
  have h3 := List.all_eq_true.1 h3
  refine ⟨hr, hok, hl, hE, ?_, fun k hk => ?_, fun n hn => ?_, fun n hn hi => ?_, fun n hn hi hk => ?_⟩
  · cases hf : f.l with
    | nil => rw [hf] at h2; simp at h2
    | cons r l =>
      rw [hf] at h2
      simp only [headF_cons, Bool.and_eq_true, decide_eq_true_eq] at h2
      exact ⟨r, by simp, h2.1.1, h2.1.2, h2.2⟩
  · have hp : 0 < getM (countsS f.l []) k := by rw [hnm]; have := List.count_pos_iff.2 hk; omega
    rcases findIdx_spec (countsS f.l []) k with ⟨_, _, h0⟩ | ⟨j, v, _, hj, _, _⟩
    · omega
    · have := h3 _ (List.mem_of_getElem? hj)
      exact ⟨_, (findB_true this).1, (findB_true this).2⟩
  · have := h4 n hn
    simp only [nodeS, Bool.and_eq_true, decide_eq_true_eq] at this
    rw [this.1, hnm]
  · have := h4 n hn
    simp only [nodeS, Bool.and_eq_true, decide_eq_true_eq, Bool.not_eq_true', Bool.and_eq_false_iff, Bool.or_eq_false_iff, decide_eq_false_iff_not] at this
    omega
  · have := h4 n hn
    simp only [nodeS, Bool.and_eq_true, decide_eq_true_eq, Bool.not_eq_true', Bool.and_eq_false_iff, Bool.or_eq_false_iff, decide_eq_false_iff_not] at this
    obtain ⟨e1, e2⟩ := this
    rcases e2 with e2 | ⟨e2, e3⟩
    · exact absurd hi e2
    rcases e3 with e3 | ⟨e3, e4⟩
    · exact absurd hk e3
    refine ⟨by omega, (below_eq hE 1 n.ino).1 ?_⟩
    obtain ⟨_, c', o, _⟩ := look_ok (kids_all f.l) (kids_le hE) ((allKids f.l).length + 1) 1 [] 0 .nil
    have := o.nonneg n.ino
    unfold underS at e4 ⊢
    omega

namespace RightF
variable {f : FSR} (h : RightF f)
include h
theorem ino_pos {n : NodeR} (hn : n ∈ f.l) : 1 ≤ n.ino := by
  have := h.ok n hn
  simp only [nodeOk, Bool.and_eq_true, decide_eq_true_eq] at this
  exact this.1.1.1.1.1.1.1.1
theorem leaf {n : NodeR} (hn : n ∈ f.l) (hk : n.kind ≠ 2) : n.l = [] := by
  have := h.ok n hn
  simp only [nodeOk, Bool.and_eq_true, Bool.or_eq_true, decide_eq_true_eq] at this
  exact List.eq_nil_of_length_eq_zero (this.2.resolve_left hk)
theorem no_root : 1 ∉ allKids f.l := by
  intro hm
  obtain ⟨r, hr, h1, _, h3⟩ := h.root
  have := h.names r hr
  rw [h1, h3] at this
  have := List.count_pos_iff.2 hm
  omega
theorem no_cycle_root (q : Int) : ¬ Reach (kidsF f.l) q 1 := fun hq => h.no_root (reach_all hq)
/-- Every node but the first one is below it. -/
theorem below {n : NodeR} (hn : n ∈ f.l) (hi : 1 < n.ino) : Reach (kidsF f.l) 1 n.ino := by
  by_cases hk : n.kind = 2
  · exact (h.dir n hn hi hk).2
  · have hlk := h.file n hn hi
    have hc := h.names n hn
    have hm : n.ino ∈ allKids f.l := List.count_pos_iff.1 (by omega)
    obtain ⟨p, hp, hpk⟩ := List.mem_flatMap.1 hm
    have hpd : p.kind = 2 := by
      by_cases hq : p.kind = 2
      · exact hq
      · rw [h.leaf hp hq] at hpk; simp at hpk
    have hkp : n.ino ∈ kidsF f.l p.ino := by rw [kidsF_of h.rise hp]; exact hpk
    by_cases hp1 : p.ino = 1
    · rw [hp1] at hkp; exact .one hkp
    · have := h.ino_pos hp
      exact .step (h.dir p hp (by omega) hpd).2 hkp
/-- Nothing is below itself. -/
theorem acyclic {q : Int} (hq : Reach (kidsF f.l) 1 q) : ¬ Reach (kidsF f.l) q q := by
  have uniq : ∀ {j j' q : Int}, q ∈ kidsF f.l j → q ∈ kidsF f.l j' → Reach (kidsF f.l) q q → j = j' := by
    intro j j' q h1 h2 hc
    obtain ⟨k, hk⟩ := List.exists_mem_of_ne_nil _ (reach_first hc)
    obtain ⟨n, hn, hni, hnk⟩ := kidsF_mem hk
    have hd : n.kind = 2 := by
      by_cases hd : n.kind = 2
      · exact hd
      · rw [h.leaf hn hd] at hnk; simp at hnk
    have hne : n.ino ≠ 1 := fun e => h.no_cycle_root q (by rw [hni] at e; subst e; exact hc)
    have hpos := h.ino_pos hn
    have hl := (h.dir n hn (by omega) hd).1
    have hc1 := h.names n hn
    rw [hni] at hc1
    obtain ⟨a, ha, ha1, ha2⟩ := kidsF_mem h1
    obtain ⟨b, hb, hb1, hb2⟩ := kidsF_mem h2
    have : a = b := once_one (fun n : NodeR => n.l.map (·.ino)) f.l a b ha hb ha2 hb2 (by
      have : (allKids f.l).count q ≤ 1 := by omega
      exact this)
    rw [← ha1, ← hb1, this]
  induction hq with
  | one hk =>
    intro hc
    obtain ⟨j, hj, hkj⟩ := reach_last hc
    have e := uniq hkj hk hc
    subst e
    rcases hj with rfl | hj
    · exact h.no_cycle_root _ hc
    · exact h.no_cycle_root _ hj
  | step h1 hk ih =>
    intro hc
    obtain ⟨j, hj, hkj⟩ := reach_last hc
    have e := uniq hkj hk hc
    subst e
    rcases hj with rfl | hj
    · exact ih hc
    · exact ih (Reach.trans (.one hk) hj)
end RightF
end Go.Cx

set_option linter.unusedVariables false
set_option linter.unusedSimpArgs false
namespace Go.Cx

section
variable {α : Type} (key : α → Int)
theorem rises_pair (l : List α) : rises key l = true ↔ l.Pairwise (fun a b => key a < key b) := by
  induction l with
  | nil => simp [rises]
  | cons a l ih =>
    constructor
    · intro h
      obtain ⟨h1, h2⟩ := rises_tail key h
      exact List.pairwise_cons.2 ⟨h2, ih.1 h1⟩
    · intro h
      obtain ⟨h1, h2⟩ := List.pairwise_cons.1 h
      cases l with
      | nil => rfl
      | cons b l =>
        simp only [rises, Bool.and_eq_true, decide_eq_true_eq]
        exact ⟨h1 b (by simp), ih.2 h2⟩
theorem rises_filter {l : List α} (h : rises key l = true) (p : α → Bool) : rises key (l.filter p) = true :=
  (rises_pair key _).2 (((rises_pair key l).1 h).filter p)
theorem rises_inj {l : List α} (h : rises key l = true) {a b : α} (ha : a ∈ l) (hb : b ∈ l) (e : key a = key b) : a = b := by
  obtain ⟨i, hi, rfl⟩ := List.getElem_of_mem ha
  obtain ⟨j, hj, rfl⟩ := List.getElem_of_mem hb
  rcases Nat.lt_trichotomy i j with h1 | h1 | h1
  · have := rises_get key h i j hi hj h1; omega
  · subst h1; rfl
  · have := rises_get key h j i hj hi h1; omega
/-- One in the place of another one of its number. -/
theorem rises_set {l : List α} (h : rises key l = true) {i : Nat} {x : α} (hi : i < l.length) (hx : key x = key l[i]) : rises key (l.set i x) = true ∧ ∀ y, y ∈ l.set i x ↔ y = x ∨ (y ∈ l ∧ key y ≠ key x) := by
  have hp := (rises_pair key l).1 h
  have hget : ∀ j (hj : j < (l.set i x).length), key (l.set i x)[j] = key (l[j]'(by simpa using hj)) := fun j hj => by
    rw [List.getElem_set]; split
    · rename_i e; subst e; exact hx
    · rfl
  refine ⟨(rises_pair key _).2 (List.pairwise_iff_getElem.2 fun a b ha hb hab => ?_), fun y => ⟨fun hy => ?_, fun hy => ?_⟩⟩
  · rw [hget a ha, hget b hb]
    exact rises_get key h a b (by simpa using ha) (by simpa using hb) hab
  · obtain ⟨j, hj, rfl⟩ := List.getElem_of_mem hy
    by_cases e : i = j
    · subst e; left; simp
    · right
      rw [List.getElem_set_ne e]
      refine ⟨List.getElem_mem _, fun hk => e ?_⟩
      have hj' : j < l.length := by simpa using hj
      rcases Nat.lt_trichotomy i j with h1 | h1 | h1
      · have := rises_get key h i j hi hj' h1; omega
      · exact h1
      · have := rises_get key h j i hj' hi h1; omega
  · rcases hy with rfl | ⟨hy, hk⟩
    · exact List.mem_of_getElem? (List.getElem?_set_self hi)
    · obtain ⟨j, hj, rfl⟩ := List.getElem_of_mem hy
      have hij : i ≠ j := fun e => hk (by subst e; exact hx.symm)
      exact List.mem_of_getElem? (by rw [List.getElem?_set_ne hij]; exact List.getElem?_eq_getElem hj)
/-- One more, in its place. -/
theorem rises_ins {l : List α} (h : rises key l = true) (x : α) (hx : ∀ y ∈ l, key y ≠ key x) : rises key (insL l (placeS key l (key x)) x) = true := by
  have hp := (rises_pair key l).1 h
  have hle := placeS_le key l (key x)
  refine (rises_pair key _).2 (List.pairwise_append.2 ⟨hp.sublist (List.take_sublist _ _), List.pairwise_cons.2 ⟨fun y hy => ?_, hp.sublist (List.drop_sublist _ _)⟩, fun a ha b hb => ?_⟩)
  · obtain ⟨j, hj, rfl⟩ := List.getElem_of_mem hy
    rw [List.length_drop] at hj
    rw [List.getElem_drop]
    have h1 := placeS_ge key h (key x) (placeS key l (key x) + j) (by omega) (by omega)
    have h2 := hx _ (List.getElem_mem (show placeS key l (key x) + j < l.length by omega))
    omega
  · obtain ⟨i, hi, rfl⟩ := List.getElem_of_mem ha
    rw [List.length_take] at hi
    rw [List.getElem_take]
    have h1 := placeS_lt key l (key x) i (by omega) (by omega)
    rcases List.mem_cons.1 hb with rfl | hb
    · exact h1
    · obtain ⟨j, hj, rfl⟩ := List.getElem_of_mem hb
      rw [List.length_drop] at hj
      rw [List.getElem_drop]
      have h2 := placeS_ge key h (key x) (placeS key l (key x) + j) (by omega) (by omega)
      omega
theorem insL_mem (l : List α) (i : Nat) (x y : α) : y ∈ insL l i x ↔ y = x ∨ y ∈ l := by
  unfold insL
  rw [List.mem_append, List.mem_cons]
  conv => rhs; rw [← List.take_append_drop i l, List.mem_append]
  constructor
  · rintro (h | h | h)
    · exact .inr (.inl h)
    · exact .inl h
    · exact .inr (.inr h)
  · rintro (h | h | h)
    · exact .inr (.inl h)
    · exact .inl h
    · exact .inr (.inr h)
end

theorem nodesOk_of {next : Int} : ∀ {l : List NodeR} {p : Option Int}, rises NodeR.ino l = true → (∀ x ∈ l, nodeOk x = true ∧ x.ino < next) → (∀ q x, p = some q → x ∈ l → q < x.ino) → nodesOk next p l = true
  | [], p, _, _, _ => rfl
  | x :: l, p, hr, ha, hp => by
    obtain ⟨h1, h2⟩ := rises_tail NodeR.ino hr
    obtain ⟨a1, a2⟩ := ha x (by simp)
    simp only [nodesOk, Bool.and_eq_true, decide_eq_true_eq]
    refine ⟨⟨⟨a1, a2⟩, ?_⟩, nodesOk_of h1 (fun y hy => ha y (by simp [hy])) (fun q y e hy => by injection e with e; subst e; exact h2 y hy)⟩
    cases p with
    | none => rfl
    | some q => simpa using hp q x rfl (by simp)
structure RowsF (f : FSR) : Prop where
  rise : rises NodeR.ino f.l = true
  ok : ∀ n ∈ f.l, nodeOk n = true
  lt : ∀ n ∈ f.l, n.ino < f.next
  len : f.l.length ≤ 256
  next : 1 ≤ f.next
theorem rows_iff (f : FSR) : rowsOk f = true ↔ RowsF f := by
  constructor
  · intro h
    simp only [rowsOk, Bool.and_eq_true, decide_eq_true_eq] at h
    obtain ⟨h1, h2⟩ := nodesOk_rises h.1.1
    exact ⟨h1, fun n hn => (h2 n hn).1, fun n hn => (h2 n hn).2, h.1.2, h.2⟩
  · intro h
    simp only [rowsOk, Bool.and_eq_true, decide_eq_true_eq]
    exact ⟨⟨nodesOk_of h.rise (fun n hn => ⟨h.ok n hn, h.lt n hn⟩) (fun q x e => by cases e), h.len⟩, h.next⟩
theorem findB_iff {l : List NodeR} (h : rises NodeR.ino l = true) (k : Int) (n : NodeR) : findB l k = (n, true) ↔ n ∈ l ∧ n.ino = k := by
  constructor
  · intro e
    have h2 : (findB l k).2 = true := by rw [e]
    have h1 : (findB l k).1 = n := by rw [e]
    exact ⟨h1 ▸ (findB_true h2).1, h1 ▸ (findB_true h2).2⟩
  · rintro ⟨hn, rfl⟩; exact findB_of h hn
theorem findB_cases (l : List NodeR) (k : Int) : (∃ n ∈ l, n.ino = k ∧ findB l k = (n, true)) ∨ findB l k = (.zero, false) := by
  cases hf : (findB l k).2 with
  | true => exact .inl ⟨_, (findB_true hf).1, (findB_true hf).2, Prod.ext rfl hf⟩
  | false => exact .inr (Prod.ext (findB_false hf) hf)
/-- Two rows in which the same is of a number find the same. -/
theorem findB_same {l l' : List NodeR} (h : rises NodeR.ino l = true) (h' : rises NodeR.ino l' = true) {k : Int} (hm : ∀ n, n.ino = k → (n ∈ l ↔ n ∈ l')) : findB l k = findB l' k := by
  rcases findB_cases l k with ⟨n, hn, hk, e⟩ | e
  · rw [e]; exact ((findB_iff h' k n).2 ⟨(hm n hk).1 hn, hk⟩).symm
  · rcases findB_cases l' k with ⟨n, hn, hk, e'⟩ | e'
    · have := (findB_iff h k n).2 ⟨(hm n hk).2 hn, hk⟩
      rw [this] at e; cases e
    · rw [e, e']

theorem out_mem (f : FSR) (k : Int) (n : NodeR) : n ∈ (outF f k).l ↔ n ∈ f.l ∧ n.ino ≠ k := by simp [outF, outS]
theorem RowsF.out {f : FSR} (h : RowsF f) (k : Int) : RowsF (outF f k) :=
  ⟨rises_filter _ h.rise _, fun n hn => h.ok n ((out_mem f k n).1 hn).1, fun n hn => h.lt n ((out_mem f k n).1 hn).1, Nat.le_trans (List.length_filter_le _ _) h.len, h.next⟩
theorem find_out {f : FSR} (h : rises NodeR.ino f.l = true) (k q : Int) : findB (outF f k).l q = if q = k then (.zero, false) else findB f.l q := by
  split
  · rename_i e; subst e
    exact findB_none fun n hn => ((out_mem f q n).1 hn).2
  · rename_i e
    exact (findB_same (l' := (outF f k).l) h (rises_filter _ h _) fun n hn => by rw [out_mem]; exact ⟨fun hm => ⟨hm, by rw [hn]; exact e⟩, fun hm => hm.1⟩).symm
theorem out_none {f : FSR} {k : Int} (h : (findB f.l k).2 = false) (hr : rises NodeR.ino f.l = true) : outF f k = f := by
  have hn : ∀ n ∈ f.l, n.ino ≠ k := fun n hn e => by
    have := findB_of hr hn
    rw [e] at this; rw [this] at h; cases h
  have : outS NodeR.ino f.l k = f.l := List.filter_eq_self.2 fun n h => by simpa using hn n h
  cases f
  simp only [outF] at *
  rw [this]
theorem filter_one {α : Type} {key : α → Int} {k : Int} : ∀ {l : List α}, rises key l = true → (∃ n ∈ l, key n = k) → (l.filter fun x => !decide (key x = k)).length + 1 = l.length
  | [], _, ⟨n, hn, _⟩ => by cases hn
  | x :: l, h, ⟨n, hn, hk⟩ => by
    obtain ⟨h1, h2⟩ := rises_tail key h
    by_cases hx : key x = k
    · have : l.filter (fun x => !decide (key x = k)) = l := List.filter_eq_self.2 fun y hy => by
        have := h2 y hy
        simp; omega
      simp [hx, this]
    · have hn' : n ∈ l := by
        rcases List.mem_cons.1 hn with rfl | hn
        · exact absurd hk hx
        · exact hn
      have := filter_one h1 ⟨n, hn', hk⟩
      simp [hx]; omega
theorem out_length {f : FSR} {k : Int} (h : (findB f.l k).2 = true) (hr : rises NodeR.ino f.l = true) : (outF f k).l.length + 1 = f.l.length :=
  filter_one hr ⟨_, (findB_true h).1, (findB_true h).2⟩

theorem put_spec {f : FSR} (h : rises NodeR.ino f.l = true) (n : NodeR) : rises NodeR.ino (putB f n).l = true ∧ (∀ x, x ∈ (putB f n).l ↔ x = n ∨ (x ∈ f.l ∧ x.ino ≠ n.ino)) ∧ (putB f n).l.length ≤ f.l.length + 1 := by
  unfold putB
  split
  · rename_i hc
    have e : inoAt f.l (plc f.l n.ino) = f.l[plc f.l n.ino].ino := by simp [inoAt, List.getD_eq_getElem?_getD, hc.1]
    obtain ⟨h1, h2⟩ := rises_set NodeR.ino h hc.1 (x := n) (by rw [← e]; exact hc.2.symm)
    exact ⟨h1, h2, by simp⟩
  · rename_i hc
    have hne : ∀ y ∈ f.l, y.ino ≠ n.ino := fun y hy e => by
      have := findB_of h hy
      rw [e] at this
      unfold findB at this
      rw [if_neg hc] at this
      cases this
    have hp := plc_place h n.ino
    refine ⟨?_, fun x => ?_, by simp⟩
    · show rises NodeR.ino (insL f.l (plc f.l n.ino) n) = true
      rw [hp]; exact rises_ins NodeR.ino h n hne
    · show x ∈ insL f.l (plc f.l n.ino) n ↔ _
      rw [insL_mem]
      exact ⟨fun hx => hx.imp id fun hx => ⟨hx, hne x hx⟩, fun hx => hx.imp id fun hx => hx.1⟩
theorem RowsF.put {f : FSR} (h : RowsF f) {n : NodeR} (hn : nodeOk n = true) (hl : (putB f n).l.length ≤ 256) : RowsF (putB f n) := by
  obtain ⟨h1, h2, h3⟩ := put_spec h.rise n
  have hx : (putB f n).next = max f.next (n.ino + 1) := rfl
  refine ⟨h1, fun x hx => ?_, fun x hx' => ?_, hl, ?_⟩
  · rcases (h2 x).1 hx with rfl | hx
    · exact hn
    · exact h.ok x hx.1
  · rw [hx]
    rcases (h2 x).1 hx' with rfl | hx'
    · omega
    · have := h.lt x hx'.1; omega
  · rw [hx]; have := h.next; omega
theorem find_put {f : FSR} (h : rises NodeR.ino f.l = true) (n : NodeR) (q : Int) : findB (putB f n).l q = if q = n.ino then (n, true) else findB f.l q := by
  obtain ⟨h1, h2, _⟩ := put_spec h n
  split
  · rename_i e; subst e
    exact findB_of h1 ((h2 n).2 (.inl rfl))
  · rename_i e
    exact (findB_same h h1 fun x hx => by
      rw [h2]
      refine ⟨fun hm => .inr ⟨hm, by rw [hx]; exact e⟩, fun hm => ?_⟩
      rcases hm with rfl | hm
      · exact absurd hx.symm e
      · exact hm.1).symm
end Go.Cx

set_option linter.unusedVariables false
set_option linter.unusedSimpArgs false
namespace Go.Cx

abbrev Tkn := List NodeR × List UInt8 × Int
def takeNs : Nat → List UInt8 → Tkn
  | 0, s => ([], s, 0)
  | m + 1, s => if (takeN s).2.2 ≠ 0 then ([], [], (takeN s).2.2) else if (takeNs m (takeN s).2.1).2.2 ≠ 0 then ([], [], (takeNs m (takeN s).2.1).2.2) else ((takeN s).1 :: (takeNs m (takeN s).2.1).1, (takeNs m (takeN s).2.1).2.1, 0)
def joinR (acc : List NodeR) (x : Tkn) : Tkn := if x.2.2 ≠ 0 then ([], [], x.2.2) else (acc ++ x.1, x.2.1, 0)
theorem joinR_nil (m : Nat) (s : List UInt8) : joinR [] (takeNs m s) = takeNs m s := by
  cases m with
  | zero => simp [joinR, takeNs]
  | succ m =>
    simp only [takeNs]
    split
    · rename_i h; simp only [joinR]; rw [if_pos h]
    · split
      · rename_i h; simp only [joinR]; rw [if_pos h]
      · simp [joinR]
theorem joinR_bad {acc : List NodeR} {m : Nat} {s : List UInt8} (h : (takeN s).2.2 ≠ 0) : joinR acc (takeNs (m + 1) s) = ([], [], (takeN s).2.2) := by
  simp only [takeNs]
  rw [if_pos h]
  simp only [joinR]
  rw [if_pos h]
theorem joinR_step {acc : List NodeR} {m : Nat} {s : List UInt8} (h : (takeN s).2.2 = 0) : joinR acc (takeNs (m + 1) s) = joinR (acc ++ [(takeN s).1]) (takeNs m (takeN s).2.1) := by
  simp only [takeNs]
  rw [if_neg (by simp [h])]
  split
  · rename_i h2; simp only [joinR]; rw [if_pos h2, if_pos h2]
  · rename_i h2
    simp only [joinR]
    rw [if_neg (by simp), if_neg h2]; simp
def takeF (s : List UInt8) : FSR × Int :=
  if (takeS s).2.2 ≠ 0 then (.zero, (takeS s).2.2) else
  if (takeS (takeS s).2.1).2.2 ≠ 0 then (.zero, (takeS (takeS s).2.1).2.2) else
  if 256 < (takeS (takeS s).2.1).1 then (.zero, 5) else
  if (takeNs (takeS (takeS s).2.1).1 (takeS (takeS s).2.1).2.1).2.2 ≠ 0 then (.zero, (takeNs (takeS (takeS s).2.1).1 (takeS (takeS s).2.1).2.1).2.2) else
  if (takeNs (takeS (takeS s).2.1).1 (takeS (takeS s).2.1).2.1).2.1 = [] ∧ rowsOk ⟨(takeNs (takeS (takeS s).2.1).1 (takeS (takeS s).2.1).2.1).1, unfoldS (takeS s).1⟩ = true then (⟨(takeNs (takeS (takeS s).2.1).1 (takeS (takeS s).2.1).2.1).1, unfoldS (takeS s).1⟩, 0) else (.zero, 3)
end Go.Cx
