import Derived.Test.YtdnfnddlciafmaaGreatXBe
import Derived.Lib.Bytealg
set_option linter.unusedVariables false
set_option linter.unusedSimpArgs false
namespace Go.Cx
def hi (c : UInt8) : Bool := decide (128 ≤ c.toNat)
end Go.Cx
set_option linter.unusedVariables false
set_option linter.unusedSimpArgs false
namespace Go.Cx
def nameOk (s : ByteArray) : Bool := decide (1 ≤ s.size) && decide (s.size ≤ 32) && !decide (s = T [46]) && !decide (s = T [46, 46]) && !s.data.toList.contains 47 && !s.data.toList.contains 0
def checkS (s : ByteArray) : Int := if nameOk s then 0 else 10
@[simp] theorem checkS_eq (s : ByteArray) : (checkS s = 0) = (nameOk s = true) := by
  unfold checkS; cases nameOk s <;> simp
def entsOk : Option ByteArray → List EntryR → Bool
  | _, [] => true
  | p, x :: l => nameOk x.name && decide (1 ≤ x.ino) && (p.map fun q => strLt q x.name).getD true && entsOk (some x.name) l
def prevAt (l : List EntryR) (i : Nat) : Option ByteArray := if i = 0 then none else (l[i - 1]?).map (·.name)
def rowOk (l : List EntryR) : Bool := decide (l.length ≤ 256) && entsOk none l
theorem entsOk_at (l : List EntryR) (i : Nat) (h : i < l.length) : entsOk (prevAt l i) (l.drop i) = (nameOk l[i].name && decide (1 ≤ l[i].ino) && ((prevAt l i).map fun q => strLt q l[i].name).getD true && entsOk (prevAt l (i + 1)) (l.drop (i + 1))) := by
  have e : prevAt l (i + 1) = some l[i].name := by simp [prevAt, h]
  rw [List.drop_eq_getElem_cons h, entsOk, e]
theorem entsOk_end (l : List EntryR) (i : Nat) (h : l.length ≤ i) : entsOk (prevAt l i) (l.drop i) = true := by
  rw [List.drop_eq_nil_of_le h, entsOk]
theorem indexByte_in (l : List UInt8) (c : UInt8) : (0 ≤ Lib.indexByte l c) = (l.contains c = true) := by
  apply propext
  induction l with
  | nil => simp [Lib.indexByte]
  | cons b l ih =>
    have h := Lib.indexByte_ge l c
    unfold Lib.indexByte
    rw [List.contains_cons]
    by_cases hb : b = c
    · subst hb; simp
    · have hb' : (b == c) = false := by simpa using hb
      have hc' : (c == b) = false := by simpa using fun e : c = b => hb e.symm
      rw [hb', hc', Bool.false_or, ← ih]
      simp only [Bool.false_eq_true, if_false]
      by_cases h1 : Lib.indexByte l c = -1
      · rw [h1]; decide
      · have : (Lib.indexByte l c == -1) = false := by simpa using h1
        rw [this]
        simp only [Bool.false_eq_true, if_false]
        omega
theorem contains_at (l : List UInt8) (c : UInt8) : l.contains c = true ↔ ∃ i, ∃ h : i < l.length, l[i] = c := by
  simp [List.contains_iff_mem, List.mem_iff_getElem]
theorem name_yes {s : ByteArray} (h : nameOk s = true) : (1 ≤ s.size ∧ s.size ≤ 32) ∧ ¬ s = T [46] ∧ ¬ s = T [46, 46] ∧ ¬ s = .empty ∧ s.data.toList.contains 47 = false ∧ s.data.toList.contains 0 = false := by
  simp only [nameOk, Bool.and_eq_true, decide_eq_true_eq, Bool.not_eq_true', decide_eq_false_iff_not] at h
  obtain ⟨⟨⟨⟨⟨h1, h2⟩, h3⟩, h4⟩, h5⟩, h6⟩ := h
  refine ⟨⟨h1, h2⟩, h3, h4, ?_, h5, h6⟩
  rintro rfl
  simp at h1
theorem name_no {s : ByteArray} (h : nameOk s = false) : s = .empty ∨ 32 < s.size ∨ s = T [46] ∨ s = T [46, 46] ∨ s.data.toList.contains 47 = true ∨ s.data.toList.contains 0 = true := by
  by_cases h0 : s.size = 0
  · left; exact ByteArray.ext (Array.eq_empty_of_size_eq_zero h0)
  right
  by_cases h1 : 32 < s.size
  · exact .inl h1
  right
  by_cases h2 : s = T [46]
  · exact .inl h2
  right
  by_cases h3 : s = T [46, 46]
  · exact .inl h3
  right
  by_cases h4 : s.data.toList.contains 47 = true
  · exact .inl h4
  right
  false_or_by_contra
  rename_i h5
  have : nameOk s = true := by
    have h4' : s.data.toList.contains 47 = false := by cases h : s.data.toList.contains 47 <;> simp_all
    have h5' : s.data.toList.contains 0 = false := by cases h : s.data.toList.contains 0 <;> simp_all
    simp only [nameOk, h4', h5', decide_eq_true (show 1 ≤ s.size by omega), decide_eq_true (show s.size ≤ 32 by omega), decide_eq_false h2, decide_eq_false h3]
    rfl
  rw [this] at h
  cases h
theorem byteAt_get (s : ByteArray) (i : Nat) (h : i < s.size) : byteAt s i = (s.data.toList[i]'(by simpa using h)).toNat := by
  have hl : i < s.data.toList.length := by simpa using h
  unfold byteAt
  rw [List.getD_eq_getElem?_getD, List.getElem?_eq_getElem hl]; rfl
theorem lt_step {p : Nat → Prop} {i : Nat} (h : ∀ j, j < i → p j) (hi : p i) : ∀ j, j < i + 1 → p j := by
  intro j hj
  rcases Nat.lt_or_ge j i with h1 | h1
  · exact h j h1
  · have : j = i := by omega
    subst this; exact hi
theorem contains_byte (s : ByteArray) (c : UInt8) : s.data.toList.contains c = true ↔ ∃ i, i < s.size ∧ byteAt s i = c.toNat := by
  rw [contains_at]
  constructor
  · rintro ⟨i, h, e⟩
    have h' : i < s.size := by simpa using h
    exact ⟨i, h', by rw [byteAt_get s i h', e]⟩
  · rintro ⟨i, h, e⟩
    rw [byteAt_get s i h] at e
    exact ⟨i, by simpa using h, UInt8.toNat_inj.1 e⟩
end Go.Cx
set_option linter.unusedVariables false
set_option linter.unusedSimpArgs false
namespace Go.Cx
abbrev bs (b : ByteArray) : List UInt8 := b.data.toList
@[simp] theorem T_bs (b : ByteArray) : T (bs b) = b := by cases b; simp [T]
@[simp] theorem T_toList (b : ByteArray) : T b.data.toList = b := T_bs b
@[simp] theorem bs_T (l : List UInt8) : bs (T l) = l := by simp [T, bs]
@[simp] theorem len_bs (b : ByteArray) : (bs b).length = b.size := by simp [bs]
def EntryR.vals (c : EntryR) : List Value := [.string c.name, .int .i64 c.ino]
abbrev entK : List TypeDesc := [.string, .int .i64]
theorem EntryR.kinds (c : EntryR) : Kinds entK c.vals := .cons rfl (.cons rfl .nil)
theorem EntryR.vals_eq (a b : EntryR) : a.vals = b.vals ↔ a = b := by
  cases a; cases b; simp [EntryR.vals]
section
variable {P : Program} {t : TypeId} (ox oy : Operand)
@[simp] theorem ent_neq (ht : tflat P t = some entK) (hg : tagg P t = some true) (a b : EntryR) : abin P .neq t ox oy (.agg a.enc) (.agg b.enc) = some (.val (.bool (!decide (a = b)))) := by
  have := (bin_agg ht hg a.kinds b.kinds ox oy).2
  have e : decide (a.vals = b.vals) = decide (a = b) := by rw [decide_eq_decide]; exact EntryR.vals_eq a b
  rw [e] at this; exact this
end
abbrev encN (n : NodeR) : AV := .agg n.enc
def nodeOk (n : NodeR) : Bool := decide (1 ≤ n.ino) && decide (1 ≤ n.kind) && decide (n.kind ≤ 3) && decide (0 ≤ n.links) && decide (n.links ≤ 64) && decide (n.text.size ≤ 4096) && rowOk n.l && (decide (n.kind ≠ 2) || decide (n.text = T [])) && (decide (n.kind = 2) || decide (n.l.length = 0))
def sizeS (n : NodeR) : Int := if n.kind = 2 then n.l.length else n.text.size
structure NOk (n : NodeR) : Prop where
  ino : 1 ≤ n.ino
  k1 : 1 ≤ n.kind
  k3 : n.kind ≤ 3
  l0 : 0 ≤ n.links
  l64 : n.links ≤ 64
  size : n.text.size ≤ 4096
  row : rowOk n.l = true
  dir : n.kind = 2 → n.text = T []
  els : n.kind ≠ 2 → n.l.length = 0
theorem nodeOk_iff (n : NodeR) : nodeOk n = true ↔ NOk n := by
  simp only [nodeOk, Bool.and_eq_true, Bool.or_eq_true, decide_eq_true_eq]
  constructor
  · rintro ⟨⟨⟨⟨⟨⟨⟨⟨h1, h2⟩, h3⟩, h4⟩, h5⟩, h6⟩, h7⟩, h8⟩, h9⟩
    exact ⟨h1, h2, h3, h4, h5, h6, h7, fun h => h8.resolve_left (fun h' => h' h), fun h => h9.resolve_left h⟩
  · rintro ⟨h1, h2, h3, h4, h5, h6, h7, h8, h9⟩
    refine ⟨⟨⟨⟨⟨⟨⟨⟨h1, h2⟩, h3⟩, h4⟩, h5⟩, h6⟩, h7⟩, ?_⟩, ?_⟩
    · by_cases h : n.kind = 2
      · exact .inr (h8 h)
      · exact .inl h
    · by_cases h : n.kind = 2
      · exact .inl h
      · exact .inr (h9 h)
end Go.Cx
set_option linter.unusedVariables false
set_option linter.unusedSimpArgs false
namespace Go.Cx
end Go.Cx
set_option linter.unusedVariables false
set_option linter.unusedSimpArgs false
namespace Go.Cx
def bsGo (f : Nat → Int) (key : Int) (i j : Nat) : Nat :=
  if h : i < j then if f ((i + j) / 2) < key then bsGo f key ((i + j) / 2 + 1) j else bsGo f key i ((i + j) / 2) else i
termination_by j - i
decreasing_by all_goals omega
theorem bsGo_lt {f : Nat → Int} {key : Int} {i j : Nat} (h : i < j) : bsGo f key i j = if f ((i + j) / 2) < key then bsGo f key ((i + j) / 2 + 1) j else bsGo f key i ((i + j) / 2) := by
  rw [bsGo, dif_pos h]
theorem bsGo_ge {f : Nat → Int} {key : Int} {i j : Nat} (h : ¬ i < j) : bsGo f key i j = i := by rw [bsGo, dif_neg h]
theorem bsGo_spec {f : Nat → Int} {key : Int} {n : Nat} (hf : ∀ a b, a < b → b < n → f a ≤ f b) : ∀ (d i j : Nat), j - i = d → i ≤ j → j ≤ n → (∀ m, m < i → f m < key) → (∀ m, j ≤ m → m < n → key ≤ f m) →
    i ≤ bsGo f key i j ∧ bsGo f key i j ≤ j ∧ (∀ m, m < bsGo f key i j → f m < key) ∧ (∀ m, bsGo f key i j ≤ m → m < n → key ≤ f m) := by
  intro d
  induction d using Nat.strongRecOn with
  | _ d ih =>
    intro i j hd hij hjn h1 h2
    by_cases h : i < j
    · rw [bsGo_lt h]
      have hm1 : i ≤ (i + j) / 2 := by omega
      have hm2 : (i + j) / 2 < j := by omega
      split
      · rename_i hc
        obtain ⟨q1, q2, q3, q4⟩ := ih (j - ((i + j) / 2 + 1)) (by omega) ((i + j) / 2 + 1) j rfl (by omega) hjn (fun m hm => by
          rcases Nat.lt_or_ge m ((i + j) / 2) with hh | hh
          · exact Int.lt_of_le_of_lt (hf m _ hh (by omega)) hc
          · have : m = (i + j) / 2 := by omega
            rw [this]; exact hc) h2
        exact ⟨by omega, q2, q3, q4⟩
      · rename_i hc
        obtain ⟨q1, q2, q3, q4⟩ := ih ((i + j) / 2 - i) (by omega) i ((i + j) / 2) rfl hm1 (by omega) h1 (fun m hm hmn => by
          rcases Nat.lt_or_ge ((i + j) / 2) m with hh | hh
          · exact Int.le_trans (by omega) (hf _ m hh hmn)
          · have : m = (i + j) / 2 := by omega
            rw [this]; omega)
        exact ⟨q1, by omega, q3, q4⟩
    · rw [bsGo_ge h]
      have : i = j := by omega
      subst this
      exact ⟨Nat.le_refl _, Nat.le_refl _, h1, h2⟩
section
variable {α : Type} (key : α → Int)
def rises : List α → Bool
  | [] => true
  | [_] => true
  | a :: b :: l => decide (key a < key b) && rises (b :: l)
def placeS (l : List α) (k : Int) : Nat := (l.takeWhile fun x => decide (key x < k)).length
def putS (l : List α) (x : α) : List α := (l.takeWhile fun y => decide (key y < key x)) ++ x :: (l.dropWhile fun y => decide (key y ≤ key x))
def outS (l : List α) (k : Int) : List α := l.filter fun x => !decide (key x = k)
theorem rises_tail {a : α} {l : List α} (h : rises key (a :: l) = true) : rises key l = true ∧ ∀ x ∈ l, key a < key x := by
  induction l generalizing a with
  | nil => exact ⟨rfl, by simp⟩
  | cons b l ih =>
    simp only [rises, Bool.and_eq_true, decide_eq_true_eq] at h
    refine ⟨h.2, fun x hx => ?_⟩
    rcases List.mem_cons.1 hx with rfl | hx
    · exact h.1
    · have := (ih h.2).2 x hx; omega
theorem rises_get {l : List α} (h : rises key l = true) : ∀ (i j : Nat) (hi : i < l.length) (hj : j < l.length), i < j → key l[i] < key l[j] := by
  induction l with
  | nil => intro i j hi; simp at hi
  | cons a l ih =>
    intro i j hi hj hij
    obtain ⟨h1, h2⟩ := rises_tail key h
    cases j with
    | zero => omega
    | succ j =>
      cases i with
      | zero => simpa using h2 _ (List.getElem_mem (by simpa using hj))
      | succ i => simpa using ih h1 i j (by simpa using hi) (by simpa using hj) (by omega)
theorem place_not (p : α → Bool) : ∀ (l : List α) (h : (l.takeWhile p).length < l.length), p (l[(l.takeWhile p).length]) = false
  | [], h => by simp at h
  | a :: l, h => by
    cases hp : p a with
    | false => simp [List.takeWhile_cons, hp]
    | true =>
      simp only [List.takeWhile_cons, hp, if_true, List.length_cons] at h ⊢
      simpa using place_not p l (by omega)
theorem placeS_le (l : List α) (k : Int) : placeS key l k ≤ l.length := (List.takeWhile_sublist _).length_le
theorem placeS_lt (l : List α) (k : Int) (i : Nat) (h : i < placeS key l k) (hi : i < l.length) : key l[i] < k := by
  have h2 : i < (l.takeWhile fun x => decide (key x < k)).length := h
  have := List.all_eq_true.1 (List.all_takeWhile (p := fun x => decide (key x < k)) (l := l)) _ (List.getElem_mem h2)
  rw [List.IsPrefix.getElem (List.takeWhile_prefix _) h2] at this
  simpa using this
theorem placeS_ge {l : List α} (hr : rises key l = true) (k : Int) (i : Nat) (h : placeS key l k ≤ i) (hi : i < l.length) : k ≤ key l[i] := by
  have hp : placeS key l k < l.length := by omega
  have h1 : k ≤ key l[placeS key l k] := by
    have := place_not (fun x => decide (key x < k)) l hp
    rw [decide_eq_false_iff_not] at this
    exact Int.not_lt.1 this
  rcases Nat.lt_or_ge (placeS key l k) i with h2 | h2
  · have := rises_get key hr _ i hp hi h2
    omega
  · have : i = placeS key l k := by omega
    subst this; exact h1
theorem bs_place {l : List α} (hr : rises key l = true) {f : Nat → Int} (hf : ∀ i (hi : i < l.length), f i = key l[i]) (k : Int) : bsGo f k 0 l.length = placeS key l k := by
  obtain ⟨_, q2, q3, q4⟩ := bsGo_spec (f := f) (key := k) (n := l.length) (fun a b hab hb => by
    rw [hf a (by omega), hf b hb]
    exact Int.le_of_lt (rises_get key hr a b (by omega) hb hab)) l.length 0 l.length (by omega) (by omega) (Nat.le_refl _) (by omega) (by omega)
  have hle := placeS_le key l k
  rcases Nat.lt_trichotomy (bsGo f k 0 l.length) (placeS key l k) with h | h | h
  · have h1 := placeS_lt key l k _ h (by omega)
    have h2 := q4 _ (Nat.le_refl _) (by omega)
    rw [hf _ (by omega)] at h2
    omega
  · exact h
  · have h1 := q3 _ h
    rw [hf _ (by omega)] at h1
    have h2 := placeS_ge key hr k _ (Nat.le_refl _) (by omega)
    omega
end
section
variable {α : Type}
def idxFrom (p : α → Bool) : Nat → List α → Int
  | _, [] => -1
  | i, x :: l => if p x then (i : Int) else idxFrom p (i + 1) l
def idxS (p : α → Bool) (l : List α) : Int := idxFrom p 0 l
theorem idxFrom_at {p : α → Bool} {l : List α} {i : Nat} (h : i < l.length) : idxFrom p i (l.drop i) = if p l[i] then (i : Int) else idxFrom p (i + 1) (l.drop (i + 1)) := by
  rw [List.drop_eq_getElem_cons h, idxFrom]
theorem idxFrom_end {p : α → Bool} {l : List α} {i : Nat} (h : ¬ i < l.length) : idxFrom p i (l.drop i) = -1 := by
  rw [List.drop_eq_nil_of_le (by omega), idxFrom]
theorem idxFrom_spec {p : α → Bool} : ∀ (l : List α) (i : Nat), (idxFrom p i l = -1 ∧ ∀ x ∈ l, p x = false) ∨ ∃ j, ∃ h : j < l.length, idxFrom p i l = ((i + j : Nat) : Int) ∧ p l[j] = true ∧ ∀ x ∈ l.take j, p x = false
  | [], i => .inl ⟨rfl, by simp⟩
  | x :: l, i => by
    by_cases hp : p x = true
    · exact .inr ⟨0, by simp, by simp [idxFrom, hp], by simpa using hp, by simp⟩
    · rw [Bool.not_eq_true] at hp
      rcases idxFrom_spec (p := p) l (i + 1) with ⟨h1, h2⟩ | ⟨j, h, h1, h2, h3⟩
      · exact .inl ⟨by simp [idxFrom, hp, h1], by simpa [hp] using h2⟩
      · exact .inr ⟨j + 1, by simpa using h, by rw [idxFrom, if_neg (by simp [hp]), h1]; congr 1; omega, by simpa using h2, by simpa [hp] using h3⟩
theorem idxS_none {p : α → Bool} {l : List α} (h : idxS p l = -1) : l.filter (fun x => !p x) = l ∧ ∀ x ∈ l, p x = false := by
  rcases idxFrom_spec (p := p) l 0 with ⟨_, h2⟩ | ⟨j, hj, h1, _⟩
  · exact ⟨List.filter_eq_self.2 fun x hx => by simp [h2 x hx], h2⟩
  · unfold idxS at h; rw [h1] at h; omega
theorem idxS_some {p : α → Bool} {l : List α} (h : ¬ idxS p l = -1) : ∃ j, ∃ hj : j < l.length, idxS p l = (j : Int) ∧ p l[j] = true ∧ l.take j = (l.take (j + 1)).filter (fun x => !p x) := by
  rcases idxFrom_spec (p := p) l 0 with ⟨h1, _⟩ | ⟨j, hj, h1, h2, h3⟩
  · exact absurd h1 h
  · refine ⟨j, hj, by unfold idxS; rw [h1]; congr 1; omega, h2, ?_⟩
    rw [List.take_succ_eq_append_getElem hj, List.filter_append, List.filter_eq_self.2 fun x hx => by simp [h3 x hx]]
    simp [h2]
structure DelAt (p : α → Bool) (l m : List α) (i j : Nat) : Prop where
  len : m.length = l.length
  lt : i < j
  le : j ≤ l.length
  front : m.take i = (l.take j).filter (fun x => !p x)
  back : m.drop j = l.drop j
theorem DelAt.get {p : α → Bool} {l m : List α} {i j : Nat} (h : DelAt p l m i j) (hj : j < l.length) : m[j]'(by rw [h.len]; exact hj) = l[j] := by
  have := congrArg (·[0]?) h.back
  simp only [List.getElem?_drop, Nat.add_zero] at this
  rw [List.getElem?_eq_getElem (by rw [h.len]; exact hj), List.getElem?_eq_getElem hj] at this
  injection this
theorem DelAt.skip {p : α → Bool} {l m : List α} {i j : Nat} (h : DelAt p l m i j) (hj : j < l.length) (hp : p l[j] = true) : DelAt p l m i (j + 1) := by
  refine ⟨h.len, by have := h.lt; omega, hj, ?_, ?_⟩
  · rw [h.front, List.take_succ_eq_append_getElem hj, List.filter_append]; simp [hp]
  · have := congrArg (List.drop 1) h.back
    simpa [List.drop_drop] using this
theorem DelAt.keep {p : α → Bool} {l m : List α} {i j : Nat} (h : DelAt p l m i j) (hj : j < l.length) (hp : p l[j] = false) : DelAt p l (m.set i l[j]) (i + 1) (j + 1) := by
  have hi := h.lt
  refine ⟨by simp [h.len], by omega, hj, ?_, ?_⟩
  · rw [List.take_succ_eq_append_getElem (by simp [h.len]; omega), List.take_set_of_le (Nat.le_refl _), h.front, List.take_succ_eq_append_getElem hj, List.filter_append]; simp [hp]
  · rw [List.drop_set_of_lt (by omega)]
    have := congrArg (List.drop 1) h.back
    simpa [List.drop_drop] using this
theorem DelAt.done {p : α → Bool} {l m : List α} {i j : Nat} (h : DelAt p l m i j) (hj : ¬ j < l.length) : m.take i = l.filter (fun x => !p x) ∧ i = (l.filter (fun x => !p x)).length ∧ i ≤ l.length := by
  have h1 := h.front
  have hl := h.le
  have hi := h.lt
  have h2 : l.take j = l := List.take_of_length_le (by omega)
  rw [h2] at h1
  refine ⟨h1, ?_, by omega⟩
  rw [← h1, List.length_take, h.len]; omega
theorem DelAt.start {p : α → Bool} {l : List α} {j : Nat} (hj : j < l.length) (hp : p l[j] = true) (ht : l.take j = (l.take (j + 1)).filter (fun x => !p x)) : DelAt p l l j (j + 1) := ⟨rfl, by omega, hj, ht, rfl⟩
end
end Go.Cx
