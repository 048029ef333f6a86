/- Names and rows of entries, in plain Lean. -/
import Derived.Test.YtjelapkglkcoiaaOctS
import Derived.Lib.Bytealg
set_option linter.unusedVariables false
set_option linter.unusedSimpArgs false
namespace Go.Cx

/-- A name that may be. -/
def nameOk (s : ByteArray) : Bool := decide (1 ≤ s.size) && decide (s.size ≤ 32) && !decide (s = T [46]) && !decide (s = T [46, 46]) && !s.data.toList.contains 47 && !s.data.toList.contains 0
def checkS (s : ByteArray) : Int := if nameOk s then 0 else 10
@[simp] theorem checkS_eq (s : ByteArray) : (checkS s = 0) = (nameOk s = true) := by
  unfold checkS; cases nameOk s <;> simp
/-- The entries rise, and are right, one behind the other. -/
def entsOk : Option ByteArray → List EntryR → Bool
  | _, [] => true
  | p, x :: l => nameOk x.name && decide (1 ≤ x.ino) && (p.map fun q => strLt q x.name).getD true && entsOk (some x.name) l
def prevAt (l : List EntryR) (i : Nat) : Option ByteArray := if i = 0 then none else (l[i - 1]?).map (·.name)
def rowOk (l : List EntryR) : Bool := decide (l.length ≤ 256) && entsOk none l
theorem entsOk_at (l : List EntryR) (i : Nat) (h : i < l.length) : entsOk (prevAt l i) (l.drop i) = (nameOk l[i].name && decide (1 ≤ l[i].ino) && ((prevAt l i).map fun q => strLt q l[i].name).getD true && entsOk (prevAt l (i + 1)) (l.drop (i + 1))) := by
  have e : prevAt l (i + 1) = some l[i].name := by simp [prevAt, h]
  rw [List.drop_eq_getElem_cons h, entsOk, e]
theorem entsOk_end (l : List EntryR) (i : Nat) (h : l.length ≤ i) : entsOk (prevAt l i) (l.drop i) = true := by
  rw [List.drop_eq_nil_of_le h, entsOk]

theorem indexByte_in (l : List UInt8) (c : UInt8) : (0 ≤ Lib.indexByte l c) = (l.contains c = true) := by
  apply propext
  induction l with
  | nil => simp [Lib.indexByte]
  | cons b l ih =>
    have h := Lib.indexByte_ge l c
    unfold Lib.indexByte
    rw [List.contains_cons]
    by_cases hb : b = c
    · subst hb; simp
    · have hb' : (b == c) = false := by simpa using hb
      have hc' : (c == b) = false := by simpa using fun e : c = b => hb e.symm
      rw [hb', hc', Bool.false_or, ← ih]
      simp only [Bool.false_eq_true, if_false]
      by_cases h1 : Lib.indexByte l c = -1
      · rw [h1]; decide
      · have : (Lib.indexByte l c == -1) = false := by simpa using h1
        rw [this]
        simp only [Bool.false_eq_true, if_false]
        omega
theorem contains_at (l : List UInt8) (c : UInt8) : l.contains c = true ↔ ∃ i, ∃ h : i < l.length, l[i] = c := by
  simp [List.contains_iff_mem, List.mem_iff_getElem]
theorem name_yes {s : ByteArray} (h : nameOk s = true) : (1 ≤ s.size ∧ s.size ≤ 32) ∧ ¬ s = T [46] ∧ ¬ s = T [46, 46] ∧ ¬ s = .empty ∧ s.data.toList.contains 47 = false ∧ s.data.toList.contains 0 = false := by
  simp only [nameOk, Bool.and_eq_true, decide_eq_true_eq, Bool.not_eq_true', decide_eq_false_iff_not] at h
  obtain ⟨⟨⟨⟨⟨h1, h2⟩, h3⟩, h4⟩, h5⟩, h6⟩ := h
  refine ⟨⟨h1, h2⟩, h3, h4, ?_, h5, h6⟩
  rintro rfl
  simp at h1
theorem name_no {s : ByteArray} (h : nameOk s = false) : s = .empty ∨ 32 < s.size ∨ s = T [46] ∨ s = T [46, 46] ∨ s.data.toList.contains 47 = true ∨ s.data.toList.contains 0 = true := by
  by_cases h0 : s.size = 0
  · left; exact ByteArray.ext (Array.eq_empty_of_size_eq_zero h0)
  right
  by_cases h1 : 32 < s.size
  · exact .inl h1
  right
  by_cases h2 : s = T [46]
  · exact .inl h2
  right
  by_cases h3 : s = T [46, 46]
  · exact .inl h3
  right
  by_cases h4 : s.data.toList.contains 47 = true
  · exact .inl h4
  right
  false_or_by_contra
  rename_i h5
  have : nameOk s = true := by
    have h4' : s.data.toList.contains 47 = false := by cases h : s.data.toList.contains 47 <;> simp_all
    have h5' : s.data.toList.contains 0 = false := by cases h : s.data.toList.contains 0 <;> simp_all
    simp only [nameOk, h4', h5', decide_eq_true (show 1 ≤ s.size by omega), decide_eq_true (show s.size ≤ 32 by omega), decide_eq_false h2, decide_eq_false h3]
    rfl
  rw [this] at h
  cases h
theorem byteAt_get (s : ByteArray) (i : Nat) (h : i < s.size) : byteAt s i = (s.data.toList[i]'(by simpa using h)).toNat := by
  have hl : i < s.data.toList.length := by simpa using h
  unfold byteAt
  rw [List.getD_eq_getElem?_getD, List.getElem?_eq_getElem hl]; rfl
theorem lt_step {p : Nat → Prop} {i : Nat} (h : ∀ j, j < i → p j) (hi : p i) : ∀ j, j < i + 1 → p j := by
  intro j hj
  rcases Nat.lt_or_ge j i with h1 | h1
  · exact h j h1
  · have : j = i := by omega
    subst this; exact hi
theorem contains_byte (s : ByteArray) (c : UInt8) : s.data.toList.contains c = true ↔ ∃ i, i < s.size ∧ byteAt s i = c.toNat := by
  rw [contains_at]
  constructor
  · rintro ⟨i, h, e⟩
    have h' : i < s.size := by simpa using h
    exact ⟨i, h', by rw [byteAt_get s i h', e]⟩
  · rintro ⟨i, h, e⟩
    rw [byteAt_get s i h] at e
    exact ⟨i, by simpa using h, UInt8.toNat_inj.1 e⟩
end Go.Cx
