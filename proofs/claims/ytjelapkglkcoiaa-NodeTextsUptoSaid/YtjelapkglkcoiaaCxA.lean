/- Abstract values and heaps, and what it means that a world holds them. A text of mine; no program in sight. -/
import Derived.WalkKit
import Derived.Orders
set_option linter.unusedVariables false
namespace Go.Cx

/-- An abstract value: 'val': no address in it; 'sl': a slice whose elements nobody writes any more (its cells, one element behind the other); 'fp': a pointer to such cells; 'own', 'ptr', 'mp': into a block of one's own. -/
inductive AV where
  | val (v : Value)
  | any
  | agg (cs : List AV)
  | tup (vs : List AV)
  | sl (tight : Bool) (n : Nat) (cs : List AV)
  | fp (cs : List AV)
  | fn (f : FuncId) (cap : List AV)
  | fmap (ks vs : List AV)
  | own (id ver off n k : Nat)
  | ptr (id ver off : Nat)
  | mp (id : Nat)

/-- What stands behind an abstract number. -/
inductive Slot where
  | hole
  | dead
  | live (ver : Nat) (b : Option Nat) (sz : Nat)

/-- The value of one cell. -/
abbrev one : Value → Bool := Value.oneCell'

/-- A value without an address. -/
def plain : Value → Bool
  | .bool _ | .int _ _ | .float _ _ | .complex _ _ _ | .string _ | .pointer none | .map none | .nilFunc | .nilIface => true
  | _ => false

theorem one_of_plain {v : Value} (h : plain v = true) : one v = true := by
  cases v <;> simp_all [plain, one, Value.oneCell']

def refOk (κ : Nat → Slot) (id ver : Nat) (p : Option Nat → Nat → Prop) : Prop :=
  match κ id with
  | .hole => False
  | .dead => True
  | .live ver' b sz => ver ≤ ver' ∧ (ver = ver' → p b sz)

def ownAt (off n k : Nat) (A : Option Addr) (cap : Nat) : Option Nat → Nat → Prop
  | none, _ => off = 0 ∧ n = 0 ∧ cap = 0
  | some b, sz => (off + cap) * k = sz ∧ 0 < k ∧ (∃ a, A = some a ∧ (0 < cap → a = ⟨b, off * k, none⟩)) ∧ off + cap ≤ maxLen

def ptrAt (off : Nat) (a : Addr) : Option Nat → Nat → Prop
  | none, _ => False
  | some b, sz => a = ⟨b, off, none⟩

def mapAt (r : Nat) : Option Nat → Nat → Prop
  | none, _ => False
  | some b, _ => r = b

/-- The cells us stand at a, one behind the other. -/
def CellsAt (w : World) (a : Addr) (us : List Value) : Prop := ∀ j u, us[j]? = some u → w.cell? (a.add j) = some u

mutual
/-- What is told by an abstract value of a concrete one: Z: the blocks that nobody writes any more. -/
inductive R (Z : Nat → Prop) (w : World) (κ : Nat → Slot) : AV → Value → Prop
  | val {v : Value} : plain v = true → R Z w κ (.val v) v
  | any {v : Value} : R Z w κ .any v
  | agg {cs : List AV} {vs : List Value} : Rs Z w κ cs vs → R Z w κ (.agg cs) (.agg vs.toArray)
  | tup {cs : List AV} {vs : List Value} : Rs Z w κ cs vs → R Z w κ (.tup cs) (.tuple vs.toArray)
  | sl0 {t : Bool} {A : Option Addr} {cap : Nat} : (t = true → cap = 0) → cap ≤ maxLen → R Z w κ (.sl t 0 []) (.slice A 0 cap)
  | sl {t : Bool} {n : Nat} {cs : List AV} {a : Addr} {cap : Nat} {us : List Value} : 0 < n → n ≤ cap → (t = true → cap = n) → cap ≤ maxLen → Z a.block → CellsAt w a us → Rs Z w κ cs us →
      R Z w κ (.sl t n cs) (.slice (some a) n cap)
  | fp {cs : List AV} {a : Addr} {us : List Value} : Z a.block → CellsAt w a us → Rs Z w κ cs us → R Z w κ (.fp cs) (.pointer (some a))
  | fn {f : FuncId} {cs : List AV} {vs : List Value} : Rs Z w κ cs vs → R Z w κ (.fn f cs) (.func (.func f) #[] vs.toArray)
  | fmap {ks vs : List AV} {b clock : Nat} {es : Array MapEntry} {xs ys : List Value} : Z b → w.heap[b]? = some (.map es clock) → es.toList.map (·.key) = xs → es.toList.map (·.val) = ys →
      Rs Z w κ ks xs → Rs Z w κ vs ys → R Z w κ (.fmap ks vs) (.map (some b))
  | own {id ver off n k : Nat} {A : Option Addr} {cap : Nat} : n ≤ cap → cap ≤ maxLen → (0 < n → A ≠ none) → refOk κ id ver (ownAt off n k A cap) → R Z w κ (.own id ver off n k) (.slice A n cap)
  | ptr {id ver off : Nat} {a : Addr} : refOk κ id ver (ptrAt off a) → R Z w κ (.ptr id ver off) (.pointer (some a))
  | mp {id b : Nat} : refOk κ id 0 (mapAt b) → R Z w κ (.mp id) (.map (some b))
/-- The same of lists, one by one. -/
inductive Rs (Z : Nat → Prop) (w : World) (κ : Nat → Slot) : List AV → List Value → Prop
  | nil : Rs Z w κ [] []
  | cons {a : AV} {v : Value} {as : List AV} {vs : List Value} : R Z w κ a v → Rs Z w κ as vs → Rs Z w κ (a :: as) (v :: vs)
end

/-- How a slot may go on. -/
def Slot.step : Slot → Slot → Prop
  | .hole, .hole => True
  | .dead, .dead => True
  | .live _ _ _, .dead => True
  | .live v b s, .live v' b' s' => v < v' ∨ (v = v' ∧ b = b' ∧ s = s')
  | _, _ => False

theorem Slot.step_refl (s : Slot) : s.step s := by
  cases s <;> simp [Slot.step]

theorem Slot.step_trans {a b c : Slot} (h : a.step b) (k : b.step c) : a.step c := by
  cases a <;> cases b <;> cases c <;> simp_all [Slot.step]
  rename_i v1 b1 s1 v2 b2 s2 v3 b3 s3
  rcases h with h | ⟨rfl, rfl, rfl⟩
  · rcases k with k | ⟨rfl, rfl, rfl⟩
    · exact .inl (by omega)
    · exact .inl h
  · exact k

theorem refOk.step {κ κ' : Nat → Slot} {id ver : Nat} {p : Option Nat → Nat → Prop} (h : refOk κ id ver p) (hs : (κ id).step (κ' id)) : refOk κ' id ver p := by
  unfold refOk at *
  cases h1 : κ id <;> cases h2 : κ' id <;> simp_all [Slot.step]
  rename_i v1 b1 s1 v2 b2 s2
  rcases hs with hs | ⟨rfl, rfl, rfl⟩
  · exact ⟨by omega, fun e => by omega⟩
  · exact h

theorem CellsAt.mono {w w' : World} {a : Addr} {us : List Value} (h : CellsAt w a us) (hb : w'.heap[a.block]? = w.heap[a.block]?) : CellsAt w' a us := by
  intro j u hj
  rw [← h j u hj]
  have : (a.add j).block = a.block := by unfold Addr.add; split <;> rfl
  simp only [World.cell?, this, hb]

/-- A value without a reference to a block of one's own. -/
def noRef : AV → Bool
  | .val _ | .any => true
  | .agg cs => cs.attach.all fun ⟨c, _⟩ => noRef c
  | .tup cs => cs.attach.all fun ⟨c, _⟩ => noRef c
  | .sl _ _ cs => cs.attach.all fun ⟨c, _⟩ => noRef c
  | .fp cs => cs.attach.all fun ⟨c, _⟩ => noRef c
  | .fn _ cs => cs.attach.all fun ⟨c, _⟩ => noRef c
  | .fmap ks vs => (ks.attach.all fun ⟨c, _⟩ => noRef c) && (vs.attach.all fun ⟨c, _⟩ => noRef c)
  | .own .. | .ptr .. | .mp .. => false

/-- All that a value refers to has a number below L. -/
def refsLt (L : Nat) : AV → Bool
  | .val _ | .any => true
  | .agg cs => cs.attach.all fun ⟨c, _⟩ => refsLt L c
  | .tup cs => cs.attach.all fun ⟨c, _⟩ => refsLt L c
  | .sl _ _ cs => cs.attach.all fun ⟨c, _⟩ => refsLt L c
  | .fp cs => cs.attach.all fun ⟨c, _⟩ => refsLt L c
  | .fn _ cs => cs.attach.all fun ⟨c, _⟩ => refsLt L c
  | .fmap ks vs => (ks.attach.all fun ⟨c, _⟩ => refsLt L c) && (vs.attach.all fun ⟨c, _⟩ => refsLt L c)
  | .own id _ _ _ _ | .ptr id _ _ | .mp id => decide (id < L)

theorem all_attach {α : Type} (l : List α) (p : α → Bool) : (l.attach.all fun ⟨c, _⟩ => p c) = l.all p := by
  have : (l.attach.all fun x => p x.1) = (l.attach.map (·.1)).all p := by rw [List.all_map]; rfl
  rw [this, List.attach_map_subtype_val]

mutual
theorem R.imp {Z Z' : Nat → Prop} {w w' : World} {κ κ' : Nat → Slot} {a : AV} {v : Value} (h : R Z w κ a v) (hz : ∀ b, Z b → Z' b ∧ w'.heap[b]? = w.heap[b]?)
    (hk : ∀ id, κ id = .hole ∨ (κ id).step (κ' id)) : R Z' w' κ' a v := by
  cases h with
  | val h => exact .val h
  | any => exact .any
  | agg h => exact .agg (h.imp hz hk)
  | tup h => exact .tup (h.imp hz hk)
  | sl0 h h' => exact .sl0 h h'
  | sl h0 h1 h2 h3 h4 h5 h6 => exact .sl h0 h1 h2 h3 (hz _ h4).1 (h5.mono (hz _ h4).2) (h6.imp hz hk)
  | fp h4 h5 h6 => exact .fp (hz _ h4).1 (h5.mono (hz _ h4).2) (h6.imp hz hk)
  | fn h => exact .fn (h.imp hz hk)
  | fmap h1 h2 h3 h4 h5 h6 => exact .fmap (hz _ h1).1 ((hz _ h1).2.trans h2) h3 h4 (h5.imp hz hk) (h6.imp hz hk)
  | own h0 h1 hA h2 => exact .own h0 h1 hA (h2.step ((hk _).resolve_left fun e => by simp [refOk, e] at h2))
  | ptr h2 => exact .ptr (h2.step ((hk _).resolve_left fun e => by simp [refOk, e] at h2))
  | mp h2 => exact .mp (h2.step ((hk _).resolve_left fun e => by simp [refOk, e] at h2))
theorem Rs.imp {Z Z' : Nat → Prop} {w w' : World} {κ κ' : Nat → Slot} {as : List AV} {vs : List Value} (h : Rs Z w κ as vs) (hz : ∀ b, Z b → Z' b ∧ w'.heap[b]? = w.heap[b]?)
    (hk : ∀ id, κ id = .hole ∨ (κ id).step (κ' id)) : Rs Z' w' κ' as vs := by
  cases h with
  | nil => exact .nil
  | cons h1 h2 => exact .cons (h1.imp hz hk) (h2.imp hz hk)
end

mutual
/-- Of a value that refers to numbers below L alone, what the slots from L on are doesn't matter. -/
theorem R.lt {Z : Nat → Prop} {w : World} {κ κ' : Nat → Slot} {L : Nat} {a : AV} {v : Value} (h : R Z w κ a v) (hl : refsLt L a = true) (hk : ∀ id, id < L → κ' id = κ id) : R Z w κ' a v := by
  cases h with
  | val h => exact .val h
  | any => exact .any
  | agg h => exact .agg (h.lt (by simpa [refsLt] using hl) hk)
  | tup h => exact .tup (h.lt (by simpa [refsLt] using hl) hk)
  | sl0 h h' => exact .sl0 h h'
  | sl h0 h1 h2 h3 h4 h5 h6 => exact .sl h0 h1 h2 h3 h4 h5 (h6.lt (by simpa [refsLt] using hl) hk)
  | fp h4 h5 h6 => exact .fp h4 h5 (h6.lt (by simpa [refsLt] using hl) hk)
  | fn h => exact .fn (h.lt (by simpa [refsLt] using hl) hk)
  | fmap h1 h2 h3 h4 h5 h6 =>
    have hl' := hl
    simp only [refsLt, Bool.and_eq_true] at hl'
    exact .fmap h1 h2 h3 h4 (h5.lt (by simpa using hl'.1) hk) (h6.lt (by simpa using hl'.2) hk)
  | own h0 h1 hA h2 => exact .own h0 h1 hA (by simp [refsLt] at hl; unfold refOk at *; rw [hk _ hl]; exact h2)
  | ptr h2 => exact .ptr (by simp [refsLt] at hl; unfold refOk at *; rw [hk _ hl]; exact h2)
  | mp h2 => exact .mp (by simp [refsLt] at hl; unfold refOk at *; rw [hk _ hl]; exact h2)
theorem Rs.lt {Z : Nat → Prop} {w : World} {κ κ' : Nat → Slot} {L : Nat} {as : List AV} {vs : List Value} (h : Rs Z w κ as vs) (hl : ∀ a, a ∈ as → refsLt L a = true) (hk : ∀ id, id < L → κ' id = κ id) : Rs Z w κ' as vs := by
  cases h with
  | nil => exact .nil
  | cons h1 h2 => exact .cons (h1.lt (hl _ (by simp)) hk) (h2.lt (fun a ha => hl a (by simp [ha])) hk)
end

theorem refsLt_of_noRef (L : Nat) : ∀ a : AV, noRef a = true → refsLt L a = true
  | .val _, _ | .any, _ => by simp [refsLt]
  | .agg cs, h => by simp only [noRef, refsLt, all_attach, List.all_eq_true] at *; exact fun c hc => refsLt_of_noRef L c (h c hc)
  | .tup cs, h => by simp only [noRef, refsLt, all_attach, List.all_eq_true] at *; exact fun c hc => refsLt_of_noRef L c (h c hc)
  | .sl _ _ cs, h => by simp only [noRef, refsLt, all_attach, List.all_eq_true] at *; exact fun c hc => refsLt_of_noRef L c (h c hc)
  | .fp cs, h => by simp only [noRef, refsLt, all_attach, List.all_eq_true] at *; exact fun c hc => refsLt_of_noRef L c (h c hc)
  | .fn _ cs, h => by simp only [noRef, refsLt, all_attach, List.all_eq_true] at *; exact fun c hc => refsLt_of_noRef L c (h c hc)
  | .fmap ks vs, h => by
    simp only [noRef, refsLt, all_attach, List.all_eq_true, Bool.and_eq_true] at *
    exact ⟨fun c hc => refsLt_of_noRef L c (h.1 c hc), fun c hc => refsLt_of_noRef L c (h.2 c hc)⟩
  | .own .., h | .ptr .., h | .mp .., h => by simp [noRef] at h

theorem R.noRef_any {Z : Nat → Prop} {w : World} {κ κ' : Nat → Slot} {a : AV} {v : Value} (h : R Z w κ a v) (hl : noRef a = true) : R Z w κ' a v :=
  h.lt (L := 0) (refsLt_of_noRef 0 a hl) (fun id hid => by omega)
theorem Rs.noRef_any {Z : Nat → Prop} {w : World} {κ κ' : Nat → Slot} {as : List AV} {vs : List Value} (h : Rs Z w κ as vs) (hl : ∀ a, a ∈ as → noRef a = true) : Rs Z w κ' as vs :=
  h.lt (L := 0) (fun a ha => refsLt_of_noRef 0 a (hl a ha)) (fun id hid => by omega)

theorem Rs.length {Z : Nat → Prop} {w : World} {κ : Nat → Slot} : ∀ {as : List AV} {vs : List Value}, Rs Z w κ as vs → as.length = vs.length
  | _, _, .nil => rfl
  | _, _, .cons _ h => by simp [h.length]

theorem Rs.get {Z : Nat → Prop} {w : World} {κ : Nat → Slot} : ∀ {as : List AV} {vs : List Value}, Rs Z w κ as vs → ∀ (i : Nat) (a : AV), as[i]? = some a → ∃ v, vs[i]? = some v ∧ R Z w κ a v
  | _, _, .nil, i, a, h => by simp at h
  | _, _, .cons h1 h2, 0, a, h => by simp at h; subst h; exact ⟨_, by simp, h1⟩
  | _, _, .cons h1 h2, i + 1, a, h => by
    obtain ⟨v, hv, hr⟩ := h2.get i a (by simpa using h)
    exact ⟨v, by simpa using hv, hr⟩

theorem Rs.append {Z : Nat → Prop} {w : World} {κ : Nat → Slot} : ∀ {as : List AV} {vs : List Value} {bs : List AV} {us : List Value}, Rs Z w κ as vs → Rs Z w κ bs us → Rs Z w κ (as ++ bs) (vs ++ us)
  | _, _, _, _, .nil, h => h
  | _, _, _, _, .cons h1 h2, h => .cons h1 (h2.append h)
theorem Rs.take {Z : Nat → Prop} {w : World} {κ : Nat → Slot} : ∀ {as : List AV} {vs : List Value}, Rs Z w κ as vs → ∀ n, Rs Z w κ (as.take n) (vs.take n)
  | _, _, .nil, n => by simp [Rs.nil]
  | _, _, .cons h1 h2, 0 => .nil
  | _, _, .cons h1 h2, n + 1 => .cons h1 (h2.take n)
theorem Rs.drop {Z : Nat → Prop} {w : World} {κ : Nat → Slot} : ∀ {as : List AV} {vs : List Value}, Rs Z w κ as vs → ∀ n, Rs Z w κ (as.drop n) (vs.drop n)
  | _, _, .nil, n => by simp [Rs.nil]
  | _, _, .cons h1 h2, 0 => .cons h1 h2
  | _, _, .cons h1 h2, n + 1 => h2.drop n
theorem Rs.set {Z : Nat → Prop} {w : World} {κ : Nat → Slot} {a : AV} {v : Value} (h : R Z w κ a v) : ∀ {as : List AV} {vs : List Value}, Rs Z w κ as vs → ∀ n, Rs Z w κ (as.set n a) (vs.set n v)
  | _, _, .nil, n => by simp [Rs.nil]
  | _, _, .cons h1 h2, 0 => .cons h h2
  | _, _, .cons h1 h2, n + 1 => .cons h1 (Rs.set h h2 n)
theorem Rs.replicate {Z : Nat → Prop} {w : World} {κ : Nat → Slot} {a : AV} {v : Value} (h : R Z w κ a v) : ∀ n, Rs Z w κ (List.replicate n a) (List.replicate n v)
  | 0 => .nil
  | n + 1 => .cons h (Rs.replicate h n)

end Go.Cx
