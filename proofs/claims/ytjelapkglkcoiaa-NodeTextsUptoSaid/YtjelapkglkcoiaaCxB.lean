/- Abstract heaps: what it means that a world holds one; what stays when something is laid, stored, read. -/
import Derived.Test.YtjelapkglkcoiaaCxA
set_option linter.unusedVariables false
namespace Go.Cx

inductive ABlk where
  | dead
  | cells (ver : Nat) (cs : List AV)
  | map (ks vs : List AV)

abbrev AHeap := List ABlk

def alive (κ : Nat → Slot) (b : Nat) : Prop := ∃ id ver sz, κ id = .live ver (some b) sz

def blkOk (Z : Nat → Prop) (w : World) (κ : Nat → Slot) (id : Nat) : ABlk → Prop
  | .dead => κ id = .dead
  | .cells ver cs => ∃ ob sz, κ id = .live ver ob sz ∧ match ob with
      | none => cs = []
      | some b => ∃ (c : Array Value) (E : TypeId) (us : List Value), w.heap[b]? = some (.cells c E (0, 0)) ∧ c.size = sz ∧ us.length ≤ c.size ∧ (∀ (j : Nat) (u : Value), us[j]? = some u → c[j]? = some u) ∧ Rs Z w κ cs us
  | .map ks vs => ∃ (b : Nat) (es : Array MapEntry) (clock : Nat), κ id = .live 0 (some b) 0 ∧ w.heap[b]? = some (.map es clock) ∧ Rs Z w κ ks (es.toList.map (·.key)) ∧ Rs Z w κ vs (es.toList.map (·.val))

structure Rel (Z : Nat → Prop) (κ : Nat → Slot) (h : AHeap) (w : World) : Prop where
  zlt : ∀ b, Z b → b < w.heap.size
  za : ∀ b, Z b → ¬ alive κ b
  hole : ∀ id, h.length ≤ id → κ id = .hole
  blk : ∀ id x, h[id]? = some x → blkOk Z w κ id x
  inj : ∀ id id' ver ver' b sz sz', κ id = .live ver (some b) sz → κ id' = .live ver' (some b) sz' → id = id'

/-- What a piece of code does to what it doesn't own. -/
structure Ext (Z : Nat → Prop) (κ : Nat → Slot) (w : World) (Z' : Nat → Prop) (κ' : Nat → Slot) (w' : World) : Prop where
  os : w'.os = w.os
  tape : w'.tape = w.tape
  output : w'.output = w.output
  size : w.heap.size ≤ w'.heap.size
  keep : ∀ b, b < w.heap.size → ¬ alive κ b → w'.heap[b]? = w.heap[b]?
  zin : ∀ b, Z b → Z' b
  znew : ∀ b, Z' b → Z b ∨ alive κ b ∨ w.heap.size ≤ b
  anew : ∀ b, alive κ' b → alive κ b ∨ w.heap.size ≤ b

def StepAll (κ κ' : Nat → Slot) : Prop := ∀ id, κ id = .hole ∨ (κ id).step (κ' id)
def StepLt (n : Nat) (κ κ' : Nat → Slot) : Prop := ∀ id, id < n → (κ id).step (κ' id)

theorem StepAll.refl (κ : Nat → Slot) : StepAll κ κ := fun _ => .inr (Slot.step_refl _)
theorem StepAll.trans {a b c : Nat → Slot} (h : StepAll a b) (k : StepAll b c) : StepAll a c := fun id => by
  rcases h id with h | h
  · exact .inl h
  · rcases k id with k | k
    · exact (by rw [k] at h; cases ha : a id <;> simp_all [Slot.step])
    · exact .inr (Slot.step_trans h k)

theorem Ext.refl (Z : Nat → Prop) (κ : Nat → Slot) (w : World) : Ext Z κ w Z κ w :=
  ⟨rfl, rfl, rfl, Nat.le_refl _, fun _ _ _ => rfl, fun _ h => h, fun _ h => .inl h, fun _ h => .inl h⟩

theorem Ext.trans {Z Z' Z'' : Nat → Prop} {κ κ' κ'' : Nat → Slot} {w w' w'' : World} (h : Ext Z κ w Z' κ' w') (k : Ext Z' κ' w' Z'' κ'' w'') : Ext Z κ w Z'' κ'' w'' where
  os := k.os.trans h.os
  tape := k.tape.trans h.tape
  output := k.output.trans h.output
  size := Nat.le_trans h.size k.size
  keep := fun b hb hn => (k.keep b (Nat.lt_of_lt_of_le hb h.size) (fun ha => (h.anew b ha).elim hn (by omega))).trans (h.keep b hb hn)
  zin := fun b hz => k.zin b (h.zin b hz)
  znew := fun b hz => by
    rcases k.znew b hz with h1 | h1 | h1
    · exact h.znew b h1
    · exact .inr (h.anew b h1)
    · exact .inr (.inr (Nat.le_trans h.size h1))
  anew := fun b ha => by
    rcases k.anew b ha with h1 | h1
    · exact h.anew b h1
    · exact .inr (Nat.le_trans h.size h1)


theorem alive_lt {Z : Nat → Prop} {κ : Nat → Slot} {h : AHeap} {w : World} (r : Rel Z κ h w) {b : Nat} (ha : alive κ b) : b < w.heap.size := by
  obtain ⟨id, ver, sz, hk⟩ := ha
  have hid : id < h.length := by
    rcases Nat.lt_or_ge id h.length with h1 | h1
    · exact h1
    · rw [r.hole id h1] at hk; cases hk
  have hx := r.blk id h[id] (by simp [hid])
  cases hb : h[id] with
  | dead => rw [hb] at hx; simp only [blkOk] at hx; rw [hx] at hk; cases hk
  | cells v cs =>
    rw [hb] at hx
    obtain ⟨ob, sz', h1, h2⟩ := hx
    rw [hk] at h1
    injection h1 with e1 e2 e3
    subst e2
    obtain ⟨c, E, us, h3, _⟩ := h2
    exact (Array.getElem?_eq_some_iff.1 h3).1
  | map ks vs =>
    rw [hb] at hx
    obtain ⟨b', es, cl, h1, h2, _⟩ := hx
    rw [hk] at h1
    injection h1 with e1 e2 e3
    injection e2 with e2
    subst e2
    exact (Array.getElem?_eq_some_iff.1 h2).1

/-- What is told of a value stays told while nothing is written but to one's own blocks, and slots go on. -/
theorem R.ext {Z Z' : Nat → Prop} {κ κ' : Nat → Slot} {h : AHeap} {w w' : World} {a : AV} {v : Value} (hr : R Z w κ a v) (r : Rel Z κ h w) (e : Ext Z κ w Z' κ' w') (hs : StepAll κ κ') : R Z' w' κ' a v :=
  hr.imp (fun b hz => ⟨e.zin b hz, e.keep b (r.zlt b hz) (r.za b hz)⟩) hs
theorem Rs.ext {Z Z' : Nat → Prop} {κ κ' : Nat → Slot} {h : AHeap} {w w' : World} {a : List AV} {v : List Value} (hr : Rs Z w κ a v) (r : Rel Z κ h w) (e : Ext Z κ w Z' κ' w') (hs : StepAll κ κ') : Rs Z' w' κ' a v :=
  hr.imp (fun b hz => ⟨e.zin b hz, e.keep b (r.zlt b hz) (r.za b hz)⟩) hs

def upd (κ : Nat → Slot) (id : Nat) (s : Slot) : Nat → Slot := fun j => if j = id then s else κ j
theorem upd_same (κ : Nat → Slot) (id : Nat) (s : Slot) : upd κ id s id = s := by simp [upd]
theorem upd_ne (κ : Nat → Slot) {id j : Nat} (s : Slot) (h : j ≠ id) : upd κ id s j = κ j := by simp [upd, h]
theorem StepAll.upd {κ : Nat → Slot} {id : Nat} {s : Slot} (h : κ id = .hole ∨ (κ id).step s) : StepAll κ (upd κ id s) := fun j => by
  by_cases hj : j = id
  · subst hj; rw [upd_same]; exact h
  · rw [upd_ne κ s hj]; exact .inr (Slot.step_refl _)

theorem heap_alloc_old (w : World) (o : Obj) {b : Nat} (h : b < w.heap.size) : (w.alloc o).heap[b]? = w.heap[b]? := RowKit.Below.heap_alloc w o b h
theorem heap_alloc_new' (w : World) (o : Obj) : (w.alloc o).heap[w.heap.size]? = some o := by show (w.heap.push o)[w.heap.size]? = _; simp

/-- All blocks of an abstract heap stay told, but what one says anew. -/
theorem blkOk.ext {Z Z' : Nat → Prop} {κ κ' : Nat → Slot} {h : AHeap} {w w' : World} {id : Nat} {x : ABlk} (hx : blkOk Z w κ id x) (r : Rel Z κ h w) (e : Ext Z κ w Z' κ' w') (hs : StepAll κ κ') (hk : κ' id = κ id)
    (hw : ∀ ver b sz, κ id = .live ver (some b) sz → w'.heap[b]? = w.heap[b]?) : blkOk Z' w' κ' id x := by
  cases x with
  | dead => simp only [blkOk] at *; rw [hk]; exact hx
  | cells ver cs =>
    obtain ⟨ob, sz, h1, h2⟩ := hx
    refine ⟨ob, sz, hk.trans h1, ?_⟩
    cases ob with
    | none => exact h2
    | some b =>
      obtain ⟨c, E, us, h3, h4, h5, h6, h7⟩ := h2
      exact ⟨c, E, us, (hw _ _ _ h1).trans h3, h4, h5, h6, h7.ext r e hs⟩
  | map ks vs =>
    obtain ⟨b, es, cl, h1, h2, h3, h4⟩ := hx
    exact ⟨b, es, cl, hk.trans h1, (hw _ _ _ h1).trans h2, h3.ext r e hs, h4.ext r e hs⟩

/-- A new block of cells of one's own. -/
theorem rel_alloc {Z : Nat → Prop} {κ : Nat → Slot} {h : AHeap} {w : World} (r : Rel Z κ h w) {cs : List AV} {us : List Value} (hu : Rs Z w κ cs us) (c : Array Value) (E : TypeId) (hc : us.length ≤ c.size) (hcu : ∀ (j : Nat) (u : Value), us[j]? = some u → c[j]? = some u) :
    Rel Z (upd κ h.length (.live 0 (some w.heap.size) c.size)) (h ++ [.cells 0 cs]) (w.alloc (.cells c E)) ∧
    Ext Z κ w Z (upd κ h.length (.live 0 (some w.heap.size) c.size)) (w.alloc (.cells c E)) ∧ StepAll κ (upd κ h.length (.live 0 (some w.heap.size) c.size)) := by
  have hh := r.hole h.length (Nat.le_refl _)
  have hs : StepAll κ (upd κ h.length (.live 0 (some w.heap.size) c.size)) := .upd (.inl hh)
  have hal : ∀ b, alive (upd κ h.length (.live 0 (some w.heap.size) c.size)) b → alive κ b ∨ w.heap.size ≤ b := by
    rintro b ⟨id, ver, sz, hk⟩
    by_cases hid : id = h.length
    · subst hid; rw [upd_same] at hk; injection hk with _ h2 _; injection h2 with h2; exact .inr (by omega)
    · rw [upd_ne _ _ hid] at hk; exact .inl ⟨id, ver, sz, hk⟩
  have e : Ext Z κ w Z (upd κ h.length (.live 0 (some w.heap.size) c.size)) (w.alloc (.cells c E)) :=
    ⟨rfl, rfl, rfl, by simp, fun b hb _ => heap_alloc_old w _ hb, fun _ h => h, fun _ h => .inl h, hal⟩
  refine ⟨⟨fun b hz => by have := r.zlt b hz; simp; omega, fun b hz ha => ?_, fun id hid => ?_, fun id x hx => ?_, ?_⟩, e, hs⟩
  · rcases hal b ha with h1 | h1
    · exact r.za b hz h1
    · have := r.zlt b hz; omega
  · simp at hid
    rw [upd_ne _ _ (by omega)]; exact r.hole id (by omega)
  · by_cases hid : id = h.length
    · subst hid
      simp at hx
      subst hx
      exact ⟨some w.heap.size, c.size, upd_same _ _ _, c, E, us, heap_alloc_new' w _, rfl, hc, hcu, hu.ext r e hs⟩
    · have hlt : id < h.length := by
        have := (List.getElem?_eq_some_iff.1 hx).1
        simp at this; omega
      rw [List.getElem?_append_left hlt] at hx
      exact (r.blk id x hx).ext r e hs (upd_ne _ _ hid) fun ver b sz hk => heap_alloc_old w _ (alive_lt r ⟨id, ver, sz, hk⟩)
  · intro id id' ver ver' b sz sz' h1 h2
    by_cases hid : id = h.length <;> by_cases hid' : id' = h.length
    · omega
    · subst hid
      rw [upd_same] at h1; rw [upd_ne _ _ hid'] at h2
      injection h1 with _ h1 _; injection h1 with h1
      have := alive_lt r ⟨id', ver', sz', h2⟩; omega
    · subst hid'
      rw [upd_same] at h2; rw [upd_ne _ _ hid] at h1
      injection h2 with _ h2 _; injection h2 with h2
      have := alive_lt r ⟨id, ver, sz, h1⟩; omega
    · rw [upd_ne _ _ hid] at h1; rw [upd_ne _ _ hid'] at h2
      exact r.inj _ _ _ _ _ _ _ h1 h2

/-- A new block that nobody will write. -/
theorem rel_frozen {Z : Nat → Prop} {κ : Nat → Slot} {h : AHeap} {w : World} (r : Rel Z κ h w) (o : Obj) :
    Rel (fun b => Z b ∨ b = w.heap.size) κ h (w.alloc o) ∧ Ext Z κ w (fun b => Z b ∨ b = w.heap.size) κ (w.alloc o) := by
  have e : Ext Z κ w (fun b => Z b ∨ b = w.heap.size) κ (w.alloc o) :=
    ⟨rfl, rfl, rfl, by simp, fun b hb _ => heap_alloc_old w _ hb, fun _ h => .inl h, fun b h => h.imp id (fun h => .inr (by omega)), fun _ h => .inl h⟩
  refine ⟨⟨?_, ?_, r.hole, fun id x hx => ?_, r.inj⟩, e⟩
  · rintro b (hz | hz)
    · have := r.zlt b hz; simp; omega
    · simp; omega
  · rintro b (hz | hz) ha
    · exact r.za b hz ha
    · have := alive_lt r ha; omega
  · exact (r.blk id x hx).ext r e (.refl _) rfl fun ver b sz hk => heap_alloc_old w _ (alive_lt r ⟨id, ver, sz, hk⟩)

theorem heap_set_same (w : World) (b j : Nat) (u : Value) {c : Array Value} {E : TypeId} {fr : Nat × Nat} (h : w.heap[b]? = some (.cells c E fr)) : (w.setCell ⟨b, j, none⟩ u).heap[b]? = some (.cells (c.setIfInBounds j u) E fr) := by
  simp [World.setCell, Array.getElem?_modify, h]
theorem heap_set_ne (w : World) (b j : Nat) (u : Value) {b' : Nat} (h : b' ≠ b) : (w.setCell ⟨b, j, none⟩ u).heap[b']? = w.heap[b']? := RowKit.Below.heap_setCell w _ u b' h

/-- One cell of a block of one's own is written. -/
theorem rel_store1 {Z : Nat → Prop} {κ : Nat → Slot} {h : AHeap} {w : World} (r : Rel Z κ h w) {id ver b sz j : Nat} {cs : List AV} (hx : h[id]? = some (.cells ver cs)) (hk : κ id = .live ver (some b) sz) (hj : j < cs.length)
    {a : AV} {u : Value} (hu : R Z w κ a u) :
    Rel Z κ (h.set id (.cells ver (cs.set j a))) (w.setCell ⟨b, j, none⟩ u) ∧ Ext Z κ w Z κ (w.setCell ⟨b, j, none⟩ u) ∧ (∃ v, w.cell? ⟨b, j, none⟩ = some v) ∧ w.frozen? ⟨b, j, none⟩ = false := by
  have hal : alive κ b := ⟨id, ver, sz, hk⟩
  have e : Ext Z κ w Z κ (w.setCell ⟨b, j, none⟩ u) :=
    ⟨rfl, rfl, rfl, by simp, fun b' hb' hn => heap_set_ne w b j u (fun e => hn (e ▸ hal)), fun _ h => h, fun _ h => .inl h, fun _ h => .inl h⟩
  have hx' := r.blk id _ hx
  obtain ⟨ob, sz', h1, h2⟩ := hx'
  rw [hk] at h1
  injection h1 with e1 e2 e3
  subst e2 e3
  obtain ⟨c, E, us, h3, h4, h5, h6, h7⟩ := h2
  have hl := h7.length
  refine ⟨⟨fun b hz => by have := r.zlt b hz; simpa using this, r.za, fun id' hid' => r.hole id' (by simpa using hid'), fun id' x hx' => ?_, r.inj⟩, e, ?_, ?_⟩
  · by_cases hid : id' = id
    · subst hid
      have hlt := (List.getElem?_eq_some_iff.1 hx).1
      rw [List.getElem?_set_self hlt] at hx'
      injection hx' with hx'
      subst hx'
      refine ⟨some b, sz, hk, c.setIfInBounds j u, E, us.set j u, heap_set_same w b j u h3, by simpa using h4, by simpa using h5, fun i v hi => ?_, (Rs.set hu h7 j).ext r e (.refl _)⟩
      by_cases hij : i = j
      · subst hij
        rw [List.getElem?_set_self (by omega)] at hi
        rw [Array.getElem?_setIfInBounds_self_of_lt (by omega)]
        exact hi
      · rw [List.getElem?_set_ne (Ne.symm hij)] at hi
        rw [Array.getElem?_setIfInBounds_ne (Ne.symm hij)]
        exact h6 i v hi
    · rw [List.getElem?_set_ne (Ne.symm hid)] at hx'
      refine (r.blk id' x hx').ext r e (.refl _) rfl fun ver' b' sz' hk' => heap_set_ne w b j u fun eb => hid ?_
      subst eb
      exact r.inj _ _ _ _ _ _ _ hk' hk
  · refine ⟨c[j], ?_⟩
    simp [World.cell?, h3]
  · simp [World.frozen?, h3]

end Go.Cx
