/- Operations on abstract values, and that the model's own do the same. -/
import Derived.Test.YtjelapkglkcoiaaCxB
set_option linter.unusedVariables false
namespace Go.Cx

/-! ### Tables -/
def tsize (P : Program) (t : TypeId) : Option Nat := (P.info? t).map (·.size)
def aggDesc : TypeDesc → Bool
  | .struct _ | .array _ _ => true
  | _ => false
def tagg (P : Program) (t : TypeId) : Option Bool := (P.underlying t).map aggDesc
def cellV : Value → AV
  | .bool b => .val (.bool b)
  | .int k n => .val (.int k n)
  | .float k n => .val (.float k n)
  | .complex k a b => .val (.complex k a b)
  | .string s => .val (.string s)
  | .pointer none => .val (.pointer none)
  | .map none => .val (.map none)
  | .nilFunc => .val .nilFunc
  | .nilIface => .val .nilIface
  | .slice none 0 0 => .sl true 0 []
  | _ => .any
def tzero (P : Program) (t : TypeId) : Option (List AV) := ((P.info? t).bind (·.zero)).map fun z => z.cells.toList.map cellV
def sliceElem : TypeDesc → Option TypeId
  | .slice e => some e
  | _ => none
def telem (P : Program) (t : TypeId) : Option TypeId := (P.underlying t).bind sliceElem
def structField (i : Nat) : TypeDesc → Option Field
  | .struct fs => fs[i]?
  | _ => none
/-- A field's place, its type, how many cells it has. -/
def tfield (P : Program) (t : TypeId) (i : Nat) : Option (Nat × TypeId × Nat) := ((P.underlying t).bind (structField i)).bind fun f => (P.info? f.type).map fun u => (f.offset, f.type, u.size)

variable {P : Program} {Z : Nat → Prop} {κ : Nat → Slot} {h : AHeap} {w : World}

theorem R_cellV (v : Value) : R Z w κ (cellV v) v := by
  unfold cellV
  split
  all_goals first
    | exact .val rfl
    | exact .sl0 (fun _ => rfl) (by simp [maxLen])
    | exact .any

theorem Rs_cellV : ∀ l : List Value, Rs Z w κ (l.map cellV) l
  | [] => .nil
  | v :: l => .cons (R_cellV v) (Rs_cellV l)

def ofV : Value → AV
  | .agg cs => .agg (cs.toList.map cellV)
  | .tuple cs => .tup (cs.toList.map cellV)
  | v => cellV v

theorem R_ofV (v : Value) : R Z w κ (ofV v) v := by
  unfold ofV
  split
  · exact .agg (Rs_cellV _)
  · exact .tup (Rs_cellV _)
  · exact R_cellV _

def isOne : AV → Bool
  | .any | .agg _ | .tup _ => false
  | _ => true
theorem one_of {a : AV} {v : Value} (hr : R Z w κ a v) (hi : isOne a = true) : v.oneCell' = true := by
  cases hr <;> first
    | (simp [isOne] at hi; done)
    | rfl
    | (rename_i hp; exact one_of_plain hp)

def cellsOf : AV → Option (List AV)
  | .agg cs => some cs
  | .any | .tup _ => none
  | a => some [a]
theorem cells_of_one {v : Value} (hv : v.oneCell' = true) : v.cells = #[v] := by
  cases v <;> first | rfl | (simp [Value.oneCell'] at hv)
theorem cellsOf_ok {a : AV} {v : Value} {cs : List AV} (hr : R Z w κ a v) (hc : cellsOf a = some cs) : ∃ us : List Value, v.cells = us.toArray ∧ Rs Z w κ cs us := by
  cases hr with
  | agg h => simp only [cellsOf, Option.some.injEq] at hc; subst hc; exact ⟨_, rfl, h⟩
  | any => simp [cellsOf] at hc
  | tup h => simp [cellsOf] at hc
  | val hp => simp only [cellsOf, Option.some.injEq] at hc; subst hc; exact ⟨[v], by rw [cells_of_one (one_of_plain hp)], .cons (.val hp) .nil⟩
  | sl0 h1 h2 => simp only [cellsOf, Option.some.injEq] at hc; subst hc; exact ⟨[_], rfl, .cons (.sl0 h1 h2) .nil⟩
  | sl h0 h1 h2 h3 h4 h5 h6 => simp only [cellsOf, Option.some.injEq] at hc; subst hc; exact ⟨[_], rfl, .cons (.sl h0 h1 h2 h3 h4 h5 h6) .nil⟩
  | fp h1 h2 h3 => simp only [cellsOf, Option.some.injEq] at hc; subst hc; exact ⟨[_], rfl, .cons (.fp h1 h2 h3) .nil⟩
  | fn h1 => simp only [cellsOf, Option.some.injEq] at hc; subst hc; exact ⟨[_], rfl, .cons (.fn h1) .nil⟩
  | fmap h1 h2 h3 h4 h5 h6 => simp only [cellsOf, Option.some.injEq] at hc; subst hc; exact ⟨[_], rfl, .cons (.fmap h1 h2 h3 h4 h5 h6) .nil⟩
  | own h0 h1 hA h2 => simp only [cellsOf, Option.some.injEq] at hc; subst hc; exact ⟨[_], rfl, .cons (.own h0 h1 hA h2) .nil⟩
  | ptr h2 => simp only [cellsOf, Option.some.injEq] at hc; subst hc; exact ⟨[_], rfl, .cons (.ptr h2) .nil⟩
  | mp h2 => simp only [cellsOf, Option.some.injEq] at hc; subst hc; exact ⟨[_], rfl, .cons (.mp h2) .nil⟩

/-! ### Running small things -/
theorem run_tsize {t : TypeId} {k : Nat} (ht : tsize P t = some k) (w : World) : (sizeOf t).run P w = .ok k w := by
  obtain ⟨i, hi, hk⟩ := Option.map_eq_some_iff.1 ht
  simp [sizeOf, typeInfo, hi, hk]
theorem run_tagg {t : TypeId} {g : Bool} (ht : tagg P t = some g) (w : World) : (isAgg t).run P w = .ok g w := by
  obtain ⟨d, hd, hg⟩ := Option.map_eq_some_iff.1 ht
  simp only [isAgg, Sem.run_bind, run_underlying hd, Result.andThen_ok]
  cases d <;> simp_all [aggDesc]
theorem run_telem {t e : TypeId} (ht : telem P t = some e) : P.underlying t = some (.slice e) := by
  obtain ⟨d, hd, hg⟩ := Option.bind_eq_some_iff.1 ht
  cases d <;> simp_all [sliceElem]
theorem run_tzero {t : TypeId} {zs : List AV} (ht : tzero P t = some zs) (w : World) : ∃ z : Value, (zeroValue t).run P w = .ok z w ∧ zs = z.cells.toList.map cellV := by
  obtain ⟨z, hz, hg⟩ := Option.map_eq_some_iff.1 ht
  obtain ⟨i, hi, hz⟩ := Option.bind_eq_some_iff.1 hz
  exact ⟨z, by simp [zeroValue, typeInfo, hi, hz], hg.symm⟩

/-- What an operation may do: it hands back c, told by v; the heap is told by h'. -/
def Out (Z : Nat → Prop) (κ : Nat → Slot) (w : World) (v : AV) (h' : AHeap) (r : Result Next) : Prop :=
  ∃ c w' Z' κ', (r = .ok (.value c) w' ∨ r = .ok .skip w' ∧ c = undef) ∧ Rel Z' κ' h' w' ∧ R Z' w' κ' v c ∧ Ext Z κ w Z' κ' w' ∧ StepAll κ κ'

theorem Out.same {v : AV} {c : Value} (r : Rel Z κ h w) (hr : R Z w κ v c) : Out Z κ w v h (.ok (.value c) w) := ⟨c, w, Z, κ, .inl rfl, r, hr, .refl _ _ _, .refl _⟩

/-! ### load -/
def aload1 (g : Bool) (k : Nat) (cs : List AV) : Option AV := if g then (if k ≤ cs.length then some (.agg (cs.take k)) else none) else cs.head?
def aload (P : Program) (t : TypeId) (p : AV) (h : AHeap) : Option AV :=
  match tagg P t, tsize P t with
  | some g, some k => match p with
    | .ptr id ver off => match h[id]? with
      | some (.cells ver' cs) => if ver = ver' then aload1 g k (cs.drop off) else none
      | _ => none
    | .fp cs => aload1 g k cs
    | _ => none
  | _, _ => none

theorem aload1_ok {t : TypeId} {g : Bool} {k : Nat} {cs : List AV} {v : AV} {us : List Value} {a : Addr} (h1 : tagg P t = some g) (h2 : tsize P t = some k) (hv : aload1 g k cs = some v) (hu : Rs Z w κ cs us) (ha : CellsAt w a us) :
    ∃ c, (loadVar t a).run P w = .ok c w ∧ R Z w κ v c := by
  unfold aload1 at hv
  cases g with
  | true =>
    simp only [if_true] at hv
    split at hv
    · rename_i hk
      injection hv with hv
      subst hv
      have hl := hu.length
      have hlen : (us.take k).length = k := by simp; omega
      have hload := run_loadCells_list (P := P) w a (us.take k) (fun j v hj => by
        have hjk : j < k := by have := (List.getElem?_eq_some_iff.1 hj).1; simp at this; omega
        rw [List.getElem?_take_of_lt hjk] at hj
        exact ha j v hj)
      rw [hlen] at hload
      exact ⟨_, by simp only [loadVar, Sem.run_bind, run_tagg h1, run_tsize h2, Result.andThen_ok, if_true, hload, Sem.run_pure], .agg (hu.take k)⟩
    · cases hv
  | false =>
    simp only [Bool.false_eq_true, if_false] at hv
    cases hu with
    | nil => simp at hv
    | cons h3 h4 =>
      simp at hv
      subst hv
      rename_i u _ us'
      have h0 := ha 0 u (by simp)
      have e0 : a.add 0 = a := by simp [Addr.add]
      rw [e0] at h0
      exact ⟨u, by simp [loadVar, Sem.run_bind, run_tagg h1, h0], h3⟩

/-- What stands behind a pointer to one's own. -/
theorem own_block (r : Rel Z κ h w) {id ver off : Nat} {cs : List AV} {c : Value} (hp : R Z w κ (.ptr id ver off) c) (hx : h[id]? = some (.cells ver cs)) :
    ∃ b sz arr E us, κ id = .live ver (some b) sz ∧ c = .pointer (some ⟨b, off, none⟩) ∧ w.heap[b]? = some (.cells arr E (0, 0)) ∧ arr.size = sz ∧ us.length ≤ arr.size ∧ (∀ (j : Nat) (u : Value), us[j]? = some u → arr[j]? = some u) ∧ Rs Z w κ cs us := by
  cases hp with
  | ptr h2 =>
    obtain ⟨ob, sz, h3, h4⟩ := r.blk id _ hx
    simp only [refOk, h3] at h2
    have h5 := h2.2 trivial
    cases ob with
    | none => exact h5.elim
    | some b =>
      obtain ⟨arr, E, us, h6, h7, h8, h9, h10⟩ := h4
      exact ⟨b, sz, arr, E, us, h3, by rw [show _ = _ from h5], h6, h7, h8, h9, h10⟩

theorem addr_add (b o j : Nat) : (⟨b, o, none⟩ : Addr).add j = ⟨b, o + j, none⟩ := by unfold Addr.add; split <;> simp_all

theorem cells_drop {b : Nat} {arr : Array Value} {E : TypeId} {us : List Value} (h1 : w.heap[b]? = some (.cells arr E (0, 0))) (h2 : ∀ (j : Nat) (u : Value), us[j]? = some u → arr[j]? = some u) (off : Nat) : CellsAt w ⟨b, off, none⟩ (us.drop off) := by
  intro j u hj
  rw [List.getElem?_drop] at hj
  rw [addr_add]
  simp [World.cell?, h1, h2 _ _ hj]

theorem aload_ok {t : TypeId} {p v : AV} {c : Value} (r : Rel Z κ h w) (hp : R Z w κ p c) (hv : aload P t p h = some v) : ∃ u, (Instr.loadAt t c).run P w = .ok u w ∧ R Z w κ v u := by
  unfold aload at hv
  split at hv
  · rename_i g k h1 h2
    split at hv
    · rename_i id ver off
      split at hv
      · rename_i ver' cs hx
        split at hv
        · rename_i he
          subst he
          obtain ⟨b, sz, arr, E, us, h3, rfl, h5, h6, h7, h8, h9⟩ := own_block r hp hx
          obtain ⟨u, hu, hr⟩ := aload1_ok h1 h2 hv (h9.drop off) (cells_drop h5 h8 off)
          exact ⟨u, by simp only [Instr.loadAt, Instr.sureAddr, Sem.run_bind, Sem.run_pure, Result.andThen_ok, hu], hr⟩
        · cases hv
      · cases hv
    · rename_i cs
      cases hp with
      | fp h3 h4 h5 =>
        obtain ⟨u, hu, hr⟩ := aload1_ok h1 h2 hv h5 h4
        exact ⟨u, by simp only [Instr.loadAt, Instr.sureAddr, Sem.run_bind, Sem.run_pure, Result.andThen_ok, hu], hr⟩
    · cases hv
  · cases hv

/-! ### store -/
def setMany (cs : List AV) (off : Nat) : List AV → List AV
  | [] => cs
  | v :: vs => setMany (cs.set off v) (off + 1) vs
def astore (P : Program) (t : TypeId) (p v : AV) (h : AHeap) : Option AHeap :=
  match p, cellsOf v, tsize P t with
  | .ptr id ver off, some vs, some k => match h[id]? with
    | some (.cells ver' cs) => if ver = ver' ∧ vs.length = k ∧ off + k ≤ cs.length ∧ vs.all isOne = true then some (h.set id (.cells ver (setMany cs off vs))) else none
    | _ => none
  | _, _, _ => none

theorem StepAll.same (κ : Nat → Slot) : StepAll κ κ := .refl κ

theorem storeCells_ok {id ver b sz : Nat} (hk : κ id = .live ver (some b) sz) : ∀ (vs : List AV) (us : List Value) (i off : Nat) (cs : List AV) (h : AHeap) (w : World), Rel Z κ h w → h[id]? = some (.cells ver cs) → Rs Z w κ vs us →
    off + i + vs.length ≤ cs.length → vs.all isOne = true → ∃ w', (storeCells ⟨b, off, none⟩ us i).run P w = .ok () w' ∧ Rel Z κ (h.set id (.cells ver (setMany cs (off + i) vs))) w' ∧ Ext Z κ w Z κ w'
  | [], us, i, off, cs, h, w, r, hx, hu, hl, ho => by
    cases hu
    refine ⟨w, by simp [storeCells], ?_, .refl _ _ _⟩
    have : h.set id (.cells ver cs) = h := by
      apply List.ext_getElem?
      intro j
      by_cases hj : j = id
      · subst hj; rw [List.getElem?_set_self (List.getElem?_eq_some_iff.1 hx).1, hx]
      · rw [List.getElem?_set_ne (Ne.symm hj)]
    simpa [setMany, this] using r
  | v :: vs, us, i, off, cs, h, w, r, hx, hu, hl, ho => by
    cases hu with
    | cons h1 h2 =>
      rename_i u us'
      simp only [List.all_cons, Bool.and_eq_true] at ho
      have hj : off + i < cs.length := by simp at hl; omega
      obtain ⟨r', e, ⟨u0, hc⟩, hf⟩ := rel_store1 r hx hk hj h1
      have h3 : (h.set id (.cells ver (cs.set (off + i) v)))[id]? = some (.cells ver (cs.set (off + i) v)) := List.getElem?_set_self (List.getElem?_eq_some_iff.1 hx).1
      obtain ⟨w', h4, h5, h6⟩ := storeCells_ok hk vs us' (i + 1) off _ _ _ r' h3 (h2.ext r e (.refl _)) (by simp at hl ⊢; omega) ho.2
      refine ⟨w', ?_, ?_, e.trans h6⟩
      · simp only [storeCells, Sem.run_bind, addr_add, run_store P w _ _ _ (one_of h1 ho.1), hc, hf, Bool.false_eq_true, if_false, Result.andThen_ok, h4]
      · rw [List.set_set] at h5
        exact h5

theorem astore_ok {t : TypeId} {p v : AV} {c d : Value} {h' : AHeap} (r : Rel Z κ h w) (hp : R Z w κ p c) (hd : R Z w κ v d) (hv : astore P t p v h = some h') :
    ∃ w', (Instr.storeAt t c d).run P w = .ok () w' ∧ Rel Z κ h' w' ∧ Ext Z κ w Z κ w' := by
  unfold astore at hv
  split at hv
  · rename_i id ver off vs k h1 h2
    split at hv
    · rename_i ver' cs hx
      split at hv
      · rename_i he
        obtain ⟨rfl, h3, h4, h5⟩ := he
        injection hv with hv
        subst hv
        obtain ⟨b, sz, arr, E, us, h6, rfl, h7, h8, h9, h10, h11⟩ := own_block r hp hx
        obtain ⟨ds, hds, hrs⟩ := cellsOf_ok hd h1
        obtain ⟨w', h12, h13, h14⟩ := storeCells_ok (P := P) h6 vs ds 0 off cs h w r hx hrs (by omega) h5
        refine ⟨w', ?_, by simpa using h13, h14⟩
        have hsz : ds.length = k := by rw [← h3, hrs.length]
        simp only [Instr.storeAt, Instr.sureAddr, Sem.run_bind, Sem.run_pure, Result.andThen_ok, storeVar, run_tsize h2, hds]
        simpa [hsz] using h12
      · cases hv
    · cases hv
  · cases hv


/-! ### addresses -/
def afield (P : Program) (t : TypeId) (p : AV) (i : Nat) : Option AV :=
  match tfield P t i with
  | some (off, _, k) => if k = 0 then none else match p with
    | .ptr id ver o => some (.ptr id ver (o + off))
    | .fp cs => some (.fp (cs.drop off))
    | _ => none
  | none => none

theorem run_tfield {t : TypeId} {i off ft k : Nat} (ht : tfield P t i = some (off, ft, k)) : ∃ fs f, P.underlying t = some (.struct fs) ∧ fs[i]? = some f ∧ f.offset = off ∧ f.type = ft ∧ tsize P ft = some k := by
  obtain ⟨f, hf, hi⟩ := Option.bind_eq_some_iff.1 ht
  obtain ⟨d, hd, hf⟩ := Option.bind_eq_some_iff.1 hf
  cases d <;> simp only [structField, reduceCtorEq] at hf
  rename_i fs
  obtain ⟨u, hu, he⟩ := Option.map_eq_some_iff.1 hi
  injection he with h1 h2
  injection h2 with h2 h3
  exact ⟨fs, f, hd, hf, h1, h2, by rw [← h2]; simp [tsize, hu, h3]⟩

theorem CellsAt.drop {a : Addr} {us : List Value} (hc : CellsAt w a us) (n : Nat) : CellsAt w (a.add n) (us.drop n) := by
  intro j u hj
  rw [List.getElem?_drop] at hj
  have := hc (n + j) u hj
  have e : (a.add n).add j = a.add (n + j) := by
    unfold Addr.add
    by_cases h1 : n = 0 <;> by_cases h2 : j = 0 <;> simp [h1, h2, Nat.add_assoc]
  rw [e]; exact this
theorem add_block (a : Addr) (n : Nat) : (a.add n).block = a.block := by unfold Addr.add; split <;> rfl

theorem R_ptr_add {id ver off n : Nat} {a : Addr} (hp : R Z w κ (.ptr id ver off) (.pointer (some a))) : R Z w κ (.ptr id ver (off + n)) (.pointer (some (a.add n))) := by
  cases hp with
  | ptr h2 =>
    refine .ptr ?_
    unfold refOk at *
    split at h2
    · exact h2
    · trivial
    · rename_i v b sz hk
      refine ⟨h2.1, fun he => ?_⟩
      have h3 := h2.2 he
      cases b with
      | none => exact h3.elim
      | some b =>
        simp only [ptrAt] at h3 ⊢
        rw [h3, addr_add]

theorem afield_ok {t : TypeId} {p v : AV} {c : Value} {i : Nat} (hp : R Z w κ p c) (hv : afield P t p i = some v) :
    ∃ u, (Instr.fieldAt t c i).run P w = .ok u w ∧ R Z w κ v u := by
  unfold afield at hv
  split at hv
  · rename_i off ft k ht
    split at hv
    · cases hv
    · rename_i hk
      obtain ⟨fs, f, h1, h2, rfl, rfl, h3⟩ := run_tfield ht
      have key : ∀ a : Addr, c = .pointer (some a) → (Instr.fieldAt t c i).run P w = .ok (.pointer (some (a.add f.offset))) w := by
        rintro a rfl
        simp only [Instr.fieldAt, Sem.run_bind, run_underlying h1, Result.andThen_ok, h2, Instr.sureAddr, Sem.run_pure, fieldPlace, run_tsize h3, hk, if_false]
      split at hv
      · rename_i id ver o
        injection hv with hv
        subst hv
        have hp' := hp
        cases hp with
        | ptr h2 => exact ⟨_, key _ rfl, R_ptr_add hp'⟩
      · rename_i cs
        injection hv with hv
        subst hv
        cases hp with
        | fp h4 h5 h6 => exact ⟨_, key _ rfl, .fp (by rw [add_block]; exact h4) (h5.drop _) (h6.drop _)⟩
      · cases hv
  · cases hv

end Go.Cx
