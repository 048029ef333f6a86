/- More operations on abstract values: fields, what is built, made and appended; values without an address. -/
import Derived.Test.YtjelapkglkcoiaaCxD
set_option linter.unusedVariables false
namespace Go.Cx
variable {P : Program} {Z : Nat → Prop} {κ : Nat → Slot} {h : AHeap} {w : World}

/-! ### a field of a value -/
def afieldV (P : Program) (t : TypeId) (x : AV) (i : Nat) : Option AV :=
  match tfield P t i, x with
  | some (off, ft, k), .agg cs => match tagg P ft with
    | some true => if off + k ≤ cs.length then some (.agg ((cs.drop off).take k)) else none
    | some false => cs[off]?
    | none => none
  | _, _ => none
theorem afieldV_ok {t : TypeId} {x v : AV} {c : Value} {i : Nat} (hx : R Z w κ x c) (hv : afieldV P t x i = some v) : ∃ u, (Instr.field t c i).run P w = .ok u w ∧ R Z w κ v u := by
  unfold afieldV at hv
  split at hv
  · rename_i off ft k cs ht
    obtain ⟨fs, f, h1, h2, rfl, rfl, h3⟩ := run_tfield ht
    cases hx with
    | agg hr =>
      rename_i vs
      have hl := hr.length
      split at hv
      · rename_i hg
        split at hv
        · rename_i hk
          injection hv with hv
          subst hv
          have e : vs.toArray.extract f.offset (f.offset + k) = ((vs.drop f.offset).take k).toArray := by
            apply Array.ext'
            simp
          refine ⟨_, ?_, .agg ((hr.drop f.offset).take k)⟩
          simp only [Instr.field, Sem.run_bind, run_underlying h1, Result.andThen_ok, h2, asAgg, Sem.run_pure, part, run_tagg hg, if_true, run_tsize h3, e]
        · cases hv
      · rename_i hg
        obtain ⟨u, hu, hru⟩ := hr.get _ _ hv
        refine ⟨u, ?_, hru⟩
        simp [Instr.field, Sem.run_bind, run_underlying h1, h2, asAgg, part, run_tagg hg, hu]
      · cases hv
  · cases hv

def aextract : AV → Nat → Option AV
  | .tup vs, i => vs[i]?
  | _, _ => none
theorem aextract_ok {x v : AV} {c : Value} {i : Nat} (hx : R Z w κ x c) (hv : aextract x i = some v) : ∃ u, (Instr.extract c i).run P w = .ok u w ∧ R Z w κ v u := by
  unfold aextract at hv
  split at hv
  · cases hx with
    | tup hr =>
      obtain ⟨u, hu, hru⟩ := hr.get _ _ hv
      exact ⟨u, by simp [Instr.extract, hu], hru⟩
  · cases hv

/-! ### build -/
theorem run_mapM {α β : Type} (f : α → Sem β) (g : α → Option β) (hfg : ∀ x y, g x = some y → (f x).run P w = .ok y w) : ∀ (l : List α) (ys : List β), l.mapM g = some ys → (l.mapM f).run P w = .ok ys w
  | [], ys, h => by simp at h; subst h; simp
  | x :: l, ys, h => by
    simp only [List.mapM_cons, Option.pure_def, Option.bind_eq_bind] at h
    obtain ⟨y, hy, h⟩ := Option.bind_eq_some_iff.1 h
    obtain ⟨ys', hys, h⟩ := Option.bind_eq_some_iff.1 h
    injection h with h
    subst h
    simp [List.mapM_cons, Sem.run_bind, hfg x y hy, run_mapM f g hfg l ys' hys]

def structPlaces (P : Program) : TypeDesc → Option (List (Nat × Nat))
  | .struct fs => fs.toList.mapM fun f => (tsize P f.type).map fun k => (f.offset, k)
  | _ => none
/-- Of a struct: its fields' places and how many cells each has. -/
def tplaces (P : Program) (t : TypeId) : Option (List (Nat × Nat)) := (P.underlying t).bind (structPlaces P)

def afill (place : Nat → Option (Nat × Nat)) (cs : List AV) : List (Nat × AV) → Option (List AV)
  | [] => some cs
  | (i, v) :: rest => match place i, cellsOf v with
    | some (off, k), some vs => if vs.length = k ∧ off + k ≤ cs.length then afill place (setMany cs off vs) rest else none
    | _, _ => none

theorem setMany_length : ∀ (vs : List AV) (cs : List AV) (off : Nat), (setMany cs off vs).length = cs.length
  | [], _, _ => rfl
  | v :: vs, cs, off => by simp [setMany, setMany_length vs]

theorem fold_set : ∀ (us : List Value) (cells : Array Value) (off j : Nat) (vs : List AV) (cs : List AV), Rs Z w κ vs us → Rs Z w κ cs cells.toList →
    Rs Z w κ (setMany cs (off + j) vs) ((us.zipIdx j).foldl (fun (cs : Array Value) (x : Value × Nat) => cs.setIfInBounds (off + x.2) x.1) cells).toList
  | [], cells, off, j, vs, cs, hv, hc => by cases hv; simpa [setMany] using hc
  | u :: us, cells, off, j, vs, cs, hv, hc => by
    cases hv with
    | cons h1 h2 =>
      simp only [List.zipIdx_cons, List.foldl_cons, setMany]
      exact fold_set us _ off (j + 1) _ _ h2 (by simpa using Rs.set h1 hc (off + j))

theorem fold_set_arr (us : List Value) (cells : Array Value) (off : Nat) : ((us.toArray.zipIdx).foldl (fun (cs : Array Value) (x : Value × Nat) => cs.setIfInBounds (off + x.2) x.1) cells) = ((us.zipIdx 0).foldl (fun (cs : Array Value) (x : Value × Nat) => cs.setIfInBounds (off + x.2) x.1) cells) := by
  rw [← Array.foldl_toList]
  simp

inductive Rp (Z : Nat → Prop) (w : World) (κ : Nat → Slot) : List (Nat × AV) → List (Nat × Value) → Prop
  | nil : Rp Z w κ [] []
  | cons {i : Nat} {a : AV} {v : Value} {as : List (Nat × AV)} {vs : List (Nat × Value)} : R Z w κ a v → Rp Z w κ as vs → Rp Z w κ ((i, a) :: as) ((i, v) :: vs)

theorem afill_ok {place : Nat → Option (Nat × Nat)} : ∀ {ps : List (Nat × AV)} {qs : List (Nat × Value)} {cs cs' : List AV} {cells : Array Value}, Rp Z w κ ps qs → Rs Z w κ cs cells.toList → afill place cs ps = some cs' →
    ∃ cells', Instr.fill place cells qs = some cells' ∧ Rs Z w κ cs' cells'.toList
  | _, _, cs, cs', cells, .nil, hc, hv => by simp only [afill, Option.some.injEq] at hv; subst hv; exact ⟨cells, rfl, hc⟩
  | _, _, cs, cs', cells, .cons h1 h2, hc, hv => by
    rename_i i a v as vs'
    simp only [afill] at hv
    split at hv
    · rename_i off k vs h3 h4
      split at hv
      · rename_i h5
        obtain ⟨us, hu, hru⟩ := cellsOf_ok h1 h4
        have hl := hru.length
        have hl2 := hc.length
        have hcs : cells.size = cs.length := by rw [hl2]; simp
        have hf := fold_set us cells off 0 vs cs hru hc
        obtain ⟨cells', h6, h7⟩ := afill_ok (cells := (us.zipIdx 0).foldl (fun (cs : Array Value) (x : Value × Nat) => cs.setIfInBounds (off + x.2) x.1) cells) h2 hf hv
        refine ⟨cells', ?_, h7⟩
        simp only [Instr.fill, h3, hu]
        rw [if_neg (by simp; omega), fold_set_arr]
        exact h6
      · cases hv
    · cases hv

def abuild (P : Program) (t : TypeId) (parts : List (Nat × AV)) : Option AV :=
  match tzero P t, tplaces P t with
  | some zs, some pl => (afill (fun i => pl[i]?) zs parts).map .agg
  | _, _ => none

theorem abuild_ok {t : TypeId} {ps : List (Nat × AV)} {qs : Array (Nat × Value)} {v : AV} (hp : Rp Z w κ ps qs.toList) (hv : abuild P t ps = some v) : ∃ u, (Instr.build t qs).run P w = .ok u w ∧ R Z w κ v u := by
  unfold abuild at hv
  split at hv
  · rename_i zs pl h1 h2
    obtain ⟨cs, hcs, rfl⟩ := Option.map_eq_some_iff.1 hv
    obtain ⟨z, hz, rfl⟩ := run_tzero h1 w
    obtain ⟨d, hd, hpl⟩ := Option.bind_eq_some_iff.1 h2
    cases d <;> simp only [structPlaces, reduceCtorEq] at hpl
    rename_i fs
    have hm := run_mapM (P := P) (w := w) (fun f : Field => do pure (f.offset, ← sizeOf f.type)) (fun f => (tsize P f.type).map fun k => (f.offset, k)) (fun f y hy => by
      obtain ⟨k, hk, rfl⟩ := Option.map_eq_some_iff.1 hy
      simp [run_tsize hk]) fs.toList pl hpl
    obtain ⟨cells', h6, h7⟩ := afill_ok (cells := z.cells) hp (Rs_cellV _) hcs
    refine ⟨.agg cells', ?_, by simpa using R.agg h7⟩
    have h6' : Instr.fill (fun x => pl.toArray[x]?) z.cells qs.toList = some cells' := by simpa using h6
    simp only [Instr.build, Sem.run_bind, hz, Result.andThen_ok, run_underlying hd, Array.mapM_eq_mapM_toList, map_eq_pure_bind, hm, Sem.run_pure, h6']
  · cases hv


/-! ### new blocks -/
theorem Out.alloc (r : Rel Z κ h w) {cs : List AV} {us : List Value} (hu : Rs Z w κ cs us) (c : Array Value) (E : TypeId) (hc : us.length ≤ c.size) (hcu : ∀ (j : Nat) (u : Value), us[j]? = some u → c[j]? = some u)
    {v : AV} {x : Value} (hv : ∀ κ' : Nat → Slot, κ' h.length = .live 0 (some w.heap.size) c.size → R Z (w.alloc (.cells c E)) κ' v x) : Out Z κ w v (h ++ [.cells 0 cs]) (.ok (.value x) (w.alloc (.cells c E))) := by
  obtain ⟨r', e, hs⟩ := rel_alloc r hu c E hc hcu
  exact ⟨x, _, Z, _, .inl rfl, r', hv _ (upd_same _ _ _), e, hs⟩

theorem R_newPtr {id b sz : Nat} {κ' : Nat → Slot} {w' : World} (hk : κ' id = .live 0 (some b) sz) : R Z w' κ' (.ptr id 0 0) (.pointer (some ⟨b, 0, none⟩)) := by
  refine .ptr ?_
  simp [refOk, hk, ptrAt]
theorem R_newOwn {id b sz n k cap : Nat} {κ' : Nat → Slot} {w' : World} (hk : κ' id = .live 0 (some b) sz) (hn : n ≤ cap) (hc : cap ≤ maxLen) (hs : cap * k = sz) (h0 : 0 < k) : R Z w' κ' (.own id 0 0 n k) (.slice (some ⟨b, 0, none⟩) n cap) := by
  refine .own hn hc (by simp) ?_
  simp only [refOk, hk, ownAt]
  exact ⟨Nat.le_refl _, fun _ => ⟨by simpa using hs, h0, ⟨_, rfl, fun _ => by simp⟩, by omega⟩⟩

theorem alloc_ok {t : TypeId} {zs : List AV} (r : Rel Z κ h w) (hz : tzero P t = some zs) (o : Oper) (ho : o.op = .alloc t) (ρ : Operand → Value) : Out Z κ w (.ptr h.length 0 0) (h ++ [.cells 0 zs]) ((execOp ρ o).run P w) := by
  obtain ⟨z, hz1, rfl⟩ := run_tzero hz w
  have : (execOp ρ o).run P w = .ok (.value (.pointer (some ⟨w.heap.size, 0, none⟩))) (w.alloc (.cells z.cells t)) := by
    simp only [execOp, ho, Sem.run_bind, Instr.alloc, hz1, Result.andThen_ok, newVar, newRow, run_newObj_alloc, Sem.run_pure]
  rw [this]
  exact Out.alloc r (Rs_cellV z.cells.toList) z.cells t (by simp) (fun j u hj => by simpa using hj) (fun κ' hk => R_newPtr hk)

theorem box_ok {t : TypeId} {x : Operand} {a : AV} {cs : List AV} (r : Rel Z κ h w) (o : Oper) (ho : o.op = .box t x) (ρ : Operand → Value) (ha : R Z w κ a (ρ x)) (hc : cellsOf a = some cs) : Out Z κ w (.ptr h.length 0 0) (h ++ [.cells 0 cs]) ((execOp ρ o).run P w) := by
  obtain ⟨us, hu, hru⟩ := cellsOf_ok ha hc
  have : (execOp ρ o).run P w = .ok (.value (.pointer (some ⟨w.heap.size, 0, none⟩))) (w.alloc (.cells us.toArray t)) := by
    simp only [execOp, ho, Sem.run_bind, Instr.box, newVar, newRow, run_newObj_alloc, Sem.run_pure, Result.andThen_ok, hu]
  rw [this]
  exact Out.alloc r hru us.toArray t (by simp) (fun j u hj => by simpa using hj) (fun κ' hk => R_newPtr hk)

theorem Out.frozen (r : Rel Z κ h w) {cs : List AV} {us : List Value} (hu : Rs Z w κ cs us) (E : TypeId) {n : Nat} (hn : n ≤ maxLen) (h0 : n = 0 → cs = []) : Out Z κ w (.sl true n cs) h (.ok (.value (.slice (some ⟨w.heap.size, 0, none⟩) n n)) (w.alloc (.cells us.toArray E))) := by
  obtain ⟨r', e⟩ := rel_frozen r (.cells us.toArray E)
  refine ⟨_, _, _, κ, .inl rfl, r', ?_, e, .refl _⟩
  rcases Nat.eq_zero_or_pos n with hz | hz
  · subst hz; rw [h0 rfl]; exact .sl0 (fun _ => rfl) (by simp [maxLen])
  · refine .sl hz (Nat.le_refl _) (fun _ => rfl) hn (.inr rfl) (fun j u hj => ?_) (hu.ext r e (.refl _))
    rw [addr_add, Nat.zero_add]
    simpa using hj

/-! ### a literal of a slice -/
/-- A list of elements' cells: the zero value's, so many times. -/
def zeros (zs : List AV) (len : Nat) : List AV := (List.replicate len zs).flatten
def abuildSlice (P : Program) (t : TypeId) (len : Nat) (parts : List (Nat × AV)) : Option (List AV × Nat) :=
  match telem P t with
  | some e => match tsize P e, tzero P e with
    | some k, some zs => if 0 < k ∧ zs.length = k ∧ len * k ≤ 16777216 then (afill (fun i => some (i * k, k)) (zeros zs len) parts).map fun cs => (cs, k) else none
    | _, _ => none
  | none => none

theorem flatten_replicate_get {α : Type} (zs : List α) (d : α) : ∀ (len j : Nat), j < len * zs.length → (List.replicate len zs).flatten[j]? = some (zs.getD (j % zs.length) d)
  | 0, j, h => by simp at h
  | len + 1, j, h => by
    have hp : 0 < zs.length := Nat.pos_of_ne_zero fun h0 => by simp [h0] at h
    rw [List.replicate_succ, List.flatten_cons]
    by_cases hj : j < zs.length
    · rw [List.getElem?_append_left hj, Nat.mod_eq_of_lt hj]; simp [hj]
    · rw [List.getElem?_append_right (by omega), flatten_replicate_get zs d len (j - zs.length) (by rw [Nat.add_mul] at h; omega)]
      have e : (j - zs.length) % zs.length = j % zs.length := by
        conv => rhs; rw [show j = (j - zs.length) + zs.length by omega, Nat.add_mod_right]
      rw [e]

theorem zeros_arr (z : Array Value) (len : Nat) (hz : 0 < z.size) : ((Array.range (len * z.size)).map (z[· % z.size]!)).toList = (List.replicate len z.toList).flatten := by
  apply List.ext_getElem?
  intro j
  by_cases hj : j < len * z.size
  · rw [flatten_replicate_get z.toList undef len j (by simpa using hj)]
    have hm : j % z.size < z.size := Nat.mod_lt _ hz
    simp [hj, hm]
  · rw [List.getElem?_eq_none (by simp; omega), List.getElem?_eq_none (by simp; omega)]

theorem Rs_flatten_replicate {zs : List AV} {us : List Value} (hr : Rs Z w κ zs us) : ∀ len, Rs Z w κ (List.replicate len zs).flatten (List.replicate len us).flatten
  | 0 => by simp [Rs.nil]
  | len + 1 => by rw [List.replicate_succ, List.replicate_succ, List.flatten_cons, List.flatten_cons]; exact hr.append (Rs_flatten_replicate hr len)

theorem run_buildSlice' {t : TypeId} {len k : Nat} {ps : List (Nat × AV)} {qs : Array (Nat × Value)} {cs : List AV} (hp : Rp Z w κ ps qs.toList) (hv : abuildSlice P t len ps = some (cs, k)) :
    ∃ us E, (Instr.buildSlice t len qs).run P w = .ok (.slice (some ⟨w.heap.size, 0, none⟩) len len) (w.alloc (.cells us.toArray E)) ∧ Rs Z w κ cs us ∧ cs.length = len * k ∧ 0 < k ∧ len * k ≤ 16777216 := by
  unfold abuildSlice at hv
  split at hv
  · rename_i e he
    split at hv
    · rename_i k' zs h1 h2
      split at hv
      · rename_i hc
        obtain ⟨hk0, hzl, hle⟩ := hc
        obtain ⟨cs', hcs, he'⟩ := Option.map_eq_some_iff.1 hv
        injection he' with e1 e2
        subst e1 e2
        obtain ⟨z, hz, rfl⟩ := run_tzero h2 w
        have hzs : z.cells.size = k' := by simpa using hzl
        have hz0 : Rs Z w κ (zeros (z.cells.toList.map cellV) len) ((Array.range (len * z.cells.size)).map (z.cells[· % z.cells.size]!)).toList := by
          rw [zeros_arr _ _ (by omega)]
          exact Rs_flatten_replicate (Rs_cellV _) len
        obtain ⟨cells', h6, h7⟩ := afill_ok hp hz0 hcs
        have hlen : cs'.length = len * k' := by
          have hl : ∀ (ps : List (Nat × AV)) (cs cs' : List AV), afill (fun i => some (i * k', k')) cs ps = some cs' → cs'.length = cs.length := by
            intro ps
            induction ps with
            | nil => intro cs cs' h; simp only [afill, Option.some.injEq] at h; rw [h]
            | cons p ps ih =>
              intro cs cs' h
              obtain ⟨i, v⟩ := p
              simp only [afill] at h
              split at h
              · split at h
                · rw [ih _ _ h, setMany_length]
                · cases h
              · cases h
          rw [hl _ _ _ hcs]
          simp [zeros, hzs]
        refine ⟨cells'.toList, e, ?_, h7, hlen, hk0, hle⟩
        rw [← hzs] at h6 h1 hle
        simp only [Instr.buildSlice, Sem.run_bind, run_underlying (run_telem he), Result.andThen_ok, run_tsize h1]
        rw [Sem.run_ite, if_neg (by omega)]
        by_cases hl0 : len = 0
        · subst hl0
          have er : ∀ f : Nat → Value, Array.map f (Array.range 0) = #[] := fun f => by apply Array.ext' ; simp
          have h6' : Instr.fill (fun i => some (i * z.cells.size, z.cells.size)) #[] qs.toList = some cells' := by rw [← h6, Nat.zero_mul, er]
          simp [er, h6', newRow]
        · have hne : ¬ (len * z.cells.size = 0) := by
            intro h0
            rcases Nat.mul_eq_zero.1 h0 with h0 | h0
            · exact hl0 h0
            · omega
          simp only [hne, if_false, Sem.run_bind, hz, Result.andThen_ok, Sem.run_pure, h6, newRow, run_newObj_alloc]
      · cases hv
    · cases hv
  · cases hv

end Go.Cx
