/- Maps whose keys are numbers, truths or texts. -/
import Derived.Test.YtjelapkglkcoiaaCxG
import Derived.MapKept
set_option linter.unusedVariables false
set_option linter.unusedSimpArgs false
namespace Go.Cx
open Go.MapKept
variable {P : Program} {Z : Nat → Prop} {κ : Nat → Slot} {h : AHeap} {w : World}

def keyDesc : TypeDesc → Bool
  | .bool | .int _ | .string => true
  | _ => false
/-- A map's kind of keys, and its elements' type. -/
def tmap (P : Program) (t : TypeId) : Option (TypeDesc × TypeId) :=
  match P.underlying t with
  | some (.map k e) => match P.underlying k with
    | some d => if keyDesc d then some (d, e) else none
    | none => none
  | _ => none
def tzeroV (P : Program) (t : TypeId) : Option AV := ((P.info? t).bind (·.zero)).map ofV
theorem tzeroV_ok {t : TypeId} {a : AV} (ht : tzeroV P t = some a) (w : World) : ∃ z : Value, (zeroValue t).run P w = .ok z w ∧ R Z w κ a z := by
  obtain ⟨z, hz, rfl⟩ := Option.map_eq_some_iff.1 ht
  obtain ⟨i, hi, hz⟩ := Option.bind_eq_some_iff.1 hz
  exact ⟨z, by simp [zeroValue, typeInfo, hi, hz], R_ofV z⟩

def isKeyB : TypeDesc → Value → Bool
  | .bool, .bool _ => true
  | .int k, .int k' _ => k' == k
  | .string, .string _ => true
  | _, _ => false
theorem isKey_of {d : TypeDesc} {v : Value} (h : isKeyB d v = true) : IsKey d v := by
  cases d <;> cases v <;> simp_all [isKeyB, IsKey]
theorem plain_key {d : TypeDesc} {v : Value} (h : isKeyB d v = true) : plain v = true := by
  cases d <;> cases v <;> simp_all [isKeyB, plain]
/-- Where a key stands. -/
def afind (d : TypeDesc) (k : Value) : List AV → Option (Option Nat)
  | [] => some none
  | .val v :: ks => match Instr.sameNow d k v with
    | some true => some (some 0)
    | some false => (afind d k ks).map fun r => r.map (· + 1)
    | none => none
  | _ => none

theorem afind_ok {d : TypeDesc} {k : Value} : ∀ {ks : List AV} {es : List MapEntry} {r : Option Nat} (i : Nat), Rs Z w κ ks (es.map (·.key)) → afind d k ks = some r →
    (r = none ∧ Instr.findNow d k es i = some none) ∨ ∃ j e, r = some j ∧ Instr.findNow d k es i = some (some (i + j, e.val)) ∧ es[j]? = some e ∧ Instr.sameNow d k e.key = some true
  | [], es, r, i, hr, hf => by
    cases es with
    | nil => simp [afind] at hf; exact .inl ⟨hf.symm, rfl⟩
    | cons e es => cases hr
  | a :: ks, es, r, i, hr, hf => by
    cases es with
    | nil => cases hr
    | cons e es =>
      simp only [List.map_cons] at hr
      cases hr with
      | cons h1 h2 =>
        cases a <;> simp only [afind, reduceCtorEq] at hf
        rename_i v
        have hv : e.key = v := concV_ok h1 rfl
        cases hs : Instr.sameNow d k v with
        | none => rw [hs] at hf; cases hf
        | some b =>
          rw [hs] at hf
          cases b with
          | true =>
            injection hf with hf
            exact .inr ⟨0, e, hf.symm, by simp [Instr.findNow, hv, hs], rfl, by rw [hv]; exact hs⟩
          | false =>
            obtain ⟨r', hr', he⟩ := Option.map_eq_some_iff.1 hf
            rcases afind_ok (i + 1) h2 hr' with ⟨e1, e2⟩ | ⟨j, e', e1, e2, e3, e4⟩
            · subst e1
              exact .inl ⟨he.symm, by simp [Instr.findNow, hv, hs, e2]⟩
            · subst e1
              exact .inr ⟨j + 1, e', he.symm, by simp only [Instr.findNow, hv, hs, e2]; rw [show i + 1 + j = i + (j + 1) by omega], by simpa using e3, e4⟩

theorem tmap_ok {t : TypeId} {d : TypeDesc} {e : TypeId} (ht : tmap P t = some (d, e)) : ∃ k, P.underlying t = some (.map k e) ∧ P.underlying k = some d := by
  unfold tmap at ht
  split at ht
  · rename_i k e' hu
    split at ht
    · rename_i d' hd
      split at ht
      · injection ht with ht; injection ht with h1 h2; subst h1 h2; exact ⟨k, hu, hd⟩
      · cases ht
    · cases ht
  · cases ht

/-! ### a new one -/
theorem rel_allocMap {es : Array MapEntry} {cl : Nat} {ks vs : List AV} (r : Rel Z κ h w) (h1 : Rs Z w κ ks (es.toList.map (·.key))) (h2 : Rs Z w κ vs (es.toList.map (·.val))) :
    Rel Z (upd κ h.length (.live 0 (some w.heap.size) 0)) (h ++ [.map ks vs]) (w.alloc (.map es cl)) ∧
    Ext Z κ w Z (upd κ h.length (.live 0 (some w.heap.size) 0)) (w.alloc (.map es cl)) ∧ StepAll κ (upd κ h.length (.live 0 (some w.heap.size) 0)) := by
  have hh := r.hole h.length (Nat.le_refl _)
  have hs : StepAll κ (upd κ h.length (.live 0 (some w.heap.size) 0)) := .upd (.inl hh)
  have hal : ∀ b, alive (upd κ h.length (.live 0 (some w.heap.size) 0)) b → alive κ b ∨ w.heap.size ≤ b := by
    rintro b ⟨id, ver, sz, hk⟩
    by_cases hid : id = h.length
    · subst hid; rw [upd_same] at hk; injection hk with _ h2 _; injection h2 with h2; exact .inr (by omega)
    · rw [upd_ne _ _ hid] at hk; exact .inl ⟨id, ver, sz, hk⟩
  have e : Ext Z κ w Z (upd κ h.length (.live 0 (some w.heap.size) 0)) (w.alloc (.map es cl)) :=
    ⟨rfl, rfl, rfl, by simp, fun b hb _ => heap_alloc_old w _ hb, fun _ h => h, fun _ h => .inl h, hal⟩
  refine ⟨⟨fun b hz => by have := r.zlt b hz; simp; omega, fun b hz ha => ?_, fun id hid => ?_, fun id x hx => ?_, ?_⟩, e, hs⟩
  · rcases hal b ha with h1 | h1
    · exact r.za b hz h1
    · have := r.zlt b hz; omega
  · simp at hid
    rw [upd_ne _ _ (by omega)]; exact r.hole id (by omega)
  · by_cases hid : id = h.length
    · subst hid
      simp at hx
      subst hx
      exact ⟨w.heap.size, es, cl, upd_same _ _ _, heap_alloc_new' w _, h1.ext r e hs, h2.ext r e hs⟩
    · have hlt : id < h.length := by
        have := (List.getElem?_eq_some_iff.1 hx).1
        simp at this; omega
      rw [List.getElem?_append_left hlt] at hx
      exact (r.blk id x hx).ext r e hs (upd_ne _ _ hid) fun ver b sz hk => heap_alloc_old w _ (alive_lt r ⟨id, ver, sz, hk⟩)
  · intro id id' ver ver' b sz sz' h1 h2
    by_cases hid : id = h.length <;> by_cases hid' : id' = h.length
    · omega
    · subst hid
      rw [upd_same] at h1; rw [upd_ne _ _ hid'] at h2
      injection h1 with _ h1 _; injection h1 with h1
      have := alive_lt r ⟨id', ver', sz', h2⟩; omega
    · subst hid'
      rw [upd_same] at h2; rw [upd_ne _ _ hid] at h1
      injection h2 with _ h2 _; injection h2 with h2
      have := alive_lt r ⟨id, ver, sz, h1⟩; omega
    · rw [upd_ne _ _ hid] at h1; rw [upd_ne _ _ hid'] at h2
      exact r.inj _ _ _ _ _ _ _ h1 h2

theorem makeMap_ok {t : TypeId} (r : Rel Z κ h w) (o : Oper) (ho : o.op = .makeMap t none) (ρ : Operand → Value) : Out Z κ w (.mp h.length) (h ++ [.map [] []]) ((execOp ρ o).run P w) := by
  have : (execOp ρ o).run P w = .ok (.value (.map (some w.heap.size))) (w.alloc (.map #[] 0)) := by
    simp only [execOp, ho, Option.map_none, Instr.makeMap, Sem.run_bind, run_newObj_alloc, Sem.run_pure, Result.andThen_ok]
  rw [this]
  obtain ⟨r', e, hs⟩ := rel_allocMap (es := #[]) (cl := 0) r (by simpa using Rs.nil) (by simpa using Rs.nil)
  refine ⟨_, _, Z, _, .inl rfl, r', .mp ?_, e, hs⟩
  simp [refOk, upd_same, mapAt]

/-! ### an entry -/
theorem rel_setMap {es es' : Array MapEntry} {cl cl' id b : Nat} {ks vs ks' vs' : List AV} (r : Rel Z κ h w) (hx : h[id]? = some (.map ks vs)) (hk : κ id = .live 0 (some b) 0) (hb : w.heap[b]? = some (.map es cl))
    (h1 : Rs Z w κ ks' (es'.toList.map (·.key))) (h2 : Rs Z w κ vs' (es'.toList.map (·.val))) :
    Rel Z κ (h.set id (.map ks' vs')) { w with heap := w.heap.setIfInBounds b (.map es' cl') } ∧ Ext Z κ w Z κ { w with heap := w.heap.setIfInBounds b (.map es' cl') } := by
  have hal : alive κ b := ⟨id, _, _, hk⟩
  have hne : ∀ b', b' ≠ b → (w.heap.setIfInBounds b (.map es' cl'))[b']? = w.heap[b']? := fun b' hb' => (heap_set hb).2 b' hb'
  have e : Ext Z κ w Z κ { w with heap := w.heap.setIfInBounds b (.map es' cl') } :=
    ⟨rfl, rfl, rfl, by simp, fun b' hb' hn => hne b' (fun e => hn (e ▸ hal)), fun _ h => h, fun _ h => .inl h, fun _ h => .inl h⟩
  refine ⟨⟨fun b hz => by have := r.zlt b hz; simpa using this, r.za, fun id' hid' => r.hole id' (by simpa using hid'), fun id' x hx' => ?_, r.inj⟩, e⟩
  by_cases hid : id' = id
  · subst hid
    have hlt := (List.getElem?_eq_some_iff.1 hx).1
    rw [List.getElem?_set_self hlt] at hx'
    injection hx' with hx'
    subst hx'
    exact ⟨b, es', cl', hk, (heap_set hb).1, h1.ext r e (.refl _), h2.ext r e (.refl _)⟩
  · rw [List.getElem?_set_ne (Ne.symm hid)] at hx'
    refine (r.blk id' x hx').ext r e (.refl _) rfl fun ver' b' sz' hk' => hne b' fun eb => hid ?_
    subst eb
    exact r.inj _ _ _ _ _ _ _ hk' hk

def ainsert (P : Program) (t : TypeId) (m k x : AV) (h : AHeap) : Option AHeap :=
  match tmap P t, m, k with
  | some (d, _), .mp id, .val kv => if isKeyB d kv then match h[id]? with
      | some (.map ks vs) => match afind d kv ks with
        | some none => some (h.set id (.map (ks ++ [.val kv]) (vs ++ [x])))
        | some (some j) => some (h.set id (.map ks (vs.set j x)))
        | none => none
      | _ => none
    else none
  | _, _, _ => none

theorem same_key {d : TypeDesc} {a b : Value} (ha : isKeyB d a = true) (h : Instr.sameNow d a b = some true) : b = a := by
  cases d <;> cases a <;> cases b <;> simp_all [isKeyB, Instr.sameNow, bytes_beq]

theorem map_keys_modify (es : Array MapEntry) (j : Nat) (k v : Value) (e : MapEntry) (he : es[j]? = some e) (hk : e.key = k) : (es.modify j fun e => { e with key := k, val := v }).toList.map (·.key) = es.toList.map (·.key) := by
  apply List.ext_getElem?
  intro i
  simp only [List.getElem?_map, Array.getElem?_toList, Array.getElem?_modify]
  by_cases hij : j = i
  · subst hij; simp [he, hk]
  · simp [hij]
theorem map_vals_modify (es : Array MapEntry) (j : Nat) (k v : Value) : (es.modify j fun e => { e with key := k, val := v }).toList.map (·.val) = (es.toList.map (·.val)).set j v := by
  apply List.ext_getElem?
  intro i
  simp only [List.getElem?_map, Array.getElem?_toList, Array.getElem?_modify, List.getElem?_set]
  by_cases hij : j = i
  · subst hij
    by_cases hj : j < es.size
    · simp [hj]
    · simp [hj]
  · simp [hij]

theorem insert_ok {t : TypeId} {m k x : AV} {cm ck cx : Value} {h' : AHeap} (r : Rel Z κ h w) (hm : R Z w κ m cm) (hk : R Z w κ k ck) (hx : R Z w κ x cx) (hv : ainsert P t m k x h = some h') :
    ∃ w', (Instr.mapUpdate t cm ck cx).run P w = .ok () w' ∧ Rel Z κ h' w' ∧ Ext Z κ w Z κ w' := by
  unfold ainsert at hv
  split at hv
  · rename_i d e id kv ht
    split at hv
    · rename_i hkd
      split at hv
      · rename_i ks vs hb
        obtain ⟨kt, hmt, hkt⟩ := tmap_ok ht
        have hck : ck = kv := concV_ok hk rfl
        subst hck
        have hkey := isKey_of hkd
        obtain ⟨b, es, cl, hl, hw, hks, hvs⟩ := r.blk id _ hb
        have hcm : cm = .map (some b) := by
          cases hm with
          | mp hr =>
            rw [refOk, hl] at hr
            have := hr.2 rfl
            simp only [mapAt] at this
            rw [this]
        subst hcm
        split at hv
        · rename_i hf
          injection hv with hv; subst hv
          rcases afind_ok (k := ck) (d := d) 0 hks hf with ⟨_, h1⟩ | ⟨j, e', h0, _⟩
          · obtain ⟨r', ex⟩ := rel_setMap (es' := es.push ⟨ck, cx, cl⟩) (cl' := cl + 1) r hb hl hw (ks' := ks ++ [.val ck]) (vs' := vs ++ [x])
              (by simpa using hks.append (.cons (.val (plain_key hkd)) .nil)) (by simpa using hvs.append (.cons hx .nil))
            refine ⟨_, ?_, r', ex⟩
            simp [Instr.mapUpdate, run_underlying hmt, MapKept.run_getObj_map hw, run_checkKey hkt hkey, run_findKey hkt h1, run_setObj_map _ hw, Result.andThen]
          · cases h0
        · rename_i j hf
          injection hv with hv; subst hv
          rcases afind_ok (k := ck) (d := d) 0 hks hf with ⟨h0, _⟩ | ⟨j', e', h0, h1, h2, h3⟩
          · cases h0
          · injection h0 with h0; subst h0
            have hj : es[j]? = some e' := by simpa using h2
            have hke := same_key hkd h3
            obtain ⟨r', ex⟩ := rel_setMap (es' := es.modify j fun e => { e with key := ck, val := cx }) (cl' := cl) r hb hl hw (ks' := ks) (vs' := vs.set j x)
              (by rw [map_keys_modify es j ck cx e' hj hke]; exact hks) (by rw [map_vals_modify]; exact Rs.set hx hvs j)
            refine ⟨_, ?_, r', ex⟩
            simp [Instr.mapUpdate, run_underlying hmt, MapKept.run_getObj_map hw, run_checkKey hkt hkey, run_findKey hkt h1, hj, hke, run_keyThatStays hkey, run_setObj_map _ hw, Result.andThen]
        · cases hv
      · cases hv
    · cases hv
  · cases hv

/-! ### looking up -/
def mapOf (m : AV) (h : AHeap) : Option (List AV × List AV) :=
  match m with
  | .fmap ks vs => some (ks, vs)
  | .mp id => match h[id]? with
    | some (.map ks vs) => some (ks, vs)
    | _ => none
  | .val (.map none) => some ([], [])
  | _ => none
def lookV (d : TypeDesc) (kv : Value) (z : Option AV) (p : List AV × List AV) : Option (AV × Bool) :=
  match afind d kv p.1 with
  | some (some j) => (p.2[j]?).map fun v => (v, true)
  | some none => z.map fun z => (z, false)
  | none => none
def okV (ok : Bool) (p : AV × Bool) : AV := if ok then .tup [p.1, .val (.bool p.2)] else p.1
def alookup (P : Program) (t : TypeId) (m k : AV) (ok : Bool) (h : AHeap) : Option AV :=
  match tmap P t, k with
  | some (d, e), .val kv => if isKeyB d kv then ((mapOf m h).bind (lookV d kv (tzeroV P e))).map (okV ok) else none
  | _, _ => none

theorem mapOf_ok {m : AV} {cm : Value} {p : List AV × List AV} (r : Rel Z κ h w) (hm : R Z w κ m cm) (hp : mapOf m h = some p) :
    ∃ es : Array MapEntry, Rs Z w κ p.1 (es.toList.map (·.key)) ∧ Rs Z w κ p.2 (es.toList.map (·.val)) ∧ ((cm = .map none ∧ es = #[]) ∨ ∃ b cl, cm = .map (some b) ∧ w.heap[b]? = some (.map es cl)) := by
  unfold mapOf at hp
  split at hp
  · rename_i ks vs
    injection hp with hp; subst hp
    cases hm with
    | fmap hz hb h1 h2 h3 h4 => subst h1 h2; exact ⟨_, h3, h4, .inr ⟨_, _, rfl, hb⟩⟩
  · rename_i id
    split at hp
    · rename_i ks vs hb
      injection hp with hp; subst hp
      obtain ⟨b, es, cl, hl, hw, hks, hvs⟩ := r.blk id _ hb
      cases hm with
      | mp hr =>
        rw [refOk, hl] at hr
        have := hr.2 rfl
        simp only [mapAt] at this
        subst this
        exact ⟨es, hks, hvs, .inr ⟨_, _, rfl, hw⟩⟩
    · cases hp
  · injection hp with hp; subst hp
    exact ⟨#[], .nil, .nil, .inl ⟨concV_ok hm rfl, rfl⟩⟩
  · cases hp

theorem lookup_ok {t : TypeId} {m k v : AV} {cm ck : Value} {ok : Bool} (r : Rel Z κ h w) (hm : R Z w κ m cm) (hk : R Z w κ k ck) (hv : alookup P t m k ok h = some v) :
    ∃ u, (Instr.lookup t cm ck ok).run P w = .ok u w ∧ R Z w κ v u := by
  unfold alookup at hv
  split at hv
  · rename_i d e kv ht
    split at hv
    · rename_i hkd
      obtain ⟨q, hq, rfl⟩ := Option.map_eq_some_iff.1 hv
      obtain ⟨p, hp, hl⟩ := Option.bind_eq_some_iff.1 hq
      obtain ⟨kt, hmt, hkt⟩ := tmap_ok ht
      have hck : ck = kv := concV_ok hk rfl
      subst hck
      have hkey := isKey_of hkd
      obtain ⟨es, hks, hvs, hc⟩ := mapOf_ok r hm hp
      unfold lookV at hl
      split at hl
      · rename_i j hf
        obtain ⟨v, hv', rfl⟩ := Option.map_eq_some_iff.1 hl
        rcases afind_ok (k := ck) (d := d) 0 hks hf with ⟨h0, _⟩ | ⟨j', e', h0, h1, h2, h3⟩
        · cases h0
        · injection h0 with h0; subst h0
          obtain ⟨u, hu, hr⟩ := hvs.get j v hv'
          have hue : u = e'.val := by
            rw [List.getElem?_map, h2] at hu; simp at hu; exact hu.symm
          refine ⟨if ok then .tuple #[e'.val, .bool true] else e'.val, ?_, ?_⟩
          · rcases hc with ⟨rfl, rfl⟩ | ⟨b, cl, rfl, hw⟩
            · simp at h2
            · simp [Instr.lookup, run_underlying hmt, MapKept.run_getObj_map hw, run_checkKey hkt hkey, run_findKey hkt h1, Result.andThen]
          rw [← hue]
          cases ok
          · exact hr
          · exact .tup (.cons hr (.cons (.val rfl) .nil))
      · rename_i hf
        obtain ⟨z, hz, rfl⟩ := Option.map_eq_some_iff.1 hl
        rcases afind_ok (k := ck) (d := d) 0 hks hf with ⟨_, h1⟩ | ⟨j, e', h0, _⟩
        · obtain ⟨u, hu, hr⟩ := tzeroV_ok (Z := Z) (κ := κ) hz w
          refine ⟨if ok then .tuple #[u, .bool false] else u, ?_, ?_⟩
          · rcases hc with ⟨rfl, rfl⟩ | ⟨b, cl, rfl, hw⟩
            · simp [Instr.lookup, run_underlying hmt, run_checkKey hkt hkey, Instr.findKey, run_underlying hkt, Instr.findNow, hu, Result.andThen]
            · simp [Instr.lookup, run_underlying hmt, MapKept.run_getObj_map hw, run_checkKey hkt hkey, run_findKey hkt h1, hu, Result.andThen]
          cases ok
          · exact hr
          · exact .tup (.cons hr (.cons (.val rfl) .nil))
        · cases h0
      · cases hl
    · cases hv
  · cases hv

end Go.Cx
