/- append, make; values without an address. -/
import Derived.Test.YtjelapkglkcoiaaCxE
set_option linter.unusedVariables false
namespace Go.Cx
variable {P : Program} {Z : Nat → Prop} {κ : Nat → Slot} {h : AHeap} {w : World}

/-! ### append -/
/-- The elements of a slice that is read. -/
def srcCells (k : Nat) (h : AHeap) : AV → Option (Nat × List AV)
  | .sl _ m ys => some (m, ys)
  | .own id ver off m k' => match h[id]? with
    | some (.cells ver' cs) => if ver = ver' ∧ k' = k ∧ (off + m) * k ≤ cs.length then some (m, (cs.drop (off * k)).take (m * k)) else none
    | _ => none
  | _ => none

/-- What stands behind an own slice. -/
theorem own_slice (r : Rel Z κ h w) {id ver off n k : Nat} {cs : List AV} {c : Value} (hp : R Z w κ (.own id ver off n k) c) (hx : h[id]? = some (.cells ver cs)) :
    (∃ sz A, κ id = .live ver none sz ∧ c = .slice A 0 0 ∧ off = 0 ∧ n = 0 ∧ cs = []) ∨
    ∃ b sz arr E us cap a, κ id = .live ver (some b) sz ∧ c = .slice (some a) n cap ∧ n ≤ cap ∧ (off + cap) * k = sz ∧ 0 < k ∧ (0 < cap → a = ⟨b, off * k, none⟩) ∧ off + cap ≤ maxLen ∧
      w.heap[b]? = some (.cells arr E (0, 0)) ∧ arr.size = sz ∧ us.length ≤ arr.size ∧ (∀ (j : Nat) (u : Value), us[j]? = some u → arr[j]? = some u) ∧ Rs Z w κ cs us := by
  cases hp with
  | own h0 h1 hA h2 =>
    rename_i A cap
    obtain ⟨ob, sz, h3, h4⟩ := r.blk id _ hx
    simp only [refOk, h3] at h2
    have h5 := h2.2 trivial
    cases ob with
    | none =>
      simp only [ownAt] at h5
      obtain ⟨e1, e2, rfl⟩ := h5
      subst e2
      exact .inl ⟨sz, A, h3, rfl, e1, rfl, h4⟩
    | some b =>
      simp only [ownAt] at h5
      obtain ⟨e1, e2, ⟨a, rfl, e3⟩, e4⟩ := h5
      obtain ⟨arr, E, us, h6, h7, h8, h9, h10⟩ := h4
      exact .inr ⟨b, sz, arr, E, us, cap, a, h3, rfl, h0, e1, e2, e3, e4, h6, h7, h8, h9, h10⟩

theorem srcCells_ok (r : Rel Z κ h w) {k m : Nat} {x : AV} {c : Value} {ys : List AV} (hx : R Z w κ x c) (hs : srcCells k h x = some (m, ys)) (hm : 0 < m) :
    ∃ a cap us, c = .slice (some a) m cap ∧ CellsAt w a us ∧ Rs Z w κ ys us := by
  unfold srcCells at hs
  split at hs
  · simp only [Option.some.injEq, Prod.mk.injEq] at hs
    obtain ⟨rfl, rfl⟩ := hs
    cases hx with
    | sl0 => omega
    | sl h2 h3 h4 h5 h6 h7 h8 => exact ⟨_, _, _, rfl, h7, h8⟩
  · rename_i id ver off m' k'
    split at hs
    · rename_i ver' cs hh
      split at hs
      · rename_i hc
        obtain ⟨rfl, rfl, hlen⟩ := hc
        simp only [Option.some.injEq, Prod.mk.injEq] at hs
        obtain ⟨rfl, rfl⟩ := hs
        rcases own_slice r hx hh with ⟨_, _, _, _, _, h0, _⟩ | ⟨b, sz, arr, E, us, cap, a, e1, e2, e3, e4, e5, e6, e7, e8, e9, e10, e11, e12⟩
        · omega
        · refine ⟨a, cap, (us.drop (off * k')).take (m' * k'), e2, ?_, (e12.drop _).take _⟩
          rw [e6 (by omega)]
          exact (cells_drop e8 e11 (off * k')).take _
      · cases hs
    · cases hs
  · cases hs

def tbytes (P : Program) (t : TypeId) : Option Nat := (P.info? t).map (·.bytes)

def aappend (P : Program) (t : TypeId) (s x : AV) (h : AHeap) : Option (AV × AHeap) :=
  match telem P t with
  | none => none
  | some e => match tsize P e, tzero P e, tbytes P e with
    | some k, some zs, some by_ => match srcCells k h x with
      | none => none
      | some (m, ys) =>
        if 0 < k ∧ zs.length = k ∧ ys.length = m * k ∧ ys.all isOne = true then
          match s with
          | .sl true n cs => if (0 < m ∨ n = 0) ∧ cs.length = n * k ∧ (n + m) * by_ ≤ 140737488355328 ∧ n + m ≤ maxLen then some (.own h.length 0 0 (n + m) k, h ++ [.cells 0 (cs ++ ys)]) else none
          | .own id ver 0 n k' => match h[id]? with
            | some (.cells ver' cs) => if ver = ver' ∧ k' = k ∧ cs.length = n * k ∧ (n + m) * by_ ≤ 140737488355328 ∧ n + m ≤ maxLen then some (.own id (ver + 1) 0 (n + m) k, h.set id (.cells (ver + 1) (cs ++ ys))) else none
            | _ => none
          | _ => none
        else none
    | _, _, _ => none

theorem Rs_isOne : ∀ {vs : List AV} {us : List Value}, Rs Z w κ vs us → vs.all isOne = true → ∀ u ∈ us, u.oneCell' = true
  | _, _, .nil, _, u, hu => by simp at hu
  | _, _, .cons h1 h2, ho, u, hu => by
    simp only [List.all_cons, Bool.and_eq_true] at ho
    simp only [List.mem_cons] at hu
    rcases hu with rfl | hu
    · exact one_of h1 ho.1
    · exact Rs_isOne h2 ho.2 u hu

theorem heap_setRow_ne (w : World) (g : Nat) (cs : Array Value) {b : Nat} (hb : b ≠ g) : (w.setRow g cs).heap[b]? = w.heap[b]? := setRow_other w g b cs hb

/-- An own block goes on at another place, or longer. -/
theorem rel_regrow (r : Rel Z κ h w) {id ver : Nat} {cs ys : List AV} (hx : h[id]? = some (.cells ver cs)) {b' : Nat} {arr' : Array Value} {E : TypeId} {w' : World}
    (hb : (∃ sz, κ id = .live ver (some b') sz) ∨ w.heap.size ≤ b')
    (hos : w'.os = w.os) (htape : w'.tape = w.tape) (hout : w'.output = w.output) (hsz : w.heap.size ≤ w'.heap.size)
    (hkeep : ∀ b, b < w.heap.size → b ≠ b' → w'.heap[b]? = w.heap[b]?) (hnew : w'.heap[b']? = some (.cells arr' E (0, 0)))
    {us ws : List Value} (hus : Rs Z w κ cs us) (hws : Rs Z w κ ys ws) (hlen : (us ++ ws).length ≤ arr'.size) (hcell : ∀ (j : Nat) (u : Value), (us ++ ws)[j]? = some u → arr'[j]? = some u) :
    Rel Z (upd κ id (.live (ver + 1) (some b') arr'.size)) (h.set id (.cells (ver + 1) (cs ++ ys))) w' ∧ Ext Z κ w Z (upd κ id (.live (ver + 1) (some b') arr'.size)) w' ∧ StepAll κ (upd κ id (.live (ver + 1) (some b') arr'.size)) := by
  obtain ⟨ob, sz, h3, h4⟩ := r.blk id _ hx
  have hid := (List.getElem?_eq_some_iff.1 hx).1
  have hst : StepAll κ (upd κ id (.live (ver + 1) (some b') arr'.size)) := .upd (.inr (by rw [h3]; simp [Slot.step]))
  have hal : ∀ b, alive (upd κ id (.live (ver + 1) (some b') arr'.size)) b → alive κ b ∨ w.heap.size ≤ b := by
    rintro b ⟨j, v, s, hk⟩
    by_cases hj : j = id
    · subst hj; rw [upd_same] at hk; injection hk with _ h2 _; injection h2 with h2; subst h2
      rcases hb with ⟨sz, hb⟩ | hb
      · exact .inl ⟨j, _, _, hb⟩
      · exact .inr hb
    · rw [upd_ne _ _ hj] at hk; exact .inl ⟨j, v, s, hk⟩
  have hb'al : ∀ b, b < w.heap.size → ¬ alive κ b → b ≠ b' := by
    rintro b hbl hn rfl
    rcases hb with ⟨sz, hb⟩ | hb
    · exact hn ⟨id, _, _, hb⟩
    · omega
  have e : Ext Z κ w Z (upd κ id (.live (ver + 1) (some b') arr'.size)) w' :=
    ⟨hos, htape, hout, hsz, fun b hbl hn => hkeep b hbl (hb'al b hbl hn), fun _ h => h, fun _ h => .inl h, hal⟩
  refine ⟨⟨fun b hz => Nat.lt_of_lt_of_le (r.zlt b hz) hsz, fun b hz ha => ?_, fun j hj => ?_, fun j x hj => ?_, ?_⟩, e, hst⟩
  · rcases hal b ha with h1 | h1
    · exact r.za b hz h1
    · have := r.zlt b hz; omega
  · simp at hj
    rw [upd_ne _ _ (by omega)]; exact r.hole j hj
  · by_cases hji : j = id
    · subst hji
      rw [List.getElem?_set_self hid] at hj
      injection hj with hj
      subst hj
      exact ⟨some b', arr'.size, upd_same _ _ _, arr', E, us ++ ws, hnew, rfl, hlen, hcell, (hus.append hws).ext r e hst⟩
    · rw [List.getElem?_set_ne (Ne.symm hji)] at hj
      refine (r.blk j x hj).ext r e hst (upd_ne _ _ hji) fun v b s hk => hkeep b (alive_lt r ⟨j, v, s, hk⟩) ?_
      rintro rfl
      rcases hb with ⟨sz, hb⟩ | hb
      · exact hji (r.inj _ _ _ _ _ _ _ hk hb)
      · have := alive_lt r ⟨j, v, s, hk⟩; omega
  · intro j j' v v' b s s' h1 h2
    by_cases hj : j = id <;> by_cases hj' : j' = id
    · rw [hj, hj']
    · subst hj
      rw [upd_same] at h1; rw [upd_ne _ _ hj'] at h2
      injection h1 with _ h1 _; injection h1 with h1; subst h1
      rcases hb with ⟨sz, hb⟩ | hb
      · exact (r.inj _ _ _ _ _ _ _ hb h2)
      · have := alive_lt r ⟨j', v', s', h2⟩; omega
    · subst hj'
      rw [upd_same] at h2; rw [upd_ne _ _ hj] at h1
      injection h2 with _ h2 _; injection h2 with h2; subst h2
      rcases hb with ⟨sz, hb⟩ | hb
      · exact (r.inj _ _ _ _ _ _ _ h1 hb)
      · have := alive_lt r ⟨j, v, s, h1⟩; omega
    · rw [upd_ne _ _ hj] at h1; rw [upd_ne _ _ hj'] at h2
      exact r.inj _ _ _ _ _ _ _ h1 h2


theorem run_append_room' (t ty e : TypeId) (i : TypeInfo) (ht : P.underlying t = some (.slice e)) (hi : P.info? e = some i)
    (g sLen sCap : Nat) (cur : Array Value) (E : TypeId) (hg : w.heap[g]? = some (.cells cur E (0, 0)))
    (a : Addr) (m c : Nat) (news : List Value) (hl : news.length = m * i.size) (hnews : ∀ j u, news[j]? = some u → w.cell? (a.add j) = some u) (h1 : ∀ u ∈ news, u.oneCell' = true)
    (hroom : sLen + m ≤ sCap) (hfit : sLen * i.size + news.length ≤ cur.size) :
    (Builtin.append_ #[t, t] ty #[.slice (some ⟨g, 0, none⟩) sLen sCap, .slice (some a) m c]).run P w =
      .ok (.slice (some ⟨g, 0, none⟩) (sLen + m) sCap) (w.setRow g (cur.toList.take (sLen * i.size) ++ news ++ cur.toList.drop (sLen * i.size + news.length)).toArray) := by
  have hf := run_firstCells_some (P := P) w i.size m a m c news hl hnews
  have hst := run_storeCells_at P g (sLen * i.size) E news 0 cur w hg (by simpa using hfit) h1
  simp only [Nat.add_zero] at hst
  simp [Builtin.append_, run_underlying ht, sizeOf, typeInfo, hi, Builtin.lenOf, hroom, hf, Addr.add_lit, hst]

theorem room_cells {cur : Array Value} {us ws : List Value} {n : Nat} (hn : us.length = n) (h1 : n + ws.length ≤ cur.size) (h2 : ∀ (j : Nat) (u : Value), us[j]? = some u → cur[j]? = some u) :
    ∀ (j : Nat) (u : Value), (us ++ ws)[j]? = some u → ((cur.toList.take n ++ ws ++ cur.toList.drop (n + ws.length)).toArray)[j]? = some u := by
  intro j u hj
  have htl : (cur.toList.take n).length = n := by simp; omega
  by_cases hjn : j < n
  · rw [List.getElem?_append_left (by omega)] at hj
    have := h2 j u hj
    simp only [List.getElem?_toArray, List.append_assoc]
    rw [List.getElem?_append_left (by omega), List.getElem?_take_of_lt hjn]
    simpa using this
  · rw [List.getElem?_append_right (by omega), hn] at hj
    have hjl := (List.getElem?_eq_some_iff.1 hj).1
    simp only [List.getElem?_toArray, List.append_assoc]
    rw [List.getElem?_append_right (by omega), htl, List.getElem?_append_left hjl]
    exact hj

theorem grown_cells {us ws : List Value} {z : Array Value} {x : Nat} : ∀ (j : Nat) (u : Value), (us ++ ws)[j]? = some u → (us.toArray ++ ws.toArray ++ Builtin.zeroCells z x)[j]? = some u := by
  intro j u hj
  have hlt := (List.getElem?_eq_some_iff.1 hj).1
  have e : (us.toArray ++ ws.toArray ++ Builtin.zeroCells z x) = ((us ++ ws) ++ (Builtin.zeroCells z x).toList).toArray := by
    apply Array.ext'
    simp
  rw [e, List.getElem?_toArray, List.getElem?_append_left hlt]
  exact hj

/-- Nothing is read. -/
theorem src0_ok {k : Nat} {x : AV} {c : Value} {ys : List AV} (hx : R Z w κ x c) (hs : srcCells k h x = some (0, ys)) : ∃ A cap, c = .slice A 0 cap := by
  unfold srcCells at hs
  split at hs
  · simp only [Option.some.injEq, Prod.mk.injEq] at hs
    obtain ⟨rfl, rfl⟩ := hs
    cases hx with
    | sl0 => exact ⟨_, _, rfl⟩
    | sl h2 => exact absurd h2 (by omega)
  · split at hs
    · split at hs
      · simp only [Option.some.injEq, Prod.mk.injEq] at hs
        obtain ⟨rfl, rfl⟩ := hs
        cases hx with
        | own => exact ⟨_, _, rfl⟩
      · cases hs
    · cases hs
  · cases hs

theorem run_append_none (t ty e : TypeId) (i : TypeInfo) (ht : P.underlying t = some (.slice e)) (hi : P.info? e = some i) (A : Option Addr) (n cap : Nat) (hn : n ≤ cap) (A' : Option Addr) (c' : Nat) :
    (Builtin.append_ #[t, t] ty #[.slice A n cap, .slice A' 0 c']).run P w = .ok (.slice A n cap) w := by
  have hf : (Builtin.firstCells i.size 0 (.slice A' 0 c')).run P w = .ok #[] w := by
    cases A' with
    | none => simp [Builtin.firstCells]
    | some a => simpa using run_firstCells_some (P := P) w i.size 0 a 0 c' [] (by simp) (by intro j v hj; simp at hj)
  cases A with
  | none => simp [Builtin.append_, run_underlying ht, sizeOf, typeInfo, hi, Builtin.lenOf, hn, hf]
  | some a => simp [Builtin.append_, run_underlying ht, sizeOf, typeInfo, hi, Builtin.lenOf, hn, hf, storeCells]

theorem rel_new_none (r : Rel Z κ h w) : Rel Z (upd κ h.length (.live 0 none 0)) (h ++ [.cells 0 []]) w ∧ Ext Z κ w Z (upd κ h.length (.live 0 none 0)) w ∧ StepAll κ (upd κ h.length (.live 0 none 0)) := by
  have hh := r.hole h.length (Nat.le_refl _)
  have hs : StepAll κ (upd κ h.length (.live 0 none 0)) := .upd (.inl hh)
  have hal : ∀ b, alive (upd κ h.length (.live 0 none 0)) b → alive κ b := by
    rintro b ⟨id, ver, sz, hk⟩
    by_cases hid : id = h.length
    · subst hid; rw [upd_same] at hk; cases hk
    · rw [upd_ne _ _ hid] at hk; exact ⟨id, ver, sz, hk⟩
  have e : Ext Z κ w Z (upd κ h.length (.live 0 none 0)) w := ⟨rfl, rfl, rfl, Nat.le_refl _, fun _ _ _ => rfl, fun _ h => h, fun _ h => .inl h, fun b ha => .inl (hal b ha)⟩
  refine ⟨⟨r.zlt, fun b hz ha => r.za b hz (hal b ha), fun id hid => ?_, fun id x hx => ?_, ?_⟩, e, hs⟩
  · simp at hid
    rw [upd_ne _ _ (by omega)]; exact r.hole id (by omega)
  · by_cases hid : id = h.length
    · subst hid
      simp at hx
      subst hx
      exact ⟨none, 0, upd_same _ _ _, rfl⟩
    · have hlt : id < h.length := by
        have := (List.getElem?_eq_some_iff.1 hx).1
        simp at this; omega
      rw [List.getElem?_append_left hlt] at hx
      exact (r.blk id x hx).ext r e hs (upd_ne _ _ hid) fun _ _ _ _ => rfl
  · intro id id' ver ver' b sz sz' h1 h2
    by_cases hid : id = h.length
    · subst hid; rw [upd_same] at h1; cases h1
    · by_cases hid' : id' = h.length
      · subst hid'; rw [upd_same] at h2; cases h2
      · rw [upd_ne _ _ hid] at h1; rw [upd_ne _ _ hid'] at h2
        exact r.inj _ _ _ _ _ _ _ h1 h2

/-- An own block goes on as it is. -/
theorem rel_bump (r : Rel Z κ h w) {id ver sz : Nat} {ob : Option Nat} {cs : List AV} (hx : h[id]? = some (.cells ver cs)) (hk : κ id = .live ver ob sz) :
    Rel Z (upd κ id (.live (ver + 1) ob sz)) (h.set id (.cells (ver + 1) cs)) w ∧ Ext Z κ w Z (upd κ id (.live (ver + 1) ob sz)) w ∧ StepAll κ (upd κ id (.live (ver + 1) ob sz)) := by
  have hid := (List.getElem?_eq_some_iff.1 hx).1
  have hst : StepAll κ (upd κ id (.live (ver + 1) ob sz)) := .upd (.inr (by rw [hk]; simp [Slot.step]))
  have hal : ∀ b, alive (upd κ id (.live (ver + 1) ob sz)) b → alive κ b := by
    rintro b ⟨j, v, s, hkj⟩
    by_cases hj : j = id
    · subst hj; rw [upd_same] at hkj; injection hkj with _ h2 _; subst h2; exact ⟨j, _, _, hk⟩
    · rw [upd_ne _ _ hj] at hkj; exact ⟨j, v, s, hkj⟩
  have e : Ext Z κ w Z (upd κ id (.live (ver + 1) ob sz)) w := ⟨rfl, rfl, rfl, Nat.le_refl _, fun _ _ _ => rfl, fun _ h => h, fun _ h => .inl h, fun b ha => .inl (hal b ha)⟩
  refine ⟨⟨r.zlt, fun b hz ha => r.za b hz (hal b ha), fun j hj => ?_, fun j x hj => ?_, ?_⟩, e, hst⟩
  · simp at hj
    rw [upd_ne _ _ (by omega)]; exact r.hole j hj
  · by_cases hji : j = id
    · subst hji
      rw [List.getElem?_set_self hid] at hj
      injection hj with hj
      subst hj
      obtain ⟨ob', sz', h1, h2⟩ := r.blk j _ hx
      rw [hk] at h1
      injection h1 with e1 e2 e3
      subst e2 e3
      refine ⟨ob, sz, upd_same _ _ _, ?_⟩
      cases ob with
      | none => exact h2
      | some b =>
        obtain ⟨c, E, us, h3, h4, h5, h6, h7⟩ := h2
        exact ⟨c, E, us, h3, h4, h5, h6, h7.ext r e hst⟩
    · rw [List.getElem?_set_ne (Ne.symm hji)] at hj
      exact (r.blk j x hj).ext r e hst (upd_ne _ _ hji) fun _ _ _ _ => rfl
  · intro j j' v v' b s s' h1 h2
    by_cases hj : j = id <;> by_cases hj' : j' = id
    · rw [hj, hj']
    · subst hj
      rw [upd_same] at h1; rw [upd_ne _ _ hj'] at h2
      injection h1 with _ h1 _; subst h1
      exact r.inj _ _ _ _ _ _ _ hk h2
    · subst hj'
      rw [upd_same] at h2; rw [upd_ne _ _ hj] at h1
      injection h2 with _ h2 _; subst h2
      exact r.inj _ _ _ _ _ _ _ h1 hk
    · rw [upd_ne _ _ hj] at h1; rw [upd_ne _ _ hj'] at h2
      exact r.inj _ _ _ _ _ _ _ h1 h2

def app0 (k : Nat) (s : AV) (h : AHeap) : Option (AV × AHeap) :=
  match s with
  | .sl true n cs => if n = 0 ∧ cs.length = n * k then some (AV.own h.length 0 0 (n + 0) k, h ++ [ABlk.cells 0 (cs ++ [])]) else none
  | .own id ver 0 n k' => match h[id]? with
    | some (.cells ver' cs) => if ver = ver' ∧ k' = k ∧ cs.length = n * k then some (AV.own id (ver + 1) 0 (n + 0) k, h.set id (ABlk.cells (ver + 1) (cs ++ []))) else none
    | _ => none
  | _ => none
theorem append0_ok {t ty e : TypeId} {i : TypeInfo} {s x v : AV} {c d : Value} {h' : AHeap} {ys : List AV} (r : Rel Z κ h w) (hs : R Z w κ s c) (hx : R Z w κ x d) (ht : P.underlying t = some (.slice e)) (hi : P.info? e = some i)
    (hsrc : srcCells i.size h x = some (0, ys)) (h0 : 0 < i.size) (hy : ys = [])
    (hv : app0 i.size s h = some (v, h')) :
    ∃ u w' κ', (Builtin.append_ #[t, t] ty #[c, d]).run P w = .ok u w' ∧ Rel Z κ' h' w' ∧ R Z w' κ' v u ∧ Ext Z κ w Z κ' w' ∧ StepAll κ κ' := by
  subst hy
  obtain ⟨A', c', rfl⟩ := src0_ok hx hsrc
  unfold app0 at hv
  split at hv
  · rename_i n cs
    split at hv
    · rename_i hc
      obtain ⟨hn0, hl⟩ := hc
      subst hn0
      have : cs = [] := List.eq_nil_of_length_eq_zero (by rw [hl]; simp)
      subst this
      simp only [Option.some.injEq, Prod.mk.injEq] at hv
      obtain ⟨rfl, rfl⟩ := hv
      cases hs with
      | sl0 h2 h3 =>
        rename_i A cap
        have hz := h2 rfl
        subst hz
        obtain ⟨r', e', s'⟩ := rel_new_none r
        refine ⟨_, w, _, run_append_none t ty e i ht hi A 0 0 (Nat.le_refl _) A' c', r', ?_, e', s'⟩
        refine .own (Nat.le_refl _) h3 (by simp) ?_
        simp [refOk, upd_same, ownAt]
      | sl h2 => exact absurd h2 (by omega)
    · cases hv
  · rename_i id ver n k'
    split at hv
    · rename_i ver' cs hh
      split at hv
      · rename_i hc
        obtain ⟨rfl, rfl, hcl⟩ := hc
        simp only [Option.some.injEq, Prod.mk.injEq] at hv
        obtain ⟨rfl, rfl⟩ := hv
        rcases own_slice r hs hh with ⟨sz, A0, q1, rfl, _, rfl, rfl⟩ | ⟨b, sz, arr, E, us, cap, a0, q1, rfl, q3, q4, q5, q6, q7, q8, q9, q10, q11, q12⟩
        · obtain ⟨r', e', s'⟩ := rel_bump r hh q1
          refine ⟨_, w, _, run_append_none t ty e i ht hi A0 0 0 (Nat.le_refl _) A' c', by simpa using r', ?_, e', s'⟩
          refine .own (Nat.le_refl _) (by simp [maxLen]) (by simp) ?_
          simp [refOk, upd_same, ownAt]
        · obtain ⟨r', e', s'⟩ := rel_bump r hh q1
          refine ⟨_, w, _, run_append_none t ty e i ht hi (some a0) n cap q3 A' c', by simpa using r', ?_, e', s'⟩
          refine .own q3 (by omega) (by simp) ?_
          simp only [refOk, upd_same, ownAt]
          exact ⟨Nat.le_refl _, fun _ => ⟨q4, q5, ⟨a0, rfl, q6⟩, q7⟩⟩
      · cases hv
    · cases hv
  · cases hv

theorem aappend_ok {t ty : TypeId} {s x v : AV} {c d : Value} {h' : AHeap} (r : Rel Z κ h w) (hs : R Z w κ s c) (hx : R Z w κ x d) (hv : aappend P t s x h = some (v, h')) :
    ∃ u w' κ', (Builtin.append_ #[t, t] ty #[c, d]).run P w = .ok u w' ∧ Rel Z κ' h' w' ∧ R Z w' κ' v u ∧ Ext Z κ w Z κ' w' ∧ StepAll κ κ' := by
  unfold aappend at hv
  split at hv
  · cases hv
  · rename_i e he
    have ht := run_telem he
    split at hv
    · rename_i k zs by_ hk hz hby
      split at hv
      · cases hv
      · rename_i m ys hsrc
        split at hv
        · rename_i hc
          obtain ⟨hk0, hzl, hyl, hone⟩ := hc
          obtain ⟨i, hi, rfl⟩ := Option.map_eq_some_iff.1 hk
          rcases Nat.eq_zero_or_pos m with hm | hm
          · subst hm
            have hy : ys = [] := List.eq_nil_of_length_eq_zero (by rw [hyl]; simp)
            subst hy
            refine append0_ok (ty := ty) r hs hx ht hi hsrc hk0 rfl ?_
            unfold app0
            split at hv
            · split at hv
              · rename_i hc
                rw [if_pos ⟨by omega, hc.2.1⟩]; exact hv
              · cases hv
            · split at hv
              · rename_i hh
                split at hv
                · rename_i hc
                  rw [if_pos ⟨hc.1, hc.2.1, hc.2.2.1⟩]; exact hv
                · cases hv
              · cases hv
            · cases hv
          obtain ⟨a, ca, ws, rfl, hat, hws⟩ := srcCells_ok r hx hsrc hm
          obtain ⟨i2, hi2, rfl⟩ := Option.map_eq_some_iff.1 hby
          have : i2 = i := by rw [hi] at hi2; injection hi2 with hi2; exact hi2.symm
          subst this
          obtain ⟨z, hz', rfl⟩ := Option.map_eq_some_iff.1 hz
          obtain ⟨i3, hi3, hz'⟩ := Option.bind_eq_some_iff.1 hz'
          have : i3 = i2 := by rw [hi] at hi3; injection hi3 with hi3; exact hi3.symm
          subst this
          have hwl : ws.length = m * i3.size := by rw [← hws.length]; exact hyl
          have hwone := Rs_isOne hws hone
          have hzs : z.cells.size = i3.size := by simpa using hzl
          have szz : ∀ (us : List Value) (n need cap : Nat), us.length = n * i3.size → need = n + m → need ≤ cap → (us.toArray ++ ws.toArray ++ Builtin.zeroCells z.cells (cap - need)).size = cap * i3.size := by
            intro us n need cap h1 h2 h3
            simp only [Array.size_append, List.size_toArray, size_zeroCells, hzs, h1, hwl, ← Nat.add_mul]
            congr 1; omega
          split at hv
          · rename_i n cs
            split at hv
            · rename_i hc
              obtain ⟨hmn, hcl, hb1, hb2⟩ := hc
              simp only [Option.some.injEq, Prod.mk.injEq] at hv
              obtain ⟨rfl, rfl⟩ := hv
              have hml : n + m ≤ 9223372036854775807 := by simp only [maxLen] at hb2; omega
              have shape : ∃ A us, c = .slice A n n ∧ Rs Z w κ cs us ∧ (Builtin.append_ #[t, t] ty #[c, .slice (some a) m ca]).run P w = .ok (.slice (some ⟨w.heap.size, 0, none⟩) (n + m) (grownCap w (n + m) n e)) (w.drew.alloc (.cells (us.toArray ++ ws.toArray ++ Builtin.zeroCells z.cells (grownCap w (n + m) n e - (n + m))) e)) := by
                cases hs with
                | sl0 h2 h3 =>
                  rename_i A cap
                  have h0 := h2 rfl
                  subst h0
                  refine ⟨A, [], rfl, .nil, ?_⟩
                  cases A with
                  | none =>
                    have := run_append_nil (P := P) w t ty e i3 z ht hi hz' a m ca ws hwl hat hm (by omega) (by simp only [Nat.zero_add] at hb1; omega)
                    simpa using this
                  | some a0 =>
                    have := run_append_grow (P := P) w t ty e i3 z ht hi hz' a0 0 0 [] (by simp) (by intro j v hj; simp at hj) a m ca ws hwl hat (by omega) (by omega) (growslice_fits (by omega) hb1)
                    simpa using this
                | sl h2 h3 h4 h5 h6 h7 h8 =>
                  rename_i a0 cap0 us
                  have h0 := h4 rfl
                  subst h0
                  refine ⟨some a0, us, rfl, h8, ?_⟩
                  exact run_append_grow (P := P) w t ty e i3 z ht hi hz' a0 _ _ us (by rw [← h8.length]; exact hcl) h7 a m ca ws hwl hat (by omega) (by omega) (growslice_fits (by omega) hb1)
              obtain ⟨A, us, rfl, hus, hrun⟩ := shape
              have hge := grownCap_ge w (n + m) n e
              have hcm := grownCap_le_maxLen w (n + m) n e hb2
              have hul : us.length = n * i3.size := by rw [← hus.length]; exact hcl
              have r1 : Rel Z κ h w.drew := ⟨r.zlt, r.za, r.hole, fun id x hx => (r.blk id x hx).ext r ⟨rfl, rfl, rfl, Nat.le_refl _, fun _ _ _ => rfl, fun _ h => h, fun _ h => .inl h, fun _ h => .inl h⟩ (.refl _) rfl (fun _ _ _ _ => rfl), r.inj⟩
              have e1 : Ext Z κ w Z κ w.drew := ⟨rfl, rfl, rfl, Nat.le_refl _, fun _ _ _ => rfl, fun _ h => h, fun _ h => .inl h, fun _ h => .inl h⟩
              have hsize := szz us n (n + m) (grownCap w (n + m) n e) hul rfl hge
              obtain ⟨r2, e2, s2⟩ := rel_alloc r1 ((hus.append hws).ext r e1 (.refl _)) (us.toArray ++ ws.toArray ++ Builtin.zeroCells z.cells (grownCap w (n + m) n e - (n + m))) e (by rw [hsize, List.length_append, hul, hwl, ← Nat.add_mul]; exact Nat.mul_le_mul_right _ hge) grown_cells
              refine ⟨_, _, _, hrun, r2, ?_, e1.trans e2, s2⟩
              exact R_newOwn (upd_same _ _ _) hge hcm hsize.symm hk0
            · cases hv
          · rename_i id ver n k'
            split at hv
            · rename_i ver' cs hh
              split at hv
              · rename_i hc
                obtain ⟨rfl, rfl, hcl, hb1, hb2⟩ := hc
                simp only [Option.some.injEq, Prod.mk.injEq] at hv
                obtain ⟨rfl, rfl⟩ := hv
                have hml : n + m ≤ 9223372036854775807 := by simp only [maxLen] at hb2; omega
                have grow : ∀ (old : Nat) (us : List Value), us.length = n * i3.size → Rs Z w κ cs us → (Builtin.append_ #[t, t] ty #[c, .slice (some a) m ca]).run P w = .ok (.slice (some ⟨w.heap.size, 0, none⟩) (n + m) (grownCap w (n + m) old e)) (w.drew.alloc (.cells (us.toArray ++ ws.toArray ++ Builtin.zeroCells z.cells (grownCap w (n + m) old e - (n + m))) e)) →
                    ∃ u w' κ', (Builtin.append_ #[t, t] ty #[c, .slice (some a) m ca]).run P w = .ok u w' ∧ Rel Z κ' (h.set id (.cells (ver + 1) (cs ++ ys))) w' ∧ R Z w' κ' (.own id (ver + 1) 0 (n + m) i3.size) u ∧ Ext Z κ w Z κ' w' ∧ StepAll κ κ' := by
                  intro old us hul hus hrun
                  have hge := grownCap_ge w (n + m) old e
                  have hcm := grownCap_le_maxLen w (n + m) old e hb2
                  have hsize := szz us n (n + m) (grownCap w (n + m) old e) hul rfl hge
                  obtain ⟨r2, e2, s2⟩ := rel_regrow r hh (b' := w.heap.size) (E := e) (w' := w.drew.alloc (.cells (us.toArray ++ ws.toArray ++ Builtin.zeroCells z.cells (grownCap w (n + m) old e - (n + m))) e)) (.inr (Nat.le_refl _)) rfl rfl rfl (by simp) (fun b hb _ => heap_alloc_old w.drew _ hb) (heap_alloc_new' w.drew _) hus hws
                    (by rw [hsize, List.length_append, hul, hwl, ← Nat.add_mul]; exact Nat.mul_le_mul_right _ hge) grown_cells
                  refine ⟨_, _, _, hrun, r2, ?_, e2, s2⟩
                  refine .own hge hcm (by simp) ?_
                  simp only [refOk, upd_same, ownAt]
                  exact ⟨Nat.le_refl _, fun _ => ⟨by simpa using hsize.symm, hk0, ⟨_, rfl, fun _ => by simp⟩, by omega⟩⟩
                rcases own_slice r hs hh with ⟨sz, A0, q1, rfl, _, rfl, rfl⟩ | ⟨b, sz, arr, E, us, cap, a0, q1, rfl, q3, q4, q5, q6, q7, q8, q9, q10, q11, q12⟩
                · cases A0 with
                  | none =>
                    have := run_append_nil (P := P) w t ty e i3 z ht hi hz' a m ca ws hwl hat hm (by omega) (by simp only [Nat.zero_add] at hb1; omega)
                    exact grow 0 [] (by simp) .nil (by simpa using this)
                  | some a0 =>
                    have := run_append_grow (P := P) w t ty e i3 z ht hi hz' a0 0 0 [] (by simp) (by intro j v hj; simp at hj) a m ca ws hwl hat (by omega) (by omega) (growslice_fits (by omega) hb1)
                    exact grow 0 [] (by simp) .nil (by simpa using this)
                · have hul : us.length = n * i3.size := by rw [← q12.length]; exact hcl
                  by_cases hroom : n + m ≤ cap
                  · have ha0 : a0 = ⟨b, 0, none⟩ := by simpa using q6 (by omega)
                    subst ha0
                    have harr : arr.size = cap * i3.size := by rw [q9, ← q4]; simp
                    have hfit : n * i3.size + ws.length ≤ arr.size := by rw [hwl, harr, ← Nat.add_mul]; exact Nat.mul_le_mul_right _ hroom
                    have hrun := run_append_room' (P := P) t ty e i3 ht hi b n cap arr E q8 a m ca ws hwl hat hwone hroom hfit
                    have hsz' : (arr.toList.take (n * i3.size) ++ ws ++ arr.toList.drop (n * i3.size + ws.length)).toArray.size = arr.size := by
                      simp only [List.size_toArray, List.length_append, List.length_take, List.length_drop, Array.length_toList]; omega
                    obtain ⟨r2, e2, s2⟩ := rel_regrow r hh (b' := b) (E := E) (w' := w.setRow b (arr.toList.take (n * i3.size) ++ ws ++ arr.toList.drop (n * i3.size + ws.length)).toArray) (.inl ⟨sz, q1⟩) rfl rfl rfl (by simp) (fun b' hb' hne => heap_setRow_ne w b _ hne) (setRow_heap w b arr _ E _ q8) q12 hws
                      (by rw [hsz', List.length_append, hul]; exact hfit) (room_cells hul hfit q11)
                    refine ⟨_, _, _, hrun, r2, ?_, e2, s2⟩
                    refine .own hroom (by omega) (by simp) ?_
                    simp only [refOk, upd_same, ownAt]
                    exact ⟨Nat.le_refl _, fun _ => ⟨by rw [hsz', harr]; simp, hk0, ⟨_, rfl, fun _ => by simp⟩, by omega⟩⟩
                  · have hfirst : ∀ j u, us[j]? = some u → w.cell? (a0.add j) = some u := by
                      intro j u hj
                      have hjl := (List.getElem?_eq_some_iff.1 hj).1
                      have hn0 : 0 < n := Nat.pos_of_ne_zero fun h0 => by subst h0; rw [Nat.zero_mul] at hul; omega
                      rw [q6 (by omega)]
                      have := cells_drop q8 q11 0 j u (by simpa using hj)
                      simpa using this
                    exact grow cap us hul q12 (run_append_grow (P := P) w t ty e i3 z ht hi hz' a0 n cap us hul hfirst a m ca ws hwl hat (by omega) (by omega) (growslice_fits (by omega) hb1))
              · cases hv
            · cases hv
          · cases hv
        · cases hv
    · cases hv

end Go.Cx
