/- Regions that draw their order: whatever order is drawn, what comes out is what the order of the text gives. -/
import Derived.Test.YtjelapkglkcoiaaCxM
set_option linter.unusedVariables false
set_option linter.unusedSimpArgs false
namespace Go.Cx
variable {P : Program} {lit : TypeId → Bool} {n : Nat}

/-! ### the check of a region's order -/
def edgesOf (o : Oper) : List Nat := (o.after.toList.filter (Region.binds .any)).map (·.on)
def orE (M : List Nat) : List Nat → Nat
  | [] => 0
  | e :: es => Nat.lor (Nat.lor (2 ^ e) (M.getD e 0)) (orE M es)
def masks : List Oper → List Nat → List Nat
  | [], M => M
  | o :: rest, M => masks rest (M ++ [orE M (edgesOf o)])
/-- The classes of the calls of a region; what isn't named here computes. -/
abbrev CC := List (Nat × Cl)
def look (cc : CC) (i : Nat) (c : Cl) : Cl := ((cc.find? fun p => p.1 == i).map (·.2)).getD c
def clAt (lit : TypeId → Bool) (cc : CC) (i : Nat) (o : Oper) : Cl :=
  match goCall o with
  | some _ => look cc i .t
  | none => match o.op with
    | .load .. | .lookup .. => look cc i .q
    | .store .. => look cc i .w
    | .alloc .. => look cc i .e
    | _ => clOf lit o
/-- Two classes that may not change places. -/
def Cl.conf : Cl → Cl → Bool
  | .t, _ | _, .t | .q, .q | .q, .w | .w, .q => false
  | _, _ => true
def pairOk (lit : TypeId → Bool) (cc : CC) (ops : Array Oper) (M : List Nat) (i : Nat) (oi : Oper) (k : Nat) (ok : Oper) : Bool :=
  k == i ||
  ((match ok.dst with
    | none => true
    | some x => oi.dst != some x && (!(oi.looksAt ops).contains x || (M.getD i 0).testBit k)) &&
   (k > i || !(clAt lit cc k ok).conf (clAt lit cc i oi) || (M.getD i 0).testBit k))
def allIx (f : Nat → Oper → Bool) : Nat → List Oper → Bool
  | _, [] => true
  | i, o :: rest => f i o && allIx f (i + 1) rest
def okDraw (lit : TypeId → Bool) (cc : CC) (m : Nat) (ops : Array Oper) : Bool :=
  let os := ops.toList
  let M := masks os []
  allIx (fun i o => M.getD i 0 == orE M (edgesOf o) && (edgesOf o).all (· < i) && (i ≤ m || (edgesOf o).contains (i - 1)) &&
    (i != m || ((List.range m).all fun k => (M.getD m 0).testBit k))) 0 os &&
  allIx (fun i oi => allIx (fun k ok => pairOk lit cc ops M i oi k ok) 0 (os.take m)) 0 (os.take m) &&
  decide (m ≤ os.length)

theorem allIx_spec {f : Nat → Oper → Bool} : ∀ (l : List Oper) (i : Nat), allIx f i l = true → ∀ j o, l[j]? = some o → f (i + j) o = true
  | [], _, _, j, o, hj => by simp at hj
  | x :: l, i, h, j, o, hj => by
    simp only [allIx, Bool.and_eq_true] at h
    cases j with
    | zero => simp at hj; subst hj; simpa using h.1
    | succ j =>
      have := allIx_spec l (i + 1) h.2 j o (by simpa using hj)
      rwa [Nat.add_right_comm] at this

theorem orE_bit (M : List Nat) (j : Nat) : ∀ es : List Nat, (orE M es).testBit j = true → ∃ e ∈ es, e = j ∨ (M.getD e 0).testBit j = true
  | [], h => by simp [orE] at h
  | e :: es, h => by
    simp only [orE] at h
    have h : (((2 ^ e ||| M.getD e 0) ||| orE M es) : Nat).testBit j = true := h
    rw [Nat.testBit_or, Nat.testBit_or, Bool.or_eq_true, Bool.or_eq_true] at h
    rcases h with (h | h) | h
    · rw [Nat.testBit_two_pow] at h
      exact ⟨e, by simp, .inl (by simpa using h)⟩
    · exact ⟨e, by simp, .inr h⟩
    · obtain ⟨e', he, h⟩ := orE_bit M j es h
      exact ⟨e', by simp [he], h⟩

structure Ordered (lit : TypeId → Bool) (cc : CC) (m : Nat) (ops : Array Oper) where
  le : m ≤ ops.size
  reach : Nat → Nat → Prop
  step : ∀ i o j, ops[i]? = some o → reach i j → ∃ e ∈ edgesOf o, e = j ∨ reach e j
  lt : ∀ i o, ops[i]? = some o → ∀ e ∈ edgesOf o, e < i
  tail : ∀ i o, ops[i]? = some o → m < i → i - 1 ∈ edgesOf o
  cut : ∀ o, ops[m]? = some o → ∀ k, k < m → reach m k
  dsts : ∀ i k oi ok x, i < m → k < m → k ≠ i → ops[i]? = some oi → ops[k]? = some ok → ok.dst = some x → oi.dst ≠ some x ∧ (x ∈ oi.looksAt ops → reach i k)
  cls : ∀ i k oi ok, i < m → k < m → k < i → ops[i]? = some oi → ops[k]? = some ok → (clAt lit cc k ok).conf (clAt lit cc i oi) = true → reach i k

theorem ordered {cc : CC} {m : Nat} {ops : Array Oper} (h : okDraw lit cc m ops = true) : Nonempty (Ordered lit cc m ops) := by
  simp only [okDraw, Bool.and_eq_true] at h
  obtain ⟨⟨h1, h2⟩, h3⟩ := h
  have key : ∀ i o, ops[i]? = some o → (masks ops.toList []).getD i 0 = orE (masks ops.toList []) (edgesOf o) ∧ (∀ e ∈ edgesOf o, e < i) ∧ (i ≤ m ∨ i - 1 ∈ edgesOf o) ∧ (i ≠ m ∨ ∀ k, k < m → ((masks ops.toList []).getD m 0).testBit k = true) := by
    intro i o hi
    have := allIx_spec _ 0 h1 i o (by simpa using hi)
    simp only [Nat.zero_add, Bool.and_eq_true, Bool.or_eq_true, beq_iff_eq, List.all_eq_true, decide_eq_true_eq, bne_iff_ne, List.mem_range, List.contains_iff_mem] at this
    obtain ⟨⟨⟨a, b⟩, c⟩, d⟩ := this
    exact ⟨a, b, c, d⟩
  have pair : ∀ i k oi ok, i < m → k < m → ops[i]? = some oi → ops[k]? = some ok → pairOk lit cc ops (masks ops.toList []) i oi k ok = true := by
    intro i k oi ok him hkm hi hk
    have hl : ∀ (j : Nat) (o : Oper), j < m → ops[j]? = some o → (ops.toList.take m)[j]? = some o := fun j o hj ho => by
      rw [List.getElem?_take_of_lt hj]; simpa using ho
    have := allIx_spec _ 0 h2 i oi (hl i oi him hi)
    have := allIx_spec _ 0 this k ok (hl k ok hkm hk)
    simpa using this
  refine ⟨⟨by simpa using h3, fun i j => ((masks ops.toList []).getD i 0).testBit j = true, ?_, ?_, ?_, ?_, ?_, ?_⟩⟩
  · intro i o j hi hr
    rw [(key i o hi).1] at hr
    exact orE_bit _ j _ hr
  · exact fun i o hi => (key i o hi).2.1
  · exact fun i o hi hm => (key i o hi).2.2.1.resolve_left (by omega)
  · exact fun o ho => (key m o ho).2.2.2.resolve_left (by simp)
  · intro i k oi ok x him hkm hne hi hk hd
    have := pair i k oi ok him hkm hi hk
    simp only [pairOk, hd, Bool.or_eq_true, Bool.and_eq_true, beq_iff_eq, bne_iff_ne, Bool.not_eq_true', List.contains_eq_mem, decide_eq_false_iff_not] at this
    rcases this with h | ⟨⟨h, h'⟩, _⟩
    · exact absurd h hne
    · exact ⟨h, fun hx => h'.resolve_left (fun h => h hx)⟩
  · intro i k oi ok him hkm hlt hi hk hc
    have := pair i k oi ok him hkm hi hk
    simp only [pairOk, Bool.or_eq_true, Bool.and_eq_true, beq_iff_eq, decide_eq_true_eq, hc, Bool.not_true, Bool.false_eq_true, or_false] at this
    rcases this with h | ⟨_, h | h⟩
    · omega
    · omega
    · exact h

/-! ### the head, in the order of the text -/
def ADcall (P : Program) (D : List Nat) (c : Cl) (fv : AV) (args : List AV) (h : AHeap) (K : AV → AHeap → Prop) : Prop :=
  match c with
  | .t => ∃ v, (∀ k : AHeap, AInv P fv args k (fun v' h' => v' = v ∧ h' = k)) ∧ K v h
  | .q => ∃ v, (∀ k : AHeap, offEq D k h → AInv P fv args k (fun v' h' => v' = v ∧ h' = k)) ∧ K v h
  | .w => False
  | .e => ∃ v h1, AInv P fv args h (fun v' h' => v' = v ∧ h' = h1) ∧ K v h1
def ldK (D : List Nat) (c : Cl) (p : AV) (A : Prop) : Prop :=
  match c with
  | .q => offD D p = true ∧ A
  | .w => onD D p = true ∧ A
  | .e => A
  | .t => False
def stK (D : List Nat) (c : Cl) (p : AV) (A : Prop) : Prop :=
  match c with
  | .w => onD D p = true ∧ A
  | .e => A
  | _ => False
/-- The room that is kept among D. -/
def roomOf (D : List Nat) (h : AHeap) : Option (Nat × Nat) := D.findSome? fun id : Nat => match (h[id]? : Option ABlk) with | some (ABlk.cells ver []) => some (id, ver) | _ => none
def alcK (P : Program) (D : List Nat) (c : Cl) (t : TypeId) (h : AHeap) (K : AV → AHeap → Prop) (A : Prop) : Prop :=
  match c with
  | .w => match roomOf D h with
    | some (id, ver) => match tzero P t with
      | some zs => K (.ptr id (ver + 1) 0) (h.set id (.cells (ver + 1) zs))
      | none => False
    | none => False
  | .e => A
  | _ => False
theorem roomOf_ok {D : List Nat} {h : AHeap} {id ver : Nat} (hr : roomOf D h = some (id, ver)) : D.contains id = true ∧ h[id]? = some (.cells ver []) := by
  obtain ⟨j, hj, hb⟩ := List.exists_of_findSome?_eq_some hr
  split at hb
  · rename_i v hv
    injection hb with hb; injection hb with h1 h2; subst h1 h2
    exact ⟨by simpa using hj, hv⟩
  · cases hb
def ADop (P : Program) (lit : TypeId → Bool) (D : List Nat) (cc : CC) (i : Nat) (o : Oper) (s : AState) (K : AState → Prop) : Prop :=
  match goCall o with
  | some (f, xs) => ADcall P D (clAt lit cc i o) (s.ev f) (xs.toList.map s.ev) s.h (thenOp K s o.dst)
  | none => match o.op with
    | .load _ x => ldK D (clAt lit cc i o) (s.ev x) (AOp P lit o s K)
    | .lookup _ m _ _ => ldK D (clAt lit cc i o) (s.ev m) (AOp P lit o s K)
    | .store _ p _ => stK D (clAt lit cc i o) (s.ev p) (AOp P lit o s K)
    | .convert _ _ x => notOwn (s.ev x) = true ∧ AOp P lit o s K
    | .alloc t => alcK P D (clAt lit cc i o) t s.h (thenOp K s o.dst) (AOp P lit o s K)
    | _ => AOp P lit o s K
def gdD (P : Program) (lit : TypeId → Bool) (D : List Nat) (cc : CC) (i : Nat) (o : Oper) (s : AState) (t : Nat) (want : Bool) (K : AState → Prop) (x : AV) : Prop :=
  match x with
  | .val (.bool b) => (b = want → ADop P lit D cc i o { s with T := put s.T t (.val (.bool want)) } K) ∧
      (b = !want → dstOk s.N o.dst ∧ K (({ s with T := put s.T t (.val (.bool !want)) } : AState).put o.dst (.tup [])))
  | .tup [] => dstOk s.N o.dst ∧ K (s.put o.dst (.tup []))
  | _ => False
def AD (P : Program) (lit : TypeId → Bool) (D : List Nat) (cc : CC) (ops : Array Oper) (Q : AState → Prop) : Nat → List Oper → AState → Prop
  | _, [], s => Q s
  | i, o :: rest, s => match o.guard with
    | none => ADop P lit D cc i o s (AD P lit D cc ops Q (i + 1) rest)
    | some (j, want) => match guardTmp ops j with
      | none => False
      | some t => gdD P lit D cc i o s t want (AD P lit D cc ops Q (i + 1) rest) (s.T t)

/-- What a guard says. -/
def Wt (ops : Array Oper) (o : Oper) (T : Nat → AV) (b : Bool) : Prop :=
  match o.guard with
  | none => b = true
  | some (j, want) => ∃ t, guardTmp ops j = some t ∧ ((∃ u, T t = .val (.bool u) ∧ b = (u == want)) ∨ (T t = .tup [] ∧ b = false))

structure Stp (P : Program) (D : List Nat) (ops : Array Oper) (c : Cl) (o : Oper) (s s' : AState) (v : AV) : Prop where
  dst : dstOk s.N o.dst
  eq : s' = ({ s with h := s'.h } : AState).put o.dst v
  go : (Wt ops o s.T true ∧ c.ok P D o s.ev s.h s'.h v) ∨ (Wt ops o s.T false ∧ v = .tup [] ∧ s'.h = s.h)

theorem put_self (T : Nat → AV) (t : Nat) : put T t (T t) = T := by
  funext j
  by_cases hj : j = t
  · subst hj; exact put_same _ _ _
  · exact put_ne _ _ hj
theorem put_h (s : AState) (d : Option Nat) (v : AV) : (s.put d v).h = s.h := by cases d <;> rfl
theorem put_N (s : AState) (d : Option Nat) (v : AV) : (s.put d v).N = s.N := by cases d <;> rfl

theorem AInv.yield {f : Operand} {xs : Array Operand} {o : Oper} (hg : goCall o = some (f, xs)) {s : AState} {h h' : AHeap} {v : AV} (hc : AInv P (s.ev f) (xs.toList.map s.ev) h (fun v' h'' => v' = v ∧ h'' = h')) : Y P o s.ev h h' v := Y.call hg hc

theorem ADop_stp {D : List Nat} {cc : CC} {ops : Array Oper} {i : Nat} {o : Oper} {s : AState} {K : AState → Prop} (h : ADop P lit D cc i o s K) (hw : Wt ops o s.T true) :
    ∃ v s', Stp P D ops (clAt lit cc i o) o s s' v ∧ K s' := by
  have mk : ∀ v h', thenOp K s o.dst v h' → (clAt lit cc i o).ok P D o s.ev s.h h' v → ∃ v s', Stp P D ops (clAt lit cc i o) o s s' v ∧ K s' := by
    intro v h' ⟨hd, hk⟩ hok
    refine ⟨v, _, ⟨hd, ?_, .inl ⟨hw, ?_⟩⟩, hk⟩
    · rw [put_h]
    · rw [put_h]; exact hok
  have fin : ∀ (hg : goCall o = none), AOp P lit o s K → (∀ v h', ev P lit s.ev s.h o = some (v, h') → (clAt lit cc i o).ok P D o s.ev s.h h' v) → ∃ v s', Stp P D ops (clAt lit cc i o) o s s' v ∧ K s' := by
    intro hg h hok
    unfold AOp at h
    rw [hg] at h
    simp only [] at h
    unfold optB at h
    split at h
    · rename_i v h' hv
      exact mk v h' h (hok v h' hv)
    · exact h.elim
  unfold ADop at h
  split at h
  · rename_i f xs hg
    unfold ADcall at h
    split at h
    · rename_i hc
      obtain ⟨v, h1, h2⟩ := h
      refine mk v s.h h2 ?_
      rw [hc]; exact ⟨rfl, fun k => Y.call hg (h1 k)⟩
    · rename_i hc
      obtain ⟨v, h1, h2⟩ := h
      refine mk v s.h h2 ?_
      rw [hc]; exact ⟨rfl, fun k hk => Y.call hg (h1 k hk)⟩
    · exact h.elim
    · rename_i hc
      obtain ⟨v, h', h1, h2⟩ := h
      refine mk v h' h2 ?_
      rw [hc]; exact Y.call hg h1
  · rename_i hg
    split at h
    · rename_i t x ho
      unfold ldK at h
      split at h
      · rename_i hc
        refine fin hg h.2 fun v h' hv => ?_
        rw [hc]
        obtain ⟨e, hk⟩ := ev_load_q ho h.1 hv
        exact ⟨e, fun k hke => Y.ev (hk k hke)⟩
      · rename_i hc
        refine fin hg h.2 fun v h' hv => ?_
        rw [hc]
        obtain ⟨e, hk⟩ := ev_load_w ho h.1 hv
        subst e
        exact ⟨rfl, ⟨rfl, fun _ _ => rfl⟩, fun k hke => by rw [mrg_self hke]; exact Y.ev (hk k hke)⟩
      · rename_i hc
        refine fin hg h fun v h' hv => ?_
        rw [hc]; exact Y.ev hv
      · exact h.elim
    · rename_i t m x ok ho
      unfold ldK at h
      split at h
      · rename_i hc
        refine fin hg h.2 fun v h' hv => ?_
        rw [hc]
        obtain ⟨e, hk⟩ := ev_look_q ho h.1 hv
        exact ⟨e, fun k hke => Y.ev (hk k hke)⟩
      · rename_i hc
        refine fin hg h.2 fun v h' hv => ?_
        rw [hc]
        obtain ⟨e, hk⟩ := ev_look_w ho h.1 hv
        subst e
        exact ⟨rfl, ⟨rfl, fun _ _ => rfl⟩, fun k hke => by rw [mrg_self hke]; exact Y.ev (hk k hke)⟩
      · rename_i hc
        refine fin hg h fun v h' hv => ?_
        rw [hc]; exact Y.ev hv
      · exact h.elim
    · rename_i t p x ho
      unfold stK at h
      split at h
      · rename_i hc
        refine fin hg h.2 fun v h' hv => ?_
        rw [hc]
        obtain ⟨e1, e2, hk⟩ := ev_store_w ho h.1 hv
        exact ⟨e1, e2, fun k hke => Y.ev (hk k hke)⟩
      · rename_i hc
        refine fin hg h fun v h' hv => ?_
        rw [hc]; exact Y.ev hv
      · exact h.elim
    · rename_i sr ds x ho
      refine fin hg h.2 fun v h' hv => ?_
      have e : clAt lit cc i o = .t := by
        unfold clAt
        rw [hg]
        simp only [ho, clOf]
      rw [e]
      obtain ⟨e, hk⟩ := ev_conv ho h.1 hv
      exact ⟨e, fun k => Y.ev (hk k)⟩
    · rename_i t ho
      unfold alcK at h
      split at h
      · rename_i hc
        split at h
        · rename_i id ver hr
          split at h
          · rename_i zs hz
            obtain ⟨h1, h2⟩ := roomOf_ok hr
            refine mk _ _ h ?_
            rw [hc]
            have hne : ∀ j : Nat, D.contains j = false → ¬ id = j := fun j hj e => by subst e; rw [h1] at hj; cases hj
            refine ⟨by simp, ⟨by simp, fun j hj => List.getElem?_set_ne (hne j hj)⟩, fun k hk => ?_⟩
            have e : mrg D (s.h.set id (.cells (ver + 1) zs)) k = k.set id (.cells (ver + 1) zs) := by
              apply List.ext_getElem?
              intro j
              rw [mrg_get (by simp [hk.1])]
              by_cases hj : id = j
              · subst hj
                have l1 := (List.getElem?_eq_some_iff.1 h2).1
                rw [if_pos h1, List.getElem?_set_self l1, List.getElem?_set_self (by rw [hk.1]; exact l1)]
              · rw [List.getElem?_set_ne hj, List.getElem?_set_ne hj]
                split
                · rename_i hd; rw [hk.2 j hd]
                · rfl
            rw [e]
            exact Y.room ho hz (by rw [hk.2 id h1]; exact h2)
          · exact h.elim
        · exact h.elim
      · rename_i hc
        refine fin hg h fun v h' hv => ?_
        rw [hc]; exact Y.ev hv
      · exact h.elim
    · rename_i h1 h2 h3 h4 h5
      refine fin hg h fun v h' hv => ?_
      have e : clAt lit cc i o = clOf lit o := by
        unfold clAt
        rw [hg]
        simp only []
      rw [e]
      generalize hc : clOf lit o = c
      cases c with
      | t => obtain ⟨e, hk⟩ := ev_t hg (fun s d x ho => h4 s d x ho) hc hv; exact ⟨e, fun k => Y.ev (hk k)⟩
      | q =>
        exfalso
        unfold clOf at hc
        split at hc <;> first | (cases hc; done) | (split at hc <;> cases hc; done) | skip
        · rename_i t x ho; exact h1 t x ho
        · rename_i t m x ok ho; exact h2 t m x ok ho
      | w =>
        exfalso
        unfold clOf at hc
        split at hc <;> first | (cases hc; done) | (split at hc <;> cases hc; done) | skip
        · rename_i t p x ho; exact h3 t p x ho
      | e => exact Y.ev hv

theorem AD_data {D : List Nat} {cc : CC} {ops : Array Oper} {Q : AState → Prop} : ∀ (l : List Oper) (i : Nat) (s : AState), AD P lit D cc ops Q i l s →
    ∃ (S : Nat → AState) (V : Nat → AV), S i = s ∧ Q (S (i + l.length)) ∧ ∀ k o, l[k]? = some o → Stp P D ops (clAt lit cc (i + k) o) o (S (i + k)) (S (i + k + 1)) (V (i + k))
  | [], i, s, h => ⟨fun _ => s, fun _ => .any, rfl, h, fun k o hk => by simp at hk⟩
  | o :: rest, i, s, h => by
    have key : ∃ v s', Stp P D ops (clAt lit cc i o) o s s' v ∧ AD P lit D cc ops Q (i + 1) rest s' := by
      simp only [AD] at h
      split at h
      · rename_i hg
        exact ADop_stp h (by simp [Wt, hg])
      · rename_i j want hg
        split at h
        · exact h.elim
        · rename_i t ht
          unfold gdD at h
          split at h
          · rename_i b hb
            obtain ⟨h1, h2⟩ := h
            by_cases hbw : b = want
            · subst hbw
              have h1 := h1 rfl
              rw [← hb, put_self] at h1
              exact ADop_stp h1 (by simp only [Wt, hg]; exact ⟨t, ht, .inl ⟨b, hb, by simp⟩⟩)
            · have hbn : b = !want := by cases b <;> cases want <;> simp_all
              have h2 := h2 hbn
              rw [← hbn, ← hb, put_self] at h2
              obtain ⟨hd, hk⟩ := h2
              exact ⟨.tup [], _, ⟨hd, by rw [put_h], .inr ⟨by simp only [Wt, hg]; exact ⟨t, ht, .inl ⟨b, hb, by simp [hbw]⟩⟩, rfl, put_h _ _ _⟩⟩, hk⟩
          · rename_i hb
            obtain ⟨hd, hk⟩ := h
            exact ⟨.tup [], _, ⟨hd, by rw [put_h], .inr ⟨by simp only [Wt, hg]; exact ⟨t, ht, .inr ⟨hb, trivial⟩⟩, rfl, put_h _ _ _⟩⟩, hk⟩
          · exact h.elim
    obtain ⟨v, s', hst, hr⟩ := key
    obtain ⟨S, V, h1, h2, h3⟩ := AD_data rest (i + 1) s' hr
    refine ⟨fun k => if k ≤ i then s else S k, fun k => if k ≤ i then v else V k, by simp, ?_, fun k o' hk => ?_⟩
    · have : ¬ (i + (rest.length + 1) ≤ i) := by omega
      simp only [List.length_cons, this, if_false]
      rw [show i + (rest.length + 1) = i + 1 + rest.length by omega]; exact h2
    · cases k with
      | zero =>
        simp only [List.getElem?_cons_zero, Option.some.injEq] at hk; subst hk
        have : ¬ (i + 1 ≤ i) := by omega
        simp only [Nat.add_zero, Nat.le_refl, if_true, this, if_false]
        rw [h1]; exact hst
      | succ k =>
        have a : ¬ (i + (k + 1) ≤ i) := by omega
        have b : ¬ (i + (k + 1) + 1 ≤ i) := by omega
        simp only [a, b, if_false]
        have := h3 k o' (by simpa using hk)
        rw [show i + (k + 1) = i + 1 + k by omega]; exact this

/-! ### one step, whatever order is drawn -/
theorem look_op {ops : Array Oper} {o : Oper} {t : Tmp} (h : .tmp t ∈ o.op.operands) : t ∈ o.looksAt ops :=
  List.mem_append_left _ (List.mem_filterMap.2 ⟨.tmp t, by simpa using h, rfl⟩)
theorem look_guard {ops : Array Oper} {o : Oper} {j t : Nat} {want : Bool} (h : o.guard = some (j, want)) (ht : guardTmp ops j = some t) : t ∈ o.looksAt ops :=
  List.mem_append_right _ (by rw [h]; simp only [guardTmp] at ht; simp [ht])

def needs (D : List Nat) (k h : AHeap) : Cl → Prop
  | .t => True
  | .q => offEq D k h
  | .w => onEq D k h
  | .e => k = h
def newH (D : List Nat) (k h' : AHeap) : Cl → AHeap
  | .t | .q => k
  | .w => mrg D h' k
  | .e => h'

theorem run_step {D : List Nat} {ops : Array Oper} {Q' : Exit → Act → World → Prop} {K : Act → World → Prop} {c : Cl} {i : Nat} {o : Oper} {S S' s : AState} {v : AV} {Z : Nat → Prop} {κ : Nat → Slot} {a : Act} {w : World} (r : SRel Z κ s a w) (hN : s.N = S.N)
    (hs : Stp P D ops c o S S' v) (ho : ops[i]? = some o) (hT : ∀ t ∈ o.looksAt ops, s.T t = S.T t) (hh : needs D s.h S.h c)
    (hk : ∀ Z' κ' a' w', SRel Z' κ' (({ s with h := newH D s.h S'.h c } : AState).put o.dst v) a' w' → Ext Z κ w Z' κ' w' → StepAll κ κ' → K a' w') : wpOp P ops Q' i K a w := by
  have hd : ∀ i, o.dst = some i → i < s.N := fun i hi => by
    have := hs.dst
    rw [hi, ← hN] at this; exact this
  have wt : ∀ b, Wt ops o S.T b → Region.wanted o (yielded ops a.tmps) = b := by
    intro b hw
    unfold Wt at hw
    split at hw
    · rename_i hg; rw [wanted_none hg, hw]
    · rename_i j want hg
      obtain ⟨t, ht, hw⟩ := hw
      have ht' := ht
      unfold guardTmp at ht'
      rcases hw with ⟨u, hu, rfl⟩ | ⟨hu, rfl⟩
      · have hy : yielded ops a.tmps j = some u := by
          have := r.bool (t := t) (b := u) (by rw [hT t (look_guard hg ht)]; exact hu)
          simp only [yielded, ht', Option.bind_some, this]
        simp [Region.wanted, hg, hy]
      · have hy : ∀ b, yielded ops a.tmps j ≠ some b := by
          intro b
          simp only [yielded, ht', Option.bind_some]
          have := r.noBool (t := t) (by rw [hT t (look_guard hg ht)]; exact hu)
          split
          · rename_i b' hb'; exact absurd hb' (this b')
          · simp
        simp only [Region.wanted, hg]
        cases hyy : yielded ops a.tmps j with
        | none => rfl
        | some b => exact absurd hyy (hy b)
  unfold wpOp
  simp only [ho]
  rcases hs.go with ⟨hw, hok⟩ | ⟨hw, hv, he⟩
  · rw [wt _ hw]
    simp only [if_true]
    refine .inl ?_
    have hx : ∀ x ∈ o.op.operands, R Z w κ (S.ev x) (a.eval x) := fun x hm => by
      have := r.ev x
      have e : s.ev x = S.ev x := by
        cases x with
        | tmp t => exact hT t (look_op hm)
        | _ => rfl
      rwa [e] at this
    have go : Y P o S.ev s.h (newH D s.h S'.h c) v → o.wp P a w K Q' := by
      intro hy
      refine hy Z κ w a r.rel hx K Q' fun cv Z' κ' w' r' hr ex sa => ?_
      exact hk Z' κ' _ w' (r.put r' hr ex sa hd) ex sa
    cases c with
    | t => exact go (hok.2 s.h)
    | q => exact go (hok.2 s.h hh)
    | w => exact go (hok.2.2 s.h hh)
    | e =>
      refine go ?_
      have hh : s.h = S.h := hh
      rw [hh]; exact hok
  · rw [wt _ hw]
    simp only [Bool.false_eq_true, if_false]
    have e : newH D s.h S'.h c = s.h := by
      cases c with
      | t => rfl
      | q => rfl
      | w => show mrg D S'.h s.h = s.h; rw [he]; exact mrg_self hh
      | e => show S'.h = s.h; rw [he]; exact hh.symm
    refine hk Z κ _ w ?_ (.refl _ _ _) (.refl _)
    rw [e, hv]
    exact r.skip (by have := hs.dst; rwa [← hN] at this)

/-! ### the tail -/
theorem ready_spec {ops : Array Oper} {listed : Array Bool} {i : Nat} (h : i ∈ Region.ready .any ops listed) : i < ops.size ∧ listed.getD i true = false ∧ ∀ o, ops[i]? = some o → ∀ e ∈ edgesOf o, listed.getD e false = true := by
  simp only [Region.ready, List.mem_filter, List.mem_range, Bool.and_eq_true, Bool.not_eq_true'] at h
  refine ⟨h.1, h.2.1, fun o ho e he => ?_⟩
  have h2 := h.2.2
  rw [ho] at h2
  simp only [Option.map_some, Option.getD_some, Array.all_eq_true', Bool.or_eq_true, Bool.not_eq_true'] at h2
  simp only [edgesOf, List.mem_map, List.mem_filter] at he
  obtain ⟨x, ⟨hx, hb⟩, rfl⟩ := he
  rcases h2 x (by simpa using hx) with h3 | h3
  · rw [hb] at h3; cases h3
  · exact h3
theorem ready_of {ops : Array Oper} {listed : Array Bool} {i : Nat} {o : Oper} (ho : ops[i]? = some o) (hl : listed.getD i true = false) (he : ∀ e ∈ edgesOf o, listed.getD e false = true) : i ∈ Region.ready .any ops listed := by
  have hi : i < ops.size := by
    rcases Nat.lt_or_ge i ops.size with h | h
    · exact h
    · rw [Array.getElem?_eq_none h] at ho; cases ho
  simp only [Region.ready, List.mem_filter, List.mem_range, Bool.and_eq_true, Bool.not_eq_true']
  refine ⟨hi, hl, ?_⟩
  rw [ho]
  simp only [Option.map_some, Option.getD_some, Array.all_eq_true', Bool.or_eq_true, Bool.not_eq_true']
  intro x hx
  by_cases hb : Region.binds .any x = true
  · exact .inr (he _ (by simp only [edgesOf, List.mem_map, List.mem_filter]; exact ⟨x, ⟨by simpa using hx, hb⟩, rfl⟩))
  · exact .inl (by simpa using hb)
theorem getD_both {listed : Array Bool} {i : Nat} (hi : i < listed.size) (b b' : Bool) : listed.getD i b = listed.getD i b' := by simp [Array.getD, hi]
theorem getD_put {listed : Array Bool} {i j : Nat} (hi : i < listed.size) : (listed.setIfInBounds i true).getD j true = if j = i then true else listed.getD j true := by
  rw [Array.getD_eq_getD_getElem?, Array.getD_eq_getD_getElem?, Array.getElem?_setIfInBounds]
  by_cases h : i = j
  · subst h; simp [hi]
  · have : ¬ j = i := fun e => h e.symm
    simp [h, this]

theorem wpAny_step {ops : Array Oper} {Q' : Exit → Act → World → Prop} {fuel : Nat} {listed : Array Bool} {a : Act} {w : World} {i : Nat} (hi : i ∈ Region.ready .any ops listed)
    (h : ∀ i ∈ Region.ready .any ops listed, wpOp P ops Q' i (wpAny P .any ops Q' fuel (listed.setIfInBounds i true)) a w) : wpAny P .any ops Q' (fuel + 1) listed a w :=
  ⟨fun h0 => by rw [h0] at hi; simp at hi, h⟩

theorem tail_run {cc : CC} {m : Nat} {ops : Array Oper} (O : Ordered lit cc m ops) {Q' : Exit → Act → World → Prop} : ∀ (fuel k : Nat) (listed : Array Bool) (a : Act) (w : World), listed.size = ops.size → k + fuel = ops.size → m ≤ k →
    (∀ i, i < ops.size → (listed.getD i true = true ↔ i < k)) → wpList P ops Q' (ops.toList.drop k) a w → wpAny P .any ops Q' fuel listed a w
  | 0, k, listed, a, w, hz, hk, hm, hl, h => by
    refine ⟨List.eq_nil_iff_forall_not_mem.2 fun i hi => ?_, ?_⟩
    · obtain ⟨h1, h2, _⟩ := ready_spec hi
      have := (hl i h1).2 (by omega)
      rw [h2] at this; cases this
    · rw [List.drop_eq_nil_of_le (by simp; omega)] at h
      exact h
  | fuel + 1, k, listed, a, w, hz, hk, hm, hl, h => by
    have hkn : k < ops.size := by omega
    have hd : ops.toList.drop k = ops[k] :: ops.toList.drop (k + 1) := by
      rw [List.drop_eq_getElem_cons (by simpa using hkn)]; simp
    have hok : ops[k]? = some ops[k] := by simp [hkn]
    have rk : k ∈ Region.ready .any ops listed := ready_of hok (by
        have := hl k hkn
        cases hx : listed.getD k true with
        | false => rfl
        | true => have := this.1 hx; omega) fun e he => by
          have h1 := O.lt k _ hok e he
          rw [getD_both (by omega) false true]
          exact (hl e (by omega)).2 h1
    refine wpAny_step rk fun i hi => ?_
    obtain ⟨h1, h2, h3⟩ := ready_spec hi
    have hik : i = k := by
      rcases Nat.lt_trichotomy i k with h4 | h4 | h4
      · have := (hl i h1).2 h4; rw [h2] at this; cases this
      · exact h4
      · have hoi : ops[i]? = some ops[i] := by simp [h1]
        have := h3 _ hoi (i - 1) (O.tail i _ hoi (by omega))
        rw [getD_both (by omega) false true] at this
        have := (hl (i - 1) (by omega)).1 this
        omega
    subst hik
    rw [hd] at h
    have next : ∀ a w, wpList P ops Q' (ops.toList.drop (i + 1)) a w → wpAny P .any ops Q' fuel (listed.setIfInBounds i true) a w := fun a w h =>
      tail_run O fuel (i + 1) _ a w (by simpa using hz) (by omega) (by omega) (fun j hj => by
        rw [getD_put (by omega)]
        by_cases hji : j = i
        · simp [hji]
        · simp only [hji, if_false, hl j hj]; omega) h
    unfold wpOp
    simp only [hok]
    simp only [wpList] at h
    split
    · rename_i hw
      simp only [hw, if_true] at h
      exact h.imp (Oper.wp_mono next) id
    · rename_i hw
      simp only [hw] at h
      exact next _ _ h

/-! ### the head -/
/-- What the frame holds when these are listed. -/
def Tm (ops : Array Oper) (m : Nat) (V : Nat → AV) (T0 : Nat → AV) (L : Nat → Prop) (T : Nat → AV) : Prop :=
  ∀ j, (∀ k o, k < m → L k → ops[k]? = some o → o.dst = some j → T j = V k) ∧ ((∀ k o, k < m → L k → ops[k]? = some o → o.dst ≠ some j) → T j = T0 j)

theorem aput_T (s : AState) (d : Option Nat) (v : AV) (j : Nat) : (s.put d v).T j = if d = some j then v else s.T j := by
  cases d with
  | none => rfl
  | some i =>
    show Cx.put s.T i v j = _
    simp only [Cx.put, Option.some.injEq]
    by_cases h : j = i
    · simp [h]
    · have : ¬ i = j := fun e => h e.symm
      simp [h, this]

theorem Tm.put {cc : CC} {ops : Array Oper} {m : Nat} (O : Ordered lit cc m ops) {V T0 T T' : Nat → AV} {L L' : Nat → Prop} (h : Tm ops m V T0 L T) {i : Nat} {o : Oper} (hi : ops[i]? = some o) (him : i < m) (hL : ∀ k, L' k ↔ k = i ∨ L k)
    (hT : ∀ j, T' j = if o.dst = some j then V i else T j) : Tm ops m V T0 L' T' := by
  intro j
  obtain ⟨h1, h2⟩ := h j
  refine ⟨fun k ok hk hl hok hd => ?_, fun hn => ?_⟩
  · rw [hT]
    by_cases hki : k = i
    · subst hki
      rw [hi] at hok; cases hok
      simp [hd]
    · have := (O.dsts i k o ok j him hk hki hi hok hd).1
      simp only [this, if_false]
      exact h1 k ok hk (((hL k).1 hl).resolve_left hki) hok hd
  · rw [hT]
    have := hn i o him ((hL i).2 (.inl rfl)) hi
    simp only [this, if_false]
    exact h2 fun k ok hk hl => hn k ok hk ((hL k).2 (.inr hl))

section
variable {D : List Nat} {cc : CC} {ops : Array Oper} {m : Nat} (O : Ordered lit cc m ops) {S : Nat → AState} {V : Nat → AV}
  (hS : ∀ k o, k < m → ops[k]? = some o → Stp P D ops (clAt lit cc k o) o (S k) (S (k + 1)) (V k))
include O hS

theorem text_N : ∀ k, k ≤ m → (S k).N = (S 0).N
  | 0, _ => rfl
  | k + 1, hk => by
    have hlt : k < ops.size := by have := O.le; omega
    have := (hS k ops[k] (by omega) (by simp [hlt])).eq
    rw [this, put_N]
    exact text_N k (by omega)

theorem text_T : ∀ k, k ≤ m → Tm ops m V (S 0).T (fun i => i < k) (S k).T
  | 0, _ => fun j => ⟨fun k o _ hl => absurd hl (by omega), fun _ => rfl⟩
  | k + 1, hk => by
    have hlt : k < ops.size := by have := O.le; omega
    have hok : ops[k]? = some ops[k] := by simp [hlt]
    have := (hS k ops[k] (by omega) hok).eq
    refine Tm.put O (text_T k (by omega)) hok (by omega) (fun i => by omega) fun j => ?_
    rw [this, aput_T]

theorem text_off {t i : Nat} (hti : t ≤ i) (him : i ≤ m) (hq : ∀ k o, t ≤ k → k < i → ops[k]? = some o → clAt lit cc k o ≠ .e) : offEq D (S i).h (S t).h := by
  induction i with
  | zero => rw [show t = 0 by omega]; exact ⟨rfl, fun _ _ => rfl⟩
  | succ i ih =>
    by_cases he : t = i + 1
    · rw [he]; exact ⟨rfl, fun _ _ => rfl⟩
    · have hlt : i < ops.size := by have := O.le; omega
      have hok : ops[i]? = some ops[i] := by simp [hlt]
      have h1 := ih (by omega) (by omega) fun k o h1 h2 => hq k o h1 (by omega)
      have hs := (hS i ops[i] (by omega) hok).go
      have hc := hq i ops[i] (by omega) (by omega) hok
      have h2 : offEq D (S (i + 1)).h (S i).h := by
        rcases hs with ⟨_, hs⟩ | ⟨_, _, hs⟩
        · revert hc hs
          generalize clAt lit cc i ops[i] = c
          intro hc hs
          cases c with
          | t => rw [hs.1]; exact ⟨rfl, fun _ _ => rfl⟩
          | q => rw [hs.1]; exact ⟨rfl, fun _ _ => rfl⟩
          | w => exact hs.2.1
          | e => exact absurd rfl hc
        · rw [hs]; exact ⟨rfl, fun _ _ => rfl⟩
      exact ⟨h2.1.trans h1.1, fun id hid => (h2.2 id hid).trans (h1.2 id hid)⟩

theorem text_on {t i : Nat} (hti : t ≤ i) (him : i ≤ m) (hq : ∀ k o, t ≤ k → k < i → ops[k]? = some o → clAt lit cc k o ≠ .e ∧ clAt lit cc k o ≠ .w) : onEq D (S i).h (S t).h := by
  have : (S i).h = (S t).h := by
    induction i with
    | zero => rw [show t = 0 by omega]
    | succ i ih =>
      by_cases he : t = i + 1
      · rw [he]
      · have hlt : i < ops.size := by have := O.le; omega
        have hok : ops[i]? = some ops[i] := by simp [hlt]
        rw [← ih (by omega) (by omega) fun k o h1 h2 => hq k o h1 (by omega)]
        have hs := (hS i ops[i] (by omega) hok).go
        have hc := hq i ops[i] (by omega) (by omega) hok
        rcases hs with ⟨_, hs⟩ | ⟨_, _, hs⟩
        · revert hc hs
          generalize clAt lit cc i ops[i] = c
          intro hc hs
          cases c with
          | t => exact hs.1
          | q => exact hs.1
          | w => exact absurd rfl hc.2
          | e => exact absurd rfl hc.1
        · exact hs
  rw [this]; exact ⟨rfl, fun _ _ => rfl⟩

omit hS in
theorem reach_listed {listed : Array Bool} (hcl : ∀ i o, ops[i]? = some o → listed.getD i true = true → ∀ e ∈ edgesOf o, listed.getD e true = true) :
    ∀ (i j : Nat) (o : Oper), ops[i]? = some o → O.reach i j → (∀ e ∈ edgesOf o, listed.getD e true = true) → listed.getD j true = true := by
  intro i
  induction i using Nat.strongRecOn with
  | _ i ih =>
    intro j o hi hr he
    obtain ⟨e, hm, h⟩ := O.step i o j hi hr
    rcases h with rfl | h
    · exact he e hm
    · have hei := O.lt i o hi e hm
      have hlt : e < ops.size := by
        have := (Array.getElem?_eq_some_iff.1 hi).1; omega
      have hoe : ops[e]? = some ops[e] := by simp [hlt]
      exact ih e hei j _ hoe h (hcl e _ hoe (he e hm))

theorem heap_end {h : AHeap} {t u i : Nat} (htm : t ≤ m) (hum : u ≤ m) (him : i ≤ m) (ho : offEq D h (S t).h) (hn : onEq D h (S u).h)
    (h1 : ∀ k o, k < m → ops[k]? = some o → clAt lit cc k o = .e → (k < i ↔ k < t)) (h2 : ∀ k o, k < m → ops[k]? = some o → (clAt lit cc k o = .e ∨ clAt lit cc k o = .w) → (k < i ↔ k < u)) : h = (S i).h := by
  have a : offEq D h (S i).h := by
    rcases Nat.le_total t i with hl | hl
    · have := text_off O hS hl him fun k o h4 h5 hok he => by have := h1 k o (by omega) hok he; omega
      exact ⟨ho.1.trans this.1.symm, fun id hid => (ho.2 id hid).trans (this.2 id hid).symm⟩
    · have := text_off O hS hl htm fun k o h4 h5 hok he => by have := h1 k o (by omega) hok he; omega
      exact ⟨ho.1.trans this.1, fun id hid => (ho.2 id hid).trans (this.2 id hid)⟩
  have b : onEq D h (S i).h := by
    rcases Nat.le_total u i with hl | hl
    · have := text_on O hS hl him fun k o h4 h5 hok => ⟨fun he => by have := h2 k o (by omega) hok (.inl he); omega, fun he => by have := h2 k o (by omega) hok (.inr he); omega⟩
      exact ⟨hn.1.trans this.1.symm, fun id hid => (hn.2 id hid).trans (this.2 id hid).symm⟩
    · have := text_on O hS hl hum fun k o h4 h5 hok => ⟨fun he => by have := h2 k o (by omega) hok (.inl he); omega, fun he => by have := h2 k o (by omega) hok (.inr he); omega⟩
      exact ⟨hn.1.trans this.1, fun id hid => (hn.2 id hid).trans (this.2 id hid)⟩
  apply List.ext_getElem?
  intro id
  cases hd : D.contains id with
  | false => exact a.2 id hd
  | true => exact b.2 id hd

theorem head_end {listed : Array Bool} {s : AState} {t u : Nat} (hall : ∀ k, k < m → listed.getD k true = true) (hN : s.N = (S 0).N) (hT : Tm ops m V (S 0).T (fun i => listed.getD i true = true) s.T)
    (htm : t ≤ m) (hum : u ≤ m) (hoff : offEq D s.h (S t).h) (hon : onEq D s.h (S u).h) (hE : ∀ e o, e < m → ops[e]? = some o → clAt lit cc e o = .e → (listed.getD e true = true ↔ e < t))
    (hW : ∀ e o, e < m → ops[e]? = some o → (clAt lit cc e o = .e ∨ clAt lit cc e o = .w) → (listed.getD e true = true ↔ e < u)) : s = S m := by
  have h1 : s.T = (S m).T := by
    funext j
    have hm' := text_T O hS m (Nat.le_refl _) j
    by_cases hx : ∃ k o, k < m ∧ ops[k]? = some o ∧ o.dst = some j
    · obtain ⟨k, o, hk, ho, hd⟩ := hx
      rw [(hT j).1 k o hk (hall k hk) ho hd, hm'.1 k o hk hk ho hd]
    · have hx' : ∀ k o, k < m → ops[k]? = some o → o.dst ≠ some j := fun k o h1 h2 h3 => hx ⟨k, o, h1, h2, h3⟩
      rw [(hT j).2 fun k o h1 _ h2 => hx' k o h1 h2, hm'.2 fun k o h1 _ h2 => hx' k o h1 h2]
  have h2 : s.h = (S m).h := heap_end O hS htm hum (Nat.le_refl _) hoff hon (fun k o hk ho he => ⟨fun _ => (hE k o hk ho he).1 (hall k hk), fun _ => hk⟩) (fun k o hk ho he => ⟨fun _ => (hW k o hk ho he).1 (hall k hk), fun _ => hk⟩)
  have h3 : s.N = (S m).N := by rw [hN, text_N O hS m (Nat.le_refl _)]
  cases s; cases hsm : S m; rw [hsm] at h1 h2 h3; simp_all

theorem head_run {Q' : Exit → Act → World → Prop} {n : Nat} {Z0 : Nat → Prop} {κ0 : Nat → Slot} {w0 : World}
    (hq : ∀ Z κ a w, SRel Z κ (S m) a w → Ext Z0 κ0 w0 Z κ w → StepLt n κ0 κ → n ≤ (S m).h.length → wpList P ops Q' (ops.toList.drop m) a w) : ∀ (fuel : Nat) (listed : Array Bool) (a : Act) (w : World) (Z : Nat → Prop) (κ : Nat → Slot) (s : AState) (t u : Nat),
    listed.size = ops.size → listed.toList.count false = fuel → (∀ i, m ≤ i → i < ops.size → listed.getD i true = false) →
    (∀ i o, ops[i]? = some o → listed.getD i true = true → ∀ e ∈ edgesOf o, listed.getD e true = true) →
    SRel Z κ s a w → Ext Z0 κ0 w0 Z κ w → StepLt n κ0 κ → n ≤ s.h.length → s.N = (S 0).N → Tm ops m V (S 0).T (fun i => listed.getD i true = true) s.T →
    t ≤ m → u ≤ m → offEq D s.h (S t).h → onEq D s.h (S u).h → (∀ e o, e < m → ops[e]? = some o → clAt lit cc e o = .e → (listed.getD e true = true ↔ e < t)) →
    (∀ e o, e < m → ops[e]? = some o → (clAt lit cc e o = .e ∨ clAt lit cc e o = .w) → (listed.getD e true = true ↔ e < u)) → wpAny P .any ops Q' fuel listed a w := by
  intro fuel
  induction fuel with
  | zero =>
    intro listed a w Z κ s t u hz hc hm hcl r ex st hn hN hT htm hum hoff hon hE hW
    have alls : ∀ i, i < ops.size → listed.getD i true = true := fun i hi => by
      rw [List.count_eq_zero] at hc
      cases hx : listed.getD i true with
      | true => rfl
      | false =>
        exact absurd (by
          have hi' : i < listed.size := by omega
          have : listed[i] = false := by simpa [Array.getD, hi'] using hx
          rw [← this]; simp) hc
    refine tail_run O 0 ops.size listed a w hz (by omega) O.le (fun i hi => ⟨fun _ => hi, fun _ => alls i hi⟩) ?_
    have hmn : m = ops.size := by
      rcases Nat.lt_or_ge m ops.size with h | h
      · have h1 := hm m (Nat.le_refl _) h
        rw [alls m h] at h1; cases h1
      · have := O.le; omega
    have es := head_end O hS (fun k hk => alls k (by omega)) hN hT htm hum hoff hon hE hW
    rw [← hmn]
    exact hq Z κ a w (es ▸ r) ex st (es ▸ hn)
  | succ fuel ih =>
    intro listed a w Z κ s t u hz hc hm hcl r ex st hn hN hT htm hum hoff hon hE hW
    by_cases hall : ∀ k, k < m → listed.getD k true = true
    · -- the head is through
      have hlen : fuel + 1 = ops.size - m := by
        have h1 : listed.toList = List.replicate m true ++ List.replicate (ops.size - m) false := by
          apply List.ext_getElem?
          intro i
          rcases Nat.lt_or_ge i ops.size with hi | hi
          · have hi' : i < listed.size := by omega
            rcases Nat.lt_or_ge i m with h | h
            · have := hall i h
              have h2 : listed[i] = true := by simpa [Array.getD, hi'] using this
              rw [List.getElem?_append_left (by simpa using h)]
              simp [hi', h2, h]
            · have := hm i h hi
              have h2 : listed[i] = false := by simpa [Array.getD, hi'] using this
              have h5 : i - m < ops.size - m := by omega
              rw [List.getElem?_append_right (by simpa using h)]
              simp [hi', h2, h5]
          · have := O.le
            rw [List.getElem?_eq_none (by simp; omega), List.getElem?_eq_none (by simp; omega)]
        rw [h1] at hc
        simpa [List.count_append, List.count_replicate] using hc.symm
      have es := head_end O hS hall hN hT htm hum hoff hon hE hW
      exact tail_run O (fuel + 1) m listed a w hz (by have := O.le; omega) (Nat.le_refl _) (fun i hi => by
        rcases Nat.lt_or_ge i m with h | h
        · simp [hall i h, h]
        · have := hm i h hi
          simp [this]; omega) (hq Z κ a w (es ▸ r) ex st (es ▸ hn))
    · -- some of the head are left
      have hex : ∃ k, k < m ∧ listed.getD k true = false := by
        false_or_by_contra
        rename_i hne
        exact hall fun k hk => by
          cases hx : listed.getD k true with
          | true => rfl
          | false => exact absurd ⟨k, hk, hx⟩ hne
      have hmin : ∃ k, k < m ∧ listed.getD k true = false ∧ ∀ j, j < k → listed.getD j true = true := by
        have go : ∀ k, k < m → listed.getD k true = false → ∃ k, k < m ∧ listed.getD k true = false ∧ ∀ j, j < k → listed.getD j true = true := by
          intro k
          induction k using Nat.strongRecOn with
          | _ k ihk =>
            intro h1 h2
            by_cases hj : ∃ j, j < k ∧ listed.getD j true = false
            · obtain ⟨j, h3, h4⟩ := hj
              exact ihk j h3 (by omega) h4
            · exact ⟨k, h1, h2, fun j h3 => by
                cases hx : listed.getD j true with
                | true => rfl
                | false => exact absurd ⟨j, h3, hx⟩ hj⟩
        obtain ⟨k, h1, h2⟩ := hex
        exact go k h1 h2
      obtain ⟨k0, hk0, hl0, hlow⟩ := hmin
      have hk0n : k0 < ops.size := by have := O.le; omega
      have rk0 : k0 ∈ Region.ready .any ops listed := ready_of (o := ops[k0]) (by simp [hk0n]) hl0 fun e he => by
        have h1 := O.lt k0 ops[k0] (by simp [hk0n]) e he
        rw [getD_both (by omega) false true]
        exact hlow e h1
      refine wpAny_step rk0 fun i hi => ?_
      obtain ⟨h1, h2, h3⟩ := ready_spec hi
      have hoi : ops[i]? = some ops[i] := by simp [h1]
      have h3' : ∀ e ∈ edgesOf ops[i], listed.getD e true = true := fun e he => by
        have := O.lt i _ hoi e he
        rw [getD_both (by omega) true false]
        exact h3 _ hoi e he
      have him : i < m := by
        rcases Nat.lt_trichotomy i m with h | h | h
        · exact h
        · subst h
          have := reach_listed O hcl i k0 _ hoi (O.cut _ hoi k0 hk0) h3'
          rw [hl0] at this; cases this
        · have := h3' _ (O.tail i _ hoi h)
          rw [hm (i - 1) (by omega) (by omega)] at this; cases this
      have reach_i : ∀ k, O.reach i k → listed.getD k true = true := fun k hr => reach_listed O hcl i k _ hoi hr h3'
      have not_reach : ∀ k, k < m → listed.getD k true = true → ¬ O.reach k i := fun k hk hl hr => by
        have hkn : k < ops.size := by have := O.le; omega
        have := reach_listed O hcl k i ops[k] (by simp [hkn]) hr (hcl k _ (by simp [hkn]) hl)
        rw [h2] at this; cases this
      -- who may not change places with i stands where the text says
      have side : ∀ k o, k < m → ops[k]? = some o → k ≠ i → (clAt lit cc k o).conf (clAt lit cc i ops[i]) = true → (clAt lit cc i ops[i]).conf (clAt lit cc k o) = true → (listed.getD k true = true ↔ k < i) := fun k o hk ho hne c1 c2 => by
        constructor
        · intro hl
          rcases Nat.lt_or_ge k i with h | h
          · exact h
          · exact absurd (O.cls k i o _ hk him (by omega) ho hoi c2) (not_reach k hk hl)
        · intro hlt
          exact reach_i k (O.cls i k _ o him hk hlt hoi ho c1)
      have hstp := hS i _ him hoi
      have text := text_T O hS i (by omega)
      refine run_step (S := S i) (S' := S (i + 1)) r (by rw [hN, text_N O hS i (by omega)]) hstp hoi ?_ ?_ ?_
      · intro x hx
        have hx1 := hT x
        have hx2 := text x
        have other : ∀ k o, k < m → k ≠ i → ops[k]? = some o → o.dst = some x → listed.getD k true = true ∧ k < i := fun k o hk hne ho hd => by
          have hr := (O.dsts i k _ o x him hk hne hoi ho hd).2 hx
          refine ⟨reach_i k hr, ?_⟩
          -- reach goes down
          have down : ∀ i j o, ops[i]? = some o → O.reach i j → j < i := by
            intro i
            induction i using Nat.strongRecOn with
            | _ i ih =>
              intro j o hi hr
              obtain ⟨e, hm, h⟩ := O.step i o j hi hr
              have h1 := O.lt i o hi e hm
              rcases h with rfl | h
              · exact h1
              · have hlt : e < ops.size := by have := (Array.getElem?_eq_some_iff.1 hi).1; omega
                have := ih e h1 j ops[e] (by simp [hlt]) h
                omega
          exact down i k _ hoi hr
        by_cases hw : ∃ k o, k < m ∧ k ≠ i ∧ ops[k]? = some o ∧ o.dst = some x
        · obtain ⟨k, o, hk, hne, ho, hd⟩ := hw
          obtain ⟨hl, hlt⟩ := other k o hk hne ho hd
          rw [hx1.1 k o hk hl ho hd, hx2.1 k o hk hlt ho hd]
        · have hno : ∀ k o, k < m → k ≠ i → ops[k]? = some o → o.dst ≠ some x := fun k o h1 h2 h3 h4 => hw ⟨k, o, h1, h2, h3, h4⟩
          rw [hx1.2 fun k o hk hl ho => hno k o hk (fun e => by subst e; have hl : listed.getD k true = true := hl; rw [h2] at hl; cases hl) ho, hx2.2 fun k o hk hl ho => hno k o hk (by have hl : k < i := hl; omega) ho]
      · -- what it needs of the heap
        have noE : (∀ k o, k < m → ops[k]? = some o → clAt lit cc k o = .e → (clAt lit cc i ops[i]) ≠ .t → (k < i ↔ k < t)) := fun k o hk ho he hc => by
          by_cases hki : k = i
          · subst hki; rw [hoi] at ho; cases ho
            have := hE k _ hk hoi he
            rw [h2] at this
            have h5 : ¬ k < t := fun h => by have := this.2 h; cases this
            omega
          · rw [← hE k o hk ho he, side k o hk ho hki (by rw [he]; revert hc; cases clAt lit cc i ops[i] <;> simp [Cl.conf]) (by rw [he]; revert hc; cases clAt lit cc i ops[i] <;> simp [Cl.conf])]
        have noW : (∀ k o, k < m → ops[k]? = some o → (clAt lit cc k o = .e ∨ clAt lit cc k o = .w) → (clAt lit cc i ops[i] = .e ∨ clAt lit cc i ops[i] = .w) → (k < i ↔ k < u)) := fun k o hk ho he hc => by
          by_cases hki : k = i
          · subst hki; rw [hoi] at ho; cases ho
            have := hW k _ hk hoi he
            rw [h2] at this
            have h5 : ¬ k < u := fun h => by have := this.2 h; cases this
            omega
          · rw [← hW k o hk ho he, side k o hk ho hki (by rcases he with he | he <;> rcases hc with hc | hc <;> rw [he, hc] <;> rfl) (by rcases he with he | he <;> rcases hc with hc | hc <;> rw [he, hc] <;> rfl)]
        have offi : clAt lit cc i ops[i] ≠ .t → offEq D s.h (S i).h := fun hc => by
          rcases Nat.le_total t i with hl | hl
          · have := text_off O hS hl (by omega) fun k o h4 h5 hok he => by have := noE k o (by omega) hok he hc; omega
            exact ⟨hoff.1.trans this.1.symm, fun id hid => (hoff.2 id hid).trans (this.2 id hid).symm⟩
          · have := text_off O hS hl htm fun k o h4 h5 hok he => by have := noE k o (by omega) hok he hc; omega
            exact ⟨hoff.1.trans this.1, fun id hid => (hoff.2 id hid).trans (this.2 id hid)⟩
        have oni : (clAt lit cc i ops[i] = .e ∨ clAt lit cc i ops[i] = .w) → onEq D s.h (S i).h := fun hc => by
          rcases Nat.le_total u i with hl | hl
          · have := text_on O hS hl (by omega) fun k o h4 h5 hok => ⟨fun he => by have := noW k o (by omega) hok (.inl he) hc; omega, fun he => by have := noW k o (by omega) hok (.inr he) hc; omega⟩
            exact ⟨hon.1.trans this.1.symm, fun id hid => (hon.2 id hid).trans (this.2 id hid).symm⟩
          · have := text_on O hS hl hum fun k o h4 h5 hok => ⟨fun he => by have := noW k o (by omega) hok (.inl he) hc; omega, fun he => by have := noW k o (by omega) hok (.inr he) hc; omega⟩
            exact ⟨hon.1.trans this.1, fun id hid => (hon.2 id hid).trans (this.2 id hid)⟩
        revert offi oni
        generalize clAt lit cc i ops[i] = c
        intro offi oni
        cases c with
        | t => trivial
        | q => exact offi (by simp)
        | w => exact oni (by simp)
        | e =>
          have a := offi (by simp)
          have b := oni (by simp)
          show s.h = (S i).h
          apply List.ext_getElem?
          intro id
          cases hd : D.contains id with
          | false => exact a.2 id hd
          | true => exact b.2 id hd
      · intro Z' κ' a' w' r' ex' sa
        have stn := sa.lt r.rel hn
        have hlS : (S (i + 1)).h.length = s.h.length ∨ clAt lit cc i ops[i] = .e ∨ clAt lit cc i ops[i] ≠ .w := by
          by_cases hcw : clAt lit cc i ops[i] = .w
          · refine .inl ?_
            have e1 : (S (i + 1)).h.length = (S i).h.length := by
              rcases hstp.go with ⟨_, hok⟩ | ⟨_, _, he⟩
              · rw [hcw] at hok; exact hok.1
              · rw [he]
            -- lengths stand still where nothing is laid
            have noE : (∀ k o, k < m → ops[k]? = some o → clAt lit cc k o = .e → (k < i ↔ k < t)) := fun k o hk ho he => by
              by_cases hki : k = i
              · subst hki; rw [hoi] at ho; cases ho; rw [he] at hcw; cases hcw
              · rw [← hE k o hk ho he, side k o hk ho hki (by rw [he, hcw]; rfl) (by rw [he, hcw]; rfl)]
            rw [e1]
            rcases Nat.le_total t i with hl | hl
            · have := text_off O hS hl (by omega) fun k o h4 h5 hok he => by have := noE k o (by omega) hok he; omega
              rw [this.1, hoff.1]
            · have := text_off O hS hl htm fun k o h4 h5 hok he => by have := noE k o (by omega) hok he; omega
              rw [hoff.1, this.1]
          · exact .inr (.inr hcw)
        refine ih (listed.setIfInBounds i true) a' w' Z' κ' _ (if clAt lit cc i ops[i] = .e then i + 1 else t) (if clAt lit cc i ops[i] = .e ∨ clAt lit cc i ops[i] = .w then i + 1 else u) (by simpa using hz) ?_ ?_ ?_ r' (ex.trans ex') (st.trans stn) ?_ ?_ ?_ ?_ ?_ ?_ ?_ ?_ ?_
        · have hi' : i < listed.toList.length := by simp; omega
          have hf : listed.toList[i] = false := by
            have : i < listed.size := by omega
            simpa [Array.getD, this] using h2
          rw [Array.toList_setIfInBounds, List.count_set hi', hf, hc]
          simp
        · intro j hj1 hj2
          rw [getD_put (by omega), if_neg (by omega)]
          exact hm j hj1 hj2
        · intro j o ho hl e he
          rw [getD_put (by omega)] at hl ⊢
          by_cases hei : e = i
          · simp [hei]
          · simp only [hei, if_false]
            by_cases hji : j = i
            · subst hji; rw [hoi] at ho; cases ho; exact h3' e he
            · simp only [hji, if_false] at hl; exact hcl j o ho hl e he
        · exact len_le r.rel r'.rel hn stn
        · rw [put_N]; exact hN
        · refine Tm.put O hT hoi him (fun k => ?_) fun j => aput_T _ _ _ _
          rw [getD_put (by omega)]
          by_cases hk : k = i <;> simp [hk]
        · split
          · omega
          · exact htm
        · split
          · omega
          · exact hum
        · rw [put_h]
          show offEq D (newH D s.h (S (i + 1)).h _) _
          revert hlS
          generalize clAt lit cc i ops[i] = c
          intro hlS
          cases c with
          | t => simpa [newH] using hoff
          | q => simpa [newH] using hoff
          | w =>
            have hl := hlS.resolve_right (by simp)
            simp only [newH, reduceCtorEq, if_false]
            refine ⟨by rw [mrgF_len D _ _ 0 hl]; exact hoff.1, fun id hid => ?_⟩
            rw [mrg_get hl, hid]
            simpa using hoff.2 id hid
          | e => simp only [newH, if_true]; exact ⟨rfl, fun _ _ => rfl⟩
        · rw [put_h]
          show onEq D (newH D s.h (S (i + 1)).h _) _
          revert hlS
          generalize clAt lit cc i ops[i] = c
          intro hlS
          cases c with
          | t => simpa [newH] using hon
          | q => simpa [newH] using hon
          | w =>
            have hl := hlS.resolve_right (by simp)
            simp only [newH, reduceCtorEq, or_true, if_true]
            refine ⟨by rw [mrgF_len D _ _ 0 hl]; exact hl.symm, fun id hid => ?_⟩
            rw [mrg_get hl, hid]
            simp
          | e => simp only [newH, true_or, if_true]; exact ⟨rfl, fun _ _ => rfl⟩
        · intro k o hk ho hke
          rw [getD_put (by omega)]
          by_cases hki : k = i
          · subst hki; rw [hoi] at ho; cases ho; simp [hke]
          · simp only [hki, if_false]
            by_cases he : clAt lit cc i ops[i] = .e
            · simp only [he, if_true]
              rw [side k o hk ho hki (by rw [hke, he]; rfl) (by rw [hke, he]; rfl)]
              omega
            · simp only [he, if_false]; exact hE k o hk ho hke
        · intro k o hk ho hke
          rw [getD_put (by omega)]
          by_cases hki : k = i
          · subst hki; rw [hoi] at ho; cases ho; simp [hke]
          · simp only [hki, if_false]
            by_cases he : clAt lit cc i ops[i] = .e ∨ clAt lit cc i ops[i] = .w
            · simp only [he, if_true]
              rw [side k o hk ho hki (by rcases he with he | he <;> rcases hke with hke | hke <;> rw [hke, he] <;> rfl) (by rcases he with he | he <;> rcases hke with hke | hke <;> rw [hke, he] <;> rfl)]
              omega
            · simp only [he, if_false]; exact hW k o hk ho hke
end

theorem SRel.drawn {Z : Nat → Prop} {κ : Nat → Slot} {s : AState} {a : Act} {w : World} (r : SRel Z κ s a w) (d : Nat) : SRel Z κ s a { w with drawn := d } ∧ Ext Z κ w Z κ { w with drawn := d } := by
  have e : Ext Z κ w Z κ { w with drawn := d } := ⟨rfl, rfl, rfl, Nat.le_refl _, fun _ _ _ => rfl, fun _ h => h, fun _ h => .inl h, fun _ h => .inl h⟩
  exact ⟨⟨⟨r.rel.zlt, r.rel.za, r.rel.hole, fun id x hx => (r.rel.blk id x hx).ext r.rel e (.refl _) rfl fun _ _ _ _ => rfl, r.rel.inj⟩, r.size, fun j => (r.tmps j).ext r.rel e (.refl _), r.defers⟩, e⟩

/-- A REGION THAT DRAWS ITS ORDER: its first m operations in the order of the text, the others behind them. -/
theorem AW.draw {n : Nat} {id : Nat} {ops : Array Oper} {Q : Exit → AState → Prop} {s : AState} (hm : P.follows .mixedOrders = true) (lit : TypeId → Bool) (D : List Nat) (cc : CC) (m : Nat) (hok : okDraw lit cc m ops = true)
    (h : AD P lit D cc ops (AOps P lit ops (Q .normal) (ops.toList.drop m)) 0 (ops.toList.take m) s) : AW P n (.region id ops true) Q s := by
  obtain ⟨O⟩ := ordered hok
  obtain ⟨S, V, h0, hQ, hS⟩ := AD_data _ _ _ h
  have hlen : (ops.toList.take m).length = m := by have := O.le; simp; omega
  rw [hlen, Nat.zero_add] at hQ
  intro Z κ a w r hn
  obtain ⟨r1, e1⟩ := r.drawn (w.drawn + 1)
  refine wp_region_any hm ?_
  have hS' : ∀ k o, k < m → ops[k]? = some o → Stp P D ops (clAt lit cc k o) o (S k) (S (k + 1)) (V k) := fun k o hk ho => by
    have := hS k o (by rw [List.getElem?_take_of_lt hk]; simpa using ho)
    simpa using this
  refine head_run O hS' (n := n) (Z0 := Z) (κ0 := κ) (w0 := w) (fun Z' κ' a' w' r' ex st hn' => ?_) _ _ a _ Z κ s 0 0 (by simp) (by simp) ?_ ?_ r1 e1 (.refl _ _) hn (by rw [h0]) ?_ (Nat.zero_le _) (Nat.zero_le _) (by rw [h0]; exact ⟨rfl, fun _ _ => rfl⟩) (by rw [h0]; exact ⟨rfl, fun _ _ => rfl⟩) ?_ ?_
  · exact AOps_ok (n := n) _ (S m) Z' κ' a' w' hQ r' hn' fun a2 w2 ha => ha.trans ex st
  · intro i _ hi
    simp [Array.getD, hi]
  · intro i o ho hl
    have hi : i < ops.size := (Array.getElem?_eq_some_iff.1 ho).1
    simp [Array.getD, hi] at hl
  · intro j
    refine ⟨fun k o hk hl ho => ?_, fun _ => by rw [h0]⟩
    have hi : k < ops.size := (Array.getElem?_eq_some_iff.1 ho).1
    simp [Array.getD, hi] at hl
  · intro k o hk ho _
    have hi : k < ops.size := (Array.getElem?_eq_some_iff.1 ho).1
    simp [Array.getD, hi]
  · intro k o hk ho _
    have hi : k < ops.size := (Array.getElem?_eq_some_iff.1 ho).1
    simp [Array.getD, hi]

/-! ### the rules, as equations -/
section
variable (ops : Array Oper) (D : List Nat) (cc : CC) (Q K : AState → Prop) (s : AState) (i : Nat) (dst : Option Tmp) (op : Op) (ty : TypeId) (pos : String) (after : Array Edge) (rest : List Oper) (j : Nat) (want : Bool) (o : Oper) (t : Nat)
@[simp] theorem AD_nil : AD P lit D cc ops Q i [] s = Q s := rfl
@[simp] theorem AD_none : AD P lit D cc ops Q i ({ dst := dst, op := op, type := ty, pos := pos, after := after, guard := none } :: rest) s = ADop P lit D cc i { dst := dst, op := op, type := ty, pos := pos, after := after, guard := none } s (AD P lit D cc ops Q (i + 1) rest) := rfl
@[simp] theorem AD_some : AD P lit D cc ops Q i ({ dst := dst, op := op, type := ty, pos := pos, after := after, guard := some (j, want) } :: rest) s =
      (match guardTmp ops j with
      | none => False
      | some t => gdD P lit D cc i { dst := dst, op := op, type := ty, pos := pos, after := after, guard := some (j, want) } s t want (AD P lit D cc ops Q (i + 1) rest) (s.T t)) := rfl
@[simp] theorem gdD_tt : gdD P lit D cc i o s t true K (.val (.bool true)) = ADop P lit D cc i o { s with T := put s.T t (.val (.bool true)) } K := by simp [gdD]
@[simp] theorem gdD_ff : gdD P lit D cc i o s t false K (.val (.bool false)) = ADop P lit D cc i o { s with T := put s.T t (.val (.bool false)) } K := by simp [gdD]
@[simp] theorem gdD_tf : gdD P lit D cc i o s t true K (.val (.bool false)) = (dstOk s.N o.dst ∧ K (({ s with T := put s.T t (.val (.bool false)) } : AState).put o.dst (.tup []))) := by simp [gdD]
@[simp] theorem gdD_ft : gdD P lit D cc i o s t false K (.val (.bool true)) = (dstOk s.N o.dst ∧ K (({ s with T := put s.T t (.val (.bool true)) } : AState).put o.dst (.tup []))) := by simp [gdD]
@[simp] theorem gdD_no (want : Bool) : gdD P lit D cc i o s t want K (.tup []) = (dstOk s.N o.dst ∧ K (s.put o.dst (.tup []))) := rfl
theorem gdD_split {want b : Bool} (h1 : b = want → ADop P lit D cc i o { s with T := put s.T t (.val (.bool want)) } K) (h2 : b = !want → dstOk s.N o.dst ∧ K (({ s with T := put s.T t (.val (.bool !want)) } : AState).put o.dst (.tup []))) :
    gdD P lit D cc i o s t want K (.val (.bool b)) := ⟨h1, h2⟩
@[simp] theorem ADop_call (f : Operand) (xs : Array Operand) (ts : Array TypeId) (g : Option (Nat × Bool)) :
    ADop P lit D cc i { dst := dst, op := .call { callee := .value f, args := xs, argTypes := ts }, type := ty, pos := pos, after := after, guard := g } s K =
      ADcall P D (clAt lit cc i { dst := dst, op := .call { callee := .value f, args := xs, argTypes := ts }, type := ty, pos := pos, after := after, guard := g }) (s.ev f) (xs.toList.map s.ev) s.h (thenOp K s dst) := rfl
end
end Go.Cx
