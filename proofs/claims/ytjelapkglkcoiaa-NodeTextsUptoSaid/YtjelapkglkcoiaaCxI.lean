/- Regions, code, calls. -/
import Derived.Test.YtjelapkglkcoiaaCxH
set_option linter.unusedVariables false
namespace Go.Cx
variable {P : Program} {Z : Nat → Prop} {κ : Nat → Slot} {h : AHeap} {w : World}

theorem rel_nonhole (r : Rel Z κ h w) {id : Nat} (hid : id < h.length) : κ id ≠ .hole := by
  intro hk
  have hx := r.blk id h[id] (by simp [hid])
  cases hb : h[id] with
  | dead => rw [hb] at hx; simp only [blkOk] at hx; rw [hx] at hk; cases hk
  | cells v cs => rw [hb] at hx; obtain ⟨ob, sz, h1, _⟩ := hx; rw [h1] at hk; cases hk
  | map ks vs => rw [hb] at hx; obtain ⟨b, es, cl, h1, _⟩ := hx; rw [h1] at hk; cases hk
theorem StepAll.lt {κ' : Nat → Slot} (r : Rel Z κ h w) (hs : StepAll κ κ') {n : Nat} (hn : n ≤ h.length) : StepLt n κ κ' := fun id hid =>
  (hs id).resolve_left (rel_nonhole r (Nat.lt_of_lt_of_le hid hn))
theorem StepLt.all {κ' : Nat → Slot} (r : Rel Z κ h w) (hs : StepLt h.length κ κ') : StepAll κ κ' := fun id => by
  rcases Nat.lt_or_ge id h.length with h1 | h1
  · exact .inr (hs id h1)
  · exact .inl (r.hole id h1)
theorem StepLt.mono {κ' : Nat → Slot} {m n : Nat} (hs : StepLt m κ κ') (hn : n ≤ m) : StepLt n κ κ' := fun id hid => hs id (Nat.lt_of_lt_of_le hid hn)
theorem StepLt.refl (n : Nat) (κ : Nat → Slot) : StepLt n κ κ := fun _ _ => Slot.step_refl _
theorem StepLt.trans {n : Nat} {a b c : Nat → Slot} (h : StepLt n a b) (k : StepLt n b c) : StepLt n a c := fun id hid => Slot.step_trans (h id hid) (k id hid)
theorem step_nonhole {s s' : Slot} (h : s.step s') (hs : s ≠ .hole) : s' ≠ .hole := by
  cases s <;> cases s' <;> simp_all [Slot.step]
theorem len_le {Z' : Nat → Prop} {κ' : Nat → Slot} {h' : AHeap} {w' : World} (r : Rel Z κ h w) (r' : Rel Z' κ' h' w') {n : Nat} (hn : n ≤ h.length) (hs : StepLt n κ κ') : n ≤ h'.length := by
  rcases Nat.lt_or_ge h'.length n with h1 | h1
  · exact absurd (r'.hole h'.length (Nat.le_refl _)) (step_nonhole (hs _ h1) (rel_nonhole r (by omega)))
  · exact h1

/-- The function can be entered. -/
def Ent (P : Program) (f : FuncId) : Prop := ∀ (args : Array Value) (w : World), (callFunc f args).run P w = .ok (.enter f args) w

/-- A CALL: whatever world tells this heap and these arguments: it returns, and what comes out is told by one of Q's. -/
def ACall (P : Program) (f : FuncId) (args : List AV) (h : AHeap) (Q : AV → AHeap → Prop) : Prop :=
  Ent P f ∧ ∀ (Z : Nat → Prop) (κ : Nat → Slot) (w : World) (cargs : List Value), Rel Z κ h w → Rs Z w κ args cargs →
    Calls P f cargs.toArray w (fun e w' => ∃ v h' Z' κ' c, Q v h' ∧ e = .returned c ∧ Rel Z' κ' h' w' ∧ R Z' w' κ' v c ∧ Ext Z κ w Z' κ' w' ∧ StepLt h.length κ κ')

def AInv (P : Program) (fv : AV) (args : List AV) (h : AHeap) (Q : AV → AHeap → Prop) : Prop :=
  match fv with
  | .fn f cap => ACall P f (args ++ cap) h Q
  | _ => False

theorem ACall.mono {f : FuncId} {args : List AV} {Q Q' : AV → AHeap → Prop} (hc : ACall P f args h Q) (hq : ∀ v h', Q v h' → Q' v h') : ACall P f args h Q' :=
  ⟨hc.1, fun Z κ w cargs r hr => (hc.2 Z κ w cargs r hr).mono fun e w' ⟨v, h', Z', κ', c, hv, rest⟩ => ⟨v, h', Z', κ', c, hq v h' hv, rest⟩⟩

/-! ### regions -/
def goCall (o : Oper) : Option (Operand × Array Operand) :=
  match o.op with
  | .call { callee := .value f, args := xs, argTypes := _ } => some (f, xs)
  | _ => none

def dstOk (N : Nat) : Option Nat → Prop
  | none => True
  | some d => d < N

/-- What goes on behind an operation. -/
def thenOp (K : AState → Prop) (s : AState) (d : Option Nat) (v : AV) (h' : AHeap) : Prop := dstOk s.N d ∧ K (({ s with h := h' } : AState).put d v)
def optB (x : Option (AV × AHeap)) (K : AV → AHeap → Prop) : Prop :=
  match x with
  | some (v, h') => K v h'
  | none => False
def AOp (P : Program) (lit : TypeId → Bool) (o : Oper) (s : AState) (K : AState → Prop) : Prop :=
  match goCall o with
  | some (f, xs) => AInv P (s.ev f) (xs.toList.map s.ev) s.h (thenOp K s o.dst)
  | none => optB (ev P lit s.ev s.h o) (thenOp K s o.dst)

def guardTmp (ops : Array Oper) (j : Nat) : Option Nat := (ops[j]?).bind (·.dst)

/-- A guarded operation: what its guard says. -/
def gdK (P : Program) (lit : TypeId → Bool) (o : Oper) (s : AState) (t : Nat) (want : Bool) (K : AState → Prop) (x : AV) : Prop :=
  match x with
  | .val (.bool b) => (b = want → AOp P lit o { s with T := put s.T t (.val (.bool want)) } K) ∧
      (b = !want → dstOk s.N o.dst ∧ K (({ s with T := put s.T t (.val (.bool !want)) } : AState).put o.dst (.tup [])))
  | .tup [] => dstOk s.N o.dst ∧ K (s.put o.dst (.tup []))
  | _ => False

def AOps (P : Program) (lit : TypeId → Bool) (ops : Array Oper) (Q : AState → Prop) : List Oper → AState → Prop
  | [], s => Q s
  | o :: rest, s => match o.guard with
    | none => AOp P lit o s (AOps P lit ops Q rest)
    | some (j, want) => match guardTmp ops j with
      | none => False
      | some t => gdK P lit o s t want (AOps P lit ops Q rest) (s.T t)

/-- What holds behind a piece: a state that tells frame and world. -/
def After (n : Nat) (Q : AState → Prop) (Z : Nat → Prop) (κ : Nat → Slot) (w : World) (a' : Act) (w' : World) : Prop :=
  ∃ s' Z' κ', Q s' ∧ SRel Z' κ' s' a' w' ∧ Ext Z κ w Z' κ' w' ∧ StepLt n κ κ' ∧ n ≤ s'.h.length

theorem After.trans {n : Nat} {Q : AState → Prop} {Z' : Nat → Prop} {κ' : Nat → Slot} {w' w'' : World} {a'' : Act} (e : Ext Z κ w Z' κ' w') (hs : StepLt n κ κ') (ha : After n Q Z' κ' w' a'' w'') : After n Q Z κ w a'' w'' := by
  obtain ⟨s, Z2, κ2, hq, r, e2, s2, hn⟩ := ha
  exact ⟨s, Z2, κ2, hq, r, e.trans e2, hs.trans s2, hn⟩

theorem AOp_ok {lit : TypeId → Bool} {o : Oper} {s : AState} {K : AState → Prop} {a : Act} {n : Nat} (hop : AOp P lit o s K) (r : SRel Z κ s a w) (hn : n ≤ s.h.length) {Q' : Exit → Act → World → Prop} : o.wp P a w (After n K Z κ w) Q' := by
  unfold AOp at hop
  split at hop
  · rename_i f xs hg
    have hinv := hop
    unfold AInv at hinv
    split at hinv
    · rename_i g cap hf
      have hfr := r.ev f
      rw [hf] at hfr
      have hxs := rho_s r.ev xs.toList
      unfold goCall at hg
      split at hg
      · rename_i f' xs' ts' ho
        simp only [Option.some.injEq, Prod.mk.injEq] at hg
        obtain ⟨rfl, rfl⟩ := hg
        unfold Oper.wp
        generalize hc : a.eval f' = c at hfr
        cases hfr with
        | fn hcap =>
          rename_i vs
          have hex : (execOp a.eval o).run P w = .ok (.enter g (xs'.map a.eval ++ vs.toArray)) w := by
            simp only [execOp, ho, resolve, hc, Deferred.ofValue, Sem.run_bind, Sem.run_pure, Result.andThen_ok, invoke]
            have := hinv.1 (#[] ++ xs'.map a.eval ++ vs.toArray) w
            simpa using this
          rw [hex, Oper.upon_enter]
          have hcall := hinv.2 Z κ w (xs'.toList.map a.eval ++ vs) r.rel (hxs.append hcap)
          have hargs : (xs'.toList.map a.eval ++ vs).toArray = xs'.map a.eval ++ vs.toArray := by
            rw [toArray_map xs' a.eval]; simp
          rw [hargs] at hcall
          refine hcall.mono fun e w' he => ?_
          obtain ⟨v, h', Z', κ', c', ⟨hd, hk⟩, rfl, r', hv, ex, st⟩ := he
          have sa := StepLt.all r.rel st
          exact ⟨_, Z', κ', hk, r.put r' hv ex sa (fun i hi => by rw [hi] at hd; exact hd), ex, st.mono hn, by
            have := len_le r.rel r' hn (st.mono hn)
            cases o.dst <;> exact this⟩
      · cases hg
    · exact hinv.elim
  · unfold optB at hop
    split at hop
    · rename_i v h' hv
      obtain ⟨hd, hk⟩ := hop
      obtain ⟨c, w', Z', κ', hrun, r', hr, ex, sa⟩ := ev_ok (P := P) r.rel r.ev hv
      have st := sa.lt r.rel hn
      have fin : After n K Z κ w (a.put o.dst c) w' := ⟨_, Z', κ', hk, r.put r' hr ex sa (fun i hi => by rw [hi] at hd; exact hd), ex, st, by
        have := len_le r.rel r' hn st
        cases o.dst <;> exact this⟩
      unfold Oper.wp
      rcases hrun with hrun | ⟨hrun, rfl⟩
      · rw [hrun, Oper.upon_value]; exact fin
      · rw [hrun, Oper.upon_skip]; exact fin
    · exact hop.elim

theorem wanted_none {o : Oper} {y : Nat → Option Bool} (hg : o.guard = none) : Region.wanted o y = true := by simp [Region.wanted, hg]

theorem SRel.bool {s : AState} {a : Act} {t : Nat} {b : Bool} (r : SRel Z κ s a w) (ht : s.T t = .val (.bool b)) : a.tmps[t]? = some (.bool b) := by
  have h1 := r.tmps t
  rw [ht] at h1
  have h2 := conc_ok h1 (v := .bool b) rfl
  rw [Array.getD_eq_getD_getElem?] at h2
  cases h3 : a.tmps[t]? with
  | none => rw [h3] at h2; simp [undef] at h2
  | some v => rw [h3] at h2; simp at h2; rw [h2]

theorem SRel.noBool {s : AState} {a : Act} {t : Nat} (r : SRel Z κ s a w) (ht : s.T t = .tup []) : ∀ b, a.tmps[t]? ≠ some (.bool b) := by
  intro b hb
  have h1 := r.tmps t
  rw [ht, Array.getD_eq_getD_getElem?, hb] at h1
  cases h1

theorem SRel.retT {s : AState} {a : Act} {t : Nat} {v : AV} (r : SRel Z κ s a w) (hv : s.T t = v) : SRel Z κ { s with T := Cx.put s.T t v } a w :=
  ⟨r.rel, r.size, fun j => by
    by_cases hj : j = t
    · subst hj; simp only [put_same]; rw [← hv]; exact r.tmps j
    · simp only [put_ne _ _ hj]; exact r.tmps j, r.defers⟩

theorem put_defers (a : Act) (d : Option Nat) (v : Value) : (a.put d v).defers = a.defers := by cases d <;> rfl

theorem SRel.skip {s : AState} {a : Act} {d : Option Nat} (r : SRel Z κ s a w) (hd : dstOk s.N d) : SRel Z κ (s.put d (.tup [])) (a.put d undef) w := by
  have := r.put (d := d) (v := .tup []) (c := undef) (h' := s.h) r.rel (.tup (vs := []) .nil) (.refl _ _ _) (.refl _) (fun i hi => by rw [hi] at hd; exact hd)
  exact this

theorem AOps_ok {lit : TypeId → Bool} {ops : Array Oper} {Q : AState → Prop} {n : Nat} {Q' : Exit → Act → World → Prop} : ∀ (l : List Oper) (s : AState) (Z : Nat → Prop) (κ : Nat → Slot) (a : Act) (w : World), AOps P lit ops Q l s → SRel Z κ s a w → n ≤ s.h.length →
    (∀ a' w', After n Q Z κ w a' w' → Q' .normal a' w') → wpList P ops Q' l a w
  | [], s, Z, κ, a, w, hl, r, hn, hq => hq _ _ ⟨s, Z, κ, hl, r, .refl _ _ _, .refl _ _, hn⟩
  | o :: rest, s, Z, κ, a, w, hl, r, hn, hq => by
    simp only [AOps] at hl
    have step : ∀ s : AState, SRel Z κ s a w → n ≤ s.h.length → AOp P lit o s (AOps P lit ops Q rest) → o.wp P a w (wpList P ops Q' rest) Q' := fun s r hn hop =>
      Oper.wp_mono (fun a' w' ha => by
        obtain ⟨s', Z', κ', hq', r', e, st, hn'⟩ := ha
        exact AOps_ok rest s' Z' κ' a' w' hq' r' hn' (fun a'' w'' h2 => hq _ _ (h2.trans e st))) (AOp_ok hop r hn)
    split at hl
    · rename_i hg
      simp only [wpList, wanted_none hg, if_true]
      exact .inl (step s r hn hl)
    · rename_i j want hg
      split at hl
      · exact hl.elim
      · rename_i t ht
        unfold gdK at hl
        split at hl
        · rename_i b hb
          obtain ⟨h1, h2⟩ := hl
          have hy : yielded ops a.tmps j = some b := by
            unfold guardTmp at ht
            simp only [yielded, ht, Option.bind_some, r.bool hb]
          have hw : Region.wanted o (yielded ops a.tmps) = (b == want) := by
            simp [Region.wanted, hg, hy]
          simp only [wpList, hw]
          by_cases hbw : b = want
          · subst hbw
            simp only [beq_self_eq_true, if_true]
            exact .inl (step _ (r.retT hb) hn (h1 rfl))
          · have hbn : b = !want := by cases b <;> cases want <;> simp_all
            have : (b == want) = false := by simpa using hbw
            rw [this]
            simp only [Bool.false_eq_true, if_false]
            subst hbn
            obtain ⟨hd, h2⟩ := h2 rfl
            exact AOps_ok rest _ Z κ _ w h2 ((r.retT hb).skip hd) (by cases o.dst <;> exact hn) hq
        · rename_i hb
          obtain ⟨hd, h2⟩ := hl
          have hy : ∀ b, yielded ops a.tmps j ≠ some b := by
            intro b
            unfold guardTmp at ht
            simp only [yielded, ht, Option.bind_some]
            have := r.noBool hb
            split
            · rename_i b' hb'; exact absurd hb' (this b')
            · simp
          have hw : Region.wanted o (yielded ops a.tmps) = false := by
            simp only [Region.wanted, hg]
            cases hyy : yielded ops a.tmps j with
            | none => rfl
            | some b => exact absurd hyy (hy b)
          simp only [wpList, hw, Bool.false_eq_true, if_false]
          exact AOps_ok rest _ Z κ _ w h2 (r.skip hd) (by cases o.dst <;> exact hn) hq
        · exact hl.elim

/-! ### code -/
def AW (P : Program) (n : Nat) (c : Code) (Q : Exit → AState → Prop) (s : AState) : Prop :=
  ∀ (Z : Nat → Prop) (κ : Nat → Slot) (a : Act) (w : World), SRel Z κ s a w → n ≤ s.h.length → c.wp P (fun e a' w' => After n (Q e) Z κ w a' w') a w

def thenA (next : AState → Prop) (Q : Exit → AState → Prop) : Exit → AState → Prop
  | .normal, s => next s
  | e, s => Q e s
def inBlockA (id : Nat) (Q : Exit → AState → Prop) : Exit → AState → Prop
  | .exit id', s => if id' = id then Q .normal s else Q (.exit id') s
  | e, s => Q e s

def AX (P : Program) (lit : TypeId → Bool) (n : Nat) : Code → (Exit → AState → Prop) → AState → Prop
  | .skip, Q, s => Q .normal s
  | .label _, Q, s => Q .normal s
  | .region id ops draw, Q, s => if draw then AW P n (.region id ops true) Q s else AOps P lit ops (Q .normal) ops.toList s
  | .seq a b, Q, s => AX P lit n a (thenA (AX P lit n b Q) Q) s
  | .cond c a b, Q, s => match s.ev c with
    | .val (.bool t) => (t = true → AX P lit n a Q s) ∧ (t = false → AX P lit n b Q s)
    | _ => False
  | .block id c, Q, s => AX P lit n c (inBlockA id Q) s
  | .loop c, Q, s => AW P n (.loop c) Q s
  | .rangeFunc f ps x c, Q, s => AW P n (.rangeFunc f ps x c) Q s
  | .exit id, Q, s => Q (.exit id) s
  | .scope c, Q, s => AW P n (.scope c) Q s
  | .goto l, Q, s => Q (.goto l) s
  | .ret, Q, s => Q .ret s
  | .refuse _, Q, s => False

theorem After.mono {n : Nat} {Q Q2 : AState → Prop} {a' : Act} {w' : World} (ha : After n Q Z κ w a' w') (hq : ∀ s, Q s → Q2 s) : After n Q2 Z κ w a' w' :=
  let ⟨s, Z2, κ2, h1, rest⟩ := ha
  ⟨s, Z2, κ2, hq s h1, rest⟩

theorem AW.now {n : Nat} {Q : AState → Prop} {s : AState} {a : Act} (hq : Q s) (r : SRel Z κ s a w) (hn : n ≤ s.h.length) : After n Q Z κ w a w := ⟨s, Z, κ, hq, r, .refl _ _ _, .refl _ _, hn⟩

theorem AX_ok {lit : TypeId → Bool} {n : Nat} : ∀ (c : Code) (Q : Exit → AState → Prop) (s : AState), AX P lit n c Q s → AW P n c Q s
  | .skip, Q, s, hx => fun Z κ a w r hn => wp_skip (AW.now hx r hn)
  | .label l, Q, s, hx => fun Z κ a w r hn => wp_label (AW.now hx r hn)
  | .region id ops draw, Q, s, hx => by
    cases draw with
    | true => simpa [AX] using hx
    | false =>
      intro Z κ a w r hn
      simp only [AX, Bool.false_eq_true, if_false] at hx
      exact wp_region_list (AOps_ok (n := n) ops.toList s Z κ a w hx r hn fun a' w' ha => ha)
  | .seq x y, Q, s, hx => fun Z κ a w r hn => by
    refine wp_seq (wp_mono (AX_ok x _ s hx Z κ a w r hn) fun e a' w' ha => ?_)
    cases e with
    | normal =>
      obtain ⟨s', Z', κ', hq, r', ex, st, hn'⟩ := ha
      exact wp_mono (AX_ok y Q s' hq Z' κ' a' w' r' hn') fun e2 a2 w2 h2 => h2.trans ex st
    | exit id => exact ha
    | goto l => exact ha
    | ret => exact ha
    | panic ch => exact ha
    | outgrown => exact ha
  | .cond c x y, Q, s, hx => fun Z κ a w r hn => by
    simp only [AX] at hx
    split at hx
    · rename_i t ht
      have hc := r.ev c
      rw [ht] at hc
      have hc := conc_ok hc (v := .bool t) rfl
      cases t with
      | true => exact wp_cond_true hc (AX_ok x Q s (hx.1 rfl) Z κ a w r hn)
      | false => exact wp_cond_false hc (AX_ok y Q s (hx.2 rfl) Z κ a w r hn)
    · exact hx.elim
  | .block id c, Q, s, hx => fun Z κ a w r hn => by
    refine wp_block (wp_mono (AX_ok c _ s hx Z κ a w r hn) fun e a' w' ha => ?_)
    cases e with
    | exit id' =>
      show if id' = id then After n (Q .normal) Z κ w a' w' else After n (Q (.exit id')) Z κ w a' w'
      by_cases he : id' = id
      · rw [if_pos he]; exact ha.mono fun s h => by simpa [inBlockA, he] using h
      · rw [if_neg he]; exact ha.mono fun s h => by simpa [inBlockA, he] using h
    | normal => exact ha
    | goto l => exact ha
    | ret => exact ha
    | panic ch => exact ha
    | outgrown => exact ha
  | .loop c, Q, s, hx => hx
  | .rangeFunc f ps x c, Q, s, hx => hx
  | .exit id, Q, s, hx => fun Z κ a w r hn => wp_exit (AW.now hx r hn)
  | .scope c, Q, s, hx => hx
  | .goto l, Q, s, hx => fun Z κ a w r hn => wp_goto (AW.now hx r hn)
  | .ret, Q, s, hx => fun Z κ a w r hn => wp_ret (AW.now hx r hn)
  | .refuse _, Q, s, hx => hx.elim

end Go.Cx
