/- Regions that draw their order: the head in the order of the text, whatever order is drawn; the tail is forced. -/
import Derived.Test.YtjelapkglkcoiaaCxL
set_option linter.unusedVariables false
set_option linter.unusedSimpArgs false
namespace Go.Cx
variable {P : Program} {lit : TypeId → Bool} {n : Nat}

theorem ev_congr {ρ ρ' : Operand → AV} {h : AHeap} (o : Oper) (hx : ∀ x ∈ o.op.operands, ρ x = ρ' x) : ev P lit ρ h o = ev P lit ρ' h o := by
  obtain ⟨dst, op, type, pos, after, guard⟩ := o
  have pairs : ∀ ps : Array (Nat × Operand), (∀ x ∈ (ps.toList.map (·.2)).toArray, ρ x = ρ' x) → (ps.toList.map fun p => (p.1, ρ p.2)) = (ps.toList.map fun p => (p.1, ρ' p.2)) := fun ps hp =>
    List.map_congr_left fun p hm => by
      rw [hp p.2 (by simp only [List.mem_toArray, List.mem_map]; exact ⟨p, hm, rfl⟩)]
  have many : ∀ xs : Array Operand, (∀ x ∈ xs, ρ x = ρ' x) → xs.toList.map ρ = xs.toList.map ρ' := fun xs hp => List.map_congr_left fun x hm => hp x (by simpa using hm)
  cases op <;> simp only [Op.operands] at hx <;> simp only [ev]
  case build t ps => rw [pairs ps hx]
  case buildSlice t m ps => rw [pairs ps hx]
  case makeFunc fn first cap =>
    cases fn <;> simp only [ev]
    split
    · rw [many cap fun x hx' => hx x (by simp [hx'])]
    · rfl
  case slice t x lo hi mx =>
    have h1 : ρ x = ρ' x := hx x (by simp)
    have h2 : lo.map ρ = lo.map ρ' := by cases lo <;> simp_all
    have h3 : hi.map ρ = hi.map ρ' := by cases hi <;> simp_all
    have h4 : mx.map ρ = mx.map ρ' := by cases mx <;> simp_all
    rw [h1, h2, h3, h4]
  case call c =>
    obtain ⟨callee, args, ts⟩ := c
    cases callee <;> simp only [ev]
    rw [many args fun x hx' => hx x (by simp [Go.Call.operands, hx'])]
  case makeMap t r => cases r <;> rfl
  case insert t m k x => rw [hx m (by simp), hx k (by simp), hx x (by simp)]
  case mapUpdate t m k x => rw [hx m (by simp), hx k (by simp), hx x (by simp)]
  case lookup t m k ok => rw [hx m (by simp), hx k (by simp)]
  all_goals (first | rfl | (simp_all; done))

/-! ### one operation, known by its operands alone -/
def Y (P : Program) (o : Oper) (ρ : Operand → AV) (h h' : AHeap) (v : AV) : Prop :=
  ∀ (Z : Nat → Prop) (κ : Nat → Slot) (w : World) (a : Act), Rel Z κ h w → (∀ x ∈ o.op.operands, R Z w κ (ρ x) (a.eval x)) → ∀ (K : Act → World → Prop) (Q' : Exit → Act → World → Prop),
    (∀ c Z' κ' w', Rel Z' κ' h' w' → R Z' w' κ' v c → Ext Z κ w Z' κ' w' → StepAll κ κ' → K (a.put o.dst c) w') → o.wp P a w K Q'

theorem Y.ev {o : Oper} {ρ : Operand → AV} {h h' : AHeap} {v : AV} (he : ev P lit ρ h o = some (v, h')) : Y P o ρ h h' v := by
  classical
  intro Z κ w a r hx K Q' hk
  have he' : Cx.ev P lit (fun x => if x ∈ o.op.operands then ρ x else .any) h o = some (v, h') := by
    rw [← he]; exact ev_congr o fun x hm => by simp [hm]
  obtain ⟨c, w', Z', κ', hrun, r', hr, ex, sa⟩ := ev_ok (P := P) r (σ := a.eval) (fun x => by
    by_cases hm : x ∈ o.op.operands
    · simpa [hm] using hx x hm
    · simp only [hm, if_false]; exact .any) he'
  unfold Oper.wp
  rcases hrun with hrun | ⟨hrun, rfl⟩
  · rw [hrun, Oper.upon_value]; exact hk _ _ _ _ r' hr ex sa
  · rw [hrun, Oper.upon_skip]; exact hk _ _ _ _ r' hr ex sa

/-- A variable is laid where room is kept for it. -/
theorem Y.room {t : TypeId} {zs : List AV} {o : Oper} (ho : o.op = .alloc t) (hz : tzero P t = some zs) {ρ : Operand → AV} {h : AHeap} {id ver : Nat} (hx : h[id]? = some (.cells ver [])) : Y P o ρ h (h.set id (.cells (ver + 1) zs)) (.ptr id (ver + 1) 0) := by
  intro Z κ w a r _ K Q' hk
  obtain ⟨z, hz1, rfl⟩ := run_tzero hz w
  have hrun : (execOp a.eval o).run P w = .ok (.value (.pointer (some ⟨w.heap.size, 0, none⟩))) (w.alloc (.cells z.cells t)) := by
    simp only [execOp, ho, Sem.run_bind, Instr.alloc, hz1, Result.andThen_ok, newVar, newRow, run_newObj_alloc, Sem.run_pure]
  obtain ⟨r', e, st⟩ := rel_regrow r hx (b' := w.heap.size) (arr' := z.cells) (E := t) (w' := w.alloc (.cells z.cells t)) (.inr (Nat.le_refl _)) rfl rfl rfl
    (by show _ ≤ (w.heap.push _).size; simp) (fun b hb _ => heap_alloc_old w _ hb) (heap_alloc_new' w _) (us := []) (ws := z.cells.toList) .nil (Rs_cellV z.cells.toList) (by simp) (fun j u hj => by simpa using hj)
  rw [List.nil_append] at r'
  unfold Oper.wp
  rw [hrun, Oper.upon_value]
  refine hk _ _ _ _ r' (.ptr ?_) e st
  simp [refOk, upd_same, ptrAt]

theorem rs_of {Z : Nat → Prop} {κ : Nat → Slot} {w : World} {ρ : Operand → AV} {σ : Operand → Value} : ∀ l : List Operand, (∀ x ∈ l, R Z w κ (ρ x) (σ x)) → Rs Z w κ (l.map ρ) (l.map σ)
  | [], _ => .nil
  | x :: l, hx => .cons (hx x (by simp)) (rs_of l fun y hy => hx y (by simp [hy]))

theorem Y.call {o : Oper} {f : Operand} {xs : Array Operand} (hg : goCall o = some (f, xs)) {ρ : Operand → AV} {h h' : AHeap} {v : AV} (hc : AInv P (ρ f) (xs.toList.map ρ) h (fun v' h'' => v' = v ∧ h'' = h')) : Y P o ρ h h' v := by
  intro Z κ w a r hx K Q' hk
  unfold AInv at hc
  split at hc
  · rename_i g cap hf
    unfold goCall at hg
    split at hg
    · rename_i f' xs' ts' ho
      simp only [Option.some.injEq, Prod.mk.injEq] at hg
      obtain ⟨rfl, rfl⟩ := hg
      rw [ho] at hx
      simp only [Op.operands, Go.Call.operands] at hx
      have hfr := hx f' (by simp)
      rw [hf] at hfr
      have hxs := rs_of (Z := Z) (κ := κ) (w := w) (ρ := ρ) (σ := a.eval) xs'.toList (fun x hm => hx x (by simp at hm; simp [hm]))
      unfold Oper.wp
      generalize hcv : a.eval f' = c at hfr
      cases hfr with
      | fn hcap =>
        rename_i vs
        have hex : (execOp a.eval o).run P w = .ok (.enter g (xs'.map a.eval ++ vs.toArray)) w := by
          simp only [execOp, ho, resolve, hcv, Deferred.ofValue, Sem.run_bind, Sem.run_pure, Result.andThen_ok, invoke]
          have := hc.1 (#[] ++ xs'.map a.eval ++ vs.toArray) w
          simpa using this
        rw [hex, Oper.upon_enter]
        have hcall := hc.2 Z κ w (xs'.toList.map a.eval ++ vs) r (hxs.append hcap)
        have hargs : (xs'.toList.map a.eval ++ vs).toArray = xs'.map a.eval ++ vs.toArray := by
          rw [toArray_map xs' a.eval]; simp
        rw [hargs] at hcall
        refine hcall.mono fun e w' he => ?_
        obtain ⟨v', h'', Z', κ', c', ⟨rfl, rfl⟩, rfl, r', hv, ex, st⟩ := he
        exact hk _ _ _ _ r' hv ex (StepLt.all r st)
    · cases hg
  · exact hc.elim

/-! ### classes -/
/-- 't': touches no memory; 'q': reads blocks off D; 'w': reads and writes one of D; 'e': all else. -/
inductive Cl where
  | t | q | w | e
  deriving DecidableEq

def offEq (D : List Nat) (k h : AHeap) : Prop := k.length = h.length ∧ ∀ id : Nat, D.contains id = false → k[id]? = h[id]?
def onEq (D : List Nat) (k h : AHeap) : Prop := k.length = h.length ∧ ∀ id : Nat, D.contains id = true → k[id]? = h[id]?
/-- The blocks of D of the one, all else of the other. -/
def mrgF (D : List Nat) : Nat → AHeap → AHeap → AHeap
  | i, x :: a, y :: b => (if D.contains i then x else y) :: mrgF D (i + 1) a b
  | _, _, _ => []
abbrev mrg (D : List Nat) (a b : AHeap) : AHeap := mrgF D 0 a b
theorem mrgF_len (D : List Nat) : ∀ (a b : AHeap) (i : Nat), a.length = b.length → (mrgF D i a b).length = b.length
  | [], [], _, _ => rfl
  | x :: a, y :: b, i, h => by simp [mrgF, mrgF_len D a b (i + 1) (by simpa using h)]
theorem mrgF_get (D : List Nat) : ∀ (a b : AHeap) (i j : Nat), a.length = b.length → (mrgF D i a b)[j]? = if D.contains (i + j) then a[j]? else b[j]?
  | [], [], _, _, _ => by simp [mrgF]
  | x :: a, y :: b, i, 0, h => by simp only [mrgF, List.getElem?_cons_zero, Nat.add_zero]; split <;> rfl
  | x :: a, y :: b, i, j + 1, h => by
    simp only [mrgF, List.getElem?_cons_succ]
    rw [mrgF_get D a b (i + 1) j (by simpa using h), show i + 1 + j = i + (j + 1) by omega]
theorem mrg_get {D : List Nat} {a b : AHeap} (h : a.length = b.length) (j : Nat) : (mrg D a b)[j]? = if D.contains j then a[j]? else b[j]? := by
  rw [mrgF_get D a b 0 j h, Nat.zero_add]

def Cl.ok (P : Program) (D : List Nat) (o : Oper) (ρ : Operand → AV) (h h' : AHeap) (v : AV) : Cl → Prop
  | .t => h' = h ∧ ∀ k, Y P o ρ k k v
  | .q => h' = h ∧ ∀ k, offEq D k h → Y P o ρ k k v
  | .w => h'.length = h.length ∧ offEq D h' h ∧ ∀ k, onEq D k h → Y P o ρ k (mrg D h' k) v
  | .e => Y P o ρ h h' v

def clOf (lit : TypeId → Bool) (o : Oper) : Cl :=
  match o.op with
  | .move _ | .assign _ | .pick .. | .build .. | .nilCheck _ | .fieldAddr .. | .field .. | .indexAddr .. | .index .. | .slice .. | .extract .. | .makeFunc .. | .binOp .. | .unOp .. | .convert .. => .t
  | .buildSlice t _ _ => if lit t then .e else .t
  | .call { callee := .builtin .len, .. } => .t
  | .load .. | .lookup .. => .q
  | .store .. => .w
  | _ => .e

def offD (D : List Nat) : AV → Bool
  | .ptr id _ _ | .mp id => !D.contains id
  | _ => true
def onD (D : List Nat) : AV → Bool
  | .ptr id _ _ | .mp id => D.contains id
  | _ => true

theorem map_h {x : Option AV} {h h' : AHeap} {v : AV} (hx : (x.map fun v => (v, h)) = some (v, h')) : h' = h ∧ ∀ k : AHeap, (x.map fun v => (v, k)) = some (v, k) := by
  cases x with
  | none => simp at hx
  | some u => simp at hx; obtain ⟨rfl, rfl⟩ := hx; simp

def pickH (x A B : AV) (k : AHeap) : Option (AV × AHeap) :=
  match x with
  | .val (.bool t) => some (if t then A else B, k)
  | _ => none
theorem pick_h {x A B : AV} {h h' : AHeap} {v : AV} (hx : pickH x A B h = some (v, h')) : h' = h ∧ ∀ k : AHeap, pickH x A B k = some (v, k) := by
  unfold pickH at *
  split at hx
  · cases hx; exact ⟨rfl, fun _ => rfl⟩
  · cases hx

theorem ev_t {o : Oper} {ρ : Operand → AV} {h h' : AHeap} {v : AV} (hg : goCall o = none) (hcv : ∀ s d x, o.op ≠ .convert s d x) (hc : clOf lit o = .t) (he : ev P lit ρ h o = some (v, h')) : h' = h ∧ ∀ k, ev P lit ρ k o = some (v, k) := by
  obtain ⟨dst, op, type, pos, after, guard⟩ := o
  cases op <;> (try simp only [clOf, reduceCtorEq] at hc) <;> (try simp only [ev] at he ⊢)
  case move x => cases he; exact ⟨rfl, fun _ => rfl⟩
  case assign x => cases he; exact ⟨rfl, fun _ => rfl⟩
  case pick c a b =>
    generalize ρ c = x at he ⊢
    exact pick_h (x := x) (A := ρ a) (B := ρ b) he
  case build t ps => exact map_h he
  case buildSlice t m ps =>
    have hl : lit t = false := by
      cases hl : lit t with
      | false => rfl
      | true => simp [hl] at hc
    generalize abuildSlice P t m _ = x at he ⊢
    cases x with
    | none => simp at he
    | some y => obtain ⟨cs, k⟩ := y; simp [hl] at he ⊢; obtain ⟨rfl, rfl⟩ := he; simp
  case nilCheck x =>
    generalize ρ x = y at he ⊢
    cases y <;> simp at he ⊢
    all_goals (obtain ⟨rfl, rfl⟩ := he; simp)
  case fieldAddr t x i => exact map_h he
  case field t x i => exact map_h he
  case indexAddr t x i => exact map_h he
  case index t x i => exact map_h he
  case slice t x lo hi mx =>
    generalize ρ x = y at he ⊢
    cases y <;> exact map_h he
  case extract x i => exact map_h he
  case makeFunc fn first cap =>
    cases fn <;> simp only [reduceCtorEq] at he ⊢
    split at he
    · simp at he; obtain ⟨rfl, rfl⟩ := he; rename_i hf; simp [hf]
    · cases he
  case binOp op t x y yt => exact map_h he
  case unOp op t x => exact map_h he
  case convert s d x => exact absurd rfl (hcv s d x)
  case call c =>
    obtain ⟨callee, args, ts⟩ := c
    cases callee with
    | value f => simp [goCall] at hg
    | invoke r m => simp [clOf] at hc
    | builtin b =>
      cases b <;> simp only [reduceCtorEq] at hc
      simp only [evCall] at he ⊢
      split at he <;> try contradiction
      · rename_i t x h1 h2
        split at he
        · rename_i u hu
          simp at he; obtain ⟨rfl, rfl⟩ := he
          simp [h1, h2, hu]
        · cases he
      · have := map_h he
        exact ⟨this.1, this.2⟩

theorem ev_conv {o : Oper} {ρ : Operand → AV} {h h' : AHeap} {v : AV} {s d : TypeId} {x : Operand} (ho : o.op = .convert s d x) (hx : notOwn (ρ x) = true) (he : ev P lit ρ h o = some (v, h')) : h' = h ∧ ∀ k, ev P lit ρ k o = some (v, k) := by
  obtain ⟨dst, op, type, pos, after, guard⟩ := o
  simp only at ho; subst ho
  simp only [ev] at he ⊢
  refine ⟨(map_h he).1, fun k => ?_⟩
  rw [aconvS_any (h := h) hx k]
  exact (map_h he).2 k
theorem ev_load_q {o : Oper} {ρ : Operand → AV} {h h' : AHeap} {v : AV} {D : List Nat} {t : TypeId} {x : Operand} (ho : o.op = .load t x) (hx : offD D (ρ x) = true) (he : ev P lit ρ h o = some (v, h')) : h' = h ∧ ∀ k, offEq D k h → ev P lit ρ k o = some (v, k) := by
  obtain ⟨dst, op, type, pos, after, guard⟩ := o
  simp only at ho; subst ho
  simp only [ev] at he ⊢
  refine ⟨(map_h he).1, fun k hk => ?_⟩
  have : aload P t (ρ x) k = aload P t (ρ x) h := by
    unfold aload
    generalize ρ x = y at hx
    cases y with
    | ptr id ver off => simp only [offD, Bool.not_eq_true'] at hx; simp only [hk.2 id hx]
    | _ => rfl
  rw [this]
  exact (map_h he).2 k
theorem ev_load_w {o : Oper} {ρ : Operand → AV} {h h' : AHeap} {v : AV} {D : List Nat} {t : TypeId} {x : Operand} (ho : o.op = .load t x) (hx : onD D (ρ x) = true) (he : ev P lit ρ h o = some (v, h')) : h' = h ∧ ∀ k, onEq D k h → ev P lit ρ k o = some (v, k) := by
  obtain ⟨dst, op, type, pos, after, guard⟩ := o
  simp only at ho; subst ho
  simp only [ev] at he ⊢
  refine ⟨(map_h he).1, fun k hk => ?_⟩
  have : aload P t (ρ x) k = aload P t (ρ x) h := by
    unfold aload
    generalize ρ x = y at hx
    cases y with
    | ptr id ver off => simp only [onD] at hx; simp only [hk.2 id hx]
    | _ => rfl
  rw [this]
  exact (map_h he).2 k
theorem ev_look_q {o : Oper} {ρ : Operand → AV} {h h' : AHeap} {v : AV} {D : List Nat} {t : TypeId} {m x : Operand} {ok : Bool} (ho : o.op = .lookup t m x ok) (hx : offD D (ρ m) = true) (he : ev P lit ρ h o = some (v, h')) : h' = h ∧ ∀ k, offEq D k h → ev P lit ρ k o = some (v, k) := by
  obtain ⟨dst, op, type, pos, after, guard⟩ := o
  simp only at ho; subst ho
  simp only [ev] at he ⊢
  refine ⟨(map_h he).1, fun k hk => ?_⟩
  have : mapOf (ρ m) k = mapOf (ρ m) h := by
    unfold mapOf
    generalize ρ m = y at hx
    cases y with
    | mp id => simp only [offD, Bool.not_eq_true'] at hx; simp only [hk.2 id hx]
    | val u => cases u <;> try rfl
               rename_i b; cases b <;> rfl
    | _ => rfl
  have : alookup P t (ρ m) (ρ x) ok k = alookup P t (ρ m) (ρ x) ok h := by unfold alookup; rw [this]
  rw [this]
  exact (map_h he).2 k
theorem ev_look_w {o : Oper} {ρ : Operand → AV} {h h' : AHeap} {v : AV} {D : List Nat} {t : TypeId} {m x : Operand} {ok : Bool} (ho : o.op = .lookup t m x ok) (hx : onD D (ρ m) = true) (he : ev P lit ρ h o = some (v, h')) : h' = h ∧ ∀ k, onEq D k h → ev P lit ρ k o = some (v, k) := by
  obtain ⟨dst, op, type, pos, after, guard⟩ := o
  simp only at ho; subst ho
  simp only [ev] at he ⊢
  refine ⟨(map_h he).1, fun k hk => ?_⟩
  have : mapOf (ρ m) k = mapOf (ρ m) h := by
    unfold mapOf
    generalize ρ m = y at hx
    cases y with
    | mp id => simp only [onD] at hx; simp only [hk.2 id hx]
    | val u => cases u <;> try rfl
               rename_i b; cases b <;> rfl
    | _ => rfl
  have : alookup P t (ρ m) (ρ x) ok k = alookup P t (ρ m) (ρ x) ok h := by unfold alookup; rw [this]
  rw [this]
  exact (map_h he).2 k

theorem mrg_self {D : List Nat} {h k : AHeap} (hk : onEq D k h) : mrg D h k = k := by
  apply List.ext_getElem?
  intro j
  rw [mrg_get hk.1.symm]
  split
  · rename_i hd; exact (hk.2 j hd).symm
  · rfl

theorem ev_store_w {o : Oper} {ρ : Operand → AV} {h h' : AHeap} {v : AV} {D : List Nat} {t : TypeId} {p x : Operand} (ho : o.op = .store t p x) (hx : onD D (ρ p) = true) (he : ev P lit ρ h o = some (v, h')) :
    h'.length = h.length ∧ offEq D h' h ∧ ∀ k, onEq D k h → ev P lit ρ k o = some (v, mrg D h' k) := by
  obtain ⟨dst, op, type, pos, after, guard⟩ := o
  simp only at ho; subst ho
  simp only [ev] at he ⊢
  obtain ⟨h2, hs, he⟩ := Option.map_eq_some_iff.1 he
  injection he with e1 e2; subst e1 e2
  unfold astore at hs
  split at hs
  · rename_i id ver off vs kk hp hv ht
    split at hs
    · rename_i ver' cs hb
      split at hs
      · rename_i hc
        injection hs with hs; subst hs
        rw [hp] at hx
        simp only [onD] at hx
        refine ⟨by simp, ⟨by simp, fun j hj => ?_⟩, fun k hk => ?_⟩
        · have : ¬ id = j := fun e => by subst e; rw [hx] at hj; cases hj
          rw [List.getElem?_set_ne this]
        · have hkb : k[id]? = some (.cells ver' cs) := by rw [hk.2 id hx, hb]
          have e : mrg D (h.set id (.cells ver (setMany cs off vs))) k = k.set id (.cells ver (setMany cs off vs)) := by
            apply List.ext_getElem?
            intro j
            rw [mrg_get (by simp [hk.1])]
            by_cases hj : id = j
            · subst hj
              simp only [hx, if_true]
              rw [List.getElem?_set_self (List.getElem?_eq_some_iff.1 hb).1, List.getElem?_set_self (List.getElem?_eq_some_iff.1 hkb).1]
            · rw [List.getElem?_set_ne hj, List.getElem?_set_ne hj]
              split
              · rename_i hd; exact (hk.2 j hd).symm
              · rfl
          rw [e]
          unfold astore
          rw [hp, hv, ht]
          simp only [hkb]
          rw [if_pos hc]; rfl
      · cases hs
    · cases hs
  · cases hs

end Go.Cx
