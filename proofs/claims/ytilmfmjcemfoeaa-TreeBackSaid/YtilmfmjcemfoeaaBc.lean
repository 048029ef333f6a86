/- The rules of evaluation, as equations. Regions that draw their order: the head in the order of the text, whatever order is drawn; the tail is forced. Regions that draw their order: whatever order is drawn, what comes out is what the order of the text gives. What is handed back, as equations. Arguments that lie in blocks of one's own are given away: nobody writes them any more. -/
import Derived.Test.YtilmfmjcemfoeaaBb
import Derived.IntWalk
set_option linter.unusedVariables false
set_option linter.unusedSimpArgs false
namespace Go.Cx
variable {P : Program} {lit : TypeId → Bool} {n : Nat}

theorem Ent.mk {f : FuncId} {fn : Func} (hf : P.funcs[f]? = some fn) (hn : (fn.name == "runtime.NumGoroutine") = false) (hb : fn.body.isNone = false) : Ent P f := by
  intro args w
  unfold callFunc
  simp only [Sem.run_bind, run_program, Result.andThen_ok, hf, hn, hb, Bool.false_eq_true, if_false, Sem.run_pure]

/-! ### code -/
section
variable (Q : Exit → AState → Prop) (s : AState)
@[simp] theorem AX_skip : AX P lit n .skip Q s = Q .normal s := rfl
@[simp] theorem AX_label (l : Nat) : AX P lit n (.label l) Q s = Q .normal s := rfl
@[simp] theorem AX_region (id : Nat) (ops : List Oper) : AX P lit n (.region id ops.toArray false) Q s = AOps P lit ops.toArray (Q .normal) ops s := rfl
@[simp] theorem AX_draw (id : Nat) (ops : Array Oper) : AX P lit n (.region id ops true) Q s = AW P n (.region id ops true) Q s := rfl
@[simp] theorem AX_seq (a b : Code) : AX P lit n (.seq a b) Q s = AX P lit n a (thenA (AX P lit n b Q) Q) s := rfl
/-- Where a test goes on. -/
def condK (P : Program) (lit : TypeId → Bool) (n : Nat) (a b : Code) (Q : Exit → AState → Prop) (s : AState) (c : AV) : Prop :=
  match c with
  | .val (.bool t) => (t = true → AX P lit n a Q s) ∧ (t = false → AX P lit n b Q s)
  | _ => False
@[simp] theorem AX_cond (c : Operand) (a b : Code) : AX P lit n (.cond c a b) Q s = condK P lit n a b Q s (s.ev c) := rfl
@[simp] theorem condK_true (a b : Code) : condK P lit n a b Q s (.val (.bool true)) = AX P lit n a Q s := by simp [condK]
@[simp] theorem condK_false (a b : Code) : condK P lit n a b Q s (.val (.bool false)) = AX P lit n b Q s := by simp [condK]
theorem condK_split {a b : Code} {t : Bool} (h1 : t = true → AX P lit n a Q s) (h2 : t = false → AX P lit n b Q s) : condK P lit n a b Q s (.val (.bool t)) := ⟨h1, h2⟩
@[simp] theorem AX_block (id : Nat) (c : Code) : AX P lit n (.block id c) Q s = AX P lit n c (inBlockA id Q) s := rfl
@[simp] theorem AX_exit (id : Nat) : AX P lit n (.exit id) Q s = Q (.exit id) s := rfl
@[simp] theorem AX_goto (l : Nat) : AX P lit n (.goto l) Q s = Q (.goto l) s := rfl
@[simp] theorem AX_ret : AX P lit n .ret Q s = Q .ret s := rfl
@[simp] theorem AX_loop (c : Code) : AX P lit n (.loop c) Q s = AW P n (.loop c) Q s := rfl
@[simp] theorem AX_scope (c : Code) : AX P lit n (.scope c) Q s = AW P n (.scope c) Q s := rfl
variable (K : AState → Prop)
@[simp] theorem thenA_normal : thenA K Q .normal s = K s := rfl
@[simp] theorem thenA_exit (id : Nat) : thenA K Q (.exit id) s = Q (.exit id) s := rfl
@[simp] theorem thenA_goto (l : Nat) : thenA K Q (.goto l) s = Q (.goto l) s := rfl
@[simp] theorem thenA_ret : thenA K Q .ret s = Q .ret s := rfl
@[simp] theorem inBlockA_normal (id : Nat) : inBlockA id Q .normal s = Q .normal s := rfl
@[simp] theorem inBlockA_exit (id id' : Nat) : inBlockA id Q (.exit id') s = if id' = id then Q .normal s else Q (.exit id') s := rfl
@[simp] theorem inBlockA_goto (id l : Nat) : inBlockA id Q (.goto l) s = Q (.goto l) s := rfl
@[simp] theorem inBlockA_ret (id : Nat) : inBlockA id Q .ret s = Q .ret s := rfl

/-! ### regions -/
@[simp] theorem AOps_nil (ops : Array Oper) : AOps P lit ops K [] s = K s := rfl
@[simp] theorem AOps_none (ops : Array Oper) (dst : Option Tmp) (op : Op) (ty : TypeId) (pos : String) (after : Array Edge) (rest : List Oper) :
    AOps P lit ops K ({ dst := dst, op := op, type := ty, pos := pos, after := after, guard := none } :: rest) s = hookK (hookAt P s.ev s.h op) (thenOp (AOps P lit ops K rest) s dst) s.h (nilK (nilAt P s.ev op) (thenOp (AOps P lit ops K rest) s dst) s.h (AOp P lit { dst := dst, op := op, type := ty, pos := pos, after := after, guard := none } s (AOps P lit ops K rest))) := rfl
attribute [simp] nilAt hookAt hookA0 ptrCmp eqv ptrT curB aunsafe isUns astoreT isStrT aappendS asliceData aunsStr ptrE isBld arange amake abytes asliceX acap acopy aclear aappendZ aappendF aappendG srcAny blkCells setBlk
@[simp] theorem hookK_none (K : AV → AHeap → Prop) (h : AHeap) (A : Prop) : hookK .none K h A = A := rfl
@[simp] theorem hookK_val (v : AV) (h' : AHeap) (K : AV → AHeap → Prop) (h : AHeap) (A : Prop) : hookK (.val v h') K h A = K v h' := rfl
@[simp] theorem hookK_next (id : Nat) (ks vs : List AV) (todo : List Nat) (K : AV → AHeap → Prop) (h : AHeap) (A : Prop) : hookK (.next id ks vs todo) K h A = ((todo = [] → K (.tup [.val (.bool false)]) h) ∧ ∀ (i : Nat) (k v : AV), i ∈ todo → ks[i]? = some k → vs[i]? = some v → K (.tup [.val (.bool true), k, v]) (h.set id (.iter ks vs (todo.erase i) (some i)))) := rfl
@[simp] theorem nilK_none (K : AV → AHeap → Prop) (h : AHeap) (A : Prop) : nilK none K h A = A := rfl
@[simp] theorem nilK_some (q : Bool) (n : Nat) (K : AV → AHeap → Prop) (h : AHeap) (A : Prop) : nilK (some (q, n)) K h A = ∀ b : Bool, (0 < n → b = !q) → K (.val (.bool b)) h := rfl
theorem nilOf_none {P : Program} {op : BinOp} {t : TypeId} {y : Operand} {x : AV} (h : lenSl x = none) : nilOf P op t y x = none := by
  unfold nilOf; split <;> simp_all
section
variable (op : BinOp) (t : TypeId) (y : Operand)
@[simp] theorem nilOf_val (v : Value) : nilOf P op t y (.val v) = none := nilOf_none rfl
@[simp] theorem nilOf_any : nilOf P op t y .any = none := nilOf_none rfl
@[simp] theorem nilOf_agg (cs : List AV) : nilOf P op t y (.agg cs) = none := nilOf_none rfl
@[simp] theorem nilOf_tup (cs : List AV) : nilOf P op t y (.tup cs) = none := nilOf_none rfl
@[simp] theorem nilOf_fp (cs : List AV) : nilOf P op t y (.fp cs) = none := nilOf_none rfl
@[simp] theorem nilOf_fn (f : FuncId) (cs : List AV) : nilOf P op t y (.fn f cs) = none := nilOf_none rfl
@[simp] theorem nilOf_fmap (ks vs : List AV) : nilOf P op t y (.fmap ks vs) = none := nilOf_none rfl
@[simp] theorem nilOf_ptr (id ver off : Nat) : nilOf P op t y (.ptr id ver off) = none := nilOf_none rfl
@[simp] theorem nilOf_mp (id : Nat) : nilOf P op t y (.mp id) = none := nilOf_none rfl
@[simp] theorem nilOf_eqlSl (b : Bool) (n : Nat) (cs : List AV) : nilOf P .eql t (.const (.slice none 0 0)) (.sl b n cs) = if (telem P t).isSome then some (true, n) else none := rfl
@[simp] theorem nilOf_neqSl (b : Bool) (n : Nat) (cs : List AV) : nilOf P .neq t (.const (.slice none 0 0)) (.sl b n cs) = if (telem P t).isSome then some (false, n) else none := rfl
@[simp] theorem nilOf_eqlOwn (id ver off n k : Nat) : nilOf P .eql t (.const (.slice none 0 0)) (.own id ver off n k) = if (telem P t).isSome then some (true, n) else none := rfl
@[simp] theorem nilOf_neqOwn (id ver off n k : Nat) : nilOf P .neq t (.const (.slice none 0 0)) (.own id ver off n k) = if (telem P t).isSome then some (false, n) else none := rfl
end
@[simp] theorem AOps_some (ops : Array Oper) (dst : Option Tmp) (op : Op) (ty : TypeId) (pos : String) (after : Array Edge) (j : Nat) (want : Bool) (rest : List Oper) :
    AOps P lit ops K ({ dst := dst, op := op, type := ty, pos := pos, after := after, guard := some (j, want) } :: rest) s =
      (match guardTmp ops j with
      | none => False
      | some t => gdK P lit { dst := dst, op := op, type := ty, pos := pos, after := after, guard := some (j, want) } s t want (AOps P lit ops K rest) (s.T t)) := rfl
end

section
variable (s : AState) (K : AState → Prop) (o : Oper)
@[simp] theorem gdK_tt (t : Nat) : gdK P lit o s t true K (.val (.bool true)) = AOp P lit o { s with T := put s.T t (.val (.bool true)) } K := by simp [gdK]
@[simp] theorem gdK_ff (t : Nat) : gdK P lit o s t false K (.val (.bool false)) = AOp P lit o { s with T := put s.T t (.val (.bool false)) } K := by simp [gdK]
@[simp] theorem gdK_tf (t : Nat) : gdK P lit o s t true K (.val (.bool false)) = (dstOk s.N o.dst ∧ K (({ s with T := put s.T t (.val (.bool false)) } : AState).put o.dst (.tup []))) := by simp [gdK]
@[simp] theorem gdK_ft (t : Nat) : gdK P lit o s t false K (.val (.bool true)) = (dstOk s.N o.dst ∧ K (({ s with T := put s.T t (.val (.bool true)) } : AState).put o.dst (.tup []))) := by simp [gdK]
@[simp] theorem gdK_no (t : Nat) (want : Bool) : gdK P lit o s t want K (.tup []) = (dstOk s.N o.dst ∧ K (s.put o.dst (.tup []))) := rfl
theorem gdK_split {t : Nat} {want b : Bool} (h1 : b = want → AOp P lit o { s with T := put s.T t (.val (.bool want)) } K) (h2 : b = !want → dstOk s.N o.dst ∧ K (({ s with T := put s.T t (.val (.bool !want)) } : AState).put o.dst (.tup []))) :
    gdK P lit o s t want K (.val (.bool b)) := ⟨h1, h2⟩
@[simp] theorem dstOk_none (N : Nat) : dstOk N none = True := rfl
@[simp] theorem dstOk_some (N d : Nat) : dstOk N (some d) = (d < N) := rfl
@[simp] theorem optB_some (v : AV) (h' : AHeap) (K : AV → AHeap → Prop) : optB (some (v, h')) K = K v h' := rfl
@[simp] theorem thenOp_some (N : Nat) (T : Nat → AV) (h : AHeap) (d : Nat) (v : AV) (h' : AHeap) : thenOp K ⟨N, T, h⟩ (some d) v h' = (d < N ∧ K ⟨N, put T d v, h'⟩) := rfl
@[simp] theorem thenOp_none (N : Nat) (T : Nat → AV) (h : AHeap) (v : AV) (h' : AHeap) : thenOp K ⟨N, T, h⟩ none v h' = K ⟨N, T, h'⟩ := by simp [thenOp, dstOk, AState.put]
@[simp] theorem aput_some (N : Nat) (T : Nat → AV) (h : AHeap) (d : Nat) (v : AV) : AState.put ⟨N, T, h⟩ (some d) v = ⟨N, put T d v, h⟩ := rfl
@[simp] theorem aput_none (N : Nat) (T : Nat → AV) (h : AHeap) (v : AV) : AState.put ⟨N, T, h⟩ none v = ⟨N, T, h⟩ := rfl
@[simp] theorem put_app (T : Nat → AV) (i : Nat) (v : AV) (j : Nat) : put T i v j = if j = i then v else T j := rfl
@[simp] theorem initT_nil (j : Nat) : initT [] j = .any := by simp [initT]
@[simp] theorem initT_zero (a : AV) (l : List AV) : initT (a :: l) 0 = a := by simp [initT]
@[simp] theorem initT_succ (a : AV) (l : List AV) (j : Nat) : initT (a :: l) (j + 1) = initT l j := by simp [initT]
@[simp] theorem ev_tmp (N : Nat) (T : Nat → AV) (h : AHeap) (t : Nat) : AState.ev ⟨N, T, h⟩ (.tmp t) = T t := rfl
@[simp] theorem ev_const (v : Value) : s.ev (.const v) = ofV v := rfl
@[simp] theorem ev_func (f : Nat) : s.ev (.func f) = .fn f [] := rfl
@[simp] theorem ofV_int (k : IntKind) (m : Int) : ofV (.int k m) = .val (.int k m) := rfl
@[simp] theorem ofV_bool (b : Bool) : ofV (.bool b) = .val (.bool b) := rfl
@[simp] theorem ofV_string (b : ByteArray) : ofV (.string b) = .val (.string b) := rfl
@[simp] theorem ofV_nil : ofV (.slice none 0 0) = .sl true 0 [] := rfl
@[simp] theorem ofV_nilp : ofV (.pointer none) = .val (.pointer none) := rfl
end

section
variable (s : AState) (K : AState → Prop) (dst : Option Tmp) (ty : TypeId) (pos : String) (after : Array Edge) (g : Option (Nat × Bool))
@[simp] theorem AOp_call (f : Operand) (xs : Array Operand) (ts : Array TypeId) :
    AOp P lit { dst := dst, op := .call { callee := .value f, args := xs, argTypes := ts }, type := ty, pos := pos, after := after, guard := g } s K = AInv P (s.ev f) (xs.toList.map s.ev) s.h (thenOp K s dst) := rfl
@[simp] theorem AOp_move (x : Operand) : AOp P lit { dst := dst, op := .move x, type := ty, pos := pos, after := after, guard := g } s K = thenOp K s dst (s.ev x) s.h := rfl
@[simp] theorem AOp_assign (x : Operand) : AOp P lit { dst := dst, op := .assign x, type := ty, pos := pos, after := after, guard := g } s K = thenOp K s dst (s.ev x) s.h := rfl
def pickV (c a b : AV) : Option AV :=
  match c with
  | .val (.bool t) => some (if t then a else b)
  | _ => none
@[simp] theorem pickV_t (a b : AV) : pickV (.val (.bool true)) a b = some a := rfl
@[simp] theorem pickV_f (a b : AV) : pickV (.val (.bool false)) a b = some b := rfl
@[simp] theorem pickV_or (t u : Bool) : pickV (.val (.bool t)) (.val (.bool true)) (.val (.bool u)) = some (.val (.bool (t || u))) := by cases t <;> rfl
@[simp] theorem pickV_and (t u : Bool) : pickV (.val (.bool t)) (.val (.bool u)) (.val (.bool false)) = some (.val (.bool (t && u))) := by cases t <;> rfl
def onV (x : Option AV) (h : AHeap) : Option (AV × AHeap) := x.map fun v => (v, h)
@[simp] theorem onV_some (v : AV) (h : AHeap) : onV (some v) h = some (v, h) := rfl
@[simp] theorem AOp_pick (c a b : Operand) : AOp P lit { dst := dst, op := .pick c a b, type := ty, pos := pos, after := after, guard := g } s K = optB (onV (pickV (s.ev c) (s.ev a) (s.ev b)) s.h) (thenOp K s dst) := by
  simp only [AOp, goCall, ev]
  generalize s.ev c = x
  cases x <;> try rfl
  rename_i v
  cases v <;> rfl
def allocV (zs : Option (List AV)) (h : AHeap) : Option (AV × AHeap) := zs.map fun zs => (.ptr h.length 0 0, h ++ [.cells 0 zs])
@[simp] theorem allocV_some (zs : List AV) (h : AHeap) : allocV (some zs) h = some (.ptr h.length 0 0, h ++ [.cells 0 zs]) := rfl
@[simp] theorem AOp_alloc (t : TypeId) : AOp P lit { dst := dst, op := .alloc t, type := ty, pos := pos, after := after, guard := g } s K = optB (allocV (tzero P t) s.h) (thenOp K s dst) := rfl
@[simp] theorem AOp_box (t : TypeId) (x : Operand) : AOp P lit { dst := dst, op := .box t x, type := ty, pos := pos, after := after, guard := g } s K = optB (allocV (cellsOf (s.ev x)) s.h) (thenOp K s dst) := rfl
@[simp] theorem AOp_build (t : TypeId) (ps : Array (Nat × Operand)) : AOp P lit { dst := dst, op := .build t ps, type := ty, pos := pos, after := after, guard := g } s K = optB (onV (abuild P t (ps.toList.map fun p => (p.1, s.ev p.2))) s.h) (thenOp K s dst) := rfl
def litV (own : Bool) (len : Nat) (x : Option (List AV × Nat)) (h : AHeap) : Option (AV × AHeap) :=
  match x with
  | some (cs, k) => if own then some (.own h.length 0 0 len k, h ++ [.cells 0 cs]) else some (.sl true len cs, h)
  | none => none
@[simp] theorem litV_f (len k : Nat) (cs : List AV) (h : AHeap) : litV false len (some (cs, k)) h = some (.sl true len cs, h) := rfl
@[simp] theorem litV_t (len k : Nat) (cs : List AV) (h : AHeap) : litV true len (some (cs, k)) h = some (.own h.length 0 0 len k, h ++ [.cells 0 cs]) := rfl
@[simp] theorem AOp_buildSlice (t : TypeId) (len : Nat) (ps : Array (Nat × Operand)) : AOp P lit { dst := dst, op := .buildSlice t len ps, type := ty, pos := pos, after := after, guard := g } s K = optB (litV (lit t) len (abuildSlice P t len (ps.toList.map fun p => (p.1, s.ev p.2))) s.h) (thenOp K s dst) := by
  simp only [AOp, goCall, ev]
  unfold litV
  split <;> rename_i h1 <;> rw [h1]
@[simp] theorem AOp_load (t : TypeId) (x : Operand) : AOp P lit { dst := dst, op := .load t x, type := ty, pos := pos, after := after, guard := g } s K = optB (onV (aload P t (s.ev x) s.h) s.h) (thenOp K s dst) := rfl
def storeV (x : Option AHeap) : Option (AV × AHeap) := x.map fun h' => (.any, h')
@[simp] theorem storeV_some (h : AHeap) : storeV (some h) = some (.any, h) := rfl
@[simp] theorem AOp_store (t : TypeId) (p x : Operand) : AOp P lit { dst := dst, op := .store t p x, type := ty, pos := pos, after := after, guard := g } s K = optB (storeV (astore P t (s.ev p) (s.ev x) s.h)) (thenOp K s dst) := rfl
def nilV : AV → Option AV
  | .ptr id ver off => some (.ptr id ver off)
  | .fp cs => some (.fp cs)
  | .fn f cs => some (.fn f cs)
  | _ => none
@[simp] theorem nilV_ptr (id ver off : Nat) : nilV (.ptr id ver off) = some (.ptr id ver off) := rfl
@[simp] theorem nilV_fp (cs : List AV) : nilV (.fp cs) = some (.fp cs) := rfl
@[simp] theorem nilV_fn (f : FuncId) (cs : List AV) : nilV (.fn f cs) = some (.fn f cs) := rfl
@[simp] theorem AOp_nilCheck (x : Operand) : AOp P lit { dst := dst, op := .nilCheck x, type := ty, pos := pos, after := after, guard := g } s K = optB (onV (nilV (s.ev x)) s.h) (thenOp K s dst) := by
  simp only [AOp, goCall, ev]
  cases s.ev x <;> rfl
@[simp] theorem AOp_fieldAddr (t : TypeId) (x : Operand) (i : Nat) : AOp P lit { dst := dst, op := .fieldAddr t x i, type := ty, pos := pos, after := after, guard := g } s K = optB (onV (afield P t (s.ev x) i) s.h) (thenOp K s dst) := rfl
@[simp] theorem AOp_field (t : TypeId) (x : Operand) (i : Nat) : AOp P lit { dst := dst, op := .field t x i, type := ty, pos := pos, after := after, guard := g } s K = optB (onV (afieldV P t (s.ev x) i) s.h) (thenOp K s dst) := rfl
@[simp] theorem AOp_indexAddr (t : TypeId) (x i : Operand) : AOp P lit { dst := dst, op := .indexAddr t x i, type := ty, pos := pos, after := after, guard := g } s K = optB (onV (aindex P t (s.ev x) (s.ev i)) s.h) (thenOp K s dst) := rfl
@[simp] theorem AOp_index (t : TypeId) (x i : Operand) : AOp P lit { dst := dst, op := .index t x i, type := ty, pos := pos, after := after, guard := g } s K = optB (onV (aindexV P t (s.ev x) (s.ev i)) s.h) (thenOp K s dst) := rfl
def sliceV (P : Program) (t : TypeId) (x : AV) (lo hi mx : Option AV) : Option AV :=
  match x with
  | .val c => asliceV P t (.val c) lo hi mx
  | x => aslice P t x lo hi mx
@[simp] theorem sliceV_val (t : TypeId) (c : Value) (lo hi mx : Option AV) : sliceV P t (.val c) lo hi mx = asliceV P t (.val c) lo hi mx := rfl
@[simp] theorem sliceV_sl (t : TypeId) (tt : Bool) (m : Nat) (cs : List AV) (lo hi mx : Option AV) : sliceV P t (.sl tt m cs) lo hi mx = aslice P t (.sl tt m cs) lo hi mx := rfl
@[simp] theorem sliceV_own (t : TypeId) (id ver off m k : Nat) (lo hi mx : Option AV) : sliceV P t (.own id ver off m k) lo hi mx = aslice P t (.own id ver off m k) lo hi mx := rfl
@[simp] theorem AOp_slice (t : TypeId) (x : Operand) (lo hi mx : Option Operand) : AOp P lit { dst := dst, op := .slice t x lo hi mx, type := ty, pos := pos, after := after, guard := g } s K = optB (onV (sliceV P t (s.ev x) (lo.map s.ev) (hi.map s.ev) (mx.map s.ev)) s.h) (thenOp K s dst) := by
  simp only [AOp, goCall, ev]
  cases s.ev x <;> rfl
@[simp] theorem AOp_extract (x : Operand) (i : Nat) : AOp P lit { dst := dst, op := .extract x i, type := ty, pos := pos, after := after, guard := g } s K = optB (onV (aextract (s.ev x) i) s.h) (thenOp K s dst) := rfl
@[simp] theorem AOp_makeFunc (f : FuncId) (cap : Array Operand) : AOp P lit { dst := dst, op := .makeFunc (.func f) #[] cap, type := ty, pos := pos, after := after, guard := g } s K = thenOp K s dst (.fn f (cap.toList.map s.ev)) s.h := rfl
@[simp] theorem AOp_binOp (op : BinOp) (t : TypeId) (x y : Operand) (yt : TypeId) : AOp P lit { dst := dst, op := .binOp op t x y yt, type := ty, pos := pos, after := after, guard := g } s K = optB (onV (abin P op t x y (s.ev x) (s.ev y)) s.h) (thenOp K s dst) := rfl
@[simp] theorem AOp_unOp (op : UnOp) (t : TypeId) (x : Operand) : AOp P lit { dst := dst, op := .unOp op t x, type := ty, pos := pos, after := after, guard := g } s K = optB (onV (aun P op (s.ev x)) s.h) (thenOp K s dst) := rfl
@[simp] theorem AOp_convert (src t : TypeId) (x : Operand) : AOp P lit { dst := dst, op := .convert src t x, type := ty, pos := pos, after := after, guard := g } s K = optB (onV (aconvS P src t (s.ev x) s.h) s.h) (thenOp K s dst) := rfl
@[simp] theorem aconvS_val (src t : TypeId) (v : Value) (h : AHeap) : aconvS P src t (.val v) h = aconv P src t (.val v) := rfl
@[simp] theorem aconvS_sl (src t : TypeId) (tt : Bool) (n : Nat) (cs : List AV) (h : AHeap) : aconvS P src t (.sl tt n cs) h = aconvB P src t (.sl tt n cs) h := rfl
@[simp] theorem aconvS_own (src t : TypeId) (id ver off n k : Nat) (h : AHeap) : aconvS P src t (.own id ver off n k) h = aconvB P src t (.own id ver off n k) h := rfl
def newMapV (h : AHeap) : Option (AV × AHeap) := some (.mp h.length, h ++ [.map [] []])
@[simp] theorem newMapV_eq (h : AHeap) : newMapV h = some (.mp h.length, h ++ [.map [] []]) := rfl
@[simp] theorem AOp_makeMap (t : TypeId) : AOp P lit { dst := dst, op := .makeMap t none, type := ty, pos := pos, after := after, guard := g } s K = optB (newMapV s.h) (thenOp K s dst) := rfl
@[simp] theorem AOp_insert (t : TypeId) (m k x : Operand) : AOp P lit { dst := dst, op := .insert t m k x, type := ty, pos := pos, after := after, guard := g } s K = optB (storeV (ainsert P t (s.ev m) (s.ev k) (s.ev x) s.h)) (thenOp K s dst) := rfl
@[simp] theorem AOp_mapUpdate (t : TypeId) (m k x : Operand) : AOp P lit { dst := dst, op := .mapUpdate t m k x, type := ty, pos := pos, after := after, guard := g } s K = optB (storeV (ainsert P t (s.ev m) (s.ev k) (s.ev x) s.h)) (thenOp K s dst) := rfl
@[simp] theorem AOp_lookup (t : TypeId) (m k : Operand) (ok : Bool) : AOp P lit { dst := dst, op := .lookup t m k ok, type := ty, pos := pos, after := after, guard := g } s K = optB (onV (alookup P t (s.ev m) (s.ev k) ok s.h) s.h) (thenOp K s dst) := rfl
@[simp] theorem AOp_builtin (b : Builtin) (xs : List Operand) (ts : List TypeId) :
    AOp P lit { dst := dst, op := .call { callee := .builtin b, args := xs.toArray, argTypes := ts.toArray }, type := ty, pos := pos, after := after, guard := g } s K = optB (evCall P s.h b ts ty (xs.toArray.map fun | .const _ => true | _ => false) (xs.map s.ev)) (thenOp K s dst) := rfl
end

/-! ### values -/
@[simp] theorem evCall_len (h : AHeap) (t ty : TypeId) (cs : Array Bool) (x : AV) : evCall P h .len [t] ty cs [x] = onV (alen P t x) h := by
  simp only [evCall]; cases alen P t x <;> rfl
@[simp] theorem evCall_append (h : AHeap) (t t' ty : TypeId) (cs : Array Bool) (x y : AV) : evCall P h .append [t, t'] ty cs [x, y] = if t = t' then orX (aappend P t x y h) (orX (aappendF P t x y h) (aappendG P t x y h)) else aappendZ P t t' x y h := rfl
@[simp] theorem evCall_copy (h : AHeap) (t t' ty : TypeId) (cs : Array Bool) (x y : AV) : evCall P h .copy [t, t'] ty cs [x, y] = acopy P t x y h := rfl
@[simp] theorem evCall_clear (h : AHeap) (t ty : TypeId) (cs : Array Bool) (x : AV) : evCall P h .clear [t] ty cs [x] = aclear P t x h := rfl
@[simp] theorem evCall_cap (h : AHeap) (t ty : TypeId) (cs : Array Bool) (x : AV) : evCall P h .cap [t] ty cs [x] = onV (acap P t x h) h := by
  simp only [evCall]; cases acap P t x h <;> rfl
@[simp] theorem aextract_tup (vs : List AV) (i : Nat) : aextract (.tup vs) i = vs[i]? := rfl
@[simp] theorem alen_sl (t : TypeId) (tt : Bool) (m : Nat) (cs : List AV) : alen P t (.sl tt m cs) = if (telem P t).isSome then some (.val (.int .i64 m)) else none := rfl
@[simp] theorem alen_own (t : TypeId) (id ver off m k : Nat) : alen P t (.own id ver off m k) = if (telem P t).isSome then some (.val (.int .i64 m)) else none := rfl
@[simp] theorem cellsOf_agg (cs : List AV) : cellsOf (.agg cs) = some cs := rfl
@[simp] theorem cellsOf_val (v : Value) : cellsOf (.val v) = some [.val v] := rfl
@[simp] theorem cellsOf_sl (tt : Bool) (m : Nat) (cs : List AV) : cellsOf (.sl tt m cs) = some [.sl tt m cs] := rfl
@[simp] theorem cellsOf_own (id ver off m k : Nat) : cellsOf (.own id ver off m k) = some [.own id ver off m k] := rfl
@[simp] theorem cellsOf_fn (f : FuncId) (cs : List AV) : cellsOf (.fn f cs) = some [.fn f cs] := rfl
@[simp] theorem cellsOf_ptr (id ver off : Nat) : cellsOf (.ptr id ver off) = some [.ptr id ver off] := rfl
@[simp] theorem cellsOf_fp (cs : List AV) : cellsOf (.fp cs) = some [.fp cs] := rfl
@[simp] theorem isOne_val (v : Value) : isOne (.val v) = true := rfl
@[simp] theorem isOne_sl (tt : Bool) (m : Nat) (cs : List AV) : isOne (.sl tt m cs) = true := rfl
@[simp] theorem isOne_own (id ver off m k : Nat) : isOne (.own id ver off m k) = true := rfl
@[simp] theorem isOne_fn (f : FuncId) (cs : List AV) : isOne (.fn f cs) = true := rfl
@[simp] theorem isOne_ptr (id ver off : Nat) : isOne (.ptr id ver off) = true := rfl
@[simp] theorem isOne_fp (cs : List AV) : isOne (.fp cs) = true := rfl
@[simp] theorem aload1_t (k : Nat) (cs : List AV) : aload1 true k cs = if k ≤ cs.length then some (.agg (cs.take k)) else none := rfl
@[simp] theorem aload1_f (k : Nat) (cs : List AV) : aload1 false k cs = cs.head? := rfl
@[simp] theorem setMany_nil (cs : List AV) (off : Nat) : setMany cs off [] = cs := rfl
@[simp] theorem setMany_cons (cs : List AV) (off : Nat) (v : AV) (vs : List AV) : setMany cs off (v :: vs) = setMany (cs.set off v) (off + 1) vs := rfl

section
variable (t : TypeId) (ox oy : Operand) (k : IntKind) (a b : Int)
@[simp] theorem bin_add : abin P .add t ox oy (.val (.int k a)) (.val (.int k b)) = some (.val (.int k (k.wrap (a + b)))) := by simp [abin, conc, eqGuard, binOp, Op.intArith]
@[simp] theorem bin_sub : abin P .sub t ox oy (.val (.int k a)) (.val (.int k b)) = some (.val (.int k (k.wrap (a - b)))) := by simp [abin, conc, eqGuard, binOp, Op.intArith]
@[simp] theorem bin_mul : abin P .mul t ox oy (.val (.int k a)) (.val (.int k b)) = some (.val (.int k (k.wrap (a * b)))) := by simp [abin, conc, eqGuard, binOp, Op.intArith]
@[simp] theorem bin_lss : abin P .lss t ox oy (.val (.int k a)) (.val (.int k b)) = some (.val (.bool (decide (a < b)))) := by simp [abin, conc, eqGuard, binOp, Op.intCmp]
@[simp] theorem bin_leq : abin P .leq t ox oy (.val (.int k a)) (.val (.int k b)) = some (.val (.bool (decide (a ≤ b)))) := by simp [abin, conc, eqGuard, binOp, Op.intCmp]
@[simp] theorem bin_gtr : abin P .gtr t ox oy (.val (.int k a)) (.val (.int k b)) = some (.val (.bool (decide (b < a)))) := by simp [abin, conc, eqGuard, binOp, Op.intCmp]
@[simp] theorem bin_geq : abin P .geq t ox oy (.val (.int k a)) (.val (.int k b)) = some (.val (.bool (decide (b ≤ a)))) := by simp [abin, conc, eqGuard, binOp, Op.intCmp]
@[simp] theorem bin_eql : abin P .eql t ox oy (.val (.int k a)) (.val (.int k b)) = some (.val (.bool (decide (a = b)))) := by simp [abin, conc, eqGuard, binOp, Op.intCmp]; try rfl
@[simp] theorem bin_neq : abin P .neq t ox oy (.val (.int k a)) (.val (.int k b)) = some (.val (.bool (!decide (a = b)))) := by simp [abin, conc, eqGuard, binOp, Op.intCmp]; try rfl
theorem str_beq (x y : ByteArray) : (x.toList == y.toList) = decide (x = y) := by
  rw [Bool.eq_iff_iff]
  simp only [beq_iff_eq, decide_eq_true_eq]
  refine ⟨fun h => ?_, fun h => by rw [h]⟩
  rw [ByteArray.toList_eq, ByteArray.toList_eq] at h
  cases x; cases y
  congr 1
  exact Array.ext' h
@[simp] theorem bins_eql (x y : ByteArray) : abin P .eql t ox oy (.val (.string x)) (.val (.string y)) = some (.val (.bool (decide (x = y)))) := by
  rw [← str_beq]; simp [abin, conc, eqGuard, binOp, Op.stringOp, ofV, cellV]
@[simp] theorem bins_neq (x y : ByteArray) : abin P .neq t ox oy (.val (.string x)) (.val (.string y)) = some (.val (.bool (!decide (x = y)))) := by
  rw [← str_beq]; simp [abin, conc, eqGuard, binOp, Op.stringOp, ofV, cellV]
theorem bins_add {x y : ByteArray} (hl : (x.size : Int) + y.size ≤ 9223372036854775807) : abin P .add t ox oy (.val (.string x)) (.val (.string y)) = some (.val (.string (x ++ y))) := by
  have h1 : ¬ ((9223372036854775807 : Int) < (x.size : Int) + (y.size : Int)) := by omega
  simp [abin, conc, eqGuard, binOp, Op.stringOp, ofV, cellV, pr_ite, h1]
theorem pr_equal_bool (ht : P.underlying t = some .bool) (x y : Bool) : pr P (Op.equal t (.bool x) (.bool y)) = some (x == y) := by
  show pr P (Op.equalIn (9999 + 1) t (.bool x) (.bool y)) = _
  rw [Op.equalIn]
  rw [pr_bind, pr_underlying ht]
  rfl
theorem binb_eql (ht : P.underlying t = some .bool) (x y : Bool) : abin P .eql t ox oy (.val (.bool x)) (.val (.bool y)) = some (.val (.bool (x == y))) := by
  have h1 : pr P (binOp .eql t (.bool x) (.bool y)) = some (.bool (x == y)) := by
    show pr P (do pure (Value.bool (← Op.equal t (.bool x) (.bool y)))) = _
    rw [pr_bind, pr_equal_bool t ht]; rfl
  have h2 : pr P (eqGuard .eql t ox oy (.bool x) (.bool y)) = some () := rfl
  simp only [abin, conc, h1, h2]; rfl
theorem binb_neq (ht : P.underlying t = some .bool) (x y : Bool) : abin P .neq t ox oy (.val (.bool x)) (.val (.bool y)) = some (.val (.bool (x != y))) := by
  have h1 : pr P (binOp .neq t (.bool x) (.bool y)) = some (.bool (x != y)) := by
    show pr P (do pure (Value.bool (!(← Op.equal t (.bool x) (.bool y))))) = _
    rw [pr_bind, pr_equal_bool t ht]; rfl
  have h2 : pr P (eqGuard .neq t ox oy (.bool x) (.bool y)) = some () := rfl
  simp only [abin, conc, h1, h2]; rfl
@[simp] theorem un_not (x : Bool) : aun P .not (.val (.bool x)) = some (.val (.bool !x)) := rfl
@[simp] theorem un_neg : aun P .neg (.val (.int k a)) = some (.val (.int k (k.wrap (0 - a)))) := by simp [aun, conc, Op.unary, Op.intArith]
end


/-! ### the end of a function -/
@[simp] theorem resA_tmp (s : AState) (t : Tmp) : resA P s (.tmp t) = some (s.T t) := rfl
@[simp] theorem resA_cell (s : AState) (t : Tmp) (ty : TypeId) : resA P s (.cell t ty) = aload P ty (s.T t) s.h := rfl
@[simp] theorem isEnd_normal : isEnd .normal = true := rfl
@[simp] theorem isEnd_ret : isEnd .ret = true := rfl
theorem frz_neat (h : AHeap) (m f : Nat) {v : AV} (hv : neat v = true) : frz h m (f + 1) v = some v := by simp [frz, hv]
theorem PostA.one {t : Tmp} {s : AState} {e : Exit} {Q : AV → AHeap → Prop} (he : isEnd e = true) (v : AV) (hv : frz s.h 0 12 (s.T t) = some v) (hq : Q v []) : PostA P [.tmp t] 0 Q e s :=
  ⟨he, [s.T t], v, rfl, hv, by simp, by simpa using hq⟩
theorem PostA.of {rs : List ResultVar} {s : AState} {e : Exit} {Q : AV → AHeap → Prop} (he : isEnd e = true) (vs : List AV) (hr : rs.mapM (resA P s) = some vs) (v : AV) (hv : frz s.h 0 12 (resV vs) = some v) (hq : Q v []) : PostA P rs 0 Q e s :=
  ⟨he, vs, v, hr, hv, by simp, by simpa using hq⟩

@[simp low] theorem lookV_def (d : TypeDesc) (kv : Value) (z : Option AV) (p : List AV × List AV) : lookV d kv z p = match afind d kv p.1 with
  | some (some j) => (p.2[j]?).map fun v => (v, true)
  | some none => z.map fun z => (z, false)
  | none => none := rfl
@[simp low] theorem insMap_def (d : TypeDesc) (kv : Value) (x : AV) (ks vs : List AV) : insMap d kv x ks vs = match afind d kv ks with
  | some none => some (.map (ks ++ [.val kv]) (vs ++ [x]))
  | some (some j) => some (.map ks (vs.set j x))
  | none => none := rfl
attribute [simp] ainsert alookup mapOf okV isKeyB afind Instr.sameNow aload afield afieldV aindex aslice astore abuild abuildSlice afill guardTmp zeros srcCells aappend intOf? boundOr resV

end Go.Cx

set_option linter.unusedVariables false
set_option linter.unusedSimpArgs false
namespace Go.Cx
variable {P : Program} {lit : TypeId → Bool} {n : Nat}

theorem ev_congr {ρ ρ' : Operand → AV} {h : AHeap} (o : Oper) (hx : ∀ x ∈ o.op.operands, ρ x = ρ' x) : ev P lit ρ h o = ev P lit ρ' h o := by
  obtain ⟨dst, op, type, pos, after, guard⟩ := o
  have pairs : ∀ ps : Array (Nat × Operand), (∀ x ∈ (ps.toList.map (·.2)).toArray, ρ x = ρ' x) → (ps.toList.map fun p => (p.1, ρ p.2)) = (ps.toList.map fun p => (p.1, ρ' p.2)) := fun ps hp =>
    List.map_congr_left fun p hm => by
      rw [hp p.2 (by simp only [List.mem_toArray, List.mem_map]; exact ⟨p, hm, rfl⟩)]
  have many : ∀ xs : Array Operand, (∀ x ∈ xs, ρ x = ρ' x) → xs.toList.map ρ = xs.toList.map ρ' := fun xs hp => List.map_congr_left fun x hm => hp x (by simpa using hm)
  cases op <;> simp only [Op.operands] at hx <;> simp only [ev]
  case build t ps => rw [pairs ps hx]
  case buildSlice t m ps => rw [pairs ps hx]
  case makeFunc fn first cap =>
    cases fn <;> simp only [ev]
    split
    · rw [many cap fun x hx' => hx x (by simp [hx'])]
    · rfl
  case slice t x lo hi mx =>
    have h1 : ρ x = ρ' x := hx x (by simp)
    have h2 : lo.map ρ = lo.map ρ' := by cases lo <;> simp_all
    have h3 : hi.map ρ = hi.map ρ' := by cases hi <;> simp_all
    have h4 : mx.map ρ = mx.map ρ' := by cases mx <;> simp_all
    rw [h1, h2, h3, h4]
  case call c =>
    obtain ⟨callee, args, ts⟩ := c
    cases callee <;> simp only [ev]
    rw [many args fun x hx' => hx x (by simp [Go.Call.operands, hx'])]
  case makeMap t r => cases r <;> rfl
  case insert t m k x => rw [hx m (by simp), hx k (by simp), hx x (by simp)]
  case mapUpdate t m k x => rw [hx m (by simp), hx k (by simp), hx x (by simp)]
  case lookup t m k ok => rw [hx m (by simp), hx k (by simp)]
  all_goals (first | rfl | (simp_all; done))

/-! ### one operation, known by its operands alone -/
def Y (P : Program) (o : Oper) (ρ : Operand → AV) (h h' : AHeap) (v : AV) : Prop :=
  ∀ (Z : Nat → Prop) (κ : Nat → Slot) (w : World) (a : Act), Rel Z κ h w → (∀ x ∈ o.op.operands, R Z w κ (ρ x) (a.eval x)) → ∀ (K : Act → World → Prop) (Q' : Exit → Act → World → Prop),
    (∀ c Z' κ' w', Rel Z' κ' h' w' → R Z' w' κ' v c → Ext Z κ w Z' κ' w' → StepAll κ κ' → K (a.put o.dst c) w') → o.wp P a w K Q'

theorem Y.ev {o : Oper} {ρ : Operand → AV} {h h' : AHeap} {v : AV} (he : ev P lit ρ h o = some (v, h')) : Y P o ρ h h' v := by
  classical
  intro Z κ w a r hx K Q' hk
  have he' : Cx.ev P lit (fun x => if x ∈ o.op.operands then ρ x else .any) h o = some (v, h') := by
    rw [← he]; exact ev_congr o fun x hm => by simp [hm]
  obtain ⟨c, w', Z', κ', hrun, r', hr, ex, sa⟩ := ev_ok (P := P) r (σ := a.eval) (fun x => by
    by_cases hm : x ∈ o.op.operands
    · simpa [hm] using hx x hm
    · simp only [hm, if_false]; exact .any) he'
  unfold Oper.wp
  rcases hrun with hrun | ⟨hrun, rfl⟩
  · rw [hrun, Oper.upon_value]; exact hk _ _ _ _ r' hr ex sa
  · rw [hrun, Oper.upon_skip]; exact hk _ _ _ _ r' hr ex sa

/-- A variable is laid where room is kept for it. -/
theorem Y.room {t : TypeId} {zs : List AV} {o : Oper} (ho : o.op = .alloc t) (hz : tzero P t = some zs) {ρ : Operand → AV} {h : AHeap} {id ver : Nat} (hx : h[id]? = some (.cells ver [])) : Y P o ρ h (h.set id (.cells (ver + 1) zs)) (.ptr id (ver + 1) 0) := by
  intro Z κ w a r _ K Q' hk
  obtain ⟨z, hz1, rfl⟩ := run_tzero hz w
  have hrun : (execOp a.eval o).run P w = .ok (.value (.pointer (some ⟨w.heap.size, 0, none⟩))) (w.alloc (.cells z.cells t)) := by
    simp only [execOp, ho, Sem.run_bind, Instr.alloc, hz1, Result.andThen_ok, newVar, newRow, run_newObj_alloc, Sem.run_pure]
  obtain ⟨r', e, st⟩ := rel_regrow r hx (b' := w.heap.size) (arr' := z.cells) (E := t) (w' := w.alloc (.cells z.cells t)) (.inr (Nat.le_refl _)) rfl rfl rfl
    (by show _ ≤ (w.heap.push _).size; simp) (fun b hb _ => heap_alloc_old w _ hb) (.of (heap_alloc_new' w _) _) (us := []) (ws := z.cells.toList) .nil (Rs_cellV z.cells.toList) (by simp) (fun j u hj => by simpa using hj)
  rw [List.nil_append] at r'
  unfold Oper.wp
  rw [hrun, Oper.upon_value]
  refine hk _ _ _ _ r' (.ptr ?_) e st
  simp [refOk, upd_same, ptrAt]

theorem rs_of {Z : Nat → Prop} {κ : Nat → Slot} {w : World} {ρ : Operand → AV} {σ : Operand → Value} : ∀ l : List Operand, (∀ x ∈ l, R Z w κ (ρ x) (σ x)) → Rs Z w κ (l.map ρ) (l.map σ)
  | [], _ => .nil
  | x :: l, hx => .cons (hx x (by simp)) (rs_of l fun y hy => hx y (by simp [hy]))

theorem Y.call {o : Oper} {f : Operand} {xs : Array Operand} (hg : goCall o = some (f, xs)) {ρ : Operand → AV} {h h' : AHeap} {v : AV} (hc : AInv P (ρ f) (xs.toList.map ρ) h (fun v' h'' => v' = v ∧ h'' = h')) : Y P o ρ h h' v := by
  intro Z κ w a r hx K Q' hk
  unfold AInv at hc
  split at hc
  · rename_i g cap hf
    unfold goCall at hg
    split at hg
    · rename_i f' xs' ts' ho
      simp only [Option.some.injEq, Prod.mk.injEq] at hg
      obtain ⟨rfl, rfl⟩ := hg
      rw [ho] at hx
      simp only [Op.operands, Go.Call.operands] at hx
      have hfr := hx f' (by simp)
      rw [hf] at hfr
      have hxs := rs_of (Z := Z) (κ := κ) (w := w) (ρ := ρ) (σ := a.eval) xs'.toList (fun x hm => hx x (by simp at hm; simp [hm]))
      unfold Oper.wp
      generalize hcv : a.eval f' = c at hfr
      cases hfr with
      | fn hcap =>
        rename_i vs
        rcases hc with hc | hc
        case inr =>
          have hargs : (xs'.toList.map a.eval ++ vs).toArray = xs'.map a.eval ++ vs.toArray := by
            rw [toArray_map xs' a.eval]; simp
          obtain ⟨v', h'', Z', κ', c', w', ⟨rfl, rfl⟩, hrun, r', hv, ex, st⟩ := hc Z κ w (xs'.toList.map a.eval ++ vs) r (hxs.append hcap)
          rw [hargs] at hrun
          have hex : (execOp a.eval o).run P w = .ok (.value c') w' := by
            simp only [execOp, ho, resolve, hcv, Deferred.ofValue, Sem.run_bind, Sem.run_pure, Result.andThen_ok, invoke]
            simpa using hrun
          rw [hex, Oper.upon_value]
          exact hk _ _ _ _ r' hv ex (StepLt.all r st)
        have hex : (execOp a.eval o).run P w = .ok (.enter g (xs'.map a.eval ++ vs.toArray)) w := by
          simp only [execOp, ho, resolve, hcv, Deferred.ofValue, Sem.run_bind, Sem.run_pure, Result.andThen_ok, invoke]
          have := hc.1 (#[] ++ xs'.map a.eval ++ vs.toArray) w
          simpa using this
        rw [hex, Oper.upon_enter]
        have hcall := hc.2 Z κ w (xs'.toList.map a.eval ++ vs) r (hxs.append hcap)
        have hargs : (xs'.toList.map a.eval ++ vs).toArray = xs'.map a.eval ++ vs.toArray := by
          rw [toArray_map xs' a.eval]; simp
        rw [hargs] at hcall
        refine hcall.mono fun e w' he => ?_
        obtain ⟨v', h'', Z', κ', c', ⟨rfl, rfl⟩, rfl, r', hv, ex, st⟩ := he
        exact hk _ _ _ _ r' hv ex (StepLt.all r st)
    · cases hg
  · exact hc.elim

/-! ### classes -/
theorem set_getD {k : AHeap} {id : Nat} {x : Option ABlk} (hx : k[id]? = x) : k.set id (x.getD .dead) = k := by
  apply List.ext_getElem?
  intro j
  by_cases hj : id = j
  · subst hj
    rcases Nat.lt_or_ge id k.length with h | h
    · rw [List.getElem?_set_self h]
      rw [List.getElem?_eq_getElem h] at hx
      subst hx
      simp [h]
    · rw [List.getElem?_eq_none (by simpa using h), List.getElem?_eq_none h]
  · rw [List.getElem?_set_ne hj]
/-- 't': touches no memory; 'q': reads blocks off D; 'w': reads and writes one of D; 'e': all else. -/
inductive Cl where
  | t | q | w | e | r (id : Nat)
  deriving DecidableEq

def offEq (D : List Nat) (k h : AHeap) : Prop := k.length = h.length ∧ ∀ id : Nat, D.contains id = false → k[id]? = h[id]?
def onEq (D : List Nat) (k h : AHeap) : Prop := k.length = h.length ∧ ∀ id : Nat, D.contains id = true → k[id]? = h[id]?
/-- The blocks of D of the one, all else of the other. -/
def mrgF (D : List Nat) : Nat → AHeap → AHeap → AHeap
  | i, x :: a, y :: b => (if D.contains i then x else y) :: mrgF D (i + 1) a b
  | _, _, _ => []
abbrev mrg (D : List Nat) (a b : AHeap) : AHeap := mrgF D 0 a b
theorem mrgF_len (D : List Nat) : ∀ (a b : AHeap) (i : Nat), a.length = b.length → (mrgF D i a b).length = b.length
  | [], [], _, _ => rfl
  | x :: a, y :: b, i, h => by simp [mrgF, mrgF_len D a b (i + 1) (by simpa using h)]
theorem mrgF_get (D : List Nat) : ∀ (a b : AHeap) (i j : Nat), a.length = b.length → (mrgF D i a b)[j]? = if D.contains (i + j) then a[j]? else b[j]?
  | [], [], _, _, _ => by simp [mrgF]
  | x :: a, y :: b, i, 0, h => by simp only [mrgF, List.getElem?_cons_zero, Nat.add_zero]; split <;> rfl
  | x :: a, y :: b, i, j + 1, h => by
    simp only [mrgF, List.getElem?_cons_succ]
    rw [mrgF_get D a b (i + 1) j (by simpa using h), show i + 1 + j = i + (j + 1) by omega]
theorem mrg_get {D : List Nat} {a b : AHeap} (h : a.length = b.length) (j : Nat) : (mrg D a b)[j]? = if D.contains j then a[j]? else b[j]? := by
  rw [mrgF_get D a b 0 j h, Nat.zero_add]

def Cl.ok (P : Program) (D : List Nat) (o : Oper) (ρ : Operand → AV) (h h' : AHeap) (v : AV) : Cl → Prop
  | .t => h' = h ∧ ∀ k, Y P o ρ k k v
  | .q => h' = h ∧ ∀ k, offEq D k h → Y P o ρ k k v
  | .w => h'.length = h.length ∧ offEq D h' h ∧ ∀ k, onEq D k h → Y P o ρ k (mrg D h' k) v
  | .e => Y P o ρ h h' v
  | .r id => h'.length = h.length ∧ (∀ j : Nat, j ≠ id → h'[j]? = h[j]?) ∧ ∀ k : AHeap, k.length = h.length → k[id]? = h[id]? → Y P o ρ k (k.set id (h'[id]?.getD .dead)) v

def clOf (lit : TypeId → Bool) (o : Oper) : Cl :=
  match o.op with
  | .move _ | .assign _ | .pick .. | .build .. | .nilCheck _ | .fieldAddr .. | .field .. | .indexAddr .. | .index .. | .slice .. | .extract .. | .makeFunc .. | .binOp .. | .unOp .. | .convert .. => .t
  | .buildSlice t _ _ => if lit t then .e else .t
  | .call { callee := .builtin .len, .. } => .t
  | .load .. | .lookup .. => .q
  | .store .. => .w
  | _ => .e

def offD (D : List Nat) : AV → Bool
  | .ptr id _ _ | .mp id => !D.contains id
  | _ => true
def onD (D : List Nat) : AV → Bool
  | .ptr id _ _ | .mp id => D.contains id
  | _ => true

theorem map_h {x : Option AV} {h h' : AHeap} {v : AV} (hx : (x.map fun v => (v, h)) = some (v, h')) : h' = h ∧ ∀ k : AHeap, (x.map fun v => (v, k)) = some (v, k) := by
  cases x with
  | none => simp at hx
  | some u => simp at hx; obtain ⟨rfl, rfl⟩ := hx; simp

def pickH (x A B : AV) (k : AHeap) : Option (AV × AHeap) :=
  match x with
  | .val (.bool t) => some (if t then A else B, k)
  | _ => none
theorem pick_h {x A B : AV} {h h' : AHeap} {v : AV} (hx : pickH x A B h = some (v, h')) : h' = h ∧ ∀ k : AHeap, pickH x A B k = some (v, k) := by
  unfold pickH at *
  split at hx
  · cases hx; exact ⟨rfl, fun _ => rfl⟩
  · cases hx

theorem ev_t {o : Oper} {ρ : Operand → AV} {h h' : AHeap} {v : AV} (hg : goCall o = none) (hcv : ∀ s d x, o.op ≠ .convert s d x) (hc : clOf lit o = .t) (he : ev P lit ρ h o = some (v, h')) : h' = h ∧ ∀ k, ev P lit ρ k o = some (v, k) := by
  obtain ⟨dst, op, type, pos, after, guard⟩ := o
  cases op <;> (try simp only [clOf, reduceCtorEq] at hc) <;> (try simp only [ev] at he ⊢)
  case move x => cases he; exact ⟨rfl, fun _ => rfl⟩
  case assign x => cases he; exact ⟨rfl, fun _ => rfl⟩
  case pick c a b =>
    generalize ρ c = x at he ⊢
    exact pick_h (x := x) (A := ρ a) (B := ρ b) he
  case build t ps => exact map_h he
  case buildSlice t m ps =>
    have hl : lit t = false := by
      cases hl : lit t with
      | false => rfl
      | true => simp [hl] at hc
    generalize abuildSlice P t m _ = x at he ⊢
    cases x with
    | none => simp at he
    | some y => obtain ⟨cs, k⟩ := y; simp [hl] at he ⊢; obtain ⟨rfl, rfl⟩ := he; simp
  case nilCheck x =>
    generalize ρ x = y at he ⊢
    cases y <;> simp at he ⊢
    all_goals (obtain ⟨rfl, rfl⟩ := he; simp)
  case fieldAddr t x i => exact map_h he
  case field t x i => exact map_h he
  case indexAddr t x i => exact map_h he
  case index t x i => exact map_h he
  case slice t x lo hi mx =>
    generalize ρ x = y at he ⊢
    cases y <;> exact map_h he
  case extract x i => exact map_h he
  case makeFunc fn first cap =>
    cases fn <;> simp only [reduceCtorEq] at he ⊢
    split at he
    · simp at he; obtain ⟨rfl, rfl⟩ := he; rename_i hf; simp [hf]
    · cases he
  case binOp op t x y yt => exact map_h he
  case unOp op t x => exact map_h he
  case convert s d x => exact absurd rfl (hcv s d x)
  case call c =>
    obtain ⟨callee, args, ts⟩ := c
    cases callee with
    | value f => simp [goCall] at hg
    | invoke r m => simp [clOf] at hc
    | builtin b =>
      cases b <;> simp only [reduceCtorEq] at hc
      simp only [evCall] at he ⊢
      split at he <;> try contradiction
      · rename_i t x h1 h2
        split at he
        · rename_i u hu
          simp at he; obtain ⟨rfl, rfl⟩ := he
          simp [h1, h2, hu]
        · cases he
      · have := map_h he
        exact ⟨this.1, this.2⟩

theorem ev_conv {o : Oper} {ρ : Operand → AV} {h h' : AHeap} {v : AV} {s d : TypeId} {x : Operand} (ho : o.op = .convert s d x) (hx : notOwn (ρ x) = true) (he : ev P lit ρ h o = some (v, h')) : h' = h ∧ ∀ k, ev P lit ρ k o = some (v, k) := by
  obtain ⟨dst, op, type, pos, after, guard⟩ := o
  simp only at ho; subst ho
  simp only [ev] at he ⊢
  refine ⟨(map_h he).1, fun k => ?_⟩
  rw [aconvS_any (h := h) hx k]
  exact (map_h he).2 k
/-- No address of a block of one's own. -/
def noPtr : AV → Bool
  | .ptr .. | .mp .. | .own .. => false
  | _ => true
theorem ev_load_t {o : Oper} {ρ : Operand → AV} {h h' : AHeap} {v : AV} {t : TypeId} {x : Operand} (ho : o.op = .load t x) (hx : noPtr (ρ x) = true) (he : ev P lit ρ h o = some (v, h')) : h' = h ∧ ∀ k : AHeap, ev P lit ρ k o = some (v, k) := by
  obtain ⟨dst, op, type, pos, after, guard⟩ := o
  simp only at ho; subst ho
  simp only [ev] at he ⊢
  refine ⟨(map_h he).1, fun k => ?_⟩
  have : aload P t (ρ x) k = aload P t (ρ x) h := by
    unfold aload
    generalize ρ x = y at hx
    cases y <;> first | rfl | (simp [noPtr] at hx)
  rw [this]
  exact (map_h he).2 k
theorem ev_look_t {o : Oper} {ρ : Operand → AV} {h h' : AHeap} {v : AV} {t : TypeId} {m x : Operand} {ok : Bool} (ho : o.op = .lookup t m x ok) (hx : noPtr (ρ m) = true) (he : ev P lit ρ h o = some (v, h')) : h' = h ∧ ∀ k : AHeap, ev P lit ρ k o = some (v, k) := by
  obtain ⟨dst, op, type, pos, after, guard⟩ := o
  simp only at ho; subst ho
  simp only [ev] at he ⊢
  refine ⟨(map_h he).1, fun k => ?_⟩
  have hm : mapOf (ρ m) k = mapOf (ρ m) h := by
    unfold mapOf
    generalize ρ m = y at hx
    split <;> first | rfl | (simp [noPtr] at hx) | (split <;> simp_all [noPtr])
  have : alookup P t (ρ m) (ρ x) ok k = alookup P t (ρ m) (ρ x) ok h := by
    unfold alookup
    rw [hm]
  rw [this]
  exact (map_h he).2 k
theorem ev_load_q {o : Oper} {ρ : Operand → AV} {h h' : AHeap} {v : AV} {D : List Nat} {t : TypeId} {x : Operand} (ho : o.op = .load t x) (hx : offD D (ρ x) = true) (he : ev P lit ρ h o = some (v, h')) : h' = h ∧ ∀ k, offEq D k h → ev P lit ρ k o = some (v, k) := by
  obtain ⟨dst, op, type, pos, after, guard⟩ := o
  simp only at ho; subst ho
  simp only [ev] at he ⊢
  refine ⟨(map_h he).1, fun k hk => ?_⟩
  have : aload P t (ρ x) k = aload P t (ρ x) h := by
    unfold aload
    generalize ρ x = y at hx
    cases y with
    | ptr id ver off => simp only [offD, Bool.not_eq_true'] at hx; simp only [hk.2 id hx]
    | _ => rfl
  rw [this]
  exact (map_h he).2 k
theorem ev_load_w {o : Oper} {ρ : Operand → AV} {h h' : AHeap} {v : AV} {D : List Nat} {t : TypeId} {x : Operand} (ho : o.op = .load t x) (hx : onD D (ρ x) = true) (he : ev P lit ρ h o = some (v, h')) : h' = h ∧ ∀ k, onEq D k h → ev P lit ρ k o = some (v, k) := by
  obtain ⟨dst, op, type, pos, after, guard⟩ := o
  simp only at ho; subst ho
  simp only [ev] at he ⊢
  refine ⟨(map_h he).1, fun k hk => ?_⟩
  have : aload P t (ρ x) k = aload P t (ρ x) h := by
    unfold aload
    generalize ρ x = y at hx
    cases y with
    | ptr id ver off => simp only [onD] at hx; simp only [hk.2 id hx]
    | _ => rfl
  rw [this]
  exact (map_h he).2 k
theorem ev_look_q {o : Oper} {ρ : Operand → AV} {h h' : AHeap} {v : AV} {D : List Nat} {t : TypeId} {m x : Operand} {ok : Bool} (ho : o.op = .lookup t m x ok) (hx : offD D (ρ m) = true) (he : ev P lit ρ h o = some (v, h')) : h' = h ∧ ∀ k, offEq D k h → ev P lit ρ k o = some (v, k) := by
  obtain ⟨dst, op, type, pos, after, guard⟩ := o
  simp only at ho; subst ho
  simp only [ev] at he ⊢
  refine ⟨(map_h he).1, fun k hk => ?_⟩
  have : mapOf (ρ m) k = mapOf (ρ m) h := by
    unfold mapOf
    generalize ρ m = y at hx
    cases y with
    | mp id => simp only [offD, Bool.not_eq_true'] at hx; simp only [hk.2 id hx]
    | val u =>
      cases u <;> try rfl
      rename_i b; cases b <;> rfl
    | _ => rfl
  have : alookup P t (ρ m) (ρ x) ok k = alookup P t (ρ m) (ρ x) ok h := by unfold alookup; rw [this]
  rw [this]
  exact (map_h he).2 k
theorem ev_look_w {o : Oper} {ρ : Operand → AV} {h h' : AHeap} {v : AV} {D : List Nat} {t : TypeId} {m x : Operand} {ok : Bool} (ho : o.op = .lookup t m x ok) (hx : onD D (ρ m) = true) (he : ev P lit ρ h o = some (v, h')) : h' = h ∧ ∀ k, onEq D k h → ev P lit ρ k o = some (v, k) := by
  obtain ⟨dst, op, type, pos, after, guard⟩ := o
  simp only at ho; subst ho
  simp only [ev] at he ⊢
  refine ⟨(map_h he).1, fun k hk => ?_⟩
  have : mapOf (ρ m) k = mapOf (ρ m) h := by
    unfold mapOf
    generalize ρ m = y at hx
    cases y with
    | mp id => simp only [onD] at hx; simp only [hk.2 id hx]
    | val u =>
      cases u <;> try rfl
      rename_i b; cases b <;> rfl
    | _ => rfl
  have : alookup P t (ρ m) (ρ x) ok k = alookup P t (ρ m) (ρ x) ok h := by unfold alookup; rw [this]
  rw [this]
  exact (map_h he).2 k

theorem mrg_self {D : List Nat} {h k : AHeap} (hk : onEq D k h) : mrg D h k = k := by
  apply List.ext_getElem?
  intro j
  rw [mrg_get hk.1.symm]
  split
  · rename_i hd; exact (hk.2 j hd).symm
  · rfl

theorem ev_store_w {o : Oper} {ρ : Operand → AV} {h h' : AHeap} {v : AV} {D : List Nat} {t : TypeId} {p x : Operand} (ho : o.op = .store t p x) (hx : onD D (ρ p) = true) (he : ev P lit ρ h o = some (v, h')) :
    h'.length = h.length ∧ offEq D h' h ∧ ∀ k, onEq D k h → ev P lit ρ k o = some (v, mrg D h' k) := by
  obtain ⟨dst, op, type, pos, after, guard⟩ := o
  simp only at ho; subst ho
  simp only [ev] at he ⊢
  obtain ⟨h2, hs, he⟩ := Option.map_eq_some_iff.1 he
  injection he with e1 e2; subst e1 e2
  unfold astore at hs
  split at hs
  · rename_i id ver off vs kk hp hv ht
    split at hs
    · rename_i ver' cs hb
      split at hs
      · rename_i hc
        injection hs with hs; subst hs
        rw [hp] at hx
        simp only [onD] at hx
        refine ⟨by simp, ⟨by simp, fun j hj => ?_⟩, fun k hk => ?_⟩
        · have : ¬ id = j := fun e => by subst e; rw [hx] at hj; cases hj
          rw [List.getElem?_set_ne this]
        · have hkb : k[id]? = some (.cells ver' cs) := by rw [hk.2 id hx, hb]
          have e : mrg D (h.set id (.cells ver (setMany cs off vs))) k = k.set id (.cells ver (setMany cs off vs)) := by
            apply List.ext_getElem?
            intro j
            rw [mrg_get (by simp [hk.1])]
            by_cases hj : id = j
            · subst hj
              simp only [hx, if_true]
              rw [List.getElem?_set_self (List.getElem?_eq_some_iff.1 hb).1, List.getElem?_set_self (List.getElem?_eq_some_iff.1 hkb).1]
            · rw [List.getElem?_set_ne hj, List.getElem?_set_ne hj]
              split
              · rename_i hd; exact (hk.2 j hd).symm
              · rfl
          rw [e]
          unfold astore
          rw [hp, hv, ht]
          simp only [hkb]
          rw [if_pos hc]; rfl
      · cases hs
    · cases hs
  · cases hs

end Go.Cx

set_option linter.unusedVariables false
set_option linter.unusedSimpArgs false
set_option linter.unusedSectionVars false
namespace Go.Cx
variable {P : Program} {lit : TypeId → Bool} {n : Nat}

/-! ### the check of a region's order -/
def edgesOf (o : Oper) : List Nat := (o.after.toList.filter (Region.binds .any)).map (·.on)
def orE (M : List Nat) : List Nat → Nat
  | [] => 0
  | e :: es => Nat.lor (Nat.lor (2 ^ e) (M.getD e 0)) (orE M es)
def masks : List Oper → List Nat → List Nat
  | [], M => M
  | o :: rest, M => masks rest (M ++ [orE M (edgesOf o)])
/-- The classes of the calls of a region; what isn't named here computes. -/
abbrev CC := List (Nat × Cl)
def look (cc : CC) (i : Nat) (c : Cl) : Cl := ((cc.find? fun p => p.1 == i).map (·.2)).getD c
def clAt (lit : TypeId → Bool) (cc : CC) (i : Nat) (o : Oper) : Cl :=
  match goCall o with
  | some _ => look cc i .t
  | none => match o.op with
    | .load .. | .lookup .. => look cc i .q
    | .store .. => look cc i .w
    | .alloc .. => look cc i .e
    | .call { callee := .builtin .unsafeSliceData, .. } => look cc i .e
    | _ => clOf lit o
/-- Two classes that may not change places. -/
def Cl.conf : Cl → Cl → Bool
  | .t, _ | _, .t | .q, .q | .q, .w | .w, .q | .q, .r _ | .r _, .q => false
  | .r a, .r b => a == b
  | _, _ => true
def pairOk (lit : TypeId → Bool) (cc : CC) (ops : Array Oper) (M : List Nat) (i : Nat) (oi : Oper) (k : Nat) (ok : Oper) : Bool :=
  k == i ||
  ((match ok.dst with
    | none => true
    | some x => oi.dst != some x && (!(oi.looksAt ops).contains x || (M.getD i 0).testBit k)) &&
   (k > i || !(clAt lit cc k ok).conf (clAt lit cc i oi) || (M.getD i 0).testBit k))
def allIx (f : Nat → Oper → Bool) : Nat → List Oper → Bool
  | _, [] => true
  | i, o :: rest => f i o && allIx f (i + 1) rest
def okDraw (lit : TypeId → Bool) (cc : CC) (m : Nat) (ops : Array Oper) : Bool :=
  let os := ops.toList
  let M := masks os []
  allIx (fun i o => M.getD i 0 == orE M (edgesOf o) && (edgesOf o).all (· < i) && (i ≤ m || (edgesOf o).contains (i - 1)) &&
    (i != m || ((List.range m).all fun k => (M.getD m 0).testBit k))) 0 os &&
  allIx (fun i oi => allIx (fun k ok => pairOk lit cc ops M i oi k ok) 0 (os.take m)) 0 (os.take m) &&
  decide (m ≤ os.length)

theorem allIx_spec {f : Nat → Oper → Bool} : ∀ (l : List Oper) (i : Nat), allIx f i l = true → ∀ j o, l[j]? = some o → f (i + j) o = true
  | [], _, _, j, o, hj => by simp at hj
  | x :: l, i, h, j, o, hj => by
    simp only [allIx, Bool.and_eq_true] at h
    cases j with
    | zero => simp at hj; subst hj; simpa using h.1
    | succ j =>
      have := allIx_spec l (i + 1) h.2 j o (by simpa using hj)
      rwa [Nat.add_right_comm] at this

theorem orE_bit (M : List Nat) (j : Nat) : ∀ es : List Nat, (orE M es).testBit j = true → ∃ e ∈ es, e = j ∨ (M.getD e 0).testBit j = true
  | [], h => by simp [orE] at h
  | e :: es, h => by
    simp only [orE] at h
    have h : (((2 ^ e ||| M.getD e 0) ||| orE M es) : Nat).testBit j = true := h
    rw [Nat.testBit_or, Nat.testBit_or, Bool.or_eq_true, Bool.or_eq_true] at h
    rcases h with (h | h) | h
    · rw [Nat.testBit_two_pow] at h
      exact ⟨e, by simp, .inl (by simpa using h)⟩
    · exact ⟨e, by simp, .inr h⟩
    · obtain ⟨e', he, h⟩ := orE_bit M j es h
      exact ⟨e', by simp [he], h⟩

structure Ordered (lit : TypeId → Bool) (cc : CC) (m : Nat) (ops : Array Oper) where
  le : m ≤ ops.size
  reach : Nat → Nat → Prop
  step : ∀ i o j, ops[i]? = some o → reach i j → ∃ e ∈ edgesOf o, e = j ∨ reach e j
  lt : ∀ i o, ops[i]? = some o → ∀ e ∈ edgesOf o, e < i
  tail : ∀ i o, ops[i]? = some o → m < i → i - 1 ∈ edgesOf o
  cut : ∀ o, ops[m]? = some o → ∀ k, k < m → reach m k
  dsts : ∀ i k oi ok x, i < m → k < m → k ≠ i → ops[i]? = some oi → ops[k]? = some ok → ok.dst = some x → oi.dst ≠ some x ∧ (x ∈ oi.looksAt ops → reach i k)
  cls : ∀ i k oi ok, i < m → k < m → k < i → ops[i]? = some oi → ops[k]? = some ok → (clAt lit cc k ok).conf (clAt lit cc i oi) = true → reach i k

theorem ordered {cc : CC} {m : Nat} {ops : Array Oper} (h : okDraw lit cc m ops = true) : Nonempty (Ordered lit cc m ops) := by
  simp only [okDraw, Bool.and_eq_true] at h
  obtain ⟨⟨h1, h2⟩, h3⟩ := h
  have key : ∀ i o, ops[i]? = some o → (masks ops.toList []).getD i 0 = orE (masks ops.toList []) (edgesOf o) ∧ (∀ e ∈ edgesOf o, e < i) ∧ (i ≤ m ∨ i - 1 ∈ edgesOf o) ∧ (i ≠ m ∨ ∀ k, k < m → ((masks ops.toList []).getD m 0).testBit k = true) := by
    intro i o hi
    have := allIx_spec _ 0 h1 i o (by simpa using hi)
    simp only [Nat.zero_add, Bool.and_eq_true, Bool.or_eq_true, beq_iff_eq, List.all_eq_true, decide_eq_true_eq, bne_iff_ne, List.mem_range, List.contains_iff_mem] at this
    obtain ⟨⟨⟨a, b⟩, c⟩, d⟩ := this
    exact ⟨a, b, c, d⟩
  have pair : ∀ i k oi ok, i < m → k < m → ops[i]? = some oi → ops[k]? = some ok → pairOk lit cc ops (masks ops.toList []) i oi k ok = true := by
    intro i k oi ok him hkm hi hk
    have hl : ∀ (j : Nat) (o : Oper), j < m → ops[j]? = some o → (ops.toList.take m)[j]? = some o := fun j o hj ho => by
      rw [List.getElem?_take_of_lt hj]; simpa using ho
    have := allIx_spec _ 0 h2 i oi (hl i oi him hi)
    have := allIx_spec _ 0 this k ok (hl k ok hkm hk)
    simpa using this
  refine ⟨⟨by simpa using h3, fun i j => ((masks ops.toList []).getD i 0).testBit j = true, ?_, ?_, ?_, ?_, ?_, ?_⟩⟩
  · intro i o j hi hr
    rw [(key i o hi).1] at hr
    exact orE_bit _ j _ hr
  · exact fun i o hi => (key i o hi).2.1
  · exact fun i o hi hm => (key i o hi).2.2.1.resolve_left (by omega)
  · exact fun o ho => (key m o ho).2.2.2.resolve_left (by simp)
  · intro i k oi ok x him hkm hne hi hk hd
    have := pair i k oi ok him hkm hi hk
    simp only [pairOk, hd, Bool.or_eq_true, Bool.and_eq_true, beq_iff_eq, bne_iff_ne, Bool.not_eq_true', List.contains_eq_mem, decide_eq_false_iff_not] at this
    rcases this with h | ⟨⟨h, h'⟩, _⟩
    · exact absurd h hne
    · exact ⟨h, fun hx => h'.resolve_left (fun h => h hx)⟩
  · intro i k oi ok him hkm hlt hi hk hc
    have := pair i k oi ok him hkm hi hk
    simp only [pairOk, Bool.or_eq_true, Bool.and_eq_true, beq_iff_eq, decide_eq_true_eq, hc, Bool.not_true, Bool.false_eq_true, or_false] at this
    rcases this with h | ⟨_, h | h⟩
    · omega
    · omega
    · exact h

/-! ### the head, in the order of the text -/
def ADcall (P : Program) (D : List Nat) (c : Cl) (fv : AV) (args : List AV) (h : AHeap) (K : AV → AHeap → Prop) : Prop :=
  match c with
  | .t => ∃ v, (∀ k : AHeap, AInv P fv args k (fun v' h' => v' = v ∧ h' = k)) ∧ K v h
  | .q => ∃ v, (∀ k : AHeap, offEq D k h → AInv P fv args k (fun v' h' => v' = v ∧ h' = k)) ∧ K v h
  | .w => False
  | .e => ∃ v h1, AInv P fv args h (fun v' h' => v' = v ∧ h' = h1) ∧ K v h1
  | .r _ => False
def ldK (D : List Nat) (c : Cl) (p : AV) (A : Prop) : Prop :=
  match c with
  | .q => offD D p = true ∧ A
  | .w => onD D p = true ∧ A
  | .e => A
  | .t => noPtr p = true ∧ A
  | .r _ => False
def stK (D : List Nat) (c : Cl) (p : AV) (A : Prop) : Prop :=
  match c with
  | .w => onD D p = true ∧ A
  | .e => A
  | _ => False
/-- The room that is kept among D. -/
def roomOf (D : List Nat) (h : AHeap) : Option (Nat × Nat) := D.findSome? fun id : Nat => match (h[id]? : Option ABlk) with | some (ABlk.cells ver []) => some (id, ver) | _ => none
def alcK (P : Program) (D : List Nat) (c : Cl) (t : TypeId) (h : AHeap) (K : AV → AHeap → Prop) (A : Prop) : Prop :=
  match c with
  | .w => match roomOf D h with
    | some (id, ver) => match tzero P t with
      | some zs => K (.ptr id (ver + 1) 0) (h.set id (.cells (ver + 1) zs))
      | none => False
    | none => False
  | .e => A
  | .r id => match (h[id]? : Option ABlk), tzero P t with
    | some (.cells ver []), some zs => K (.ptr id (ver + 1) 0) (h.set id (.cells (ver + 1) zs))
    | _, _ => False
  | _ => False
theorem roomOf_ok {D : List Nat} {h : AHeap} {id ver : Nat} (hr : roomOf D h = some (id, ver)) : D.contains id = true ∧ h[id]? = some (.cells ver []) := by
  obtain ⟨j, hj, hb⟩ := List.exists_of_findSome?_eq_some hr
  split at hb
  · rename_i v hv
    injection hb with hb; injection hb with h1 h2; subst h1 h2
    exact ⟨by simpa using hj, hv⟩
  · cases hb
def sdK (c : Cl) (xs : List AV) (h : AHeap) (K : AV → AHeap → Prop) (A : Prop) : Prop :=
  match c with
  | .r id => match xs with
    | [.own id' ver 0 (n + 1) 1] => match (h[id]? : Option ABlk) with
      | some (.typed _ ver' cs) => id' = id ∧ ver' = ver ∧ cs.length = n + 1 ∧ K (.ptr id ver 0) h
      | _ => False
    | _ => False
  | .e => A
  | _ => False
theorem Y.sliceData {o : Oper} {xs : Array Operand} {ts : Array TypeId} (ho : o.op = .call { callee := .builtin .unsafeSliceData, args := xs, argTypes := ts }) {ρ : Operand → AV} {k : AHeap} {id ver n : Nat} {E : TypeId} {cs : List AV}
    (hxs : xs.toList.map ρ = [.own id ver 0 (n + 1) 1]) (hx : k[id]? = some (.typed E ver cs)) (hl : cs.length = n + 1) : Y P o ρ k k (.ptr id ver 0) := by
  intro Z κ w a r hr K Q' hk
  have hR : Rs Z w κ (xs.toList.map ρ) (xs.toList.map a.eval) := rs_of _ fun x hm => hr x (by rw [ho]; simp only [Op.operands, Go.Call.operands]; simpa using hm)
  rw [hxs] at hR
  obtain ⟨c, hcs⟩ : ∃ c, xs.toList.map a.eval = [c] := by
    have := hR.length
    match hq : xs.toList.map a.eval, this with
    | [c], _ => exact ⟨c, rfl⟩
  rw [hcs] at hR
  cases hR with
  | cons h1 h2 =>
    obtain ⟨u, hu, hr2⟩ := asliceData_ok (P := P) (ts := ts) (ty := o.type) (v := .ptr id ver 0) r h1 (by simp [asliceData, hx, hl])
    have hex : execOp a.eval o = builtin .unsafeSliceData ts o.type (xs.map fun | .const _ => true | _ => false) (xs.map a.eval) := by simp only [execOp, ho, resolve]; rfl
    have hrun : (execOp a.eval o).run P w = .ok (.value u) w := by rw [hex, arr_map xs a.eval, hcs]; simp [builtin, hu]
    unfold Oper.wp
    rw [hrun, Oper.upon_value]
    exact hk _ _ _ _ r hr2 (.refl _ _ _) (.refl _)
def ADop (P : Program) (lit : TypeId → Bool) (D : List Nat) (cc : CC) (i : Nat) (o : Oper) (s : AState) (K : AState → Prop) : Prop :=
  match goCall o with
  | some (f, xs) => ADcall P D (clAt lit cc i o) (s.ev f) (xs.toList.map s.ev) s.h (thenOp K s o.dst)
  | none => match o.op with
    | .load _ x => ldK D (clAt lit cc i o) (s.ev x) (AOp P lit o s K)
    | .lookup _ m _ _ => ldK D (clAt lit cc i o) (s.ev m) (AOp P lit o s K)
    | .store _ p _ => stK D (clAt lit cc i o) (s.ev p) (AOp P lit o s K)
    | .convert _ _ x => notOwn (s.ev x) = true ∧ AOp P lit o s K
    | .alloc t => alcK P D (clAt lit cc i o) t s.h (thenOp K s o.dst) (AOp P lit o s K)
    | .call { callee := .builtin .unsafeSliceData, args := xs, argTypes := _ } => sdK (clAt lit cc i o) (xs.toList.map s.ev) s.h (thenOp K s o.dst) (AOp P lit o s K)
    | _ => AOp P lit o s K
def gdD (P : Program) (lit : TypeId → Bool) (D : List Nat) (cc : CC) (i : Nat) (o : Oper) (s : AState) (t : Nat) (want : Bool) (K : AState → Prop) (x : AV) : Prop :=
  match x with
  | .val (.bool b) => (b = want → ADop P lit D cc i o { s with T := put s.T t (.val (.bool want)) } K) ∧
      (b = !want → dstOk s.N o.dst ∧ K (({ s with T := put s.T t (.val (.bool !want)) } : AState).put o.dst (.tup [])))
  | .tup [] => dstOk s.N o.dst ∧ K (s.put o.dst (.tup []))
  | _ => False
def AD (P : Program) (lit : TypeId → Bool) (D : List Nat) (cc : CC) (ops : Array Oper) (Q : AState → Prop) : Nat → List Oper → AState → Prop
  | _, [], s => Q s
  | i, o :: rest, s => match o.guard with
    | none => ADop P lit D cc i o s (AD P lit D cc ops Q (i + 1) rest)
    | some (j, want) => match guardTmp ops j with
      | none => False
      | some t => gdD P lit D cc i o s t want (AD P lit D cc ops Q (i + 1) rest) (s.T t)

/-- What a guard says. -/
def Wt (ops : Array Oper) (o : Oper) (T : Nat → AV) (b : Bool) : Prop :=
  match o.guard with
  | none => b = true
  | some (j, want) => ∃ t, guardTmp ops j = some t ∧ ((∃ u, T t = .val (.bool u) ∧ b = (u == want)) ∨ (T t = .tup [] ∧ b = false))

structure Stp (P : Program) (D : List Nat) (ops : Array Oper) (c : Cl) (o : Oper) (s s' : AState) (v : AV) : Prop where
  dst : dstOk s.N o.dst
  eq : s' = ({ s with h := s'.h } : AState).put o.dst v
  go : (Wt ops o s.T true ∧ c.ok P D o s.ev s.h s'.h v) ∨ (Wt ops o s.T false ∧ v = .tup [] ∧ s'.h = s.h)

theorem put_self (T : Nat → AV) (t : Nat) : put T t (T t) = T := by
  funext j
  by_cases hj : j = t
  · subst hj; exact put_same _ _ _
  · exact put_ne _ _ hj
theorem put_h (s : AState) (d : Option Nat) (v : AV) : (s.put d v).h = s.h := by cases d <;> rfl
theorem put_N (s : AState) (d : Option Nat) (v : AV) : (s.put d v).N = s.N := by cases d <;> rfl

theorem AInv.yield {f : Operand} {xs : Array Operand} {o : Oper} (hg : goCall o = some (f, xs)) {s : AState} {h h' : AHeap} {v : AV} (hc : AInv P (s.ev f) (xs.toList.map s.ev) h (fun v' h'' => v' = v ∧ h'' = h')) : Y P o s.ev h h' v := Y.call hg hc

theorem ADop_stp {D : List Nat} {cc : CC} {ops : Array Oper} {i : Nat} {o : Oper} {s : AState} {K : AState → Prop} (h : ADop P lit D cc i o s K) (hw : Wt ops o s.T true) :
    ∃ v s', Stp P D ops (clAt lit cc i o) o s s' v ∧ K s' := by
  have mk : ∀ v h', thenOp K s o.dst v h' → (clAt lit cc i o).ok P D o s.ev s.h h' v → ∃ v s', Stp P D ops (clAt lit cc i o) o s s' v ∧ K s' := by
    intro v h' ⟨hd, hk⟩ hok
    refine ⟨v, _, ⟨hd, ?_, .inl ⟨hw, ?_⟩⟩, hk⟩
    · rw [put_h]
    · rw [put_h]; exact hok
  have fin : ∀ (hg : goCall o = none), AOp P lit o s K → (∀ v h', ev P lit s.ev s.h o = some (v, h') → (clAt lit cc i o).ok P D o s.ev s.h h' v) → ∃ v s', Stp P D ops (clAt lit cc i o) o s s' v ∧ K s' := by
    intro hg h hok
    unfold AOp at h
    rw [hg] at h
    simp only [] at h
    unfold optB at h
    split at h
    · rename_i v h' hv
      exact mk v h' h (hok v h' hv)
    · exact h.elim
  unfold ADop at h
  split at h
  · rename_i f xs hg
    unfold ADcall at h
    split at h
    · rename_i hc
      obtain ⟨v, h1, h2⟩ := h
      refine mk v s.h h2 ?_
      rw [hc]; exact ⟨rfl, fun k => Y.call hg (h1 k)⟩
    · rename_i hc
      obtain ⟨v, h1, h2⟩ := h
      refine mk v s.h h2 ?_
      rw [hc]; exact ⟨rfl, fun k hk => Y.call hg (h1 k hk)⟩
    · exact h.elim
    · rename_i hc
      obtain ⟨v, h', h1, h2⟩ := h
      refine mk v h' h2 ?_
      rw [hc]; exact Y.call hg h1
    · exact h.elim
  · rename_i hg
    split at h
    · rename_i t x ho
      unfold ldK at h
      split at h
      · rename_i hc
        refine fin hg h.2 fun v h' hv => ?_
        rw [hc]
        obtain ⟨e, hk⟩ := ev_load_q ho h.1 hv
        exact ⟨e, fun k hke => Y.ev (hk k hke)⟩
      · rename_i hc
        refine fin hg h.2 fun v h' hv => ?_
        rw [hc]
        obtain ⟨e, hk⟩ := ev_load_w ho h.1 hv
        subst e
        exact ⟨rfl, ⟨rfl, fun _ _ => rfl⟩, fun k hke => by rw [mrg_self hke]; exact Y.ev (hk k hke)⟩
      · rename_i hc
        refine fin hg h fun v h' hv => ?_
        rw [hc]; exact Y.ev hv
      · rename_i hc
        refine fin hg h.2 fun v h' hv => ?_
        rw [hc]
        obtain ⟨e, hk⟩ := ev_load_t ho h.1 hv
        exact ⟨e, fun k => Y.ev (hk k)⟩
      · exact h.elim
    · rename_i t m x ok ho
      unfold ldK at h
      split at h
      · rename_i hc
        refine fin hg h.2 fun v h' hv => ?_
        rw [hc]
        obtain ⟨e, hk⟩ := ev_look_q ho h.1 hv
        exact ⟨e, fun k hke => Y.ev (hk k hke)⟩
      · rename_i hc
        refine fin hg h.2 fun v h' hv => ?_
        rw [hc]
        obtain ⟨e, hk⟩ := ev_look_w ho h.1 hv
        subst e
        exact ⟨rfl, ⟨rfl, fun _ _ => rfl⟩, fun k hke => by rw [mrg_self hke]; exact Y.ev (hk k hke)⟩
      · rename_i hc
        refine fin hg h fun v h' hv => ?_
        rw [hc]; exact Y.ev hv
      · rename_i hc
        refine fin hg h.2 fun v h' hv => ?_
        rw [hc]
        obtain ⟨e, hk⟩ := ev_look_t ho h.1 hv
        exact ⟨e, fun k => Y.ev (hk k)⟩
      · exact h.elim
    · rename_i t p x ho
      unfold stK at h
      split at h
      · rename_i hc
        refine fin hg h.2 fun v h' hv => ?_
        rw [hc]
        obtain ⟨e1, e2, hk⟩ := ev_store_w ho h.1 hv
        exact ⟨e1, e2, fun k hke => Y.ev (hk k hke)⟩
      · rename_i hc
        refine fin hg h fun v h' hv => ?_
        rw [hc]; exact Y.ev hv
      · exact h.elim
    · rename_i sr ds x ho
      refine fin hg h.2 fun v h' hv => ?_
      have e : clAt lit cc i o = .t := by
        unfold clAt
        rw [hg]
        simp only [ho, clOf]
      rw [e]
      obtain ⟨e, hk⟩ := ev_conv ho h.1 hv
      exact ⟨e, fun k => Y.ev (hk k)⟩
    · rename_i t ho
      unfold alcK at h
      split at h
      · rename_i hc
        split at h
        · rename_i id ver hr
          split at h
          · rename_i zs hz
            obtain ⟨h1, h2⟩ := roomOf_ok hr
            refine mk _ _ h ?_
            rw [hc]
            have hne : ∀ j : Nat, D.contains j = false → ¬ id = j := fun j hj e => by subst e; rw [h1] at hj; cases hj
            refine ⟨by simp, ⟨by simp, fun j hj => List.getElem?_set_ne (hne j hj)⟩, fun k hk => ?_⟩
            have e : mrg D (s.h.set id (.cells (ver + 1) zs)) k = k.set id (.cells (ver + 1) zs) := by
              apply List.ext_getElem?
              intro j
              rw [mrg_get (by simp [hk.1])]
              by_cases hj : id = j
              · subst hj
                have l1 := (List.getElem?_eq_some_iff.1 h2).1
                rw [if_pos h1, List.getElem?_set_self l1, List.getElem?_set_self (by rw [hk.1]; exact l1)]
              · rw [List.getElem?_set_ne hj, List.getElem?_set_ne hj]
                split
                · rename_i hd; rw [hk.2 j hd]
                · rfl
            rw [e]
            exact Y.room ho hz (by rw [hk.2 id h1]; exact h2)
          · exact h.elim
        · exact h.elim
      · rename_i hc
        refine fin hg h fun v h' hv => ?_
        rw [hc]; exact Y.ev hv
      · rename_i id hc
        split at h
        · rename_i ver zs hx hz
          refine mk _ _ h ?_
          rw [hc]
          have l1 := (List.getElem?_eq_some_iff.1 hx).1
          refine ⟨by simp, fun j hj => List.getElem?_set_ne (Ne.symm hj), fun k hk1 hk2 => ?_⟩
          rw [List.getElem?_set_self l1]
          exact Y.room ho hz (hk2.trans hx)
        · exact h.elim
      · exact h.elim
    · rename_i xs ts ho
      unfold sdK at h
      split at h
      · rename_i id hc
        split at h
        · rename_i id' ver n hxs
          split at h
          · rename_i E ver' cs hx
            obtain ⟨rfl, rfl, hl, hk⟩ := h
            refine mk _ _ hk ?_
            rw [hc]
            refine ⟨rfl, fun _ _ => rfl, fun k hk1 hk2 => ?_⟩
            have e : k.set id' ((s.h[id']?).getD .dead) = k := by
              have h3 := hk2.trans hx
              apply List.ext_getElem?
              intro j
              by_cases hj : j = id'
              · subst hj; rw [List.getElem?_set_self (List.getElem?_eq_some_iff.1 h3).1, h3, hx]; rfl
              · rw [List.getElem?_set_ne (Ne.symm hj)]
            rw [e]
            exact Y.sliceData ho hxs (hk2.trans hx) hl
          · exact h.elim
        · exact h.elim
      · rename_i hc
        refine fin hg h fun v h' hv => ?_
        rw [hc]; exact Y.ev hv
      · exact h.elim
    · rename_i h1 h2 h3 h4 h5 h6
      refine fin hg h fun v h' hv => ?_
      have e : clAt lit cc i o = clOf lit o := by
        unfold clAt
        rw [hg]
        simp only []
      rw [e]
      generalize hc : clOf lit o = c
      cases c with
      | t => obtain ⟨e, hk⟩ := ev_t hg (fun s d x ho => h4 s d x ho) hc hv; exact ⟨e, fun k => Y.ev (hk k)⟩
      | q =>
        exfalso
        unfold clOf at hc
        split at hc <;> first | (cases hc; done) | (split at hc <;> cases hc; done) | skip
        · rename_i t x ho; exact h1 t x ho
        · rename_i t m x ok ho; exact h2 t m x ok ho
      | w =>
        exfalso
        unfold clOf at hc
        split at hc <;> first | (cases hc; done) | (split at hc <;> cases hc; done) | skip
        · rename_i t p x ho; exact h3 t p x ho
      | e => exact Y.ev hv
      | r id =>
        exfalso
        unfold clOf at hc
        split at hc <;> first | (cases hc; done) | (split at hc <;> cases hc; done)

theorem AD_data {D : List Nat} {cc : CC} {ops : Array Oper} {Q : AState → Prop} : ∀ (l : List Oper) (i : Nat) (s : AState), AD P lit D cc ops Q i l s →
    ∃ (S : Nat → AState) (V : Nat → AV), S i = s ∧ Q (S (i + l.length)) ∧ ∀ k o, l[k]? = some o → Stp P D ops (clAt lit cc (i + k) o) o (S (i + k)) (S (i + k + 1)) (V (i + k))
  | [], i, s, h => ⟨fun _ => s, fun _ => .any, rfl, h, fun k o hk => by simp at hk⟩
  | o :: rest, i, s, h => by
    have key : ∃ v s', Stp P D ops (clAt lit cc i o) o s s' v ∧ AD P lit D cc ops Q (i + 1) rest s' := by
      simp only [AD] at h
      split at h
      · rename_i hg
        exact ADop_stp h (by simp [Wt, hg])
      · rename_i j want hg
        split at h
        · exact h.elim
        · rename_i t ht
          unfold gdD at h
          split at h
          · rename_i b hb
            obtain ⟨h1, h2⟩ := h
            by_cases hbw : b = want
            · subst hbw
              have h1 := h1 rfl
              rw [← hb, put_self] at h1
              exact ADop_stp h1 (by simp only [Wt, hg]; exact ⟨t, ht, .inl ⟨b, hb, by simp⟩⟩)
            · have hbn : b = !want := by cases b <;> cases want <;> simp_all
              have h2 := h2 hbn
              rw [← hbn, ← hb, put_self] at h2
              obtain ⟨hd, hk⟩ := h2
              exact ⟨.tup [], _, ⟨hd, by rw [put_h], .inr ⟨by simp only [Wt, hg]; exact ⟨t, ht, .inl ⟨b, hb, by simp [hbw]⟩⟩, rfl, put_h _ _ _⟩⟩, hk⟩
          · rename_i hb
            obtain ⟨hd, hk⟩ := h
            exact ⟨.tup [], _, ⟨hd, by rw [put_h], .inr ⟨by simp only [Wt, hg]; exact ⟨t, ht, .inr ⟨hb, trivial⟩⟩, rfl, put_h _ _ _⟩⟩, hk⟩
          · exact h.elim
    obtain ⟨v, s', hst, hr⟩ := key
    obtain ⟨S, V, h1, h2, h3⟩ := AD_data rest (i + 1) s' hr
    refine ⟨fun k => if k ≤ i then s else S k, fun k => if k ≤ i then v else V k, by simp, ?_, fun k o' hk => ?_⟩
    · have : ¬ (i + (rest.length + 1) ≤ i) := by omega
      simp only [List.length_cons, this, if_false]
      rw [show i + (rest.length + 1) = i + 1 + rest.length by omega]; exact h2
    · cases k with
      | zero =>
        simp only [List.getElem?_cons_zero, Option.some.injEq] at hk; subst hk
        have : ¬ (i + 1 ≤ i) := by omega
        simp only [Nat.add_zero, Nat.le_refl, if_true, this, if_false]
        rw [h1]; exact hst
      | succ k =>
        have a : ¬ (i + (k + 1) ≤ i) := by omega
        have b : ¬ (i + (k + 1) + 1 ≤ i) := by omega
        simp only [a, b, if_false]
        have := h3 k o' (by simpa using hk)
        rw [show i + (k + 1) = i + 1 + k by omega]; exact this

/-! ### one step, whatever order is drawn -/
theorem look_op {ops : Array Oper} {o : Oper} {t : Tmp} (h : .tmp t ∈ o.op.operands) : t ∈ o.looksAt ops :=
  List.mem_append_left _ (List.mem_filterMap.2 ⟨.tmp t, by simpa using h, rfl⟩)
theorem look_guard {ops : Array Oper} {o : Oper} {j t : Nat} {want : Bool} (h : o.guard = some (j, want)) (ht : guardTmp ops j = some t) : t ∈ o.looksAt ops :=
  List.mem_append_right _ (by rw [h]; simp only [guardTmp] at ht; simp [ht])

def needs (D : List Nat) (k h : AHeap) : Cl → Prop
  | .t => True
  | .q => offEq D k h
  | .w => onEq D k h
  | .e => k = h
  | .r id => k.length = h.length ∧ k[id]? = h[id]?
def newH (D : List Nat) (k h' : AHeap) : Cl → AHeap
  | .t | .q => k
  | .w => mrg D h' k
  | .e => h'
  | .r id => k.set id (h'[id]?.getD .dead)

theorem run_step {D : List Nat} {ops : Array Oper} {Q' : Exit → Act → World → Prop} {K : Act → World → Prop} {c : Cl} {i : Nat} {o : Oper} {S S' s : AState} {v : AV} {Z : Nat → Prop} {κ : Nat → Slot} {a : Act} {w : World} (r : SRel Z κ s a w) (hN : s.N = S.N)
    (hs : Stp P D ops c o S S' v) (ho : ops[i]? = some o) (hT : ∀ t ∈ o.looksAt ops, s.T t = S.T t) (hh : needs D s.h S.h c)
    (hk : ∀ Z' κ' a' w', SRel Z' κ' (({ s with h := newH D s.h S'.h c } : AState).put o.dst v) a' w' → Ext Z κ w Z' κ' w' → StepAll κ κ' → K a' w') : wpOp P ops Q' i K a w := by
  have hd : ∀ i, o.dst = some i → i < s.N := fun i hi => by
    have := hs.dst
    rw [hi, ← hN] at this; exact this
  have wt : ∀ b, Wt ops o S.T b → Region.wanted o (yielded ops a.tmps) = b := by
    intro b hw
    unfold Wt at hw
    split at hw
    · rename_i hg; rw [wanted_none hg, hw]
    · rename_i j want hg
      obtain ⟨t, ht, hw⟩ := hw
      have ht' := ht
      unfold guardTmp at ht'
      rcases hw with ⟨u, hu, rfl⟩ | ⟨hu, rfl⟩
      · have hy : yielded ops a.tmps j = some u := by
          have := r.bool (t := t) (b := u) (by rw [hT t (look_guard hg ht)]; exact hu)
          simp only [yielded, ht', Option.bind_some, this]
        simp [Region.wanted, hg, hy]
      · have hy : ∀ b, yielded ops a.tmps j ≠ some b := by
          intro b
          simp only [yielded, ht', Option.bind_some]
          have := r.noBool (t := t) (by rw [hT t (look_guard hg ht)]; exact hu)
          split
          · rename_i b' hb'; exact absurd hb' (this b')
          · simp
        simp only [Region.wanted, hg]
        cases hyy : yielded ops a.tmps j with
        | none => rfl
        | some b => exact absurd hyy (hy b)
  unfold wpOp
  simp only [ho]
  rcases hs.go with ⟨hw, hok⟩ | ⟨hw, hv, he⟩
  · rw [wt _ hw]
    simp only [if_true]
    refine .inl ?_
    have hx : ∀ x ∈ o.op.operands, R Z w κ (S.ev x) (a.eval x) := fun x hm => by
      have := r.ev x
      have e : s.ev x = S.ev x := by
        cases x with
        | tmp t => exact hT t (look_op hm)
        | _ => rfl
      rwa [e] at this
    have go : Y P o S.ev s.h (newH D s.h S'.h c) v → o.wp P a w K Q' := by
      intro hy
      refine hy Z κ w a r.rel hx K Q' fun cv Z' κ' w' r' hr ex sa => ?_
      exact hk Z' κ' _ w' (r.put r' hr ex sa hd) ex sa
    cases c with
    | t => exact go (hok.2 s.h)
    | q => exact go (hok.2 s.h hh)
    | w => exact go (hok.2.2 s.h hh)
    | e =>
      refine go ?_
      have hh : s.h = S.h := hh
      rw [hh]; exact hok
    | r id => exact go (hok.2.2 s.h hh.1 hh.2)
  · rw [wt _ hw]
    simp only [Bool.false_eq_true, if_false]
    have e : newH D s.h S'.h c = s.h := by
      cases c with
      | t => rfl
      | q => rfl
      | w => show mrg D S'.h s.h = s.h; rw [he]; exact mrg_self hh
      | e => show S'.h = s.h; rw [he]; exact hh.symm
      | r id => show s.h.set id (S'.h[id]?.getD .dead) = s.h; rw [he]; exact set_getD hh.2
    refine hk Z κ _ w ?_ (.refl _ _ _) (.refl _)
    rw [e, hv]
    exact r.skip (by have := hs.dst; rwa [← hN] at this)

/-! ### the tail -/
theorem ready_spec {ops : Array Oper} {listed : Array Bool} {i : Nat} (h : i ∈ Region.ready .any ops listed) : i < ops.size ∧ listed.getD i true = false ∧ ∀ o, ops[i]? = some o → ∀ e ∈ edgesOf o, listed.getD e false = true := by
  simp only [Region.ready, List.mem_filter, List.mem_range, Bool.and_eq_true, Bool.not_eq_true'] at h
  refine ⟨h.1, h.2.1, fun o ho e he => ?_⟩
  have h2 := h.2.2
  rw [ho] at h2
  simp only [Option.map_some, Option.getD_some, Array.all_eq_true', Bool.or_eq_true, Bool.not_eq_true'] at h2
  simp only [edgesOf, List.mem_map, List.mem_filter] at he
  obtain ⟨x, ⟨hx, hb⟩, rfl⟩ := he
  rcases h2 x (by simpa using hx) with h3 | h3
  · rw [hb] at h3; cases h3
  · exact h3
theorem ready_of {ops : Array Oper} {listed : Array Bool} {i : Nat} {o : Oper} (ho : ops[i]? = some o) (hl : listed.getD i true = false) (he : ∀ e ∈ edgesOf o, listed.getD e false = true) : i ∈ Region.ready .any ops listed := by
  have hi : i < ops.size := by
    rcases Nat.lt_or_ge i ops.size with h | h
    · exact h
    · rw [Array.getElem?_eq_none h] at ho; cases ho
  simp only [Region.ready, List.mem_filter, List.mem_range, Bool.and_eq_true, Bool.not_eq_true']
  refine ⟨hi, hl, ?_⟩
  rw [ho]
  simp only [Option.map_some, Option.getD_some, Array.all_eq_true', Bool.or_eq_true, Bool.not_eq_true']
  intro x hx
  by_cases hb : Region.binds .any x = true
  · exact .inr (he _ (by simp only [edgesOf, List.mem_map, List.mem_filter]; exact ⟨x, ⟨by simpa using hx, hb⟩, rfl⟩))
  · exact .inl (by simpa using hb)
theorem getD_both {listed : Array Bool} {i : Nat} (hi : i < listed.size) (b b' : Bool) : listed.getD i b = listed.getD i b' := by simp [Array.getD, hi]
theorem getD_put {listed : Array Bool} {i j : Nat} (hi : i < listed.size) : (listed.setIfInBounds i true).getD j true = if j = i then true else listed.getD j true := by
  rw [Array.getD_eq_getD_getElem?, Array.getD_eq_getD_getElem?, Array.getElem?_setIfInBounds]
  by_cases h : i = j
  · subst h; simp [hi]
  · have : ¬ j = i := fun e => h e.symm
    simp [h, this]

theorem wpAny_step {ops : Array Oper} {Q' : Exit → Act → World → Prop} {fuel : Nat} {listed : Array Bool} {a : Act} {w : World} {i : Nat} (hi : i ∈ Region.ready .any ops listed)
    (h : ∀ i ∈ Region.ready .any ops listed, wpOp P ops Q' i (wpAny P .any ops Q' fuel (listed.setIfInBounds i true)) a w) : wpAny P .any ops Q' (fuel + 1) listed a w :=
  ⟨fun h0 => by rw [h0] at hi; simp at hi, h⟩

theorem tail_run {cc : CC} {m : Nat} {ops : Array Oper} (O : Ordered lit cc m ops) {Q' : Exit → Act → World → Prop} : ∀ (fuel k : Nat) (listed : Array Bool) (a : Act) (w : World), listed.size = ops.size → k + fuel = ops.size → m ≤ k →
    (∀ i, i < ops.size → (listed.getD i true = true ↔ i < k)) → wpList P ops Q' (ops.toList.drop k) a w → wpAny P .any ops Q' fuel listed a w
  | 0, k, listed, a, w, hz, hk, hm, hl, h => by
    refine ⟨List.eq_nil_iff_forall_not_mem.2 fun i hi => ?_, ?_⟩
    · obtain ⟨h1, h2, _⟩ := ready_spec hi
      have := (hl i h1).2 (by omega)
      rw [h2] at this; cases this
    · rw [List.drop_eq_nil_of_le (by simp; omega)] at h
      exact h
  | fuel + 1, k, listed, a, w, hz, hk, hm, hl, h => by
    have hkn : k < ops.size := by omega
    have hd : ops.toList.drop k = ops[k] :: ops.toList.drop (k + 1) := by
      rw [List.drop_eq_getElem_cons (by simpa using hkn)]; simp
    have hok : ops[k]? = some ops[k] := by simp [hkn]
    have rk : k ∈ Region.ready .any ops listed := ready_of hok (by
        have := hl k hkn
        cases hx : listed.getD k true with
        | false => rfl
        | true => have := this.1 hx; omega) fun e he => by
          have h1 := O.lt k _ hok e he
          rw [getD_both (by omega) false true]
          exact (hl e (by omega)).2 h1
    refine wpAny_step rk fun i hi => ?_
    obtain ⟨h1, h2, h3⟩ := ready_spec hi
    have hik : i = k := by
      rcases Nat.lt_trichotomy i k with h4 | h4 | h4
      · have := (hl i h1).2 h4; rw [h2] at this; cases this
      · exact h4
      · have hoi : ops[i]? = some ops[i] := by simp [h1]
        have := h3 _ hoi (i - 1) (O.tail i _ hoi (by omega))
        rw [getD_both (by omega) false true] at this
        have := (hl (i - 1) (by omega)).1 this
        omega
    subst hik
    rw [hd] at h
    have next : ∀ a w, wpList P ops Q' (ops.toList.drop (i + 1)) a w → wpAny P .any ops Q' fuel (listed.setIfInBounds i true) a w := fun a w h =>
      tail_run O fuel (i + 1) _ a w (by simpa using hz) (by omega) (by omega) (fun j hj => by
        rw [getD_put (by omega)]
        by_cases hji : j = i
        · simp [hji]
        · simp only [hji, if_false, hl j hj]; omega) h
    unfold wpOp
    simp only [hok]
    simp only [wpList] at h
    split
    · rename_i hw
      simp only [hw, if_true] at h
      exact h.imp (Oper.wp_mono next) id
    · rename_i hw
      simp only [hw] at h
      exact next _ _ h

/-! ### the head -/
/-- What the frame holds when these are listed. -/
def Tm (ops : Array Oper) (m : Nat) (V : Nat → AV) (T0 : Nat → AV) (L : Nat → Prop) (T : Nat → AV) : Prop :=
  ∀ j, (∀ k o, k < m → L k → ops[k]? = some o → o.dst = some j → T j = V k) ∧ ((∀ k o, k < m → L k → ops[k]? = some o → o.dst ≠ some j) → T j = T0 j)

theorem aput_T (s : AState) (d : Option Nat) (v : AV) (j : Nat) : (s.put d v).T j = if d = some j then v else s.T j := by
  cases d with
  | none => rfl
  | some i =>
    show Cx.put s.T i v j = _
    simp only [Cx.put, Option.some.injEq]
    by_cases h : j = i
    · simp [h]
    · have : ¬ i = j := fun e => h e.symm
      simp [h, this]

theorem Tm.put {cc : CC} {ops : Array Oper} {m : Nat} (O : Ordered lit cc m ops) {V T0 T T' : Nat → AV} {L L' : Nat → Prop} (h : Tm ops m V T0 L T) {i : Nat} {o : Oper} (hi : ops[i]? = some o) (him : i < m) (hL : ∀ k, L' k ↔ k = i ∨ L k)
    (hT : ∀ j, T' j = if o.dst = some j then V i else T j) : Tm ops m V T0 L' T' := by
  intro j
  obtain ⟨h1, h2⟩ := h j
  refine ⟨fun k ok hk hl hok hd => ?_, fun hn => ?_⟩
  · rw [hT]
    by_cases hki : k = i
    · subst hki
      rw [hi] at hok; cases hok
      simp [hd]
    · have := (O.dsts i k o ok j him hk hki hi hok hd).1
      simp only [this, if_false]
      exact h1 k ok hk (((hL k).1 hl).resolve_left hki) hok hd
  · rw [hT]
    have := hn i o him ((hL i).2 (.inl rfl)) hi
    simp only [this, if_false]
    exact h2 fun k ok hk hl => hn k ok hk ((hL k).2 (.inr hl))

section
variable {D : List Nat} {cc : CC} {ops : Array Oper} {m : Nat} (O : Ordered lit cc m ops) {S : Nat → AState} {V : Nat → AV}
  (hS : ∀ k o, k < m → ops[k]? = some o → Stp P D ops (clAt lit cc k o) o (S k) (S (k + 1)) (V k))
  (hR : ∀ k o id, clAt lit cc k o = .r id → D.contains id = true)
include O hS hR

theorem text_N : ∀ k, k ≤ m → (S k).N = (S 0).N
  | 0, _ => rfl
  | k + 1, hk => by
    have hlt : k < ops.size := by have := O.le; omega
    have := (hS k ops[k] (by omega) (by simp [hlt])).eq
    rw [this, put_N]
    exact text_N k (by omega)

theorem text_T : ∀ k, k ≤ m → Tm ops m V (S 0).T (fun i => i < k) (S k).T
  | 0, _ => fun j => ⟨fun k o _ hl => absurd hl (by omega), fun _ => rfl⟩
  | k + 1, hk => by
    have hlt : k < ops.size := by have := O.le; omega
    have hok : ops[k]? = some ops[k] := by simp [hlt]
    have := (hS k ops[k] (by omega) hok).eq
    refine Tm.put O (text_T k (by omega)) hok (by omega) (fun i => by omega) fun j => ?_
    rw [this, aput_T]

theorem text_off {t i : Nat} (hti : t ≤ i) (him : i ≤ m) (hq : ∀ k o, t ≤ k → k < i → ops[k]? = some o → clAt lit cc k o ≠ .e) : offEq D (S i).h (S t).h := by
  induction i with
  | zero => rw [show t = 0 by omega]; exact ⟨rfl, fun _ _ => rfl⟩
  | succ i ih =>
    by_cases he : t = i + 1
    · rw [he]; exact ⟨rfl, fun _ _ => rfl⟩
    · have hlt : i < ops.size := by have := O.le; omega
      have hok : ops[i]? = some ops[i] := by simp [hlt]
      have h1 := ih (by omega) (by omega) fun k o h1 h2 => hq k o h1 (by omega)
      have hs := (hS i ops[i] (by omega) hok).go
      have hc := hq i ops[i] (by omega) (by omega) hok
      have h2 : offEq D (S (i + 1)).h (S i).h := by
        rcases hs with ⟨_, hs⟩ | ⟨_, _, hs⟩
        · have hrD := hR i ops[i]
          revert hc hs hrD
          generalize clAt lit cc i ops[i] = c
          intro hc hs hrD
          cases c with
          | t => rw [hs.1]; exact ⟨rfl, fun _ _ => rfl⟩
          | q => rw [hs.1]; exact ⟨rfl, fun _ _ => rfl⟩
          | w => exact hs.2.1
          | e => exact absurd rfl hc
          | r id => exact ⟨hs.1, fun j hj => hs.2.1 j fun e => by subst e; rw [hrD j rfl] at hj; cases hj⟩
        · rw [hs]; exact ⟨rfl, fun _ _ => rfl⟩
      exact ⟨h2.1.trans h1.1, fun id hid => (h2.2 id hid).trans (h1.2 id hid)⟩

theorem text_one {id : Nat} (hid : D.contains id = true) {t i : Nat} (hti : t ≤ i) (him : i ≤ m) (hq : ∀ k o, t ≤ k → k < i → ops[k]? = some o → clAt lit cc k o ≠ .e ∧ clAt lit cc k o ≠ .w ∧ clAt lit cc k o ≠ .r id) : (S i).h.length = (S t).h.length ∧ (S i).h[id]? = (S t).h[id]? := by
  induction i with
  | zero => rw [show t = 0 by omega]; exact ⟨rfl, rfl⟩
  | succ i ih =>
    by_cases he : t = i + 1
    · rw [he]; exact ⟨rfl, rfl⟩
    · have hlt : i < ops.size := by have := O.le; omega
      have hok : ops[i]? = some ops[i] := by simp [hlt]
      have h1 := ih (by omega) (by omega) fun k o h1 h2 => hq k o h1 (by omega)
      have hs := (hS i ops[i] (by omega) hok).go
      have hc := hq i ops[i] (by omega) (by omega) hok
      have h2 : (S (i + 1)).h.length = (S i).h.length ∧ (S (i + 1)).h[id]? = (S i).h[id]? := by
        rcases hs with ⟨_, hs⟩ | ⟨_, _, hs⟩
        · revert hc hs
          generalize clAt lit cc i ops[i] = c
          intro hc hs
          cases c with
          | t => rw [hs.1]; exact ⟨rfl, rfl⟩
          | q => rw [hs.1]; exact ⟨rfl, rfl⟩
          | w => exact absurd rfl hc.2.1
          | e => exact absurd rfl hc.1
          | r j => exact ⟨hs.1, hs.2.1 id fun e => hc.2.2 (by rw [e])⟩
        · rw [hs]; exact ⟨rfl, rfl⟩
      exact ⟨h2.1.trans h1.1, h2.2.trans h1.2⟩

omit hS hR in
theorem reach_listed {listed : Array Bool} (hcl : ∀ i o, ops[i]? = some o → listed.getD i true = true → ∀ e ∈ edgesOf o, listed.getD e true = true) :
    ∀ (i j : Nat) (o : Oper), ops[i]? = some o → O.reach i j → (∀ e ∈ edgesOf o, listed.getD e true = true) → listed.getD j true = true := by
  intro i
  induction i using Nat.strongRecOn with
  | _ i ih =>
    intro j o hi hr he
    obtain ⟨e, hm, h⟩ := O.step i o j hi hr
    rcases h with rfl | h
    · exact he e hm
    · have hei := O.lt i o hi e hm
      have hlt : e < ops.size := by
        have := (Array.getElem?_eq_some_iff.1 hi).1; omega
      have hoe : ops[e]? = some ops[e] := by simp [hlt]
      exact ih e hei j _ hoe h (hcl e _ hoe (he e hm))

abbrev upI (lit : TypeId → Bool) (cc : CC) (id k : Nat) (o : Oper) : Prop := clAt lit cc k o = .e ∨ clAt lit cc k o = .w ∨ clAt lit cc k o = .r id
theorem heap_end {h : AHeap} {t i : Nat} {u : Nat → Nat} (htm : t ≤ m) (hum : ∀ id, u id ≤ m) (him : i ≤ m) (ho : offEq D h (S t).h) (hn : ∀ id, D.contains id = true → h.length = (S (u id)).h.length ∧ h[id]? = (S (u id)).h[id]?)
    (h1 : ∀ k o, k < m → ops[k]? = some o → clAt lit cc k o = .e → (k < i ↔ k < t)) (h2 : ∀ id, D.contains id = true → ∀ k o, k < m → ops[k]? = some o → upI lit cc id k o → (k < i ↔ k < u id)) : h = (S i).h := by
  have a : offEq D h (S i).h := by
    rcases Nat.le_total t i with hl | hl
    · have := text_off O hS hR hl him fun k o h4 h5 hok he => by have := h1 k o (by omega) hok he; omega
      exact ⟨ho.1.trans this.1.symm, fun id hid => (ho.2 id hid).trans (this.2 id hid).symm⟩
    · have := text_off O hS hR hl htm fun k o h4 h5 hok he => by have := h1 k o (by omega) hok he; omega
      exact ⟨ho.1.trans this.1, fun id hid => (ho.2 id hid).trans (this.2 id hid)⟩
  have b : ∀ id, D.contains id = true → h[id]? = (S i).h[id]? := by
    intro id hid
    have hu := hum id
    rcases Nat.le_total (u id) i with hl | hl
    · have := text_one O hS hR hid hl him fun k o h4 h5 hok => ⟨fun he => by have := h2 id hid k o (by omega) hok (.inl he); omega, fun he => by have := h2 id hid k o (by omega) hok (.inr (.inl he)); omega, fun he => by have := h2 id hid k o (by omega) hok (.inr (.inr he)); omega⟩
      exact (hn id hid).2.trans this.2.symm
    · have := text_one O hS hR hid hl hu fun k o h4 h5 hok => ⟨fun he => by have := h2 id hid k o (by omega) hok (.inl he); omega, fun he => by have := h2 id hid k o (by omega) hok (.inr (.inl he)); omega, fun he => by have := h2 id hid k o (by omega) hok (.inr (.inr he)); omega⟩
      exact (hn id hid).2.trans this.2
  apply List.ext_getElem?
  intro id
  cases hd : D.contains id with
  | false => exact a.2 id hd
  | true => exact b id hd

theorem head_end {listed : Array Bool} {s : AState} {t : Nat} {u : Nat → Nat} (hall : ∀ k, k < m → listed.getD k true = true) (hN : s.N = (S 0).N) (hT : Tm ops m V (S 0).T (fun i => listed.getD i true = true) s.T)
    (htm : t ≤ m) (hum : ∀ id, u id ≤ m) (hoff : offEq D s.h (S t).h) (hon : ∀ id, D.contains id = true → s.h.length = (S (u id)).h.length ∧ s.h[id]? = (S (u id)).h[id]?) (hE : ∀ e o, e < m → ops[e]? = some o → clAt lit cc e o = .e → (listed.getD e true = true ↔ e < t))
    (hW : ∀ id, D.contains id = true → ∀ e o, e < m → ops[e]? = some o → upI lit cc id e o → (listed.getD e true = true ↔ e < u id)) : s = S m := by
  have h1 : s.T = (S m).T := by
    funext j
    have hm' := text_T O hS hR m (Nat.le_refl _) j
    by_cases hx : ∃ k o, k < m ∧ ops[k]? = some o ∧ o.dst = some j
    · obtain ⟨k, o, hk, ho, hd⟩ := hx
      rw [(hT j).1 k o hk (hall k hk) ho hd, hm'.1 k o hk hk ho hd]
    · have hx' : ∀ k o, k < m → ops[k]? = some o → o.dst ≠ some j := fun k o h1 h2 h3 => hx ⟨k, o, h1, h2, h3⟩
      rw [(hT j).2 fun k o h1 _ h2 => hx' k o h1 h2, hm'.2 fun k o h1 _ h2 => hx' k o h1 h2]
  have h2 : s.h = (S m).h := heap_end O hS hR htm hum (Nat.le_refl _) hoff hon (fun k o hk ho he => ⟨fun _ => (hE k o hk ho he).1 (hall k hk), fun _ => hk⟩) (fun id hid k o hk ho he => ⟨fun _ => (hW id hid k o hk ho he).1 (hall k hk), fun _ => hk⟩)
  have h3 : s.N = (S m).N := by rw [hN, text_N O hS hR m (Nat.le_refl _)]
  cases s; cases hsm : S m; rw [hsm] at h1 h2 h3; simp_all

theorem head_run {Q' : Exit → Act → World → Prop} {n : Nat} {Z0 : Nat → Prop} {κ0 : Nat → Slot} {w0 : World}
    (hq : ∀ Z κ a w, SRel Z κ (S m) a w → Ext Z0 κ0 w0 Z κ w → StepLt n κ0 κ → n ≤ (S m).h.length → wpList P ops Q' (ops.toList.drop m) a w) : ∀ (fuel : Nat) (listed : Array Bool) (a : Act) (w : World) (Z : Nat → Prop) (κ : Nat → Slot) (s : AState) (t : Nat) (u : Nat → Nat),
    listed.size = ops.size → listed.toList.count false = fuel → (∀ i, m ≤ i → i < ops.size → listed.getD i true = false) →
    (∀ i o, ops[i]? = some o → listed.getD i true = true → ∀ e ∈ edgesOf o, listed.getD e true = true) →
    SRel Z κ s a w → Ext Z0 κ0 w0 Z κ w → StepLt n κ0 κ → n ≤ s.h.length → s.N = (S 0).N → Tm ops m V (S 0).T (fun i => listed.getD i true = true) s.T →
    t ≤ m → (∀ id, u id ≤ m) → offEq D s.h (S t).h → (∀ id, D.contains id = true → s.h.length = (S (u id)).h.length ∧ s.h[id]? = (S (u id)).h[id]?) → (∀ e o, e < m → ops[e]? = some o → clAt lit cc e o = .e → (listed.getD e true = true ↔ e < t)) →
    (∀ id, D.contains id = true → ∀ e o, e < m → ops[e]? = some o → upI lit cc id e o → (listed.getD e true = true ↔ e < u id)) → wpAny P .any ops Q' fuel listed a w := by
  intro fuel
  induction fuel with
  | zero =>
    intro listed a w Z κ s t u hz hc hm hcl r ex st hn hN hT htm hum hoff hon hE hW
    have alls : ∀ i, i < ops.size → listed.getD i true = true := fun i hi => by
      rw [List.count_eq_zero] at hc
      cases hx : listed.getD i true with
      | true => rfl
      | false =>
        exact absurd (by
          have hi' : i < listed.size := by omega
          have : listed[i] = false := by simpa [Array.getD, hi'] using hx
          rw [← this]; simp) hc
    refine tail_run O 0 ops.size listed a w hz (by omega) O.le (fun i hi => ⟨fun _ => hi, fun _ => alls i hi⟩) ?_
    have hmn : m = ops.size := by
      rcases Nat.lt_or_ge m ops.size with h | h
      · have h1 := hm m (Nat.le_refl _) h
        rw [alls m h] at h1; cases h1
      · have := O.le; omega
    have es := head_end O hS hR (fun k hk => alls k (by omega)) hN hT htm hum hoff hon hE hW
    rw [← hmn]
    exact hq Z κ a w (es ▸ r) ex st (es ▸ hn)
  | succ fuel ih =>
    intro listed a w Z κ s t u hz hc hm hcl r ex st hn hN hT htm hum hoff hon hE hW
    by_cases hall : ∀ k, k < m → listed.getD k true = true
    · -- the head is through
      have hlen : fuel + 1 = ops.size - m := by
        have h1 : listed.toList = List.replicate m true ++ List.replicate (ops.size - m) false := by
          apply List.ext_getElem?
          intro i
          rcases Nat.lt_or_ge i ops.size with hi | hi
          · have hi' : i < listed.size := by omega
            rcases Nat.lt_or_ge i m with h | h
            · have := hall i h
              have h2 : listed[i] = true := by simpa [Array.getD, hi'] using this
              rw [List.getElem?_append_left (by simpa using h)]
              simp [hi', h2, h]
            · have := hm i h hi
              have h2 : listed[i] = false := by simpa [Array.getD, hi'] using this
              have h5 : i - m < ops.size - m := by omega
              rw [List.getElem?_append_right (by simpa using h)]
              simp [hi', h2, h5]
          · have := O.le
            rw [List.getElem?_eq_none (by simp; omega), List.getElem?_eq_none (by simp; omega)]
        rw [h1] at hc
        simpa [List.count_append, List.count_replicate] using hc.symm
      have es := head_end O hS hR hall hN hT htm hum hoff hon hE hW
      exact tail_run O (fuel + 1) m listed a w hz (by have := O.le; omega) (Nat.le_refl _) (fun i hi => by
        rcases Nat.lt_or_ge i m with h | h
        · simp [hall i h, h]
        · have := hm i h hi
          simp [this]; omega) (hq Z κ a w (es ▸ r) ex st (es ▸ hn))
    · -- some of the head are left
      have hex : ∃ k, k < m ∧ listed.getD k true = false := by
        false_or_by_contra
        rename_i hne
        exact hall fun k hk => by
          cases hx : listed.getD k true with
          | true => rfl
          | false => exact absurd ⟨k, hk, hx⟩ hne
      have hmin : ∃ k, k < m ∧ listed.getD k true = false ∧ ∀ j, j < k → listed.getD j true = true := by
        have go : ∀ k, k < m → listed.getD k true = false → ∃ k, k < m ∧ listed.getD k true = false ∧ ∀ j, j < k → listed.getD j true = true := by
          intro k
          induction k using Nat.strongRecOn with
          | _ k ihk =>
            intro h1 h2
            by_cases hj : ∃ j, j < k ∧ listed.getD j true = false
            · obtain ⟨j, h3, h4⟩ := hj
              exact ihk j h3 (by omega) h4
            · exact ⟨k, h1, h2, fun j h3 => by
                cases hx : listed.getD j true with
                | true => rfl
                | false => exact absurd ⟨j, h3, hx⟩ hj⟩
        obtain ⟨k, h1, h2⟩ := hex
        exact go k h1 h2
      obtain ⟨k0, hk0, hl0, hlow⟩ := hmin
      have hk0n : k0 < ops.size := by have := O.le; omega
      have rk0 : k0 ∈ Region.ready .any ops listed := ready_of (o := ops[k0]) (by simp [hk0n]) hl0 fun e he => by
        have h1 := O.lt k0 ops[k0] (by simp [hk0n]) e he
        rw [getD_both (by omega) false true]
        exact hlow e h1
      refine wpAny_step rk0 fun i hi => ?_
      obtain ⟨h1, h2, h3⟩ := ready_spec hi
      have hoi : ops[i]? = some ops[i] := by simp [h1]
      have h3' : ∀ e ∈ edgesOf ops[i], listed.getD e true = true := fun e he => by
        have := O.lt i _ hoi e he
        rw [getD_both (by omega) true false]
        exact h3 _ hoi e he
      have him : i < m := by
        rcases Nat.lt_trichotomy i m with h | h | h
        · exact h
        · subst h
          have := reach_listed O hcl i k0 _ hoi (O.cut _ hoi k0 hk0) h3'
          rw [hl0] at this; cases this
        · have := h3' _ (O.tail i _ hoi h)
          rw [hm (i - 1) (by omega) (by omega)] at this; cases this
      have reach_i : ∀ k, O.reach i k → listed.getD k true = true := fun k hr => reach_listed O hcl i k _ hoi hr h3'
      have not_reach : ∀ k, k < m → listed.getD k true = true → ¬ O.reach k i := fun k hk hl hr => by
        have hkn : k < ops.size := by have := O.le; omega
        have := reach_listed O hcl k i ops[k] (by simp [hkn]) hr (hcl k _ (by simp [hkn]) hl)
        rw [h2] at this; cases this
      -- who may not change places with i stands where the text says
      have side : ∀ k o, k < m → ops[k]? = some o → k ≠ i → (clAt lit cc k o).conf (clAt lit cc i ops[i]) = true → (clAt lit cc i ops[i]).conf (clAt lit cc k o) = true → (listed.getD k true = true ↔ k < i) := fun k o hk ho hne c1 c2 => by
        constructor
        · intro hl
          rcases Nat.lt_or_ge k i with h | h
          · exact h
          · exact absurd (O.cls k i o _ hk him (by omega) ho hoi c2) (not_reach k hk hl)
        · intro hlt
          exact reach_i k (O.cls i k _ o him hk hlt hoi ho c1)
      have hstp := hS i _ him hoi
      have text := text_T O hS hR i (by omega)
      refine run_step (S := S i) (S' := S (i + 1)) r (by rw [hN, text_N O hS hR i (by omega)]) hstp hoi ?_ ?_ ?_
      · intro x hx
        have hx1 := hT x
        have hx2 := text x
        have other : ∀ k o, k < m → k ≠ i → ops[k]? = some o → o.dst = some x → listed.getD k true = true ∧ k < i := fun k o hk hne ho hd => by
          have hr := (O.dsts i k _ o x him hk hne hoi ho hd).2 hx
          refine ⟨reach_i k hr, ?_⟩
          -- reach goes down
          have down : ∀ i j o, ops[i]? = some o → O.reach i j → j < i := by
            intro i
            induction i using Nat.strongRecOn with
            | _ i ih =>
              intro j o hi hr
              obtain ⟨e, hm, h⟩ := O.step i o j hi hr
              have h1 := O.lt i o hi e hm
              rcases h with rfl | h
              · exact h1
              · have hlt : e < ops.size := by have := (Array.getElem?_eq_some_iff.1 hi).1; omega
                have := ih e h1 j ops[e] (by simp [hlt]) h
                omega
          exact down i k _ hoi hr
        by_cases hw : ∃ k o, k < m ∧ k ≠ i ∧ ops[k]? = some o ∧ o.dst = some x
        · obtain ⟨k, o, hk, hne, ho, hd⟩ := hw
          obtain ⟨hl, hlt⟩ := other k o hk hne ho hd
          rw [hx1.1 k o hk hl ho hd, hx2.1 k o hk hlt ho hd]
        · have hno : ∀ k o, k < m → k ≠ i → ops[k]? = some o → o.dst ≠ some x := fun k o h1 h2 h3 h4 => hw ⟨k, o, h1, h2, h3, h4⟩
          rw [hx1.2 fun k o hk hl ho => hno k o hk (fun e => by subst e; have hl : listed.getD k true = true := hl; rw [h2] at hl; cases hl) ho, hx2.2 fun k o hk hl ho => hno k o hk (by have hl : k < i := hl; omega) ho]
      · -- what it needs of the heap
        have noE : (∀ k o, k < m → ops[k]? = some o → clAt lit cc k o = .e → (clAt lit cc i ops[i]) ≠ .t → (k < i ↔ k < t)) := fun k o hk ho he hc => by
          by_cases hki : k = i
          · subst hki; rw [hoi] at ho; cases ho
            have := hE k _ hk hoi he
            rw [h2] at this
            have h5 : ¬ k < t := fun h => by have := this.2 h; cases this
            omega
          · rw [← hE k o hk ho he, side k o hk ho hki (by rw [he]; revert hc; cases clAt lit cc i ops[i] <;> simp [Cl.conf]) (by rw [he]; revert hc; cases clAt lit cc i ops[i] <;> simp [Cl.conf])]
        have cfl : ∀ id k o, upI lit cc id k o → upI lit cc id i ops[i] → (clAt lit cc k o).conf (clAt lit cc i ops[i]) = true ∧ (clAt lit cc i ops[i]).conf (clAt lit cc k o) = true := fun id k o h1 h2 => by
          rcases h1 with h1 | h1 | h1 <;> rcases h2 with h2 | h2 | h2 <;> rw [h1, h2] <;> simp [Cl.conf]
        have noW : ∀ id, D.contains id = true → (∀ k o, k < m → ops[k]? = some o → upI lit cc id k o → upI lit cc id i ops[i] → (k < i ↔ k < u id)) := fun id hid k o hk ho he hc => by
          by_cases hki : k = i
          · subst hki; rw [hoi] at ho; cases ho
            have := hW id hid k _ hk hoi he
            rw [h2] at this
            have h5 : ¬ k < u id := fun h => by have := this.2 h; cases this
            omega
          · rw [← hW id hid k o hk ho he, side k o hk ho hki (cfl id k o he hc).1 (cfl id k o he hc).2]
        have offi : clAt lit cc i ops[i] ≠ .t → offEq D s.h (S i).h := fun hc => by
          rcases Nat.le_total t i with hl | hl
          · have := text_off O hS hR hl (by omega) fun k o h4 h5 hok he => by have := noE k o (by omega) hok he hc; omega
            exact ⟨hoff.1.trans this.1.symm, fun id hid => (hoff.2 id hid).trans (this.2 id hid).symm⟩
          · have := text_off O hS hR hl htm fun k o h4 h5 hok he => by have := noE k o (by omega) hok he hc; omega
            exact ⟨hoff.1.trans this.1, fun id hid => (hoff.2 id hid).trans (this.2 id hid)⟩
        have oni : ∀ id, D.contains id = true → upI lit cc id i ops[i] → s.h.length = (S i).h.length ∧ s.h[id]? = (S i).h[id]? := fun id hid hc => by
          have hu := hum id
          rcases Nat.le_total (u id) i with hl | hl
          · have := text_one O hS hR hid hl (by omega) fun k o h4 h5 hok => ⟨fun he => by have := noW id hid k o (by omega) hok (.inl he) hc; omega, fun he => by have := noW id hid k o (by omega) hok (.inr (.inl he)) hc; omega, fun he => by have := noW id hid k o (by omega) hok (.inr (.inr he)) hc; omega⟩
            exact ⟨(hon id hid).1.trans this.1.symm, (hon id hid).2.trans this.2.symm⟩
          · have := text_one O hS hR hid hl hu fun k o h4 h5 hok => ⟨fun he => by have := noW id hid k o (by omega) hok (.inl he) hc; omega, fun he => by have := noW id hid k o (by omega) hok (.inr (.inl he)) hc; omega, fun he => by have := noW id hid k o (by omega) hok (.inr (.inr he)) hc; omega⟩
            exact ⟨(hon id hid).1.trans this.1, (hon id hid).2.trans this.2⟩
        have oni' : ∀ id, D.contains id = true → (clAt lit cc i ops[i] = .e ∨ clAt lit cc i ops[i] = .w ∨ clAt lit cc i ops[i] = .r id) → s.h.length = (S i).h.length ∧ s.h[id]? = (S i).h[id]? := oni
        have hrD := hR i ops[i]
        revert offi oni' hrD
        generalize clAt lit cc i ops[i] = c
        intro offi oni' hrD
        cases c with
        | t => trivial
        | q => exact offi (by simp)
        | w => exact ⟨(offi (by simp)).1, fun id hid => (oni' id hid (by simp)).2⟩
        | e =>
          have a := offi (by simp)
          show s.h = (S i).h
          apply List.ext_getElem?
          intro id
          cases hd : D.contains id with
          | false => exact a.2 id hd
          | true => exact (oni' id hd (by simp)).2
        | r id => exact oni' id (hrD id rfl) (by simp)
      · intro Z' κ' a' w' r' ex' sa
        have stn := sa.lt r.rel hn
        have hlS : clAt lit cc i ops[i] ≠ .t → clAt lit cc i ops[i] ≠ .q → clAt lit cc i ops[i] ≠ .e → (S (i + 1)).h.length = s.h.length := fun c1 c2 c3 => by
          have e1 : (S (i + 1)).h.length = (S i).h.length := by
            rcases hstp.go with ⟨_, hok⟩ | ⟨_, _, he⟩
            · revert hok c1 c2 c3
              generalize clAt lit cc i ops[i] = c
              intro c1 c2 c3 hok
              cases c with
              | t => exact absurd rfl c1
              | q => exact absurd rfl c2
              | w => exact hok.1
              | e => exact absurd rfl c3
              | r id => exact hok.1
            · rw [he]
          -- lengths stand still where nothing is laid
          have noE : (∀ k o, k < m → ops[k]? = some o → clAt lit cc k o = .e → (k < i ↔ k < t)) := fun k o hk ho he => by
            by_cases hki : k = i
            · subst hki; rw [hoi] at ho; cases ho; exact absurd he c3
            · rw [← hE k o hk ho he, side k o hk ho hki (by rw [he]; revert c1; cases clAt lit cc i ops[i] <;> simp [Cl.conf]) (by rw [he]; revert c1; cases clAt lit cc i ops[i] <;> simp [Cl.conf])]
          rw [e1]
          rcases Nat.le_total t i with hl | hl
          · have := text_off O hS hR hl (by omega) fun k o h4 h5 hok he => by have := noE k o (by omega) hok he; omega
            rw [this.1, hoff.1]
          · have := text_off O hS hR hl htm fun k o h4 h5 hok he => by have := noE k o (by omega) hok he; omega
            rw [hoff.1, this.1]
        refine ih (listed.setIfInBounds i true) a' w' Z' κ' _ (if clAt lit cc i ops[i] = .e then i + 1 else t) (fun id => if upI lit cc id i ops[i] then i + 1 else u id) (by simpa using hz) ?_ ?_ ?_ r' (ex.trans ex') (st.trans stn) ?_ ?_ ?_ ?_ ?_ ?_ ?_ ?_ ?_
        · have hi' : i < listed.toList.length := by simp; omega
          have hf : listed.toList[i] = false := by
            have : i < listed.size := by omega
            simpa [Array.getD, this] using h2
          rw [Array.toList_setIfInBounds, List.count_set hi', hf, hc]
          simp
        · intro j hj1 hj2
          rw [getD_put (by omega), if_neg (by omega)]
          exact hm j hj1 hj2
        · intro j o ho hl e he
          rw [getD_put (by omega)] at hl ⊢
          by_cases hei : e = i
          · simp [hei]
          · simp only [hei, if_false]
            by_cases hji : j = i
            · subst hji; rw [hoi] at ho; cases ho; exact h3' e he
            · simp only [hji, if_false] at hl; exact hcl j o ho hl e he
        · exact len_le r.rel r'.rel hn stn
        · rw [put_N]; exact hN
        · refine Tm.put O hT hoi him (fun k => ?_) fun j => aput_T _ _ _ _
          rw [getD_put (by omega)]
          by_cases hk : k = i <;> simp [hk]
        · split
          · omega
          · exact htm
        · intro id
          show (if upI lit cc id i ops[i] then i + 1 else u id) ≤ m
          split
          · omega
          · exact hum id
        · rw [put_h]
          show offEq D (newH D s.h (S (i + 1)).h _) _
          have hrD := hR i ops[i]
          revert hlS hrD
          generalize clAt lit cc i ops[i] = c
          intro hlS hrD
          cases c with
          | t => simpa [newH] using hoff
          | q => simpa [newH] using hoff
          | r id =>
            simp only [newH, reduceCtorEq, if_false]
            refine ⟨by rw [List.length_set]; exact hoff.1, fun j hj => ?_⟩
            rw [List.getElem?_set_ne (fun e => by subst e; rw [hrD _ rfl] at hj; cases hj)]
            exact hoff.2 j hj
          | w =>
            have hl := hlS (by simp) (by simp) (by simp)
            simp only [newH, reduceCtorEq, if_false]
            refine ⟨by rw [mrgF_len D _ _ 0 hl]; exact hoff.1, fun id hid => ?_⟩
            rw [mrg_get hl, hid]
            simpa using hoff.2 id hid
          | e => simp only [newH, if_true]; exact ⟨rfl, fun _ _ => rfl⟩
        · intro id hid
          rw [put_h]
          show (newH D s.h (S (i + 1)).h _).length = (S (if upI lit cc id i ops[i] then i + 1 else u id)).h.length ∧ (newH D s.h (S (i + 1)).h _)[id]? = (S (if upI lit cc id i ops[i] then i + 1 else u id)).h[id]?
          have ho := hon id hid
          unfold upI
          revert hlS
          generalize clAt lit cc i ops[i] = c
          intro hlS
          cases c with
          | t => simpa [newH] using ho
          | q => simpa [newH] using ho
          | w =>
            have hl := hlS (by simp) (by simp) (by simp)
            simp only [newH, reduceCtorEq, true_or, or_true, if_true]
            refine ⟨by rw [mrgF_len D _ _ 0 hl]; exact hl.symm, ?_⟩
            rw [mrg_get hl, hid]
            simp
          | e => simp [newH]
          | r j =>
            have hl := hlS (by simp) (by simp) (by simp)
            simp only [newH, reduceCtorEq, false_or, Cl.r.injEq]
            by_cases hj : j = id
            · subst hj
              rw [if_pos rfl, List.length_set]
              refine ⟨hl.symm, ?_⟩
              rcases Nat.lt_or_ge j s.h.length with hlt | hge
              · rw [List.getElem?_set_self hlt, List.getElem?_eq_getElem (by omega)]; simp
              · rw [List.getElem?_eq_none (by simpa using hge), List.getElem?_eq_none (by omega)]
            · rw [if_neg hj, List.length_set, List.getElem?_set_ne hj]
              exact ho
        · intro k o hk ho hke
          rw [getD_put (by omega)]
          by_cases hki : k = i
          · subst hki; rw [hoi] at ho; cases ho; simp [hke]
          · simp only [hki, if_false]
            by_cases he : clAt lit cc i ops[i] = .e
            · simp only [he, if_true]
              rw [side k o hk ho hki (by rw [hke, he]; rfl) (by rw [hke, he]; rfl)]
              omega
            · simp only [he, if_false]; exact hE k o hk ho hke
        · intro id hid k o hk ho hke
          rw [getD_put (by omega)]
          show _ ↔ k < (if upI lit cc id i ops[i] then i + 1 else u id)
          by_cases hki : k = i
          · subst hki; rw [hoi] at ho; cases ho; simp [hke]
          · simp only [hki, if_false]
            by_cases he : upI lit cc id i ops[i]
            · rw [if_pos he]
              have cf : (clAt lit cc k o).conf (clAt lit cc i ops[i]) = true ∧ (clAt lit cc i ops[i]).conf (clAt lit cc k o) = true := by
                rcases hke with h1 | h1 | h1 <;> rcases he with h2 | h2 | h2 <;> rw [h1, h2] <;> simp [Cl.conf]
              rw [side k o hk ho hki cf.1 cf.2]
              omega
            · rw [if_neg he]; exact hW id hid k o hk ho hke
end

theorem SRel.drawn {Z : Nat → Prop} {κ : Nat → Slot} {s : AState} {a : Act} {w : World} (r : SRel Z κ s a w) (d : Nat) : SRel Z κ s a { w with drawn := d } ∧ Ext Z κ w Z κ { w with drawn := d } := by
  have e : Ext Z κ w Z κ { w with drawn := d } := ⟨rfl, rfl, rfl, Nat.le_refl _, fun _ _ _ => rfl, fun _ h => h, fun _ h => .inl h, fun _ h => .inl h⟩
  exact ⟨⟨⟨r.rel.zlt, r.rel.za, r.rel.hole, fun id x hx => (r.rel.blk id x hx).ext r.rel e (.refl _) rfl fun _ _ _ _ => rfl, r.rel.inj⟩, r.size, fun j => (r.tmps j).ext r.rel e (.refl _), r.defers⟩, e⟩

theorem look_r {D : List Nat} {cc : CC} {i id : Nat} {c : Cl} (hcc : (cc.all fun p => match p.2 with | .r id => D.contains id | _ => true) = true) (hc : c ≠ .r id) (h : look cc i c = .r id) : D.contains id = true := by
  unfold look at h
  cases hf : cc.find? fun p => p.1 == i with
  | none => rw [hf] at h; exact absurd h hc
  | some p =>
    rw [hf] at h
    simp only [Option.map_some, Option.getD_some] at h
    have := List.all_eq_true.1 hcc p (List.mem_of_find?_eq_some hf)
    rw [h] at this
    exact this
theorem clOf_r {lit : TypeId → Bool} {o : Oper} {id : Nat} : clOf lit o ≠ .r id := by
  unfold clOf
  split <;> first | (simp; done) | (intro h; split at h <;> cases h)
theorem clAt_r {lit : TypeId → Bool} {D : List Nat} {cc : CC} {i : Nat} {o : Oper} {id : Nat} (hcc : (cc.all fun p => match p.2 with | .r id => D.contains id | _ => true) = true) (h : clAt lit cc i o = .r id) : D.contains id = true := by
  unfold clAt at h
  split at h
  · exact look_r hcc (by simp) h
  · split at h
    · exact look_r hcc (by simp) h
    · exact look_r hcc (by simp) h
    · exact look_r hcc (by simp) h
    · exact look_r hcc (by simp) h
    · exact look_r hcc (by simp) h
    · exact absurd h clOf_r

/-- A REGION THAT DRAWS ITS ORDER: its first m operations in the order of the text, the others behind them. -/
theorem AW.draw {n : Nat} {id : Nat} {ops : Array Oper} {Q : Exit → AState → Prop} {s : AState} (hm : P.follows .mixedOrders = true) (lit : TypeId → Bool) (D : List Nat) (cc : CC) (m : Nat) (hok : okDraw lit cc m ops = true)
    (h : AD P lit D cc ops (AOps P lit ops (Q .normal) (ops.toList.drop m)) 0 (ops.toList.take m) s) (hcc : (cc.all fun p => match p.2 with | .r id => D.contains id | _ => true) = true := by rfl) : AW P n (.region id ops true) Q s := by
  have hR : ∀ k o id, clAt lit cc k o = .r id → D.contains id = true := fun k o id hc => clAt_r hcc hc
  obtain ⟨O⟩ := ordered hok
  obtain ⟨S, V, h0, hQ, hS⟩ := AD_data _ _ _ h
  have hlen : (ops.toList.take m).length = m := by have := O.le; simp; omega
  rw [hlen, Nat.zero_add] at hQ
  intro Z κ a w r hn
  obtain ⟨r1, e1⟩ := r.drawn (w.drawn + 1)
  refine wp_region_any hm ?_
  have hS' : ∀ k o, k < m → ops[k]? = some o → Stp P D ops (clAt lit cc k o) o (S k) (S (k + 1)) (V k) := fun k o hk ho => by
    have := hS k o (by rw [List.getElem?_take_of_lt hk]; simpa using ho)
    simpa using this
  refine head_run O hS' hR (n := n) (Z0 := Z) (κ0 := κ) (w0 := w) (fun Z' κ' a' w' r' ex st hn' => ?_) _ _ a _ Z κ s 0 (fun _ => 0) (by simp) (by simp) ?_ ?_ r1 e1 (.refl _ _) hn (by rw [h0]) ?_ (Nat.zero_le _) (fun _ => Nat.zero_le _) (by rw [h0]; exact ⟨rfl, fun _ _ => rfl⟩) (fun id _ => by rw [h0]; exact ⟨rfl, rfl⟩) ?_ ?_
  · exact AOps_ok (n := n) _ (S m) Z' κ' a' w' hQ r' hn' fun a2 w2 ha => ha.trans ex st
  · intro i _ hi
    simp [Array.getD, hi]
  · intro i o ho hl
    have hi : i < ops.size := (Array.getElem?_eq_some_iff.1 ho).1
    simp [Array.getD, hi] at hl
  · intro j
    refine ⟨fun k o hk hl ho => ?_, fun _ => by rw [h0]⟩
    have hi : k < ops.size := (Array.getElem?_eq_some_iff.1 ho).1
    simp [Array.getD, hi] at hl
  · intro k o hk ho _
    have hi : k < ops.size := (Array.getElem?_eq_some_iff.1 ho).1
    simp [Array.getD, hi]
  · intro _ _ k o hk ho _
    have hi : k < ops.size := (Array.getElem?_eq_some_iff.1 ho).1
    simp [Array.getD, hi]

/-! ### the rules, as equations -/
section
variable (ops : Array Oper) (D : List Nat) (cc : CC) (Q K : AState → Prop) (s : AState) (i : Nat) (dst : Option Tmp) (op : Op) (ty : TypeId) (pos : String) (after : Array Edge) (rest : List Oper) (j : Nat) (want : Bool) (o : Oper) (t : Nat)
@[simp] theorem AD_nil : AD P lit D cc ops Q i [] s = Q s := rfl
@[simp] theorem AD_none : AD P lit D cc ops Q i ({ dst := dst, op := op, type := ty, pos := pos, after := after, guard := none } :: rest) s = ADop P lit D cc i { dst := dst, op := op, type := ty, pos := pos, after := after, guard := none } s (AD P lit D cc ops Q (i + 1) rest) := rfl
@[simp] theorem AD_some : AD P lit D cc ops Q i ({ dst := dst, op := op, type := ty, pos := pos, after := after, guard := some (j, want) } :: rest) s =
      (match guardTmp ops j with
      | none => False
      | some t => gdD P lit D cc i { dst := dst, op := op, type := ty, pos := pos, after := after, guard := some (j, want) } s t want (AD P lit D cc ops Q (i + 1) rest) (s.T t)) := rfl
@[simp] theorem gdD_tt : gdD P lit D cc i o s t true K (.val (.bool true)) = ADop P lit D cc i o { s with T := put s.T t (.val (.bool true)) } K := by simp [gdD]
@[simp] theorem gdD_ff : gdD P lit D cc i o s t false K (.val (.bool false)) = ADop P lit D cc i o { s with T := put s.T t (.val (.bool false)) } K := by simp [gdD]
@[simp] theorem gdD_tf : gdD P lit D cc i o s t true K (.val (.bool false)) = (dstOk s.N o.dst ∧ K (({ s with T := put s.T t (.val (.bool false)) } : AState).put o.dst (.tup []))) := by simp [gdD]
@[simp] theorem gdD_ft : gdD P lit D cc i o s t false K (.val (.bool true)) = (dstOk s.N o.dst ∧ K (({ s with T := put s.T t (.val (.bool true)) } : AState).put o.dst (.tup []))) := by simp [gdD]
@[simp] theorem gdD_no (want : Bool) : gdD P lit D cc i o s t want K (.tup []) = (dstOk s.N o.dst ∧ K (s.put o.dst (.tup []))) := rfl
theorem gdD_split {want b : Bool} (h1 : b = want → ADop P lit D cc i o { s with T := put s.T t (.val (.bool want)) } K) (h2 : b = !want → dstOk s.N o.dst ∧ K (({ s with T := put s.T t (.val (.bool !want)) } : AState).put o.dst (.tup []))) :
    gdD P lit D cc i o s t want K (.val (.bool b)) := ⟨h1, h2⟩
@[simp] theorem ADop_call (f : Operand) (xs : Array Operand) (ts : Array TypeId) (g : Option (Nat × Bool)) :
    ADop P lit D cc i { dst := dst, op := .call { callee := .value f, args := xs, argTypes := ts }, type := ty, pos := pos, after := after, guard := g } s K =
      ADcall P D (clAt lit cc i { dst := dst, op := .call { callee := .value f, args := xs, argTypes := ts }, type := ty, pos := pos, after := after, guard := g }) (s.ev f) (xs.toList.map s.ev) s.h (thenOp K s dst) := rfl
end
end Go.Cx

set_option linter.unusedVariables false
set_option linter.unusedSimpArgs false
namespace Go.Cx
variable {P : Program} {h : AHeap} {n f : Nat}

theorem frz_all {cs : List AV} (hc : cs.all neat = true) : cs.mapM (frz h n (f + 1)) = some cs := by
  induction cs with
  | nil => rfl
  | cons a cs ih =>
    simp only [List.all_cons, Bool.and_eq_true] at hc
    simp [List.mapM_cons, frz_neat _ _ _ hc.1, ih hc.2]
/-- The same, one by one. -/
def frzs (h : AHeap) (n f : Nat) (cs : List AV) : Option (List AV) := cs.mapM (frz h n f)
@[simp] theorem frzs_nil : frzs h n f [] = some [] := rfl
@[simp] theorem frzs_cons (a : AV) (cs : List AV) : frzs h n f (a :: cs) = (frz h n f a).bind fun a => (frzs h n f cs).map fun cs => a :: cs := by
  simp only [frzs, List.mapM_cons]
  cases frz h n f a with
  | none => rfl
  | some x => cases List.mapM (frz h n f) cs <;> rfl
theorem frzs_neat {cs : List AV} (hc : cs.all neat = true) : frzs h n (f + 1) cs = some cs := frz_all hc
@[simp] theorem frz_val (v : Value) : frz h n (f + 1) (.val v) = some (.val v) := frz_neat _ _ _ (by simp)
@[simp] theorem frz_any : frz h n (f + 1) .any = some .any := frz_neat _ _ _ (by simp)
@[simp] theorem frz_agg (cs : List AV) : frz h n (f + 2) (.agg cs) = (frzs h n (f + 1) cs).map .agg := by
  rw [frz]
  split
  · rename_i hn
    rw [neat_agg] at hn
    rw [frzs_neat hn]; rfl
  · rfl
@[simp] theorem frz_tup (cs : List AV) : frz h n (f + 2) (.tup cs) = (frzs h n (f + 1) cs).map .tup := by
  rw [frz]
  split
  · rename_i hn
    rw [neat_tup] at hn
    rw [frzs_neat hn]; rfl
  · rfl
@[simp] theorem frz_fn (g : FuncId) (cs : List AV) : frz h n (f + 2) (.fn g cs) = (frzs h n (f + 1) cs).map (.fn g) := by
  rw [frz]
  split
  · rename_i hn
    rw [neat_fn] at hn
    rw [frzs_neat hn]; rfl
  · rfl
@[simp] theorem frz_sl {t : Bool} {k : Nat} {cs : List AV} (hc : cs.all neat = true) : frz h n (f + 2) (.sl t k cs) = some (.sl false k cs) := by
  rw [frz]
  split
  · rename_i hn
    rw [neat_sl] at hn
    simp only [Bool.and_eq_true, Bool.not_eq_true'] at hn
    rw [hn.1]
  · show (cs.mapM (frz h n (f + 1))).map (AV.sl false k) = _
    rw [frz_all hc]; rfl
@[simp] theorem frz_sl0 {t : Bool} : frz h n (f + 2) (.sl t 0 []) = some (.sl false 0 []) := frz_sl rfl
theorem frz_slm (t : Bool) (k : Nat) (cs : List AV) : frz h n (f + 2) (.sl t k cs) = (frzs h n (f + 1) cs).map (.sl false k) := by
  rw [frz]
  split
  · rename_i hn
    rw [neat_sl] at hn
    simp only [Bool.and_eq_true, Bool.not_eq_true'] at hn
    rw [frzs_neat hn.2, hn.1]; rfl
  · rfl
def frzOwn (h : AHeap) (f ver off m k : Nat) : Option ABlk → Option AV
  | some (.cells ver' cs) => if ver = ver' ∧ (off + m) * k ≤ cs.length then (if m = 0 then some (.sl false 0 []) else (frzs h 0 f ((cs.drop (off * k)).take (m * k))).map (.sl false m)) else none
  | _ => none
@[simp] theorem frz_own (id ver off m k : Nat) : frz h 0 (f + 1) (.own id ver off m k) = frzOwn h f ver off m k h[id]? := by
  rw [frz]
  simp only [neat_own, Bool.false_eq_true, if_false, Nat.not_lt_zero]
  cases h[id]? with
  | none => rfl
  | some b => cases b <;> rfl
def frzMp (h : AHeap) (f : Nat) : Option ABlk → Option AV
  | some (.map ks vs) => (frzs h 0 f ks).bind fun ks => (frzs h 0 f vs).map (.fmap ks)
  | _ => none
@[simp] theorem frz_mp (id : Nat) : frz h 0 (f + 1) (.mp id) = frzMp h f h[id]? := by
  rw [frz]
  simp only [neat_mp, Bool.false_eq_true, if_false, Nat.not_lt_zero]
  cases h[id]? with
  | none => rfl
  | some b => cases b <;> rfl
@[simp] theorem frzMp_eq (ks vs : List AV) : frzMp h f (some (.map ks vs)) = (frzs h 0 f ks).bind fun ks => (frzs h 0 f vs).map (.fmap ks) := rfl
def frzPtr (h : AHeap) (f ver off : Nat) : Option ABlk → Option AV
  | some (.cells ver' cs) => if ver = ver' then (frzs h 0 f (cs.drop off)).map .fp else none
  | _ => none
@[simp] theorem frz_ptr (id ver off : Nat) : frz h 0 (f + 1) (.ptr id ver off) = frzPtr h f ver off h[id]? := by
  rw [frz]
  simp only [neat_ptr, Bool.false_eq_true, if_false, Nat.not_lt_zero]
  cases h[id]? with
  | none => rfl
  | some b => cases b <;> rfl
@[simp] theorem frzPtr_eq (ver off ver' : Nat) (cs : List AV) : frzPtr h f ver off (some (.cells ver' cs)) = if ver = ver' then (frzs h 0 f (cs.drop off)).map .fp else none := rfl
/-- A row in a block of one's own, whose cells hold nothing of one's own. -/
theorem frzOwn_neat {ver m k : Nat} {cs : List AV} (hc : cs.all neat = true) (hl : cs.length = m * k) : frzOwn h (f + 1) ver 0 m k (some (.cells ver cs)) = some (.sl false m cs) := by
  simp only [frzOwn, true_and, Nat.zero_add, Nat.zero_mul, List.drop_zero]
  rw [if_pos (by omega)]
  split
  · rename_i h0
    subst h0
    have : cs = [] := List.eq_nil_of_length_eq_zero (by rw [hl]; simp)
    rw [this]
  · rw [List.take_of_length_le (by omega), frzs_neat hc]; rfl

/-! ### what no row can be longer than -/
def fits : AV → Bool
  | .val _ | .any => true
  | .agg cs => cs.attach.all fun ⟨c, _⟩ => fits c
  | .tup cs => cs.attach.all fun ⟨c, _⟩ => fits c
  | .sl _ n cs => decide (n ≤ maxLen) && cs.attach.all fun ⟨c, _⟩ => fits c
  | .fp cs => cs.attach.all fun ⟨c, _⟩ => fits c
  | .fn _ cs => cs.attach.all fun ⟨c, _⟩ => fits c
  | .fmap ks vs => (ks.attach.all fun ⟨c, _⟩ => fits c) && (vs.attach.all fun ⟨c, _⟩ => fits c)
  | .own _ _ _ n _ => decide (n ≤ maxLen)
  | .ptr .. | .mp .. => true
@[simp] theorem fits_val (v : Value) : fits (.val v) = true := by simp [fits]
@[simp] theorem fits_any : fits .any = true := by simp [fits]
@[simp] theorem fits_agg (cs : List AV) : fits (.agg cs) = cs.all fits := by rw [fits, all_attach]
@[simp] theorem fits_tup (cs : List AV) : fits (.tup cs) = cs.all fits := by rw [fits, all_attach]
@[simp] theorem fits_sl (t : Bool) (n : Nat) (cs : List AV) : fits (.sl t n cs) = (decide (n ≤ maxLen) && cs.all fits) := by rw [fits, all_attach]
@[simp] theorem fits_fp (cs : List AV) : fits (.fp cs) = cs.all fits := by rw [fits, all_attach]
@[simp] theorem fits_fn (f : FuncId) (cs : List AV) : fits (.fn f cs) = cs.all fits := by rw [fits, all_attach]
@[simp] theorem fits_fmap (ks vs : List AV) : fits (.fmap ks vs) = (ks.all fits && vs.all fits) := by rw [fits, all_attach, all_attach]
@[simp] theorem fits_own (id ver off n k : Nat) : fits (.own id ver off n k) = decide (n ≤ maxLen) := by rw [fits]
@[simp] theorem fits_ptr (id ver off : Nat) : fits (.ptr id ver off) = true := by rw [fits]
@[simp] theorem fits_mp (id : Nat) : fits (.mp id) = true := by rw [fits]

mutual
theorem R.fits {Z : Nat → Prop} {w : World} {κ : Nat → Slot} : ∀ {a : AV} {v : Value}, R Z w κ a v → Cx.fits a = true
  | _, _, .val _ => fits_val _
  | _, _, .any => fits_any
  | _, _, .agg h => by rw [fits_agg]; exact h.fits
  | _, _, .tup h => by rw [fits_tup]; exact h.fits
  | _, _, .sl0 _ _ => by simp
  | _, _, .sl h0 h1 h2 h3 h4 h5 h6 => by rw [fits_sl, h6.fits, Bool.and_true, decide_eq_true_eq]; omega
  | _, _, .fp _ _ h => by rw [fits_fp]; exact h.fits
  | _, _, .fn h => by rw [fits_fn]; exact h.fits
  | _, _, .fmap _ _ _ _ h1 h2 => by rw [fits_fmap, h1.fits, h2.fits]; rfl
  | _, _, .own h1 h2 _ _ => by rw [fits_own, decide_eq_true_eq]; omega
  | _, _, .ptr _ => fits_ptr _ _ _
  | _, _, .mp _ => fits_mp _
theorem Rs.fits {Z : Nat → Prop} {w : World} {κ : Nat → Slot} : ∀ {as : List AV} {vs : List Value}, Rs Z w κ as vs → as.all Cx.fits = true
  | _, _, .nil => rfl
  | _, _, .cons h1 h2 => by rw [List.all_cons, h1.fits, h2.fits]; rfl
end

/-- A function that only computes; its arguments' rows are no longer than rows can be. -/
theorem PCall.mk {f : FuncId} {fn : Func} {c : Code} {rs : List ResultVar} {N : Nat} {args : List AV} {v : AV} (lit : TypeId → Bool) (hf : P.funcs[f]? = some fn) (hb : fn.body = some c) (hrs : fn.results.toList = rs) (hN : args.length + (fn.ntmps - args.length) = N) (he : Ent P f) (ha : args.all neat = true) (hv : neat v = true)
    (hx : args.all fits = true → AX P lit 0 c (PostA P rs 0 (fun v' _ => v' = v)) ⟨N, initT args, []⟩) : PCall P f args v := by
  by_cases hfit : args.all fits = true
  · exact PCall.intro lit hf hb hrs hN he ha hv (hx hfit)
  · exact ⟨ha, hv, he, fun Z κ w cargs r hr => absurd hr.fits hfit⟩
theorem PCall.mkW {f : FuncId} {fn : Func} {c : Code} {rs : List ResultVar} {N : Nat} {args : List AV} {v : AV} (hf : P.funcs[f]? = some fn) (hb : fn.body = some c) (hrs : fn.results.toList = rs) (hN : args.length + (fn.ntmps - args.length) = N) (he : Ent P f) (ha : args.all neat = true) (hv : neat v = true)
    (hx : args.all fits = true → AW P 0 c (PostA P rs 0 (fun v' _ => v' = v)) ⟨N, initT args, []⟩) : PCall P f args v := by
  by_cases hfit : args.all fits = true
  · exact PCall.introW hf hb hrs hN he ha hv (hx hfit)
  · exact ⟨ha, hv, he, fun Z κ w cargs r hr => absurd hr.fits hfit⟩

theorem wrap_id {n : Int} (h1 : -9223372036854775808 ≤ n) (h2 : n < 9223372036854775808) : IntKind.i64.wrap n = n := by
  rw [IntKind.wrap_i64]; omega
theorem maxLen_lt {n : Nat} (h : n ≤ maxLen) : (n : Int) < 9223372036854775808 := by simp only [maxLen] at h; omega

section
variable {P : Program} {lit : TypeId → Bool} (D : List Nat) (cc : CC) (K : AState → Prop) (s : AState) (i' : Nat) (dst : Option Tmp) (ty : TypeId) (pos : String) (after : Array Edge) (g : Option (Nat × Bool))
@[simp] theorem ADop_move (x : Operand) : ADop P lit D cc i' { dst := dst, op := .move x, type := ty, pos := pos, after := after, guard := g } s K = AOp P lit { dst := dst, op := .move x, type := ty, pos := pos, after := after, guard := g } s K := rfl
@[simp] theorem ADop_assign (x : Operand) : ADop P lit D cc i' { dst := dst, op := .assign x, type := ty, pos := pos, after := after, guard := g } s K = AOp P lit { dst := dst, op := .assign x, type := ty, pos := pos, after := after, guard := g } s K := rfl
@[simp] theorem ADop_pick (c a b : Operand) : ADop P lit D cc i' { dst := dst, op := .pick c a b, type := ty, pos := pos, after := after, guard := g } s K = AOp P lit { dst := dst, op := .pick c a b, type := ty, pos := pos, after := after, guard := g } s K := rfl
@[simp] theorem ADop_alloc (t : TypeId) : ADop P lit D cc i' { dst := dst, op := .alloc t, type := ty, pos := pos, after := after, guard := g } s K = alcK P D (look cc i' .e) t s.h (thenOp K s dst) (AOp P lit { dst := dst, op := .alloc t, type := ty, pos := pos, after := after, guard := g } s K) := rfl
@[simp] theorem ADop_box (t : TypeId) (x : Operand) : ADop P lit D cc i' { dst := dst, op := .box t x, type := ty, pos := pos, after := after, guard := g } s K = AOp P lit { dst := dst, op := .box t x, type := ty, pos := pos, after := after, guard := g } s K := rfl
@[simp] theorem ADop_build (t : TypeId) (ps : Array (Nat × Operand)) : ADop P lit D cc i' { dst := dst, op := .build t ps, type := ty, pos := pos, after := after, guard := g } s K = AOp P lit { dst := dst, op := .build t ps, type := ty, pos := pos, after := after, guard := g } s K := rfl
@[simp] theorem ADop_buildSlice (t : TypeId) (len : Nat) (ps : Array (Nat × Operand)) : ADop P lit D cc i' { dst := dst, op := .buildSlice t len ps, type := ty, pos := pos, after := after, guard := g } s K = AOp P lit { dst := dst, op := .buildSlice t len ps, type := ty, pos := pos, after := after, guard := g } s K := rfl
@[simp] theorem ADop_nilCheck (x : Operand) : ADop P lit D cc i' { dst := dst, op := .nilCheck x, type := ty, pos := pos, after := after, guard := g } s K = AOp P lit { dst := dst, op := .nilCheck x, type := ty, pos := pos, after := after, guard := g } s K := rfl
@[simp] theorem ADop_fieldAddr (t : TypeId) (x : Operand) (i : Nat) : ADop P lit D cc i' { dst := dst, op := .fieldAddr t x i, type := ty, pos := pos, after := after, guard := g } s K = AOp P lit { dst := dst, op := .fieldAddr t x i, type := ty, pos := pos, after := after, guard := g } s K := rfl
@[simp] theorem ADop_field (t : TypeId) (x : Operand) (i : Nat) : ADop P lit D cc i' { dst := dst, op := .field t x i, type := ty, pos := pos, after := after, guard := g } s K = AOp P lit { dst := dst, op := .field t x i, type := ty, pos := pos, after := after, guard := g } s K := rfl
@[simp] theorem ADop_indexAddr (t : TypeId) (x i : Operand) : ADop P lit D cc i' { dst := dst, op := .indexAddr t x i, type := ty, pos := pos, after := after, guard := g } s K = AOp P lit { dst := dst, op := .indexAddr t x i, type := ty, pos := pos, after := after, guard := g } s K := rfl
@[simp] theorem ADop_index (t : TypeId) (x i : Operand) : ADop P lit D cc i' { dst := dst, op := .index t x i, type := ty, pos := pos, after := after, guard := g } s K = AOp P lit { dst := dst, op := .index t x i, type := ty, pos := pos, after := after, guard := g } s K := rfl
@[simp] theorem ADop_slice (t : TypeId) (x : Operand) (lo hi mx : Option Operand) : ADop P lit D cc i' { dst := dst, op := .slice t x lo hi mx, type := ty, pos := pos, after := after, guard := g } s K = AOp P lit { dst := dst, op := .slice t x lo hi mx, type := ty, pos := pos, after := after, guard := g } s K := rfl
@[simp] theorem ADop_extract (x : Operand) (i : Nat) : ADop P lit D cc i' { dst := dst, op := .extract x i, type := ty, pos := pos, after := after, guard := g } s K = AOp P lit { dst := dst, op := .extract x i, type := ty, pos := pos, after := after, guard := g } s K := rfl
@[simp] theorem ADop_makeFunc (f : Fn) (a b : Array Operand) : ADop P lit D cc i' { dst := dst, op := .makeFunc f a b, type := ty, pos := pos, after := after, guard := g } s K = AOp P lit { dst := dst, op := .makeFunc f a b, type := ty, pos := pos, after := after, guard := g } s K := rfl
@[simp] theorem ADop_binOp (op : BinOp) (t : TypeId) (x y : Operand) (yt : TypeId) : ADop P lit D cc i' { dst := dst, op := .binOp op t x y yt, type := ty, pos := pos, after := after, guard := g } s K = AOp P lit { dst := dst, op := .binOp op t x y yt, type := ty, pos := pos, after := after, guard := g } s K := rfl
@[simp] theorem ADop_unOp (op : UnOp) (t : TypeId) (x : Operand) : ADop P lit D cc i' { dst := dst, op := .unOp op t x, type := ty, pos := pos, after := after, guard := g } s K = AOp P lit { dst := dst, op := .unOp op t x, type := ty, pos := pos, after := after, guard := g } s K := rfl
@[simp] theorem ADop_convert (a b : TypeId) (x : Operand) : ADop P lit D cc i' { dst := dst, op := .convert a b x, type := ty, pos := pos, after := after, guard := g } s K = (notOwn (s.ev x) = true ∧ AOp P lit { dst := dst, op := .convert a b x, type := ty, pos := pos, after := after, guard := g } s K) := rfl
@[simp] theorem notOwn_val (v : Value) : notOwn (.val v) = true := rfl
@[simp] theorem notOwn_sl (t : Bool) (n : Nat) (cs : List AV) : notOwn (.sl t n cs) = true := rfl
@[simp] theorem ADop_builtin (b : Builtin) (hb : b ≠ .unsafeSliceData) (xs : Array Operand) (ts : Array TypeId) : ADop P lit D cc i' { dst := dst, op := .call { callee := .builtin b, args := xs, argTypes := ts }, type := ty, pos := pos, after := after, guard := g } s K = AOp P lit { dst := dst, op := .call { callee := .builtin b, args := xs, argTypes := ts }, type := ty, pos := pos, after := after, guard := g } s K := by
  cases b <;> first | rfl | exact absurd rfl hb
@[simp] theorem ADop_sliceData (xs : Array Operand) (ts : Array TypeId) : ADop P lit D cc i' { dst := dst, op := .call { callee := .builtin .unsafeSliceData, args := xs, argTypes := ts }, type := ty, pos := pos, after := after, guard := g } s K = sdK (look cc i' .e) (xs.toList.map s.ev) s.h (thenOp K s dst) (AOp P lit { dst := dst, op := .call { callee := .builtin .unsafeSliceData, args := xs, argTypes := ts }, type := ty, pos := pos, after := after, guard := g } s K) := rfl
attribute [simp] sdK
@[simp] theorem ADop_makeMap (t : TypeId) (r : Option Operand) : ADop P lit D cc i' { dst := dst, op := .makeMap t r, type := ty, pos := pos, after := after, guard := g } s K = AOp P lit { dst := dst, op := .makeMap t r, type := ty, pos := pos, after := after, guard := g } s K := rfl
@[simp] theorem ADop_insert (t : TypeId) (m k x : Operand) : ADop P lit D cc i' { dst := dst, op := .insert t m k x, type := ty, pos := pos, after := after, guard := g } s K = AOp P lit { dst := dst, op := .insert t m k x, type := ty, pos := pos, after := after, guard := g } s K := rfl
@[simp] theorem ADop_mapUpdate (t : TypeId) (m k x : Operand) : ADop P lit D cc i' { dst := dst, op := .mapUpdate t m k x, type := ty, pos := pos, after := after, guard := g } s K = AOp P lit { dst := dst, op := .mapUpdate t m k x, type := ty, pos := pos, after := after, guard := g } s K := rfl
@[simp] theorem ADop_load (t : TypeId) (x : Operand) : ADop P lit D cc i' { dst := dst, op := .load t x, type := ty, pos := pos, after := after, guard := g } s K = ldK D (look cc i' .q) (s.ev x) (AOp P lit { dst := dst, op := .load t x, type := ty, pos := pos, after := after, guard := g } s K) := rfl
@[simp] theorem ADop_lookup (t : TypeId) (m k : Operand) (ok : Bool) : ADop P lit D cc i' { dst := dst, op := .lookup t m k ok, type := ty, pos := pos, after := after, guard := g } s K = ldK D (look cc i' .q) (s.ev m) (AOp P lit { dst := dst, op := .lookup t m k ok, type := ty, pos := pos, after := after, guard := g } s K) := rfl
@[simp] theorem ADop_store (t : TypeId) (p x : Operand) : ADop P lit D cc i' { dst := dst, op := .store t p x, type := ty, pos := pos, after := after, guard := g } s K = stK D (look cc i' .w) (s.ev p) (AOp P lit { dst := dst, op := .store t p x, type := ty, pos := pos, after := after, guard := g } s K) := rfl
@[simp] theorem clAt_call (f : Operand) (xs : Array Operand) (ts : Array TypeId) : clAt lit cc i' { dst := dst, op := .call { callee := .value f, args := xs, argTypes := ts }, type := ty, pos := pos, after := after, guard := g } = look cc i' .t := rfl
@[simp] theorem look_nil (c : Cl) : look [] i' c = c := rfl
@[simp] theorem look_cons (j : Nat) (d c : Cl) : look ((j, d) :: cc) i' c = if j = i' then d else look cc i' c := by
  simp only [look, List.find?_cons]
  by_cases h : j = i'
  · simp [h]
  · have : (j == i') = false := by simpa using h
    simp [this, h]
variable (p : AV) (A : Prop)
@[simp] theorem alcK_e (t : TypeId) (h : AHeap) (K : AV → AHeap → Prop) : alcK P D .e t h K A = A := rfl
@[simp] theorem alcK_w (t : TypeId) (h : AHeap) (K : AV → AHeap → Prop) : alcK P D .w t h K A = (match roomOf D h with
    | some (id, ver) => match tzero P t with
      | some zs => K (.ptr id (ver + 1) 0) (h.set id (.cells (ver + 1) zs))
      | none => False
    | none => False) := rfl
@[simp] theorem alcK_r (id : Nat) (t : TypeId) (h : AHeap) (K : AV → AHeap → Prop) : alcK P D (.r id) t h K A = (match (h[id]? : Option ABlk), tzero P t with
    | some (.cells ver []), some zs => K (.ptr id (ver + 1) 0) (h.set id (.cells (ver + 1) zs))
    | _, _ => False) := rfl
@[simp] theorem roomOf_one (r : Nat) (h : AHeap) : roomOf [r] h = (match (h[r]? : Option ABlk) with | some (ABlk.cells ver []) => some (r, ver) | _ => none) := by
  unfold roomOf
  simp only [List.findSome?_cons, List.findSome?_nil]
  split <;> (rename_i e; exact e.symm)
@[simp] theorem ldK_q : ldK D .q p A = (offD D p = true ∧ A) := rfl
@[simp] theorem ldK_w : ldK D .w p A = (onD D p = true ∧ A) := rfl
@[simp] theorem ldK_e : ldK D .e p A = A := rfl
@[simp] theorem ldK_t : ldK D .t p A = (noPtr p = true ∧ A) := rfl
@[simp] theorem noPtr_fp (cs : List AV) : noPtr (.fp cs) = true := rfl
@[simp] theorem noPtr_fmap (ks vs : List AV) : noPtr (.fmap ks vs) = true := rfl
@[simp] theorem stK_w : stK D .w p A = (onD D p = true ∧ A) := rfl
@[simp] theorem stK_e : stK D .e p A = A := rfl
@[simp] theorem offD_ptr (id ver off : Nat) : offD D (.ptr id ver off) = !D.contains id := rfl
@[simp] theorem offD_mp (id : Nat) : offD D (.mp id) = !D.contains id := rfl
@[simp] theorem offD_fp (cs : List AV) : offD D (.fp cs) = true := rfl
@[simp] theorem offD_fmap (ks vs : List AV) : offD D (.fmap ks vs) = true := rfl
@[simp] theorem offD_val (v : Value) : offD D (.val v) = true := rfl
@[simp] theorem onD_ptr (id ver off : Nat) : onD D (.ptr id ver off) = D.contains id := rfl
@[simp] theorem onD_mp (id : Nat) : onD D (.mp id) = D.contains id := rfl
end
theorem offEq_nil {k h : AHeap} (hk : offEq [] k h) : k = h := List.ext_getElem? fun id => hk.2 id rfl
theorem ADcall.pure {P : Program} {h : AHeap} {g : FuncId} {cap args args' : List AV} {v : AV} {K : AV → AHeap → Prop} (hp : PCall P g args' v) (ha : args ++ cap = args') (hk : K v h) {D : List Nat} : ADcall P D .t (.fn g cap) args h K :=
  ⟨v, fun k => AInv.pure hp ha ⟨rfl, rfl⟩, hk⟩
theorem ADcall.lend {P : Program} {h : AHeap} {g : FuncId} {cap args args' : List AV} {v : AV} {K : AV → AHeap → Prop} (hp : PCall P g args' v) (hm : memFree v = true) (ha : (args ++ cap).mapM (frz h 0 12) = some args') (hk : K v h) : ADcall P [] .q (.fn g cap) args h K :=
  ⟨v, fun k hke => by rw [offEq_nil hke]; exact AInv.lend hp hm ha ⟨rfl, rfl⟩, hk⟩

/-- What a function hands back. -/
def retV (P : Program) (rs : List ResultVar) (s : AState) : Option AV := (rs.mapM (resA P s)).bind fun vs => frz s.h 0 12 (resV vs)
@[simp] theorem PostA_eq (P : Program) (rs : List ResultVar) (v : AV) (e : Exit) (s : AState) : PostA P rs 0 (fun v' _ => v' = v) e s = (isEnd e = true ∧ retV P rs s = some v) := by
  apply propext
  constructor
  · rintro ⟨he, vs, v', h1, h2, _, rfl⟩
    exact ⟨he, by simp only [retV, h1, Option.bind_some]; exact h2⟩
  · rintro ⟨he, h⟩
    obtain ⟨vs, h1, h2⟩ := Option.bind_eq_some_iff.1 h
    exact ⟨he, vs, v, h1, h2, by simp, rfl⟩
@[simp] theorem retV_one (P : Program) (r : ResultVar) (s : AState) : retV P [r] s = (resA P s r).bind fun x => frz s.h 0 12 x := by
  simp only [retV, List.mapM_cons, List.mapM_nil]
  cases resA P s r <;> rfl
@[simp] theorem retV_two (P : Program) (r r' : ResultVar) (s : AState) : retV P [r, r'] s = (resA P s r).bind fun x => (resA P s r').bind fun y => frz s.h 0 12 (.tup [x, y]) := by
  simp only [retV, List.mapM_cons, List.mapM_nil]
  cases resA P s r with
  | none => rfl
  | some x => cases resA P s r' <;> rfl
@[simp] theorem retV_three (P : Program) (r r' r2 : ResultVar) (s : AState) : retV P [r, r', r2] s = (resA P s r).bind fun x => (resA P s r').bind fun y => (resA P s r2).bind fun z => frz s.h 0 12 (.tup [x, y, z]) := by
  simp only [retV, List.mapM_cons, List.mapM_nil]
  cases resA P s r with
  | none => rfl
  | some x => cases resA P s r' with
    | none => rfl
    | some y => cases resA P s r2 <;> rfl
attribute [simp] frz_neat
end Go.Cx

set_option linter.unusedVariables false
set_option linter.unusedSimpArgs false
namespace Go.Cx
variable {P : Program} {Z : Nat → Prop} {κ : Nat → Slot} {h : AHeap} {w : World}

def killF (D : List Nat) : Nat → AHeap → AHeap
  | _, [] => []
  | i, b :: h => (if D.contains i then .dead else b) :: killF D (i + 1) h
abbrev kill (D : List Nat) (h : AHeap) : AHeap := killF D 0 h
theorem killF_get (D : List Nat) : ∀ (h : AHeap) (i j : Nat), (killF D i h)[j]? = (h[j]?).map fun b => if D.contains (i + j) then .dead else b
  | [], i, j => by simp [killF]
  | b :: h, i, 0 => by simp [killF]
  | b :: h, i, j + 1 => by
    simp only [killF, List.getElem?_cons_succ]
    rw [killF_get D h (i + 1) j, show i + 1 + j = i + (j + 1) by omega]
theorem killF_len (D : List Nat) : ∀ (h : AHeap) (i : Nat), (killF D i h).length = h.length
  | [], i => rfl
  | b :: h, i => by simp [killF, killF_len D h]

def killK (D : List Nat) (κ : Nat → Slot) : Nat → Slot := fun id => if D.contains id then (match κ id with | .hole => .hole | _ => .dead) else κ id
def killZ (D : List Nat) (Z : Nat → Prop) (κ : Nat → Slot) : Nat → Prop := fun b => Z b ∨ ∃ id ver sz, D.contains id = true ∧ κ id = .live ver (some b) sz
theorem killK_step (D : List Nat) (κ : Nat → Slot) (id : Nat) : (κ id).step (killK D κ id) := by
  unfold killK
  split
  · cases κ id <;> simp [Slot.step]
  · exact Slot.step_refl _
theorem killK_live {D : List Nat} {id ver sz : Nat} {b : Option Nat} (hk : killK D κ id = .live ver b sz) : D.contains id = false ∧ κ id = .live ver b sz := by
  unfold killK at hk
  split at hk
  · split at hk <;> cases hk
  · rename_i hd; exact ⟨by simpa using hd, hk⟩

theorem rel_kill (D : List Nat) (r : Rel Z κ h w) : Rel (killZ D Z κ) (killK D κ) (kill D h) w ∧ Ext Z κ w (killZ D Z κ) (killK D κ) w := by
  have hal : ∀ b, alive (killK D κ) b → ∃ id ver sz, D.contains id = false ∧ κ id = .live ver (some b) sz := by
    rintro b ⟨id, ver, sz, hk⟩
    exact ⟨id, ver, sz, killK_live hk⟩
  refine ⟨⟨?_, ?_, ?_, fun id x hx => ?_, ?_⟩, ⟨rfl, rfl, rfl, Nat.le_refl _, fun _ _ _ => rfl, fun b hz => .inl hz, ?_, ?_⟩⟩
  · rintro b (hz | ⟨id, ver, sz, _, hk⟩)
    · exact r.zlt b hz
    · exact alive_lt r ⟨id, ver, sz, hk⟩
  · rintro b (hz | ⟨id, ver, sz, hid, hk⟩) ha
    · obtain ⟨id', ver', sz', _, hk'⟩ := hal b ha
      exact r.za b hz ⟨id', ver', sz', hk'⟩
    · obtain ⟨id', ver', sz', hid', hk'⟩ := hal b ha
      have := r.inj _ _ _ _ _ _ _ hk hk'
      subst this
      rw [hid] at hid'; cases hid'
  · intro id hid
    rw [killF_len] at hid
    have := r.hole id hid
    unfold killK
    rw [this]
    split <;> rfl
  · rw [killF_get, Nat.zero_add] at hx
    obtain ⟨y, hy, rfl⟩ := Option.map_eq_some_iff.1 hx
    have hb := r.blk id y hy
    have conv : ∀ (as : List AV) (vs : List Value), Rs Z w κ as vs → Rs (killZ D Z κ) w (killK D κ) as vs := fun as vs hs =>
      hs.imp (fun b hz => ⟨.inl hz, rfl⟩) (fun j => .inr (killK_step D κ j))
    split
    · rename_i hd
      have hn := rel_nonhole r (id := id) (List.getElem?_eq_some_iff.1 hy).1
      show killK D κ id = .dead
      unfold killK
      rw [if_pos hd]
      cases hk : κ id with
      | hole => exact absurd hk hn
      | dead => rfl
      | live a b c => rfl
    · rename_i hd
      have hk : killK D κ id = κ id := by simp only [killK, hd]; rfl
      cases y with
      | dead => simp only [blkOk] at *; rw [hk]; exact hb
      | cells ver cs =>
        obtain ⟨ob, sz, h1, h2⟩ := hb
        refine ⟨ob, sz, hk.trans h1, ?_⟩
        cases ob with
        | none => exact h2
        | some b =>
          obtain ⟨c, E, us, h3, h4, h5, h6, h7⟩ := h2
          exact ⟨c, E, us, h3, h4, h5, h6, conv _ _ h7⟩
      | full ver cs =>
        obtain ⟨b, c, E, h1, h2, h3, h4⟩ := hb
        exact ⟨b, c, E, hk.trans h1, h2, conv _ _ h3, h4⟩
      | typed E ver cs =>
        obtain ⟨ob, sz, h1, h2⟩ := hb
        refine ⟨ob, sz, hk.trans h1, ?_⟩
        cases ob with
        | none => exact h2
        | some b =>
          obtain ⟨c, us, h3, h4, h5, h6, h7⟩ := h2
          exact ⟨c, us, h3, h4, h5, h6, conv _ _ h7⟩
      | map ks vs =>
        obtain ⟨b, es, cl, h1, h2, h3, h4⟩ := hb
        exact ⟨b, es, cl, hk.trans h1, h2, conv _ _ h3, conv _ _ h4⟩
      | iter ks vs todo cur =>
        obtain ⟨b, mb, es, cl, sn, la, h1, h2, h3, h4, h5, h6, h7⟩ := hb
        exact ⟨b, mb, es, cl, sn, la, hk.trans h1, h2, .inl h3, h4, conv _ _ h5, conv _ _ h6, h7⟩
  · intro id id' ver ver' b sz sz' h1 h2
    exact r.inj _ _ _ _ _ _ _ (killK_live h1).2 (killK_live h2).2
  · rintro b (hz | ⟨id, ver, sz, _, hk⟩)
    · exact .inl hz
    · exact .inr (.inl ⟨id, ver, sz, hk⟩)
  · intro b ha
    obtain ⟨id, ver, sz, _, hk⟩ := hal b ha
    exact .inl ⟨id, ver, sz, hk⟩

/-- A value, where all its own blocks are given away. -/
def fzD (h : AHeap) (D : List Nat) : Nat → AV → Option AV
  | 0, _ => none
  | f + 1, v => if neat v then some v else match v with
    | .agg cs => (cs.mapM (fzD h D f)).map .agg
    | .tup cs => (cs.mapM (fzD h D f)).map .tup
    | .sl _ k cs => (cs.mapM (fzD h D f)).map (.sl false k)
    | .fp cs => (cs.mapM (fzD h D f)).map .fp
    | .fn g cs => (cs.mapM (fzD h D f)).map (.fn g)
    | .own id ver off m k => if D.contains id then match h[id]? with
      | some (.cells ver' cs) => if ver = ver' ∧ (off + m) * k ≤ cs.length then (if m = 0 then some (.sl false 0 []) else (((cs.drop (off * k)).take (m * k)).mapM (fzD h D f)).map (.sl false m)) else none
      | _ => none
      else none
    | .ptr id ver off => if D.contains id then match h[id]? with
      | some (.cells ver' cs) => if ver = ver' then ((cs.drop off).mapM (fzD h D f)).map .fp else none
      | _ => none
      else none
    | .mp id => if D.contains id then match h[id]? with
      | some (.map ks vs) => (ks.mapM (fzD h D f)).bind fun ks => (vs.mapM (fzD h D f)).map (.fmap ks)
      | _ => none
      else none
    | _ => none

theorem fzD_ok (r : Rel Z κ h w) {D : List Nat} : ∀ (f : Nat) (v v' : AV) (c : Value), fzD h D f v = some v' → R Z w κ v c → R (killZ D Z κ) w (killK D κ) v' c
  | 0, v, v', c, hf, hr => by simp [fzD] at hf
  | f + 1, v, v', c, hf, hr => by
    have ih := fun a b c => fzD_ok r (D := D) f a b c
    simp only [fzD] at hf
    split at hf
    · rename_i hn
      injection hf with hf
      subst hf
      exact (hr.noRef_any (κ' := killK D κ) (noRef_of_neat _ hn)).imp (fun b hz => ⟨.inl hz, rfl⟩) (fun id => .inr (Slot.step_refl _))
    · split at hf
      · obtain ⟨bs, hb, rfl⟩ := Option.map_eq_some_iff.1 hf
        cases hr with | agg hs => exact .agg (mapM_ok ih hb hs)
      · obtain ⟨bs, hb, rfl⟩ := Option.map_eq_some_iff.1 hf
        cases hr with | tup hs => exact .tup (mapM_ok ih hb hs)
      · obtain ⟨bs, hb, rfl⟩ := Option.map_eq_some_iff.1 hf
        cases hr with
        | sl0 h1 h2 => simp at hb; subst hb; exact .sl0 (by simp) h2
        | sl h0 h1 h2 h3 h4 h5 h6 => exact .sl h0 h1 (by simp) h3 (.inl h4) h5 (mapM_ok ih hb h6)
      · obtain ⟨bs, hb, rfl⟩ := Option.map_eq_some_iff.1 hf
        cases hr with | fp h1 h2 h3 => exact .fp (.inl h1) h2 (mapM_ok ih hb h3)
      · obtain ⟨bs, hb, rfl⟩ := Option.map_eq_some_iff.1 hf
        cases hr with | fn hs => exact .fn (mapM_ok ih hb hs)
      · rename_i id ver off m k _
        split at hf
        · rename_i hid
          split at hf
          · rename_i ver' cs hx
            split at hf
            · rename_i hc
              obtain ⟨rfl, hlen⟩ := hc
              split at hf
              · rename_i hm
                injection hf with hf; subst hf hm
                cases hr with | own h0 h1 hA h2 => exact .sl0 (by simp) h1
              · rename_i hm
                obtain ⟨bs, hb, rfl⟩ := Option.map_eq_some_iff.1 hf
                rcases own_slice r hr hx with ⟨_, _, _, _, _, h0, _⟩ | ⟨b, sz, arr, E, us, cap, a, q1, rfl, q3, q4, q5, q6, q7, q8, q9, q10, q11, q12⟩
                · exact absurd h0 hm
                · have hcap : 0 < cap := by omega
                  have ha := q6 hcap
                  subst ha
                  exact .sl (by omega) q3 (by simp) (by omega) (.inr ⟨id, ver, sz, hid, q1⟩) ((cells_drop q8 q11 (off * k)).take _) (mapM_ok ih hb ((q12.drop _).take _))
            · cases hf
          · cases hf
        · cases hf
      · rename_i id ver off _
        split at hf
        · rename_i hid
          split at hf
          · rename_i ver' cs hx
            split at hf
            · rename_i hc
              subst hc
              obtain ⟨bs, hb, rfl⟩ := Option.map_eq_some_iff.1 hf
              obtain ⟨b, sz, arr, E, us, q1, rfl, q8, q9, q10, q11, q12⟩ := own_block r hr hx
              exact .fp (.inr ⟨id, ver, sz, hid, q1⟩) (cells_drop q8 q11 off) (mapM_ok ih hb (q12.drop _))
            · cases hf
          · cases hf
        · cases hf
      · rename_i id _
        split at hf
        · rename_i hid
          split at hf
          · rename_i ks vs hx
            obtain ⟨ks', hk, hf⟩ := Option.bind_eq_some_iff.1 hf
            obtain ⟨vs', hv, rfl⟩ := Option.map_eq_some_iff.1 hf
            obtain ⟨b, es, cl, q1, q2, q3, q4⟩ := r.blk id _ hx
            cases hr with
            | mp h2 =>
              simp only [refOk, q1] at h2
              have := h2.2 trivial
              simp only [mapAt] at this
              subst this
              exact .fmap (.inr ⟨id, 0, 0, hid, q1⟩) q2 rfl rfl (mapM_ok ih hk q3) (mapM_ok ih hv q4)
          · cases hf
        · cases hf
      · cases hf

def fzDs (h : AHeap) (D : List Nat) (f : Nat) (cs : List AV) : Option (List AV) := cs.mapM (fzD h D f)

/-- At a call: what the arguments hold of one's own is given away. -/
theorem AInv.give {f : FuncId} {cap args args' : List AV} {v : AV} {Q : AV → AHeap → Prop} (D : List Nat) (hp : PCall P f args' v) (ha : fzDs h D 12 (args ++ cap) = some args') (hq : Q v (kill D h)) : AInv P (.fn f cap) args h Q := by
  refine .of ⟨hp.2.2.1, fun Z κ w cargs r hr => ?_⟩
  obtain ⟨r1, e1⟩ := rel_kill D r
  have hr1 : Rs (killZ D Z κ) w (killK D κ) args' cargs := mapM_ok (fun a b c h1 h2 => fzD_ok r 12 a b c h1 h2) ha hr
  refine ((hp.frame (kill D h)).2 _ _ w cargs r1 hr1).mono ?_
  rintro e w' ⟨v', h', Z', κ', c, ⟨rfl, rfl⟩, he', r', hv', ex, st⟩
  exact ⟨v', _, Z', κ', c, hq, he', r', hv', e1.trans ex, fun id hid => Slot.step_trans (killK_step D κ id) (st id (by rw [killF_len]; exact hid))⟩

/-! ### equations -/
section
variable {D : List Nat} {f : Nat}
@[simp] theorem fzD_neat {v : AV} (hv : neat v = true) : fzD h D (f + 1) v = some v := by simp [fzD, hv]
theorem fzDs_neat {cs : List AV} (hc : cs.all neat = true) : fzDs h D (f + 1) cs = some cs := by
  induction cs with
  | nil => rfl
  | cons a cs ih =>
    simp only [List.all_cons, Bool.and_eq_true] at hc
    have := ih hc.2
    simp only [fzDs] at this
    simp [fzDs, List.mapM_cons, fzD_neat hc.1, this]
@[simp] theorem fzDs_nil : fzDs h D f [] = some [] := rfl
@[simp] theorem fzDs_cons (a : AV) (cs : List AV) : fzDs h D f (a :: cs) = (fzD h D f a).bind fun a => (fzDs h D f cs).map fun cs => a :: cs := by
  simp only [fzDs, List.mapM_cons]
  cases fzD h D f a with
  | none => rfl
  | some x => cases List.mapM (fzD h D f) cs <;> rfl
@[simp] theorem fzD_agg (cs : List AV) : fzD h D (f + 2) (.agg cs) = (fzDs h D (f + 1) cs).map .agg := by
  rw [fzD]
  split
  · rename_i hn
    rw [neat_agg] at hn
    rw [fzDs_neat hn]; rfl
  · rfl
@[simp] theorem fzD_fn (g : FuncId) (cs : List AV) : fzD h D (f + 2) (.fn g cs) = (fzDs h D (f + 1) cs).map (.fn g) := by
  rw [fzD]
  split
  · rename_i hn
    rw [neat_fn] at hn
    rw [fzDs_neat hn]; rfl
  · rfl
@[simp] theorem fzD_sl {t : Bool} {k : Nat} {cs : List AV} (hc : cs.all neat = true) : fzD h D (f + 2) (.sl t k cs) = some (.sl false k cs) := by
  rw [fzD]
  split
  · rename_i hn
    rw [neat_sl] at hn
    simp only [Bool.and_eq_true, Bool.not_eq_true'] at hn
    rw [hn.1]
  · show (cs.mapM (fzD h D (f + 1))).map (AV.sl false k) = _
    have := fzDs_neat (h := h) (D := D) (f := f) hc
    simp only [fzDs] at this
    rw [this]; rfl
@[simp] theorem fzD_sl0 {t : Bool} : fzD h D (f + 2) (.sl t 0 []) = some (.sl false 0 []) := fzD_sl rfl
def fzOwn (h : AHeap) (D : List Nat) (f ver off m k : Nat) : Option ABlk → Option AV
  | some (.cells ver' cs) => if ver = ver' ∧ (off + m) * k ≤ cs.length then (if m = 0 then some (.sl false 0 []) else (fzDs h D f ((cs.drop (off * k)).take (m * k))).map (.sl false m)) else none
  | _ => none
@[simp] theorem fzD_own (id ver off m k : Nat) : fzD h D (f + 1) (.own id ver off m k) = if D.contains id then fzOwn h D f ver off m k h[id]? else none := by
  rw [fzD]
  simp only [neat_own, Bool.false_eq_true, if_false]
  split
  · cases h[id]? with
    | none => rfl
    | some b => cases b <;> rfl
  · rfl
def fzPtr (h : AHeap) (D : List Nat) (f ver off : Nat) : Option ABlk → Option AV
  | some (.cells ver' cs) => if ver = ver' then (fzDs h D f (cs.drop off)).map .fp else none
  | _ => none
@[simp] theorem fzD_ptr (id ver off : Nat) : fzD h D (f + 1) (.ptr id ver off) = if D.contains id then fzPtr h D f ver off h[id]? else none := by
  rw [fzD]
  simp only [neat_ptr, Bool.false_eq_true, if_false]
  split
  · cases h[id]? with
    | none => rfl
    | some b => cases b <;> rfl
  · rfl
@[simp] theorem fzPtr_eq (ver off ver' : Nat) (cs : List AV) : fzPtr h D f ver off (some (.cells ver' cs)) = if ver = ver' then (fzDs h D f (cs.drop off)).map .fp else none := rfl
/-- A row in a block of one's own, whose cells hold nothing of one's own. -/
theorem fzOwn_neat {ver m k : Nat} {cs : List AV} (hc : cs.all neat = true) (hl : cs.length = m * k) : fzOwn h D (f + 1) ver 0 m k (some (.cells ver cs)) = some (.sl false m cs) := by
  simp only [fzOwn, true_and, Nat.zero_add, Nat.zero_mul, List.drop_zero]
  rw [if_pos (by omega)]
  split
  · rename_i h0
    subst h0
    have : cs = [] := List.eq_nil_of_length_eq_zero (by rw [hl]; simp)
    rw [this]
  · rw [List.take_of_length_le (by omega), fzDs_neat hc]; rfl
end
attribute [simp] killF

@[simp] theorem alen_str {P : Program} {t : TypeId} (ht : P.underlying t = some .string) (s : ByteArray) : alen P t (.val (.string s)) = some (.val (.int .i64 s.size)) := by simp [alen, ht, isString]
@[simp] theorem cast_le_lit (n k : Nat) : ((n : Int) ≤ (no_index (@OfNat.ofNat Int k instOfNat))) = (n ≤ @OfNat.ofNat Nat k (instOfNatNat k)) := propext Int.ofNat_le
@[simp] theorem cast_lt_lit (n k : Nat) : ((n : Int) < (no_index (@OfNat.ofNat Int k instOfNat))) = (n < @OfNat.ofNat Nat k (instOfNatNat k)) := propext Int.ofNat_lt
@[simp] theorem lit_le_cast (n k : Nat) : ((no_index (@OfNat.ofNat Int k instOfNat)) ≤ (n : Int)) = (@OfNat.ofNat Nat k (instOfNatNat k) ≤ n) := propext Int.ofNat_le
@[simp] theorem lit_lt_cast (n k : Nat) : ((no_index (@OfNat.ofNat Int k instOfNat)) < (n : Int)) = (@OfNat.ofNat Nat k (instOfNatNat k) < n) := propext Int.ofNat_lt
section
variable {P : Program} {t : TypeId} (ht : P.underlying t = some .bool) (ox oy : Operand) (x y : Bool)
include ht
@[simp] theorem binB_eql : abin P .eql t ox oy (.val (.bool x)) (.val (.bool y)) = some (.val (.bool (decide (x = y)))) := by
  rw [binb_eql (ht := ht)]; cases x <;> cases y <;> rfl
@[simp] theorem binB_neq : abin P .neq t ox oy (.val (.bool x)) (.val (.bool y)) = some (.val (.bool (!decide (x = y)))) := by
  rw [binb_neq (ht := ht)]; cases x <;> cases y <;> rfl
end
/-! ### loops: what stands at their head -/
theorem Wk.keep {n : Nat} {s : AState} (l : List (Nat × AV)) (hl : ∀ p ∈ l, s.T p.1 = p.2) : Wk n s ⟨s.N, Cx.pat l, s.h⟩ := fun Z κ a w r hn =>
  ⟨κ, ⟨r.rel, r.size, pat_R l fun p hp => by have := r.tmps p.1; rwa [hl p hp] at this, r.defers⟩, .refl _ _ _, .refl _ _, hn⟩
attribute [simp] pat_cons Int.natCast_inj Int.ofNat_lt Int.ofNat_le
@[simp] theorem head_at {α : Type} (l : List α) (i : Nat) : (List.take 1 (List.drop i l)).head? = l[i]? := by
  rw [List.head?_take]; simp
theorem all_step {α : Type} {l : List α} {p : α → Prop} {i : Nat} (h : ∀ x ∈ l.take i, p x) (hi : i < l.length) (hp : p l[i]) : ∀ x ∈ l.take (i + 1), p x := by
  rw [List.take_succ_eq_append_getElem hi]
  intro x hx
  rcases List.mem_append.1 hx with h1 | h1
  · exact h x h1
  · rw [List.mem_singleton.1 h1]; exact hp
theorem all_done {α : Type} {l : List α} {p : α → Prop} {i : Nat} (h : ∀ x ∈ l.take i, p x) (hi : ¬ i < l.length) : ∀ x ∈ l, p x := by
  rwa [List.take_of_length_le (by omega)] at h
/-- One more of two rows that are alike so far. -/
theorem take_step {α : Type} {a b : List α} {i : Nat} (h : a.take i = b.take i) (ha : i < a.length) (hb : i < b.length) (he : a[i] = b[i]) : a.take (i + 1) = b.take (i + 1) := by
  rw [List.take_succ_eq_append_getElem ha, List.take_succ_eq_append_getElem hb, h, he]
theorem take_done {α : Type} {a b : List α} {i : Nat} (h : a.take i = b.take i) (ha : a.length ≤ i) (hb : b.length ≤ i) : a = b := by
  rwa [List.take_of_length_le ha, List.take_of_length_le hb] at h
theorem wrap_nat {i m : Nat} (h : i < m) (hm : m ≤ maxLen) : IntKind.i64.wrap ((i : Int) + 1) = ((i + 1 : Nat) : Int) := by
  have := maxLen_lt hm
  rw [wrap_id (by omega) (by omega)]; simp

/-! ### less is told: blocks are dropped -/
mutual
theorem refsLt_noRef (L : Nat) : ∀ a : AV, neat a = true → refsLt L a = true
  | .val v, _ => by simp [refsLt]
  | .any, _ => by simp [refsLt]
  | .agg cs, h => by rw [neat_agg] at h; rw [refsLt, all_attach]; exact refsLts_noRef L cs h
  | .tup cs, h => by rw [neat_tup] at h; rw [refsLt, all_attach]; exact refsLts_noRef L cs h
  | .sl t n cs, h => by rw [neat_sl, Bool.and_eq_true] at h; rw [refsLt, all_attach]; exact refsLts_noRef L cs h.2
  | .fp cs, h => by rw [neat_fp] at h; rw [refsLt, all_attach]; exact refsLts_noRef L cs h
  | .fn f cs, h => by rw [neat_fn] at h; rw [refsLt, all_attach]; exact refsLts_noRef L cs h
  | .fmap ks vs, h => by rw [neat_fmap, Bool.and_eq_true] at h; rw [refsLt, all_attach, all_attach, refsLts_noRef L ks h.1, refsLts_noRef L vs h.2]; rfl
  | .own id ver off n k, h => by simp at h
  | .ptr id ver off, h => by simp at h
  | .mp id, h => by simp at h
theorem refsLts_noRef (L : Nat) : ∀ cs : List AV, cs.all neat = true → cs.all (refsLt L) = true
  | [], _ => rfl
  | a :: cs, h => by
    simp only [List.all_cons, Bool.and_eq_true] at h ⊢
    exact ⟨refsLt_noRef L a h.1, refsLts_noRef L cs h.2⟩
end
@[simp] theorem refsLt_neat {L : Nat} {a : AV} (h : neat a = true) : refsLt L a = true := refsLt_noRef L a h
@[simp] theorem refsLts_neat {L : Nat} {cs : List AV} (h : cs.all neat = true) : cs.all (refsLt L) = true := refsLts_noRef L cs h
@[simp] theorem refsLt_agg (L : Nat) (cs : List AV) : refsLt L (.agg cs) = cs.all (refsLt L) := by rw [refsLt, all_attach]
@[simp] theorem refsLt_sl (L : Nat) (t : Bool) (n : Nat) (cs : List AV) : refsLt L (.sl t n cs) = cs.all (refsLt L) := by rw [refsLt, all_attach]
@[simp] theorem refsLt_fn (L : Nat) (f : FuncId) (cs : List AV) : refsLt L (.fn f cs) = cs.all (refsLt L) := by rw [refsLt, all_attach]
@[simp] theorem refsLt_ptr (L id ver off : Nat) : refsLt L (.ptr id ver off) = decide (id < L) := by rw [refsLt]
@[simp] theorem refsLt_own (L id ver off n k : Nat) : refsLt L (.own id ver off n k) = decide (id < L) := by rw [refsLt]
@[simp] theorem refsLt_mp (L id : Nat) : refsLt L (.mp id) = decide (id < L) := by rw [refsLt]
attribute [simp] ABlk.refsLt
theorem Wk.cut {n : Nat} {s : AState} (m : Nat) (l : List (Nat × AV)) (hnm : n ≤ m) (hm : m ≤ s.h.length) (hc : (s.h.take m).all (ABlk.refsLt m) = true) (hl : ∀ p ∈ l, s.T p.1 = p.2 ∧ refsLt m p.2 = true) : Wk n s ⟨s.N, Cx.pat l, s.h.take m⟩ :=
  Wk.pat l hnm hm hc fun p hp => ⟨by rw [(hl p hp).1]; exact .refl _, (hl p hp).2⟩
@[simp] theorem fzD_slm {h : AHeap} {D : List Nat} {f : Nat} (t : Bool) (k : Nat) (cs : List AV) : fzD h D (f + 2) (.sl t k cs) = (fzDs h D (f + 1) cs).map (.sl false k) := by
  rw [fzD]
  split
  · rename_i hn
    rw [neat_sl, Bool.and_eq_true, Bool.not_eq_true'] at hn
    rw [fzDs_neat hn.2, hn.1]; rfl
  · rfl
attribute [simp] fzDs_neat frzs_neat frz_slm
end Go.Cx
