/- The rules of evaluation, as equations. -/
import Derived.Test.YtjelapkglkcoiaaCxK
set_option linter.unusedVariables false
set_option linter.unusedSimpArgs false
namespace Go.Cx
variable {P : Program} {lit : TypeId → Bool} {n : Nat}

theorem Ent.mk {f : FuncId} {fn : Func} (hf : P.funcs[f]? = some fn) (hn : (fn.name == "runtime.NumGoroutine") = false) (hb : fn.body.isNone = false) : Ent P f := by
  intro args w
  unfold callFunc
  simp only [Sem.run_bind, run_program, Result.andThen_ok, hf, hn, hb, Bool.false_eq_true, if_false, Sem.run_pure]

/-! ### code -/
section
variable (Q : Exit → AState → Prop) (s : AState)
@[simp] theorem AX_skip : AX P lit n .skip Q s = Q .normal s := rfl
@[simp] theorem AX_label (l : Nat) : AX P lit n (.label l) Q s = Q .normal s := rfl
@[simp] theorem AX_region (id : Nat) (ops : List Oper) : AX P lit n (.region id ops.toArray false) Q s = AOps P lit ops.toArray (Q .normal) ops s := rfl
@[simp] theorem AX_draw (id : Nat) (ops : Array Oper) : AX P lit n (.region id ops true) Q s = AW P n (.region id ops true) Q s := rfl
@[simp] theorem AX_seq (a b : Code) : AX P lit n (.seq a b) Q s = AX P lit n a (thenA (AX P lit n b Q) Q) s := rfl
/-- Where a test goes on. -/
def condK (P : Program) (lit : TypeId → Bool) (n : Nat) (a b : Code) (Q : Exit → AState → Prop) (s : AState) (c : AV) : Prop :=
  match c with
  | .val (.bool t) => (t = true → AX P lit n a Q s) ∧ (t = false → AX P lit n b Q s)
  | _ => False
@[simp] theorem AX_cond (c : Operand) (a b : Code) : AX P lit n (.cond c a b) Q s = condK P lit n a b Q s (s.ev c) := rfl
@[simp] theorem condK_true (a b : Code) : condK P lit n a b Q s (.val (.bool true)) = AX P lit n a Q s := by simp [condK]
@[simp] theorem condK_false (a b : Code) : condK P lit n a b Q s (.val (.bool false)) = AX P lit n b Q s := by simp [condK]
theorem condK_split {a b : Code} {t : Bool} (h1 : t = true → AX P lit n a Q s) (h2 : t = false → AX P lit n b Q s) : condK P lit n a b Q s (.val (.bool t)) := ⟨h1, h2⟩
@[simp] theorem AX_block (id : Nat) (c : Code) : AX P lit n (.block id c) Q s = AX P lit n c (inBlockA id Q) s := rfl
@[simp] theorem AX_exit (id : Nat) : AX P lit n (.exit id) Q s = Q (.exit id) s := rfl
@[simp] theorem AX_goto (l : Nat) : AX P lit n (.goto l) Q s = Q (.goto l) s := rfl
@[simp] theorem AX_ret : AX P lit n .ret Q s = Q .ret s := rfl
@[simp] theorem AX_loop (c : Code) : AX P lit n (.loop c) Q s = AW P n (.loop c) Q s := rfl
@[simp] theorem AX_scope (c : Code) : AX P lit n (.scope c) Q s = AW P n (.scope c) Q s := rfl
variable (K : AState → Prop)
@[simp] theorem thenA_normal : thenA K Q .normal s = K s := rfl
@[simp] theorem thenA_exit (id : Nat) : thenA K Q (.exit id) s = Q (.exit id) s := rfl
@[simp] theorem thenA_goto (l : Nat) : thenA K Q (.goto l) s = Q (.goto l) s := rfl
@[simp] theorem thenA_ret : thenA K Q .ret s = Q .ret s := rfl
@[simp] theorem inBlockA_normal (id : Nat) : inBlockA id Q .normal s = Q .normal s := rfl
@[simp] theorem inBlockA_exit (id id' : Nat) : inBlockA id Q (.exit id') s = if id' = id then Q .normal s else Q (.exit id') s := rfl
@[simp] theorem inBlockA_goto (id l : Nat) : inBlockA id Q (.goto l) s = Q (.goto l) s := rfl
@[simp] theorem inBlockA_ret (id : Nat) : inBlockA id Q .ret s = Q .ret s := rfl

/-! ### regions -/
@[simp] theorem AOps_nil (ops : Array Oper) : AOps P lit ops K [] s = K s := rfl
@[simp] theorem AOps_none (ops : Array Oper) (dst : Option Tmp) (op : Op) (ty : TypeId) (pos : String) (after : Array Edge) (rest : List Oper) :
    AOps P lit ops K ({ dst := dst, op := op, type := ty, pos := pos, after := after, guard := none } :: rest) s = AOp P lit { dst := dst, op := op, type := ty, pos := pos, after := after, guard := none } s (AOps P lit ops K rest) := rfl
@[simp] theorem AOps_some (ops : Array Oper) (dst : Option Tmp) (op : Op) (ty : TypeId) (pos : String) (after : Array Edge) (j : Nat) (want : Bool) (rest : List Oper) :
    AOps P lit ops K ({ dst := dst, op := op, type := ty, pos := pos, after := after, guard := some (j, want) } :: rest) s =
      (match guardTmp ops j with
      | none => False
      | some t => gdK P lit { dst := dst, op := op, type := ty, pos := pos, after := after, guard := some (j, want) } s t want (AOps P lit ops K rest) (s.T t)) := rfl
end

section
variable (s : AState) (K : AState → Prop) (o : Oper)
@[simp] theorem gdK_tt (t : Nat) : gdK P lit o s t true K (.val (.bool true)) = AOp P lit o { s with T := put s.T t (.val (.bool true)) } K := by simp [gdK]
@[simp] theorem gdK_ff (t : Nat) : gdK P lit o s t false K (.val (.bool false)) = AOp P lit o { s with T := put s.T t (.val (.bool false)) } K := by simp [gdK]
@[simp] theorem gdK_tf (t : Nat) : gdK P lit o s t true K (.val (.bool false)) = (dstOk s.N o.dst ∧ K (({ s with T := put s.T t (.val (.bool false)) } : AState).put o.dst (.tup []))) := by simp [gdK]
@[simp] theorem gdK_ft (t : Nat) : gdK P lit o s t false K (.val (.bool true)) = (dstOk s.N o.dst ∧ K (({ s with T := put s.T t (.val (.bool true)) } : AState).put o.dst (.tup []))) := by simp [gdK]
@[simp] theorem gdK_no (t : Nat) (want : Bool) : gdK P lit o s t want K (.tup []) = (dstOk s.N o.dst ∧ K (s.put o.dst (.tup []))) := rfl
theorem gdK_split {t : Nat} {want b : Bool} (h1 : b = want → AOp P lit o { s with T := put s.T t (.val (.bool want)) } K) (h2 : b = !want → dstOk s.N o.dst ∧ K (({ s with T := put s.T t (.val (.bool !want)) } : AState).put o.dst (.tup []))) :
    gdK P lit o s t want K (.val (.bool b)) := ⟨h1, h2⟩
@[simp] theorem dstOk_none (N : Nat) : dstOk N none = True := rfl
@[simp] theorem dstOk_some (N d : Nat) : dstOk N (some d) = (d < N) := rfl
@[simp] theorem optB_some (v : AV) (h' : AHeap) (K : AV → AHeap → Prop) : optB (some (v, h')) K = K v h' := rfl
@[simp] theorem thenOp_some (N : Nat) (T : Nat → AV) (h : AHeap) (d : Nat) (v : AV) (h' : AHeap) : thenOp K ⟨N, T, h⟩ (some d) v h' = (d < N ∧ K ⟨N, put T d v, h'⟩) := rfl
@[simp] theorem thenOp_none (N : Nat) (T : Nat → AV) (h : AHeap) (v : AV) (h' : AHeap) : thenOp K ⟨N, T, h⟩ none v h' = K ⟨N, T, h'⟩ := by simp [thenOp, dstOk, AState.put]
@[simp] theorem aput_some (N : Nat) (T : Nat → AV) (h : AHeap) (d : Nat) (v : AV) : AState.put ⟨N, T, h⟩ (some d) v = ⟨N, put T d v, h⟩ := rfl
@[simp] theorem aput_none (N : Nat) (T : Nat → AV) (h : AHeap) (v : AV) : AState.put ⟨N, T, h⟩ none v = ⟨N, T, h⟩ := rfl
@[simp] theorem put_app (T : Nat → AV) (i : Nat) (v : AV) (j : Nat) : put T i v j = if j = i then v else T j := rfl
@[simp] theorem initT_nil (j : Nat) : initT [] j = .any := by simp [initT]
@[simp] theorem initT_zero (a : AV) (l : List AV) : initT (a :: l) 0 = a := by simp [initT]
@[simp] theorem initT_succ (a : AV) (l : List AV) (j : Nat) : initT (a :: l) (j + 1) = initT l j := by simp [initT]
@[simp] theorem ev_tmp (N : Nat) (T : Nat → AV) (h : AHeap) (t : Nat) : AState.ev ⟨N, T, h⟩ (.tmp t) = T t := rfl
@[simp] theorem ev_const (v : Value) : s.ev (.const v) = ofV v := rfl
@[simp] theorem ev_func (f : Nat) : s.ev (.func f) = .fn f [] := rfl
@[simp] theorem ofV_int (k : IntKind) (m : Int) : ofV (.int k m) = .val (.int k m) := rfl
@[simp] theorem ofV_bool (b : Bool) : ofV (.bool b) = .val (.bool b) := rfl
@[simp] theorem ofV_string (b : ByteArray) : ofV (.string b) = .val (.string b) := rfl
@[simp] theorem ofV_nil : ofV (.slice none 0 0) = .sl true 0 [] := rfl
@[simp] theorem ofV_nilp : ofV (.pointer none) = .val (.pointer none) := rfl
end

section
variable (s : AState) (K : AState → Prop) (dst : Option Tmp) (ty : TypeId) (pos : String) (after : Array Edge) (g : Option (Nat × Bool))
@[simp] theorem AOp_call (f : Operand) (xs : Array Operand) (ts : Array TypeId) :
    AOp P lit { dst := dst, op := .call { callee := .value f, args := xs, argTypes := ts }, type := ty, pos := pos, after := after, guard := g } s K = AInv P (s.ev f) (xs.toList.map s.ev) s.h (thenOp K s dst) := rfl
@[simp] theorem AOp_move (x : Operand) : AOp P lit { dst := dst, op := .move x, type := ty, pos := pos, after := after, guard := g } s K = thenOp K s dst (s.ev x) s.h := rfl
@[simp] theorem AOp_assign (x : Operand) : AOp P lit { dst := dst, op := .assign x, type := ty, pos := pos, after := after, guard := g } s K = thenOp K s dst (s.ev x) s.h := rfl
def pickV (c a b : AV) : Option AV :=
  match c with
  | .val (.bool t) => some (if t then a else b)
  | _ => none
@[simp] theorem pickV_t (a b : AV) : pickV (.val (.bool true)) a b = some a := rfl
@[simp] theorem pickV_f (a b : AV) : pickV (.val (.bool false)) a b = some b := rfl
@[simp] theorem pickV_or (t u : Bool) : pickV (.val (.bool t)) (.val (.bool true)) (.val (.bool u)) = some (.val (.bool (t || u))) := by cases t <;> rfl
@[simp] theorem pickV_and (t u : Bool) : pickV (.val (.bool t)) (.val (.bool u)) (.val (.bool false)) = some (.val (.bool (t && u))) := by cases t <;> rfl
def onV (x : Option AV) (h : AHeap) : Option (AV × AHeap) := x.map fun v => (v, h)
@[simp] theorem onV_some (v : AV) (h : AHeap) : onV (some v) h = some (v, h) := rfl
@[simp] theorem AOp_pick (c a b : Operand) : AOp P lit { dst := dst, op := .pick c a b, type := ty, pos := pos, after := after, guard := g } s K = optB (onV (pickV (s.ev c) (s.ev a) (s.ev b)) s.h) (thenOp K s dst) := by
  simp only [AOp, goCall, ev]
  generalize s.ev c = x
  cases x <;> try rfl
  rename_i v
  cases v <;> rfl
def allocV (zs : Option (List AV)) (h : AHeap) : Option (AV × AHeap) := zs.map fun zs => (.ptr h.length 0 0, h ++ [.cells 0 zs])
@[simp] theorem allocV_some (zs : List AV) (h : AHeap) : allocV (some zs) h = some (.ptr h.length 0 0, h ++ [.cells 0 zs]) := rfl
@[simp] theorem AOp_alloc (t : TypeId) : AOp P lit { dst := dst, op := .alloc t, type := ty, pos := pos, after := after, guard := g } s K = optB (allocV (tzero P t) s.h) (thenOp K s dst) := rfl
@[simp] theorem AOp_box (t : TypeId) (x : Operand) : AOp P lit { dst := dst, op := .box t x, type := ty, pos := pos, after := after, guard := g } s K = optB (allocV (cellsOf (s.ev x)) s.h) (thenOp K s dst) := rfl
@[simp] theorem AOp_build (t : TypeId) (ps : Array (Nat × Operand)) : AOp P lit { dst := dst, op := .build t ps, type := ty, pos := pos, after := after, guard := g } s K = optB (onV (abuild P t (ps.toList.map fun p => (p.1, s.ev p.2))) s.h) (thenOp K s dst) := rfl
def litV (own : Bool) (len : Nat) (x : Option (List AV × Nat)) (h : AHeap) : Option (AV × AHeap) :=
  match x with
  | some (cs, k) => if own then some (.own h.length 0 0 len k, h ++ [.cells 0 cs]) else some (.sl true len cs, h)
  | none => none
@[simp] theorem litV_f (len k : Nat) (cs : List AV) (h : AHeap) : litV false len (some (cs, k)) h = some (.sl true len cs, h) := rfl
@[simp] theorem litV_t (len k : Nat) (cs : List AV) (h : AHeap) : litV true len (some (cs, k)) h = some (.own h.length 0 0 len k, h ++ [.cells 0 cs]) := rfl
@[simp] theorem AOp_buildSlice (t : TypeId) (len : Nat) (ps : Array (Nat × Operand)) : AOp P lit { dst := dst, op := .buildSlice t len ps, type := ty, pos := pos, after := after, guard := g } s K = optB (litV (lit t) len (abuildSlice P t len (ps.toList.map fun p => (p.1, s.ev p.2))) s.h) (thenOp K s dst) := by
  simp only [AOp, goCall, ev]
  unfold litV
  split <;> rename_i h1 <;> rw [h1]
@[simp] theorem AOp_load (t : TypeId) (x : Operand) : AOp P lit { dst := dst, op := .load t x, type := ty, pos := pos, after := after, guard := g } s K = optB (onV (aload P t (s.ev x) s.h) s.h) (thenOp K s dst) := rfl
def storeV (x : Option AHeap) : Option (AV × AHeap) := x.map fun h' => (.any, h')
@[simp] theorem storeV_some (h : AHeap) : storeV (some h) = some (.any, h) := rfl
@[simp] theorem AOp_store (t : TypeId) (p x : Operand) : AOp P lit { dst := dst, op := .store t p x, type := ty, pos := pos, after := after, guard := g } s K = optB (storeV (astore P t (s.ev p) (s.ev x) s.h)) (thenOp K s dst) := rfl
def nilV : AV → Option AV
  | .ptr id ver off => some (.ptr id ver off)
  | .fp cs => some (.fp cs)
  | .fn f cs => some (.fn f cs)
  | _ => none
@[simp] theorem nilV_ptr (id ver off : Nat) : nilV (.ptr id ver off) = some (.ptr id ver off) := rfl
@[simp] theorem nilV_fp (cs : List AV) : nilV (.fp cs) = some (.fp cs) := rfl
@[simp] theorem nilV_fn (f : FuncId) (cs : List AV) : nilV (.fn f cs) = some (.fn f cs) := rfl
@[simp] theorem AOp_nilCheck (x : Operand) : AOp P lit { dst := dst, op := .nilCheck x, type := ty, pos := pos, after := after, guard := g } s K = optB (onV (nilV (s.ev x)) s.h) (thenOp K s dst) := by
  simp only [AOp, goCall, ev]
  cases s.ev x <;> rfl
@[simp] theorem AOp_fieldAddr (t : TypeId) (x : Operand) (i : Nat) : AOp P lit { dst := dst, op := .fieldAddr t x i, type := ty, pos := pos, after := after, guard := g } s K = optB (onV (afield P t (s.ev x) i) s.h) (thenOp K s dst) := rfl
@[simp] theorem AOp_field (t : TypeId) (x : Operand) (i : Nat) : AOp P lit { dst := dst, op := .field t x i, type := ty, pos := pos, after := after, guard := g } s K = optB (onV (afieldV P t (s.ev x) i) s.h) (thenOp K s dst) := rfl
@[simp] theorem AOp_indexAddr (t : TypeId) (x i : Operand) : AOp P lit { dst := dst, op := .indexAddr t x i, type := ty, pos := pos, after := after, guard := g } s K = optB (onV (aindex P t (s.ev x) (s.ev i)) s.h) (thenOp K s dst) := rfl
@[simp] theorem AOp_index (t : TypeId) (x i : Operand) : AOp P lit { dst := dst, op := .index t x i, type := ty, pos := pos, after := after, guard := g } s K = optB (onV (aindexV P t (s.ev x) (s.ev i)) s.h) (thenOp K s dst) := rfl
def sliceV (P : Program) (t : TypeId) (x : AV) (lo hi mx : Option AV) : Option AV :=
  match x with
  | .val c => asliceV P t (.val c) lo hi mx
  | x => aslice P t x lo hi mx
@[simp] theorem sliceV_val (t : TypeId) (c : Value) (lo hi mx : Option AV) : sliceV P t (.val c) lo hi mx = asliceV P t (.val c) lo hi mx := rfl
@[simp] theorem sliceV_sl (t : TypeId) (tt : Bool) (m : Nat) (cs : List AV) (lo hi mx : Option AV) : sliceV P t (.sl tt m cs) lo hi mx = aslice P t (.sl tt m cs) lo hi mx := rfl
@[simp] theorem sliceV_own (t : TypeId) (id ver off m k : Nat) (lo hi mx : Option AV) : sliceV P t (.own id ver off m k) lo hi mx = aslice P t (.own id ver off m k) lo hi mx := rfl
@[simp] theorem AOp_slice (t : TypeId) (x : Operand) (lo hi mx : Option Operand) : AOp P lit { dst := dst, op := .slice t x lo hi mx, type := ty, pos := pos, after := after, guard := g } s K = optB (onV (sliceV P t (s.ev x) (lo.map s.ev) (hi.map s.ev) (mx.map s.ev)) s.h) (thenOp K s dst) := by
  simp only [AOp, goCall, ev]
  cases s.ev x <;> rfl
@[simp] theorem AOp_extract (x : Operand) (i : Nat) : AOp P lit { dst := dst, op := .extract x i, type := ty, pos := pos, after := after, guard := g } s K = optB (onV (aextract (s.ev x) i) s.h) (thenOp K s dst) := rfl
@[simp] theorem AOp_makeFunc (f : FuncId) (cap : Array Operand) : AOp P lit { dst := dst, op := .makeFunc (.func f) #[] cap, type := ty, pos := pos, after := after, guard := g } s K = thenOp K s dst (.fn f (cap.toList.map s.ev)) s.h := rfl
@[simp] theorem AOp_binOp (op : BinOp) (t : TypeId) (x y : Operand) (yt : TypeId) : AOp P lit { dst := dst, op := .binOp op t x y yt, type := ty, pos := pos, after := after, guard := g } s K = optB (onV (abin P op t x y (s.ev x) (s.ev y)) s.h) (thenOp K s dst) := rfl
@[simp] theorem AOp_unOp (op : UnOp) (t : TypeId) (x : Operand) : AOp P lit { dst := dst, op := .unOp op t x, type := ty, pos := pos, after := after, guard := g } s K = optB (onV (aun P op (s.ev x)) s.h) (thenOp K s dst) := rfl
@[simp] theorem AOp_convert (src t : TypeId) (x : Operand) : AOp P lit { dst := dst, op := .convert src t x, type := ty, pos := pos, after := after, guard := g } s K = optB (onV (aconvS P src t (s.ev x) s.h) s.h) (thenOp K s dst) := rfl
@[simp] theorem aconvS_val (src t : TypeId) (v : Value) (h : AHeap) : aconvS P src t (.val v) h = aconv P src t (.val v) := rfl
@[simp] theorem aconvS_sl (src t : TypeId) (tt : Bool) (n : Nat) (cs : List AV) (h : AHeap) : aconvS P src t (.sl tt n cs) h = aconvB P src t (.sl tt n cs) h := rfl
@[simp] theorem aconvS_own (src t : TypeId) (id ver off n k : Nat) (h : AHeap) : aconvS P src t (.own id ver off n k) h = aconvB P src t (.own id ver off n k) h := rfl
def newMapV (h : AHeap) : Option (AV × AHeap) := some (.mp h.length, h ++ [.map [] []])
@[simp] theorem newMapV_eq (h : AHeap) : newMapV h = some (.mp h.length, h ++ [.map [] []]) := rfl
@[simp] theorem AOp_makeMap (t : TypeId) : AOp P lit { dst := dst, op := .makeMap t none, type := ty, pos := pos, after := after, guard := g } s K = optB (newMapV s.h) (thenOp K s dst) := rfl
@[simp] theorem AOp_insert (t : TypeId) (m k x : Operand) : AOp P lit { dst := dst, op := .insert t m k x, type := ty, pos := pos, after := after, guard := g } s K = optB (storeV (ainsert P t (s.ev m) (s.ev k) (s.ev x) s.h)) (thenOp K s dst) := rfl
@[simp] theorem AOp_mapUpdate (t : TypeId) (m k x : Operand) : AOp P lit { dst := dst, op := .mapUpdate t m k x, type := ty, pos := pos, after := after, guard := g } s K = optB (storeV (ainsert P t (s.ev m) (s.ev k) (s.ev x) s.h)) (thenOp K s dst) := rfl
@[simp] theorem AOp_lookup (t : TypeId) (m k : Operand) (ok : Bool) : AOp P lit { dst := dst, op := .lookup t m k ok, type := ty, pos := pos, after := after, guard := g } s K = optB (onV (alookup P t (s.ev m) (s.ev k) ok s.h) s.h) (thenOp K s dst) := rfl
@[simp] theorem AOp_builtin (b : Builtin) (xs : List Operand) (ts : List TypeId) :
    AOp P lit { dst := dst, op := .call { callee := .builtin b, args := xs.toArray, argTypes := ts.toArray }, type := ty, pos := pos, after := after, guard := g } s K = optB (evCall P s.h b ts ty (xs.toArray.map fun | .const _ => true | _ => false) (xs.map s.ev)) (thenOp K s dst) := rfl
end

/-! ### values -/
@[simp] theorem evCall_len (h : AHeap) (t ty : TypeId) (cs : Array Bool) (x : AV) : evCall P h .len [t] ty cs [x] = onV (alen P t x) h := by
  simp only [evCall]; cases alen P t x <;> rfl
@[simp] theorem evCall_append (h : AHeap) (t ty : TypeId) (cs : Array Bool) (x y : AV) : evCall P h .append [t, t] ty cs [x, y] = aappend P t x y h := by simp [evCall]
@[simp] theorem aextract_tup (vs : List AV) (i : Nat) : aextract (.tup vs) i = vs[i]? := rfl
@[simp] theorem alen_sl (t : TypeId) (tt : Bool) (m : Nat) (cs : List AV) : alen P t (.sl tt m cs) = if (telem P t).isSome then some (.val (.int .i64 m)) else none := rfl
@[simp] theorem alen_own (t : TypeId) (id ver off m k : Nat) : alen P t (.own id ver off m k) = if (telem P t).isSome then some (.val (.int .i64 m)) else none := rfl
@[simp] theorem cellsOf_agg (cs : List AV) : cellsOf (.agg cs) = some cs := rfl
@[simp] theorem cellsOf_val (v : Value) : cellsOf (.val v) = some [.val v] := rfl
@[simp] theorem cellsOf_sl (tt : Bool) (m : Nat) (cs : List AV) : cellsOf (.sl tt m cs) = some [.sl tt m cs] := rfl
@[simp] theorem cellsOf_own (id ver off m k : Nat) : cellsOf (.own id ver off m k) = some [.own id ver off m k] := rfl
@[simp] theorem cellsOf_fn (f : FuncId) (cs : List AV) : cellsOf (.fn f cs) = some [.fn f cs] := rfl
@[simp] theorem cellsOf_ptr (id ver off : Nat) : cellsOf (.ptr id ver off) = some [.ptr id ver off] := rfl
@[simp] theorem cellsOf_fp (cs : List AV) : cellsOf (.fp cs) = some [.fp cs] := rfl
@[simp] theorem isOne_val (v : Value) : isOne (.val v) = true := rfl
@[simp] theorem isOne_sl (tt : Bool) (m : Nat) (cs : List AV) : isOne (.sl tt m cs) = true := rfl
@[simp] theorem isOne_own (id ver off m k : Nat) : isOne (.own id ver off m k) = true := rfl
@[simp] theorem isOne_fn (f : FuncId) (cs : List AV) : isOne (.fn f cs) = true := rfl
@[simp] theorem isOne_ptr (id ver off : Nat) : isOne (.ptr id ver off) = true := rfl
@[simp] theorem isOne_fp (cs : List AV) : isOne (.fp cs) = true := rfl
@[simp] theorem aload1_t (k : Nat) (cs : List AV) : aload1 true k cs = if k ≤ cs.length then some (.agg (cs.take k)) else none := rfl
@[simp] theorem aload1_f (k : Nat) (cs : List AV) : aload1 false k cs = cs.head? := rfl
@[simp] theorem setMany_nil (cs : List AV) (off : Nat) : setMany cs off [] = cs := rfl
@[simp] theorem setMany_cons (cs : List AV) (off : Nat) (v : AV) (vs : List AV) : setMany cs off (v :: vs) = setMany (cs.set off v) (off + 1) vs := rfl

section
variable (t : TypeId) (ox oy : Operand) (k : IntKind) (a b : Int)
@[simp] theorem bin_add : abin P .add t ox oy (.val (.int k a)) (.val (.int k b)) = some (.val (.int k (k.wrap (a + b)))) := by simp [abin, conc, eqGuard, binOp, Op.intArith]
@[simp] theorem bin_sub : abin P .sub t ox oy (.val (.int k a)) (.val (.int k b)) = some (.val (.int k (k.wrap (a - b)))) := by simp [abin, conc, eqGuard, binOp, Op.intArith]
@[simp] theorem bin_mul : abin P .mul t ox oy (.val (.int k a)) (.val (.int k b)) = some (.val (.int k (k.wrap (a * b)))) := by simp [abin, conc, eqGuard, binOp, Op.intArith]
@[simp] theorem bin_lss : abin P .lss t ox oy (.val (.int k a)) (.val (.int k b)) = some (.val (.bool (decide (a < b)))) := by simp [abin, conc, eqGuard, binOp, Op.intCmp]
@[simp] theorem bin_leq : abin P .leq t ox oy (.val (.int k a)) (.val (.int k b)) = some (.val (.bool (decide (a ≤ b)))) := by simp [abin, conc, eqGuard, binOp, Op.intCmp]
@[simp] theorem bin_gtr : abin P .gtr t ox oy (.val (.int k a)) (.val (.int k b)) = some (.val (.bool (decide (b < a)))) := by simp [abin, conc, eqGuard, binOp, Op.intCmp]
@[simp] theorem bin_geq : abin P .geq t ox oy (.val (.int k a)) (.val (.int k b)) = some (.val (.bool (decide (b ≤ a)))) := by simp [abin, conc, eqGuard, binOp, Op.intCmp]
@[simp] theorem bin_eql : abin P .eql t ox oy (.val (.int k a)) (.val (.int k b)) = some (.val (.bool (decide (a = b)))) := by simp [abin, conc, eqGuard, binOp, Op.intCmp]; try rfl
@[simp] theorem bin_neq : abin P .neq t ox oy (.val (.int k a)) (.val (.int k b)) = some (.val (.bool (!decide (a = b)))) := by simp [abin, conc, eqGuard, binOp, Op.intCmp]; try rfl
theorem str_beq (x y : ByteArray) : (x.toList == y.toList) = decide (x = y) := by
  rw [Bool.eq_iff_iff]
  simp only [beq_iff_eq, decide_eq_true_eq]
  refine ⟨fun h => ?_, fun h => by rw [h]⟩
  rw [ByteArray.toList_eq, ByteArray.toList_eq] at h
  cases x; cases y
  congr 1
  exact Array.ext' h
@[simp] theorem bins_eql (x y : ByteArray) : abin P .eql t ox oy (.val (.string x)) (.val (.string y)) = some (.val (.bool (decide (x = y)))) := by
  rw [← str_beq]; simp [abin, conc, eqGuard, binOp, Op.stringOp, ofV, cellV]
@[simp] theorem bins_neq (x y : ByteArray) : abin P .neq t ox oy (.val (.string x)) (.val (.string y)) = some (.val (.bool (!decide (x = y)))) := by
  rw [← str_beq]; simp [abin, conc, eqGuard, binOp, Op.stringOp, ofV, cellV]
theorem bins_add {x y : ByteArray} (hl : (x.size : Int) + y.size ≤ 9223372036854775807) : abin P .add t ox oy (.val (.string x)) (.val (.string y)) = some (.val (.string (x ++ y))) := by
  have h1 : ¬ ((9223372036854775807 : Int) < (x.size : Int) + (y.size : Int)) := by omega
  simp [abin, conc, eqGuard, binOp, Op.stringOp, ofV, cellV, pr_ite, h1]
theorem pr_equal_bool (ht : P.underlying t = some .bool) (x y : Bool) : pr P (Op.equal t (.bool x) (.bool y)) = some (x == y) := by
  show pr P (Op.equalIn (9999 + 1) t (.bool x) (.bool y)) = _
  rw [Op.equalIn]
  rw [pr_bind, pr_underlying ht]
  rfl
theorem binb_eql (ht : P.underlying t = some .bool) (x y : Bool) : abin P .eql t ox oy (.val (.bool x)) (.val (.bool y)) = some (.val (.bool (x == y))) := by
  have h1 : pr P (binOp .eql t (.bool x) (.bool y)) = some (.bool (x == y)) := by
    show pr P (do pure (Value.bool (← Op.equal t (.bool x) (.bool y)))) = _
    rw [pr_bind, pr_equal_bool t ht]; rfl
  have h2 : pr P (eqGuard .eql t ox oy (.bool x) (.bool y)) = some () := rfl
  simp only [abin, conc, h1, h2]; rfl
theorem binb_neq (ht : P.underlying t = some .bool) (x y : Bool) : abin P .neq t ox oy (.val (.bool x)) (.val (.bool y)) = some (.val (.bool (x != y))) := by
  have h1 : pr P (binOp .neq t (.bool x) (.bool y)) = some (.bool (x != y)) := by
    show pr P (do pure (Value.bool (!(← Op.equal t (.bool x) (.bool y))))) = _
    rw [pr_bind, pr_equal_bool t ht]; rfl
  have h2 : pr P (eqGuard .neq t ox oy (.bool x) (.bool y)) = some () := rfl
  simp only [abin, conc, h1, h2]; rfl
@[simp] theorem un_not (x : Bool) : aun P .not (.val (.bool x)) = some (.val (.bool !x)) := rfl
@[simp] theorem un_neg : aun P .neg (.val (.int k a)) = some (.val (.int k (k.wrap (0 - a)))) := by simp [aun, conc, Op.unary, Op.intArith]
end


/-! ### the end of a function -/
@[simp] theorem resA_tmp (s : AState) (t : Tmp) : resA P s (.tmp t) = some (s.T t) := rfl
@[simp] theorem resA_cell (s : AState) (t : Tmp) (ty : TypeId) : resA P s (.cell t ty) = aload P ty (s.T t) s.h := rfl
@[simp] theorem isEnd_normal : isEnd .normal = true := rfl
@[simp] theorem isEnd_ret : isEnd .ret = true := rfl
theorem frz_neat (h : AHeap) (m f : Nat) {v : AV} (hv : neat v = true) : frz h m (f + 1) v = some v := by simp [frz, hv]
theorem PostA.one {t : Tmp} {s : AState} {e : Exit} {Q : AV → AHeap → Prop} (he : isEnd e = true) (v : AV) (hv : frz s.h 0 12 (s.T t) = some v) (hq : Q v []) : PostA P [.tmp t] 0 Q e s :=
  ⟨he, [s.T t], v, rfl, hv, by simp, by simpa using hq⟩
theorem PostA.of {rs : List ResultVar} {s : AState} {e : Exit} {Q : AV → AHeap → Prop} (he : isEnd e = true) (vs : List AV) (hr : rs.mapM (resA P s) = some vs) (v : AV) (hv : frz s.h 0 12 (resV vs) = some v) (hq : Q v []) : PostA P rs 0 Q e s :=
  ⟨he, vs, v, hr, hv, by simp, by simpa using hq⟩

attribute [simp] ainsert alookup mapOf lookV okV isKeyB afind Instr.sameNow aload afield afieldV aindex aslice astore abuild abuildSlice afill guardTmp zeros srcCells aappend intOf? boundOr resV

end Go.Cx
