import Derived.Test.YtgpkaoombhobmaaGreatJBb
import Derived.IntWalk
set_option linter.unusedVariables false
set_option linter.unusedSimpArgs false
namespace Go.Cx
variable {P:Program} {lit:TypeId->Bool} {n:Nat}
theorem Ent.mk {f : FuncId} {fn : Func} (hf : P.funcs[f]? = some fn) (hn : (fn.name == "runtime.NumGoroutine") = false) (hb : fn.body.isNone = false) : Ent P f := by
 intro args w
 unfold callFunc
 simp only[Sem.run_bind,run_program,Result.andThen_ok,hf,hn,hb,Bool.false_eq_true,if_false,Sem.run_pure]
section
variable (Q:Exit->Zc->Prop) (s:Zc)
@[simp] theorem AX_skip:AX P lit n .skip Q s=Q .normal s:=rfl
@[simp] theorem AX_label (l:Nat):AX P lit n (.label l) Q s=Q .normal s:=rfl
@[simp] theorem AX_region (id:Nat) (ops:List Oper):AX P lit n (.region id ops.toArray false) Q s=AOps P lit ops.toArray (Q .normal) ops s:=rfl
@[simp] theorem AX_draw (id:Nat) (ops:Array Oper):AX P lit n (.region id ops true) Q s=AW P n (.region id ops true) Q s:=rfl
@[simp] theorem AX_seq (a b:Code):AX P lit n (.seq a b) Q s=AX P lit n a (Zfb (AX P lit n b Q) Q) s:=rfl
def Zfe (P:Program) (lit:TypeId->Bool) (n:Nat) (a b:Code) (Q:Exit->Zc->Prop) (s:Zc) (c:AV):Prop:=
 match c with
 | .val (.bool t)=>(t=true->AX P lit n a Q s)/\(t=false->AX P lit n b Q s)
 |_=>False
@[simp] theorem AX_cond (c:Operand) (a b:Code):AX P lit n (.cond c a b) Q s=Zfe P lit n a b Q s (s.ev c):=rfl
@[simp] theorem condK_true (a b:Code):Zfe P lit n a b Q s (.val (.bool true))=AX P lit n a Q s:=by simp[Zfe]
@[simp] theorem condK_false (a b:Code):Zfe P lit n a b Q s (.val (.bool false))=AX P lit n b Q s:=by simp[Zfe]
theorem ZcU {a b:Code} {t:Bool} (h1:t=true->AX P lit n a Q s) (h2:t=false->AX P lit n b Q s):Zfe P lit n a b Q s (.val (.bool t)):=⟨h1,h2⟩
@[simp] theorem AX_block (id:Nat) (c:Code):AX P lit n (.block id c) Q s=AX P lit n c (Zbq id Q) s:=rfl
@[simp] theorem AX_exit (id:Nat):AX P lit n (.exit id) Q s=Q (.exit id) s:=rfl
@[simp] theorem AX_goto (l:Nat):AX P lit n (.goto l) Q s=Q (.goto l) s:=rfl
@[simp] theorem AX_ret:AX P lit n .ret Q s=Q .ret s:=rfl
@[simp] theorem AX_loop (c:Code):AX P lit n (.loop c) Q s=AW P n (.loop c) Q s:=rfl
@[simp] theorem AX_scope (c:Code):AX P lit n (.scope c) Q s=AW P n (.scope c) Q s:=rfl
variable (K:Zc->Prop)
@[simp] theorem thenA_normal:Zfb K Q .normal s=K s:=rfl
@[simp] theorem thenA_exit (id:Nat):Zfb K Q (.exit id) s=Q (.exit id) s:=rfl
@[simp] theorem thenA_goto (l:Nat):Zfb K Q (.goto l) s=Q (.goto l) s:=rfl
@[simp] theorem thenA_ret:Zfb K Q .ret s=Q .ret s:=rfl
@[simp] theorem ZsY (id:Nat):Zbq id Q .normal s=Q .normal s:=rfl
@[simp] theorem Zwm (id id':Nat):Zbq id Q (.exit id') s=if id'=id then Q .normal s else Q (.exit id') s:=rfl
@[simp] theorem Zwn (id l:Nat):Zbq id Q (.goto l) s=Q (.goto l) s:=rfl
@[simp] theorem inBlockA_ret (id:Nat):Zbq id Q .ret s=Q .ret s:=rfl
@[simp] theorem AOps_nil (ops:Array Oper):AOps P lit ops K [] s=K s:=rfl
@[simp] theorem AOps_none (ops:Array Oper) (dst:Option Tmp) (op:Op) (ty:TypeId) (pos:String) (after:Array Edge) (rest:List Oper):
  AOps P lit ops K ({dst:=dst,op:=op,type:=ty,pos:=pos,after:=after,guard:=none}::rest) s=ZmL (ZiF P s.ev s.h op) (ZH (AOps P lit ops K rest) s dst) s.h (nilK (Zqq P s.ev op) (ZH (AOps P lit ops K rest) s dst) s.h (AOp P lit {dst:=dst,op:=op,type:=ty,pos:=pos,after:=after,guard:=none} s (AOps P lit ops K rest))):=rfl
attribute [simp] Zqq ZiF Zot Zwg Zov ZjR acap ZsR ZkU ZeY ZeZ Zfa ZiD blkCells setBlk
@[simp] theorem hookK_none (K:AV->Za->Prop) (h:Za) (A:Prop):ZmL .none K h A=A:=rfl
@[simp] theorem hookK_val (v:AV) (h':Za) (K:AV->Za->Prop) (h:Za) (A:Prop):ZmL (.val v h') K h A=K v h':=rfl
@[simp] theorem hookK_next (id:Nat) (ks vs:List AV) (todo:List Nat) (K:AV->Za->Prop) (h:Za) (A:Prop):ZmL (.next id ks vs todo) K h A=((todo=[]->K (.tup [.val (.bool false)]) h)/\∀(i:Nat) (k v:AV),i∈todo->ks[i]? =some k->vs[i]? =some v->K (.tup [.val (.bool true),k,v]) (h.set id (.iter ks vs (todo.erase i) (some i)))):=rfl
@[simp] theorem nilK_none (K:AV->Za->Prop) (h:Za) (A:Prop):nilK none K h A=A:=rfl
@[simp] theorem nilK_some (q:Bool) (n:Nat) (K:AV->Za->Prop) (h:Za) (A:Prop):nilK (some (q,n)) K h A=∀b:Bool,(0<n->b= !q)->K (.val (.bool b)) h:=rfl
theorem ZaU {P:Program} {op:BinOp} {t:TypeId} {y:Operand} {x:AV} (h:lenSl x=none):Zdr P op t y x=none:=by
 unfold Zdr;split<;>simp_all
section
variable (op:BinOp) (t:TypeId) (y:Operand)
@[simp] theorem nilOf_val (v:Value):Zdr P op t y (.val v)=none:=ZaU rfl
@[simp] theorem nilOf_any:Zdr P op t y .any=none:=ZaU rfl
@[simp] theorem nilOf_agg (cs:List AV):Zdr P op t y (.agg cs)=none:=ZaU rfl
@[simp] theorem nilOf_tup (cs:List AV):Zdr P op t y (.tup cs)=none:=ZaU rfl
@[simp] theorem nilOf_fp (cs:List AV):Zdr P op t y (.fp cs)=none:=ZaU rfl
@[simp] theorem nilOf_fn (f:FuncId) (cs:List AV):Zdr P op t y (.fn f cs)=none:=ZaU rfl
@[simp] theorem nilOf_fmap (ks vs:List AV):Zdr P op t y (.fmap ks vs)=none:=ZaU rfl
@[simp] theorem nilOf_ptr (id ver off:Nat):Zdr P op t y (.ptr id ver off)=none:=ZaU rfl
@[simp] theorem nilOf_mp (id:Nat):Zdr P op t y (.mp id)=none:=ZaU rfl
@[simp] theorem nilOf_eqlSl (b:Bool) (n:Nat) (cs:List AV):Zdr P .eql t (.const (.slice none 0 0)) (.sl b n cs)=if(Zab P t).isSome then some (true,n) else none:=rfl
@[simp] theorem nilOf_neqSl (b:Bool) (n:Nat) (cs:List AV):Zdr P .neq t (.const (.slice none 0 0)) (.sl b n cs)=if(Zab P t).isSome then some (false,n) else none:=rfl
@[simp] theorem nilOf_eqlOwn (id ver off n k:Nat):Zdr P .eql t (.const (.slice none 0 0)) (.own id ver off n k)=if(Zab P t).isSome then some (true,n) else none:=rfl
@[simp] theorem nilOf_neqOwn (id ver off n k:Nat):Zdr P .neq t (.const (.slice none 0 0)) (.own id ver off n k)=if(Zab P t).isSome then some (false,n) else none:=rfl
end
@[simp] theorem AOps_some (ops:Array Oper) (dst:Option Tmp) (op:Op) (ty:TypeId) (pos:String) (after:Array Edge) (j:Nat) (want:Bool) (rest:List Oper):
  AOps P lit ops K ({dst:=dst,op:=op,type:=ty,pos:=pos,after:=after,guard:=some (j,want)}::rest) s=
   (match Zbp ops j with
   |none=>False
   |some t=>gdK P lit {dst:=dst,op:=op,type:=ty,pos:=pos,after:=after,guard:=some (j,want)} s t want (AOps P lit ops K rest) (s.T t)):=rfl
end
section
variable (s:Zc) (K:Zc->Prop) (o:Oper)
@[simp] theorem gdK_tt (t:Nat):gdK P lit o s t true K (.val (.bool true))=AOp P lit o {s with T:=put s.T t (.val (.bool true))} K:=by simp[gdK]
@[simp] theorem gdK_ff (t:Nat):gdK P lit o s t false K (.val (.bool false))=AOp P lit o {s with T:=put s.T t (.val (.bool false))} K:=by simp[gdK]
@[simp] theorem gdK_tf (t:Nat):gdK P lit o s t true K (.val (.bool false))=(Zeo s.N o.dst/\K (({s with T:=put s.T t (.val (.bool false))}:Zc).put o.dst (.tup []))):=by simp[gdK]
@[simp] theorem gdK_ft (t:Nat):gdK P lit o s t false K (.val (.bool true))=(Zeo s.N o.dst/\K (({s with T:=put s.T t (.val (.bool true))}:Zc).put o.dst (.tup []))):=by simp[gdK]
@[simp] theorem gdK_no (t:Nat) (want:Bool):gdK P lit o s t want K (.tup [])=(Zeo s.N o.dst/\K (s.put o.dst (.tup []))):=rfl
@[simp] theorem dstOk_none (N:Nat):Zeo N none=True:=rfl
@[simp] theorem dstOk_some (N d:Nat):Zeo N (some d)=(d<N):=rfl
@[simp] theorem optB_some (v:AV) (h':Za) (K:AV->Za->Prop):optB (some (v,h')) K=K v h':=rfl
@[simp] theorem thenOp_some (N:Nat) (T:Nat->AV) (h:Za) (d:Nat) (v:AV) (h':Za):ZH K ⟨N,T,h⟩ (some d) v h'=(d<N/\K ⟨N,put T d v,h'⟩):=rfl
@[simp] theorem thenOp_none (N:Nat) (T:Nat->AV) (h:Za) (v:AV) (h':Za):ZH K ⟨N,T,h⟩ none v h'=K ⟨N,T,h'⟩:=by simp[ZH,Zeo,Zc.put]
@[simp] theorem aput_some (N:Nat) (T:Nat->AV) (h:Za) (d:Nat) (v:AV):Zc.put ⟨N,T,h⟩ (some d) v=⟨N,put T d v,h⟩:=rfl
@[simp] theorem aput_none (N:Nat) (T:Nat->AV) (h:Za) (v:AV):Zc.put ⟨N,T,h⟩ none v=⟨N,T,h⟩:=rfl
@[simp] theorem put_app (T:Nat->AV) (i:Nat) (v:AV) (j:Nat):put T i v j=if j=i then v else T j:=rfl
@[simp] theorem initT_nil (j:Nat):Zbr [] j= .any:=by simp[Zbr]
@[simp] theorem initT_zero (a:AV) (l:List AV):Zbr (a::l) 0=a:=by simp[Zbr]
@[simp] theorem initT_succ (a:AV) (l:List AV) (j:Nat):Zbr (a::l) (j+1)=Zbr l j:=by simp[Zbr]
@[simp] theorem ev_tmp (N:Nat) (T:Nat->AV) (h:Za) (t:Nat):Zc.ev ⟨N,T,h⟩ (.tmp t)=T t:=rfl
@[simp] theorem ev_const (v:Value):s.ev (.const v)=ofV v:=rfl
@[simp] theorem ev_func (f:Nat):s.ev (.func f)= .fn f []:=rfl
@[simp] theorem ofV_int (k:IntKind) (m:Int):ofV (.int k m)= .val (.int k m):=rfl
@[simp] theorem ofV_bool (b:Bool):ofV (.bool b)= .val (.bool b):=rfl
@[simp] theorem ofV_string (b:ByteArray):ofV (.string b)= .val (.string b):=rfl
@[simp] theorem ofV_nil:ofV (.slice none 0 0)= .sl true 0 []/\ofV (.pointer none)= .val (.pointer none):=⟨rfl,rfl⟩
end
section
variable (s:Zc) (K:Zc->Prop) (dst:Option Tmp) (ty:TypeId) (pos:String) (after:Array Edge) (g:Option (Nat×Bool))
@[simp] theorem AOp_call (f:Operand) (xs:Array Operand) (ts:Array TypeId):
  AOp P lit {dst:=dst,op:= .call {callee:= .value f,args:=xs,argTypes:=ts},type:=ty,pos:=pos,after:=after,guard:=g} s K=AInv P (s.ev f) (xs.toList.map s.ev) s.h (ZH K s dst):=rfl
@[simp] theorem AOp_move (x:Operand):AOp P lit {dst:=dst,op:= .move x,type:=ty,pos:=pos,after:=after,guard:=g} s K=ZH K s dst (s.ev x) s.h:=rfl
@[simp] theorem AOp_assign (x:Operand):AOp P lit {dst:=dst,op:= .assign x,type:=ty,pos:=pos,after:=after,guard:=g} s K=ZH K s dst (s.ev x) s.h:=rfl
def ZsZ (c a b:AV):Option AV:=
 match c with
 | .val (.bool t)=>some (if t then a else b)
 |_=>none
@[simp] theorem pickV_t (a b:AV):ZsZ (.val (.bool true)) a b=some a/\ZsZ (.val (.bool false)) a b=some b:=⟨rfl,rfl⟩
@[simp] theorem pickV_or (t u:Bool):ZsZ (.val (.bool t)) (.val (.bool true)) (.val (.bool u))=some (.val (.bool (t||u))):=by cases t<;>rfl
@[simp] theorem pickV_and (t u:Bool):ZsZ (.val (.bool t)) (.val (.bool u)) (.val (.bool false))=some (.val (.bool (t&&u))):=by cases t<;>rfl
def onV (x:Option AV) (h:Za):Option (AV×Za):=x.map λv=>(v,h)
@[simp] theorem onV_some (v:AV) (h:Za):onV (some v) h=some (v,h):=rfl
@[simp] theorem AOp_pick (c a b:Operand):AOp P lit {dst:=dst,op:= .pick c a b,type:=ty,pos:=pos,after:=after,guard:=g} s K=optB (onV (ZsZ (s.ev c) (s.ev a) (s.ev b)) s.h) (ZH K s dst):=by
 simp only[AOp,ZcD,ev]
 generalize s.ev c=x
 cases x<;>try rfl
 rename_i v
 cases v<;>rfl
def Zta (zs:Option (List AV)) (h:Za):Option (AV×Za):=zs.map λzs=>(.ptr h.length 0 0,h++[.cells 0 zs])
@[simp] theorem allocV_some (zs:List AV) (h:Za):Zta (some zs) h=some (.ptr h.length 0 0,h++[.cells 0 zs]):=rfl
@[simp] theorem AOp_alloc (t:TypeId):AOp P lit {dst:=dst,op:= .alloc t,type:=ty,pos:=pos,after:=after,guard:=g} s K=optB (Zta (ZU P t) s.h) (ZH K s dst):=rfl
@[simp] theorem AOp_box (t:TypeId) (x:Operand):AOp P lit {dst:=dst,op:= .box t x,type:=ty,pos:=pos,after:=after,guard:=g} s K=optB (Zta (cellsOf (s.ev x)) s.h) (ZH K s dst):=rfl
@[simp] theorem AOp_build (t:TypeId) (ps:Array (Nat×Operand)):AOp P lit {dst:=dst,op:= .build t ps,type:=ty,pos:=pos,after:=after,guard:=g} s K=optB (onV (ZkL P t (ps.toList.map λp=>(p.1,s.ev p.2))) s.h) (ZH K s dst):=rfl
def litV (own:Bool) (len:Nat) (x:Option (List AV×Nat)) (h:Za):Option (AV×Za):=
 match x with
 |some (cs,k)=>if own then some (.own h.length 0 0 len k,h++[.cells 0 cs]) else some (.sl true len cs,h)
 |none=>none
@[simp] theorem litV_f (len k:Nat) (cs:List AV) (h:Za):litV false len (some (cs,k)) h=some (.sl true len cs,h):=rfl
@[simp] theorem litV_t (len k:Nat) (cs:List AV) (h:Za):litV true len (some (cs,k)) h=some (.own h.length 0 0 len k,h++[.cells 0 cs]):=rfl
@[simp] theorem ZvP (t:TypeId) (len:Nat) (ps:Array (Nat×Operand)):AOp P lit {dst:=dst,op:= .buildSlice t len ps,type:=ty,pos:=pos,after:=after,guard:=g} s K=optB (litV (lit t) len (abuildSlice P t len (ps.toList.map λp=>(p.1,s.ev p.2))) s.h) (ZH K s dst):=by
 simp only[AOp,ZcD,ev]
 unfold litV
 split<;>rename_i h1<;>rw[h1]
@[simp] theorem AOp_load (t:TypeId) (x:Operand):AOp P lit {dst:=dst,op:= .load t x,type:=ty,pos:=pos,after:=after,guard:=g} s K=optB (onV (Zdp P t (s.ev x) s.h) s.h) (ZH K s dst):=rfl
def Zoy (x:Option Za):Option (AV×Za):=x.map λh'=>(.any,h')
@[simp] theorem storeV_some (h:Za):Zoy (some h)=some (.any,h):=rfl
@[simp] theorem AOp_store (t:TypeId) (p x:Operand):AOp P lit {dst:=dst,op:= .store t p x,type:=ty,pos:=pos,after:=after,guard:=g} s K=optB (Zoy (ZgQ P t (s.ev p) (s.ev x) s.h)) (ZH K s dst):=rfl
def nilV:AV->Option AV
 | .ptr id ver off=>some (.ptr id ver off)
 | .fp cs=>some (.fp cs)
 | .fn f cs=>some (.fn f cs)
 |_=>none
@[simp] theorem nilV_ptr (id ver off:Nat):nilV (.ptr id ver off)=some (.ptr id ver off):=rfl
@[simp] theorem nilV_fp (cs:List AV):nilV (.fp cs)=some (.fp cs):=rfl
@[simp] theorem nilV_fn (f:FuncId) (cs:List AV):nilV (.fn f cs)=some (.fn f cs):=rfl
@[simp] theorem AOp_nilCheck (x:Operand):AOp P lit {dst:=dst,op:= .nilCheck x,type:=ty,pos:=pos,after:=after,guard:=g} s K=optB (onV (nilV (s.ev x)) s.h) (ZH K s dst):=by
 simp only[AOp,ZcD,ev]
 cases s.ev x<;>rfl
@[simp] theorem Zwo (t:TypeId) (x:Operand) (i:Nat):AOp P lit {dst:=dst,op:= .fieldAddr t x i,type:=ty,pos:=pos,after:=after,guard:=g} s K=optB (onV (ZkH P t (s.ev x) i) s.h) (ZH K s dst):=rfl
@[simp] theorem AOp_field (t:TypeId) (x:Operand) (i:Nat):AOp P lit {dst:=dst,op:= .field t x i,type:=ty,pos:=pos,after:=after,guard:=g} s K=optB (onV (ZgU P t (s.ev x) i) s.h) (ZH K s dst):=rfl
@[simp] theorem Zwp (t:TypeId) (x i:Operand):AOp P lit {dst:=dst,op:= .indexAddr t x i,type:=ty,pos:=pos,after:=after,guard:=g} s K=optB (onV (ZkI P t (s.ev x) (s.ev i)) s.h) (ZH K s dst):=rfl
@[simp] theorem AOp_index (t:TypeId) (x i:Operand):AOp P lit {dst:=dst,op:= .index t x i,type:=ty,pos:=pos,after:=after,guard:=g} s K=optB (onV (Zdq P t (s.ev x) (s.ev i)) s.h) (ZH K s dst):=rfl
def Zoz (P:Program) (t:TypeId) (x:AV) (lo hi mx:Option AV):Option AV:=
 match x with
 | .val c=>Zca P t (.val c) lo hi mx
 |x=>ZgT P t x lo hi mx
@[simp] theorem sliceV_val (t:TypeId) (c:Value) (lo hi mx:Option AV):Zoz P t (.val c) lo hi mx=Zca P t (.val c) lo hi mx:=rfl
@[simp] theorem sliceV_sl (t:TypeId) (tt:Bool) (m:Nat) (cs:List AV) (lo hi mx:Option AV):Zoz P t (.sl tt m cs) lo hi mx=ZgT P t (.sl tt m cs) lo hi mx:=rfl
@[simp] theorem sliceV_own (t:TypeId) (id ver off m k:Nat) (lo hi mx:Option AV):Zoz P t (.own id ver off m k) lo hi mx=ZgT P t (.own id ver off m k) lo hi mx:=rfl
@[simp] theorem AOp_slice (t:TypeId) (x:Operand) (lo hi mx:Option Operand):AOp P lit {dst:=dst,op:= .slice t x lo hi mx,type:=ty,pos:=pos,after:=after,guard:=g} s K=optB (onV (Zoz P t (s.ev x) (lo.map s.ev) (hi.map s.ev) (mx.map s.ev)) s.h) (ZH K s dst):=by
 simp only[AOp,ZcD,ev]
 cases s.ev x<;>rfl
@[simp] theorem AOp_extract (x:Operand) (i:Nat):AOp P lit {dst:=dst,op:= .extract x i,type:=ty,pos:=pos,after:=after,guard:=g} s K=optB (onV (ZeT (s.ev x) i) s.h) (ZH K s dst):=rfl
@[simp] theorem AOp_makeFunc (f:FuncId) (cap:Array Operand):AOp P lit {dst:=dst,op:= .makeFunc (.func f) #[] cap,type:=ty,pos:=pos,after:=after,guard:=g} s K=ZH K s dst (.fn f (cap.toList.map s.ev)) s.h:=rfl
@[simp] theorem AOp_binOp (op:BinOp) (t:TypeId) (x y:Operand) (yt:TypeId):AOp P lit {dst:=dst,op:= .binOp op t x y yt,type:=ty,pos:=pos,after:=after,guard:=g} s K=optB (onV (abin P op t x y (s.ev x) (s.ev y)) s.h) (ZH K s dst):=rfl
@[simp] theorem AOp_unOp (op:UnOp) (t:TypeId) (x:Operand):AOp P lit {dst:=dst,op:= .unOp op t x,type:=ty,pos:=pos,after:=after,guard:=g} s K=optB (onV (aun P op (s.ev x)) s.h) (ZH K s dst):=rfl
@[simp] theorem AOp_convert (src t:TypeId) (x:Operand):AOp P lit {dst:=dst,op:= .convert src t x,type:=ty,pos:=pos,after:=after,guard:=g} s K=optB (onV (ZeV P src t (s.ev x) s.h) s.h) (ZH K s dst):=rfl
@[simp] theorem aconvS_val (src t:TypeId) (v:Value) (h:Za):ZeV P src t (.val v) h=Zgy P src t (.val v):=rfl
@[simp] theorem aconvS_sl (src t:TypeId) (tt:Bool) (n:Nat) (cs:List AV) (h:Za):ZeV P src t (.sl tt n cs) h=Zha P src t (.sl tt n cs) h:=rfl
@[simp] theorem aconvS_own (src t:TypeId) (id ver off n k:Nat) (h:Za):ZeV P src t (.own id ver off n k) h=Zha P src t (.own id ver off n k) h:=rfl
def Ztb (h:Za):Option (AV×Za):=some (.mp h.length,h++[.map [] []])
@[simp] theorem newMapV_eq (h:Za):Ztb h=some (.mp h.length,h++[.map [] []]):=rfl
@[simp] theorem AOp_makeMap (t:TypeId):AOp P lit {dst:=dst,op:= .makeMap t none,type:=ty,pos:=pos,after:=after,guard:=g} s K=optB (Ztb s.h) (ZH K s dst):=rfl
@[simp] theorem AOp_insert (t:TypeId) (m k x:Operand):AOp P lit {dst:=dst,op:= .insert t m k x,type:=ty,pos:=pos,after:=after,guard:=g} s K=optB (Zoy (ZfL P t (s.ev m) (s.ev k) (s.ev x) s.h)) (ZH K s dst):=rfl
@[simp] theorem Zwq (t:TypeId) (m k x:Operand):AOp P lit {dst:=dst,op:= .mapUpdate t m k x,type:=ty,pos:=pos,after:=after,guard:=g} s K=optB (Zoy (ZfL P t (s.ev m) (s.ev k) (s.ev x) s.h)) (ZH K s dst):=rfl
@[simp] theorem AOp_lookup (t:TypeId) (m k:Operand) (ok:Bool):AOp P lit {dst:=dst,op:= .lookup t m k ok,type:=ty,pos:=pos,after:=after,guard:=g} s K=optB (onV (Zbo P t (s.ev m) (s.ev k) ok s.h) s.h) (ZH K s dst):=rfl
@[simp] theorem AOp_builtin (b:Builtin) (xs:List Operand) (ts:List TypeId):
  AOp P lit {dst:=dst,op:= .call {callee:= .builtin b,args:=xs.toArray,argTypes:=ts.toArray},type:=ty,pos:=pos,after:=after,guard:=g} s K=optB (ZaJ P s.h b ts ty (xs.toArray.map fun| .const _=>true|_=>false) (xs.map s.ev)) (ZH K s dst):=rfl
end
@[simp] theorem evCall_len (h:Za) (t ty:TypeId) (cs:Array Bool) (x:AV):ZaJ P h .len [t] ty cs [x]=onV (alen P t x) h:=by
 simp only[ZaJ];cases alen P t x<;>rfl
@[simp] theorem Zwr (h:Za) (t t' ty:TypeId) (cs:Array Bool) (x y:AV):ZaJ P h .append [t,t'] ty cs [x,y]=if t=t' then orX (ZgX P t x y h) (orX (ZeZ P t x y h) (Zfa P t x y h)) else ZeY P t t' x y h:=rfl
@[simp] theorem evCall_copy (h:Za) (t t' ty:TypeId) (cs:Array Bool) (x y:AV):ZaJ P h .copy [t,t'] ty cs [x,y]=ZsR P t x y h:=rfl
@[simp] theorem evCall_clear (h:Za) (t ty:TypeId) (cs:Array Bool) (x:AV):ZaJ P h .clear [t] ty cs [x]=ZkU P t x h:=rfl
@[simp] theorem evCall_cap (h:Za) (t ty:TypeId) (cs:Array Bool) (x:AV):ZaJ P h .cap [t] ty cs [x]=onV (acap P t x h) h:=by
 simp only[ZaJ];cases acap P t x h<;>rfl
@[simp] theorem aextract_tup (vs:List AV) (i:Nat):ZeT (.tup vs) i=vs[i]? :=rfl
@[simp] theorem alen_sl (t:TypeId) (tt:Bool) (m:Nat) (cs:List AV):alen P t (.sl tt m cs)=if(Zab P t).isSome then some (.val (.int .i64 m)) else none:=rfl
@[simp] theorem alen_own (t:TypeId) (id ver off m k:Nat):alen P t (.own id ver off m k)=if(Zab P t).isSome then some (.val (.int .i64 m)) else none:=rfl
@[simp] theorem cellsOf_agg (cs:List AV):cellsOf (.agg cs)=some cs:=rfl
@[simp] theorem cellsOf_val (v:Value):cellsOf (.val v)=some [.val v]:=rfl
@[simp] theorem cellsOf_sl (tt:Bool) (m:Nat) (cs:List AV):cellsOf (.sl tt m cs)=some [.sl tt m cs]:=rfl
@[simp] theorem cellsOf_own (id ver off m k:Nat):cellsOf (.own id ver off m k)=some [.own id ver off m k]:=rfl
@[simp] theorem cellsOf_fn (f:FuncId) (cs:List AV):cellsOf (.fn f cs)=some [.fn f cs]:=rfl
@[simp] theorem cellsOf_ptr (id ver off:Nat):cellsOf (.ptr id ver off)=some [.ptr id ver off]:=rfl
@[simp] theorem cellsOf_fp (cs:List AV):cellsOf (.fp cs)=some [.fp cs]:=rfl
@[simp] theorem isOne_val (v:Value):Zy (.val v)=true:=rfl
@[simp] theorem isOne_sl (tt:Bool) (m:Nat) (cs:List AV):Zy (.sl tt m cs)=true:=rfl
@[simp] theorem isOne_own (id ver off m k:Nat):Zy (.own id ver off m k)=true:=rfl
@[simp] theorem isOne_fn (f:FuncId) (cs:List AV):Zy (.fn f cs)=true:=rfl
@[simp] theorem isOne_ptr (id ver off:Nat):Zy (.ptr id ver off)=true:=rfl
@[simp] theorem isOne_fp (cs:List AV):Zy (.fp cs)=true:=rfl
@[simp] theorem aload1_t (k:Nat) (cs:List AV):Ziy true k cs=if k<=cs.length then some (.agg (cs.take k)) else none:=rfl
@[simp] theorem aload1_f (k:Nat) (cs:List AV):Ziy false k cs=cs.head? :=rfl
@[simp] theorem setMany_nil (cs:List AV) (off:Nat):setMany cs off []=cs:=rfl
@[simp] theorem setMany_cons (cs:List AV) (off:Nat) (v:AV) (vs:List AV):setMany cs off (v::vs)=setMany (cs.set off v) (off+1) vs:=rfl
section
variable (t:TypeId) (ox oy:Operand) (k:IntKind) (a b:Int)
@[simp] theorem bin_add:abin P .add t ox oy (.val (.int k a)) (.val (.int k b))=some (.val (.int k (k.wrap (a+b)))):=by simp[abin,conc,eqGuard,binOp,Op.intArith]
@[simp] theorem bin_sub:abin P .sub t ox oy (.val (.int k a)) (.val (.int k b))=some (.val (.int k (k.wrap (a -b)))):=by simp[abin,conc,eqGuard,binOp,Op.intArith]
@[simp] theorem bin_mul:abin P .mul t ox oy (.val (.int k a)) (.val (.int k b))=some (.val (.int k (k.wrap (a*b)))):=by simp[abin,conc,eqGuard,binOp,Op.intArith]
@[simp] theorem bin_lss:abin P .lss t ox oy (.val (.int k a)) (.val (.int k b))=some (.val (.bool (decide (a<b)))):=by simp[abin,conc,eqGuard,binOp,Op.intCmp]
@[simp] theorem bin_leq:abin P .leq t ox oy (.val (.int k a)) (.val (.int k b))=some (.val (.bool (decide (a<=b)))):=by simp[abin,conc,eqGuard,binOp,Op.intCmp]
@[simp] theorem bin_gtr:abin P .gtr t ox oy (.val (.int k a)) (.val (.int k b))=some (.val (.bool (decide (b<a)))):=by simp[abin,conc,eqGuard,binOp,Op.intCmp]
@[simp] theorem bin_geq:abin P .geq t ox oy (.val (.int k a)) (.val (.int k b))=some (.val (.bool (decide (b<=a)))):=by simp[abin,conc,eqGuard,binOp,Op.intCmp]
@[simp] theorem bin_eql:abin P .eql t ox oy (.val (.int k a)) (.val (.int k b))=some (.val (.bool (decide (a=b)))):=by simp[abin,conc,eqGuard,binOp,Op.intCmp];try rfl
@[simp] theorem bin_neq:abin P .neq t ox oy (.val (.int k a)) (.val (.int k b))=some (.val (.bool (!decide (a=b)))):=by simp[abin,conc,eqGuard,binOp,Op.intCmp];try rfl
theorem ZjT (x y:ByteArray):(x.toList==y.toList)=decide (x=y):=by
 rw[Bool.eq_iff_iff]
 simp only[beq_iff_eq,decide_eq_true_eq]
 refine⟨λh=> ?_,λh=>by rw[h]⟩
 rw[ByteArray.toList_eq,ByteArray.toList_eq] at h
 cases x;cases y
 congr 1
 exact Array.ext' h
@[simp] theorem bins_eql (x y:ByteArray):abin P .eql t ox oy (.val (.string x)) (.val (.string y))=some (.val (.bool (decide (x=y)))):=by
 rw[<-ZjT];simp[abin,conc,eqGuard,binOp,Op.stringOp,ofV,Zaj]
@[simp] theorem bins_neq (x y:ByteArray):abin P .neq t ox oy (.val (.string x)) (.val (.string y))=some (.val (.bool (!decide (x=y)))):=by
 rw[<-ZjT];simp[abin,conc,eqGuard,binOp,Op.stringOp,ofV,Zaj]
theorem Zws {x y:ByteArray} (hl:(x.size:Int)+y.size<=9223372036854775807):abin P .add t ox oy (.val (.string x)) (.val (.string y))=some (.val (.string (x++y))):=by
 have h1:¬((9223372036854775807:Int)<(x.size:Int)+(y.size:Int)):=by omega
 simp[abin,conc,eqGuard,binOp,Op.stringOp,ofV,Zaj,Zgm,h1]
theorem Zff (ht:P.underlying t=some .bool) (x y:Bool):pr P (Op.equal t (.bool x) (.bool y))=some (x==y):=by
 show pr P (Op.equalIn (9999+1) t (.bool x) (.bool y))=_
 rw[Op.equalIn]
 rw[pr_bind,Zz ht]
 rfl
theorem Zwt (ht:P.underlying t=some .bool) (x y:Bool):abin P .eql t ox oy (.val (.bool x)) (.val (.bool y))=some (.val (.bool (x==y))):=by
 have h1:pr P (binOp .eql t (.bool x) (.bool y))=some (.bool (x==y)):=by
  show pr P (do pure (Value.bool (<-Op.equal t (.bool x) (.bool y))))=_
  rw[pr_bind,Zff t ht];rfl
 have h2:pr P (eqGuard .eql t ox oy (.bool x) (.bool y))=some ():=rfl
 simp only[abin,conc,h1,h2];rfl
theorem Zwu (ht:P.underlying t=some .bool) (x y:Bool):abin P .neq t ox oy (.val (.bool x)) (.val (.bool y))=some (.val (.bool (x !=y))):=by
 have h1:pr P (binOp .neq t (.bool x) (.bool y))=some (.bool (x !=y)):=by
  show pr P (do pure (Value.bool (!(<-Op.equal t (.bool x) (.bool y)))))=_
  rw[pr_bind,Zff t ht];rfl
 have h2:pr P (eqGuard .neq t ox oy (.bool x) (.bool y))=some ():=rfl
 simp only[abin,conc,h1,h2];rfl
@[simp] theorem un_not (x:Bool):aun P .not (.val (.bool x))=some (.val (.bool !x)):=rfl
@[simp] theorem un_neg:aun P .neg (.val (.int k a))=some (.val (.int k (k.wrap (0 -a)))):=by simp[aun,conc,Op.unary,Op.intArith]
end
@[simp] theorem resA_tmp (s:Zc) (t:Tmp):resA P s (.tmp t)=some (s.T t):=rfl
@[simp] theorem resA_cell (s:Zc) (t:Tmp) (ty:TypeId):resA P s (.cell t ty)=Zdp P ty (s.T t) s.h:=rfl
@[simp] theorem isEnd_normal:Zbs .normal=true/\Zbs .ret=true:=⟨rfl,rfl⟩
theorem Zcp (h:Za) (m f:Nat) {v:AV} (hv:neat v=true):frz h m (f+1) v=some v:=by simp[frz,hv]
@[simp low] theorem lookV_def (d:TypeDesc) (kv:Value) (z:Option AV) (p:List AV×List AV):Zqm d kv z p=match afind d kv p.1 with
 |some (some j)=>(p.2[j]?).map λv=>(v,true)
 |some none=>z.map λz=>(z,false)
 |none=>none:=rfl
@[simp low] theorem insMap_def (d:TypeDesc) (kv:Value) (x:AV) (ks vs:List AV):ZkS d kv x ks vs=match afind d kv ks with
 |some none=>some (.map (ks++[.val kv]) (vs++[x]))
 |some (some j)=>some (.map ks (vs.set j x))
 |none=>none:=rfl
attribute [simp] ZfL Zbo ZfM okV isKeyB afind Instr.sameNow Zdp ZkH ZgU ZkI ZgT ZgQ ZkL abuildSlice afill Zbp zeros Zcn ZgX ZgS ZaH resV
end Go.Cx
set_option linter.unusedVariables false
set_option linter.unusedSimpArgs false
namespace Go.Cx
variable {P:Program} {lit:TypeId->Bool} {n:Nat}
theorem Zwv {ρ ρ':Operand->AV} {h:Za} (o:Oper) (hx:∀x∈o.op.operands,ρ x=ρ' x):ev P lit ρ h o=ev P lit ρ' h o:=by
 obtain⟨dst,op,type,pos,after,guard⟩:=o
 have pairs:∀ps:Array (Nat×Operand),(∀x∈(ps.toList.map (·.2)).toArray,ρ x=ρ' x)->(ps.toList.map λp=>(p.1,ρ p.2))=(ps.toList.map λp=>(p.1,ρ' p.2)):=λps hp=>
  List.map_congr_left λp hm=>by
   rw[hp p.2 (by simp only[List.mem_toArray,List.mem_map];exact⟨p,hm,rfl⟩)]
 have many:∀xs:Array Operand,(∀x∈xs,ρ x=ρ' x)->xs.toList.map ρ=xs.toList.map ρ':=λxs hp=>List.map_congr_left λx hm=>hp x (by simpa using hm)
 cases op<;>simp only[Op.operands] at hx<;>simp only[ev]
 case build t ps=>rw[pairs ps hx]
 case buildSlice t m ps=>rw[pairs ps hx]
 case makeFunc fn first cap=>
  cases fn<;>simp only[ev]
  split
  ·rw[many cap λx hx'=>hx x (by simp[hx'])]
  ·rfl
 case slice t x lo hi mx=>
  have h1:ρ x=ρ' x:=hx x (by simp)
  have h2:lo.map ρ=lo.map ρ':=by cases lo<;>simp_all
  have h3:hi.map ρ=hi.map ρ':=by cases hi<;>simp_all
  have h4:mx.map ρ=mx.map ρ':=by cases mx<;>simp_all
  rw[h1,h2,h3,h4]
 case call c=>
  obtain⟨callee,args,ts⟩:=c
  cases callee<;>simp only[ev]
  rw[many args λx hx'=>hx x (by simp[Go.Call.operands,hx'])]
 case makeMap t r=>cases r<;>rfl
 case insert t m k x=>rw[hx m (by simp),hx k (by simp),hx x (by simp)]
 case mapUpdate t m k x=>rw[hx m (by simp),hx k (by simp),hx x (by simp)]
 case lookup t m k ok=>rw[hx m (by simp),hx k (by simp)]
 all_goals(first|rfl|(simp_all;done))
def Y (P:Program) (o:Oper) (ρ:Operand->AV) (h h':Za) (v:AV):Prop:=
 ∀(Z:Nat->Prop) (κ:Nat->Slot) (w:World) (a:Act),Rel Z κ h w->(∀x∈o.op.operands,R Z w κ (ρ x) (a.eval x))->∀(K:Act->World->Prop) (Q':Exit->Act->World->Prop),
  (∀c Z' κ' w',Rel Z' κ' h' w'->R Z' w' κ' v c->Ext Z κ w Z' κ' w'->Zq κ κ'->K (a.put o.dst c) w')->o.wp P a w K Q'
theorem Y.ev {o:Oper} {ρ:Operand->AV} {h h':Za} {v:AV} (he:ev P lit ρ h o=some (v,h')):Y P o ρ h h' v:=by
 classical
 intro Z κ w a r hx K Q' hk
 have he':Cx.ev P lit (λx=>if x∈o.op.operands then ρ x else .any) h o=some (v,h'):=by
  rw[<-he];exact Zwv o λx hm=>by simp[hm]
 obtain⟨c,w',Z',κ',hrun,r',hr,ex,sa⟩:=ev_ok (P:=P) r (σ:=a.eval) (λx=>by
  by_cases hm:x∈o.op.operands
  ·simpa[hm] using hx x hm
  ·simp only[hm,if_false];exact .any) he'
 unfold Oper.wp
 rcases hrun with hrun|⟨hrun,rfl⟩
 ·rw[hrun,Oper.upon_value];exact hk _ _ _ _ r' hr ex sa
 ·rw[hrun,Oper.upon_skip];exact hk _ _ _ _ r' hr ex sa
theorem Y.room {t:TypeId} {zs:List AV} {o:Oper} (ho:o.op= .alloc t) (hz:ZU P t=some zs) {ρ:Operand->AV} {h:Za} {id ver:Nat} (hx:h[id]? =some (.cells ver [])):Y P o ρ h (h.set id (.cells (ver+1) zs)) (.ptr id (ver+1) 0):=by
 intro Z κ w a r _ K Q' hk
 obtain⟨z,hz1,rfl⟩:=Zdo hz w
 have hrun:(execOp a.eval o).run P w= .ok (.value (.pointer (some ⟨w.heap.size,0,none⟩))) (w.alloc (.cells z.cells t)):=by
  simp only[execOp,ho,Sem.run_bind,Instr.alloc,hz1,Result.andThen_ok,newVar,newRow,run_newObj_alloc,Sem.run_pure]
 obtain⟨r',e,st⟩:=ZfK r hx (b':=w.heap.size) (arr':=z.cells) (E:=t) (w':=w.alloc (.cells z.cells t)) (.inr (Nat.le_refl _)) rfl rfl rfl
  (by show _<=(w.heap.push _).size;simp) (λb hb _=>ZG w _ hb) (.of (Zal w _) _) (us:=[]) (ws:=z.cells.toList) .nil (ZbB z.cells.toList) (by simp) (λj u hj=>by simpa using hj)
 rw[List.nil_append] at r'
 unfold Oper.wp
 rw[hrun,Oper.upon_value]
 refine hk _ _ _ _ r' (.ptr ?_) e st
 simp[ZV,Zk,ZmF]
theorem rs_of {Z:Nat->Prop} {κ:Nat->Slot} {w:World} {ρ:Operand->AV} {σ:Operand->Value}:∀l:List Operand,(∀x∈l,R Z w κ (ρ x) (σ x))->Rs Z w κ (l.map ρ) (l.map σ)
 |[],_=> .nil
 |x::l,hx=> .cons (hx x (by simp)) (rs_of l λy hy=>hx y (by simp[hy]))
theorem Y.call {o:Oper} {f:Operand} {xs:Array Operand} (hg:ZcD o=some (f,xs)) {ρ:Operand->AV} {h h':Za} {v:AV} (hc:AInv P (ρ f) (xs.toList.map ρ) h (λv' h''=>v'=v/\h''=h')):Y P o ρ h h' v:=by
 intro Z κ w a r hx K Q' hk
 unfold AInv at hc
 split at hc
 ·rename_i g cap hf
  unfold ZcD at hg
  split at hg
  ·rename_i f' xs' ts' ho
   simp only[Option.some.injEq,Prod.mk.injEq] at hg
   obtain⟨rfl,rfl⟩:=hg
   rw[ho] at hx
   simp only[Op.operands,Go.Call.operands] at hx
   have hfr:=hx f' (by simp)
   rw[hf] at hfr
   have hxs:=rs_of (Z:=Z) (κ:=κ) (w:=w) (ρ:=ρ) (σ:=a.eval) xs'.toList (λx hm=>hx x (by simp at hm;simp[hm]))
   unfold Oper.wp
   generalize hcv:a.eval f'=c at hfr
   cases hfr with
   |fn hcap=>
    rename_i vs
    rcases hc with hc|hc
    case inr=>
     have hargs:(xs'.toList.map a.eval++vs).toArray=xs'.map a.eval++vs.toArray:=by
      rw[Zby xs' a.eval];simp
     obtain⟨v',h'',Z',κ',c',w',⟨rfl,rfl⟩,hrun,r',hv,ex,st⟩:=hc Z κ w (xs'.toList.map a.eval++vs) r (hxs.append hcap)
     rw[hargs] at hrun
     have hex:(execOp a.eval o).run P w= .ok (.value c') w':=by
      simp only[execOp,ho,resolve,hcv,Deferred.ofValue,Sem.run_bind,Sem.run_pure,Result.andThen_ok,invoke]
      simpa using hrun
     rw[hex,Oper.upon_value]
     exact hk _ _ _ _ r' hv ex (ZX.all r st)
    have hex:(execOp a.eval o).run P w= .ok (.enter g (xs'.map a.eval++vs.toArray)) w:=by
     simp only[execOp,ho,resolve,hcv,Deferred.ofValue,Sem.run_bind,Sem.run_pure,Result.andThen_ok,invoke]
     have:=hc.1 (#[]++xs'.map a.eval++vs.toArray) w
     simpa using this
    rw[hex,Oper.upon_enter]
    have hcall:=hc.2 Z κ w (xs'.toList.map a.eval++vs) r (hxs.append hcap)
    have hargs:(xs'.toList.map a.eval++vs).toArray=xs'.map a.eval++vs.toArray:=by
     rw[Zby xs' a.eval];simp
    rw[hargs] at hcall
    refine hcall.mono λe w' he=> ?_
    obtain⟨v',h'',Z',κ',c',⟨rfl,rfl⟩,rfl,r',hv,ex,st⟩:=he
    exact hk _ _ _ _ r' hv ex (ZX.all r st)
  ·cases hg
 ·exact hc.elim
theorem Zww {k:Za} {id:Nat} {x:Option ABlk} (hx:k[id]? =x):k.set id (x.getD .dead)=k:=by
 apply List.ext_getElem?
 intro j
 by_cases hj:id=j
 ·subst hj
  rcases Nat.lt_or_ge id k.length with h|h
  ·rw[List.getElem?_set_self h]
   rw[List.getElem?_eq_getElem h] at hx
   subst hx
   simp[h]
  ·rw[List.getElem?_eq_none (by simpa using h),List.getElem?_eq_none h]
 ·rw[List.getElem?_set_ne hj]
inductive Cl where
 |t|q|w|e|r (id:Nat)
 deriving DecidableEq
def Zep (D:List Nat) (k h:Za):Prop:=k.length=h.length/\∀id:Nat,D.contains id=false->k[id]? =h[id]?
def onEq (D:List Nat) (k h:Za):Prop:=k.length=h.length/\∀id:Nat,D.contains id=true->k[id]? =h[id]?
def mrgF (D:List Nat):Nat->Za->Za->Za
 |i,x::a,y::b=>(if D.contains i then x else y)::mrgF D (i+1) a b
 |_,_,_=>[]
abbrev mrg (D:List Nat) (a b:Za):Za:=mrgF D 0 a b
theorem ZjU (D:List Nat):∀(a b:Za) (i:Nat),a.length=b.length->(mrgF D i a b).length=b.length
 |[],[],_,_=>rfl
 |x::a,y::b,i,h=>by simp[mrgF,ZjU D a b (i+1) (by simpa using h)]
theorem ZoA (D:List Nat):∀(a b:Za) (i j:Nat),a.length=b.length->(mrgF D i a b)[j]? =if D.contains (i+j) then a[j]? else b[j]?
 |[],[],_,_,_=>by simp[mrgF]
 |x::a,y::b,i,0,h=>by simp only[mrgF,List.getElem?_cons_zero,Nat.add_zero];split<;>rfl
 |x::a,y::b,i,j+1,h=>by
  simp only[mrgF,List.getElem?_cons_succ]
  rw[ZoA D a b (i+1) j (by simpa using h),show i+1+j=i+(j+1) by omega]
theorem Zhl {D:List Nat} {a b:Za} (h:a.length=b.length) (j:Nat):(mrg D a b)[j]? =if D.contains j then a[j]? else b[j]? :=by
 rw[ZoA D a b 0 j h,Nat.zero_add]
def Cl.ok (P:Program) (D:List Nat) (o:Oper) (ρ:Operand->AV) (h h':Za) (v:AV):Cl->Prop
 | .t=>h'=h/\∀k,Y P o ρ k k v
 | .q=>h'=h/\∀k,Zep D k h->Y P o ρ k k v
 | .w=>h'.length=h.length/\Zep D h' h/\∀k,onEq D k h->Y P o ρ k (mrg D h' k) v
 | .e=>Y P o ρ h h' v
 | .r id=>h'.length=h.length/\(∀j:Nat,j≠id->h'[j]? =h[j]?)/\∀k:Za,k.length=h.length->k[id]? =h[id]?->Y P o ρ k (k.set id (h'[id]?.getD .dead)) v
def clOf (lit:TypeId->Bool) (o:Oper):Cl:=
 match o.op with
 | .move _| .assign _| .pick .. | .build .. | .nilCheck _| .fieldAddr .. | .field .. | .indexAddr .. | .index .. | .slice .. | .extract .. | .makeFunc .. | .binOp .. | .unOp .. | .convert .. => .t
 | .buildSlice t _ _=>if lit t then .e else .t
 | .call {callee:= .builtin .len,.. }=> .t
 | .load .. | .lookup .. => .q
 | .store .. => .w
 |_=> .e
def offD (D:List Nat):AV->Bool
 | .ptr id _ _| .mp id=> !D.contains id
 |_=>true
def onD (D:List Nat):AV->Bool
 | .ptr id _ _| .mp id=>D.contains id
 |_=>true
theorem map_h {x:Option AV} {h h':Za} {v:AV} (hx:(x.map λv=>(v,h))=some (v,h')):h'=h/\∀k:Za,(x.map λv=>(v,k))=some (v,k):=by
 cases x with
 |none=>simp at hx
 |some u=>simp at hx;obtain⟨rfl,rfl⟩:=hx;simp
def pickH (x A B:AV) (k:Za):Option (AV×Za):=
 match x with
 | .val (.bool t)=>some (if t then A else B,k)
 |_=>none
theorem pick_h {x A B:AV} {h h':Za} {v:AV} (hx:pickH x A B h=some (v,h')):h'=h/\∀k:Za,pickH x A B k=some (v,k):=by
 unfold pickH at*
 split at hx
 ·cases hx;exact⟨rfl,λ_=>rfl⟩
 ·cases hx
theorem ev_t {o:Oper} {ρ:Operand->AV} {h h':Za} {v:AV} (hg:ZcD o=none) (hcv:∀s d x,o.op≠ .convert s d x) (hc:clOf lit o= .t) (he:ev P lit ρ h o=some (v,h')):h'=h/\∀k,ev P lit ρ k o=some (v,k):=by
 obtain⟨dst,op,type,pos,after,guard⟩:=o
 cases op<;>(try simp only[clOf,reduceCtorEq] at hc)<;>(try simp only[ev] at he⊢)
 case move x=>cases he;exact⟨rfl,λ_=>rfl⟩
 case assign x=>cases he;exact⟨rfl,λ_=>rfl⟩
 case pick c a b=>
  generalize ρ c=x at he⊢
  exact pick_h (x:=x) (A:=ρ a) (B:=ρ b) he
 case build t ps=>exact map_h he
 case buildSlice t m ps=>
  have hl:lit t=false:=by
   cases hl:lit t with
   |false=>rfl
   |true=>simp[hl] at hc
  generalize abuildSlice P t m _=x at he⊢
  cases x with
  |none=>simp at he
  |some y=>obtain⟨cs,k⟩:=y;simp[hl] at he⊢;obtain⟨rfl,rfl⟩:=he;simp
 case nilCheck x=>
  generalize ρ x=y at he⊢
  cases y<;>simp at he⊢
  all_goals(obtain⟨rfl,rfl⟩:=he;simp)
 case fieldAddr t x i=>exact map_h he
 case field t x i=>exact map_h he
 case indexAddr t x i=>exact map_h he
 case index t x i=>exact map_h he
 case slice t x lo hi mx=>
  generalize ρ x=y at he⊢
  cases y<;>exact map_h he
 case extract x i=>exact map_h he
 case makeFunc fn first cap=>
  cases fn<;>simp only[reduceCtorEq] at he⊢
  split at he
  ·simp at he;obtain⟨rfl,rfl⟩:=he;rename_i hf;simp[hf]
  ·cases he
 case binOp op t x y yt=>exact map_h he
 case unOp op t x=>exact map_h he
 case convert s d x=>exact absurd rfl (hcv s d x)
 case call c=>
  obtain⟨callee,args,ts⟩:=c
  cases callee with
  |value f=>simp[ZcD] at hg
  |invoke r m=>simp[clOf] at hc
  |builtin b=>
   cases b<;>simp only[reduceCtorEq] at hc
   simp only[ZaJ] at he⊢
   split at he<;>try contradiction
   ·rename_i t x h1 h2
    split at he
    ·rename_i u hu
     simp at he;obtain⟨rfl,rfl⟩:=he
     simp[h1,h2,hu]
    ·cases he
   ·have:=map_h he
    exact⟨this.1,this.2⟩
theorem ev_conv {o:Oper} {ρ:Operand->AV} {h h':Za} {v:AV} {s d:TypeId} {x:Operand} (ho:o.op= .convert s d x) (hx:ZgZ (ρ x)=true) (he:ev P lit ρ h o=some (v,h')):h'=h/\∀k,ev P lit ρ k o=some (v,k):=by
 obtain⟨dst,op,type,pos,after,guard⟩:=o
 simp only at ho;subst ho
 simp only[ev] at he⊢
 refine⟨(map_h he).1,λk=> ?_⟩
 rw[Zqi (h:=h) hx k]
 exact(map_h he).2 k
def noPtr:AV->Bool
 | .ptr .. | .mp .. | .own .. =>false
 |_=>true
theorem Ztc {o:Oper} {ρ:Operand->AV} {h h':Za} {v:AV} {t:TypeId} {x:Operand} (ho:o.op= .load t x) (hx:noPtr (ρ x)=true) (he:ev P lit ρ h o=some (v,h')):h'=h/\∀k:Za,ev P lit ρ k o=some (v,k):=by
 obtain⟨dst,op,type,pos,after,guard⟩:=o
 simp only at ho;subst ho
 simp only[ev] at he⊢
 refine⟨(map_h he).1,λk=> ?_⟩
 have:Zdp P t (ρ x) k=Zdp P t (ρ x) h:=by
  unfold Zdp
  generalize ρ x=y at hx
  cases y<;>first|rfl|(simp[noPtr] at hx)
 rw[this]
 exact(map_h he).2 k
theorem Ztd {o:Oper} {ρ:Operand->AV} {h h':Za} {v:AV} {t:TypeId} {m x:Operand} {ok:Bool} (ho:o.op= .lookup t m x ok) (hx:noPtr (ρ m)=true) (he:ev P lit ρ h o=some (v,h')):h'=h/\∀k:Za,ev P lit ρ k o=some (v,k):=by
 obtain⟨dst,op,type,pos,after,guard⟩:=o
 simp only at ho;subst ho
 simp only[ev] at he⊢
 refine⟨(map_h he).1,λk=> ?_⟩
 have hm:ZfM (ρ m) k=ZfM (ρ m) h:=by
  unfold ZfM
  generalize ρ m=y at hx
  split<;>first|rfl|(simp[noPtr] at hx)|(split<;>simp_all[noPtr])
 have:Zbo P t (ρ m) (ρ x) ok k=Zbo P t (ρ m) (ρ x) ok h:=by
  unfold Zbo
  rw[hm]
 rw[this]
 exact(map_h he).2 k
theorem Zte {o:Oper} {ρ:Operand->AV} {h h':Za} {v:AV} {D:List Nat} {t:TypeId} {x:Operand} (ho:o.op= .load t x) (hx:offD D (ρ x)=true) (he:ev P lit ρ h o=some (v,h')):h'=h/\∀k,Zep D k h->ev P lit ρ k o=some (v,k):=by
 obtain⟨dst,op,type,pos,after,guard⟩:=o
 simp only at ho;subst ho
 simp only[ev] at he⊢
 refine⟨(map_h he).1,λk hk=> ?_⟩
 have:Zdp P t (ρ x) k=Zdp P t (ρ x) h:=by
  unfold Zdp
  generalize ρ x=y at hx
  cases y with
  |ptr id ver off=>simp only[offD,Bool.not_eq_true'] at hx;simp only[hk.2 id hx]
  |_=>rfl
 rw[this]
 exact(map_h he).2 k
theorem Ztf {o:Oper} {ρ:Operand->AV} {h h':Za} {v:AV} {D:List Nat} {t:TypeId} {x:Operand} (ho:o.op= .load t x) (hx:onD D (ρ x)=true) (he:ev P lit ρ h o=some (v,h')):h'=h/\∀k,onEq D k h->ev P lit ρ k o=some (v,k):=by
 obtain⟨dst,op,type,pos,after,guard⟩:=o
 simp only at ho;subst ho
 simp only[ev] at he⊢
 refine⟨(map_h he).1,λk hk=> ?_⟩
 have:Zdp P t (ρ x) k=Zdp P t (ρ x) h:=by
  unfold Zdp
  generalize ρ x=y at hx
  cases y with
  |ptr id ver off=>simp only[onD] at hx;simp only[hk.2 id hx]
  |_=>rfl
 rw[this]
 exact(map_h he).2 k
theorem Ztg {o:Oper} {ρ:Operand->AV} {h h':Za} {v:AV} {D:List Nat} {t:TypeId} {m x:Operand} {ok:Bool} (ho:o.op= .lookup t m x ok) (hx:offD D (ρ m)=true) (he:ev P lit ρ h o=some (v,h')):h'=h/\∀k,Zep D k h->ev P lit ρ k o=some (v,k):=by
 obtain⟨dst,op,type,pos,after,guard⟩:=o
 simp only at ho;subst ho
 simp only[ev] at he⊢
 refine⟨(map_h he).1,λk hk=> ?_⟩
 have:ZfM (ρ m) k=ZfM (ρ m) h:=by
  unfold ZfM
  generalize ρ m=y at hx
  cases y with
  |mp id=>simp only[offD,Bool.not_eq_true'] at hx;simp only[hk.2 id hx]
  |val u=>
   cases u<;>try rfl
   rename_i b;cases b<;>rfl
  |_=>rfl
 have:Zbo P t (ρ m) (ρ x) ok k=Zbo P t (ρ m) (ρ x) ok h:=by unfold Zbo;rw[this]
 rw[this]
 exact(map_h he).2 k
theorem Zth {o:Oper} {ρ:Operand->AV} {h h':Za} {v:AV} {D:List Nat} {t:TypeId} {m x:Operand} {ok:Bool} (ho:o.op= .lookup t m x ok) (hx:onD D (ρ m)=true) (he:ev P lit ρ h o=some (v,h')):h'=h/\∀k,onEq D k h->ev P lit ρ k o=some (v,k):=by
 obtain⟨dst,op,type,pos,after,guard⟩:=o
 simp only at ho;subst ho
 simp only[ev] at he⊢
 refine⟨(map_h he).1,λk hk=> ?_⟩
 have:ZfM (ρ m) k=ZfM (ρ m) h:=by
  unfold ZfM
  generalize ρ m=y at hx
  cases y with
  |mp id=>simp only[onD] at hx;simp only[hk.2 id hx]
  |val u=>
   cases u<;>try rfl
   rename_i b;cases b<;>rfl
  |_=>rfl
 have:Zbo P t (ρ m) (ρ x) ok k=Zbo P t (ρ m) (ρ x) ok h:=by unfold Zbo;rw[this]
 rw[this]
 exact(map_h he).2 k
theorem ZjV {D:List Nat} {h k:Za} (hk:onEq D k h):mrg D h k=k:=by
 apply List.ext_getElem?
 intro j
 rw[Zhl hk.1.symm]
 split
 ·rename_i hd;exact(hk.2 j hd).symm
 ·rfl
theorem Zqt {o:Oper} {ρ:Operand->AV} {h h':Za} {v:AV} {D:List Nat} {t:TypeId} {p x:Operand} (ho:o.op= .store t p x) (hx:onD D (ρ p)=true) (he:ev P lit ρ h o=some (v,h')):
  h'.length=h.length/\Zep D h' h/\∀k,onEq D k h->ev P lit ρ k o=some (v,mrg D h' k):=by
 obtain⟨dst,op,type,pos,after,guard⟩:=o
 simp only at ho;subst ho
 simp only[ev] at he⊢
 obtain⟨h2,hs,he⟩:=Option.map_eq_some_iff.1 he
 injection he with e1 e2;subst e1 e2
 unfold ZgQ at hs
 split at hs
 ·rename_i id ver off vs kk hp hv ht
  split at hs
  ·rename_i ver' cs hb
   split at hs
   ·rename_i hc
    injection hs with hs;subst hs
    rw[hp] at hx
    simp only[onD] at hx
    refine⟨by simp,⟨by simp,λj hj=> ?_⟩,λk hk=> ?_⟩
    ·have:¬id=j:=λe=>by subst e;rw[hx] at hj;cases hj
     rw[List.getElem?_set_ne this]
    ·have hkb:k[id]? =some (.cells ver' cs):=by rw[hk.2 id hx,hb]
     have e:mrg D (h.set id (.cells ver (setMany cs off vs))) k=k.set id (.cells ver (setMany cs off vs)):=by
      apply List.ext_getElem?
      intro j
      rw[Zhl (by simp[hk.1])]
      by_cases hj:id=j
      ·subst hj
       simp only[hx,if_true]
       rw[List.getElem?_set_self (List.getElem?_eq_some_iff.1 hb).1,List.getElem?_set_self (List.getElem?_eq_some_iff.1 hkb).1]
      ·rw[List.getElem?_set_ne hj,List.getElem?_set_ne hj]
       split
       ·rename_i hd;exact(hk.2 j hd).symm
       ·rfl
     rw[e]
     unfold ZgQ
     rw[hp,hv,ht]
     simp only[hkb]
     rw[if_pos hc];rfl
   ·cases hs
  ·cases hs
 ·cases hs
end Go.Cx
set_option linter.unusedVariables false
set_option linter.unusedSimpArgs false
set_option linter.unusedSectionVars false
namespace Go.Cx
variable {P:Program} {lit:TypeId->Bool} {n:Nat}
def ZaI (o:Oper):List Nat:=(o.after.toList.filter (Region.binds .any)).map (·.on)
def orE (M:List Nat):List Nat->Nat
 |[]=>0
 |e::es=>Nat.lor (Nat.lor (2^e) (M.getD e 0)) (orE M es)
def ZmO:List Oper->List Nat->List Nat
 |[],M=>M
 |o::rest,M=>ZmO rest (M++[orE M (ZaI o)])
abbrev CC:=List (Nat×Cl)
def look (cc:CC) (i:Nat) (c:Cl):Cl:=((cc.find? λp=>p.1==i).map (·.2)).getD c
def clAt (lit:TypeId->Bool) (cc:CC) (i:Nat) (o:Oper):Cl:=
 match ZcD o with
 |some _=>look cc i .t
 |none=>match o.op with
  | .load .. | .lookup .. =>look cc i .q
  | .store .. =>look cc i .w
  | .alloc .. =>look cc i .e
  |_=>clOf lit o
def Cl.conf:Cl->Cl->Bool
 | .t,_|_,.t| .q,.q| .q,.w| .w,.q| .q,.r _| .r _,.q=>false
 | .r a,.r b=>a==b
 |_,_=>true
def ZoB (lit:TypeId->Bool) (cc:CC) (ops:Array Oper) (M:List Nat) (i:Nat) (oi:Oper) (k:Nat) (ok:Oper):Bool:=
 k==i||
 ((match ok.dst with
  |none=>true
  |some x=>oi.dst !=some x&&(!(oi.looksAt ops).contains x||(M.getD i 0).testBit k))&&
  (k>i|| !(clAt lit cc k ok).conf (clAt lit cc i oi)||(M.getD i 0).testBit k))
def Zqu (f:Nat->Oper->Bool):Nat->List Oper->Bool
 |_,[]=>true
 |i,o::rest=>f i o&&Zqu f (i+1) rest
def ZiG (lit:TypeId->Bool) (cc:CC) (m:Nat) (ops:Array Oper):Bool:=
 let os:=ops.toList
 let M:=ZmO os []
 Zqu (λi o=>M.getD i 0==orE M (ZaI o)&&(ZaI o).all (·<i)&&(i<=m||(ZaI o).contains (i -1))&&
  (i !=m||((List.range m).all λk=>(M.getD m 0).testBit k))) 0 os&&
 Zqu (λi oi=>Zqu (λk ok=>ZoB lit cc ops M i oi k ok) 0 (os.take m)) 0 (os.take m)&&
 decide (m<=os.length)
theorem ZdN {f:Nat->Oper->Bool}:∀(l:List Oper) (i:Nat),Zqu f i l=true->∀j o,l[j]? =some o->f (i+j) o=true
 |[],_,_,j,o,hj=>by simp at hj
 |x::l,i,h,j,o,hj=>by
  simp only[Zqu,Bool.and_eq_true] at h
  cases j with
  |zero=>simp at hj;subst hj;simpa using h.1
  |succ j=>
   have:=ZdN l (i+1) h.2 j o (by simpa using hj)
   rwa[Nat.add_right_comm] at this
theorem Zti (M:List Nat) (j:Nat):∀es:List Nat,(orE M es).testBit j=true->∃e∈es,e=j\/(M.getD e 0).testBit j=true
 |[],h=>by simp[orE] at h
 |e::es,h=>by
  simp only[orE] at h
  have h:(((2^e|||M.getD e 0)|||orE M es):Nat).testBit j=true:=h
  rw[Nat.testBit_or,Nat.testBit_or,Bool.or_eq_true,Bool.or_eq_true] at h
  rcases h with(h|h)|h
  ·rw[Nat.testBit_two_pow] at h
   exact⟨e,by simp,.inl (by simpa using h)⟩
  ·exact⟨e,by simp,.inr h⟩
  ·obtain⟨e',he,h⟩:=Zti M j es h
   exact⟨e',by simp[he],h⟩
structure ZjW (lit:TypeId->Bool) (cc:CC) (m:Nat) (ops:Array Oper) where
 le:m<=ops.size
 reach:Nat->Nat->Prop
 step:∀i o j,ops[i]? =some o->reach i j->∃e∈ZaI o,e=j\/reach e j
 lt:∀i o,ops[i]? =some o->∀e∈ZaI o,e<i
 tail:∀i o,ops[i]? =some o->m<i->i -1∈ZaI o
 cut:∀o,ops[m]? =some o->∀k,k<m->reach m k
 dsts:∀i k oi ok x,i<m->k<m->k≠i->ops[i]? =some oi->ops[k]? =some ok->ok.dst=some x->oi.dst≠some x/\(x∈oi.looksAt ops->reach i k)
 cls:∀i k oi ok,i<m->k<m->k<i->ops[i]? =some oi->ops[k]? =some ok->(clAt lit cc k ok).conf (clAt lit cc i oi)=true->reach i k
theorem ordered {cc:CC} {m:Nat} {ops:Array Oper} (h:ZiG lit cc m ops=true):Nonempty (ZjW lit cc m ops):=by
 simp only[ZiG,Bool.and_eq_true] at h
 obtain⟨⟨h1,h2⟩,h3⟩:=h
 have key:∀i o,ops[i]? =some o->(ZmO ops.toList []).getD i 0=orE (ZmO ops.toList []) (ZaI o)/\(∀e∈ZaI o,e<i)/\(i<=m\/i -1∈ZaI o)/\(i≠m\/∀k,k<m->((ZmO ops.toList []).getD m 0).testBit k=true):=by
  intro i o hi
  have:=ZdN _ 0 h1 i o (by simpa using hi)
  simp only[Nat.zero_add,Bool.and_eq_true,Bool.or_eq_true,beq_iff_eq,List.all_eq_true,decide_eq_true_eq,bne_iff_ne,List.mem_range,List.contains_iff_mem] at this
  obtain⟨⟨⟨a,b⟩,c⟩,d⟩:=this
  exact⟨a,b,c,d⟩
 have pair:∀i k oi ok,i<m->k<m->ops[i]? =some oi->ops[k]? =some ok->ZoB lit cc ops (ZmO ops.toList []) i oi k ok=true:=by
  intro i k oi ok him hkm hi hk
  have hl:∀(j:Nat) (o:Oper),j<m->ops[j]? =some o->(ops.toList.take m)[j]? =some o:=λj o hj ho=>by
   rw[List.getElem?_take_of_lt hj];simpa using ho
  have:=ZdN _ 0 h2 i oi (hl i oi him hi)
  have:=ZdN _ 0 this k ok (hl k ok hkm hk)
  simpa using this
 refine⟨⟨by simpa using h3,λi j=>((ZmO ops.toList []).getD i 0).testBit j=true,?_,?_,?_,?_,?_,?_⟩⟩
 ·intro i o j hi hr
  rw[(key i o hi).1] at hr
  exact Zti _ j _ hr
 ·exact λi o hi=>(key i o hi).2.1
 ·exact λi o hi hm=>(key i o hi).2.2.1.resolve_left (by omega)
 ·exact λo ho=>(key m o ho).2.2.2.resolve_left (by simp)
 ·intro i k oi ok x him hkm hne hi hk hd
  have:=pair i k oi ok him hkm hi hk
  simp only[ZoB,hd,Bool.or_eq_true,Bool.and_eq_true,beq_iff_eq,bne_iff_ne,Bool.not_eq_true',List.contains_eq_mem,decide_eq_false_iff_not] at this
  rcases this with h|⟨⟨h,h'⟩,_⟩
  ·exact absurd h hne
  ·exact⟨h,λhx=>h'.resolve_left (λh=>h hx)⟩
 ·intro i k oi ok him hkm hlt hi hk hc
  have:=pair i k oi ok him hkm hi hk
  simp only[ZoB,Bool.or_eq_true,Bool.and_eq_true,beq_iff_eq,decide_eq_true_eq,hc,Bool.not_true,Bool.false_eq_true,or_false] at this
  rcases this with h|⟨_,h|h⟩
  ·omega
  ·omega
  ·exact h
def ADcall (P:Program) (D:List Nat) (c:Cl) (fv:AV) (args:List AV) (h:Za) (K:AV->Za->Prop):Prop:=
 match c with
 | .t=>∃v,(∀k:Za,AInv P fv args k (λv' h'=>v'=v/\h'=k))/\K v h
 | .q=>∃v,(∀k:Za,Zep D k h->AInv P fv args k (λv' h'=>v'=v/\h'=k))/\K v h
 | .w=>False
 | .e=>∃v h1,AInv P fv args h (λv' h'=>v'=v/\h'=h1)/\K v h1
 | .r _=>False
def ldK (D:List Nat) (c:Cl) (p:AV) (A:Prop):Prop:=
 match c with
 | .q=>offD D p=true/\A
 | .w=>onD D p=true/\A
 | .e=>A
 | .t=>noPtr p=true/\A
 | .r _=>False
def stK (D:List Nat) (c:Cl) (p:AV) (A:Prop):Prop:=
 match c with
 | .w=>onD D p=true/\A
 | .e=>A
 |_=>False
def ZkZ (D:List Nat) (h:Za):Option (Nat×Nat):=D.findSome? λid:Nat=>match(h[id]? :Option ABlk) with|some (ABlk.cells ver [])=>some (id,ver)|_=>none
def alcK (P:Program) (D:List Nat) (c:Cl) (t:TypeId) (h:Za) (K:AV->Za->Prop) (A:Prop):Prop:=
 match c with
 | .w=>match ZkZ D h with
  |some (id,ver)=>match ZU P t with
   |some zs=>K (.ptr id (ver+1) 0) (h.set id (.cells (ver+1) zs))
   |none=>False
  |none=>False
 | .e=>A
 | .r id=>match(h[id]? :Option ABlk),ZU P t with
  |some (.cells ver []),some zs=>K (.ptr id (ver+1) 0) (h.set id (.cells (ver+1) zs))
  |_,_=>False
 |_=>False
theorem Ztj {D:List Nat} {h:Za} {id ver:Nat} (hr:ZkZ D h=some (id,ver)):D.contains id=true/\h[id]? =some (.cells ver []):=by
 obtain⟨j,hj,hb⟩:=List.exists_of_findSome?_eq_some hr
 split at hb
 ·rename_i v hv
  injection hb with hb;injection hb with h1 h2;subst h1 h2
  exact⟨by simpa using hj,hv⟩
 ·cases hb
def ADop (P:Program) (lit:TypeId->Bool) (D:List Nat) (cc:CC) (i:Nat) (o:Oper) (s:Zc) (K:Zc->Prop):Prop:=
 match ZcD o with
 |some (f,xs)=>ADcall P D (clAt lit cc i o) (s.ev f) (xs.toList.map s.ev) s.h (ZH K s o.dst)
 |none=>match o.op with
  | .load _ x=>ldK D (clAt lit cc i o) (s.ev x) (AOp P lit o s K)
  | .lookup _ m _ _=>ldK D (clAt lit cc i o) (s.ev m) (AOp P lit o s K)
  | .store _ p _=>stK D (clAt lit cc i o) (s.ev p) (AOp P lit o s K)
  | .convert _ _ x=>ZgZ (s.ev x)=true/\AOp P lit o s K
  | .alloc t=>alcK P D (clAt lit cc i o) t s.h (ZH K s o.dst) (AOp P lit o s K)
  |_=>AOp P lit o s K
def gdD (P:Program) (lit:TypeId->Bool) (D:List Nat) (cc:CC) (i:Nat) (o:Oper) (s:Zc) (t:Nat) (want:Bool) (K:Zc->Prop) (x:AV):Prop:=
 match x with
 | .val (.bool b)=>(b=want->ADop P lit D cc i o {s with T:=put s.T t (.val (.bool want))} K)/\
   (b= !want->Zeo s.N o.dst/\K (({s with T:=put s.T t (.val (.bool !want))}:Zc).put o.dst (.tup [])))
 | .tup []=>Zeo s.N o.dst/\K (s.put o.dst (.tup []))
 |_=>False
def AD (P:Program) (lit:TypeId->Bool) (D:List Nat) (cc:CC) (ops:Array Oper) (Q:Zc->Prop):Nat->List Oper->Zc->Prop
 |_,[],s=>Q s
 |i,o::rest,s=>match o.guard with
  |none=>ADop P lit D cc i o s (AD P lit D cc ops Q (i+1) rest)
  |some (j,want)=>match Zbp ops j with
   |none=>False
   |some t=>gdD P lit D cc i o s t want (AD P lit D cc ops Q (i+1) rest) (s.T t)
def Wt (ops:Array Oper) (o:Oper) (T:Nat->AV) (b:Bool):Prop:=
 match o.guard with
 |none=>b=true
 |some (j,want)=>∃t,Zbp ops j=some t/\((∃u,T t= .val (.bool u)/\b=(u==want))\/(T t= .tup []/\b=false))
structure Stp (P:Program) (D:List Nat) (ops:Array Oper) (c:Cl) (o:Oper) (s s':Zc) (v:AV):Prop where
 dst:Zeo s.N o.dst
 eq:s'=({s with h:=s'.h}:Zc).put o.dst v
 go:(Wt ops o s.T true/\c.ok P D o s.ev s.h s'.h v)\/(Wt ops o s.T false/\v= .tup []/\s'.h=s.h)
theorem ZoC (T:Nat->AV) (t:Nat):put T t (T t)=T:=by
 funext j
 by_cases hj:j=t
 ·subst hj;exact Zco _ _ _
 ·exact Zhf _ _ hj
theorem Zla (s:Zc) (d:Option Nat) (v:AV):(s.put d v).h=s.h:=by cases d<;>rfl
theorem put_N (s:Zc) (d:Option Nat) (v:AV):(s.put d v).N=s.N:=by cases d<;>rfl
theorem ZoD {D:List Nat} {cc:CC} {ops:Array Oper} {i:Nat} {o:Oper} {s:Zc} {K:Zc->Prop} (h:ADop P lit D cc i o s K) (hw:Wt ops o s.T true):
  ∃v s',Stp P D ops (clAt lit cc i o) o s s' v/\K s':=by
 have mk:∀v h',ZH K s o.dst v h'->(clAt lit cc i o).ok P D o s.ev s.h h' v->∃v s',Stp P D ops (clAt lit cc i o) o s s' v/\K s':=by
  intro v h' ⟨hd,hk⟩ hok
  refine⟨v,_,⟨hd,?_,.inl ⟨hw,?_⟩⟩,hk⟩
  ·rw[Zla]
  ·rw[Zla];exact hok
 have fin:∀(hg:ZcD o=none),AOp P lit o s K->(∀v h',ev P lit s.ev s.h o=some (v,h')->(clAt lit cc i o).ok P D o s.ev s.h h' v)->∃v s',Stp P D ops (clAt lit cc i o) o s s' v/\K s':=by
  intro hg h hok
  unfold AOp at h
  rw[hg] at h
  simp only[] at h
  unfold optB at h
  split at h
  ·rename_i v h' hv
   exact mk v h' h (hok v h' hv)
  ·exact h.elim
 unfold ADop at h
 split at h
 ·rename_i f xs hg
  unfold ADcall at h
  split at h
  ·rename_i hc
   obtain⟨v,h1,h2⟩:=h
   refine mk v s.h h2 ?_
   rw[hc];exact⟨rfl,λk=>Y.call hg (h1 k)⟩
  ·rename_i hc
   obtain⟨v,h1,h2⟩:=h
   refine mk v s.h h2 ?_
   rw[hc];exact⟨rfl,λk hk=>Y.call hg (h1 k hk)⟩
  ·exact h.elim
  ·rename_i hc
   obtain⟨v,h',h1,h2⟩:=h
   refine mk v h' h2 ?_
   rw[hc];exact Y.call hg h1
  ·exact h.elim
 ·rename_i hg
  split at h
  ·rename_i t x ho
   unfold ldK at h
   split at h
   ·rename_i hc
    refine fin hg h.2 λv h' hv=> ?_
    rw[hc]
    obtain⟨e,hk⟩:=Zte ho h.1 hv
    exact⟨e,λk hke=>Y.ev (hk k hke)⟩
   ·rename_i hc
    refine fin hg h.2 λv h' hv=> ?_
    rw[hc]
    obtain⟨e,hk⟩:=Ztf ho h.1 hv
    subst e
    exact⟨rfl,⟨rfl,λ_ _=>rfl⟩,λk hke=>by rw[ZjV hke];exact Y.ev (hk k hke)⟩
   ·rename_i hc
    refine fin hg h λv h' hv=> ?_
    rw[hc];exact Y.ev hv
   ·rename_i hc
    refine fin hg h.2 λv h' hv=> ?_
    rw[hc]
    obtain⟨e,hk⟩:=Ztc ho h.1 hv
    exact⟨e,λk=>Y.ev (hk k)⟩
   ·exact h.elim
  ·rename_i t m x ok ho
   unfold ldK at h
   split at h
   ·rename_i hc
    refine fin hg h.2 λv h' hv=> ?_
    rw[hc]
    obtain⟨e,hk⟩:=Ztg ho h.1 hv
    exact⟨e,λk hke=>Y.ev (hk k hke)⟩
   ·rename_i hc
    refine fin hg h.2 λv h' hv=> ?_
    rw[hc]
    obtain⟨e,hk⟩:=Zth ho h.1 hv
    subst e
    exact⟨rfl,⟨rfl,λ_ _=>rfl⟩,λk hke=>by rw[ZjV hke];exact Y.ev (hk k hke)⟩
   ·rename_i hc
    refine fin hg h λv h' hv=> ?_
    rw[hc];exact Y.ev hv
   ·rename_i hc
    refine fin hg h.2 λv h' hv=> ?_
    rw[hc]
    obtain⟨e,hk⟩:=Ztd ho h.1 hv
    exact⟨e,λk=>Y.ev (hk k)⟩
   ·exact h.elim
  ·rename_i t p x ho
   unfold stK at h
   split at h
   ·rename_i hc
    refine fin hg h.2 λv h' hv=> ?_
    rw[hc]
    obtain⟨e1,e2,hk⟩:=Zqt ho h.1 hv
    exact⟨e1,e2,λk hke=>Y.ev (hk k hke)⟩
   ·rename_i hc
    refine fin hg h λv h' hv=> ?_
    rw[hc];exact Y.ev hv
   ·exact h.elim
  ·rename_i sr ds x ho
   refine fin hg h.2 λv h' hv=> ?_
   have e:clAt lit cc i o= .t:=by
    unfold clAt
    rw[hg]
    simp only[ho,clOf]
   rw[e]
   obtain⟨e,hk⟩:=ev_conv ho h.1 hv
   exact⟨e,λk=>Y.ev (hk k)⟩
  ·rename_i t ho
   unfold alcK at h
   split at h
   ·rename_i hc
    split at h
    ·rename_i id ver hr
     split at h
     ·rename_i zs hz
      obtain⟨h1,h2⟩:=Ztj hr
      refine mk _ _ h ?_
      rw[hc]
      have hne:∀j:Nat,D.contains j=false->¬id=j:=λj hj e=>by subst e;rw[h1] at hj;cases hj
      refine⟨by simp,⟨by simp,λj hj=>List.getElem?_set_ne (hne j hj)⟩,λk hk=> ?_⟩
      have e:mrg D (s.h.set id (.cells (ver+1) zs)) k=k.set id (.cells (ver+1) zs):=by
       apply List.ext_getElem?
       intro j
       rw[Zhl (by simp[hk.1])]
       by_cases hj:id=j
       ·subst hj
        have l1:=(List.getElem?_eq_some_iff.1 h2).1
        rw[if_pos h1,List.getElem?_set_self l1,List.getElem?_set_self (by rw[hk.1];exact l1)]
       ·rw[List.getElem?_set_ne hj,List.getElem?_set_ne hj]
        split
        ·rename_i hd;rw[hk.2 j hd]
        ·rfl
      rw[e]
      exact Y.room ho hz (by rw[hk.2 id h1];exact h2)
     ·exact h.elim
    ·exact h.elim
   ·rename_i hc
    refine fin hg h λv h' hv=> ?_
    rw[hc];exact Y.ev hv
   ·rename_i id hc
    split at h
    ·rename_i ver zs hx hz
     refine mk _ _ h ?_
     rw[hc]
     have l1:=(List.getElem?_eq_some_iff.1 hx).1
     refine⟨by simp,λj hj=>List.getElem?_set_ne (Ne.symm hj),λk hk1 hk2=> ?_⟩
     rw[List.getElem?_set_self l1]
     exact Y.room ho hz (hk2.trans hx)
    ·exact h.elim
   ·exact h.elim
  ·rename_i h1 h2 h3 h4 h5
   refine fin hg h λv h' hv=> ?_
   have e:clAt lit cc i o=clOf lit o:=by
    unfold clAt
    rw[hg]
    simp only[]
   rw[e]
   generalize hc:clOf lit o=c
   cases c with
   |t=>obtain⟨e,hk⟩:=ev_t hg (λs d x ho=>h4 s d x ho) hc hv;exact⟨e,λk=>Y.ev (hk k)⟩
   |q=>
    exfalso
    unfold clOf at hc
    split at hc<;>first|(cases hc;done)|(split at hc<;>cases hc;done)|skip
    ·rename_i t x ho;exact h1 t x ho
    ·rename_i t m x ok ho;exact h2 t m x ok ho
   |w=>
    exfalso
    unfold clOf at hc
    split at hc<;>first|(cases hc;done)|(split at hc<;>cases hc;done)|skip
    ·rename_i t p x ho;exact h3 t p x ho
   |e=>exact Y.ev hv
   |r id=>
    exfalso
    unfold clOf at hc
    split at hc<;>first|(cases hc;done)|(split at hc<;>cases hc;done)
theorem Ztk {D:List Nat} {cc:CC} {ops:Array Oper} {Q:Zc->Prop}:∀(l:List Oper) (i:Nat) (s:Zc),AD P lit D cc ops Q i l s->
  ∃(S:Nat->Zc) (V:Nat->AV),S i=s/\Q (S (i+l.length))/\∀k o,l[k]? =some o->Stp P D ops (clAt lit cc (i+k) o) o (S (i+k)) (S (i+k+1)) (V (i+k))
 |[],i,s,h=>⟨λ_=>s,λ_=> .any,rfl,h,λk o hk=>by simp at hk⟩
 |o::rest,i,s,h=>by
  have key:∃v s',Stp P D ops (clAt lit cc i o) o s s' v/\AD P lit D cc ops Q (i+1) rest s':=by
   simp only[AD] at h
   split at h
   ·rename_i hg
    exact ZoD h (by simp[Wt,hg])
   ·rename_i j want hg
    split at h
    ·exact h.elim
    ·rename_i t ht
     unfold gdD at h
     split at h
     ·rename_i b hb
      obtain⟨h1,h2⟩:=h
      by_cases hbw:b=want
      ·subst hbw
       have h1:=h1 rfl
       rw[<-hb,ZoC] at h1
       exact ZoD h1 (by simp only[Wt,hg];exact⟨t,ht,.inl ⟨b,hb,by simp⟩⟩)
      ·have hbn:b= !want:=by cases b<;>cases want<;>simp_all
       have h2:=h2 hbn
       rw[<-hbn,<-hb,ZoC] at h2
       obtain⟨hd,hk⟩:=h2
       exact⟨.tup [],_,⟨hd,by rw[Zla],.inr ⟨by simp only[Wt,hg];exact⟨t,ht,.inl ⟨b,hb,by simp[hbw]⟩⟩,rfl,Zla _ _ _⟩⟩,hk⟩
     ·rename_i hb
      obtain⟨hd,hk⟩:=h
      exact⟨.tup [],_,⟨hd,by rw[Zla],.inr ⟨by simp only[Wt,hg];exact⟨t,ht,.inr ⟨hb,trivial⟩⟩,rfl,Zla _ _ _⟩⟩,hk⟩
     ·exact h.elim
  obtain⟨v,s',hst,hr⟩:=key
  obtain⟨S,V,h1,h2,h3⟩:=Ztk rest (i+1) s' hr
  refine⟨λk=>if k<=i then s else S k,λk=>if k<=i then v else V k,by simp,?_,λk o' hk=> ?_⟩
  ·have:¬(i+(rest.length+1)<=i):=by omega
   simp only[List.length_cons,this,if_false]
   rw[show i+(rest.length+1)=i+1+rest.length by omega];exact h2
  ·cases k with
   |zero=>
    simp only[List.getElem?_cons_zero,Option.some.injEq] at hk;subst hk
    have:¬(i+1<=i):=by omega
    simp only[Nat.add_zero,Nat.le_refl,if_true,this,if_false]
    rw[h1];exact hst
   |succ k=>
    have a:¬(i+(k+1)<=i):=by omega
    have b:¬(i+(k+1)+1<=i):=by omega
    simp only[a,b,if_false]
    have:=h3 k o' (by simpa using hk)
    rw[show i+(k+1)=i+1+k by omega];exact this
theorem look_op {ops:Array Oper} {o:Oper} {t:Tmp} (h: .tmp t∈o.op.operands):t∈o.looksAt ops:=
 List.mem_append_left _ (List.mem_filterMap.2 ⟨.tmp t,by simpa using h,rfl⟩)
theorem ZiH {ops:Array Oper} {o:Oper} {j t:Nat} {want:Bool} (h:o.guard=some (j,want)) (ht:Zbp ops j=some t):t∈o.looksAt ops:=
 List.mem_append_right _ (by rw[h];simp only[Zbp] at ht;simp[ht])
def needs (D:List Nat) (k h:Za):Cl->Prop
 | .t=>True
 | .q=>Zep D k h
 | .w=>onEq D k h
 | .e=>k=h
 | .r id=>k.length=h.length/\k[id]? =h[id]?
def newH (D:List Nat) (k h':Za):Cl->Za
 | .t| .q=>k
 | .w=>mrg D h' k
 | .e=>h'
 | .r id=>k.set id (h'[id]?.getD .dead)
theorem Zwx {D:List Nat} {ops:Array Oper} {Q':Exit->Act->World->Prop} {K:Act->World->Prop} {c:Cl} {i:Nat} {o:Oper} {S S' s:Zc} {v:AV} {Z:Nat->Prop} {κ:Nat->Slot} {a:Act} {w:World} (r:SRel Z κ s a w) (hN:s.N=S.N)
  (hs:Stp P D ops c o S S' v) (ho:ops[i]? =some o) (hT:∀t∈o.looksAt ops,s.T t=S.T t) (hh:needs D s.h S.h c)
  (hk:∀Z' κ' a' w',SRel Z' κ' (({s with h:=newH D s.h S'.h c}:Zc).put o.dst v) a' w'->Ext Z κ w Z' κ' w'->Zq κ κ'->K a' w'):wpOp P ops Q' i K a w:=by
 have hd:∀i,o.dst=some i->i<s.N:=λi hi=>by
  have:=hs.dst
  rw[hi,<-hN] at this;exact this
 have wt:∀b,Wt ops o S.T b->Region.wanted o (yielded ops a.tmps)=b:=by
  intro b hw
  unfold Wt at hw
  split at hw
  ·rename_i hg;rw[Zhg hg,hw]
  ·rename_i j want hg
   obtain⟨t,ht,hw⟩:=hw
   have ht':=ht
   unfold Zbp at ht'
   rcases hw with⟨u,hu,rfl⟩|⟨hu,rfl⟩
   ·have hy:yielded ops a.tmps j=some u:=by
     have:=r.bool (t:=t) (b:=u) (by rw[hT t (ZiH hg ht)];exact hu)
     simp only[yielded,ht',Option.bind_some,this]
    simp[Region.wanted,hg,hy]
   ·have hy:∀b,yielded ops a.tmps j≠some b:=by
     intro b
     simp only[yielded,ht',Option.bind_some]
     have:=r.noBool (t:=t) (by rw[hT t (ZiH hg ht)];exact hu)
     split
     ·rename_i b' hb';exact absurd hb' (this b')
     ·simp
    simp only[Region.wanted,hg]
    cases hyy:yielded ops a.tmps j with
    |none=>rfl
    |some b=>exact absurd hyy (hy b)
 unfold wpOp
 simp only[ho]
 rcases hs.go with⟨hw,hok⟩|⟨hw,hv,he⟩
 ·rw[wt _ hw]
  simp only[if_true]
  refine .inl ?_
  have hx:∀x∈o.op.operands,R Z w κ (S.ev x) (a.eval x):=λx hm=>by
   have:=r.ev x
   have e:s.ev x=S.ev x:=by
    cases x with
    |tmp t=>exact hT t (look_op hm)
    |_=>rfl
   rwa[e] at this
  have go:Y P o S.ev s.h (newH D s.h S'.h c) v->o.wp P a w K Q':=by
   intro hy
   refine hy Z κ w a r.rel hx K Q' λcv Z' κ' w' r' hr ex sa=> ?_
   exact hk Z' κ' _ w' (r.put r' hr ex sa hd) ex sa
  cases c with
  |t=>exact go (hok.2 s.h)
  |q=>exact go (hok.2 s.h hh)
  |w=>exact go (hok.2.2 s.h hh)
  |e=>
   refine go ?_
   have hh:s.h=S.h:=hh
   rw[hh];exact hok
  |r id=>exact go (hok.2.2 s.h hh.1 hh.2)
 ·rw[wt _ hw]
  simp only[Bool.false_eq_true,if_false]
  have e:newH D s.h S'.h c=s.h:=by
   cases c with
   |t=>rfl
   |q=>rfl
   |w=>show mrg D S'.h s.h=s.h;rw[he];exact ZjV hh
   |e=>show S'.h=s.h;rw[he];exact hh.symm
   |r id=>show s.h.set id (S'.h[id]?.getD .dead)=s.h;rw[he];exact Zww hh.2
  refine hk Z κ _ w ?_ (.refl _ _ _) (.refl _)
  rw[e,hv]
  exact r.skip (by have:=hs.dst;rwa[<-hN] at this)
theorem ZfQ {ops:Array Oper} {listed:Array Bool} {i:Nat} (h:i∈Region.ready .any ops listed):i<ops.size/\listed.getD i true=false/\∀o,ops[i]? =some o->∀e∈ZaI o,listed.getD e false=true:=by
 simp only[Region.ready,List.mem_filter,List.mem_range,Bool.and_eq_true,Bool.not_eq_true'] at h
 refine⟨h.1,h.2.1,λo ho e he=> ?_⟩
 have h2:=h.2.2
 rw[ho] at h2
 simp only[Option.map_some,Option.getD_some,Array.all_eq_true',Bool.or_eq_true,Bool.not_eq_true'] at h2
 simp only[ZaI,List.mem_map,List.mem_filter] at he
 obtain⟨x,⟨hx,hb⟩,rfl⟩:=he
 rcases h2 x (by simpa using hx) with h3|h3
 ·rw[hb] at h3;cases h3
 ·exact h3
theorem ZoE {ops:Array Oper} {listed:Array Bool} {i:Nat} {o:Oper} (ho:ops[i]? =some o) (hl:listed.getD i true=false) (he:∀e∈ZaI o,listed.getD e false=true):i∈Region.ready .any ops listed:=by
 have hi:i<ops.size:=by
  rcases Nat.lt_or_ge i ops.size with h|h
  ·exact h
  ·rw[Array.getElem?_eq_none h] at ho;cases ho
 simp only[Region.ready,List.mem_filter,List.mem_range,Bool.and_eq_true,Bool.not_eq_true']
 refine⟨hi,hl,?_⟩
 rw[ho]
 simp only[Option.map_some,Option.getD_some,Array.all_eq_true',Bool.or_eq_true,Bool.not_eq_true']
 intro x hx
 by_cases hb:Region.binds .any x=true
 ·exact .inr (he _ (by simp only[ZaI,List.mem_map,List.mem_filter];exact⟨x,⟨by simpa using hx,hb⟩,rfl⟩))
 ·exact .inl (by simpa using hb)
theorem Zfg {listed:Array Bool} {i:Nat} (hi:i<listed.size) (b b':Bool):listed.getD i b=listed.getD i b':=by simp[Array.getD,hi]
theorem ZdO {listed:Array Bool} {i j:Nat} (hi:i<listed.size):(listed.setIfInBounds i true).getD j true=if j=i then true else listed.getD j true:=by
 rw[Array.getD_eq_getD_getElem?,Array.getD_eq_getD_getElem?,Array.getElem?_setIfInBounds]
 by_cases h:i=j
 ·subst h;simp[hi]
 ·have:¬j=i:=λe=>h e.symm
  simp[h,this]
theorem ZiI {ops:Array Oper} {Q':Exit->Act->World->Prop} {fuel:Nat} {listed:Array Bool} {a:Act} {w:World} {i:Nat} (hi:i∈Region.ready .any ops listed)
  (h:∀i∈Region.ready .any ops listed,wpOp P ops Q' i (wpAny P .any ops Q' fuel (listed.setIfInBounds i true)) a w):wpAny P .any ops Q' (fuel+1) listed a w:=
 ⟨λh0=>by rw[h0] at hi;simp at hi,h⟩
theorem ZjX {cc:CC} {m:Nat} {ops:Array Oper} (O:ZjW lit cc m ops) {Q':Exit->Act->World->Prop}:∀(fuel k:Nat) (listed:Array Bool) (a:Act) (w:World),listed.size=ops.size->k+fuel=ops.size->m<=k->
  (∀i,i<ops.size->(listed.getD i true=true↔i<k))->wpList P ops Q' (ops.toList.drop k) a w->wpAny P .any ops Q' fuel listed a w
 |0,k,listed,a,w,hz,hk,hm,hl,h=>by
  refine⟨List.eq_nil_iff_forall_not_mem.2 λi hi=> ?_,?_⟩
  ·obtain⟨h1,h2,_⟩:=ZfQ hi
   have:=(hl i h1).2 (by omega)
   rw[h2] at this;cases this
  ·rw[List.drop_eq_nil_of_le (by simp;omega)] at h
   exact h
 |fuel+1,k,listed,a,w,hz,hk,hm,hl,h=>by
  have hkn:k<ops.size:=by omega
  have hd:ops.toList.drop k=ops[k]::ops.toList.drop (k+1):=by
   rw[List.drop_eq_getElem_cons (by simpa using hkn)];simp
  have hok:ops[k]? =some ops[k]:=by simp[hkn]
  have rk:k∈Region.ready .any ops listed:=ZoE hok (by
    have:=hl k hkn
    cases hx:listed.getD k true with
    |false=>rfl
    |true=>have:=this.1 hx;omega) λe he=>by
     have h1:=O.lt k _ hok e he
     rw[Zfg (by omega) false true]
     exact(hl e (by omega)).2 h1
  refine ZiI rk λi hi=> ?_
  obtain⟨h1,h2,h3⟩:=ZfQ hi
  have hik:i=k:=by
   rcases Nat.lt_trichotomy i k with h4|h4|h4
   ·have:=(hl i h1).2 h4;rw[h2] at this;cases this
   ·exact h4
   ·have hoi:ops[i]? =some ops[i]:=by simp[h1]
    have:=h3 _ hoi (i -1) (O.tail i _ hoi (by omega))
    rw[Zfg (by omega) false true] at this
    have:=(hl (i -1) (by omega)).1 this
    omega
  subst hik
  rw[hd] at h
  have next:∀a w,wpList P ops Q' (ops.toList.drop (i+1)) a w->wpAny P .any ops Q' fuel (listed.setIfInBounds i true) a w:=λa w h=>
   ZjX O fuel (i+1) _ a w (by simpa using hz) (by omega) (by omega) (λj hj=>by
    rw[ZdO (by omega)]
    by_cases hji:j=i
    ·simp[hji]
    ·simp only[hji,if_false,hl j hj];omega) h
  unfold wpOp
  simp only[hok]
  simp only[wpList] at h
  split
  ·rename_i hw
   simp only[hw,if_true] at h
   exact h.imp (Oper.wp_mono next) id
  ·rename_i hw
   simp only[hw] at h
   exact next _ _ h
def Tm (ops:Array Oper) (m:Nat) (V:Nat->AV) (T0:Nat->AV) (L:Nat->Prop) (T:Nat->AV):Prop:=
 ∀j,(∀k o,k<m->L k->ops[k]? =some o->o.dst=some j->T j=V k)/\((∀k o,k<m->L k->ops[k]? =some o->o.dst≠some j)->T j=T0 j)
theorem aput_T (s:Zc) (d:Option Nat) (v:AV) (j:Nat):(s.put d v).T j=if d=some j then v else s.T j:=by
 cases d with
 |none=>rfl
 |some i=>
  show Cx.put s.T i v j=_
  simp only[Cx.put,Option.some.injEq]
  by_cases h:j=i
  ·simp[h]
  ·have:¬i=j:=λe=>h e.symm
   simp[h,this]
theorem Tm.put {cc:CC} {ops:Array Oper} {m:Nat} (O:ZjW lit cc m ops) {V T0 T T':Nat->AV} {L L':Nat->Prop} (h:Tm ops m V T0 L T) {i:Nat} {o:Oper} (hi:ops[i]? =some o) (him:i<m) (hL:∀k,L' k↔k=i\/L k)
  (hT:∀j,T' j=if o.dst=some j then V i else T j):Tm ops m V T0 L' T':=by
 intro j
 obtain⟨h1,h2⟩:=h j
 refine⟨λk ok hk hl hok hd=> ?_,λhn=> ?_⟩
 ·rw[hT]
  by_cases hki:k=i
  ·subst hki
   rw[hi] at hok;cases hok
   simp[hd]
  ·have:=(O.dsts i k o ok j him hk hki hi hok hd).1
   simp only[this,if_false]
   exact h1 k ok hk (((hL k).1 hl).resolve_left hki) hok hd
 ·rw[hT]
  have:=hn i o him ((hL i).2 (.inl rfl)) hi
  simp only[this,if_false]
  exact h2 λk ok hk hl=>hn k ok hk ((hL k).2 (.inr hl))
section
variable {D:List Nat} {cc:CC} {ops:Array Oper} {m:Nat} (O:ZjW lit cc m ops) {S:Nat->Zc} {V:Nat->AV}
 (hS:∀k o,k<m->ops[k]? =some o->Stp P D ops (clAt lit cc k o) o (S k) (S (k+1)) (V k))
 (hR:∀k o id,clAt lit cc k o= .r id->D.contains id=true)
include O hS hR
theorem Ztl:∀k,k<=m->(S k).N=(S 0).N
 |0,_=>rfl
 |k+1,hk=>by
  have hlt:k<ops.size:=by have:=O.le;omega
  have:=(hS k ops[k] (by omega) (by simp[hlt])).eq
  rw[this,put_N]
  exact Ztl k (by omega)
theorem Ztm:∀k,k<=m->Tm ops m V (S 0).T (λi=>i<k) (S k).T
 |0,_=>λj=>⟨λk o _ hl=>absurd hl (by omega),λ_=>rfl⟩
 |k+1,hk=>by
  have hlt:k<ops.size:=by have:=O.le;omega
  have hok:ops[k]? =some ops[k]:=by simp[hlt]
  have:=(hS k ops[k] (by omega) hok).eq
  refine Tm.put O (Ztm k (by omega)) hok (by omega) (λi=>by omega) λj=> ?_
  rw[this,aput_T]
theorem ZdP {t i:Nat} (hti:t<=i) (him:i<=m) (hq:∀k o,t<=k->k<i->ops[k]? =some o->clAt lit cc k o≠ .e):Zep D (S i).h (S t).h:=by
 induction i with
 |zero=>rw[show t=0 by omega];exact⟨rfl,λ_ _=>rfl⟩
 |succ i ih=>
  by_cases he:t=i+1
  ·rw[he];exact⟨rfl,λ_ _=>rfl⟩
  ·have hlt:i<ops.size:=by have:=O.le;omega
   have hok:ops[i]? =some ops[i]:=by simp[hlt]
   have h1:=ih (by omega) (by omega) λk o h1 h2=>hq k o h1 (by omega)
   have hs:=(hS i ops[i] (by omega) hok).go
   have hc:=hq i ops[i] (by omega) (by omega) hok
   have h2:Zep D (S (i+1)).h (S i).h:=by
    rcases hs with⟨_,hs⟩|⟨_,_,hs⟩
    ·have hrD:=hR i ops[i]
     revert hc hs hrD
     generalize clAt lit cc i ops[i]=c
     intro hc hs hrD
     cases c with
     |t=>rw[hs.1];exact⟨rfl,λ_ _=>rfl⟩
     |q=>rw[hs.1];exact⟨rfl,λ_ _=>rfl⟩
     |w=>exact hs.2.1
     |e=>exact absurd rfl hc
     |r id=>exact⟨hs.1,λj hj=>hs.2.1 j λe=>by subst e;rw[hrD j rfl] at hj;cases hj⟩
    ·rw[hs];exact⟨rfl,λ_ _=>rfl⟩
   exact⟨h2.1.trans h1.1,λid hid=>(h2.2 id hid).trans (h1.2 id hid)⟩
theorem ZgE {id:Nat} (hid:D.contains id=true) {t i:Nat} (hti:t<=i) (him:i<=m) (hq:∀k o,t<=k->k<i->ops[k]? =some o->clAt lit cc k o≠ .e/\clAt lit cc k o≠ .w/\clAt lit cc k o≠ .r id):(S i).h.length=(S t).h.length/\(S i).h[id]? =(S t).h[id]? :=by
 induction i with
 |zero=>rw[show t=0 by omega];exact⟨rfl,rfl⟩
 |succ i ih=>
  by_cases he:t=i+1
  ·rw[he];exact⟨rfl,rfl⟩
  ·have hlt:i<ops.size:=by have:=O.le;omega
   have hok:ops[i]? =some ops[i]:=by simp[hlt]
   have h1:=ih (by omega) (by omega) λk o h1 h2=>hq k o h1 (by omega)
   have hs:=(hS i ops[i] (by omega) hok).go
   have hc:=hq i ops[i] (by omega) (by omega) hok
   have h2:(S (i+1)).h.length=(S i).h.length/\(S (i+1)).h[id]? =(S i).h[id]? :=by
    rcases hs with⟨_,hs⟩|⟨_,_,hs⟩
    ·revert hc hs
     generalize clAt lit cc i ops[i]=c
     intro hc hs
     cases c with
     |t=>rw[hs.1];exact⟨rfl,rfl⟩
     |q=>rw[hs.1];exact⟨rfl,rfl⟩
     |w=>exact absurd rfl hc.2.1
     |e=>exact absurd rfl hc.1
     |r j=>exact⟨hs.1,hs.2.1 id λe=>hc.2.2 (by rw[e])⟩
    ·rw[hs];exact⟨rfl,rfl⟩
   exact⟨h2.1.trans h1.1,h2.2.trans h1.2⟩
omit hS hR in
theorem Zdt {listed:Array Bool} (hcl:∀i o,ops[i]? =some o->listed.getD i true=true->∀e∈ZaI o,listed.getD e true=true):
  ∀(i j:Nat) (o:Oper),ops[i]? =some o->O.reach i j->(∀e∈ZaI o,listed.getD e true=true)->listed.getD j true=true:=by
 intro i
 induction i using Nat.strongRecOn with
 |_ i ih=>
  intro j o hi hr he
  obtain⟨e,hm,h⟩:=O.step i o j hi hr
  rcases h with rfl|h
  ·exact he e hm
  ·have hei:=O.lt i o hi e hm
   have hlt:e<ops.size:=by
    have:=(Array.getElem?_eq_some_iff.1 hi).1;omega
   have hoe:ops[e]? =some ops[e]:=by simp[hlt]
   exact ih e hei j _ hoe h (hcl e _ hoe (he e hm))
abbrev upI (lit:TypeId->Bool) (cc:CC) (id k:Nat) (o:Oper):Prop:=clAt lit cc k o= .e\/clAt lit cc k o= .w\/clAt lit cc k o= .r id
theorem Zwy {h:Za} {t i:Nat} {u:Nat->Nat} (htm:t<=m) (hum:∀id,u id<=m) (him:i<=m) (ho:Zep D h (S t).h) (hn:∀id,D.contains id=true->h.length=(S (u id)).h.length/\h[id]? =(S (u id)).h[id]?)
  (h1:∀k o,k<m->ops[k]? =some o->clAt lit cc k o= .e->(k<i↔k<t)) (h2:∀id,D.contains id=true->∀k o,k<m->ops[k]? =some o->upI lit cc id k o->(k<i↔k<u id)):h=(S i).h:=by
 have a:Zep D h (S i).h:=by
  rcases Nat.le_total t i with hl|hl
  ·have:=ZdP O hS hR hl him λk o h4 h5 hok he=>by have:=h1 k o (by omega) hok he;omega
   exact⟨ho.1.trans this.1.symm,λid hid=>(ho.2 id hid).trans (this.2 id hid).symm⟩
  ·have:=ZdP O hS hR hl htm λk o h4 h5 hok he=>by have:=h1 k o (by omega) hok he;omega
   exact⟨ho.1.trans this.1,λid hid=>(ho.2 id hid).trans (this.2 id hid)⟩
 have b:∀id,D.contains id=true->h[id]? =(S i).h[id]? :=by
  intro id hid
  have hu:=hum id
  rcases Nat.le_total (u id) i with hl|hl
  ·have:=ZgE O hS hR hid hl him λk o h4 h5 hok=>⟨λhe=>by have:=h2 id hid k o (by omega) hok (.inl he);omega,λhe=>by have:=h2 id hid k o (by omega) hok (.inr (.inl he));omega,λhe=>by have:=h2 id hid k o (by omega) hok (.inr (.inr he));omega⟩
   exact(hn id hid).2.trans this.2.symm
  ·have:=ZgE O hS hR hid hl hu λk o h4 h5 hok=>⟨λhe=>by have:=h2 id hid k o (by omega) hok (.inl he);omega,λhe=>by have:=h2 id hid k o (by omega) hok (.inr (.inl he));omega,λhe=>by have:=h2 id hid k o (by omega) hok (.inr (.inr he));omega⟩
   exact(hn id hid).2.trans this.2
 apply List.ext_getElem?
 intro id
 cases hd:D.contains id with
 |false=>exact a.2 id hd
 |true=>exact b id hd
theorem ZoF {listed:Array Bool} {s:Zc} {t:Nat} {u:Nat->Nat} (hall:∀k,k<m->listed.getD k true=true) (hN:s.N=(S 0).N) (hT:Tm ops m V (S 0).T (λi=>listed.getD i true=true) s.T)
  (htm:t<=m) (hum:∀id,u id<=m) (hoff:Zep D s.h (S t).h) (hon:∀id,D.contains id=true->s.h.length=(S (u id)).h.length/\s.h[id]? =(S (u id)).h[id]?) (hE:∀e o,e<m->ops[e]? =some o->clAt lit cc e o= .e->(listed.getD e true=true↔e<t))
  (hW:∀id,D.contains id=true->∀e o,e<m->ops[e]? =some o->upI lit cc id e o->(listed.getD e true=true↔e<u id)):s=S m:=by
 have h1:s.T=(S m).T:=by
  funext j
  have hm':=Ztm O hS hR m (Nat.le_refl _) j
  by_cases hx:∃k o,k<m/\ops[k]? =some o/\o.dst=some j
  ·obtain⟨k,o,hk,ho,hd⟩:=hx
   rw[(hT j).1 k o hk (hall k hk) ho hd,hm'.1 k o hk hk ho hd]
  ·have hx':∀k o,k<m->ops[k]? =some o->o.dst≠some j:=λk o h1 h2 h3=>hx ⟨k,o,h1,h2,h3⟩
   rw[(hT j).2 λk o h1 _ h2=>hx' k o h1 h2,hm'.2 λk o h1 _ h2=>hx' k o h1 h2]
 have h2:s.h=(S m).h:=Zwy O hS hR htm hum (Nat.le_refl _) hoff hon (λk o hk ho he=>⟨λ_=>(hE k o hk ho he).1 (hall k hk),λ_=>hk⟩) (λid hid k o hk ho he=>⟨λ_=>(hW id hid k o hk ho he).1 (hall k hk),λ_=>hk⟩)
 have h3:s.N=(S m).N:=by rw[hN,Ztl O hS hR m (Nat.le_refl _)]
 cases s;cases hsm:S m;rw[hsm] at h1 h2 h3;simp_all
theorem Zwz {Q':Exit->Act->World->Prop} {n:Nat} {Z0:Nat->Prop} {κ0:Nat->Slot} {w0:World}
  (hq:∀Z κ a w,SRel Z κ (S m) a w->Ext Z0 κ0 w0 Z κ w->ZX n κ0 κ->n<=(S m).h.length->wpList P ops Q' (ops.toList.drop m) a w):∀(fuel:Nat) (listed:Array Bool) (a:Act) (w:World) (Z:Nat->Prop) (κ:Nat->Slot) (s:Zc) (t:Nat) (u:Nat->Nat),
  listed.size=ops.size->listed.toList.count false=fuel->(∀i,m<=i->i<ops.size->listed.getD i true=false)->
  (∀i o,ops[i]? =some o->listed.getD i true=true->∀e∈ZaI o,listed.getD e true=true)->
  SRel Z κ s a w->Ext Z0 κ0 w0 Z κ w->ZX n κ0 κ->n<=s.h.length->s.N=(S 0).N->Tm ops m V (S 0).T (λi=>listed.getD i true=true) s.T->
  t<=m->(∀id,u id<=m)->Zep D s.h (S t).h->(∀id,D.contains id=true->s.h.length=(S (u id)).h.length/\s.h[id]? =(S (u id)).h[id]?)->(∀e o,e<m->ops[e]? =some o->clAt lit cc e o= .e->(listed.getD e true=true↔e<t))->
  (∀id,D.contains id=true->∀e o,e<m->ops[e]? =some o->upI lit cc id e o->(listed.getD e true=true↔e<u id))->wpAny P .any ops Q' fuel listed a w:=by
 intro fuel
 induction fuel with
 |zero=>
  intro listed a w Z κ s t u hz hc hm hcl r ex st hn hN hT htm hum hoff hon hE hW
  have alls:∀i,i<ops.size->listed.getD i true=true:=λi hi=>by
   rw[List.count_eq_zero] at hc
   cases hx:listed.getD i true with
   |true=>rfl
   |false=>
    exact absurd (by
     have hi':i<listed.size:=by omega
     have:listed[i]=false:=by simpa[Array.getD,hi'] using hx
     rw[<-this];simp) hc
  refine ZjX O 0 ops.size listed a w hz (by omega) O.le (λi hi=>⟨λ_=>hi,λ_=>alls i hi⟩) ?_
  have hmn:m=ops.size:=by
   rcases Nat.lt_or_ge m ops.size with h|h
   ·have h1:=hm m (Nat.le_refl _) h
    rw[alls m h] at h1;cases h1
   ·have:=O.le;omega
  have es:=ZoF O hS hR (λk hk=>alls k (by omega)) hN hT htm hum hoff hon hE hW
  rw[<-hmn]
  exact hq Z κ a w (es▸r) ex st (es▸hn)
 |succ fuel ih=>
  intro listed a w Z κ s t u hz hc hm hcl r ex st hn hN hT htm hum hoff hon hE hW
  by_cases hall:∀k,k<m->listed.getD k true=true
  ·--the head is through
   have hlen:fuel+1=ops.size -m:=by
    have h1:listed.toList=List.replicate m true++List.replicate (ops.size -m) false:=by
     apply List.ext_getElem?
     intro i
     rcases Nat.lt_or_ge i ops.size with hi|hi
     ·have hi':i<listed.size:=by omega
      rcases Nat.lt_or_ge i m with h|h
      ·have:=hall i h
       have h2:listed[i]=true:=by simpa[Array.getD,hi'] using this
       rw[List.getElem?_append_left (by simpa using h)]
       simp[hi',h2,h]
      ·have:=hm i h hi
       have h2:listed[i]=false:=by simpa[Array.getD,hi'] using this
       have h5:i -m<ops.size -m:=by omega
       rw[List.getElem?_append_right (by simpa using h)]
       simp[hi',h2,h5]
     ·have:=O.le
      rw[List.getElem?_eq_none (by simp;omega),List.getElem?_eq_none (by simp;omega)]
    rw[h1] at hc
    simpa[List.count_append,List.count_replicate] using hc.symm
   have es:=ZoF O hS hR hall hN hT htm hum hoff hon hE hW
   exact ZjX O (fuel+1) m listed a w hz (by have:=O.le;omega) (Nat.le_refl _) (λi hi=>by
    rcases Nat.lt_or_ge i m with h|h
    ·simp[hall i h,h]
    ·have:=hm i h hi
     simp[this];omega) (hq Z κ a w (es▸r) ex st (es▸hn))
  ·--some of the head are left
   have hex:∃k,k<m/\listed.getD k true=false:=by
    false_or_by_contra
    rename_i hne
    exact hall λk hk=>by
     cases hx:listed.getD k true with
     |true=>rfl
     |false=>exact absurd ⟨k,hk,hx⟩ hne
   have hmin:∃k,k<m/\listed.getD k true=false/\∀j,j<k->listed.getD j true=true:=by
    have go:∀k,k<m->listed.getD k true=false->∃k,k<m/\listed.getD k true=false/\∀j,j<k->listed.getD j true=true:=by
     intro k
     induction k using Nat.strongRecOn with
     |_ k ihk=>
      intro h1 h2
      by_cases hj:∃j,j<k/\listed.getD j true=false
      ·obtain⟨j,h3,h4⟩:=hj
       exact ihk j h3 (by omega) h4
      ·exact⟨k,h1,h2,λj h3=>by
        cases hx:listed.getD j true with
        |true=>rfl
        |false=>exact absurd ⟨j,h3,hx⟩ hj⟩
    obtain⟨k,h1,h2⟩:=hex
    exact go k h1 h2
   obtain⟨k0,hk0,hl0,hlow⟩:=hmin
   have hk0n:k0<ops.size:=by have:=O.le;omega
   have rk0:k0∈Region.ready .any ops listed:=ZoE (o:=ops[k0]) (by simp[hk0n]) hl0 λe he=>by
    have h1:=O.lt k0 ops[k0] (by simp[hk0n]) e he
    rw[Zfg (by omega) false true]
    exact hlow e h1
   refine ZiI rk0 λi hi=> ?_
   obtain⟨h1,h2,h3⟩:=ZfQ hi
   have hoi:ops[i]? =some ops[i]:=by simp[h1]
   have h3':∀e∈ZaI ops[i],listed.getD e true=true:=λe he=>by
    have:=O.lt i _ hoi e he
    rw[Zfg (by omega) true false]
    exact h3 _ hoi e he
   have him:i<m:=by
    rcases Nat.lt_trichotomy i m with h|h|h
    ·exact h
    ·subst h
     have:=Zdt O hcl i k0 _ hoi (O.cut _ hoi k0 hk0) h3'
     rw[hl0] at this;cases this
    ·have:=h3' _ (O.tail i _ hoi h)
     rw[hm (i -1) (by omega) (by omega)] at this;cases this
   have reach_i:∀k,O.reach i k->listed.getD k true=true:=λk hr=>Zdt O hcl i k _ hoi hr h3'
   have not_reach:∀k,k<m->listed.getD k true=true->¬O.reach k i:=λk hk hl hr=>by
    have hkn:k<ops.size:=by have:=O.le;omega
    have:=Zdt O hcl k i ops[k] (by simp[hkn]) hr (hcl k _ (by simp[hkn]) hl)
    rw[h2] at this;cases this
   have side:∀k o,k<m->ops[k]? =some o->k≠i->(clAt lit cc k o).conf (clAt lit cc i ops[i])=true->(clAt lit cc i ops[i]).conf (clAt lit cc k o)=true->(listed.getD k true=true↔k<i):=λk o hk ho hne c1 c2=>by
    constructor
    ·intro hl
     rcases Nat.lt_or_ge k i with h|h
     ·exact h
     ·exact absurd (O.cls k i o _ hk him (by omega) ho hoi c2) (not_reach k hk hl)
    ·intro hlt
     exact reach_i k (O.cls i k _ o him hk hlt hoi ho c1)
   have hstp:=hS i _ him hoi
   have text:=Ztm O hS hR i (by omega)
   refine Zwx (S:=S i) (S':=S (i+1)) r (by rw[hN,Ztl O hS hR i (by omega)]) hstp hoi ?_ ?_ ?_
   ·intro x hx
    have hx1:=hT x
    have hx2:=text x
    have other:∀k o,k<m->k≠i->ops[k]? =some o->o.dst=some x->listed.getD k true=true/\k<i:=λk o hk hne ho hd=>by
     have hr:=(O.dsts i k _ o x him hk hne hoi ho hd).2 hx
     refine⟨reach_i k hr,?_⟩
     have down:∀i j o,ops[i]? =some o->O.reach i j->j<i:=by
      intro i
      induction i using Nat.strongRecOn with
      |_ i ih=>
       intro j o hi hr
       obtain⟨e,hm,h⟩:=O.step i o j hi hr
       have h1:=O.lt i o hi e hm
       rcases h with rfl|h
       ·exact h1
       ·have hlt:e<ops.size:=by have:=(Array.getElem?_eq_some_iff.1 hi).1;omega
        have:=ih e h1 j ops[e] (by simp[hlt]) h
        omega
     exact down i k _ hoi hr
    by_cases hw:∃k o,k<m/\k≠i/\ops[k]? =some o/\o.dst=some x
    ·obtain⟨k,o,hk,hne,ho,hd⟩:=hw
     obtain⟨hl,hlt⟩:=other k o hk hne ho hd
     rw[hx1.1 k o hk hl ho hd,hx2.1 k o hk hlt ho hd]
    ·have hno:∀k o,k<m->k≠i->ops[k]? =some o->o.dst≠some x:=λk o h1 h2 h3 h4=>hw ⟨k,o,h1,h2,h3,h4⟩
     rw[hx1.2 λk o hk hl ho=>hno k o hk (λe=>by subst e;have hl:listed.getD k true=true:=hl;rw[h2] at hl;cases hl) ho,hx2.2 λk o hk hl ho=>hno k o hk (by have hl:k<i:=hl;omega) ho]
   ·--what it needs of the heap
    have noE:(∀k o,k<m->ops[k]? =some o->clAt lit cc k o= .e->(clAt lit cc i ops[i])≠ .t->(k<i↔k<t)):=λk o hk ho he hc=>by
     by_cases hki:k=i
     ·subst hki;rw[hoi] at ho;cases ho
      have:=hE k _ hk hoi he
      rw[h2] at this
      have h5:¬k<t:=λh=>by have:=this.2 h;cases this
      omega
     ·rw[<-hE k o hk ho he,side k o hk ho hki (by rw[he];revert hc;cases clAt lit cc i ops[i]<;>simp[Cl.conf]) (by rw[he];revert hc;cases clAt lit cc i ops[i]<;>simp[Cl.conf])]
    have cfl:∀id k o,upI lit cc id k o->upI lit cc id i ops[i]->(clAt lit cc k o).conf (clAt lit cc i ops[i])=true/\(clAt lit cc i ops[i]).conf (clAt lit cc k o)=true:=λid k o h1 h2=>by
     rcases h1 with h1|h1|h1<;>rcases h2 with h2|h2|h2<;>rw[h1,h2]<;>simp[Cl.conf]
    have noW:∀id,D.contains id=true->(∀k o,k<m->ops[k]? =some o->upI lit cc id k o->upI lit cc id i ops[i]->(k<i↔k<u id)):=λid hid k o hk ho he hc=>by
     by_cases hki:k=i
     ·subst hki;rw[hoi] at ho;cases ho
      have:=hW id hid k _ hk hoi he
      rw[h2] at this
      have h5:¬k<u id:=λh=>by have:=this.2 h;cases this
      omega
     ·rw[<-hW id hid k o hk ho he,side k o hk ho hki (cfl id k o he hc).1 (cfl id k o he hc).2]
    have offi:clAt lit cc i ops[i]≠ .t->Zep D s.h (S i).h:=λhc=>by
     rcases Nat.le_total t i with hl|hl
     ·have:=ZdP O hS hR hl (by omega) λk o h4 h5 hok he=>by have:=noE k o (by omega) hok he hc;omega
      exact⟨hoff.1.trans this.1.symm,λid hid=>(hoff.2 id hid).trans (this.2 id hid).symm⟩
     ·have:=ZdP O hS hR hl htm λk o h4 h5 hok he=>by have:=noE k o (by omega) hok he hc;omega
      exact⟨hoff.1.trans this.1,λid hid=>(hoff.2 id hid).trans (this.2 id hid)⟩
    have oni:∀id,D.contains id=true->upI lit cc id i ops[i]->s.h.length=(S i).h.length/\s.h[id]? =(S i).h[id]? :=λid hid hc=>by
     have hu:=hum id
     rcases Nat.le_total (u id) i with hl|hl
     ·have:=ZgE O hS hR hid hl (by omega) λk o h4 h5 hok=>⟨λhe=>by have:=noW id hid k o (by omega) hok (.inl he) hc;omega,λhe=>by have:=noW id hid k o (by omega) hok (.inr (.inl he)) hc;omega,λhe=>by have:=noW id hid k o (by omega) hok (.inr (.inr he)) hc;omega⟩
      exact⟨(hon id hid).1.trans this.1.symm,(hon id hid).2.trans this.2.symm⟩
     ·have:=ZgE O hS hR hid hl hu λk o h4 h5 hok=>⟨λhe=>by have:=noW id hid k o (by omega) hok (.inl he) hc;omega,λhe=>by have:=noW id hid k o (by omega) hok (.inr (.inl he)) hc;omega,λhe=>by have:=noW id hid k o (by omega) hok (.inr (.inr he)) hc;omega⟩
      exact⟨(hon id hid).1.trans this.1,(hon id hid).2.trans this.2⟩
    have oni':∀id,D.contains id=true->(clAt lit cc i ops[i]= .e\/clAt lit cc i ops[i]= .w\/clAt lit cc i ops[i]= .r id)->s.h.length=(S i).h.length/\s.h[id]? =(S i).h[id]? :=oni
    have hrD:=hR i ops[i]
    revert offi oni' hrD
    generalize clAt lit cc i ops[i]=c
    intro offi oni' hrD
    cases c with
    |t=>trivial
    |q=>exact offi (by simp)
    |w=>exact⟨(offi (by simp)).1,λid hid=>(oni' id hid (by simp)).2⟩
    |e=>
     have a:=offi (by simp)
     show s.h=(S i).h
     apply List.ext_getElem?
     intro id
     cases hd:D.contains id with
     |false=>exact a.2 id hd
     |true=>exact(oni' id hd (by simp)).2
    |r id=>exact oni' id (hrD id rfl) (by simp)
   ·intro Z' κ' a' w' r' ex' sa
    have stn:=sa.lt r.rel hn
    have hlS:clAt lit cc i ops[i]≠ .t->clAt lit cc i ops[i]≠ .q->clAt lit cc i ops[i]≠ .e->(S (i+1)).h.length=s.h.length:=λc1 c2 c3=>by
     have e1:(S (i+1)).h.length=(S i).h.length:=by
      rcases hstp.go with⟨_,hok⟩|⟨_,_,he⟩
      ·revert hok c1 c2 c3
       generalize clAt lit cc i ops[i]=c
       intro c1 c2 c3 hok
       cases c with
       |t=>exact absurd rfl c1
       |q=>exact absurd rfl c2
       |w=>exact hok.1
       |e=>exact absurd rfl c3
       |r id=>exact hok.1
      ·rw[he]
     have noE:(∀k o,k<m->ops[k]? =some o->clAt lit cc k o= .e->(k<i↔k<t)):=λk o hk ho he=>by
      by_cases hki:k=i
      ·subst hki;rw[hoi] at ho;cases ho;exact absurd he c3
      ·rw[<-hE k o hk ho he,side k o hk ho hki (by rw[he];revert c1;cases clAt lit cc i ops[i]<;>simp[Cl.conf]) (by rw[he];revert c1;cases clAt lit cc i ops[i]<;>simp[Cl.conf])]
     rw[e1]
     rcases Nat.le_total t i with hl|hl
     ·have:=ZdP O hS hR hl (by omega) λk o h4 h5 hok he=>by have:=noE k o (by omega) hok he;omega
      rw[this.1,hoff.1]
     ·have:=ZdP O hS hR hl htm λk o h4 h5 hok he=>by have:=noE k o (by omega) hok he;omega
      rw[hoff.1,this.1]
    refine ih (listed.setIfInBounds i true) a' w' Z' κ' _ (if clAt lit cc i ops[i]= .e then i+1 else t) (λid=>if upI lit cc id i ops[i] then i+1 else u id) (by simpa using hz) ?_ ?_ ?_ r' (ex.trans ex') (st.trans stn) ?_ ?_ ?_ ?_ ?_ ?_ ?_ ?_ ?_
    ·have hi':i<listed.toList.length:=by simp;omega
     have hf:listed.toList[i]=false:=by
      have:i<listed.size:=by omega
      simpa[Array.getD,this] using h2
     rw[Array.toList_setIfInBounds,List.count_set hi',hf,hc]
     simp
    ·intro j hj1 hj2
     rw[ZdO (by omega),if_neg (by omega)]
     exact hm j hj1 hj2
    ·intro j o ho hl e he
     rw[ZdO (by omega)] at hl⊢
     by_cases hei:e=i
     ·simp[hei]
     ·simp only[hei,if_false]
      by_cases hji:j=i
      ·subst hji;rw[hoi] at ho;cases ho;exact h3' e he
      ·simp only[hji,if_false] at hl;exact hcl j o ho hl e he
    ·exact ZkX r.rel r'.rel hn stn
    ·rw[put_N];exact hN
    ·refine Tm.put O hT hoi him (λk=> ?_) λj=>aput_T _ _ _ _
     rw[ZdO (by omega)]
     by_cases hk:k=i<;>simp[hk]
    ·split
     ·omega
     ·exact htm
    ·intro id
     show(if upI lit cc id i ops[i] then i+1 else u id)<=m
     split
     ·omega
     ·exact hum id
    ·rw[Zla]
     show Zep D (newH D s.h (S (i+1)).h _) _
     have hrD:=hR i ops[i]
     revert hlS hrD
     generalize clAt lit cc i ops[i]=c
     intro hlS hrD
     cases c with
     |t=>simpa[newH] using hoff
     |q=>simpa[newH] using hoff
     |r id=>
      simp only[newH,reduceCtorEq,if_false]
      refine⟨by rw[List.length_set];exact hoff.1,λj hj=> ?_⟩
      rw[List.getElem?_set_ne (λe=>by subst e;rw[hrD _ rfl] at hj;cases hj)]
      exact hoff.2 j hj
     |w=>
      have hl:=hlS (by simp) (by simp) (by simp)
      simp only[newH,reduceCtorEq,if_false]
      refine⟨by rw[ZjU D _ _ 0 hl];exact hoff.1,λid hid=> ?_⟩
      rw[Zhl hl,hid]
      simpa using hoff.2 id hid
     |e=>simp only[newH,if_true];exact⟨rfl,λ_ _=>rfl⟩
    ·intro id hid
     rw[Zla]
     show(newH D s.h (S (i+1)).h _).length=(S (if upI lit cc id i ops[i] then i+1 else u id)).h.length/\(newH D s.h (S (i+1)).h _)[id]? =(S (if upI lit cc id i ops[i] then i+1 else u id)).h[id]?
     have ho:=hon id hid
     unfold upI
     revert hlS
     generalize clAt lit cc i ops[i]=c
     intro hlS
     cases c with
     |t=>simpa[newH] using ho
     |q=>simpa[newH] using ho
     |w=>
      have hl:=hlS (by simp) (by simp) (by simp)
      simp only[newH,reduceCtorEq,true_or,or_true,if_true]
      refine⟨by rw[ZjU D _ _ 0 hl];exact hl.symm,?_⟩
      rw[Zhl hl,hid]
      simp
     |e=>simp[newH]
     |r j=>
      have hl:=hlS (by simp) (by simp) (by simp)
      simp only[newH,reduceCtorEq,false_or,Cl.r.injEq]
      by_cases hj:j=id
      ·subst hj
       rw[if_pos rfl,List.length_set]
       refine⟨hl.symm,?_⟩
       rcases Nat.lt_or_ge j s.h.length with hlt|hge
       ·rw[List.getElem?_set_self hlt,List.getElem?_eq_getElem (by omega)];simp
       ·rw[List.getElem?_eq_none (by simpa using hge),List.getElem?_eq_none (by omega)]
      ·rw[if_neg hj,List.length_set,List.getElem?_set_ne hj]
       exact ho
    ·intro k o hk ho hke
     rw[ZdO (by omega)]
     by_cases hki:k=i
     ·subst hki;rw[hoi] at ho;cases ho;simp[hke]
     ·simp only[hki,if_false]
      by_cases he:clAt lit cc i ops[i]= .e
      ·simp only[he,if_true]
       rw[side k o hk ho hki (by rw[hke,he];rfl) (by rw[hke,he];rfl)]
       omega
      ·simp only[he,if_false];exact hE k o hk ho hke
    ·intro id hid k o hk ho hke
     rw[ZdO (by omega)]
     show _↔k<(if upI lit cc id i ops[i] then i+1 else u id)
     by_cases hki:k=i
     ·subst hki;rw[hoi] at ho;cases ho;simp[hke]
     ·simp only[hki,if_false]
      by_cases he:upI lit cc id i ops[i]
      ·rw[if_pos he]
       have cf:(clAt lit cc k o).conf (clAt lit cc i ops[i])=true/\(clAt lit cc i ops[i]).conf (clAt lit cc k o)=true:=by
        rcases hke with h1|h1|h1<;>rcases he with h2|h2|h2<;>rw[h1,h2]<;>simp[Cl.conf]
       rw[side k o hk ho hki cf.1 cf.2]
       omega
      ·rw[if_neg he];exact hW id hid k o hk ho hke
end
theorem SRel.drawn {Z:Nat->Prop} {κ:Nat->Slot} {s:Zc} {a:Act} {w:World} (r:SRel Z κ s a w) (d:Nat):SRel Z κ s a {w with drawn:=d}/\Ext Z κ w Z κ {w with drawn:=d}:=by
 have e:Ext Z κ w Z κ {w with drawn:=d}:=⟨rfl,rfl,rfl,Nat.le_refl _,λ_ _ _=>rfl,λ_ h=>h,λ_ h=> .inl h,λ_ h=> .inl h⟩
 exact⟨⟨⟨r.rel.zlt,r.rel.za,r.rel.hole,λid x hx=>(r.rel.blk id x hx).ext r.rel e (.refl _) rfl λ_ _ _ _=>rfl,r.rel.inj⟩,r.size,λj=>(r.tmps j).ext r.rel e (.refl _),r.defers⟩,e⟩
theorem Zlb {D:List Nat} {cc:CC} {i id:Nat} {c:Cl} (hcc:(cc.all λp=>match p.2 with| .r id=>D.contains id|_=>true)=true) (hc:c≠ .r id) (h:look cc i c= .r id):D.contains id=true:=by
 unfold look at h
 cases hf:cc.find? λp=>p.1==i with
 |none=>rw[hf] at h;exact absurd h hc
 |some p=>
  rw[hf] at h
  simp only[Option.map_some,Option.getD_some] at h
  have:=List.all_eq_true.1 hcc p (List.mem_of_find?_eq_some hf)
  rw[h] at this
  exact this
theorem clOf_r {lit:TypeId->Bool} {o:Oper} {id:Nat}:clOf lit o≠ .r id:=by
 unfold clOf
 split<;>first|(simp;done)|(intro h;split at h<;>cases h)
theorem clAt_r {lit:TypeId->Bool} {D:List Nat} {cc:CC} {i:Nat} {o:Oper} {id:Nat} (hcc:(cc.all λp=>match p.2 with| .r id=>D.contains id|_=>true)=true) (h:clAt lit cc i o= .r id):D.contains id=true:=by
 unfold clAt at h
 split at h
 ·exact Zlb hcc (by simp) h
 ·split at h
  ·exact Zlb hcc (by simp) h
  ·exact Zlb hcc (by simp) h
  ·exact Zlb hcc (by simp) h
  ·exact Zlb hcc (by simp) h
  ·exact absurd h clOf_r
theorem AW.draw {n:Nat} {id:Nat} {ops:Array Oper} {Q:Exit->Zc->Prop} {s:Zc} (hm:P.follows .mixedOrders=true) (lit:TypeId->Bool) (D:List Nat) (cc:CC) (m:Nat) (hok:ZiG lit cc m ops=true)
  (h:AD P lit D cc ops (AOps P lit ops (Q .normal) (ops.toList.drop m)) 0 (ops.toList.take m) s) (hcc:(cc.all λp=>match p.2 with| .r id=>D.contains id|_=>true)=true:=by rfl):AW P n (.region id ops true) Q s:=by
 have hR:∀k o id,clAt lit cc k o= .r id->D.contains id=true:=λk o id hc=>clAt_r hcc hc
 obtain⟨O⟩:=ordered hok
 obtain⟨S,V,h0,hQ,hS⟩:=Ztk _ _ _ h
 have hlen:(ops.toList.take m).length=m:=by have:=O.le;simp;omega
 rw[hlen,Nat.zero_add] at hQ
 intro Z κ a w r hn
 obtain⟨r1,e1⟩:=r.drawn (w.drawn+1)
 refine wp_region_any hm ?_
 have hS':∀k o,k<m->ops[k]? =some o->Stp P D ops (clAt lit cc k o) o (S k) (S (k+1)) (V k):=λk o hk ho=>by
  have:=hS k o (by rw[List.getElem?_take_of_lt hk];simpa using ho)
  simpa using this
 refine Zwz O hS' hR (n:=n) (Z0:=Z) (κ0:=κ) (w0:=w) (λZ' κ' a' w' r' ex st hn'=> ?_) _ _ a _ Z κ s 0 (λ_=>0) (by simp) (by simp) ?_ ?_ r1 e1 (.refl _ _) hn (by rw[h0]) ?_ (Nat.zero_le _) (λ_=>Nat.zero_le _) (by rw[h0];exact⟨rfl,λ_ _=>rfl⟩) (λid _=>by rw[h0];exact⟨rfl,rfl⟩) ?_ ?_
 ·exact ZfN (n:=n) _ (S m) Z' κ' a' w' hQ r' hn' λa2 w2 ha=>ha.trans ex st
 ·intro i _ hi
  simp[Array.getD,hi]
 ·intro i o ho hl
  have hi:i<ops.size:=(Array.getElem?_eq_some_iff.1 ho).1
  simp[Array.getD,hi] at hl
 ·intro j
  refine⟨λk o hk hl ho=> ?_,λ_=>by rw[h0]⟩
  have hi:k<ops.size:=(Array.getElem?_eq_some_iff.1 ho).1
  simp[Array.getD,hi] at hl
 ·intro k o hk ho _
  have hi:k<ops.size:=(Array.getElem?_eq_some_iff.1 ho).1
  simp[Array.getD,hi]
 ·intro _ _ k o hk ho _
  have hi:k<ops.size:=(Array.getElem?_eq_some_iff.1 ho).1
  simp[Array.getD,hi]
section
variable (ops:Array Oper) (D:List Nat) (cc:CC) (Q K:Zc->Prop) (s:Zc) (i:Nat) (dst:Option Tmp) (op:Op) (ty:TypeId) (pos:String) (after:Array Edge) (rest:List Oper) (j:Nat) (want:Bool) (o:Oper) (t:Nat)
@[simp] theorem AD_nil:AD P lit D cc ops Q i [] s=Q s:=rfl
@[simp] theorem AD_none:AD P lit D cc ops Q i ({dst:=dst,op:=op,type:=ty,pos:=pos,after:=after,guard:=none}::rest) s=ADop P lit D cc i {dst:=dst,op:=op,type:=ty,pos:=pos,after:=after,guard:=none} s (AD P lit D cc ops Q (i+1) rest):=rfl
@[simp] theorem AD_some:AD P lit D cc ops Q i ({dst:=dst,op:=op,type:=ty,pos:=pos,after:=after,guard:=some (j,want)}::rest) s=
   (match Zbp ops j with
   |none=>False
   |some t=>gdD P lit D cc i {dst:=dst,op:=op,type:=ty,pos:=pos,after:=after,guard:=some (j,want)} s t want (AD P lit D cc ops Q (i+1) rest) (s.T t)):=rfl
@[simp] theorem gdD_tt:gdD P lit D cc i o s t true K (.val (.bool true))=ADop P lit D cc i o {s with T:=put s.T t (.val (.bool true))} K:=by simp[gdD]
@[simp] theorem gdD_ff:gdD P lit D cc i o s t false K (.val (.bool false))=ADop P lit D cc i o {s with T:=put s.T t (.val (.bool false))} K:=by simp[gdD]
@[simp] theorem gdD_tf:gdD P lit D cc i o s t true K (.val (.bool false))=(Zeo s.N o.dst/\K (({s with T:=put s.T t (.val (.bool false))}:Zc).put o.dst (.tup []))):=by simp[gdD]
@[simp] theorem gdD_ft:gdD P lit D cc i o s t false K (.val (.bool true))=(Zeo s.N o.dst/\K (({s with T:=put s.T t (.val (.bool true))}:Zc).put o.dst (.tup []))):=by simp[gdD]
@[simp] theorem gdD_no (want:Bool):gdD P lit D cc i o s t want K (.tup [])=(Zeo s.N o.dst/\K (s.put o.dst (.tup []))):=rfl
@[simp] theorem ADop_call (f:Operand) (xs:Array Operand) (ts:Array TypeId) (g:Option (Nat×Bool)):
  ADop P lit D cc i {dst:=dst,op:= .call {callee:= .value f,args:=xs,argTypes:=ts},type:=ty,pos:=pos,after:=after,guard:=g} s K=
   ADcall P D (clAt lit cc i {dst:=dst,op:= .call {callee:= .value f,args:=xs,argTypes:=ts},type:=ty,pos:=pos,after:=after,guard:=g}) (s.ev f) (xs.toList.map s.ev) s.h (ZH K s dst):=rfl
end
end Go.Cx
set_option linter.unusedVariables false
set_option linter.unusedSimpArgs false
namespace Go.Cx
variable {P:Program} {h:Za} {n f:Nat}
theorem Ztn {cs:List AV} (hc:cs.all neat=true):cs.mapM (frz h n (f+1))=some cs:=by
 induction cs with
 |nil=>rfl
 |cons a cs ih=>
  simp only[List.all_cons,Bool.and_eq_true] at hc
  simp[List.mapM_cons,Zcp _ _ _ hc.1,ih hc.2]
def frzs (h:Za) (n f:Nat) (cs:List AV):Option (List AV):=cs.mapM (frz h n f)
@[simp] theorem frzs_nil:frzs h n f []=some []:=rfl
@[simp] theorem Zlc (a:AV) (cs:List AV):frzs h n f (a::cs)=(frz h n f a).bind λa=>(frzs h n f cs).map λcs=>a::cs:=by
 simp only[frzs,List.mapM_cons]
 cases frz h n f a with
 |none=>rfl
 |some x=>cases List.mapM (frz h n f) cs<;>rfl
theorem ZbG {cs:List AV} (hc:cs.all neat=true):frzs h n (f+1) cs=some cs:=Ztn hc
@[simp] theorem frz_val (v:Value):frz h n (f+1) (.val v)=some (.val v):=Zcp _ _ _ (by simp)
@[simp] theorem frz_any:frz h n (f+1) .any=some .any:=Zcp _ _ _ (by simp)
@[simp] theorem frz_agg (cs:List AV):frz h n (f+2) (.agg cs)=(frzs h n (f+1) cs).map .agg:=by
 rw[frz]
 split
 ·rename_i hn
  rw[Zfc] at hn
  rw[ZbG hn];rfl
 ·rfl
@[simp] theorem frz_tup (cs:List AV):frz h n (f+2) (.tup cs)=(frzs h n (f+1) cs).map .tup:=by
 rw[frz]
 split
 ·rename_i hn
  rw[ZgD] at hn
  rw[ZbG hn];rfl
 ·rfl
@[simp] theorem Zto (g:FuncId) (cs:List AV):frz h n (f+2) (.fn g cs)=(frzs h n (f+1) cs).map (.fn g):=by
 rw[frz]
 split
 ·rename_i hn
  rw[Zhh] at hn
  rw[ZbG hn];rfl
 ·rfl
@[simp] theorem frz_sl {t:Bool} {k:Nat} {cs:List AV} (hc:cs.all neat=true):frz h n (f+2) (.sl t k cs)=some (.sl false k cs):=by
 rw[frz]
 split
 ·rename_i hn
  rw[ZeC] at hn
  simp only[Bool.and_eq_true,Bool.not_eq_true'] at hn
  rw[hn.1]
 ·show(cs.mapM (frz h n (f+1))).map (AV.sl false k)=_
  rw[Ztn hc];rfl
@[simp] theorem frz_sl0 {t:Bool}:frz h n (f+2) (.sl t 0 [])=some (.sl false 0 []):=frz_sl rfl
theorem frz_slm (t:Bool) (k:Nat) (cs:List AV):frz h n (f+2) (.sl t k cs)=(frzs h n (f+1) cs).map (.sl false k):=by
 rw[frz]
 split
 ·rename_i hn
  rw[ZeC] at hn
  simp only[Bool.and_eq_true,Bool.not_eq_true'] at hn
  rw[ZbG hn.2,hn.1];rfl
 ·rfl
def Zgo (h:Za) (f ver off m k:Nat):Option ABlk->Option AV
 |some (.cells ver' cs)=>if ver=ver'/\(off+m)*k<=cs.length then(if m=0 then some (.sl false 0 []) else(frzs h 0 f ((cs.drop (off*k)).take (m*k))).map (.sl false m)) else none
 |_=>none
@[simp] theorem ZmP (id ver off m k:Nat):frz h 0 (f+1) (.own id ver off m k)=Zgo h f ver off m k h[id]? :=by
 rw[frz]
 simp only[ZjS,Bool.false_eq_true,if_false,Nat.not_lt_zero]
 cases h[id]? with
 |none=>rfl
 |some b=>cases b<;>rfl
def frzMp (h:Za) (f:Nat):Option ABlk->Option AV
 |some (.map ks vs)=>(frzs h 0 f ks).bind λks=>(frzs h 0 f vs).map (.fmap ks)
 |_=>none
@[simp] theorem frz_mp (id:Nat):frz h 0 (f+1) (.mp id)=frzMp h f h[id]? :=by
 rw[frz]
 simp only[neat_mp,Bool.false_eq_true,if_false,Nat.not_lt_zero]
 cases h[id]? with
 |none=>rfl
 |some b=>cases b<;>rfl
@[simp] theorem frzMp_eq (ks vs:List AV):frzMp h f (some (.map ks vs))=(frzs h 0 f ks).bind λks=>(frzs h 0 f vs).map (.fmap ks):=rfl
def frzPtr (h:Za) (f ver off:Nat):Option ABlk->Option AV
 |some (.cells ver' cs)=>if ver=ver' then(frzs h 0 f (cs.drop off)).map .fp else none
 |_=>none
@[simp] theorem frz_ptr (id ver off:Nat):frz h 0 (f+1) (.ptr id ver off)=frzPtr h f ver off h[id]? :=by
 rw[frz]
 simp only[Zow,Bool.false_eq_true,if_false,Nat.not_lt_zero]
 cases h[id]? with
 |none=>rfl
 |some b=>cases b<;>rfl
@[simp] theorem frzPtr_eq (ver off ver':Nat) (cs:List AV):frzPtr h f ver off (some (.cells ver' cs))=if ver=ver' then(frzs h 0 f (cs.drop off)).map .fp else none:=rfl
theorem Zav {ver m k:Nat} {cs:List AV} (hc:cs.all neat=true) (hl:cs.length=m*k):Zgo h (f+1) ver 0 m k (some (.cells ver cs))=some (.sl false m cs):=by
 simp only[Zgo,true_and,Nat.zero_add,Nat.zero_mul,List.drop_zero]
 rw[if_pos (by omega)]
 split
 ·rename_i h0
  subst h0
  have:cs=[]:=List.eq_nil_of_length_eq_zero (by rw[hl];simp)
  rw[this]
 ·rw[List.take_of_length_le (by omega),ZbG hc];rfl
def fits:AV->Bool
 | .val _| .any=>true
 | .agg cs=>cs.attach.all λ⟨c,_⟩=>fits c
 | .tup cs=>cs.attach.all λ⟨c,_⟩=>fits c
 | .sl _ n cs=>decide (n<=maxLen)&&cs.attach.all λ⟨c,_⟩=>fits c
 | .fp cs=>cs.attach.all λ⟨c,_⟩=>fits c
 | .fn _ cs=>cs.attach.all λ⟨c,_⟩=>fits c
 | .fmap ks vs=>(ks.attach.all λ⟨c,_⟩=>fits c)&&(vs.attach.all λ⟨c,_⟩=>fits c)
 | .own _ _ _ n _=>decide (n<=maxLen)
 | .ptr .. | .mp .. =>true
@[simp] theorem ZwA (v:Value):fits (.val v)=true:=by simp[fits]
@[simp] theorem ZwB:fits .any=true:=by simp[fits]
@[simp] theorem ZwC (cs:List AV):fits (.agg cs)=cs.all fits:=by rw[fits,Zl]
@[simp] theorem ZwD (cs:List AV):fits (.tup cs)=cs.all fits:=by rw[fits,Zl]
@[simp] theorem fits_sl (t:Bool) (n:Nat) (cs:List AV):fits (.sl t n cs)=(decide (n<=maxLen)&&cs.all fits):=by rw[fits,Zl]
@[simp] theorem fits_fp (cs:List AV):fits (.fp cs)=cs.all fits:=by rw[fits,Zl]
@[simp] theorem fits_fn (f:FuncId) (cs:List AV):fits (.fn f cs)=cs.all fits:=by rw[fits,Zl]
@[simp] theorem Ztp (ks vs:List AV):fits (.fmap ks vs)=(ks.all fits&&vs.all fits):=by rw[fits,Zl,Zl]
@[simp] theorem ZwE (id ver off n k:Nat):fits (.own id ver off n k)=decide (n<=maxLen):=by rw[fits]
@[simp] theorem ZwF (id ver off:Nat):fits (.ptr id ver off)=true:=by rw[fits]
@[simp] theorem fits_mp (id:Nat):fits (.mp id)=true:=by rw[fits]
mutual
theorem R.fits {Z:Nat->Prop} {w:World} {κ:Nat->Slot}:∀{a:AV} {v:Value},R Z w κ a v->Cx.fits a=true
 |_,_,.val _=>ZwA _
 |_,_,.any=>ZwB
 |_,_,.agg h=>by rw[ZwC];exact h.fits
 |_,_,.tup h=>by rw[ZwD];exact h.fits
 |_,_,.sl0 _ _=>by simp
 |_,_,.sl h0 h1 h2 h3 h4 h5 h6=>by rw[fits_sl,h6.fits,Bool.and_true,decide_eq_true_eq];omega
 |_,_,.fp _ _ h=>by rw[fits_fp];exact h.fits
 |_,_,.fn h=>by rw[fits_fn];exact h.fits
 |_,_,.fmap _ _ _ _ h1 h2=>by rw[Ztp,h1.fits,h2.fits];rfl
 |_,_,.own h1 h2 _ _=>by rw[ZwE,decide_eq_true_eq];omega
 |_,_,.ptr _=>ZwF _ _ _
 |_,_,.mp _=>fits_mp _
theorem Rs.fits {Z:Nat->Prop} {w:World} {κ:Nat->Slot}:∀{as:List AV} {vs:List Value},Rs Z w κ as vs->as.all Cx.fits=true
 |_,_,.nil=>rfl
 |_,_,.cons h1 h2=>by rw[List.all_cons,h1.fits,h2.fits];rfl
end
theorem Zb.mk {f:FuncId} {fn:Func} {c:Code} {rs:List ResultVar} {N:Nat} {args:List AV} {v:AV} (lit:TypeId->Bool) (hf:P.funcs[f]? =some fn) (hb:fn.body=some c) (hrs:fn.results.toList=rs) (hN:args.length+(fn.ntmps -args.length)=N) (he:Ent P f) (ha:args.all neat=true) (hv:neat v=true)
  (hx:args.all fits=true->AX P lit 0 c (ZfP P rs 0 (λv' _=>v'=v)) ⟨N,Zbr args,[]⟩):Zb P f args v:=by
 by_cases hfit:args.all fits=true
 ·exact Zb.intro lit hf hb hrs hN he ha hv (hx hfit)
 ·exact⟨ha,hv,he,λZ κ w cargs r hr=>absurd hr.fits hfit⟩
theorem Zb.mkW {f:FuncId} {fn:Func} {c:Code} {rs:List ResultVar} {N:Nat} {args:List AV} {v:AV} (hf:P.funcs[f]? =some fn) (hb:fn.body=some c) (hrs:fn.results.toList=rs) (hN:args.length+(fn.ntmps -args.length)=N) (he:Ent P f) (ha:args.all neat=true) (hv:neat v=true)
  (hx:args.all fits=true->AW P 0 c (ZfP P rs 0 (λv' _=>v'=v)) ⟨N,Zbr args,[]⟩):Zb P f args v:=by
 by_cases hfit:args.all fits=true
 ·exact Zb.introW hf hb hrs hN he ha hv (hx hfit)
 ·exact⟨ha,hv,he,λZ κ w cargs r hr=>absurd hr.fits hfit⟩
theorem Zh {n:Int} (h1: -9223372036854775808<=n) (h2:n<9223372036854775808):IntKind.i64.wrap n=n:=by
 rw[IntKind.wrap_i64];omega
theorem ZN {n:Nat} (h:n<=maxLen):(n:Int)<9223372036854775808:=by simp only[maxLen] at h;omega
section
variable {P:Program} {lit:TypeId->Bool} (D:List Nat) (cc:CC) (K:Zc->Prop) (s:Zc) (i':Nat) (dst:Option Tmp) (ty:TypeId) (pos:String) (after:Array Edge) (g:Option (Nat×Bool))
@[simp] theorem ADop_move (x:Operand):ADop P lit D cc i' {dst:=dst,op:= .move x,type:=ty,pos:=pos,after:=after,guard:=g} s K=AOp P lit {dst:=dst,op:= .move x,type:=ty,pos:=pos,after:=after,guard:=g} s K:=rfl
@[simp] theorem ADop_assign (x:Operand):ADop P lit D cc i' {dst:=dst,op:= .assign x,type:=ty,pos:=pos,after:=after,guard:=g} s K=AOp P lit {dst:=dst,op:= .assign x,type:=ty,pos:=pos,after:=after,guard:=g} s K:=rfl
@[simp] theorem ADop_pick (c a b:Operand):ADop P lit D cc i' {dst:=dst,op:= .pick c a b,type:=ty,pos:=pos,after:=after,guard:=g} s K=AOp P lit {dst:=dst,op:= .pick c a b,type:=ty,pos:=pos,after:=after,guard:=g} s K:=rfl
@[simp] theorem ADop_alloc (t:TypeId):ADop P lit D cc i' {dst:=dst,op:= .alloc t,type:=ty,pos:=pos,after:=after,guard:=g} s K=alcK P D (look cc i' .e) t s.h (ZH K s dst) (AOp P lit {dst:=dst,op:= .alloc t,type:=ty,pos:=pos,after:=after,guard:=g} s K):=rfl
@[simp] theorem ADop_box (t:TypeId) (x:Operand):ADop P lit D cc i' {dst:=dst,op:= .box t x,type:=ty,pos:=pos,after:=after,guard:=g} s K=AOp P lit {dst:=dst,op:= .box t x,type:=ty,pos:=pos,after:=after,guard:=g} s K:=rfl
@[simp] theorem ADop_build (t:TypeId) (ps:Array (Nat×Operand)):ADop P lit D cc i' {dst:=dst,op:= .build t ps,type:=ty,pos:=pos,after:=after,guard:=g} s K=AOp P lit {dst:=dst,op:= .build t ps,type:=ty,pos:=pos,after:=after,guard:=g} s K:=rfl
@[simp] theorem Ztq (t:TypeId) (len:Nat) (ps:Array (Nat×Operand)):ADop P lit D cc i' {dst:=dst,op:= .buildSlice t len ps,type:=ty,pos:=pos,after:=after,guard:=g} s K=AOp P lit {dst:=dst,op:= .buildSlice t len ps,type:=ty,pos:=pos,after:=after,guard:=g} s K:=rfl
@[simp] theorem ZwG (x:Operand):ADop P lit D cc i' {dst:=dst,op:= .nilCheck x,type:=ty,pos:=pos,after:=after,guard:=g} s K=AOp P lit {dst:=dst,op:= .nilCheck x,type:=ty,pos:=pos,after:=after,guard:=g} s K:=rfl
@[simp] theorem ZvQ (t:TypeId) (x:Operand) (i:Nat):ADop P lit D cc i' {dst:=dst,op:= .fieldAddr t x i,type:=ty,pos:=pos,after:=after,guard:=g} s K=AOp P lit {dst:=dst,op:= .fieldAddr t x i,type:=ty,pos:=pos,after:=after,guard:=g} s K:=rfl
@[simp] theorem ADop_field (t:TypeId) (x:Operand) (i:Nat):ADop P lit D cc i' {dst:=dst,op:= .field t x i,type:=ty,pos:=pos,after:=after,guard:=g} s K=AOp P lit {dst:=dst,op:= .field t x i,type:=ty,pos:=pos,after:=after,guard:=g} s K:=rfl
@[simp] theorem ZvR (t:TypeId) (x i:Operand):ADop P lit D cc i' {dst:=dst,op:= .indexAddr t x i,type:=ty,pos:=pos,after:=after,guard:=g} s K=AOp P lit {dst:=dst,op:= .indexAddr t x i,type:=ty,pos:=pos,after:=after,guard:=g} s K:=rfl
@[simp] theorem ADop_index (t:TypeId) (x i:Operand):ADop P lit D cc i' {dst:=dst,op:= .index t x i,type:=ty,pos:=pos,after:=after,guard:=g} s K=AOp P lit {dst:=dst,op:= .index t x i,type:=ty,pos:=pos,after:=after,guard:=g} s K:=rfl
@[simp] theorem ADop_slice (t:TypeId) (x:Operand) (lo hi mx:Option Operand):ADop P lit D cc i' {dst:=dst,op:= .slice t x lo hi mx,type:=ty,pos:=pos,after:=after,guard:=g} s K=AOp P lit {dst:=dst,op:= .slice t x lo hi mx,type:=ty,pos:=pos,after:=after,guard:=g} s K:=rfl
@[simp] theorem ADop_extract (x:Operand) (i:Nat):ADop P lit D cc i' {dst:=dst,op:= .extract x i,type:=ty,pos:=pos,after:=after,guard:=g} s K=AOp P lit {dst:=dst,op:= .extract x i,type:=ty,pos:=pos,after:=after,guard:=g} s K:=rfl
@[simp] theorem ZwH (f:Fn) (a b:Array Operand):ADop P lit D cc i' {dst:=dst,op:= .makeFunc f a b,type:=ty,pos:=pos,after:=after,guard:=g} s K=AOp P lit {dst:=dst,op:= .makeFunc f a b,type:=ty,pos:=pos,after:=after,guard:=g} s K:=rfl
@[simp] theorem ADop_binOp (op:BinOp) (t:TypeId) (x y:Operand) (yt:TypeId):ADop P lit D cc i' {dst:=dst,op:= .binOp op t x y yt,type:=ty,pos:=pos,after:=after,guard:=g} s K=AOp P lit {dst:=dst,op:= .binOp op t x y yt,type:=ty,pos:=pos,after:=after,guard:=g} s K:=rfl
@[simp] theorem ADop_unOp (op:UnOp) (t:TypeId) (x:Operand):ADop P lit D cc i' {dst:=dst,op:= .unOp op t x,type:=ty,pos:=pos,after:=after,guard:=g} s K=AOp P lit {dst:=dst,op:= .unOp op t x,type:=ty,pos:=pos,after:=after,guard:=g} s K:=rfl
@[simp] theorem ADop_convert (a b:TypeId) (x:Operand):ADop P lit D cc i' {dst:=dst,op:= .convert a b x,type:=ty,pos:=pos,after:=after,guard:=g} s K=(ZgZ (s.ev x)=true/\AOp P lit {dst:=dst,op:= .convert a b x,type:=ty,pos:=pos,after:=after,guard:=g} s K):=rfl
@[simp] theorem notOwn_val (v:Value):ZgZ (.val v)=true:=rfl
@[simp] theorem notOwn_sl (t:Bool) (n:Nat) (cs:List AV):ZgZ (.sl t n cs)=true:=rfl
@[simp] theorem ADop_builtin (b:Builtin) (xs:Array Operand) (ts:Array TypeId):ADop P lit D cc i' {dst:=dst,op:= .call {callee:= .builtin b,args:=xs,argTypes:=ts},type:=ty,pos:=pos,after:=after,guard:=g} s K=AOp P lit {dst:=dst,op:= .call {callee:= .builtin b,args:=xs,argTypes:=ts},type:=ty,pos:=pos,after:=after,guard:=g} s K:=rfl
@[simp] theorem ADop_makeMap (t:TypeId) (r:Option Operand):ADop P lit D cc i' {dst:=dst,op:= .makeMap t r,type:=ty,pos:=pos,after:=after,guard:=g} s K=AOp P lit {dst:=dst,op:= .makeMap t r,type:=ty,pos:=pos,after:=after,guard:=g} s K:=rfl
@[simp] theorem ADop_insert (t:TypeId) (m k x:Operand):ADop P lit D cc i' {dst:=dst,op:= .insert t m k x,type:=ty,pos:=pos,after:=after,guard:=g} s K=AOp P lit {dst:=dst,op:= .insert t m k x,type:=ty,pos:=pos,after:=after,guard:=g} s K:=rfl
@[simp] theorem ZvS (t:TypeId) (m k x:Operand):ADop P lit D cc i' {dst:=dst,op:= .mapUpdate t m k x,type:=ty,pos:=pos,after:=after,guard:=g} s K=AOp P lit {dst:=dst,op:= .mapUpdate t m k x,type:=ty,pos:=pos,after:=after,guard:=g} s K:=rfl
@[simp] theorem ADop_load (t:TypeId) (x:Operand):ADop P lit D cc i' {dst:=dst,op:= .load t x,type:=ty,pos:=pos,after:=after,guard:=g} s K=ldK D (look cc i' .q) (s.ev x) (AOp P lit {dst:=dst,op:= .load t x,type:=ty,pos:=pos,after:=after,guard:=g} s K):=rfl
@[simp] theorem ADop_lookup (t:TypeId) (m k:Operand) (ok:Bool):ADop P lit D cc i' {dst:=dst,op:= .lookup t m k ok,type:=ty,pos:=pos,after:=after,guard:=g} s K=ldK D (look cc i' .q) (s.ev m) (AOp P lit {dst:=dst,op:= .lookup t m k ok,type:=ty,pos:=pos,after:=after,guard:=g} s K):=rfl
@[simp] theorem ADop_store (t:TypeId) (p x:Operand):ADop P lit D cc i' {dst:=dst,op:= .store t p x,type:=ty,pos:=pos,after:=after,guard:=g} s K=stK D (look cc i' .w) (s.ev p) (AOp P lit {dst:=dst,op:= .store t p x,type:=ty,pos:=pos,after:=after,guard:=g} s K):=rfl
@[simp] theorem clAt_call (f:Operand) (xs:Array Operand) (ts:Array TypeId):clAt lit cc i' {dst:=dst,op:= .call {callee:= .value f,args:=xs,argTypes:=ts},type:=ty,pos:=pos,after:=after,guard:=g}=look cc i' .t:=rfl
@[simp] theorem look_nil (c:Cl):look [] i' c=c:=rfl
@[simp] theorem look_cons (j:Nat) (d c:Cl):look ((j,d)::cc) i' c=if j=i' then d else look cc i' c:=by
 simp only[look,List.find?_cons]
 by_cases h:j=i'
 ·simp[h]
 ·have:(j==i')=false:=by simpa using h
  simp[this,h]
variable (p:AV) (A:Prop)
@[simp] theorem alcK_e (t:TypeId) (h:Za) (K:AV->Za->Prop):alcK P D .e t h K A=A:=rfl
@[simp] theorem alcK_w (t:TypeId) (h:Za) (K:AV->Za->Prop):alcK P D .w t h K A=(match ZkZ D h with
  |some (id,ver)=>match ZU P t with
   |some zs=>K (.ptr id (ver+1) 0) (h.set id (.cells (ver+1) zs))
   |none=>False
  |none=>False):=rfl
@[simp] theorem alcK_r (id:Nat) (t:TypeId) (h:Za) (K:AV->Za->Prop):alcK P D (.r id) t h K A=(match(h[id]? :Option ABlk),ZU P t with
  |some (.cells ver []),some zs=>K (.ptr id (ver+1) 0) (h.set id (.cells (ver+1) zs))
  |_,_=>False):=rfl
@[simp] theorem roomOf_one (r:Nat) (h:Za):ZkZ [r] h=(match(h[r]? :Option ABlk) with|some (ABlk.cells ver [])=>some (r,ver)|_=>none):=by
 unfold ZkZ
 simp only[List.findSome?_cons,List.findSome?_nil]
 split<;>(rename_i e;exact e.symm)
@[simp] theorem ldK_q:ldK D .q p A=(offD D p=true/\A):=rfl
@[simp] theorem ldK_w:ldK D .w p A=(onD D p=true/\A):=rfl
@[simp] theorem ldK_e:ldK D .e p A=A:=rfl
@[simp] theorem ldK_t:ldK D .t p A=(noPtr p=true/\A):=rfl
@[simp] theorem noPtr_fp (cs:List AV):noPtr (.fp cs)=true:=rfl
@[simp] theorem noPtr_fmap (ks vs:List AV):noPtr (.fmap ks vs)=true:=rfl
@[simp] theorem stK_w:stK D .w p A=(onD D p=true/\A):=rfl
@[simp] theorem stK_e:stK D .e p A=A:=rfl
@[simp] theorem offD_ptr (id ver off:Nat):offD D (.ptr id ver off)= !D.contains id:=rfl
@[simp] theorem offD_mp (id:Nat):offD D (.mp id)= !D.contains id:=rfl
@[simp] theorem offD_fp (cs:List AV):offD D (.fp cs)=true:=rfl
@[simp] theorem offD_fmap (ks vs:List AV):offD D (.fmap ks vs)=true:=rfl
@[simp] theorem offD_val (v:Value):offD D (.val v)=true:=rfl
@[simp] theorem onD_ptr (id ver off:Nat):onD D (.ptr id ver off)=D.contains id:=rfl
@[simp] theorem onD_mp (id:Nat):onD D (.mp id)=D.contains id:=rfl
end
theorem Ztr {k h:Za} (hk:Zep [] k h):k=h:=List.ext_getElem? λid=>hk.2 id rfl
theorem ADcall.pure {P:Program} {h:Za} {g:FuncId} {cap args args':List AV} {v:AV} {K:AV->Za->Prop} (hp:Zb P g args' v) (ha:args++cap=args') (hk:K v h) {D:List Nat}:ADcall P D .t (.fn g cap) args h K:=
 ⟨v,λk=>AInv.pure hp ha ⟨rfl,rfl⟩,hk⟩
theorem ADcall.lend {P:Program} {h:Za} {g:FuncId} {cap args args':List AV} {v:AV} {K:AV->Za->Prop} (hp:Zb P g args' v) (hm:Zds v=true) (ha:(args++cap).mapM (frz h 0 12)=some args') (hk:K v h):ADcall P [] .q (.fn g cap) args h K:=
 ⟨v,λk hke=>by rw[Ztr hke];exact AInv.lend hp hm ha ⟨rfl,rfl⟩,hk⟩
def retV (P:Program) (rs:List ResultVar) (s:Zc):Option AV:=(rs.mapM (resA P s)).bind λvs=>frz s.h 0 12 (resV vs)
@[simp] theorem PostA_eq (P:Program) (rs:List ResultVar) (v:AV) (e:Exit) (s:Zc):ZfP P rs 0 (λv' _=>v'=v) e s=(Zbs e=true/\retV P rs s=some v):=by
 apply propext
 constructor
 ·rintro⟨he,vs,v',h1,h2,_,rfl⟩
  exact⟨he,by simp only[retV,h1,Option.bind_some];exact h2⟩
 ·rintro⟨he,h⟩
  obtain⟨vs,h1,h2⟩:=Option.bind_eq_some_iff.1 h
  exact⟨he,vs,v,h1,h2,by simp,rfl⟩
@[simp] theorem retV_one (P:Program) (r:ResultVar) (s:Zc):retV P [r] s=(resA P s r).bind λx=>frz s.h 0 12 x:=by
 simp only[retV,List.mapM_cons,List.mapM_nil]
 cases resA P s r<;>rfl
@[simp] theorem retV_two (P:Program) (r r':ResultVar) (s:Zc):retV P [r,r'] s=(resA P s r).bind λx=>(resA P s r').bind λy=>frz s.h 0 12 (.tup [x,y]):=by
 simp only[retV,List.mapM_cons,List.mapM_nil]
 cases resA P s r with
 |none=>rfl
 |some x=>cases resA P s r'<;>rfl
@[simp] theorem retV_three (P:Program) (r r' r2:ResultVar) (s:Zc):retV P [r,r',r2] s=(resA P s r).bind λx=>(resA P s r').bind λy=>(resA P s r2).bind λz=>frz s.h 0 12 (.tup [x,y,z]):=by
 simp only[retV,List.mapM_cons,List.mapM_nil]
 cases resA P s r with
 |none=>rfl
 |some x=>cases resA P s r' with
  |none=>rfl
  |some y=>cases resA P s r2<;>rfl
attribute [simp] Zcp
end Go.Cx
set_option linter.unusedVariables false
set_option linter.unusedSimpArgs false
namespace Go.Cx
variable {P:Program} {Z:Nat->Prop} {κ:Nat->Slot} {h:Za} {w:World}
def ZjY (D:List Nat):Nat->Za->Za
 |_,[]=>[]
 |i,b::h=>(if D.contains i then .dead else b)::ZjY D (i+1) h
abbrev kill (D:List Nat) (h:Za):Za:=ZjY D 0 h
theorem Zld (D:List Nat):∀(h:Za) (i j:Nat),(ZjY D i h)[j]? =(h[j]?).map λb=>if D.contains (i+j) then .dead else b
 |[],i,j=>by simp[ZjY]
 |b::h,i,0=>by simp[ZjY]
 |b::h,i,j+1=>by
  simp only[ZjY,List.getElem?_cons_succ]
  rw[Zld D h (i+1) j,show i+1+j=i+(j+1) by omega]
theorem Zfh (D:List Nat):∀(h:Za) (i:Nat),(ZjY D i h).length=h.length
 |[],i=>rfl
 |b::h,i=>by simp[ZjY,Zfh D h]
def Zdu (D:List Nat) (κ:Nat->Slot):Nat->Slot:=λid=>if D.contains id then(match κ id with| .hole=> .hole|_=> .dead) else κ id
def Zts (D:List Nat) (Z:Nat->Prop) (κ:Nat->Slot):Nat->Prop:=λb=>Z b\/∃id ver sz,D.contains id=true/\κ id= .live ver (some b) sz
theorem ZfR (D:List Nat) (κ:Nat->Slot) (id:Nat):(κ id).step (Zdu D κ id):=by
 unfold Zdu
 split
 ·cases κ id<;>simp[Slot.step]
 ·exact Slot.step_refl _
theorem ZfS {D:List Nat} {id ver sz:Nat} {b:Option Nat} (hk:Zdu D κ id= .live ver b sz):D.contains id=false/\κ id= .live ver b sz:=by
 unfold Zdu at hk
 split at hk
 ·split at hk<;>cases hk
 ·rename_i hd;exact⟨by simpa using hd,hk⟩
theorem ZoG (D:List Nat) (r:Rel Z κ h w):Rel (Zts D Z κ) (Zdu D κ) (kill D h) w/\Ext Z κ w (Zts D Z κ) (Zdu D κ) w:=by
 have hal:∀b,ZT (Zdu D κ) b->∃id ver sz,D.contains id=false/\κ id= .live ver (some b) sz:=by
  rintro b ⟨id,ver,sz,hk⟩
  exact⟨id,ver,sz,ZfS hk⟩
 refine⟨⟨?_,?_,?_,λid x hx=> ?_,?_⟩,⟨rfl,rfl,rfl,Nat.le_refl _,λ_ _ _=>rfl,λb hz=> .inl hz,?_,?_⟩⟩
 ·rintro b (hz|⟨id,ver,sz,_,hk⟩)
  ·exact r.zlt b hz
  ·exact ZA r ⟨id,ver,sz,hk⟩
 ·rintro b (hz|⟨id,ver,sz,hid,hk⟩) ha
  ·obtain⟨id',ver',sz',_,hk'⟩:=hal b ha
   exact r.za b hz ⟨id',ver',sz',hk'⟩
  ·obtain⟨id',ver',sz',hid',hk'⟩:=hal b ha
   have:=r.inj _ _ _ _ _ _ _ hk hk'
   subst this
   rw[hid] at hid';cases hid'
 ·intro id hid
  rw[Zfh] at hid
  have:=r.hole id hid
  unfold Zdu
  rw[this]
  split<;>rfl
 ·rw[Zld,Nat.zero_add] at hx
  obtain⟨y,hy,rfl⟩:=Option.map_eq_some_iff.1 hx
  have hb:=r.blk id y hy
  have conv:∀(as:List AV) (vs:List Value),Rs Z w κ as vs->Rs (Zts D Z κ) w (Zdu D κ) as vs:=λas vs hs=>
   hs.imp (λb hz=>⟨.inl hz,rfl⟩) (λj=> .inr (ZfR D κ j))
  split
  ·rename_i hd
   have hn:=ZeB r (id:=id) (List.getElem?_eq_some_iff.1 hy).1
   show Zdu D κ id= .dead
   unfold Zdu
   rw[if_pos hd]
   cases hk:κ id with
   |hole=>exact absurd hk hn
   |dead=>rfl
   |live a b c=>rfl
  ·rename_i hd
   have hk:Zdu D κ id=κ id:=by simp only[Zdu,hd];rfl
   cases y with
   |dead=>simp only[ZaM] at*;rw[hk];exact hb
   |cells ver cs=>
    obtain⟨ob,sz,h1,h2⟩:=hb
    refine⟨ob,sz,hk.trans h1,?_⟩
    cases ob with
    |none=>exact h2
    |some b=>
     obtain⟨c,E,us,h3,h4,h5,h6,h7⟩:=h2
     exact⟨c,E,us,h3,h4,h5,h6,conv _ _ h7⟩
   |full ver cs=>
    obtain⟨b,c,E,h1,h2,h3,h4⟩:=hb
    exact⟨b,c,E,hk.trans h1,h2,conv _ _ h3,h4⟩
   |typed E ver cs=>
    obtain⟨ob,sz,h1,h2⟩:=hb
    refine⟨ob,sz,hk.trans h1,?_⟩
    cases ob with
    |none=>exact h2
    |some b=>
     obtain⟨c,us,h3,h4,h5,h6,h7⟩:=h2
     exact⟨c,us,h3,h4,h5,h6,conv _ _ h7⟩
   |map ks vs=>
    obtain⟨b,es,cl,h1,h2,h3,h4⟩:=hb
    exact⟨b,es,cl,hk.trans h1,h2,conv _ _ h3,conv _ _ h4⟩
   |iter ks vs todo cur=>
    obtain⟨b,mb,es,cl,sn,la,h1,h2,h3,h4,h5,h6,h7⟩:=hb
    exact⟨b,mb,es,cl,sn,la,hk.trans h1,h2,.inl h3,h4,conv _ _ h5,conv _ _ h6,h7⟩
 ·intro id id' ver ver' b sz sz' h1 h2
  exact r.inj _ _ _ _ _ _ _ (ZfS h1).2 (ZfS h2).2
 ·rintro b (hz|⟨id,ver,sz,_,hk⟩)
  ·exact .inl hz
  ·exact .inr (.inl ⟨id,ver,sz,hk⟩)
 ·intro b ha
  obtain⟨id,ver,sz,_,hk⟩:=hal b ha
  exact .inl ⟨id,ver,sz,hk⟩
def fzD (h:Za) (D:List Nat):Nat->AV->Option AV
 |0,_=>none
 |f+1,v=>if neat v then some v else match v with
  | .agg cs=>(cs.mapM (fzD h D f)).map .agg
  | .tup cs=>(cs.mapM (fzD h D f)).map .tup
  | .sl _ k cs=>(cs.mapM (fzD h D f)).map (.sl false k)
  | .fp cs=>(cs.mapM (fzD h D f)).map .fp
  | .fn g cs=>(cs.mapM (fzD h D f)).map (.fn g)
  | .own id ver off m k=>if D.contains id then match h[id]? with
   |some (.cells ver' cs)=>if ver=ver'/\(off+m)*k<=cs.length then(if m=0 then some (.sl false 0 []) else(((cs.drop (off*k)).take (m*k)).mapM (fzD h D f)).map (.sl false m)) else none
   |_=>none
   else none
  | .ptr id ver off=>if D.contains id then match h[id]? with
   |some (.cells ver' cs)=>if ver=ver' then((cs.drop off).mapM (fzD h D f)).map .fp else none
   |_=>none
   else none
  | .mp id=>if D.contains id then match h[id]? with
   |some (.map ks vs)=>(ks.mapM (fzD h D f)).bind λks=>(vs.mapM (fzD h D f)).map (.fmap ks)
   |_=>none
   else none
  |_=>none
theorem Ztt (r:Rel Z κ h w) {D:List Nat}:∀(f:Nat) (v v':AV) (c:Value),fzD h D f v=some v'->R Z w κ v c->R (Zts D Z κ) w (Zdu D κ) v' c
 |0,v,v',c,hf,hr=>by simp[fzD] at hf
 |f+1,v,v',c,hf,hr=>by
  have ih:=λa b c=>Ztt r (D:=D) f a b c
  simp only[fzD] at hf
  split at hf
  ·rename_i hn
   injection hf with hf
   subst hf
   exact(hr.noRef_any (κ':=Zdu D κ) (ZB _ hn)).imp (λb hz=>⟨.inl hz,rfl⟩) (λid=> .inr (Slot.step_refl _))
  ·split at hf
   ·obtain⟨bs,hb,rfl⟩:=Option.map_eq_some_iff.1 hf
    cases hr with|agg hs=>exact .agg (ZI ih hb hs)
   ·obtain⟨bs,hb,rfl⟩:=Option.map_eq_some_iff.1 hf
    cases hr with|tup hs=>exact .tup (ZI ih hb hs)
   ·obtain⟨bs,hb,rfl⟩:=Option.map_eq_some_iff.1 hf
    cases hr with
    |sl0 h1 h2=>simp at hb;subst hb;exact .sl0 (by simp) h2
    |sl h0 h1 h2 h3 h4 h5 h6=>exact .sl h0 h1 (by simp) h3 (.inl h4) h5 (ZI ih hb h6)
   ·obtain⟨bs,hb,rfl⟩:=Option.map_eq_some_iff.1 hf
    cases hr with|fp h1 h2 h3=>exact .fp (.inl h1) h2 (ZI ih hb h3)
   ·obtain⟨bs,hb,rfl⟩:=Option.map_eq_some_iff.1 hf
    cases hr with|fn hs=>exact .fn (ZI ih hb hs)
   ·rename_i id ver off m k _
    split at hf
    ·rename_i hid
     split at hf
     ·rename_i ver' cs hx
      split at hf
      ·rename_i hc
       obtain⟨rfl,hlen⟩:=hc
       split at hf
       ·rename_i hm
        injection hf with hf;subst hf hm
        cases hr with|own h0 h1 hA h2=>exact .sl0 (by simp) h1
       ·rename_i hm
        obtain⟨bs,hb,rfl⟩:=Option.map_eq_some_iff.1 hf
        rcases own_slice r hr hx with⟨_,_,_,_,_,h0,_⟩|⟨b,sz,arr,E,us,cap,a,q1,rfl,q3,q4,q5,q6,q7,q8,q9,q10,q11,q12⟩
        ·exact absurd h0 hm
        ·have hcap:0<cap:=by omega
         have ha:=q6 hcap
         subst ha
         exact .sl (by omega) q3 (by simp) (by omega) (.inr ⟨id,ver,sz,hid,q1⟩) ((ZaC q8 q11 (off*k)).take _) (ZI ih hb ((q12.drop _).take _))
      ·cases hf
     ·cases hf
    ·cases hf
   ·rename_i id ver off _
    split at hf
    ·rename_i hid
     split at hf
     ·rename_i ver' cs hx
      split at hf
      ·rename_i hc
       subst hc
       obtain⟨bs,hb,rfl⟩:=Option.map_eq_some_iff.1 hf
       obtain⟨b,sz,arr,E,us,q1,rfl,q8,q9,q10,q11,q12⟩:=ZbE r hr hx
       exact .fp (.inr ⟨id,ver,sz,hid,q1⟩) (ZaC q8 q11 off) (ZI ih hb (q12.drop _))
      ·cases hf
     ·cases hf
    ·cases hf
   ·rename_i id _
    split at hf
    ·rename_i hid
     split at hf
     ·rename_i ks vs hx
      obtain⟨ks',hk,hf⟩:=Option.bind_eq_some_iff.1 hf
      obtain⟨vs',hv,rfl⟩:=Option.map_eq_some_iff.1 hf
      obtain⟨b,es,cl,q1,q2,q3,q4⟩:=r.blk id _ hx
      cases hr with
      |mp h2=>
       simp only[ZV,q1] at h2
       have:=h2.2 trivial
       simp only[ZpZ] at this
       subst this
       exact .fmap (.inr ⟨id,0,0,hid,q1⟩) q2 rfl rfl (ZI ih hk q3) (ZI ih hv q4)
     ·cases hf
    ·cases hf
   ·cases hf
def fzDs (h:Za) (D:List Nat) (f:Nat) (cs:List AV):Option (List AV):=cs.mapM (fzD h D f)
theorem AInv.give {f:FuncId} {cap args args':List AV} {v:AV} {Q:AV->Za->Prop} (D:List Nat) (hp:Zb P f args' v) (ha:fzDs h D 12 (args++cap)=some args') (hq:Q v (kill D h)):AInv P (.fn f cap) args h Q:=by
 refine .of ⟨hp.2.2.1,λZ κ w cargs r hr=> ?_⟩
 obtain⟨r1,e1⟩:=ZoG D r
 have hr1:Rs (Zts D Z κ) w (Zdu D κ) args' cargs:=ZI (λa b c h1 h2=>Ztt r 12 a b c h1 h2) ha hr
 refine((hp.frame (kill D h)).2 _ _ w cargs r1 hr1).mono ?_
 rintro e w' ⟨v',h',Z',κ',c,⟨rfl,rfl⟩,he',r',hv',ex,st⟩
 exact⟨v',_,Z',κ',c,hq,he',r',hv',e1.trans ex,λid hid=>Slot.step_trans (ZfR D κ id) (st id (by rw[Zfh];exact hid))⟩
section
variable {D:List Nat} {f:Nat}
@[simp] theorem ZwI {v:AV} (hv:neat v=true):fzD h D (f+1) v=some v:=by simp[fzD,hv]
theorem ZcF {cs:List AV} (hc:cs.all neat=true):fzDs h D (f+1) cs=some cs:=by
 induction cs with
 |nil=>rfl
 |cons a cs ih=>
  simp only[List.all_cons,Bool.and_eq_true] at hc
  have:=ih hc.2
  simp only[fzDs] at this
  simp[fzDs,List.mapM_cons,ZwI hc.1,this]
@[simp] theorem fzDs_nil:fzDs h D f []=some []:=rfl
@[simp] theorem fzDs_cons (a:AV) (cs:List AV):fzDs h D f (a::cs)=(fzD h D f a).bind λa=>(fzDs h D f cs).map λcs=>a::cs:=by
 simp only[fzDs,List.mapM_cons]
 cases fzD h D f a with
 |none=>rfl
 |some x=>cases List.mapM (fzD h D f) cs<;>rfl
@[simp] theorem fzD_agg (cs:List AV):fzD h D (f+2) (.agg cs)=(fzDs h D (f+1) cs).map .agg:=by
 rw[fzD]
 split
 ·rename_i hn
  rw[Zfc] at hn
  rw[ZcF hn];rfl
 ·rfl
@[simp] theorem fzD_fn (g:FuncId) (cs:List AV):fzD h D (f+2) (.fn g cs)=(fzDs h D (f+1) cs).map (.fn g):=by
 rw[fzD]
 split
 ·rename_i hn
  rw[Zhh] at hn
  rw[ZcF hn];rfl
 ·rfl
@[simp] theorem fzD_sl {t:Bool} {k:Nat} {cs:List AV} (hc:cs.all neat=true):fzD h D (f+2) (.sl t k cs)=some (.sl false k cs):=by
 rw[fzD]
 split
 ·rename_i hn
  rw[ZeC] at hn
  simp only[Bool.and_eq_true,Bool.not_eq_true'] at hn
  rw[hn.1]
 ·show(cs.mapM (fzD h D (f+1))).map (AV.sl false k)=_
  have:=ZcF (h:=h) (D:=D) (f:=f) hc
  simp only[fzDs] at this
  rw[this];rfl
@[simp] theorem fzD_sl0 {t:Bool}:fzD h D (f+2) (.sl t 0 [])=some (.sl false 0 []):=fzD_sl rfl
def ZwJ (h:Za) (D:List Nat) (f ver off m k:Nat):Option ABlk->Option AV
 |some (.cells ver' cs)=>if ver=ver'/\(off+m)*k<=cs.length then(if m=0 then some (.sl false 0 []) else(fzDs h D f ((cs.drop (off*k)).take (m*k))).map (.sl false m)) else none
 |_=>none
@[simp] theorem fzD_own (id ver off m k:Nat):fzD h D (f+1) (.own id ver off m k)=if D.contains id then ZwJ h D f ver off m k h[id]? else none:=by
 rw[fzD]
 simp only[ZjS,Bool.false_eq_true,if_false]
 split
 ·cases h[id]? with
  |none=>rfl
  |some b=>cases b<;>rfl
 ·rfl
def fzPtr (h:Za) (D:List Nat) (f ver off:Nat):Option ABlk->Option AV
 |some (.cells ver' cs)=>if ver=ver' then(fzDs h D f (cs.drop off)).map .fp else none
 |_=>none
@[simp] theorem fzD_ptr (id ver off:Nat):fzD h D (f+1) (.ptr id ver off)=if D.contains id then fzPtr h D f ver off h[id]? else none:=by
 rw[fzD]
 simp only[Zow,Bool.false_eq_true,if_false]
 split
 ·cases h[id]? with
  |none=>rfl
  |some b=>cases b<;>rfl
 ·rfl
@[simp] theorem fzPtr_eq (ver off ver':Nat) (cs:List AV):fzPtr h D f ver off (some (.cells ver' cs))=if ver=ver' then(fzDs h D f (cs.drop off)).map .fp else none:=rfl
theorem ZcG {ver m k:Nat} {cs:List AV} (hc:cs.all neat=true) (hl:cs.length=m*k):ZwJ h D (f+1) ver 0 m k (some (.cells ver cs))=some (.sl false m cs):=by
 simp only[ZwJ,true_and,Nat.zero_add,Nat.zero_mul,List.drop_zero]
 rw[if_pos (by omega)]
 split
 ·rename_i h0
  subst h0
  have:cs=[]:=List.eq_nil_of_length_eq_zero (by rw[hl];simp)
  rw[this]
 ·rw[List.take_of_length_le (by omega),ZcF hc];rfl
end
attribute [simp] ZjY
@[simp] theorem alen_str {P:Program} {t:TypeId} (ht:P.underlying t=some .string) (s:ByteArray):alen P t (.val (.string s))=some (.val (.int .i64 s.size)):=by simp[alen,ht,isString]
@[simp] theorem cast_le_lit (n k:Nat):((n:Int)<=(no_index (@OfNat.ofNat Int k instOfNat)))=(n<= @OfNat.ofNat Nat k (instOfNatNat k)):=propext Int.ofNat_le
@[simp] theorem cast_lt_lit (n k:Nat):((n:Int)<(no_index (@OfNat.ofNat Int k instOfNat)))=(n< @OfNat.ofNat Nat k (instOfNatNat k)):=propext Int.ofNat_lt
@[simp] theorem lit_le_cast (n k:Nat):((no_index (@OfNat.ofNat Int k instOfNat))<=(n:Int))=(@OfNat.ofNat Nat k (instOfNatNat k)<=n):=propext Int.ofNat_le
@[simp] theorem lit_lt_cast (n k:Nat):((no_index (@OfNat.ofNat Int k instOfNat))<(n:Int))=(@OfNat.ofNat Nat k (instOfNatNat k)<n):=propext Int.ofNat_lt
section
variable {P:Program} {t:TypeId} (ht:P.underlying t=some .bool) (ox oy:Operand) (x y:Bool)
include ht
@[simp] theorem binB_eql:abin P .eql t ox oy (.val (.bool x)) (.val (.bool y))=some (.val (.bool (decide (x=y)))):=by
 rw[Zwt (ht:=ht)];cases x<;>cases y<;>rfl
@[simp] theorem binB_neq:abin P .neq t ox oy (.val (.bool x)) (.val (.bool y))=some (.val (.bool (!decide (x=y)))):=by
 rw[Zwu (ht:=ht)];cases x<;>cases y<;>rfl
end
theorem Wk.keep {n:Nat} {s:Zc} (l:List (Nat×AV)) (hl:∀p∈l,s.T p.1=p.2):Wk n s ⟨s.N,Cx.pat l,s.h⟩:=λZ κ a w r hn=>
 ⟨κ,⟨r.rel,r.size,pat_R l λp hp=>by have:=r.tmps p.1;rwa[hl p hp] at this,r.defers⟩,.refl _ _ _,.refl _ _,hn⟩
attribute [simp] Zox Int.natCast_inj Int.ofNat_lt Int.ofNat_le
@[simp] theorem head_at {α:Type} (l:List α) (i:Nat):(List.take 1 (List.drop i l)).head? =l[i]? :=by
 rw[List.head?_take];simp
theorem ZwK {α:Type} {l:List α} {p:α->Prop} {i:Nat} (h:∀x∈l.take i,p x) (hi:i<l.length) (hp:p l[i]):∀x∈l.take (i+1),p x:=by
 rw[List.take_succ_eq_append_getElem hi]
 intro x hx
 rcases List.mem_append.1 hx with h1|h1
 ·exact h x h1
 ·rw[List.mem_singleton.1 h1];exact hp
theorem ZwL {α:Type} {l:List α} {p:α->Prop} {i:Nat} (h:∀x∈l.take i,p x) (hi:¬i<l.length):∀x∈l,p x:=by
 rwa[List.take_of_length_le (by omega)] at h
theorem take_step {α:Type} {a b:List α} {i:Nat} (h:a.take i=b.take i) (ha:i<a.length) (hb:i<b.length) (he:a[i]=b[i]):a.take (i+1)=b.take (i+1):=by
 rw[List.take_succ_eq_append_getElem ha,List.take_succ_eq_append_getElem hb,h,he]
theorem Zam {α:Type} {a b:List α} {i:Nat} (h:a.take i=b.take i) (ha:a.length<=i) (hb:b.length<=i):a=b:=by
 rwa[List.take_of_length_le ha,List.take_of_length_le hb] at h
theorem Zg {i m:Nat} (h:i<m) (hm:m<=maxLen):IntKind.i64.wrap ((i:Int)+1)=((i+1:Nat):Int):=by
 have:=ZN hm
 rw[Zh (by omega) (by omega)];simp
mutual
theorem ZbH (L:Nat):∀a:AV,neat a=true->refsLt L a=true
 | .val v,_=>by simp[refsLt]
 | .any,_=>by simp[refsLt]
 | .agg cs,h=>by rw[Zfc] at h;rw[refsLt,Zl];exact Zaa L cs h
 | .tup cs,h=>by rw[ZgD] at h;rw[refsLt,Zl];exact Zaa L cs h
 | .sl t n cs,h=>by rw[ZeC,Bool.and_eq_true] at h;rw[refsLt,Zl];exact Zaa L cs h.2
 | .fp cs,h=>by rw[ZmM] at h;rw[refsLt,Zl];exact Zaa L cs h
 | .fn f cs,h=>by rw[Zhh] at h;rw[refsLt,Zl];exact Zaa L cs h
 | .fmap ks vs,h=>by rw[Zhi,Bool.and_eq_true] at h;rw[refsLt,Zl,Zl,Zaa L ks h.1,Zaa L vs h.2];rfl
 | .own id ver off n k,h=>by simp at h
 | .ptr id ver off,h=>by simp at h
 | .mp id,h=>by simp at h
theorem Zaa (L:Nat):∀cs:List AV,cs.all neat=true->cs.all (refsLt L)=true
 |[],_=>rfl
 |a::cs,h=>by
  simp only[List.all_cons,Bool.and_eq_true] at h⊢
  exact⟨ZbH L a h.1,Zaa L cs h.2⟩
end
@[simp] theorem refsLt_neat {L:Nat} {a:AV} (h:neat a=true):refsLt L a=true:=ZbH L a h
@[simp] theorem refsLts_neat {L:Nat} {cs:List AV} (h:cs.all neat=true):cs.all (refsLt L)=true:=Zaa L cs h
@[simp] theorem refsLt_agg (L:Nat) (cs:List AV):refsLt L (.agg cs)=cs.all (refsLt L):=by rw[refsLt,Zl]
@[simp] theorem refsLt_sl (L:Nat) (t:Bool) (n:Nat) (cs:List AV):refsLt L (.sl t n cs)=cs.all (refsLt L):=by rw[refsLt,Zl]
@[simp] theorem refsLt_fn (L:Nat) (f:FuncId) (cs:List AV):refsLt L (.fn f cs)=cs.all (refsLt L):=by rw[refsLt,Zl]
@[simp] theorem ZiJ (L id ver off:Nat):refsLt L (.ptr id ver off)=decide (id<L):=by rw[refsLt]
@[simp] theorem ZiK (L id ver off n k:Nat):refsLt L (.own id ver off n k)=decide (id<L):=by rw[refsLt]
@[simp] theorem Zle (L id:Nat):refsLt L (.mp id)=decide (id<L):=by rw[refsLt]
attribute [simp] ABlk.refsLt
theorem Wk.cut {n:Nat} {s:Zc} (m:Nat) (l:List (Nat×AV)) (hnm:n<=m) (hm:m<=s.h.length) (hc:(s.h.take m).all (ABlk.refsLt m)=true) (hl:∀p∈l,s.T p.1=p.2/\refsLt m p.2=true):Wk n s ⟨s.N,Cx.pat l,s.h.take m⟩:=
 Wk.pat l hnm hm hc λp hp=>⟨by rw[(hl p hp).1];exact .refl _,(hl p hp).2⟩
@[simp] theorem fzD_slm {h:Za} {D:List Nat} {f:Nat} (t:Bool) (k:Nat) (cs:List AV):fzD h D (f+2) (.sl t k cs)=(fzDs h D (f+1) cs).map (.sl false k):=by
 rw[fzD]
 split
 ·rename_i hn
  rw[ZeC,Bool.and_eq_true,Bool.not_eq_true'] at hn
  rw[ZcF hn.2,hn.1];rfl
 ·rfl
attribute [simp] ZcF ZbG frz_slm
end Go.Cx
