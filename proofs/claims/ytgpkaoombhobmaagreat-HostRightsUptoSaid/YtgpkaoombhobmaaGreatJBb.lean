import Derived.Test.YtgpkaoombhobmaaGreatJBa
set_option linter.unusedVariables false
namespace Go.Cx
variable {P:Program} {Z:Nat->Prop} {κ:Nat->Slot} {h:Za} {w:World}
structure Zc where
 N:Nat
 T:Nat->AV
 h:Za
def put (T:Nat->AV) (i:Nat) (v:AV):Nat->AV:=λj=>if j=i then v else T j
theorem Zco (T:Nat->AV) (i:Nat) (v:AV):put T i v i=v:=by simp[put]
theorem Zhf (T:Nat->AV) {i j:Nat} (v:AV) (hj:j≠i):put T i v j=T j:=by simp[put,hj]
def Zc.put (s:Zc) (d:Option Nat) (v:AV):Zc:=
 match d with
 |none=>s
 |some d=>{s with T:=Cx.put s.T d v}
def Zc.ev (s:Zc):Operand->AV
 | .tmp t=>s.T t
 | .const v=>ofV v
 | .global _=> .any
 | .func f=> .fn f []
structure SRel (Z:Nat->Prop) (κ:Nat->Slot) (s:Zc) (a:Act) (w:World):Prop where
 rel:Rel Z κ s.h w
 size:a.tmps.size=s.N
 tmps:∀j,R Z w κ (s.T j) (a.tmps.getD j undef)
 defers:a.defers=[]
theorem SRel.ev {s:Zc} {a:Act} (r:SRel Z κ s a w) (x:Operand):R Z w κ (s.ev x) (a.eval x):=by
 cases x with
 |tmp t=>exact r.tmps t
 |const v=>exact ZkE v
 |global g=>exact .any
 |func f=>exact R.fn (vs:=[]) .nil
theorem Zwi (tmps:Array Value) (d j:Nat) (v:Value):(tmps.setIfInBounds d v).getD j undef=if j=d/\d<tmps.size then v else tmps.getD j undef:=by
 by_cases hj:j=d
 ·subst hj
  by_cases hd:j<tmps.size
  ·simp[hd]
  ·simp[hd]
 ·simp[hj,Array.getElem?_setIfInBounds_ne (Ne.symm hj)]
theorem SRel.put {s:Zc} {a:Act} {Z':Nat->Prop} {κ':Nat->Slot} {w':World} {h':Za} {d:Option Nat} {v:AV} {c:Value} (r:SRel Z κ s a w) (r':Rel Z' κ' h' w') (hv:R Z' w' κ' v c) (e:Ext Z κ w Z' κ' w') (hs:Zq κ κ')
  (hd:∀i,d=some i->i<s.N):SRel Z' κ' (({s with h:=h'}:Zc).put d v) (a.put d c) w':=by
 cases d with
 |none=>exact⟨r',r.size,λj=>(r.tmps j).ext r.rel e hs,r.defers⟩
 |some i=>
  have hi:=hd i rfl
  refine⟨r',by simpa[Act.put,Zc.put] using r.size,λj=> ?_,r.defers⟩
  simp only[Act.put,Zc.put]
  rw[Zwi,r.size]
  by_cases hj:j=i
  ·subst hj;rw[Zco];simpa[hi] using hv
  ·rw[Zhf _ _ hj];simpa[hj] using(r.tmps j).ext r.rel e hs
def ZaJ (P:Program) (h:Za) (b:Builtin) (ts:List TypeId) (ty:TypeId) (consts:Array Bool) (xs:List AV):Option (AV×Za):=
 match b,ts,xs with
 | .len,[t],[x]=>match alen P t x with
  |some v=>some (v,h)
  |none=>none
 | .append,[t,t'],[s,x]=>if t=t' then orX (ZgX P t s x h) (orX (ZeZ P t s x h) (Zfa P t s x h)) else ZeY P t t' s x h
 | .copy,[t,_],[d,s]=>ZsR P t d s h
 | .clear,[t],[x]=>ZkU P t x h
 | .cap,[t],[x]=>(acap P t x h).map λv=>(v,h)
 |b,ts,xs=>(Zcb P b ts.toArray ty consts xs).map λv=>(v,h)
def ev (P:Program) (lit:TypeId->Bool) (ρ:Operand->AV) (h:Za) (o:Oper):Option (AV×Za):=
 match o.op with
 | .move x| .assign x=>some (ρ x,h)
 | .pick c a b=>match ρ c with
  | .val (.bool t)=>some (if t then ρ a else ρ b,h)
  |_=>none
 | .alloc t=>(ZU P t).map λzs=>(.ptr h.length 0 0,h++[.cells 0 zs])
 | .box t x=>(cellsOf (ρ x)).map λcs=>(.ptr h.length 0 0,h++[.cells 0 cs])
 | .build t ps=>(ZkL P t (ps.toList.map λp=>(p.1,ρ p.2))).map λv=>(v,h)
 | .buildSlice t len ps=>match abuildSlice P t len (ps.toList.map λp=>(p.1,ρ p.2)) with
  |some (cs,k)=>if lit t then some (.own h.length 0 0 len k,h++[.cells 0 cs]) else some (.sl true len cs,h)
  |none=>none
 | .load t x=>(Zdp P t (ρ x) h).map λv=>(v,h)
 | .store t p x=>(ZgQ P t (ρ p) (ρ x) h).map λh'=>(.any,h')
 | .nilCheck x=>match ρ x with
  | .ptr id ver off=>some (.ptr id ver off,h)
  | .fp cs=>some (.fp cs,h)
  | .fn f cs=>some (.fn f cs,h)
  |_=>none
 | .fieldAddr t x i=>(ZkH P t (ρ x) i).map λv=>(v,h)
 | .field t x i=>(ZgU P t (ρ x) i).map λv=>(v,h)
 | .indexAddr t x i=>(ZkI P t (ρ x) (ρ i)).map λv=>(v,h)
 | .index t x i=>(Zdq P t (ρ x) (ρ i)).map λv=>(v,h)
 | .slice t x lo hi mx=>match ρ x with
  | .val c=>(Zca P t (.val c) (lo.map ρ) (hi.map ρ) (mx.map ρ)).map λv=>(v,h)
  |x=>(ZgT P t x (lo.map ρ) (hi.map ρ) (mx.map ρ)).map λv=>(v,h)
 | .extract x i=>(ZeT (ρ x) i).map λv=>(v,h)
 | .makeFunc (.func f) first cap=>if first.isEmpty then some (.fn f (cap.toList.map ρ),h) else none
 | .binOp op t x y _=>(abin P op t x y (ρ x) (ρ y)).map λv=>(v,h)
 | .unOp op _ x=>(aun P op (ρ x)).map λv=>(v,h)
 | .convert src dst x=>(ZeV P src dst (ρ x) h).map λv=>(v,h)
 | .call {callee:= .builtin b,args:=xs,argTypes:=ts}=>ZaJ P h b ts.toList o.type (xs.map fun| .const _=>true|_=>false) (xs.toList.map ρ)
 | .makeMap t none=>some (.mp h.length,h++[.map [] []])
 | .insert t m k x| .mapUpdate t m k x=>(ZfL P t (ρ m) (ρ k) (ρ x) h).map λh'=>(.any,h')
 | .lookup t m k ok=>(Zbo P t (ρ m) (ρ k) ok h).map λv=>(v,h)
 |_=>none
theorem Out.of_run {v:AV} {h':Za} {r:Result Next} (hr:Rel Z κ h' w) (hx:∃u,r= .ok (.value u) w/\R Z w κ v u):Out Z κ w v h' r:=by
 obtain⟨u,rfl,hv⟩:=hx
 exact⟨u,w,Z,κ,.inl rfl,hr,hv,.refl _ _ _,.refl _⟩
theorem Zby (xs:Array Operand) (f:Operand->Value):xs.map f=(xs.toList.map f).toArray:=by
 apply Array.ext'
 simp
theorem Zwj {ρ:Operand->AV} {σ:Operand->Value} (hρ:∀x,R Z w κ (ρ x) (σ x)):∀l:List Operand,Rs Z w κ (l.map ρ) (l.map σ)
 |[]=> .nil
 |x::l=> .cons (hρ x) (Zwj hρ l)
theorem rho_p {ρ:Operand->AV} {σ:Operand->Value} (hρ:∀x,R Z w κ (ρ x) (σ x)):∀l:List (Nat×Operand),Rp Z w κ (l.map λp=>(p.1,ρ p.2)) (l.map λp=>(p.1,σ p.2))
 |[]=> .nil
 |(i,x)::l=> .cons (hρ x) (rho_p hρ l)
theorem Zqp {ρ:Operand->AV} {σ:Operand->Value} (hρ:∀x,R Z w κ (ρ x) (σ x)):∀x:Option Operand,Ro Z w κ (x.map ρ) (x.map σ)
 |none=> .none
 |some x=> .some (hρ x)
theorem ev_ok {lit:TypeId->Bool} {ρ:Operand->AV} {σ:Operand->Value} {o:Oper} {v:AV} {h':Za} (r:Rel Z κ h w) (hρ:∀x,R Z w κ (ρ x) (σ x)) (hv:ev P lit ρ h o=some (v,h')):Out Z κ w v h' ((execOp σ o).run P w):=by
 have lift:∀(m:Sem Value) (h1:h'=h),(execOp σ o=(do pure (.value (<-m))))->(∃u,m.run P w= .ok u w/\R Z w κ v u)->Out Z κ w v h' ((execOp σ o).run P w):=by
  rintro m rfl he ⟨u,hu,hr⟩
  refine .of_run r ⟨u,?_,hr⟩
  rw[he];simp[hu]
 unfold ev at hv
 split at hv
 case h_1 x ho=>
  injection hv with hv;injection hv with h1 h2;subst h1 h2
  exact .of_run r ⟨_,by simp[execOp,ho],hρ x⟩
 case h_2 x ho=>
  injection hv with hv;injection hv with h1 h2;subst h1 h2
  exact .of_run r ⟨_,by simp[execOp,ho],hρ x⟩
 case h_3 c x y ho=>
  split at hv
  ·rename_i t hc
   injection hv with hv;injection hv with h1 h2;subst h1 h2
   have hcc:=hρ c
   rw[hc] at hcc
   have hcv:=Zbx hcc (v:= .bool t) rfl
   refine .of_run r ⟨if t then σ x else σ y,by simp[execOp,ho,hcv,asBool],?_⟩
   cases t
   ·simpa using hρ y
   ·simpa using hρ x
  ·cases hv
 case h_4 t ho=>
  obtain⟨zs,hz,he⟩:=Option.map_eq_some_iff.1 hv
  injection he with h1 h2;subst h1 h2
  exact Zwb r hz o ho σ
 case h_5 t x ho=>
  obtain⟨cs,hc,he⟩:=Option.map_eq_some_iff.1 hv
  injection he with h1 h2;subst h1 h2
  exact box_ok r o ho σ (hρ x) hc
 case h_6 t ps ho=>
  obtain⟨u,hu,he⟩:=Option.map_eq_some_iff.1 hv
  injection he with h1 h2;subst h1 h2
  exact lift _ rfl (by simp only[execOp,ho];rfl) (ZsJ (by simpa using rho_p hρ ps.toList) hu)
 case h_7 t len ps ho=>
  split at hv
  ·rename_i cs k hb
   obtain⟨us,E,hrun,hus,hlen,hk,hle⟩:=ZgV (P:=P) (qs:=ps.map λp=>(p.1,σ p.2)) (by simpa using rho_p hρ ps.toList) hb
   have hrun':(execOp σ o).run P w= .ok (.value (.slice (some ⟨w.heap.size,0,none⟩) len len)) (w.alloc (.cells us.toArray E)):=by
    simp only[execOp,ho,Sem.run_bind,hrun,Result.andThen_ok,Sem.run_pure]
   have hmax:len<=maxLen:=by
    have h1:len<=len*k:=Nat.le_mul_of_pos_right _ hk
    simp only[maxLen];omega
   have hul:=hus.length
   rw[hrun']
   split at hv
   ·injection hv with hv;injection hv with h1 h2;subst h1 h2
    exact Out.alloc r hus us.toArray E (by simp) (λj u hj=>by simpa using hj) (λκ' hk'=>ZeU hk' (Nat.le_refl _) hmax (by simp;omega) hk)
   ·injection hv with hv;injection hv with h1 h2;subst h1 h2
    exact Out.frozen r hus E hmax (λh0=>List.eq_nil_of_length_eq_zero (by rw[hlen,h0];simp))
  ·cases hv
 case h_8 t x ho=>
  obtain⟨u,hu,he⟩:=Option.map_eq_some_iff.1 hv
  injection he with h1 h2;subst h1 h2
  exact lift _ rfl (by simp only[execOp,ho]) (Zon r (hρ x) hu)
 case h_9 t p x ho=>
  obtain⟨h2,hu,he⟩:=Option.map_eq_some_iff.1 hv
  injection he with h1 h2;subst h1 h2
  obtain⟨w',hw,hr,he⟩:=ZsE (P:=P) r (hρ p) (hρ x) hu
  exact⟨undef,w',Z,κ,.inr ⟨by simp[execOp,ho,hw],rfl⟩,hr,.any,he,.refl _⟩
 case h_10 x ho=>
  have hx:=hρ x
  split at hv<;>first|(cases hv;done)|skip
  all_goals
   rename_i hc
   injection hv with hv;injection hv with h1 h2;subst h1 h2
   rw[hc] at hx
   refine .of_run r ⟨σ x,?_,hx⟩
   simp only[execOp,ho]
   generalize σ x=c at hx
   cases hx<;>simp
 case h_11 t x i ho=>
  obtain⟨u,hu,he⟩:=Option.map_eq_some_iff.1 hv
  injection he with h1 h2;subst h1 h2
  exact lift _ rfl (by simp only[execOp,ho]) (ZsG (hρ x) hu)
 case h_12 t x i ho=>
  obtain⟨u,hu,he⟩:=Option.map_eq_some_iff.1 hv
  injection he with h1 h2;subst h1 h2
  exact lift _ rfl (by simp only[execOp,ho]) (Zqe (hρ x) hu)
 case h_13 t x i ho=>
  obtain⟨u,hu,he⟩:=Option.map_eq_some_iff.1 hv
  injection he with h1 h2;subst h1 h2
  exact lift _ rfl (by simp only[execOp,ho]) (ZsH (hρ x) (hρ i) hu)
 case h_14 t x i ho=>
  obtain⟨u,hu,he⟩:=Option.map_eq_some_iff.1 hv
  injection he with h1 h2;subst h1 h2
  exact lift _ rfl (by simp only[execOp,ho]) (Zqj (hρ x) (hρ i) hu)
 case h_15 t x lo hi mx ho=>
  have hx:=hρ x
  split at hv
  ·rename_i c hc
   rw[hc] at hx
   obtain⟨u,hu,he⟩:=Option.map_eq_some_iff.1 hv
   injection he with h1 h2;subst h1 h2
   exact lift _ rfl (by simp only[execOp,ho]) (Zqk hx (Zqp hρ lo) (Zqp hρ hi) (Zqp hρ mx) hu)
  ·obtain⟨u,hu,he⟩:=Option.map_eq_some_iff.1 hv
   injection he with h1 h2;subst h1 h2
   exact lift _ rfl (by simp only[execOp,ho]) (ZsI hx (Zqp hρ lo) (Zqp hρ hi) (Zqp hρ mx) hu)
 case h_16 x i ho=>
  obtain⟨u,hu,he⟩:=Option.map_eq_some_iff.1 hv
  injection he with h1 h2;subst h1 h2
  exact lift _ rfl (by simp only[execOp,ho]) (ZmH (hρ x) hu)
 case h_17 f first cap ho=>
  split at hv
  ·rename_i hf
   injection hv with hv;injection hv with h1 h2;subst h1 h2
   have hf':first= #[]:=by simpa using hf
   subst hf'
   refine .of_run r ⟨.func (.func f) #[] (cap.toList.map σ).toArray,?_,.fn (Zwj hρ cap.toList)⟩
   simp[execOp,ho,Instr.makeFunc]
   exact Zby cap σ
  ·cases hv
 case h_18 op t x y yt ho=>
  obtain⟨u,hu,he⟩:=Option.map_eq_some_iff.1 hv
  injection he with h1 h2;subst h1 h2
  exact lift _ rfl (by simp only[execOp,ho]) (abin_ok (hρ x) (hρ y) hu)
 case h_19 op t x ho=>
  obtain⟨u,hu,he⟩:=Option.map_eq_some_iff.1 hv
  injection he with h1 h2;subst h1 h2
  exact lift _ rfl (by simp only[execOp,ho]) (aun_ok (hρ x) hu)
 case h_20 src dst x ho=>
  obtain⟨u,hu,he⟩:=Option.map_eq_some_iff.1 hv
  injection he with h1 h2;subst h1 h2
  exact lift _ rfl (by simp only[execOp,ho]) (ZsL r (hρ x) hu)
 case h_21 b xs ts ho=>
  have hxs:=Zwj hρ xs.toList
  have hex:execOp σ o=builtin b ts o.type (xs.map fun| .const _=>true|_=>false) (xs.map σ):=by
   simp only[execOp,ho,resolve]
   rfl
  rw[hex,Zby xs σ]
  unfold ZaJ at hv
  split at hv
  ·rename_i t x e1 e2
   split at hv
   ·rename_i u hu
    injection hv with hv;injection hv with h1 h2;subst h1 h2
    rw[e2] at hxs
    obtain⟨c,hcs⟩:∃c,xs.toList.map σ=[c]:=by
     have:=hxs.length
     match hq:xs.toList.map σ,this with
     |[c],_=>exact⟨c,rfl⟩
    rw[hcs] at hxs⊢
    cases hxs with
    |cons h1 h2=>
     obtain⟨u,hu,hr⟩:=alen_ok (P:=P) (ty:=o.type) h1 hu
     have ets:ts= #[t]:=by apply Array.ext';simpa using e1
     exact .of_run r ⟨u,by simp[builtin,ets,hu],hr⟩
   ·cases hv
  ·rename_i t t' x y e1 e2
   split at hv
   ·rename_i ht
    subst ht
    rw[e2] at hxs
    obtain⟨c,d,hcs⟩:∃c d,xs.toList.map σ=[c,d]:=by
     have:=hxs.length
     match hq:xs.toList.map σ,this with
     |[c,d],_=>exact⟨c,d,rfl⟩
    rw[hcs] at hxs⊢
    cases hxs with
    |cons h1 h2=>
     cases h2 with
     |cons h2 h3=>
      have ets:ts= #[t,t]:=by apply Array.ext';simpa using e1
      unfold orX at hv
      split at hv
      ·rename_i q hq
       injection hv with hv;subst hv
       obtain⟨u,w',κ',hu,hr,hr2,he,hs⟩:=Zqh (P:=P) (ty:=o.type) r h1 h2 hq
       exact⟨u,w',Z,κ',.inl (by simp[builtin,ets,hu]),hr,hr2,he,hs⟩
      ·split at hv
       ·rename_i q hq
        injection hv with hv;subst hv
        obtain⟨u,w',hu,hr,hr2,he⟩:=ZmJ (P:=P) (ty:=o.type) r h1 h2 hq
        exact⟨u,w',Z,κ,.inl (by simp[builtin,ets,hu]),hr,hr2,he,.refl _⟩
       ·obtain⟨u,w',κ',hu,hr,hr2,he,hs⟩:=ZmK (P:=P) (ty:=o.type) r h1 h2 hv
        exact⟨u,w',Z,κ',.inl (by simp[builtin,ets,hu]),hr,hr2,he,hs⟩
   ·rename_i ht
    rw[e2] at hxs
    obtain⟨c,d,hcs⟩:∃c d,xs.toList.map σ=[c,d]:=by
     have:=hxs.length
     match hq:xs.toList.map σ,this with
     |[c,d],_=>exact⟨c,d,rfl⟩
    rw[hcs] at hxs⊢
    cases hxs with
    |cons h1 h2=>
     cases h2 with
     |cons h2 h3=>
      obtain⟨u,w',κ',hu,hr,hr2,he,hs⟩:=ZmI (P:=P) (ty:=o.type) r h1 h2 hv
      have ets:ts= #[t,t']:=by apply Array.ext';simpa using e1
      exact⟨u,w',Z,κ',.inl (by simp[builtin,ets,hu]),hr,hr2,he,hs⟩
  ·rename_i t t' x y e1 e2
   rw[e2] at hxs
   obtain⟨c,d,hcs⟩:∃c d,xs.toList.map σ=[c,d]:=by
    have:=hxs.length
    match hq:xs.toList.map σ,this with
    |[c,d],_=>exact⟨c,d,rfl⟩
   rw[hcs] at hxs⊢
   cases hxs with
   |cons h1 h2=>
    cases h2 with
    |cons h2 h3=>
     obtain⟨u,w',hu,hr,hr2,he⟩:=Zwf (P:=P) (ty:=o.type) (t':=t') r h1 h2 hv
     have ets:ts= #[t,t']:=by apply Array.ext';simpa using e1
     exact⟨u,w',Z,κ,.inl (by simp[builtin,ets,hu]),hr,hr2,he,.refl _⟩
  ·rename_i t x e1 e2
   rw[e2] at hxs
   obtain⟨c,hcs⟩:∃c,xs.toList.map σ=[c]:=by
    have:=hxs.length
    match hq:xs.toList.map σ,this with
    |[c],_=>exact⟨c,rfl⟩
   rw[hcs] at hxs⊢
   cases hxs with
   |cons h1 h2=>
    obtain⟨u,w',hu,hr,hr2,he⟩:=ZsT (P:=P) (ty:=o.type) r h1 hv
    have ets:ts= #[t]:=by apply Array.ext';simpa using e1
    exact⟨u,w',Z,κ,.inl (by simp[builtin,ets,hu]),hr,hr2,he,.refl _⟩
  ·rename_i t x e1 e2
   obtain⟨q,hq,he⟩:=Option.map_eq_some_iff.1 hv
   injection he with g1 g2;subst g1 g2
   rw[e2] at hxs
   obtain⟨c,hcs⟩:∃c,xs.toList.map σ=[c]:=by
    have:=hxs.length
    match hq:xs.toList.map σ,this with
    |[c],_=>exact⟨c,rfl⟩
   rw[hcs] at hxs⊢
   cases hxs with
   |cons h1 h2=>
    obtain⟨u,hu,hr⟩:=acap_ok (P:=P) (ty:=o.type) r h1 hq
    have ets:ts= #[t]:=by apply Array.ext';simpa using e1
    exact .of_run r ⟨u,by simp[builtin,ets,hu],hr⟩
  ·obtain⟨u,hu,he⟩:=Option.map_eq_some_iff.1 hv
   injection he with h1 h2;subst h1 h2
   obtain⟨c,hc,hr⟩:=ZkQ (P:=P) hxs hu
   exact .of_run r ⟨c,by simpa using hc,hr⟩
 case h_22 t ho=>
  injection hv with hv;injection hv with h1 h2;subst h1 h2
  exact Zql r o ho σ
 case h_23 t m k x ho=>
  obtain⟨h2,hu,he⟩:=Option.map_eq_some_iff.1 hv
  injection he with h1 h2;subst h1 h2
  obtain⟨w',hw,hr,he⟩:=ZkT (P:=P) r (hρ m) (hρ k) (hρ x) hu
  exact⟨undef,w',Z,κ,.inr ⟨by simp[execOp,ho,hw],rfl⟩,hr,.any,he,.refl _⟩
 case h_24 t m k x ho=>
  obtain⟨h2,hu,he⟩:=Option.map_eq_some_iff.1 hv
  injection he with h1 h2;subst h1 h2
  obtain⟨w',hw,hr,he⟩:=ZkT (P:=P) r (hρ m) (hρ k) (hρ x) hu
  exact⟨undef,w',Z,κ,.inr ⟨by simp[execOp,ho,hw],rfl⟩,hr,.any,he,.refl _⟩
 case h_25 t m k ok ho=>
  obtain⟨u,hu,he⟩:=Option.map_eq_some_iff.1 hv
  injection he with h1 h2;subst h1 h2
  exact lift _ rfl (by simp only[execOp,ho]) (ZsQ r (hρ m) (hρ k) hu)
 all_goals cases hv
end Go.Cx
set_option linter.unusedVariables false
namespace Go.Cx
variable {P:Program} {Z:Nat->Prop} {κ:Nat->Slot} {h:Za} {w:World}
theorem ZeB (r:Rel Z κ h w) {id:Nat} (hid:id<h.length):κ id≠ .hole:=by
 intro hk
 have hx:=r.blk id h[id] (by simp[hid])
 cases hb:h[id] with
 |dead=>rw[hb] at hx;simp only[ZaM] at hx;rw[hx] at hk;cases hk
 |cells v cs=>rw[hb] at hx;obtain⟨ob,sz,h1,_⟩:=hx;rw[h1] at hk;cases hk
 |full v cs=>rw[hb] at hx;obtain⟨b,c,E,h1,_⟩:=hx;rw[h1] at hk;cases hk
 |typed E v cs=>rw[hb] at hx;obtain⟨ob,sz,h1,_⟩:=hx;rw[h1] at hk;cases hk
 |map ks vs=>rw[hb] at hx;obtain⟨b,es,cl,h1,_⟩:=hx;rw[h1] at hk;cases hk
 |iter ks vs todo cur=>rw[hb] at hx;obtain⟨b,mb,es,cl,sn,la,h1,_⟩:=hx;rw[h1] at hk;cases hk
theorem Zq.lt {κ':Nat->Slot} (r:Rel Z κ h w) (hs:Zq κ κ') {n:Nat} (hn:n<=h.length):ZX n κ κ':=λid hid=>
 (hs id).resolve_left (ZeB r (Nat.lt_of_lt_of_le hid hn))
theorem ZX.all {κ':Nat->Slot} (r:Rel Z κ h w) (hs:ZX h.length κ κ'):Zq κ κ':=λid=>by
 rcases Nat.lt_or_ge id h.length with h1|h1
 ·exact .inr (hs id h1)
 ·exact .inl (r.hole id h1)
theorem ZX.mono {κ':Nat->Slot} {m n:Nat} (hs:ZX m κ κ') (hn:n<=m):ZX n κ κ':=λid hid=>hs id (Nat.lt_of_lt_of_le hid hn)
theorem ZX.refl (n:Nat) (κ:Nat->Slot):ZX n κ κ:=λ_ _=>Slot.step_refl _
theorem ZX.trans {n:Nat} {a b c:Nat->Slot} (h:ZX n a b) (k:ZX n b c):ZX n a c:=λid hid=>Slot.step_trans (h id hid) (k id hid)
theorem ZkW {s s':Slot} (h:s.step s') (hs:s≠ .hole):s'≠ .hole:=by
 cases s<;>cases s'<;>simp_all[Slot.step]
theorem ZkX {Z':Nat->Prop} {κ':Nat->Slot} {h':Za} {w':World} (r:Rel Z κ h w) (r':Rel Z' κ' h' w') {n:Nat} (hn:n<=h.length) (hs:ZX n κ κ'):n<=h'.length:=by
 rcases Nat.lt_or_ge h'.length n with h1|h1
 ·exact absurd (r'.hole h'.length (Nat.le_refl _)) (ZkW (hs _ h1) (ZeB r (by omega)))
 ·exact h1
def Ent (P:Program) (f:FuncId):Prop:=∀(args:Array Value) (w:World),(callFunc f args).run P w= .ok (.enter f args) w
def ZaX (P:Program) (f:FuncId) (args:List AV) (h:Za) (Q:AV->Za->Prop):Prop:=
 Ent P f/\∀(Z:Nat->Prop) (κ:Nat->Slot) (w:World) (cargs:List Value),Rel Z κ h w->Rs Z w κ args cargs->
  Calls P f cargs.toArray w (λe w'=>∃v h' Z' κ' c,Q v h'/\e= .returned c/\Rel Z' κ' h' w'/\R Z' w' κ' v c/\Ext Z κ w Z' κ' w'/\ZX h.length κ κ')
def ECall (P:Program) (f:FuncId) (args:List AV) (h:Za) (Q:AV->Za->Prop):Prop:=
 ∀(Z:Nat->Prop) (κ:Nat->Slot) (w:World) (cargs:List Value),Rel Z κ h w->Rs Z w κ args cargs->
  ∃v h' Z' κ' c w',Q v h'/\(callFunc f cargs.toArray).run P w= .ok (.value c) w'/\Rel Z' κ' h' w'/\R Z' w' κ' v c/\Ext Z κ w Z' κ' w'/\ZX h.length κ κ'
def AInv (P:Program) (fv:AV) (args:List AV) (h:Za) (Q:AV->Za->Prop):Prop:=
 match fv with
 | .fn f cap=>ZaX P f (args++cap) h Q\/ECall P f (args++cap) h Q
 |_=>False
theorem AInv.of {f:FuncId} {cap args:List AV} {h:Za} {Q:AV->Za->Prop} (hc:ZaX P f (args++cap) h Q):AInv P (.fn f cap) args h Q:= .inl hc
theorem ZaX.mono {f:FuncId} {args:List AV} {Q Q':AV->Za->Prop} (hc:ZaX P f args h Q) (hq:∀v h',Q v h'->Q' v h'):ZaX P f args h Q':=
 ⟨hc.1,λZ κ w cargs r hr=>(hc.2 Z κ w cargs r hr).mono λe w' ⟨v,h',Z',κ',c,hv,rest⟩=>⟨v,h',Z',κ',c,hq v h' hv,rest⟩⟩
def ZcD (o:Oper):Option (Operand×Array Operand):=
 match o.op with
 | .call {callee:= .value f,args:=xs,argTypes:=_}=>some (f,xs)
 |_=>none
def Zeo (N:Nat):Option Nat->Prop
 |none=>True
 |some d=>d<N
def ZH (K:Zc->Prop) (s:Zc) (d:Option Nat) (v:AV) (h':Za):Prop:=Zeo s.N d/\K (({s with h:=h'}:Zc).put d v)
def optB (x:Option (AV×Za)) (K:AV->Za->Prop):Prop:=
 match x with
 |some (v,h')=>K v h'
 |none=>False
def AOp (P:Program) (lit:TypeId->Bool) (o:Oper) (s:Zc) (K:Zc->Prop):Prop:=
 match ZcD o with
 |some (f,xs)=>AInv P (s.ev f) (xs.toList.map s.ev) s.h (ZH K s o.dst)
 |none=>optB (ev P lit s.ev s.h o) (ZH K s o.dst)
def Zbp (ops:Array Oper) (j:Nat):Option Nat:=(ops[j]?).bind (·.dst)
def gdK (P:Program) (lit:TypeId->Bool) (o:Oper) (s:Zc) (t:Nat) (want:Bool) (K:Zc->Prop) (x:AV):Prop:=
 match x with
 | .val (.bool b)=>(b=want->AOp P lit o {s with T:=put s.T t (.val (.bool want))} K)/\
   (b= !want->Zeo s.N o.dst/\K (({s with T:=put s.T t (.val (.bool !want))}:Zc).put o.dst (.tup [])))
 | .tup []=>Zeo s.N o.dst/\K (s.put o.dst (.tup []))
 |_=>False
def lenSl:AV->Option Nat
 | .sl _ n _=>some n
 | .own _ _ _ n _=>some n
 |_=>none
def Zdr (P:Program) (op:BinOp) (t:TypeId) (y:Operand) (x:AV):Option (Bool×Nat):=
 match op,y,lenSl x with
 | .eql,.const (.slice none 0 0),some n=>if(Zab P t).isSome then some (true,n) else none
 | .neq,.const (.slice none 0 0),some n=>if(Zab P t).isSome then some (false,n) else none
 |_,_,_=>none
def Zqq (P:Program) (ρ:Operand->AV):Op->Option (Bool×Nat)
 | .binOp op t x y _=>Zdr P op t y (ρ x)
 |_=>none
def nilK (q:Option (Bool×Nat)) (K:AV->Za->Prop) (h:Za) (A:Prop):Prop:=
 match q with
 |some (q,n)=>∀b:Bool,(0<n->b= !q)->K (.val (.bool b)) h
 |none=>A
def AOps (P:Program) (lit:TypeId->Bool) (ops:Array Oper) (Q:Zc->Prop):List Oper->Zc->Prop
 |[],s=>Q s
 |o::rest,s=>match o.guard with
  |none=>ZmL (ZiF P s.ev s.h o.op) (ZH (AOps P lit ops Q rest) s o.dst) s.h (nilK (Zqq P s.ev o.op) (ZH (AOps P lit ops Q rest) s o.dst) s.h (AOp P lit o s (AOps P lit ops Q rest)))
  |some (j,want)=>match Zbp ops j with
   |none=>False
   |some t=>gdK P lit o s t want (AOps P lit ops Q rest) (s.T t)
def Zcj (n:Nat) (Q:Zc->Prop) (Z:Nat->Prop) (κ:Nat->Slot) (w:World) (a':Act) (w':World):Prop:=
 ∃s' Z' κ',Q s'/\SRel Z' κ' s' a' w'/\Ext Z κ w Z' κ' w'/\ZX n κ κ'/\n<=s'.h.length
theorem Zcj.trans {n:Nat} {Q:Zc->Prop} {Z':Nat->Prop} {κ':Nat->Slot} {w' w'':World} {a'':Act} (e:Ext Z κ w Z' κ' w') (hs:ZX n κ κ') (ha:Zcj n Q Z' κ' w' a'' w''):Zcj n Q Z κ w a'' w'':=by
 obtain⟨s,Z2,κ2,hq,r,e2,s2,hn⟩:=ha
 exact⟨s,Z2,κ2,hq,r,e.trans e2,hs.trans s2,hn⟩
theorem AOp_ok {lit:TypeId->Bool} {o:Oper} {s:Zc} {K:Zc->Prop} {a:Act} {n:Nat} (hop:AOp P lit o s K) (r:SRel Z κ s a w) (hn:n<=s.h.length) {Q':Exit->Act->World->Prop}:o.wp P a w (Zcj n K Z κ w) Q':=by
 unfold AOp at hop
 split at hop
 ·rename_i f xs hg
  have hinv:=hop
  unfold AInv at hinv
  split at hinv
  ·rename_i g cap hf
   have hfr:=r.ev f
   rw[hf] at hfr
   have hxs:=Zwj r.ev xs.toList
   unfold ZcD at hg
   split at hg
   ·rename_i f' xs' ts' ho
    simp only[Option.some.injEq,Prod.mk.injEq] at hg
    obtain⟨rfl,rfl⟩:=hg
    unfold Oper.wp
    generalize hc:a.eval f'=c at hfr
    cases hfr with
    |fn hcap=>
     rename_i vs
     rcases hinv with hinv|hinv
     case inr=>
      have hargs:(xs'.toList.map a.eval++vs).toArray=xs'.map a.eval++vs.toArray:=by
       rw[Zby xs' a.eval];simp
      obtain⟨v,h',Z',κ',c',w',⟨hd,hk⟩,hrun,r',hv,ex,st⟩:=hinv Z κ w (xs'.toList.map a.eval++vs) r.rel (hxs.append hcap)
      rw[hargs] at hrun
      have hex:(execOp a.eval o).run P w= .ok (.value c') w':=by
       simp only[execOp,ho,resolve,hc,Deferred.ofValue,Sem.run_bind,Sem.run_pure,Result.andThen_ok,invoke]
       simpa using hrun
      rw[hex,Oper.upon_value]
      have sa:=ZX.all r.rel st
      exact⟨_,Z',κ',hk,r.put r' hv ex sa (λi hi=>by rw[hi] at hd;exact hd),ex,st.mono hn,by
       have:=ZkX r.rel r' hn (st.mono hn)
       cases o.dst<;>exact this⟩
     have hex:(execOp a.eval o).run P w= .ok (.enter g (xs'.map a.eval++vs.toArray)) w:=by
      simp only[execOp,ho,resolve,hc,Deferred.ofValue,Sem.run_bind,Sem.run_pure,Result.andThen_ok,invoke]
      have:=hinv.1 (#[]++xs'.map a.eval++vs.toArray) w
      simpa using this
     rw[hex,Oper.upon_enter]
     have hcall:=hinv.2 Z κ w (xs'.toList.map a.eval++vs) r.rel (hxs.append hcap)
     have hargs:(xs'.toList.map a.eval++vs).toArray=xs'.map a.eval++vs.toArray:=by
      rw[Zby xs' a.eval];simp
     rw[hargs] at hcall
     refine hcall.mono λe w' he=> ?_
     obtain⟨v,h',Z',κ',c',⟨hd,hk⟩,rfl,r',hv,ex,st⟩:=he
     have sa:=ZX.all r.rel st
     exact⟨_,Z',κ',hk,r.put r' hv ex sa (λi hi=>by rw[hi] at hd;exact hd),ex,st.mono hn,by
      have:=ZkX r.rel r' hn (st.mono hn)
      cases o.dst<;>exact this⟩
   ·cases hg
  ·exact hinv.elim
 ·unfold optB at hop
  split at hop
  ·rename_i v h' hv
   obtain⟨hd,hk⟩:=hop
   obtain⟨c,w',Z',κ',hrun,r',hr,ex,sa⟩:=ev_ok (P:=P) r.rel r.ev hv
   have st:=sa.lt r.rel hn
   have fin:Zcj n K Z κ w (a.put o.dst c) w':=⟨_,Z',κ',hk,r.put r' hr ex sa (λi hi=>by rw[hi] at hd;exact hd),ex,st,by
    have:=ZkX r.rel r' hn st
    cases o.dst<;>exact this⟩
   unfold Oper.wp
   rcases hrun with hrun|⟨hrun,rfl⟩
   ·rw[hrun,Oper.upon_value];exact fin
   ·rw[hrun,Oper.upon_skip];exact fin
  ·exact hop.elim
theorem ZkY {t e:TypeId} (ht:Zab P t=some e) (A:Option Addr) (n cap:Nat) (w:World):(Op.equal t (.slice A n cap) (.slice none 0 0)).run P w= .ok A.isNone w:=by
 have hu:=run_underlying (run_telem ht) (w:=w)
 unfold Op.equal Op.maxDepth
 rw[Op.equalIn]
 simp only[Sem.run_bind,hu,Result.andThen_ok]
 cases A<;>rfl
theorem Zqr {t e:TypeId} (ht:Zab P t=some e) (ox oy:Operand) (A:Option Addr) (n cap:Nat) (w:World):
  ((do eqGuard .eql t ox oy (.slice A n cap) (.slice none 0 0);binOp .eql t (.slice A n cap) (.slice none 0 0)):Sem Value).run P w= .ok (.bool (A.isNone==true)) w:=by
 have he:=ZkY ht A n cap w
 simp[eqGuard,binOp,he]
theorem Zqs {t e:TypeId} (ht:Zab P t=some e) (ox oy:Operand) (A:Option Addr) (n cap:Nat) (w:World):
  ((do eqGuard .neq t ox oy (.slice A n cap) (.slice none 0 0);binOp .neq t (.slice A n cap) (.slice none 0 0)):Sem Value).run P w= .ok (.bool (A.isNone==false)) w:=by
 have he:=ZkY ht A n cap w
 simp[eqGuard,binOp,he]
theorem Zwk {x:AV} {c:Value} {n:Nat} (hx:R Z w κ x c) (hl:lenSl x=some n):∃A cap,c= .slice A n cap/\(0<n->A≠none):=by
 cases hx<;>simp only[lenSl,Option.some.injEq,reduceCtorEq] at hl
 ·subst hl;exact⟨_,_,rfl,by simp⟩
 ·subst hl;exact⟨_,_,rfl,by simp⟩
 ·rename_i h1 h2 h3 h4;subst hl;exact⟨_,_,rfl,h3⟩
theorem nilK_ok {lit:TypeId->Bool} {o:Oper} {s:Zc} {K:Zc->Prop} {a:Act} {n:Nat} (hop:nilK (Zqq P s.ev o.op) (ZH K s o.dst) s.h (AOp P lit o s K)) (r:SRel Z κ s a w) (hn:n<=s.h.length) {Q':Exit->Act->World->Prop}:o.wp P a w (Zcj n K Z κ w) Q':=by
 unfold nilK at hop
 split at hop
 ·rename_i q m hq
  have key:∃op t x yt e,o.op= .binOp op t x (.const (.slice none 0 0)) yt/\lenSl (s.ev x)=some m/\Zab P t=some e/\((op= .eql/\q=true)\/(op= .neq/\q=false)):=by
   unfold Zqq at hq
   split at hq
   ·rename_i op t x y yt ho
    unfold Zdr at hq
    split at hq
    ·rename_i hl
     split at hq
     ·rename_i ht
      obtain⟨e,he⟩:=Option.isSome_iff_exists.1 ht
      injection hq with hq;injection hq with h1 h2;subst h1 h2
      exact⟨_,_,_,_,e,ho,hl,he,.inl ⟨rfl,rfl⟩⟩
     ·cases hq
    ·rename_i hl
     split at hq
     ·rename_i ht
      obtain⟨e,he⟩:=Option.isSome_iff_exists.1 ht
      injection hq with hq;injection hq with h1 h2;subst h1 h2
      exact⟨_,_,_,_,e,ho,hl,he,.inr ⟨rfl,rfl⟩⟩
     ·cases hq
    ·cases hq
   ·cases hq
  obtain⟨op,t,x,yt,e,ho,hl,ht,hq'⟩:=key
  obtain⟨A,cap,hc,hA⟩:=Zwk (r.ev x) hl
  obtain⟨hd,hk⟩:=hop (A.isNone==q) (λh0=>by cases A with
   |none=>exact absurd rfl (hA h0)
   |some a=>cases q<;>rfl)
  have hrun:(execOp a.eval o).run P w= .ok (.value (.bool (A.isNone==q))) w:=by
   rcases hq' with⟨rfl,rfl⟩|⟨rfl,rfl⟩
   ·have hr:=Zqr ht x (.const (.slice none 0 0)) A m cap w
    have e1:a.eval (.const (.slice none 0 0))= .slice none 0 0:=rfl
    have he:execOp a.eval o=(do pure (.value (<-(do eqGuard .eql t x (.const (.slice none 0 0)) (a.eval x) (a.eval (.const (.slice none 0 0)));binOp .eql t (a.eval x) (a.eval (.const (.slice none 0 0))))))):=by simp only[execOp,ho]
    rw[he,hc,e1,Sem.run_bind,hr]
    rfl
   ·have hr:=Zqs ht x (.const (.slice none 0 0)) A m cap w
    have e1:a.eval (.const (.slice none 0 0))= .slice none 0 0:=rfl
    have he:execOp a.eval o=(do pure (.value (<-(do eqGuard .neq t x (.const (.slice none 0 0)) (a.eval x) (a.eval (.const (.slice none 0 0)));binOp .neq t (a.eval x) (a.eval (.const (.slice none 0 0))))))):=by simp only[execOp,ho]
    rw[he,hc,e1,Sem.run_bind,hr]
    rfl
  unfold Oper.wp
  rw[hrun,Oper.upon_value]
  exact⟨_,Z,κ,hk,r.put r.rel (.val rfl) (.refl _ _ _) (.refl _) (λi hi=>by rw[hi] at hd;exact hd),.refl _ _ _,.refl _ _,by cases o.dst<;>exact hn⟩
 ·exact AOp_ok hop r hn
theorem Zwl {lit:TypeId->Bool} {o:Oper} {s:Zc} {K:Zc->Prop} {a:Act} {n:Nat} (hop:ZmL (ZiF P s.ev s.h o.op) (ZH K s o.dst) s.h (nilK (Zqq P s.ev o.op) (ZH K s o.dst) s.h (AOp P lit o s K))) (r:SRel Z κ s a w) (hn:n<=s.h.length) {Q':Exit->Act->World->Prop}:o.wp P a w (Zcj n K Z κ w) Q':=by
 rcases hook_ok (P:=P) r.rel r.ev hop with h1|⟨v,h',⟨hd,hk⟩,c,w',Z',κ',hrun,r',hr,ex,sa⟩
 ·exact nilK_ok h1 r hn
 ·have st:=sa.lt r.rel hn
  have fin:Zcj n K Z κ w (a.put o.dst c) w':=⟨_,Z',κ',hk,r.put r' hr ex sa (λi hi=>by rw[hi] at hd;exact hd),ex,st,by
   have:=ZkX r.rel r' hn st
   cases o.dst<;>exact this⟩
  unfold Oper.wp
  rcases hrun with hrun|⟨hrun,rfl⟩
  ·rw[hrun,Oper.upon_value];exact fin
  ·rw[hrun,Oper.upon_skip];exact fin
theorem Zhg {o:Oper} {y:Nat->Option Bool} (hg:o.guard=none):Region.wanted o y=true:=by simp[Region.wanted,hg]
theorem SRel.bool {s:Zc} {a:Act} {t:Nat} {b:Bool} (r:SRel Z κ s a w) (ht:s.T t= .val (.bool b)):a.tmps[t]? =some (.bool b):=by
 have h1:=r.tmps t
 rw[ht] at h1
 have h2:=Zbx h1 (v:= .bool b) rfl
 rw[Array.getD_eq_getD_getElem?] at h2
 cases h3:a.tmps[t]? with
 |none=>rw[h3] at h2;simp[undef] at h2
 |some v=>rw[h3] at h2;simp at h2;rw[h2]
theorem SRel.noBool {s:Zc} {a:Act} {t:Nat} (r:SRel Z κ s a w) (ht:s.T t= .tup []):∀b,a.tmps[t]?≠some (.bool b):=by
 intro b hb
 have h1:=r.tmps t
 rw[ht,Array.getD_eq_getD_getElem?,hb] at h1
 cases h1
theorem SRel.retT {s:Zc} {a:Act} {t:Nat} {v:AV} (r:SRel Z κ s a w) (hv:s.T t=v):SRel Z κ {s with T:=Cx.put s.T t v} a w:=
 ⟨r.rel,r.size,λj=>by
  by_cases hj:j=t
  ·subst hj;simp only[Zco];rw[<-hv];exact r.tmps j
  ·simp only[Zhf _ _ hj];exact r.tmps j,r.defers⟩
theorem SRel.skip {s:Zc} {a:Act} {d:Option Nat} (r:SRel Z κ s a w) (hd:Zeo s.N d):SRel Z κ (s.put d (.tup [])) (a.put d undef) w:=by
 have:=r.put (d:=d) (v:= .tup []) (c:=undef) (h':=s.h) r.rel (.tup (vs:=[]) .nil) (.refl _ _ _) (.refl _) (λi hi=>by rw[hi] at hd;exact hd)
 exact this
theorem ZfN {lit:TypeId->Bool} {ops:Array Oper} {Q:Zc->Prop} {n:Nat} {Q':Exit->Act->World->Prop}:∀(l:List Oper) (s:Zc) (Z:Nat->Prop) (κ:Nat->Slot) (a:Act) (w:World),AOps P lit ops Q l s->SRel Z κ s a w->n<=s.h.length->
  (∀a' w',Zcj n Q Z κ w a' w'->Q' .normal a' w')->wpList P ops Q' l a w
 |[],s,Z,κ,a,w,hl,r,hn,hq=>hq _ _ ⟨s,Z,κ,hl,r,.refl _ _ _,.refl _ _,hn⟩
 |o::rest,s,Z,κ,a,w,hl,r,hn,hq=>by
  simp only[AOps] at hl
  have step:∀s:Zc,SRel Z κ s a w->n<=s.h.length->AOp P lit o s (AOps P lit ops Q rest)->o.wp P a w (wpList P ops Q' rest) Q':=λs r hn hop=>
   Oper.wp_mono (λa' w' ha=>by
    obtain⟨s',Z',κ',hq',r',e,st,hn'⟩:=ha
    exact ZfN rest s' Z' κ' a' w' hq' r' hn' (λa'' w'' h2=>hq _ _ (h2.trans e st))) (AOp_ok hop r hn)
  split at hl
  ·rename_i hg
   simp only[wpList,Zhg hg,if_true]
   exact .inl (Oper.wp_mono (λa' w' ha=>by
    obtain⟨s',Z',κ',hq',r',e,st,hn'⟩:=ha
    exact ZfN rest s' Z' κ' a' w' hq' r' hn' (λa'' w'' h2=>hq _ _ (h2.trans e st))) (Zwl hl r hn))
  ·rename_i j want hg
   split at hl
   ·exact hl.elim
   ·rename_i t ht
    unfold gdK at hl
    split at hl
    ·rename_i b hb
     obtain⟨h1,h2⟩:=hl
     have hy:yielded ops a.tmps j=some b:=by
      unfold Zbp at ht
      simp only[yielded,ht,Option.bind_some,r.bool hb]
     have hw:Region.wanted o (yielded ops a.tmps)=(b==want):=by
      simp[Region.wanted,hg,hy]
     simp only[wpList,hw]
     by_cases hbw:b=want
     ·subst hbw
      simp only[beq_self_eq_true,if_true]
      exact .inl (step _ (r.retT hb) hn (h1 rfl))
     ·have hbn:b= !want:=by cases b<;>cases want<;>simp_all
      have:(b==want)=false:=by simpa using hbw
      rw[this]
      simp only[Bool.false_eq_true,if_false]
      subst hbn
      obtain⟨hd,h2⟩:=h2 rfl
      exact ZfN rest _ Z κ _ w h2 ((r.retT hb).skip hd) (by cases o.dst<;>exact hn) hq
    ·rename_i hb
     obtain⟨hd,h2⟩:=hl
     have hy:∀b,yielded ops a.tmps j≠some b:=by
      intro b
      unfold Zbp at ht
      simp only[yielded,ht,Option.bind_some]
      have:=r.noBool hb
      split
      ·rename_i b' hb';exact absurd hb' (this b')
      ·simp
     have hw:Region.wanted o (yielded ops a.tmps)=false:=by
      simp only[Region.wanted,hg]
      cases hyy:yielded ops a.tmps j with
      |none=>rfl
      |some b=>exact absurd hyy (hy b)
     simp only[wpList,hw,Bool.false_eq_true,if_false]
     exact ZfN rest _ Z κ _ w h2 (r.skip hd) (by cases o.dst<;>exact hn) hq
    ·exact hl.elim
def AW (P:Program) (n:Nat) (c:Code) (Q:Exit->Zc->Prop) (s:Zc):Prop:=
 ∀(Z:Nat->Prop) (κ:Nat->Slot) (a:Act) (w:World),SRel Z κ s a w->n<=s.h.length->c.wp P (λe a' w'=>Zcj n (Q e) Z κ w a' w') a w
def Zfb (next:Zc->Prop) (Q:Exit->Zc->Prop):Exit->Zc->Prop
 | .normal,s=>next s
 |e,s=>Q e s
def Zbq (id:Nat) (Q:Exit->Zc->Prop):Exit->Zc->Prop
 | .exit id',s=>if id'=id then Q .normal s else Q (.exit id') s
 |e,s=>Q e s
def AX (P:Program) (lit:TypeId->Bool) (n:Nat):Code->(Exit->Zc->Prop)->Zc->Prop
 | .skip,Q,s=>Q .normal s
 | .label _,Q,s=>Q .normal s
 | .region id ops draw,Q,s=>if draw then AW P n (.region id ops true) Q s else AOps P lit ops (Q .normal) ops.toList s
 | .seq a b,Q,s=>AX P lit n a (Zfb (AX P lit n b Q) Q) s
 | .cond c a b,Q,s=>match s.ev c with
  | .val (.bool t)=>(t=true->AX P lit n a Q s)/\(t=false->AX P lit n b Q s)
  |_=>False
 | .block id c,Q,s=>AX P lit n c (Zbq id Q) s
 | .loop c,Q,s=>AW P n (.loop c) Q s
 | .rangeFunc f ps x c,Q,s=>AW P n (.rangeFunc f ps x c) Q s
 | .exit id,Q,s=>Q (.exit id) s
 | .scope c,Q,s=>AW P n (.scope c) Q s
 | .goto l,Q,s=>Q (.goto l) s
 | .ret,Q,s=>Q .ret s
 | .refuse _,Q,s=>False
theorem Zcj.mono {n:Nat} {Q Q2:Zc->Prop} {a':Act} {w':World} (ha:Zcj n Q Z κ w a' w') (hq:∀s,Q s->Q2 s):Zcj n Q2 Z κ w a' w':=
 let⟨s,Z2,κ2,h1,rest⟩:=ha
 ⟨s,Z2,κ2,hq s h1,rest⟩
theorem AW.now {n:Nat} {Q:Zc->Prop} {s:Zc} {a:Act} (hq:Q s) (r:SRel Z κ s a w) (hn:n<=s.h.length):Zcj n Q Z κ w a w:=⟨s,Z,κ,hq,r,.refl _ _ _,.refl _ _,hn⟩
theorem Zck {lit:TypeId->Bool} {n:Nat}:∀(c:Code) (Q:Exit->Zc->Prop) (s:Zc),AX P lit n c Q s->AW P n c Q s
 | .skip,Q,s,hx=>λZ κ a w r hn=>wp_skip (AW.now hx r hn)
 | .label l,Q,s,hx=>λZ κ a w r hn=>wp_label (AW.now hx r hn)
 | .region id ops draw,Q,s,hx=>by
  cases draw with
  |true=>simpa[AX] using hx
  |false=>
   intro Z κ a w r hn
   simp only[AX,Bool.false_eq_true,if_false] at hx
   exact wp_region_list (ZfN (n:=n) ops.toList s Z κ a w hx r hn λa' w' ha=>ha)
 | .seq x y,Q,s,hx=>λZ κ a w r hn=>by
  refine wp_seq (wp_mono (Zck x _ s hx Z κ a w r hn) λe a' w' ha=> ?_)
  cases e with
  |normal=>
   obtain⟨s',Z',κ',hq,r',ex,st,hn'⟩:=ha
   exact wp_mono (Zck y Q s' hq Z' κ' a' w' r' hn') λe2 a2 w2 h2=>h2.trans ex st
  |exit id=>exact ha
  |goto l=>exact ha
  |ret=>exact ha
  |panic ch=>exact ha
  |outgrown=>exact ha
 | .cond c x y,Q,s,hx=>λZ κ a w r hn=>by
  simp only[AX] at hx
  split at hx
  ·rename_i t ht
   have hc:=r.ev c
   rw[ht] at hc
   have hc:=Zbx hc (v:= .bool t) rfl
   cases t with
   |true=>exact wp_cond_true hc (Zck x Q s (hx.1 rfl) Z κ a w r hn)
   |false=>exact wp_cond_false hc (Zck y Q s (hx.2 rfl) Z κ a w r hn)
  ·exact hx.elim
 | .block id c,Q,s,hx=>λZ κ a w r hn=>by
  refine wp_block (wp_mono (Zck c _ s hx Z κ a w r hn) λe a' w' ha=> ?_)
  cases e with
  |exit id'=>
   show if id'=id then Zcj n (Q .normal) Z κ w a' w' else Zcj n (Q (.exit id')) Z κ w a' w'
   by_cases he:id'=id
   ·rw[if_pos he];exact ha.mono λs h=>by simpa[Zbq,he] using h
   ·rw[if_neg he];exact ha.mono λs h=>by simpa[Zbq,he] using h
  |normal=>exact ha
  |goto l=>exact ha
  |ret=>exact ha
  |panic ch=>exact ha
  |outgrown=>exact ha
 | .loop c,Q,s,hx=>hx
 | .rangeFunc f ps x c,Q,s,hx=>hx
 | .exit id,Q,s,hx=>λZ κ a w r hn=>wp_exit (AW.now hx r hn)
 | .scope c,Q,s,hx=>hx
 | .goto l,Q,s,hx=>λZ κ a w r hn=>wp_goto (AW.now hx r hn)
 | .ret,Q,s,hx=>λZ κ a w r hn=>wp_ret (AW.now hx r hn)
 | .refuse _,Q,s,hx=>hx.elim
end Go.Cx
set_option linter.unusedVariables false
namespace Go.Cx
variable {P:Program} {Z:Nat->Prop} {κ:Nat->Slot} {h:Za} {w:World}
def neat:AV->Bool
 | .val _| .any=>true
 | .agg cs=>cs.attach.all λ⟨c,_⟩=>neat c
 | .tup cs=>cs.attach.all λ⟨c,_⟩=>neat c
 | .sl t _ cs=> !t&&cs.attach.all λ⟨c,_⟩=>neat c
 | .fp cs=>cs.attach.all λ⟨c,_⟩=>neat c
 | .fn _ cs=>cs.attach.all λ⟨c,_⟩=>neat c
 | .fmap ks vs=>(ks.attach.all λ⟨c,_⟩=>neat c)&&(vs.attach.all λ⟨c,_⟩=>neat c)
 | .own .. | .ptr .. | .mp .. =>false
@[simp] theorem neat_val (v:Value):neat (.val v)=true:=by simp[neat]
@[simp] theorem neat_any:neat .any=true:=by simp[neat]
@[simp] theorem Zfc (cs:List AV):neat (.agg cs)=cs.all neat:=by rw[neat,Zl]
@[simp] theorem ZgD (cs:List AV):neat (.tup cs)=cs.all neat:=by rw[neat,Zl]
@[simp] theorem ZeC (t:Bool) (n:Nat) (cs:List AV):neat (.sl t n cs)=(!t&&cs.all neat):=by rw[neat,Zl]
@[simp] theorem ZmM (cs:List AV):neat (.fp cs)=cs.all neat:=by rw[neat,Zl]
@[simp] theorem Zhh (f:FuncId) (cs:List AV):neat (.fn f cs)=cs.all neat:=by rw[neat,Zl]
@[simp] theorem Zhi (ks vs:List AV):neat (.fmap ks vs)=(ks.all neat&&vs.all neat):=by rw[neat,Zl,Zl]
@[simp] theorem ZjS (id ver off n k:Nat):neat (.own id ver off n k)=false:=by rw[neat]
@[simp] theorem Zow (id ver off:Nat):neat (.ptr id ver off)=false:=by rw[neat]
@[simp] theorem neat_mp (id:Nat):neat (.mp id)=false:=by rw[neat]
theorem ZB:∀a:AV,neat a=true->ZbO a=true
 | .val _,_| .any,_=>by simp[ZbO]
 | .agg cs,h=>by simp only[Zfc,ZbO,Zl,List.all_eq_true] at*;exact λc hc=>ZB c (h c hc)
 | .tup cs,h=>by simp only[ZgD,ZbO,Zl,List.all_eq_true] at*;exact λc hc=>ZB c (h c hc)
 | .sl _ _ cs,h=>by simp only[ZeC,ZbO,Zl,List.all_eq_true,Bool.and_eq_true] at*;exact λc hc=>ZB c (h.2 c hc)
 | .fp cs,h=>by simp only[ZmM,ZbO,Zl,List.all_eq_true] at*;exact λc hc=>ZB c (h c hc)
 | .fn _ cs,h=>by simp only[Zhh,ZbO,Zl,List.all_eq_true] at*;exact λc hc=>ZB c (h c hc)
 | .fmap ks vs,h=>by
  simp only[Zhi,ZbO,Zl,List.all_eq_true,Bool.and_eq_true] at*
  exact⟨λc hc=>ZB c (h.1 c hc),λc hc=>ZB c (h.2 c hc)⟩
 | .own ..,h| .ptr ..,h| .mp ..,h=>by simp at h
def cutK (n:Nat) (κ:Nat->Slot):Nat->Slot:=λid=>if id<n then κ id else .hole
def cutZ (n:Nat) (Z:Nat->Prop) (κ:Nat->Slot):Nat->Prop:=λb=>Z b\/∃id ver sz,n<=id/\κ id= .live ver (some b) sz
def frz (h:Za) (n:Nat):Nat->AV->Option AV
 |0,_=>none
 |f+1,v=>if neat v then some v else match v with
  | .val v=>some (.val v)
  | .any=>some .any
  | .agg cs=>(cs.mapM (frz h n f)).map .agg
  | .tup cs=>(cs.mapM (frz h n f)).map .tup
  | .sl _ k cs=>(cs.mapM (frz h n f)).map (.sl false k)
  | .fp cs=>(cs.mapM (frz h n f)).map .fp
  | .fn g cs=>(cs.mapM (frz h n f)).map (.fn g)
  | .fmap ks vs=>(ks.mapM (frz h n f)).bind λks=>(vs.mapM (frz h n f)).map (.fmap ks)
  | .own id ver off m k=>if id<n then some (.own id ver off m k) else match h[id]? with
   |some (.cells ver' cs)=>if ver=ver'/\(off+m)*k<=cs.length then(if m=0 then some (.sl false 0 []) else(((cs.drop (off*k)).take (m*k)).mapM (frz h n f)).map (.sl false m)) else none
   |_=>none
  | .ptr id ver off=>if id<n then some (.ptr id ver off) else match h[id]? with
   |some (.cells ver' cs)=>if ver=ver' then((cs.drop off).mapM (frz h n f)).map .fp else none
   |_=>none
  | .mp id=>if id<n then some (.mp id) else match h[id]? with
   |some (.map ks vs)=>(ks.mapM (frz h n f)).bind λks=>(vs.mapM (frz h n f)).map (.fmap ks)
   |_=>none
theorem ZI {f:AV->Option AV} {Z':Nat->Prop} {κ':Nat->Slot} {w':World} (hf:∀a b c,f a=some b->R Z w κ a c->R Z' w' κ' b c):∀{as bs:List AV} {cs:List Value},as.mapM f=some bs->Rs Z w κ as cs->Rs Z' w' κ' bs cs
 |_,bs,_,hm,.nil=>by simp at hm;subst hm;exact .nil
 |_,bs,_,hm,.cons h1 h2=>by
  simp only[List.mapM_cons,Option.pure_def,Option.bind_eq_bind] at hm
  obtain⟨y,hy,hm⟩:=Option.bind_eq_some_iff.1 hm
  obtain⟨ys,hys,hm⟩:=Option.bind_eq_some_iff.1 hm
  injection hm with hm
  subst hm
  exact .cons (hf _ _ _ hy h1) (ZI hf hys h2)
theorem R.loose {t:Bool} {n:Nat} {cs:List AV} {c:Value} (hr:R Z w κ (.sl t n cs) c):R Z w κ (.sl false n cs) c:=by
 cases hr with
 |sl0 h1 h2=>exact .sl0 (by simp) h2
 |sl h0 h1 h2 h3 h4 h5 h6=>exact .sl h0 h1 (by simp) h3 h4 h5 h6
theorem Zhj {n id ver:Nat} {p:Option Nat->Nat->Prop} (hid:id<n) (hr:ZV κ id ver p):ZV (cutK n κ) id ver p:=by
 unfold ZV cutK at*
 simpa[hid] using hr
theorem ZsW (r:Rel Z κ h w) {n:Nat}:∀(f:Nat) (v v':AV) (c:Value),frz h n f v=some v'->R Z w κ v c->R (cutZ n Z κ) w (cutK n κ) v' c
 |0,v,v',c,hf,hr=>by simp[frz] at hf
 |f+1,v,v',c,hf,hr=>by
  have ih:=λa b c=>ZsW r (n:=n) f a b c
  simp only[frz] at hf
  split at hf
  ·rename_i hn
   injection hf with hf
   subst hf
   exact(hr.noRef_any (κ':=cutK n κ) (ZB _ hn)).imp (λb hz=>⟨.inl hz,rfl⟩) (λid=> .inr (Slot.step_refl _))
  ·split at hf
   ·rename_i v;injection hf with hf;subst hf;cases hr with|val hp=>exact .val hp
   ·injection hf with hf;subst hf;exact .any
   ·obtain⟨bs,hb,rfl⟩:=Option.map_eq_some_iff.1 hf
    cases hr with|agg hs=>exact .agg (ZI ih hb hs)
   ·obtain⟨bs,hb,rfl⟩:=Option.map_eq_some_iff.1 hf
    cases hr with|tup hs=>exact .tup (ZI ih hb hs)
   ·obtain⟨bs,hb,rfl⟩:=Option.map_eq_some_iff.1 hf
    cases hr with
    |sl0 h1 h2=>simp at hb;subst hb;exact .sl0 (by simp) h2
    |sl h0 h1 h2 h3 h4 h5 h6=>exact .sl h0 h1 (by simp) h3 (.inl h4) h5 (ZI ih hb h6)
   ·obtain⟨bs,hb,rfl⟩:=Option.map_eq_some_iff.1 hf
    cases hr with|fp h1 h2 h3=>exact .fp (.inl h1) h2 (ZI ih hb h3)
   ·obtain⟨bs,hb,rfl⟩:=Option.map_eq_some_iff.1 hf
    cases hr with|fn hs=>exact .fn (ZI ih hb hs)
   ·obtain⟨ks',hk,hf⟩:=Option.bind_eq_some_iff.1 hf
    obtain⟨vs',hv,rfl⟩:=Option.map_eq_some_iff.1 hf
    cases hr with|fmap h1 h2 h3 h4 h5 h6=>exact .fmap (.inl h1) h2 h3 h4 (ZI ih hk h5) (ZI ih hv h6)
   ·rename_i id ver off m k _
    split at hf
    ·rename_i hid
     injection hf with hf;subst hf
     cases hr with|own h0 h1 hA h2=>exact .own h0 h1 hA (Zhj hid h2)
    ·rename_i hid
     split at hf
     ·rename_i ver' cs hx
      split at hf
      ·rename_i hc
       obtain⟨rfl,hlen⟩:=hc
       split at hf
       ·rename_i hm
        injection hf with hf;subst hf hm
        cases hr with|own h0 h1 hA h2=>exact .sl0 (by simp) h1
       ·rename_i hm
        obtain⟨bs,hb,rfl⟩:=Option.map_eq_some_iff.1 hf
        rcases own_slice r hr hx with⟨_,_,_,_,_,h0,_⟩|⟨b,sz,arr,E,us,cap,a,q1,rfl,q3,q4,q5,q6,q7,q8,q9,q10,q11,q12⟩
        ·exact absurd h0 hm
        ·have hcap:0<cap:=by omega
         have ha:=q6 hcap
         subst ha
         exact .sl (by omega) q3 (by simp) (by omega) (.inr ⟨id,ver,sz,by omega,q1⟩) ((ZaC q8 q11 (off*k)).take _) (ZI ih hb ((q12.drop _).take _))
      ·cases hf
     ·cases hf
   ·rename_i id ver off _
    split at hf
    ·rename_i hid
     injection hf with hf;subst hf
     cases hr with|ptr h2=>exact .ptr (Zhj hid h2)
    ·rename_i hid
     split at hf
     ·rename_i ver' cs hx
      split at hf
      ·rename_i hc
       subst hc
       obtain⟨bs,hb,rfl⟩:=Option.map_eq_some_iff.1 hf
       obtain⟨b,sz,arr,E,us,q1,rfl,q8,q9,q10,q11,q12⟩:=ZbE r hr hx
       exact .fp (.inr ⟨id,ver,sz,by omega,q1⟩) (ZaC q8 q11 off) (ZI ih hb (q12.drop _))
      ·cases hf
     ·cases hf
   ·rename_i id _
    split at hf
    ·rename_i hid
     injection hf with hf;subst hf
     cases hr with|mp h2=>exact .mp (Zhj hid h2)
    ·rename_i hid
     split at hf
     ·rename_i ks vs hx
      obtain⟨ks',hk,hf⟩:=Option.bind_eq_some_iff.1 hf
      obtain⟨vs',hv,rfl⟩:=Option.map_eq_some_iff.1 hf
      obtain⟨b,es,cl,q1,q2,q3,q4⟩:=r.blk id _ hx
      cases hr with
      |mp h2=>
       simp only[ZV,q1] at h2
       have:=h2.2 trivial
       simp only[ZpZ] at this
       subst this
       exact .fmap (.inr ⟨id,0,0,by omega,q1⟩) q2 rfl rfl (ZI ih hk q3) (ZI ih hv q4)
     ·cases hf
def ABlk.refsLt (L:Nat):ABlk->Bool
 | .dead=>true
 | .cells _ cs=>cs.all (Cx.refsLt L)
 | .full _ cs=>cs.all (Cx.refsLt L)
 | .typed _ _ cs=>cs.all (Cx.refsLt L)
 | .map ks vs=>ks.all (Cx.refsLt L)&&vs.all (Cx.refsLt L)
 | .iter ks vs _ _=>ks.all (Cx.refsLt L)&&vs.all (Cx.refsLt L)
theorem ZfO (r:Rel Z κ h w) {n:Nat} (hc:(h.take n).all (ABlk.refsLt n)=true):Rel (cutZ n Z κ) (cutK n κ) (h.take n) w/\Ext Z κ w (cutZ n Z κ) (cutK n κ) w:=by
 have hal:∀b,ZT (cutK n κ) b->∃id ver sz,id<n/\κ id= .live ver (some b) sz:=by
  rintro b ⟨id,ver,sz,hk⟩
  unfold cutK at hk
  split at hk
  ·exact⟨id,ver,sz,by assumption,hk⟩
  ·cases hk
 refine⟨⟨?_,?_,?_,λid x hx=> ?_,?_⟩,⟨rfl,rfl,rfl,Nat.le_refl _,λ_ _ _=>rfl,λb hz=> .inl hz,?_,?_⟩⟩
 ·rintro b (hz|⟨id,ver,sz,_,hk⟩)
  ·exact r.zlt b hz
  ·exact ZA r ⟨id,ver,sz,hk⟩
 ·rintro b (hz|⟨id,ver,sz,hid,hk⟩) ha
  ·obtain⟨id',ver',sz',_,hk'⟩:=hal b ha
   exact r.za b hz ⟨id',ver',sz',hk'⟩
  ·obtain⟨id',ver',sz',hid',hk'⟩:=hal b ha
   have:=r.inj _ _ _ _ _ _ _ hk hk'
   omega
 ·intro id hid
  unfold cutK
  split
  ·rename_i h1
   simp at hid
   exact r.hole id (by omega)
  ·rfl
 ·have hlt:=(List.getElem?_eq_some_iff.1 hx).1
  have hidn:id<n:=by simp at hlt;omega
  have hx':h[id]? =some x:=by rw[List.getElem?_take_of_lt hidn] at hx;exact hx
  have hb:=r.blk id x hx'
  have hr:=List.all_eq_true.1 hc x (List.mem_of_getElem? hx)
  have hk:cutK n κ id=κ id:=by simp[cutK,hidn]
  have conv:∀(as:List AV) (vs:List Value),as.all (refsLt n)=true->Rs Z w κ as vs->Rs (cutZ n Z κ) w (cutK n κ) as vs:=λas vs ha hs=>
   (hs.lt (List.all_eq_true.1 ha) (λj hj=>show cutK n κ j=κ j by simp[cutK,hj])).imp (λb hz=>⟨.inl hz,rfl⟩) (λj=> .inr (Slot.step_refl _))
  cases x with
  |dead=>simp only[ZaM] at*;rw[hk];exact hb
  |cells ver cs=>
   obtain⟨ob,sz,h1,h2⟩:=hb
   refine⟨ob,sz,hk.trans h1,?_⟩
   cases ob with
   |none=>exact h2
   |some b=>
    obtain⟨c,E,us,h3,h4,h5,h6,h7⟩:=h2
    exact⟨c,E,us,h3,h4,h5,h6,conv _ _ hr h7⟩
  |full ver cs=>
   obtain⟨b,c,E,h1,h2,h3,h4⟩:=hb
   exact⟨b,c,E,hk.trans h1,h2,conv _ _ hr h3,h4⟩
  |typed E ver cs=>
   obtain⟨ob,sz,h1,h2⟩:=hb
   refine⟨ob,sz,hk.trans h1,?_⟩
   cases ob with
   |none=>exact h2
   |some b=>
    obtain⟨c,us,h3,h4,h5,h6,h7⟩:=h2
    exact⟨c,us,h3,h4,h5,h6,conv _ _ hr h7⟩
  |map ks vs=>
   obtain⟨b,es,cl,h1,h2,h3,h4⟩:=hb
   simp only[ABlk.refsLt,Bool.and_eq_true] at hr
   exact⟨b,es,cl,hk.trans h1,h2,conv _ _ hr.1 h3,conv _ _ hr.2 h4⟩
  |iter ks vs todo cur=>
   obtain⟨b,mb,es,cl,sn,la,h1,h2,h3,h4,h5,h6,h7⟩:=hb
   simp only[ABlk.refsLt,Bool.and_eq_true] at hr
   exact⟨b,mb,es,cl,sn,la,hk.trans h1,h2,.inl h3,h4,conv _ _ hr.1 h5,conv _ _ hr.2 h6,h7⟩
 ·intro id id' ver ver' b sz sz' h1 h2
  unfold cutK at h1 h2
  split at h1
  ·split at h2
   ·exact r.inj _ _ _ _ _ _ _ h1 h2
   ·cases h2
  ·cases h1
 ·rintro b (hz|⟨id,ver,sz,_,hk⟩)
  ·exact .inl hz
  ·exact .inr (.inl ⟨id,ver,sz,hk⟩)
 ·intro b ha
  obtain⟨id,ver,sz,_,hk⟩:=hal b ha
  exact .inl ⟨id,ver,sz,hk⟩
theorem ZcE (n:Nat) (κ:Nat->Slot):ZX n κ (cutK n κ):=λid hid=>by
 simp only[cutK,hid,if_true];exact Slot.step_refl _
def resA (P:Program) (s:Zc):ResultVar->Option AV
 | .tmp t=>some (s.T t)
 | .cell t ty=>Zdp P ty (s.T t) s.h
def resV:List AV->AV
 |[v]=>v
 |vs=> .tup vs
theorem ZsX {s:Zc} {a:Act} (r:SRel Z κ s a w):∀(rs:List ResultVar) (vs:List AV),rs.mapM (resA P s)=some vs->
  ∃cs:List Value,(rs.mapM (m:=Sem) fun| .tmp t=>pure (a.tmps.getD t undef)| .cell x t=>do loadVar t (<-asAddr (a.tmps.getD x undef))).run P w= .ok cs w/\Rs Z w κ vs cs
 |[],vs,hm=>by simp at hm;subst hm;exact⟨[],by simp,.nil⟩
 |x::rs,vs,hm=>by
  simp only[List.mapM_cons,Option.pure_def,Option.bind_eq_bind] at hm
  obtain⟨y,hy,hm⟩:=Option.bind_eq_some_iff.1 hm
  obtain⟨ys,hys,hm⟩:=Option.bind_eq_some_iff.1 hm
  injection hm with hm
  subst hm
  obtain⟨cs,hcs,hrs⟩:=ZsX r rs ys hys
  cases x with
  |tmp t=>
   simp only[resA,Option.some.injEq] at hy
   subst hy
   exact⟨_::cs,by simp only[List.mapM_cons,Sem.run_bind,Sem.run_pure,Result.andThen_ok,hcs],.cons (r.tmps t) hrs⟩
  |cell t ty=>
   simp only[resA] at hy
   obtain⟨u,hu,hru⟩:=Zon (P:=P) r.rel (r.tmps t) hy
   have hptr:∃ad,a.tmps.getD t undef= .pointer (some ad):=by
    have h1:=r.tmps t
    generalize a.tmps.getD t undef=c at*
    generalize s.T t=p at*
    unfold Zdp at hy
    cases h1<;>first
     |exact⟨_,rfl⟩
     |(split at hy<;>simp at hy)
   obtain⟨ad,had⟩:=hptr
   rw[had] at hu
   simp only[Instr.loadAt,Instr.sureAddr,Sem.run_bind,Sem.run_pure,Result.andThen_ok] at hu
   have hasA:asAddr (a.tmps.getD t undef)=pure ad:=by rw[had];rfl
   exact⟨u::cs,by simp only[List.mapM_cons,Sem.run_bind,Sem.run_pure,Result.andThen_ok,hasA,hu,hcs],.cons hru hrs⟩
theorem ZdM {s:Zc} {a:Act} {fn:Func} {vs:List AV} (r:SRel Z κ s a w) (hm:fn.results.toList.mapM (resA P s)=some vs):∃c,(results fn a.tmps).run P w= .ok c w/\R Z w κ (resV vs) c:=by
 obtain⟨cs,hcs,hrs⟩:=ZsX (P:=P) r _ _ hm
 have hrun:(results fn a.tmps).run P w= .ok (if h:cs.toArray.size=1 then cs.toArray[0] else .tuple cs.toArray) w:=by
  unfold results
  rw[Array.mapM_eq_mapM_toList,map_eq_pure_bind]
  simp only[Sem.run_bind,Sem.run_pure]
  erw [hcs]
  rfl
 refine⟨_,hrun,?_⟩
 match vs,cs,hrs with
 |[],[],.nil=>exact .tup .nil
 |[v],[c],.cons h1 .nil=>exact h1
 |v1::v2::vs,c1::c2::cs,h=>exact .tup h
def Zbr (args:List AV):Nat->AV:=λj=>args.getD j .any
def Zbs:Exit->Bool
 | .normal| .ret=>true
 |_=>false
def ZfP (P:Program) (rs:List ResultVar) (n:Nat) (Q:AV->Za->Prop) (e:Exit) (s:Zc):Prop:=
 Zbs e=true/\∃vs v,rs.mapM (resA P s)=some vs/\frz s.h n 12 (resV vs)=some v/\(s.h.take n).all (ABlk.refsLt n)=true/\Q v (s.h.take n)
theorem ZaX.introW {f:FuncId} {fn:Func} {c:Code} {rs:List ResultVar} {N:Nat} {args:List AV} {Q:AV->Za->Prop} (hf:P.funcs[f]? =some fn) (hb:fn.body=some c) (hrs:fn.results.toList=rs) (hN:args.length+(fn.ntmps -args.length)=N) (he:Ent P f)
  (hx:AW P h.length c (ZfP P rs h.length Q) ⟨N,Zbr args,h⟩):ZaX P f args h Q:=by
 subst hrs hN
 refine⟨he,λZ κ w cargs r hr=> ?_⟩
 refine calls_of_wp hf hb (wp_mono (hx Z κ _ w ?_ (Nat.le_refl _)) ?_)
 ·have hl:=hr.length
  refine⟨r,by simp[hl],λj=> ?_,rfl⟩
  simp only[Zbr,Array.getD_eq_getD_getElem?,Array.getElem?_append,List.size_toArray,List.getD]
  by_cases hj:j<cargs.length
  ·rw[if_pos hj]
   obtain⟨v,hv,hvr⟩:=hr.get j (args[j]'(by omega)) (by simp[hl▸hj])
   have:args[j]? =some (args[j]'(by omega)):=by simp[hl▸hj]
   rw[this]
   simpa[hv] using hvr
  ·rw[if_neg hj]
   have:args[j]? =none:=List.getElem?_eq_none (by omega)
   rw[this]
   exact .any
 ·intro e a' w' ha
  obtain⟨s',Z',κ',hq,r',ex,st,hn⟩:=ha
  obtain⟨he',vs,v,hm,hz,hc,hQ⟩:=hq
  obtain⟨cv,hrun,hcv⟩:=ZdM (P:=P) r' hm
  obtain⟨r2,e2⟩:=ZfO r'.rel hc
  have fin:∃v h' Z2 κ2 c,Q v h'/\Ending.returned cv= .returned c/\Rel Z2 κ2 h' w'/\R Z2 w' κ2 v c/\Ext Z κ w Z2 κ2 w'/\ZX h.length κ κ2:=
   ⟨v,_,_,_,cv,hQ,rfl,r2,ZsW r'.rel _ _ _ _ hz hcv,ex.trans e2,st.trans (ZcE _ _)⟩
  cases e with
  |normal=>exact⟨r'.defers,cv,hrun,fin⟩
  |ret=>exact⟨r'.defers,cv,hrun,fin⟩
  |exit id=>simp[Zbs] at he'
  |goto l=>simp[Zbs] at he'
  |panic ch=>simp[Zbs] at he'
  |outgrown=>simp[Zbs] at he'
theorem ZaX.intro {f:FuncId} {fn:Func} {c:Code} {rs:List ResultVar} {N:Nat} {args:List AV} {Q:AV->Za->Prop} (lit:TypeId->Bool) (hf:P.funcs[f]? =some fn) (hb:fn.body=some c) (hrs:fn.results.toList=rs) (hN:args.length+(fn.ntmps -args.length)=N) (he:Ent P f)
  (hx:AX P lit h.length c (ZfP P rs h.length Q) ⟨N,Zbr args,h⟩):ZaX P f args h Q:=ZaX.introW hf hb hrs hN he (Zck c _ _ hx)
end Go.Cx
set_option linter.unusedVariables false
namespace Go.Cx
variable {P:Program} {Z:Nat->Prop} {κ:Nat->Slot} {h:Za} {w:World}
def Zb (P:Program) (f:FuncId) (args:List AV) (v:AV):Prop:=
 args.all neat=true/\neat v=true/\ZaX P f args [] (λv' h'=>v'=v/\h'=[])
theorem Zfd (b:Nat):¬ZT (λ_:Nat=>Slot.hole) b:=by
 rintro⟨id,ver,sz,hk⟩
 cases hk
theorem Zhk {Z:Nat->Prop} {w:World} (hz:∀b,Z b->b<w.heap.size):Rel Z (λ_=> .hole) [] w where
 zlt:=hz
 za:=λb _=>Zfd b
 hole:=λid _=>rfl
 blk:=λid x hx=>by simp at hx
 inj:=λid id' ver ver' b sz sz' h1=>by cases h1
theorem Zb.introW {f:FuncId} {fn:Func} {c:Code} {rs:List ResultVar} {N:Nat} {args:List AV} {v:AV} (hf:P.funcs[f]? =some fn) (hb:fn.body=some c) (hrs:fn.results.toList=rs) (hN:args.length+(fn.ntmps -args.length)=N) (he:Ent P f) (ha:args.all neat=true) (hv:neat v=true)
  (hx:AW P 0 c (ZfP P rs 0 (λv' _=>v'=v)) ⟨N,Zbr args,[]⟩):Zb P f args v:=by
 refine⟨ha,hv,?_⟩
 have:=ZaX.introW (h:=[]) (Q:=λv' _=>v'=v) hf hb hrs hN he hx
 refine⟨this.1,λZ κ w cargs r hr=>(this.2 Z κ w cargs r hr).mono ?_⟩
 rintro e w' ⟨v',h',Z',κ',c,hq,he',r',hv',ex,st⟩
 have r2:Rel Z' (λ_=> .hole) [] w':=Zhk r'.zlt
 subst hq
 exact⟨v',[],Z',λ_=> .hole,c,⟨rfl,rfl⟩,he',r2,hv'.noRef_any (ZB _ hv),
  ⟨ex.os,ex.tape,ex.output,ex.size,ex.keep,ex.zin,ex.znew,λb ha=>absurd ha (Zfd b)⟩,λid hid=>absurd hid (Nat.not_lt_zero _)⟩
theorem Zb.intro {f:FuncId} {fn:Func} {c:Code} {rs:List ResultVar} {N:Nat} {args:List AV} {v:AV} (lit:TypeId->Bool) (hf:P.funcs[f]? =some fn) (hb:fn.body=some c) (hrs:fn.results.toList=rs) (hN:args.length+(fn.ntmps -args.length)=N) (he:Ent P f) (ha:args.all neat=true) (hv:neat v=true)
  (hx:AX P lit 0 c (ZfP P rs 0 (λv' _=>v'=v)) ⟨N,Zbr args,[]⟩):Zb P f args v:=Zb.introW hf hb hrs hN he ha hv (Zck c _ _ hx)
theorem Zb.frame {f:FuncId} {args:List AV} {v:AV} (hp:Zb P f args v) (h:Za):ZaX P f args h (λv' h'=>v'=v/\h'=h):=by
 obtain⟨ha,hv,he,hc⟩:=hp
 refine⟨he,λZ κ w cargs r hr=> ?_⟩
 refine(hc Z (λ_=> .hole) w cargs (Zhk r.zlt) (hr.noRef_any λa h1=>ZB a (List.all_eq_true.1 ha a h1))).mono ?_
 rintro e w' ⟨v',h',Z',κ',c,⟨rfl,rfl⟩,he',r',hv',ex,st⟩
 have hno:=Zfd
 have e:Ext Z κ w Z' κ w':=⟨ex.os,ex.tape,ex.output,ex.size,λb hb _=>ex.keep b hb (hno b),ex.zin,λb hz=>(ex.znew b hz).elim .inl λh1=>h1.elim (λh2=>(hno b h2).elim) (λh2=> .inr (.inr h2)),λb h1=> .inl h1⟩
 have r2:Rel Z' κ h w':=by
  refine⟨r'.zlt,λb hz hal=> ?_,r.hole,λid x hx=> ?_,r.inj⟩
  ·rcases ex.znew b hz with h1|h1|h1
   ·exact r.za b h1 hal
   ·exact hno b h1
   ·have:=ZA r hal;omega
  ·exact(r.blk id x hx).ext r e (.refl _) rfl λver b sz hk=>ex.keep b (ZA r ⟨id,ver,sz,hk⟩) (hno b)
 exact⟨v',h,Z',κ,c,⟨rfl,rfl⟩,he',r2,hv'.noRef_any (ZB _ hv),e,.refl _ _⟩
theorem AInv.pure {f:FuncId} {cap args args':List AV} {v:AV} {Q:AV->Za->Prop} (hp:Zb P f args' v) (ha:args++cap=args') (hq:Q v h):AInv P (.fn f cap) args h Q:=by
 refine .of ?_
 rw[ha]
 exact(hp.frame h).mono λv' h' ⟨h1,h2⟩=>by rw[h1,h2];exact hq
def Zds:AV->Bool
 | .val _=>true
 | .agg cs=>cs.all fun| .val _=>true|_=>false
 | .tup cs=>cs.all fun| .val _=>true|_=>false
 |_=>false
theorem ZmN {Z':Nat->Prop} {w':World} {κ':Nat->Slot}:∀{v:AV} {c:Value},Zds v=true->R Z w κ v c->R Z' w' κ' v c:=by
 have hs:∀(cs:List AV) (vs:List Value),(cs.all fun| .val _=>true|_=>false)=true->Rs Z w κ cs vs->Rs Z' w' κ' cs vs:=by
  intro cs
  induction cs with
  |nil=>intro vs _ h;cases h;exact .nil
  |cons a cs ih=>
   intro vs hall h
   simp only[List.all_cons,Bool.and_eq_true] at hall
   cases h with
   |cons h1 h2=>
    refine .cons ?_ (ih _ hall.2 h2)
    cases h1<;>simp at hall
    exact .val (by assumption)
 intro v c hm hr
 cases hr with
 |val hp=>exact .val hp
 |agg h=>exact .agg (hs _ _ (by simpa[Zds] using hm) h)
 |tup h=>exact .tup (hs _ _ (by simpa[Zds] using hm) h)
 |_=>simp[Zds] at hm
theorem AInv.lend {f:FuncId} {cap args args':List AV} {v:AV} {Q:AV->Za->Prop} (hp:Zb P f args' v) (hm:Zds v=true) (ha:(args++cap).mapM (frz h 0 12)=some args') (hq:Q v h):AInv P (.fn f cap) args h Q:=by
 obtain⟨hn,hv,he,hc⟩:=hp
 refine .of ⟨he,λZ κ w cargs r hr=> ?_⟩
 obtain⟨r0,e0⟩:=ZfO r (n:=0) (by simp)
 have hk0:cutK 0 κ=λ_=> .hole:=by funext id;simp[cutK]
 have hr0:Rs (cutZ 0 Z κ) w (cutK 0 κ) args' cargs:=ZI (λa b c h1 h2=>ZsW r 12 a b c h1 h2) ha hr
 rw[hk0] at hr0 r0
 simp only[List.take_zero] at r0
 refine(hc _ _ w cargs r0 hr0).mono ?_
 rintro e w' ⟨v',h',Z',κ',c,⟨rfl,rfl⟩,he',r',hv',ex,st⟩
 have hno:=Zfd
 have e:Ext Z κ w Z κ w':=⟨ex.os,ex.tape,ex.output,ex.size,λb hb _=>ex.keep b hb (hno b),λb h=>h,λb h=> .inl h,λb h1=> .inl h1⟩
 have r2:Rel Z κ h w':=by
  refine⟨λb hz=>Nat.lt_of_lt_of_le (r.zlt b hz) ex.size,r.za,r.hole,λid x hx=> ?_,r.inj⟩
  exact(r.blk id x hx).ext r e (.refl _) rfl λver b sz hk=>ex.keep b (ZA r ⟨id,ver,sz,hk⟩) (hno b)
 exact⟨v',h,Z,κ,c,hq,he',r2,ZmN hm hv',e,.refl _ _⟩
def Wk (n:Nat) (s s':Zc):Prop:=
 ∀(Z:Nat->Prop) (κ:Nat->Slot) (a:Act) (w:World),SRel Z κ s a w->n<=s.h.length->∃κ',SRel Z κ' s' a w/\Ext Z κ w Z κ' w/\ZX n κ κ'/\n<=s'.h.length
theorem Wk.refl (n:Nat) (s:Zc):Wk n s s:=λZ κ a w r hn=>⟨κ,r,.refl _ _ _,.refl _ _,hn⟩
theorem Wk.trans {n:Nat} {s s' s'':Zc} (h:Wk n s s') (k:Wk n s' s''):Wk n s s'':=λZ κ a w r hn=>by
 obtain⟨κ1,r1,e1,st1,n1⟩:=h Z κ a w r hn
 obtain⟨κ2,r2,e2,st2,n2⟩:=k Z κ1 a w r1 n1
 exact⟨κ2,r2,e1.trans e2,st1.trans st2,n2⟩
theorem AW.wk {n:Nat} {c:Code} {Q:Exit->Zc->Prop} {s s':Zc} (hw:Wk n s s') (hx:AW P n c Q s'):AW P n c Q s:=λZ κ a w r hn=>by
 obtain⟨κ2,r2,e2,st2,n2⟩:=hw Z κ a w r hn
 exact wp_mono (hx Z κ2 a w r2 n2) λe a' w' ha=>ha.trans e2 st2
def le (a b:AV):Prop:=∀(Z:Nat->Prop) (w:World) (κ:Nat->Slot) (c:Value),R Z w κ a c->R Z w κ b c
theorem le.refl (a:AV):le a a:=λ_ _ _ _ h=>h
def pat:List (Nat×AV)->Nat->AV
 |[],_=> .any
 |(i,v)::l,j=>if j=i then v else pat l j
@[simp] theorem pat_nil (j:Nat):pat [] j= .any:=rfl
theorem Zox (i:Nat) (v:AV) (l:List (Nat×AV)) (j:Nat):pat ((i,v)::l) j=if j=i then v else pat l j:=rfl
theorem pat_R {κ':Nat->Slot} {a:Act} (l:List (Nat×AV)) (hl:∀p∈l,R Z w κ' p.2 (a.tmps.getD p.1 undef)):∀j,R Z w κ' (pat l j) (a.tmps.getD j undef):=by
 intro j
 induction l with
 |nil=>exact .any
 |cons p l ih=>
  obtain⟨i,v⟩:=p
  rw[Zox]
  split
  ·rename_i hj;subst hj;exact hl (_,v) (by simp)
  ·exact ih λp hp=>hl p (by simp[hp])
theorem Wk.pat {n m:Nat} {s:Zc} (l:List (Nat×AV)) (hnm:n<=m) (hm:m<=s.h.length) (hc:(s.h.take m).all (ABlk.refsLt m)=true) (hl:∀p∈l,le (s.T p.1) p.2/\refsLt m p.2=true):Wk n s ⟨s.N,Cx.pat l,s.h.take m⟩:=by
 intro Z κ a w r hn
 obtain⟨r1,e1⟩:=ZfO r.rel (n:=m) hc
 have hz:∀b,ZT (cutK m κ) b->ZT κ b:=by
  rintro b ⟨id,ver,sz,hk⟩
  unfold cutK at hk
  split at hk
  ·exact⟨id,ver,sz,hk⟩
  ·cases hk
 have r2:Rel Z (cutK m κ) (s.h.take m) w:=by
  refine⟨r.rel.zlt,λb hz' ha=>r.rel.za b hz' (hz b ha),r1.hole,λid x hx=> ?_,r1.inj⟩
  have hlt:=(List.getElem?_eq_some_iff.1 hx).1
  have hidn:id<m:=by simp at hlt;omega
  have hx':s.h[id]? =some x:=by rw[List.getElem?_take_of_lt hidn] at hx;exact hx
  have hb:=r.rel.blk id x hx'
  have hr:=List.all_eq_true.1 hc x (List.mem_of_getElem? hx)
  have hk:cutK m κ id=κ id:=by simp[cutK,hidn]
  have conv:∀(as:List AV) (vs:List Value),as.all (refsLt m)=true->Rs Z w κ as vs->Rs Z w (cutK m κ) as vs:=λas vs ha hs=>
   hs.lt (List.all_eq_true.1 ha) (λj hj=>show cutK m κ j=κ j by simp[cutK,hj])
  cases x with
  |dead=>simp only[ZaM] at*;rw[hk];exact hb
  |cells ver cs=>
   obtain⟨ob,sz,h1,h2⟩:=hb
   refine⟨ob,sz,hk.trans h1,?_⟩
   cases ob with
   |none=>exact h2
   |some b=>
    obtain⟨c,E,us,h3,h4,h5,h6,h7⟩:=h2
    exact⟨c,E,us,h3,h4,h5,h6,conv _ _ hr h7⟩
  |full ver cs=>
   obtain⟨b,c,E,h1,h2,h3,h4⟩:=hb
   exact⟨b,c,E,hk.trans h1,h2,conv _ _ hr h3,h4⟩
  |typed E ver cs=>
   obtain⟨ob,sz,h1,h2⟩:=hb
   refine⟨ob,sz,hk.trans h1,?_⟩
   cases ob with
   |none=>exact h2
   |some b=>
    obtain⟨c,us,h3,h4,h5,h6,h7⟩:=h2
    exact⟨c,us,h3,h4,h5,h6,conv _ _ hr h7⟩
  |map ks vs=>
   obtain⟨b,es,cl,h1,h2,h3,h4⟩:=hb
   simp only[ABlk.refsLt,Bool.and_eq_true] at hr
   exact⟨b,es,cl,hk.trans h1,h2,conv _ _ hr.1 h3,conv _ _ hr.2 h4⟩
  |iter ks vs todo cur=>
   obtain⟨b,mb,es,cl,sn,la,h1,h2,h3,h4,h5,h6,h7⟩:=hb
   simp only[ABlk.refsLt,Bool.and_eq_true] at hr
   exact⟨b,mb,es,cl,sn,la,hk.trans h1,h2,h3,h4,conv _ _ hr.1 h5,conv _ _ hr.2 h6,h7⟩
 refine⟨cutK m κ,⟨r2,r.size,pat_R l λp hp=> ?_,r.defers⟩,⟨rfl,rfl,rfl,Nat.le_refl _,λ_ _ _=>rfl,λ_ h=>h,λ_ h=> .inl h,λb ha=> .inl (hz b ha)⟩,(ZcE m κ).mono hnm,by simp;omega⟩
 obtain⟨h1,h2⟩:=hl p hp
 exact(h1 _ _ _ _ (r.tmps p.1)).lt h2 (λj hj=>show cutK m κ j=κ j by simp[cutK,hj])
theorem Wk.ownNil {n:Nat} {s:Zc} (t k:Nat) (ht:s.T t= .sl true 0 []):Wk n s ⟨s.N,put s.T t (.own s.h.length 0 0 0 k),s.h++[.cells 0 []]⟩:=by
 intro Z κ a w r hn
 have hh:=r.rel.hole s.h.length (Nat.le_refl _)
 have hs:Zq κ (upd κ s.h.length (.live 0 none 0)):= .upd (.inl hh)
 have hal:∀b,ZT (upd κ s.h.length (.live 0 none 0)) b->ZT κ b:=by
  rintro b ⟨id,ver,sz,hk⟩
  by_cases hid:id=s.h.length
  ·subst hid;rw[Zk] at hk;cases hk
  ·rw[Zr _ _ hid] at hk;exact⟨id,ver,sz,hk⟩
 have e:Ext Z κ w Z (upd κ s.h.length (.live 0 none 0)) w:=⟨rfl,rfl,rfl,Nat.le_refl _,λ_ _ _=>rfl,λ_ h=>h,λ_ h=> .inl h,λb ha=> .inl (hal b ha)⟩
 refine⟨_,⟨⟨r.rel.zlt,λb hz ha=>r.rel.za b hz (hal b ha),λid hid=> ?_,λid x hx=> ?_,?_⟩,r.size,λj=> ?_,r.defers⟩,e,hs.lt r.rel hn,by simp;omega⟩
 ·simp at hid
  rw[Zr _ _ (by omega)];exact r.rel.hole id (by omega)
 ·by_cases hid:id=s.h.length
  ·subst hid
   simp at hx
   subst hx
   exact⟨none,0,Zk _ _ _,rfl⟩
  ·have hlt:id<s.h.length:=by
    have:=(List.getElem?_eq_some_iff.1 hx).1
    simp at this;omega
   rw[List.getElem?_append_left hlt] at hx
   exact(r.rel.blk id x hx).ext r.rel e hs (Zr _ _ hid) λ_ _ _ _=>rfl
 ·intro id id' ver ver' b sz sz' h1 h2
  by_cases hid:id=s.h.length
  ·subst hid;rw[Zk] at h1;cases h1
  ·by_cases hid':id'=s.h.length
   ·subst hid';rw[Zk] at h2;cases h2
   ·rw[Zr _ _ hid] at h1;rw[Zr _ _ hid'] at h2
    exact r.rel.inj _ _ _ _ _ _ _ h1 h2
 ·show R Z w _ (put s.T t _ j) _
  by_cases hj:j=t
  ·subst hj
   rw[Zco]
   have h1:=r.tmps j
   rw[ht] at h1
   generalize a.tmps.getD j undef=c at h1
   cases h1 with
   |sl0 h2 h3=>
    have h0:=h2 rfl
    subst h0
    refine .own (Nat.le_refl _) h3 (by simp) ?_
    simp[ZV,Zk,Zdm]
   |sl h2=>omega
  ·rw[Zhf _ _ hj];exact(r.tmps j).ext r.rel e hs
theorem AW.loop {n:Nat} {c:Code} {Q:Exit->Zc->Prop} {s:Zc} (I:Zc->Prop) (μ:Zc->Nat) (h0:I s)
  (hr:∀s,I s->AW P n c (Zfb (λs'=>∃s'',Wk n s' s''/\I s''/\μ s''<μ s) Q) s):AW P n (.loop c) Q s:=by
 intro Z κ a w r hn
 have hmin:∀a' w',(∃m s',Zcj n (λs'=>I s'/\μ s'=m) Z κ w a' w'/\s'=m)->True:=λ_ _ _=>trivial
 let J:Act->World->Nat->Prop:=λa' w' m=>Zcj n (λs'=>I s'/\μ s'=m) Z κ w a' w'
 let I':Act->World->Prop:=λa' w'=>∃m,J a' w' m
 have lst:∀a' w',I' a' w'->∃m,J a' w' m/\∀k,J a' w' k->m<=k:=by
  intro a' w' ⟨m,hm⟩
  induction m using Nat.strongRecOn with
  |_ m ih=>
   by_cases hex:∃k,k<m/\J a' w' k
   ·obtain⟨k,hk,hj⟩:=hex;exact ih k hk hj
   ·exact⟨m,hm,λk hk=>Nat.le_of_not_lt λhlt=>hex ⟨k,hlt,hk⟩⟩
 let μ':Act->World->Nat:=λa' w'=>Classical.epsilon λm=>J a' w' m/\∀k,J a' w' k->m<=k
 have hμ:∀a' w',I' a' w'->J a' w' (μ' a' w')/\∀k,J a' w' k->μ' a' w'<=k:=λa' w' hi=>Classical.epsilon_spec (lst a' w' hi)
 refine wp_loop I' μ' ⟨μ s,s,Z,κ,⟨h0,rfl⟩,r,.refl _ _ _,.refl _ _,hn⟩ λa' w' hi=> ?_
 obtain⟨⟨s1,Z1,κ1,⟨hI,hm⟩,r1,e1,st1,n1⟩,hle⟩:=hμ a' w' hi
 refine wp_mono (hr s1 hI Z1 κ1 a' w' r1 n1) λe a2 w2 ha=> ?_
 have ha:=ha.trans e1 st1
 cases e with
 |normal=>
  obtain⟨s2,Z2,κ2,⟨s3,hwk,hI3,hlt⟩,r2,e2,st2,n2⟩:=ha
  obtain⟨κ3,r3,e3,st3,n3⟩:=hwk Z2 κ2 a2 w2 r2 n2
  have hj:J a2 w2 (μ s3):=⟨s3,Z2,κ3,⟨hI3,rfl⟩,r3,e2.trans e3,st2.trans st3,n3⟩
  refine⟨⟨_,hj⟩,?_⟩
  have:=(hμ a2 w2 ⟨_,hj⟩).2 _ hj
  omega
 |exit id=>exact ha
 |goto l=>exact ha
 |ret=>exact ha
 |panic ch=>exact ha
 |outgrown=>exact ha
theorem AW.loopFW {α:Type} {n:Nat} {c:Code} {Q:Exit->Zc->Prop} {s:Zc} (S:α->Zc) (μ:α->Nat) (good:α->Prop) (x0:α) (h0:Wk n s (S x0)) (g0:good x0)
  (hr:∀x,good x->AW P n c (Zfb (λs'=>∃x',Wk n s' (S x')/\good x'/\μ x'<μ x) Q) (S x)):AW P n (.loop c) Q s:=by
 refine AW.wk h0 ?_
 let I:Zc->Prop:=λs=>∃x,good x/\S x=s
 let M:Zc->Nat->Prop:=λs m=>∃x,good x/\S x=s/\μ x=m
 have lst:∀s,I s->∃m,M s m/\∀k,M s k->m<=k:=by
  rintro s ⟨x,hg,hs⟩
  have:∀m,M s m->∃m,M s m/\∀k,M s k->m<=k:=by
   intro m
   induction m using Nat.strongRecOn with
   |_ m ih=>
    intro hm
    by_cases hex:∃k,k<m/\M s k
    ·obtain⟨k,hk,hj⟩:=hex;exact ih k hk hj
    ·exact⟨m,hm,λk hk=>Nat.le_of_not_lt λhlt=>hex ⟨k,hlt,hk⟩⟩
  exact this (μ x) ⟨x,hg,hs,rfl⟩
 let μ':Zc->Nat:=λs=>Classical.epsilon λm=>M s m/\∀k,M s k->m<=k
 have hμ:∀s,I s->M s (μ' s)/\∀k,M s k->μ' s<=k:=λs hi=>Classical.epsilon_spec (lst s hi)
 refine AW.loop I μ' ⟨x0,g0,rfl⟩ λs hi=> ?_
 obtain⟨⟨x,hg,hs,hm⟩,_⟩:=hμ s hi
 subst hs
 intro Z κ a w r hn
 refine wp_mono (hr x hg Z κ a w r hn) λe a' w' ha=>ha.mono λs2 h2=> ?_
 cases e with
 |normal=>
  obtain⟨x',hw,hg',hlt⟩:=h2
  refine⟨S x',hw,⟨x',hg',rfl⟩,?_⟩
  have:=(hμ (S x') ⟨x',hg',rfl⟩).2 _ ⟨x',hg',rfl,rfl⟩
  omega
 |exit id=>exact h2
 |goto l=>exact h2
 |ret=>exact h2
 |panic ch=>exact h2
 |outgrown=>exact h2
theorem AW.loopF {α:Type} {n:Nat} {lit:TypeId->Bool} {c:Code} {Q:Exit->Zc->Prop} {s:Zc} (S:α->Zc) (μ:α->Nat) (good:α->Prop) (x0:α) (h0:Wk n s (S x0)) (g0:good x0)
  (hr:∀x,good x->AX P lit n c (Zfb (λs'=>∃x',Wk n s' (S x')/\good x'/\μ x'<μ x) Q) (S x)):AW P n (.loop c) Q s:=AW.loopFW S μ good x0 h0 g0 λx hx=>Zck c _ _ (hr x hx)
end Go.Cx
