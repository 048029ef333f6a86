import Derived.Test.YtgpkaoombhobmaaGreatJBe
import Derived.Test.YtgpkaoombhobmaaGreatJP1
import Derived.Laws.FloatArith
import Derived.Sort.Grow
import Derived.KernelRfl
import Derived.CallsIn
import Derived.Below
import Derived.RangeFuncWrites
import Derived.Test.YtgpkaoombhobmaaGreatJBd
set_option linter.unusedVariables false
set_option linter.unusedSimpArgs false
namespace Go.Cx
@[simp high] theorem hd0_MsgR (c:MsgR):(c.enc).head? =some (I c.kind)/\c.enc[0]? =some (I c.kind)/\c.enc[1]? =some (I c.client)/\c.enc[2]? =some (I c.epoch)/\c.enc[3]? =some (I c.seq)/\c.enc[4]? =some (I c.n)/\c.enc[5]? =some (I c.stamp)/\c.enc[6]? =some (I c.c.kind)/\c.enc[7]? =some (I c.c.ino)/\c.enc[8]? =some (I c.c.to_)/\c.enc[9]? =some (I c.c.at_)/\c.enc[10]? =some (I c.c.many)/\c.enc[11]? =some (S c.c.name)/\c.enc[12]? =some (S c.c.name2)/\c.enc[13]? =some (S c.c.text)/\(c.enc.drop 6).take 8=c.c.enc/\setMany [AV.val (Value.int IntKind.i64 0),AV.val (Value.int IntKind.i64 0),AV.val (Value.int IntKind.i64 0),AV.val (Value.int IntKind.i64 0),AV.val (Value.int IntKind.i64 0),AV.val (Value.int IntKind.i64 0),AV.val (Value.int IntKind.i64 0),AV.val (Value.int IntKind.i64 0),AV.val (Value.int IntKind.i64 0),AV.val (Value.int IntKind.i64 0),AV.val (Value.int IntKind.i64 0),AV.val (Value.string ByteArray.empty),AV.val (Value.string ByteArray.empty),AV.val (Value.string ByteArray.empty)] 0 c.enc=c.enc:=⟨rfl,rfl,rfl,rfl,rfl,rfl,rfl,rfl,rfl,rfl,rfl,rfl,rfl,rfl,rfl,rfl,rfl⟩
@[simp high] theorem hd0_RspR (c:RspR):(c.enc).head? =some (I c.kind)/\c.enc[0]? =some (I c.kind)/\c.enc[1]? =some (I c.client)/\c.enc[2]? =some (I c.epoch)/\c.enc[3]? =some (I c.seq)/\c.enc[4]? =some (I c.n)/\c.enc[5]? =some (I c.r.e)/\c.enc[6]? =some (I c.r.a)/\c.enc[7]? =some (I c.r.b)/\c.enc[8]? =some (I c.r.n)/\c.enc[9]? =some (S c.r.text)/\c.enc[10]? =some (enc1 S c.r.names)/\(c.enc.drop 5).take 6=c.r.enc/\setMany [AV.val (Value.int IntKind.i64 0),AV.val (Value.int IntKind.i64 0),AV.val (Value.int IntKind.i64 0),AV.val (Value.int IntKind.i64 0),AV.val (Value.int IntKind.i64 0),AV.val (Value.int IntKind.i64 0),AV.val (Value.int IntKind.i64 0),AV.val (Value.int IntKind.i64 0),AV.val (Value.int IntKind.i64 0),AV.val (Value.string ByteArray.empty),AV.sl true 0 []] 0 c.enc=c.enc:=⟨rfl,rfl,rfl,rfl,rfl,rfl,rfl,rfl,rfl,rfl,rfl,rfl,rfl,rfl⟩
@[simp] theorem MsgR.one (c:MsgR):c.enc.all Zy=true:=rfl
@[simp high] theorem lenc_MsgR (x:MsgR):x.enc.length=14:=rfl
@[simp high] theorem takec_MsgR (x:MsgR):x.enc.take 14=x.enc:=List.take_of_length_le (Nat.le_refl _)
@[simp] theorem RspR.one (c:RspR):c.enc.all Zy=true:=rfl
@[simp high] theorem lenc_RspR (x:RspR):x.enc.length=11:=rfl
@[simp high] theorem takec_RspR (x:RspR):x.enc.take 11=x.enc:=List.take_of_length_le (Nat.le_refl _)
def chgS (x:NodeR×Bool) (q:Int):ChangeR:=if x.2=false then⟨q,true,.zero⟩ else⟨q,false,x.1⟩
theorem Zme {l:List NodeR} {q:Int} (h:(findB l q).2=false):findB l q=(.zero,false):=Prod.ext (ZaB h) h
theorem Zjv {f g:FSR} {q:Int} (hq:(findB f.l q).2=true\/(findB g.l q).2=true):changeS f g q=if findB f.l q=findB g.l q then[] else[chgS (findB g.l q) q]:=by
 unfold changeS chgS
 by_cases h1:(findB g.l q).2=false
 ·rw[if_pos h1,if_neg,if_pos h1]
  intro e
  rcases hq with hq|hq
  ·rw[e,h1] at hq;cases hq
  ·rw[h1] at hq;cases hq
 ·have h1':(findB g.l q).2=true:=by simpa using h1
  rw[if_neg h1,if_neg h1]
  by_cases h2:(findB f.l q).2=false\/(findB f.l q).1≠(findB g.l q).1
  ·rw[if_pos h2,if_neg]
   intro e
   rcases h2 with h2|h2
   ·rw[e,h1'] at h2;cases h2
   ·exact h2 (congrArg Prod.fst e)
  ·rw[if_neg h2,if_pos]
   simp only[not_or,ne_eq,Decidable.not_not,Bool.not_eq_false] at h2
   exact Prod.ext h2.2 (h2.1.trans h1'.symm)
theorem ZhW {f g:FSR} (hf:Zi f) (hg:Zi g) (c:ChangeR):c∈changesS f g↔∃q,findB f.l q≠findB g.l q/\c=chgS (findB g.l q) q:=by
 have hm:∀q,q∈numsS (f.l.map (·.ino)++g.l.map (·.ino))↔(findB f.l q).2=true\/(findB g.l q).2=true:=λq=>by
  rw[(Zae _).2,List.mem_append,List.mem_map,List.mem_map]
  refine⟨λh=>h.imp ?_ ?_,λh=>h.imp ?_ ?_⟩
  ·rintro⟨n,hn,rfl⟩;rw[findB_of hf.rise hn]
  ·rintro⟨n,hn,rfl⟩;rw[findB_of hg.rise hn]
  ·exact λh=>⟨_,(Zm h).1,(Zm h).2⟩
  ·exact λh=>⟨_,(Zm h).1,(Zm h).2⟩
 unfold changesS
 rw[List.mem_flatMap]
 constructor
 ·rintro⟨q,hq,hc⟩
  rw[Zjv ((hm q).1 hq)] at hc
  split at hc
  ·cases hc
  ·rename_i n
   exact⟨q,n,by simpa using hc⟩
 ·rintro⟨q,hq,rfl⟩
  have hq':(findB f.l q).2=true\/(findB g.l q).2=true:=by
   cases h1:(findB f.l q).2 with
   |true=>exact .inl rfl
   |false=>
    cases h2:(findB g.l q).2 with
    |true=>exact .inr rfl
    |false=>exact absurd ((Zme h1).trans (Zme h2).symm) hq
  exact⟨q,(hm q).2 hq',by rw[Zjv hq',if_neg hq];simp⟩
theorem Zgw (f g:FSR):Zo ChangeR.ino (changesS f g)=true:=by
 rw[Zu]
 unfold changesS
 rw[List.pairwise_flatMap]
 have hi:∀q,∀c∈changeS f g q,c.ino=q:=λq c hc=>by
  unfold changeS at hc
  split at hc
  ·simp only[List.mem_cons,List.not_mem_nil,or_false] at hc;rw[hc]
  ·split at hc
   ·simp only[List.mem_cons,List.not_mem_nil,or_false] at hc;rw[hc]
   ·cases hc
 constructor
 ·intro q _
  have:=ZhC f g q
  generalize changeS f g q=l at*
  match l,this with
  |[],_=>simp
  |[a],_=>simp
 ·have:=(Zu idI _).1 (Zae (f.l.map (·.ino)++g.l.map (·.ino))).1
  refine this.imp fun{a b} hab x hx y hy=> ?_
  rw[hi a x hx,hi b y hy];exact hab
theorem ZnJ {f g f' g':FSR} (hf:Zi f) (hg:Zi g) (hf':Zi f') (hg':Zi g') (h:∀q,(findB f.l q=findB g.l q/\findB f'.l q=findB g'.l q)\/(findB f.l q=findB f'.l q/\findB g.l q=findB g'.l q)):changesS f g=changesS f' g':=by
 refine ZaE ChangeR.ino (Zgw f g) (Zgw f' g') λc=> ?_
 rw[ZhW hf hg,ZhW hf' hg']
 constructor
 ·rintro⟨q,hq,rfl⟩
  rcases h q with⟨a,_⟩|⟨a,b⟩
  ·exact absurd a hq
  ·exact⟨q,by rw[<-a,<-b];exact hq,by rw[b]⟩
 ·rintro⟨q,hq,rfl⟩
  rcases h q with⟨_,a⟩|⟨a,b⟩
  ·exact absurd a hq
  ·exact⟨q,by rw[a,b];exact hq,by rw[b]⟩
structure Born (s:StoreR) (t:TxnR):Prop where
 calls:∃l,t=(stepsS (at0 s t.stamp) l).1
 s1:1<=t.stamp
 stamp:t.stamp<=s.stamp
 rows:Zi (viewS s t.stamp)
 tree:ZK (viewS s t.stamp)
 next:(viewS s t.stamp).next<=(viewS s s.stamp).next
theorem Zjw:∀(l:List Zj) (t:TxnR) (c:Zj),(stepsS t (l++[c])).1=(stepS (stepsS t l).1 c).1
 |[],t,c=>rfl
 |a::l,t,c=>Zjw l (stepS t a).1 c
theorem Born.step {s:StoreR} {t:TxnR} (h:Born s t) (c:Zj):Born s (stepS t c).1:=by
 obtain⟨l,e⟩:=h.calls
 refine⟨⟨l++[c],?_⟩,h.s1,h.stamp,h.rows,h.tree,h.next⟩
 rw[Zjw]
 show(stepS t c).1=(stepS (stepsS (at0 s t.stamp) l).1 c).1
 rw[<-e]
theorem Born.txn {s:StoreR} {t:TxnR} (h:Born s t):TxnP t:=by
 obtain⟨l,e⟩:=h.calls
 have Tb:TxnP (at0 s t.stamp):=⟨h.rows,h.tree,h.rows,h.tree,Int.le_refl _,h.s1,rfl,by simp[at0]⟩
 rw[e];exact(Zbg l Tb).1
structure Done (k:StoreR) (t:TxnR) (k':StoreR):Prop where
 right:ZD k'
 stamp:k'.stamp=k.stamp+1
 rows:Zi (viewS k' k'.stamp)
 tree:ZK (viewS k' k'.stamp)
 next:(viewS k' k'.stamp).next=max (viewS k k.stamp).next t.now.next
 changes:changesS (viewS k k.stamp) (viewS k' k'.stamp)=changesS t.was t.now
 old:∀st,st<=k.stamp->viewS k' st=viewS k st
theorem ZnK {k:StoreR} (hP:ZD k) (R':Zi (viewS k k.stamp)) (T':ZK (viewS k k.stamp)) {t:TxnR} (h:Born k t) (hc:Zbd k t=false) (hq:t.was≠t.now):commitS k t=(installS k (changesS t.was t.now) t.now.next,0)/\Done k t (installS k (changesS t.was t.now) t.now.next):=by
 refine⟨by unfold commitS;rw[if_neg hq,hc,if_neg (by simp)],?_⟩
 have X:=h.txn
 obtain⟨c1,c2⟩:=Zah X.wrows X.nrows
 have V:=Zbl hP c2 (Zbh X.nrows) (next:=t.now.next)
 obtain⟨l,e⟩:=h.calls
 have S:=serialK hP h.s1 h.stamp h.rows h.tree R' T' h.next l (by rw[<-e];exact hc) (by rw[<-e];exact hq)
 rw[<-e] at S
 obtain⟨_,s2,s3⟩:=S
 obtain⟨K1,K2,_⟩:=ZhK l (viewS k k.stamp) R' T'
 have ev:viewS (installS k (changesS t.was t.now) t.now.next) (installS k (changesS t.was t.now) t.now.next).stamp=(playS (viewS k k.stamp) l).1:=s2
 refine⟨Zde hP c2,rfl,by rw[ev];exact K1,by rw[ev];exact K2,?_,?_,λst hst=>Zpu hst⟩
 ·show(viewS _ (k.stamp+1)).next=_
  rw[V]
  exact(ZcQ X.wrows X.nrows (ZdF hP k.stamp)).2.2
 ·rw[ev]
  exact ZnJ R' K1 X.wrows X.nrows λq=>(s3 q).imp (λg=>⟨g.1,g.2⟩) λg=>⟨g.1,g.2⟩
theorem Born.later {k k':StoreR} {t u:TxnR} (h:Born k t) (D:Done k u k'):Born k' t:=by
 obtain⟨l,e⟩:=h.calls
 have ev:=D.old t.stamp h.stamp
 refine⟨⟨l,by unfold at0;rw[ev];exact e⟩,h.s1,by rw[D.stamp];have:=h.stamp;omega,by rw[ev];exact h.rows,by rw[ev];exact h.tree,?_⟩
 rw[ev,D.next]
 have:=h.next
 omega
theorem Born.new {s:StoreR} (h:ZD s) (R:Zi (viewS s s.stamp)) (T:ZK (viewS s s.stamp)):Born s (beginS s):=⟨⟨[],rfl⟩,h.stamp,Int.le_refl _,R,T,Int.le_refl _⟩
structure Zmf (h:HostR) (i:Nat) (o:OpenR):Prop where
 born:Born h.s o.t
 next:o.t.now.next<=2+i
 looks:o.t.looks.length<=7*i
 n:o.n<=i
 until_:o.until_=h.lease
structure Zci (h:HostR) (i:Nat):Prop where
 host:Ziw h
 few:ZaL (10+513*i) h.s
 next:(viewS h.s h.s.stamp).next<=2+i
 stamp:h.s.stamp<=1+i
 now:h.now=0
 open_:∀o∈h.opens,Zmf h i o
theorem Zmf.more {h:HostR} {i:Nat} {o:OpenR} (A:Zmf h i o):Zmf h (i+1) o:=⟨A.born,by have:=A.next;omega,by have:=A.looks;omega,by have:=A.n;omega,A.until_⟩
theorem Zci.more {h:HostR} {i:Nat} (A:Zci h i):Zci h (i+1):=⟨A.host,A.few.mono (by omega),by have:=A.next;omega,by have:=A.stamp;omega,A.now,λo ho=>(A.open_ o ho).more⟩
theorem Zci.rows {h:HostR} {i:Nat} (A:Zci h i) {rows:List RowR} (R:Zas rows):Zci {h with rows:=rows} i:=
 ⟨⟨A.host.store,A.host.vrows,A.host.vtree,R,A.host.few,A.host.rise,λo ho=>⟨(A.host.open_ o ho).client,(A.host.open_ o ho).epoch,(A.host.open_ o ho).seq,(A.host.open_ o ho).n,(A.host.open_ o ho).t,(A.host.open_ o ho).stamp⟩,A.host.now,A.host.lease⟩,A.few,A.next,A.stamp,A.now,λo ho=>⟨(A.open_ o ho).born,(A.open_ o ho).next,(A.open_ o ho).looks,(A.open_ o ho).n,(A.open_ o ho).until_⟩⟩
theorem Zci.with {h:HostR} {i:Nat} (A:Zci h i) {o:OpenR} (P:OpenP h o) (O:Zmf h i o) (hl:(putS OpenR.client h.opens o).length<=64):Zci (withO h o) i:=by
 obtain⟨p1,p2⟩:=putS_spec OpenR.client A.host.rise o
 have key:∀x∈(withO h o).opens,OpenP (withO h o) x/\Zmf (withO h o) i x:=λx hx=>by
  rcases(p2 x).1 hx with rfl|⟨hx,_⟩
  ·exact⟨⟨P.client,P.epoch,P.seq,P.n,P.t,P.stamp⟩,⟨O.born,O.next,O.looks,O.n,O.until_⟩⟩
  ·have P:=A.host.open_ x hx
   have O:=A.open_ x hx
   exact⟨⟨P.client,P.epoch,P.seq,P.n,P.t,P.stamp⟩,⟨O.born,O.next,O.looks,O.n,O.until_⟩⟩
 exact⟨⟨A.host.store,A.host.vrows,A.host.vtree,A.host.rows,hl,p1,λx hx=>(key x hx).1,A.host.now,A.host.lease⟩,A.few,A.next,A.stamp,A.now,λx hx=>(key x hx).2⟩
theorem bad_not {l:List RowR} {c e n:Int} (h:(askS l c e n).2=6):0<=c/\1<=e/\1<=n:=by
 obtain⟨a,b,d⟩:=ZdY (Zkn h).1
 omega
theorem try_cases {h:HostR} {m:MsgR}:((tryS h m).1=h.s)\/∃o,findO h m.client=some o/\m.kind=3/\isO o m=true/\lateO h o m=false/\o.n=m.n/\(commitS h.s o.t).2=0/\tryS h m=((commitS h.s o.t).1,true):=by
 unfold tryS
 split
 ·exact .inl rfl
 ·rename_i o ho
  split
  ·rename_i q
   obtain⟨q1,q2,q3,q4,q5⟩:=q
   exact .inr ⟨o,ho,q1,q2,q3,q4,q5,rfl⟩
  ·exact .inl rfl
theorem Zci.answer {h:HostR} {i:Nat} (A:Zci h i) (hi:i<=1000000) (m:MsgR):Zci (answerS h m).1 (i+1):=by
 have M:=A.more
 unfold answerS
 split
 ·exact M.rows (ZlF A.host.rows _ _ _)
 split
 ·exact M
 split
 ·exact M
 split
 ·exact M
 rename_i a1 a2 a3 a4
 have a6:(askS h.rows m.client m.epoch m.seq).2=6:=by omega
 obtain⟨b1,b2,b3⟩:=bad_not a6
 have hnew:OpenP h (openS h m)/\Zmf h (i+1) (openS h m):=by
  have B:=Born.new A.host.store A.host.vrows A.host.vtree
  refine⟨⟨b1,b2,b3,Int.le_refl _,B.txn,Int.le_refl _⟩,⟨B,?_,by show([]:List Int).length<=_;simp,by show(0:Int)<=_;omega,?_⟩⟩
  ·have:=M.next
   exact this
  ·show h.now+h.lease=h.lease
   rw[A.now];omega
 have hlen:=λo=>Zda OpenR.client A.host.rise o
 split
 ·unfold beginH
  split
  ·split
   ·exact M
   ·rename_i hf hl
    refine M.with hnew.1 hnew.2 ?_
    rw[hlen]
    split<;>omega
  ·rename_i o hf
   split
   ·exact M
   split
   ·exact M
   ·refine M.with hnew.1 hnew.2 ?_
    rw[hlen]
    have hf':Zak OpenR.client h.opens (openS h m).client=some o:=hf
    rw[hf']
    exact A.host.few
 split
 ·unfold callS
  split
  ·exact M
  rename_i c0
  obtain⟨o,ho,oi,ol,on⟩:=Zpw (by simpa using c0:mayCallS h m=0)
  rw[ho]
  simp only
  split
  ·exact M
  rename_i hne
  obtain⟨hom,hoc⟩:=ZC OpenR.client ho
  have P:=A.host.open_ o hom
  have O:=A.open_ o hom
  have hn1:=(Zcu P.t.nrows P.t.ntree m.c).next.2
  have hw1:w64 (o.n+1)=o.n+1:=Zh (by have:=P.n;omega) (by have:=O.n;omega)
  rw[hw1] at on
  have hl1:(stepS o.t m.c).1.looks.length<=o.t.looks.length+7*1:=(Zbg [m.c] P.t).2.2
  refine M.with (o:=ZrG h o m) ⟨P.client,P.epoch,P.seq,?_,Zga P.t m.c,P.stamp⟩ ⟨O.born.step m.c,?_,?_,?_,?_⟩ ?_
  ·show 0<=m.n
   have:=P.n;omega
  ·show(doS o.t.now m.c).1.next<=_
   have:=O.next;omega
  ·show(stepS o.t m.c).1.looks.length<=_
   have:=O.looks;omega
  ·show m.n<=_
   have:=O.n;omega
  ·show h.now+h.lease=h.lease
   rw[A.now];omega
  ·rw[hlen]
   have hf':Zak OpenR.client h.opens (ZrG h o m).client=some o:=by
    show Zak OpenR.client h.opens o.client=some o
    rw[hoc];exact ho
   rw[hf']
   exact A.host.few
 ·unfold decideH
  split
  ·exact M
  split
  ·exact M
  have RD:=ZlE A.host.rows m.client m.epoch m.seq (tryS h m).2
  have hs:∃s',(tryS h m).1=s'/\ZD s'/\Zi (viewS s' s'.stamp)/\ZK (viewS s' s'.stamp)/\ZaL (10+513*(i+1)) s'/\(viewS s' s'.stamp).next<=2+(i+1:Nat)/\s'.stamp<=1+(i+1:Nat)/\h.s.stamp<=s'.stamp/\∀o∈h.opens,Born s' o.t:=by
   have same:(tryS h m).1=h.s->∃s',(tryS h m).1=s'/\ZD s'/\Zi (viewS s' s'.stamp)/\ZK (viewS s' s'.stamp)/\ZaL (10+513*(i+1)) s'/\(viewS s' s'.stamp).next<=2+(i+1:Nat)/\s'.stamp<=1+(i+1:Nat)/\h.s.stamp<=s'.stamp/\∀o∈h.opens,Born s' o.t:=λe=>
    ⟨h.s,e,A.host.store,A.host.vrows,A.host.vtree,M.few,M.next,M.stamp,Int.le_refl _,λo ho=>(A.open_ o ho).born⟩
   rcases try_cases (h:=h) (m:=m) with e|⟨o,ho,k3,oi,ol,on,ce,te⟩
   ·exact same e
   ·obtain⟨hom,hoc⟩:=ZC OpenR.client ho
    have O:=A.open_ o hom
    by_cases q:o.t.was=o.t.now
    ·exact same (by rw[te];unfold commitS;rw[if_pos q])
    ·have hc:Zbd h.s o.t=false:=by
      cases hc:Zbd h.s o.t with
      |false=>rfl
      |true=>
       unfold commitS at ce
       rw[if_neg q,hc,if_pos rfl] at ce
       exact absurd ce (by simp)
     obtain⟨e,D⟩:=ZnK A.host.store A.host.vrows A.host.vtree O.born hc q
     have CR:=(ZdE A.host.store A.few O.born.txn).2.1
     rw[e] at te CR
     rw[te]
     refine⟨_,rfl,D.right,D.rows,D.tree,CR.mono (by omega),?_,?_,?_,λx hx=>(A.open_ x hx).born.later D⟩
     ·simp only
      rw[D.next]
      have:=A.next;have:=O.next;omega
     ·simp only
      rw[D.stamp]
      have:=A.stamp;omega
     ·simp only
      rw[D.stamp];omega
  obtain⟨s',e,g1,g2,g3,g4,g5,g6,g7,g8⟩:=hs
  have hsub:∀o∈(Zbw h m).opens,o∈h.opens:=λo ho=>by
   unfold Zbw at ho
   simp only at ho
   split at ho
   ·exact(List.mem_filter.1 ho).1
   ·exact ho
  have hrise:Zo OpenR.client (Zbw h m).opens=true:=by
   unfold Zbw
   simp only
   split
   ·exact Zar OpenR.client A.host.rise _
   ·exact A.host.rise
  have hfew:(Zbw h m).opens.length<=64:=by
   unfold Zbw
   simp only
   split
   ·exact Nat.le_trans (List.length_filter_le _ _) A.host.few
   ·exact A.host.few
  have es:(Zbw h m).s=s':=e
  have key:∀o∈(Zbw h m).opens,OpenP (Zbw h m) o/\Zmf (Zbw h m) (i+1) o:=λo ho=>by
   have P:=A.host.open_ o (hsub o ho)
   have O:=(A.open_ o (hsub o ho)).more
   refine⟨⟨P.client,P.epoch,P.seq,P.n,P.t,?_⟩,⟨?_,O.next,O.looks,O.n,O.until_⟩⟩
   ·rw[es];have:=P.stamp;omega
   ·rw[es];exact g8 o (hsub o ho)
  refine⟨⟨?_,?_,?_,RD,hfew,hrise,λo ho=>(key o ho).1,A.host.now,A.host.lease⟩,?_,?_,?_,A.now,λo ho=>(key o ho).2⟩
  ·rw[es];exact g1
  ·rw[es];exact g2
  ·rw[es];exact g3
  ·rw[es];exact g4
  ·rw[es];exact g5
  ·rw[es];exact g6
theorem host0 {s:StoreR} (hP:ZD s) (hb:ZaL 10 s) (R:Zi (viewS s s.stamp)) (T:ZK (viewS s s.stamp)) (hn:(viewS s s.stamp).next<=2) (hs:s.stamp<=1) {lease:Int} (hl:1<=lease):Zci ⟨s,[],[],0,lease⟩ 0:=
 ⟨⟨hP,R,T,.nil,by simp,rfl,by simp,Int.le_refl _,hl⟩,hb,by simpa using hn,by simpa using hs,rfl,by simp⟩
structure Near (h:HostR) (B:Nat) (N:Int):Prop where
 vers:ZaL B h.s
 stamp:h.s.stamp<=N
 next:(viewS h.s h.s.stamp).next<=N
 opens:∀o∈h.opens,o.t.now.next<=N/\o.t.looks.length<=B
theorem Near.more {h:HostR} {B:Nat} {N:Int} (X:Near h B N):Near h (B+513) (N+1):=⟨X.vers.mono (by omega),by have:=X.stamp;omega,by have:=X.next;omega,λo ho=>by have:=X.opens o ho;omega⟩
theorem Near.with {h:HostR} {B:Nat} {N:Int} (X:Near h B N) (hr:Zo OpenR.client h.opens=true) {o:OpenR} (ho:o.t.now.next<=N/\o.t.looks.length<=B):Near (withO h o) B N:=
 ⟨X.vers,X.stamp,X.next,λx hx=>by
  rcases((putS_spec OpenR.client hr o).2 x).1 hx with rfl|⟨hx,_⟩
  ·exact ho
  ·exact X.opens x hx⟩
theorem Zez {h:HostR} (H:Ziw h) {B:Nat} {N:Int} (X:Near h B N) {o:OpenR} (ho:o∈h.opens):ZaL (B+513) (commitS h.s o.t).1/\(commitS h.s o.t).1.stamp<=N+1/\(viewS (commitS h.s o.t).1 (commitS h.s o.t).1.stamp).next<=N+1:=by
 have T:=(H.open_ o ho).t
 obtain⟨_,h2,h3⟩:=ZdE H.store X.vers T
 refine⟨h2,?_⟩
 rcases h3 with e|⟨_,_,e⟩
 ·rw[e];have:=X.stamp;have:=X.next;omega
 ·rw[e]
  obtain⟨c1,c2⟩:=Zah T.wrows T.nrows
  have V:=Zbl H.store c2 (Zbh T.nrows) (next:=o.t.now.next)
  have e2:(installS h.s (changesS o.t.was o.t.now) o.t.now.next).stamp=h.s.stamp+1:=rfl
  rw[e2]
  have V':viewS (installS h.s (changesS o.t.was o.t.now) o.t.now.next) (h.s.stamp+1)=applyS (viewS h.s h.s.stamp) (changesS o.t.was o.t.now) o.t.now.next:=V
  rw[V',(ZcQ T.wrows T.nrows (ZdF H.store h.s.stamp)).2.2]
  have:=X.stamp;have:=X.next;have:=(X.opens o ho).1
  omega
theorem ZeA {h:HostR} (H:Ziw h) {B:Nat} {N:Int} (X:Near h B N) (m:MsgR):Near (answerS h m).1 (B+513) (N+1)/\(answerS h m).1.now=h.now/\(answerS h m).1.lease=h.lease:=by
 have M:=X.more
 unfold answerS
 split
 ·exact⟨⟨M.vers,M.stamp,M.next,M.opens⟩,rfl,rfl⟩
 split
 ·exact⟨M,rfl,rfl⟩
 split
 ·exact⟨M,rfl,rfl⟩
 split
 ·exact⟨M,rfl,rfl⟩
 have hnew:(openS h m).t.now.next<=N+1/\(openS h m).t.looks.length<=B+513:=⟨M.next,by show([]:List Int).length<=_;simp⟩
 split
 ·unfold beginH
  split
  ·split
   ·exact⟨M,rfl,rfl⟩
   ·exact⟨M.with H.rise hnew,rfl,rfl⟩
  ·split
   ·exact⟨M,rfl,rfl⟩
   split
   ·exact⟨M,rfl,rfl⟩
   ·exact⟨M.with H.rise hnew,rfl,rfl⟩
 split
 ·unfold callS
  split
  ·exact⟨M,rfl,rfl⟩
  split
  ·exact⟨M,rfl,rfl⟩
  ·rename_i o ho
   split
   ·exact⟨M,rfl,rfl⟩
   ·obtain⟨hom,hoc⟩:=ZC OpenR.client ho
    have P:=H.open_ o hom
    have hn1:=(Zcu P.t.nrows P.t.ntree m.c).next.2
    have hl1:(stepS o.t m.c).1.looks.length<=o.t.looks.length+7*1:=(Zbg [m.c] P.t).2.2
    have hx:=X.opens o hom
    refine⟨M.with H.rise ⟨?_,?_⟩,rfl,rfl⟩
    ·show(doS o.t.now m.c).1.next<=_;omega
    ·show(stepS o.t m.c).1.looks.length<=_;omega
 ·unfold decideH
  split
  ·exact⟨M,rfl,rfl⟩
  split
  ·exact⟨M,rfl,rfl⟩
  refine⟨⟨?_,?_,?_,λo ho=> ?_⟩,rfl,rfl⟩
  ·rcases try_cases (h:=h) (m:=m) with e|⟨o,ho,_,_,_,_,_,te⟩
   ·show ZaL _ (tryS h m).1;rw[e];exact M.vers
   ·show ZaL _ (tryS h m).1;rw[te];exact(Zez H X (ZC OpenR.client ho).1).1
  ·rcases try_cases (h:=h) (m:=m) with e|⟨o,ho,_,_,_,_,_,te⟩
   ·show(tryS h m).1.stamp<=_;rw[e];exact M.stamp
   ·show(tryS h m).1.stamp<=_;rw[te];exact(Zez H X (ZC OpenR.client ho).1).2.1
  ·rcases try_cases (h:=h) (m:=m) with e|⟨o,ho,_,_,_,_,_,te⟩
   ·show(viewS (tryS h m).1 (tryS h m).1.stamp).next<=_;rw[e];exact M.next
   ·show(viewS (tryS h m).1 (tryS h m).1.stamp).next<=_;rw[te];exact(Zez H X (ZC OpenR.client ho).1).2.2
  ·have:o∈h.opens:=by
    unfold Zbw at ho
    simp only at ho
    split at ho
    ·exact(List.mem_filter.1 ho).1
    ·exact ho
   exact M.opens o this
def sto0:StoreR:=⟨[⟨1,[⟨1,false,⟨1,2,0,.empty,[]⟩⟩]⟩],[⟨1,2⟩],1⟩
theorem ZpY:ZD sto0:=by
 have hn:nodeOk ⟨1,2,0,.empty,[]⟩=true:=by decide+kernel
 refine⟨by decide,λc hc=> ?_,by simp[sto0],by simp[sto0],by simp[sto0],λc hc=> ?_⟩
 ·simp only[sto0,List.mem_cons,List.not_mem_nil,or_false] at hc
  subst hc
  refine⟨by decide,by simp,by simp,λv hv=> ?_,λv hv=> ?_⟩
  ·simp only[List.mem_cons,List.not_mem_nil,or_false] at hv
   subst hv;decide
  ·simp only[List.mem_cons,List.not_mem_nil,or_false] at hv
   subst hv
   exact⟨λh=>(by cases h),λ_=>⟨hn,rfl⟩⟩
 ·simp only[sto0,List.mem_cons,List.not_mem_nil,or_false] at hc
  subst hc;decide
theorem ZvZ:ZaL 10 sto0:=⟨by decide,by decide,by decide+kernel,by decide+kernel⟩
theorem stoV:viewS sto0 sto0.stamp=newF:=by decide+kernel
theorem newR:Zi newF:=(ZgF newF).1 rowsN
theorem newP:ZK newF:=ZcM.tree newR ((Zfw newF).1 (by decide+kernel:rightF newF=true)).2
theorem alive0 {lease:Int} (hl:1<=lease):Zci ⟨sto0,[],[],0,lease⟩ 0:=
 host0 ZpY ZvZ (by rw[stoV];exact newR) (by rw[stoV];exact newP) (by rw[stoV];decide) (by decide) hl
def xm1:MsgR:=⟨1,1,1,1,0,0,⟨0,0,0,0,0,.empty,.empty,.empty⟩⟩
def xm2:MsgR:=⟨2,1,1,1,1,1,cA⟩
def xm3:MsgR:=⟨3,1,1,1,1,1,cA⟩
def xm4:MsgR:=⟨5,1,1,1,1,1,cA⟩
def xh0:HostR:=⟨sto0,[],[],0,5⟩
def xh1:=ZeM xh0 xm1
def xh2:=ZeM xh1.1 xm2
def xh3:=ZeM xh2.1 xm3
def xh4:=ZeM xh3.1 xm4
theorem xh_told:xh1.2.r.e=0/\xh1.2.r.a=1/\xh2.2.r.a=2/\xh3.2.r.e=0/\xh4.2.r.e=0/\xh3.1.s.stamp=2:=by decide+kernel
theorem alive_x:Zci xh0 0/\Zci xh1.1 1/\Zci xh2.1 2/\Zci xh3.1 3:=by
 have a0:Zci xh0 0:=alive0 (by decide)
 have a1:Zci xh1.1 1:=a0.answer (by omega) xm1
 have a2:Zci xh2.1 2:=a1.answer (by omega) xm2
 exact⟨a0,a1,a2,a2.answer (by omega) xm3⟩
end Go.Cx
namespace Go.Cx
variable {P:Program}
def ZlG:Nat->Code->Code×Code
 |0,.seq x y=>(x,y)
 |k+1,.seq x (.seq y z)=>(.seq x (ZlG k (.seq y z)).1,(ZlG k (.seq y z)).2)
 |_+1,.seq x y=>(x,y)
 |_,c=>(.skip,c)
theorem AW.mono {n:Nat} {c:Code} {Q Q':Exit->Zc->Prop} {s:Zc} (h:AW P n c Q s) (hk:∀e s,Q e s->Q' e s):AW P n c Q' s:=λZ κ a w r hn=>
 wp_mono (h Z κ a w r hn) λe a' w' ha=>ha.mono (hk e)
theorem AW.seqW {n:Nat} {x y:Code} {Q:Exit->Zc->Prop} {s:Zc} (hx:AW P n x (Zfb (AW P n y Q) Q) s):AW P n (.seq x y) Q s:=λZ κ a w r hn=>by
 refine wp_seq (wp_mono (hx Z κ a w r hn) λe a' w' ha=> ?_)
 cases e with
 |normal=>
  obtain⟨s',Z',κ',hq,r',ex,st,hn'⟩:=ha
  exact wp_mono (hq Z' κ' a' w' r' hn') λe2 a2 w2 h2=>h2.trans ex st
 |exit id=>exact ha
 |goto l=>exact ha
 |ret=>exact ha
 |panic ch=>exact ha
 |outgrown=>exact ha
theorem AW.blockW {n id:Nat} {c:Code} {Q:Exit->Zc->Prop} {s:Zc} (hx:AW P n c (Zbq id Q) s):AW P n (.block id c) Q s:=λZ κ a w r hn=>by
 refine wp_block (wp_mono (hx Z κ a w r hn) λe a' w' ha=> ?_)
 cases e with
 |exit id'=>
  show if id'=id then Zcj n (Q .normal) Z κ w a' w' else Zcj n (Q (.exit id')) Z κ w a' w'
  by_cases he:id'=id
  ·rw[if_pos he];exact ha.mono λs h=>by simpa[Zbq,he] using h
  ·rw[if_neg he];exact ha.mono λs h=>by simpa[Zbq,he] using h
 |normal=>exact ha
 |goto l=>exact ha
 |ret=>exact ha
 |panic ch=>exact ha
 |outgrown=>exact ha
theorem AW.splitA' {lit:TypeId->Bool} {n:Nat} {Q:Exit->Zc->Prop}:∀(k:Nat) (c:Code) {s:Zc},AX P lit n (ZlG k c).1 (Zfb (AW P n (ZlG k c).2 Q) Q) s->AW P n c Q s
 |0,c,s,h=>by
  cases c with
  |seq x y=>exact AW.seqA h
  |_=>exact h
 |k+1,c,s,h=>by
  cases c with
  |seq x y=>
   cases y with
   |seq y z=>
    refine AW.seqW (AW.mono (Zck (lit:=lit) x _ s h) λe s hs=> ?_)
    cases e with
    |normal=>exact AW.splitA' k _ hs
    |exit id=>exact hs
    |goto l=>exact hs
    |ret=>exact hs
    |panic ch=>exact hs
    |outgrown=>exact hs
   |_=>exact AW.seqA h
  |_=>exact h
end Go.Cx
set_option linter.unusedVariables false
set_option linter.unusedSimpArgs false
namespace Go.Cx
open Ieee
def FB (n:Nat):Nat:=FloatKind.f64.nearest (n:Int)
abbrev FL (n:Nat):AV:= .val (.float .f64 (FB n))
abbrev CL (a b:Nat):AV:= .val (.complex .f64 (FB a) (FB b))
theorem Zhy (way:Toward) (neg:Bool) (q drop:Nat) (h:drop<=(q*2^drop).log2+2\/q=0):way.cut neg (q*2^drop) drop=q:=by
 have key:∀g:Nat,0<g->(q*2^drop)%g=0->(q*2^drop)/g=q->(1<<<min drop ((q*2^drop).log2+2))=g->way.cut neg (q*2^drop) drop=q:=by
  intro g hg h1 h2 h3
  unfold Toward.cut
  simp only[h3,h1,h2]
  cases way<;>simp<;>omega
 rcases h with h|h
 ·refine key (2^drop) (Nat.two_pow_pos _) (by simp) (Nat.mul_div_cancel _ (Nat.two_pow_pos _)) ?_
  rw[Nat.min_eq_left h,Nat.shiftLeft_eq,Nat.one_mul]
 ·subst h
  refine key _ ?_ (by simp) (by simp) rfl
  rw[Nat.shiftLeft_eq,Nat.one_mul];exact Nat.two_pow_pos _
theorem ZlH {n:Nat} (h:n<2^53) (h0:0<n):n.log2<=52:=by
 have:=(Nat.log2_lt (by omega)).2 h
 omega
theorem Zko (n k:Nat) (h0:0<n):(n*2^k).log2=n.log2+k:=by
 rw[<-Nat.shiftLeft_eq]
 induction k with
 |zero=>simp
 |succ k ih=>
  have e:n<<<(k+1)=2*(n<<<k):=by rw[Nat.shiftLeft_eq,Nat.shiftLeft_eq,Nat.pow_succ,<-Nat.mul_assoc,Nat.mul_comm]
  have hp:0<n<<<k:=by rw[Nat.shiftLeft_eq];exact Nat.mul_pos h0 (Nat.two_pow_pos _)
  rw[e,Nat.log2_two_mul (by omega),ih];omega
theorem ZiY {n:Nat} (h:n<2^53) (h0:0<n) (k:Nat) (hk:k<=1074):
  double.nearest false (n*2^k) (-(k:Int))=(n.log2+1022)*2^52+n*2^(52 -n.log2):=by
 have hl:=ZlH h h0
 have hm:n*2^k≠0:=Nat.ne_of_gt (Nat.mul_pos h0 (Nat.two_pow_pos _))
 have hlp:double.leastPlace= -1074:=by decide
 have hlast:max (-(k:Int)+((n*2^k).log2:Nat) -(52:Nat)) (-1074)=(n.log2:Int) -52:=by
  rw[Zko n k h0];omega
 have hkept:Toward.even.cut false ((n*2^k)<<<(-(k:Int) -((n.log2:Int) -52)).toNat) (((n.log2:Int) -52) -(-(k:Int))).toNat=n*2^(52 -n.log2):=by
  rcases Nat.le_total k (52 -n.log2) with q|q
  ·have e1:(((n.log2:Int) -52) -(-(k:Int))).toNat=0:=by omega
   have e2:(-(k:Int) -((n.log2:Int) -52)).toNat=52 -n.log2 -k:=by omega
   have e3:(n*2^k)<<<(52 -n.log2 -k)=n*2^(52 -n.log2)*2^0:=by
    rw[Nat.pow_zero,Nat.mul_one,Nat.shiftLeft_eq,Nat.mul_assoc,<-Nat.pow_add,show k+(52 -n.log2 -k)=52 -n.log2 by omega]
   rw[e1,e2,e3]
   have:=Zhy .even false (n*2^(52 -n.log2)) 0 (.inl (by omega))
   simpa using this
  ·have e1:(((n.log2:Int) -52) -(-(k:Int))).toNat=k -(52 -n.log2):=by omega
   have e2:(-(k:Int) -((n.log2:Int) -52)).toNat=0:=by omega
   have e3:(n*2^k)<<<0=n*2^(52 -n.log2)*2^(k -(52 -n.log2)):=by
    rw[Nat.shiftLeft_zero,Nat.mul_assoc,<-Nat.pow_add,show 52 -n.log2+(k -(52 -n.log2))=k by omega]
   rw[e1,e2,e3]
   refine Zhy .even false _ _ (.inl ?_)
   rw[Zko _ _ (Nat.mul_pos h0 (Nat.two_pow_pos _))];omega
 have hfr:double.fractionBits=52:=rfl
 unfold Format.nearest
 rw[if_neg hm,hfr,hlp]
 simp only[hlast,hkept]
 have hb:double.binade=2^52:=rfl
 have hi:double.infRung=2047*2^52:=by decide
 have hlow:n*2^(52 -n.log2)<2^53:=by
  have h1:n<2^(n.log2+1):=Nat.lt_log2_self
  calc n*2^(52 -n.log2)<2^(n.log2+1)*2^(52 -n.log2):=Nat.mul_lt_mul_of_pos_right h1 (Nat.two_pow_pos _)
   _=2^53:=by rw[<-Nat.pow_add];congr 1;omega
 rw[hb,hi,show((n.log2:Int) -52 - -1074).toNat=n.log2+1022 by omega]
 simp only[Format.word,Bool.false_eq_true,if_false]
 rw[Nat.min_eq_left]
 omega
theorem FB_zero:FB 0=0:=by decide
theorem ZtT {n:Nat} (h:n<2^53) (h0:0<n):FB n=(n.log2+1022)*2^52+n*2^(52 -n.log2):=by
 have:=ZiY h h0 0 (by omega)
 simp only[Nat.pow_zero,Nat.mul_one] at this
 rw[<-this]
 have:decide ((n:Int)<0)=false:=by simp
 simp only[FB,FloatKind.nearest,FloatKind.encode,FloatKind.format,Format.write,this]
 congr 1
theorem Zdy {n:Nat} (h:n<2^53):∃k:Nat,k<=1074/\double.read (FB n)= .number false (n*2^k) (-(k:Int)):=by
 rcases Nat.eq_zero_or_pos n with h0|h0
 ·subst h0
  obtain⟨k,hk⟩:∃k:Nat,k=1074:=⟨_,rfl⟩
  exact⟨k,by omega,by rw[FB_zero,Nat.zero_mul,hk];rfl⟩
 have hl:=ZlH h h0
 refine⟨52 -n.log2,by omega,?_⟩
 have hlow:n*2^(52 -n.log2)<2^53:=by
  have h1:n<2^(n.log2+1):=Nat.lt_log2_self
  calc n*2^(52 -n.log2)<2^(n.log2+1)*2^(52 -n.log2):=Nat.mul_lt_mul_of_pos_right h1 (Nat.two_pow_pos _)
   _=2^53:=by rw[<-Nat.pow_add];congr 1;omega
 have hge:2^52<=n*2^(52 -n.log2):=by
  have h1:2^n.log2<=n:=Nat.log2_self_le (by omega)
  calc 2^52=2^n.log2*2^(52 -n.log2):=by rw[<-Nat.pow_add];congr 1;omega
   _<=n*2^(52 -n.log2):=Nat.mul_le_mul_right _ h1
 rw[ZtT h h0]
 generalize n*2^(52 -n.log2)=m at*
 have hs:double.signWeight=9223372036854775808:=rfl
 have hb:double.binade=4503599627370496:=rfl
 have hi:double.infRung=9218868437227405312:=by decide
 have hlp:double.leastPlace= -1074:=by decide
 have hp52:(2:Nat)^52=4503599627370496:=rfl
 have hp53:(2:Nat)^53=9007199254740992:=rfl
 simp only[Format.read,hs,hb,hi,hlp,hp52,hp53] at*
 generalize n.log2=L at*
 have e1:((L+1022)*4503599627370496+m)/9223372036854775808=0:=by omega
 have e2:((L+1022)*4503599627370496+m)%9223372036854775808=(L+1022)*4503599627370496+m:=by omega
 rw[e1,e2,if_neg (by omega),if_pos (by omega)]
 have e3:((L+1022)*4503599627370496+m)%4503599627370496=m -4503599627370496:=by omega
 have e4:((L+1022)*4503599627370496+m)/4503599627370496=L+1023:=by omega
 rw[e3,e4]
 have e5:4503599627370496+(m -4503599627370496)=m:=by omega
 rw[e5]
 have e6:(-1074:Int)+((L+1023 -1:Nat):Int)= -((52 -L:Nat):Int):=by omega
 rw[e6]
 rfl
theorem ZiZ (n k:Nat) (b:Int) (hb:b<= -(k:Int)):(n*2^k)<<<(-(k:Int) -b).toNat=n*2^(-b).toNat:=by
 rw[Nat.shiftLeft_eq,Nat.mul_assoc,<-Nat.pow_add]
 congr 2;omega
theorem ZgI {a b:Nat} (ha:a<2^53) (hb:b<2^53):double.order (FB a) (FB b)=some (compare a b):=by
 obtain⟨i,hi,h1⟩:=Zdy ha
 obtain⟨j,hj,h2⟩:=Zdy hb
 simp only[Format.order,h1,h2,Datum.order,signed,Bool.false_eq_true,if_false]
 rw[ZiZ a i _ (Int.min_le_left ..),ZiZ b j _ (Int.min_le_right ..)]
 generalize(-(min (-(i:Int)) (-(j:Int)))).toNat=k
 have hp:0<2^k:=Nat.two_pow_pos k
 congr 1
 rcases Nat.lt_trichotomy a b with h|h|h
 ·rw[Nat.compare_eq_lt.2 h]
  have:a*2^k<b*2^k:=Nat.mul_lt_mul_of_pos_right h hp
  exact Int.compare_eq_lt.2 (by omega)
 ·subst h;rw[Nat.compare_eq_eq.2 rfl];exact Int.compare_eq_eq.2 rfl
 ·rw[Nat.compare_eq_gt.2 h]
  have:b*2^k<a*2^k:=Nat.mul_lt_mul_of_pos_right h hp
  exact Int.compare_eq_gt.2 (by omega)
theorem Zpi {n k:Nat} (h:n<2^53) (hk:k<=1074):double.nearest false (n*2^k) (-(k:Int))=FB n:=by
 rcases Nat.eq_zero_or_pos n with h0|h0
 ·subst h0;rw[FB_zero];simp[Format.nearest,Format.word]
 ·rw[ZiY h h0 k hk,ZtT h h0]
theorem add_FB {a b:Nat} (h:a+b<2^53):double.add (FB a) (FB b)=some (FB (a+b)):=by
 obtain⟨i,hi,h1⟩:=Zdy (n:=a) (by omega)
 obtain⟨j,hj,h2⟩:=Zdy (n:=b) (by omega)
 simp only[Format.add,h1,h2,Datum.sum,signed,Bool.false_eq_true,if_false]
 rw[ZiZ a i _ (Int.min_le_left ..),ZiZ b j _ (Int.min_le_right ..)]
 obtain⟨k,hk,e⟩:∃k:Nat,k<=1074/\min (-(i:Int)) (-(j:Int))= -(k:Int):=⟨max i j,by omega,by omega⟩
 rw[e]
 have e2:(- -(k:Int)).toNat=k:=by omega
 rw[e2]
 have e3:(((a*2^k:Nat):Int)+((b*2^k:Nat):Int))=(((a+b)*2^k:Nat):Int):=by rw[Nat.add_mul];omega
 simp only[e3,Int.natAbs_natCast,Option.map_some,Format.write]
 have e4:(if(((a+b)*2^k:Nat):Int)=0 then(false&&false) else decide ((((a+b)*2^k:Nat):Int)<0))=false:=by
  split
  ·rfl
  ·exact decide_eq_false (by omega)
 rw[e4,Zpi h hk]
theorem sub_FB {a b:Nat} (h:a<2^53) (hb:b<=a):double.sub (FB a) (FB b)=some (FB (a -b)):=by
 obtain⟨i,hi,h1⟩:=Zdy (n:=a) (by omega)
 obtain⟨j,hj,h2⟩:=Zdy (n:=b) (by omega)
 simp only[Format.sub,h1,h2,Datum.opposite,Datum.sum,signed,Bool.false_eq_true,if_false,Bool.not_false,if_true]
 rw[ZiZ a i _ (Int.min_le_left ..),ZiZ b j _ (Int.min_le_right ..)]
 obtain⟨k,hk,e⟩:∃k:Nat,k<=1074/\min (-(i:Int)) (-(j:Int))= -(k:Int):=⟨max i j,by omega,by omega⟩
 rw[e]
 have e2:(- -(k:Int)).toNat=k:=by omega
 rw[e2]
 have hle:b*2^k<=a*2^k:=Nat.mul_le_mul_right _ hb
 have e3:(((a*2^k:Nat):Int)+ -((b*2^k:Nat):Int))=(((a -b)*2^k:Nat):Int):=by rw[Nat.sub_mul];omega
 simp only[e3,Int.natAbs_natCast,Option.map_some,Format.write]
 have e4:(if(((a -b)*2^k:Nat):Int)=0 then(false&&true) else decide ((((a -b)*2^k:Nat):Int)<0))=false:=by
  split
  ·rfl
  ·exact decide_eq_false (by omega)
 rw[e4,Zpi (by omega) hk]
theorem int_FB {a:Nat} (h:a<2^53):(FloatKind.f64.decode (FB a)).toInt .zero=some (a:Int):=by
 obtain⟨i,hi,h1⟩:=Zdy h
 simp only[FloatKind.decode,FloatKind.format,h1,Datum.toInt,Datum.integral]
 have e1:(-(i:Int)).toNat=0:=by omega
 have e2:(- -(i:Int)).toNat=i:=by omega
 rw[e1,e2,Nat.shiftLeft_zero]
 have:=Zhy .zero false a i (by
  rcases Nat.eq_zero_or_pos a with h0|h0
  ·exact .inr h0
  ·left;rw[Zko a i h0];omega)
 simp[this,signed]
theorem neg_FB {a:Nat} (h:a<2^53):(FloatKind.f64.decode (FB a)).neg=false:=by
 obtain⟨i,hi,h1⟩:=Zdy h
 simp only[FloatKind.decode,FloatKind.format,h1,Datum.neg]
section
variable {P:Program} (t:TypeId) (ox oy:Operand) {a b:Nat}
theorem Zpj (h:a+b<9007199254740992):abin P .add t ox oy (FL a) (FL b)=some (FL (a+b)):=by
 simp[abin,conc,eqGuard,binOp,Op.floatArith,FloatKind.format,add_FB (a:=a) (b:=b) h,ofV,Zaj]
theorem Zxf (h:a<9007199254740992) (hb:b<=a):abin P .sub t ox oy (FL a) (FL b)=some (FL (a -b)):=by
 simp[abin,conc,eqGuard,binOp,Op.floatArith,FloatKind.format,sub_FB (a:=a) (b:=b) h hb,ofV,Zaj]
theorem Zxg (ha:a<9007199254740992) (hb:b<9007199254740992):abin P .gtr t ox oy (FL a) (FL b)=some (.val (.bool (decide (b<a)))):=by
 have:(some (compare a b)==some Ordering.gt)=decide (b<a):=by
  rw[Bool.eq_iff_iff];simp[Nat.compare_eq_gt]
 simp[abin,conc,eqGuard,binOp,Op.floatCmp,FloatKind.format,ZgI (a:=a) (b:=b) ha hb,ofV,Zaj,this]
theorem Zxh (ha:a<9007199254740992) (hb:b<9007199254740992):abin P .geq t ox oy (FL a) (FL b)=some (.val (.bool (decide (b<=a)))):=by
 have:(compare a b==Ordering.gt||compare a b==Ordering.eq)=decide (b<=a):=by
  rcases Nat.lt_trichotomy a b with h|h|h
  ·rw[Nat.compare_eq_lt.2 h,decide_eq_false (by omega)];rfl
  ·subst h;rw[Nat.compare_eq_eq.2 rfl,decide_eq_true (Nat.le_refl _)];rfl
  ·rw[Nat.compare_eq_gt.2 h,decide_eq_true (by omega)];rfl
 simp[abin,conc,eqGuard,binOp,Op.floatCmp,FloatKind.format,ZgI (a:=a) (b:=b) ha hb,ofV,Zaj,this]
end
section
variable {P:Program} (h:Za) (t t' ty:TypeId) (cs:Array Bool) (a b:Nat)
@[simp] theorem evCall_real:ZaJ P h .real [t] ty cs [CL a b]=some (FL a,h):=rfl
@[simp] theorem evCall_imag:ZaJ P h .imag [t] ty cs [CL a b]=some (FL b,h):=rfl
@[simp] theorem ZvY:ZaJ P h .complex [t,t'] ty cs [FL a,FL b]=some (CL a b,h):=rfl
@[simp] theorem ofV_complex (k:FloatKind) (x y:Nat):ofV (.complex k x y)= .val (.complex k x y):=rfl
@[simp] theorem ofV_float (k:FloatKind) (x:Nat):ofV (.float k x)= .val (.float k x):=rfl
theorem Znm (ha:a<9007199254740992) (hb:b<9007199254740992):ZaJ P h .max [t,t'] ty cs [FL a,FL b]=some (FL (max a b),h):=by
 have hn:=neg_FB (a:=a) ha
 have ho:=ZgI (a:=a) (b:=b) ha hb
 have e:Builtin.max2 (.float .f64 (FB a)) (.float .f64 (FB b))=pure (.float .f64 (FB (max a b))):=by
  simp only[Builtin.max2,FloatKind.format,ho]
  rcases Nat.lt_trichotomy a b with q|q|q
  ·rw[Nat.compare_eq_lt.2 q,Nat.max_eq_right (by omega)]
  ·subst q;rw[Nat.compare_eq_eq.2 rfl];simp
  ·rw[Nat.compare_eq_gt.2 q,Nat.max_eq_left (by omega)]
 simp[ZaJ,Zcb,conc,builtin,Builtin.max_,e,ofV,Zaj,pr]
theorem Znn (ha:a<9007199254740992) (hb:b<9007199254740992):ZaJ P h .min [t,t'] ty cs [FL a,FL b]=some (FL (min a b),h):=by
 have hn:=neg_FB (a:=a) ha
 have ho:=ZgI (a:=a) (b:=b) ha hb
 have e:Builtin.min2 (.float .f64 (FB a)) (.float .f64 (FB b))=pure (.float .f64 (FB (min a b))):=by
  simp only[Builtin.min2,FloatKind.format,ho]
  rcases Nat.lt_trichotomy a b with q|q|q
  ·rw[Nat.compare_eq_lt.2 q,Nat.min_eq_left (by omega)]
  ·subst q;rw[Nat.compare_eq_eq.2 rfl];simp
  ·rw[Nat.compare_eq_gt.2 q,Nat.min_eq_right (by omega)]
 simp[ZaJ,Zcb,conc,builtin,Builtin.min_,e,ofV,Zaj,pr]
theorem Zno {src dst:TypeId} {k:IntKind} {n:Int} (hs:P.underlying src=some (.int k)) (hd:P.underlying dst=some (.float .f64)) (h0:0<=n):Zgy P src dst (.val (.int k n))=some (FL n.toNat):=by
 obtain⟨m,rfl⟩:=Int.eq_ofNat_of_zero_le h0
 have:pr P (convert src dst (.int k m))=some (.float .f64 (FB m)):=by
  unfold convert
  rw[pr_bind,Zz hs,Option.bind_some,pr_bind,Zz hd];rfl
 simp[Zgy,conc,this,ofV,Zaj]
theorem Znp {src dst:TypeId} {n:Nat} (hs:P.underlying src=some (.float .f64)) (hd:P.underlying dst=some (.int .i64)) (hn:n<9007199254740992):Zgy P src dst (FL n)=some (.val (.int .i64 n)):=by
 have hi:=int_FB (a:=n) hn
 have:pr P (convert src dst (.float .f64 (FB n)))=some (.int .i64 n):=by
  unfold convert
  rw[pr_bind,Zz hs,Option.bind_some,pr_bind,Zz hd,Option.bind_some]
  simp only[Conv.floatToInt,hi]
  have h1:IntKind.i64.min= -9223372036854775808:=by decide
  have h2:IntKind.i64.max=9223372036854775807:=by decide
  rw[if_pos (by rw[h1,h2];omega)];rfl
 simp[Zgy,conc,this,ofV,Zaj]
end
end Go.Cx
set_option linter.unusedVariables false
set_option linter.unusedSimpArgs false
namespace Go.Cx
open Go.Sort
variable {P:Program}
theorem Znq {Z:Nat->Prop} {w:World} {κ:Nat->Slot}:∀{l:List Int} {us:List Value},Rs Z w κ (l.map I) us->us=l.map (Value.int .i64)
 |[],_,.nil=>rfl
 |x::l,_,.cons h1 h2=>by
  cases h1 with
  |val _=>rw[Znq h2];rfl
theorem Znr {Z:Nat->Prop} {w:World} {κ:Nat->Slot}:∀l:List Int,Rs Z w κ (l.map I) (l.map (Value.int .i64))
 |[]=> .nil
 |x::l=> .cons (.val rfl) (Znr l)
theorem Zew (enc:Int->Value) (w:World) (n blk off:Nat) (d:Array Int) (os:Array Obj) {b:Nat} (hb:b<w.heap.size) (h:b≠blk):(Go.Sort.grow (putRow enc (Sort.ahead w n) blk off d) os).heap[b]? =w.heap[b]? :=by
 simp only[Go.Sort.grow,putRow,mapBlock,Sort.ahead]
 rw[Array.getElem?_append_left (by simpa using hb),Array.getElem?_modify,if_neg (Ne.symm h)]
theorem Zdk (enc:Int->Value) (w:World) (n blk off:Nat) (d:Array Int) (os:Array Obj) {c:Array Value} {E:TypeId} {fr:Nat×Nat} (hb:w.heap[blk]? =some (.cells c E fr)):(Go.Sort.grow (putRow enc (Sort.ahead w n) blk off d) os).heap[blk]? =some (.cells (putCells enc off d c) E fr):=by
 have hlt:=(Array.getElem?_eq_some_iff.1 hb).1
 simp only[Go.Sort.grow,putRow,mapBlock,Sort.ahead]
 rw[Array.getElem?_append_left (by simpa using hlt),Array.getElem?_modify,if_pos rfl,hb]
 rfl
abbrev sortI (l:List Int):List Int:=l.mergeSort λx y=>decide (x<=y)
theorem Zrc {f:FuncId} (he:Ent P f)
  (hs:∀(blk off cap:Nat) (zs:List Int) (w:World),Holds (Value.int .i64) w blk off zs.toArray->blk<w.heap.size->zs.length<4611686018427387904->Calls P f #[.slice (some ⟨blk,off,none⟩) zs.length cap] w λe w'=>e= .returned (.tuple #[])/\∃n os,w'=Go.Sort.grow (putRow (Value.int .i64) (Sort.ahead w n) blk off (sortI zs).toArray) os)
  (h0:∀(p:Option Addr) (cap:Nat) (w:World),Calls P f #[.slice p 0 cap] w λe w'=>e= .returned (.tuple #[])/\w'=w)
  (ver:Nat) (l:List Int) (hl:l.length<4611686018427387904):Zeq P f [.own 0 ver 0 l.length 1] [.cells ver (l.map I)] (.tup []) [.cells ver ((sortI l).map I)]:=by
 refine⟨by simp,by simp,by simp,rfl,by simp,he,λZ κ w cargs r hr=> ?_⟩
 cases hr with
 |cons h1 h2=>
 cases h2
 have same:∀{e:Ending} {w':World},l=[]->e= .returned (.tuple #[])->w'=w->∃v h' Z' κ' c,(v=AV.tup []/\h'=[ABlk.cells ver ((sortI l).map I)])/\e= .returned c/\Rel Z' κ' h' w'/\R Z' w' κ' v c/\Ext Z κ w Z' κ' w'/\ZX 1 κ κ':=by
  rintro e w' rfl rfl rfl
  refine⟨_,_,Z,κ,_,⟨rfl,rfl⟩,rfl,?_,.tup .nil,.refl _ _ _,.refl _ _⟩
  have:sortI []=[]:=by simp
  rw[this];exact r
 cases h1 with
 | @own _ _ _ _ _ A cap hn hcap hA h2=>
 obtain⟨ob,sz,hk,hblk⟩:=r.blk 0 _ rfl
 simp only[ZV,hk] at h2
 have h2:=h2.2 trivial
 by_cases hl0:l=[]
 ·subst hl0
  exact(h0 A cap w).mono λe w' ⟨h3,h4⟩=>same rfl h3 h4
 have hlen:0<l.length:=List.length_pos_iff.2 hl0
 cases ob with
 |none=>obtain⟨_,q,_⟩:=h2;omega
 |some b=>
 obtain⟨e1,_,⟨a,rfl,ha⟩,e2⟩:=h2
 obtain rfl:=ha (by omega)
 obtain⟨c,E,us,⟨fr,g1,gf⟩,g2,g3,g4,g5⟩:=hblk
 have hus:=Znq g5
 subst hus
 have hlt:=(Array.getElem?_eq_some_iff.1 g1).1
 simp only[Nat.zero_mul]
 refine(hs b 0 cap l w (λj hj=> ?_) hlt hl).mono ?_
 ·have hj':j<l.length:=by simpa using hj
  have:=g4 j (Value.int .i64 l[j]) (by simp[hj'])
  refine⟨?_,?_⟩
  ·simp only[World.cell?,g1,Nat.zero_add]
   simp[this,hj']
  ·rcases gf with rfl|⟨_,gf⟩
   ·simp[World.frozen?,g1]
   ·have:j<c.size:=by simp at g3;omega
    simp[World.frozen?,g1];intro;omega
 rintro e w' ⟨rfl,n,os,rfl⟩
 have hsl:(sortI l).length=l.length:=List.length_mergeSort _
 have hal:ZT κ b:=⟨0,ver,sz,hk⟩
 have hsz:w.heap.size<=(Go.Sort.grow (putRow (Value.int .i64) (Sort.ahead w n) b 0 (sortI l).toArray) os).heap.size:=by rw[Go.Sort.size_grow,size_putRow];exact Nat.le_add_right _ _
 have ex:Ext Z κ w Z κ (Go.Sort.grow (putRow (Value.int .i64) (Sort.ahead w n) b 0 (sortI l).toArray) os):=
  ⟨rfl,rfl,rfl,hsz,λb' hb' hn'=>Zew _ _ _ _ _ _ _ hb' (λe=>hn' (e▸hal)),λ_ h=>h,λ_ h=> .inl h,λ_ h=> .inl h⟩
 refine⟨_,_,Z,κ,_,⟨rfl,rfl⟩,rfl,⟨λb' hz=>Nat.lt_of_lt_of_le (r.zlt b' hz) hsz,r.za,λid hid=>r.hole id hid,λid x hx=> ?_,r.inj⟩,.tup .nil,ex,.refl _ _⟩
 cases id with
 |succ id=>simp at hx
 |zero=>
  simp at hx
  subst hx
  refine⟨some b,sz,hk,putCells (Value.int .i64) 0 (sortI l).toArray c,E,(sortI l).map (Value.int .i64),⟨fr,Zdk _ _ _ _ _ _ _ g1,by simpa[putCells] using gf⟩,?_,?_,?_,Znr _⟩
  ·simpa[putCells] using g2
  ·have:(l.map (Value.int .i64)).length=l.length:=by simp
   simp[putCells,hsl];omega
  ·intro j u hj
   have hj1:j<(sortI l).length:=by have:=(List.getElem?_eq_some_iff.1 hj).1;simpa using this
   have hjc:j<c.size:=by simp at g3;omega
   simp only[putCells,Array.getElem?_mapIdx,Array.getElem?_eq_getElem hjc,Option.map_some,Nat.zero_le,true_and,Nat.zero_add,List.size_toArray,Nat.sub_zero]
   rw[if_pos hj1]
   rw[List.getElem?_map,List.getElem?_eq_getElem hj1] at hj
   simp only[Option.map_some] at hj
   rw[<-hj]
   rw[getElem!_pos _ j (by simpa using hj1)]
   simp
theorem Zkp {f:FuncId} (he:Ent P f) (cp:List Int->List Int) (hcp:∀zs,(cp zs).length<=zs.length) (hc0:∀zs,zs≠[]->cp zs≠[])
  (hs:∀(blk off cap:Nat) (zs:List Int) (w:World),Holds (Value.int .i64) w blk off zs.toArray->zs.length<=9223372036854775807->zs.length<=cap->Calls P f #[.slice (some ⟨blk,off,none⟩) zs.length cap] w λe w'=>e= .returned (.slice (some ⟨blk,off,none⟩) (cp zs).length cap)/\∃n,w'=putRow (Value.int .i64) (Sort.ahead w n) blk off (cp zs++List.replicate (zs.length -(cp zs).length) 0).toArray)
  (h0:∀(p:Option Addr) (cap:Nat) (w:World),Calls P f #[.slice p 0 cap] w λe w'=>e= .returned (.slice p 0 cap)/\w'=w)
  (ver:Nat) (l:List Int) (hl:l.length<=9223372036854775807):Zeq P f [.own 0 ver 0 l.length 1] [.cells ver (l.map I)] (.own 0 ver 0 (cp l).length 1) [.cells ver ((cp l++List.replicate (l.length -(cp l).length) 0).map I)]:=by
 refine⟨by simp,by simp,by simp,rfl,by simp,he,λZ κ w cargs r hr=> ?_⟩
 cases hr with
 |cons h1 h2=>
 cases h2
 have h1':=h1
 cases h1 with
 | @own _ _ _ _ _ A cap hn hcap hA h2=>
 obtain⟨ob,sz,hk,hblk⟩:=r.blk 0 _ rfl
 have h2o:=h2
 simp only[ZV,hk] at h2
 have h2:=h2.2 trivial
 by_cases hl0:l=[]
 ·subst hl0
  have hc:cp []=[]:=List.eq_nil_of_length_eq_zero (by have:=hcp [];simpa using this)
  refine(h0 A cap w).mono ?_
  rintro e w' ⟨rfl,rfl⟩
  refine⟨_,_,Z,κ,_,⟨rfl,rfl⟩,rfl,?_,?_,.refl _ _ _,.refl _ _⟩
  ·rw[hc];exact r
  ·rw[hc];exact h1'
 have hlen:0<l.length:=List.length_pos_iff.2 hl0
 cases ob with
 |none=>obtain⟨_,q,_⟩:=h2;omega
 |some b=>
 obtain⟨e1,_,⟨a,rfl,ha⟩,e2⟩:=h2
 obtain rfl:=ha (by omega)
 obtain⟨c,E,us,⟨fr,g1,gf⟩,g2,g3,g4,g5⟩:=hblk
 have hus:=Znq g5
 subst hus
 simp only[Nat.zero_mul] at h2o h1'⊢
 refine(hs b 0 cap l w (λj hj=> ?_) hl hn).mono ?_
 ·have hj':j<l.length:=by simpa using hj
  have:=g4 j (Value.int .i64 l[j]) (by simp[hj'])
  refine⟨?_,?_⟩
  ·simp only[World.cell?,g1,Nat.zero_add]
   simp[this,hj']
  ·rcases gf with rfl|⟨_,gf⟩
   ·simp[World.frozen?,g1]
   ·have:j<c.size:=by simp at g3;omega
    simp[World.frozen?,g1];intro;omega
 rintro e w' ⟨rfl,n,rfl⟩
 generalize hrr:cp l++List.replicate (l.length -(cp l).length) 0=rr
 have hsl:rr.length=l.length:=by rw[<-hrr];have:=hcp l;simp;omega
 have eg:putRow (Value.int .i64) (Sort.ahead w n) b 0 rr.toArray=Go.Sort.grow (putRow (Value.int .i64) (Sort.ahead w n) b 0 rr.toArray) #[]:=by simp
 rw[eg]
 have hal:ZT κ b:=⟨0,ver,sz,hk⟩
 have hsz:w.heap.size<=(Go.Sort.grow (putRow (Value.int .i64) (Sort.ahead w n) b 0 rr.toArray) #[]).heap.size:=by rw[Go.Sort.size_grow,size_putRow];exact Nat.le_add_right _ _
 have ex:Ext Z κ w Z κ (Go.Sort.grow (putRow (Value.int .i64) (Sort.ahead w n) b 0 rr.toArray) #[]):=
  ⟨rfl,rfl,rfl,hsz,λb' hb' hn'=>Zew _ _ _ _ _ _ _ hb' (λe=>hn' (e▸hal)),λ_ h=>h,λ_ h=> .inl h,λ_ h=> .inl h⟩
 refine⟨_,_,Z,κ,_,⟨rfl,rfl⟩,rfl,⟨λb' hz=>Nat.lt_of_lt_of_le (r.zlt b' hz) hsz,r.za,λid hid=>r.hole id hid,λid x hx=> ?_,r.inj⟩,.own (by have:=hcp l;omega) hcap (by simp) ?_,ex,.refl _ _⟩
 ·cases id with
  |succ id=>simp at hx
  |zero=>
   simp at hx
   subst hx
   refine⟨some b,sz,hk,putCells (Value.int .i64) 0 rr.toArray c,E,rr.map (Value.int .i64),⟨fr,Zdk _ _ _ _ _ _ _ g1,by simpa[putCells] using gf⟩,?_,?_,?_,Znr _⟩
   ·simpa[putCells] using g2
   ·have:(l.map (Value.int .i64)).length=l.length:=by simp
    simp[putCells,hsl];omega
   ·intro j u hj
    have hj1:j<rr.length:=by have:=(List.getElem?_eq_some_iff.1 hj).1;simpa using this
    have hjc:j<c.size:=by simp at g3;omega
    simp only[putCells,Array.getElem?_mapIdx,Array.getElem?_eq_getElem hjc,Option.map_some,Nat.zero_le,true_and,Nat.zero_add,List.size_toArray,Nat.sub_zero]
    rw[if_pos hj1]
    rw[List.getElem?_map,List.getElem?_eq_getElem hj1] at hj
    simp only[Option.map_some] at hj
    rw[<-hj]
    rw[getElem!_pos _ j (by simpa using hj1)]
    simp
 ·simp only[ZV,hk]
  exact⟨Nat.le_refl _,λ_=>⟨by simpa using e1,by omega,⟨_,rfl,λ_=>by simp⟩,e2⟩⟩
end Go.Cx
namespace Go.Cx
theorem An {a b:Prop} (x:a) (y:b):a/\b:=⟨x,y⟩
variable {P:Program}
theorem Zkw {Z:Nat->Prop} {κ:Nat->Slot} {w:World}:∀(f:Nat) (v v':AV) (c:Value),frz [] 0 f v=some v'->R Z w κ v c->R Z w κ v' c
 |0,v,v',c,hf,hr=>by simp[frz] at hf
 |f+1,v,v',c,hf,hr=>by
  have ih:=λa b c=>Zkw (Z:=Z) (κ:=κ) (w:=w) f a b c
  simp only[frz] at hf
  split at hf
  ·injection hf with hf
   subst hf
   exact hr
  ·split at hf
   ·rename_i v;injection hf with hf;subst hf;exact hr
   ·injection hf with hf;subst hf;exact .any
   ·obtain⟨bs,hb,rfl⟩:=Option.map_eq_some_iff.1 hf
    cases hr with|agg hs=>exact .agg (ZI ih hb hs)
   ·obtain⟨bs,hb,rfl⟩:=Option.map_eq_some_iff.1 hf
    cases hr with|tup hs=>exact .tup (ZI ih hb hs)
   ·obtain⟨bs,hb,rfl⟩:=Option.map_eq_some_iff.1 hf
    cases hr with
    |sl0 h1 h2=>simp at hb;subst hb;exact .sl0 (by simp) h2
    |sl h0 h1 h2 h3 h4 h5 h6=>exact .sl h0 h1 (by simp) h3 h4 h5 (ZI ih hb h6)
   ·obtain⟨bs,hb,rfl⟩:=Option.map_eq_some_iff.1 hf
    cases hr with|fp h1 h2 h3=>exact .fp h1 h2 (ZI ih hb h3)
   ·obtain⟨bs,hb,rfl⟩:=Option.map_eq_some_iff.1 hf
    cases hr with|fn hs=>exact .fn (ZI ih hb hs)
   ·obtain⟨ks',hk,hf⟩:=Option.bind_eq_some_iff.1 hf
    obtain⟨vs',hv,rfl⟩:=Option.map_eq_some_iff.1 hf
    cases hr with|fmap h1 h2 h3 h4 h5 h6=>exact .fmap h1 h2 h3 h4 (ZI ih hk h5) (ZI ih hv h6)
   ·simp at hf
   ·simp at hf
   ·simp at hf
theorem AInv.soft {h:Za} {f:FuncId} {cap args args':List AV} {v:AV} {Q:AV->Za->Prop} (hp:Zb P f args' v) (ha:(args++cap).mapM (frz [] 0 12)=some args') (hq:Q v h):AInv P (.fn f cap) args h Q:=by
 have hf:=hp.frame h
 refine .of ⟨hf.1,λZ κ w cargs r hr=> ?_⟩
 exact(hf.2 Z κ w cargs r (ZI (λa b c h1 h2=>Zkw 12 a b c h1 h2) ha hr)).mono λe w' ⟨v',h',Z',κ',c,⟨e1,e2⟩,g⟩=>⟨v',h',Z',κ',c,by rw[e1,e2];exact hq,g⟩
theorem ADcall.soft {h:Za} {g:FuncId} {cap args args':List AV} {v:AV} {K:AV->Za->Prop} (hp:Zb P g args' v) (ha:(args++cap).mapM (frz [] 0 12)=some args') (hk:K v h) {D:List Nat}:ADcall P D .t (.fn g cap) args h K:=
 ⟨v,λk=>AInv.soft hp ha ⟨rfl,rfl⟩,hk⟩
class Sc (G:Prop) (P:outParam Program) (f:outParam FuncId) (cap args:outParam (List AV)) (h:outParam Za) (K:outParam (AV->Za->Prop)):Prop where
 go:∀{args':List AV} {v:AV},Zb P f args' v->(args++cap).mapM (frz [] 0 12)=some args'->K v h->G
section
variable {f:FuncId} {cap args:List AV} {h:Za} {K:AV->Za->Prop} {D:List Nat}
instance:Sc (AInv P (.fn f cap) args h K) P f cap args h K:=⟨AInv.soft⟩
instance:Sc (ADcall P D .t (.fn f cap) args h K) P f cap args h K:=⟨λhp ha hk=>ADcall.soft hp ha hk⟩
end
theorem Zuo {Z:Nat->Prop} {κ:Nat->Slot} {w:World} {x x':List AV} (hm:x.mapM (frz [] 0 12)=some x'):∀{pre:List AV} {us:List Value},Rs Z w κ (pre++x) us->Rs Z w κ (pre++x') us
 |[],us,h=>ZI (λa b c h1 h2=>Zkw 12 a b c h1 h2) hm h
 |a::pre,us,h=>by
  cases h with
  |cons h1 h2=>exact .cons h1 (Zuo hm h2)
theorem Zxv {Z:Nat->Prop} {κ:Nat->Slot} {w:World} {id ver:Nat} {pre x x':List AV} (hm:x.mapM (frz [] 0 12)=some x') (h:ZaM Z w κ id (.cells ver (pre++x))):ZaM Z w κ id (.cells ver (pre++x')):=by
 obtain⟨ob,sz,h1,h2⟩:=h
 refine⟨ob,sz,h1,?_⟩
 cases ob with
 |none=>
  simp only at h2⊢
  obtain⟨rfl,rfl⟩:=List.append_eq_nil_iff.1 h2
  simp at hm
  subst hm
  rfl
 |some b=>
  obtain⟨c,E,us,h3,h4,h5,h6,h7⟩:=h2
  exact⟨c,E,us,h3,h4,h5,h6,Zuo hm h7⟩
theorem Wk.softEnd {n:Nat} {s:Zc} (id ver:Nat) (pre:List AV) {x x':List AV} (hx:s.h[id]? =some (.cells ver (pre++x))) (hm:x.mapM (frz [] 0 12)=some x'):Wk n s ⟨s.N,s.T,s.h.set id (.cells ver (pre++x'))⟩:=
 Wk.blk id _ hx λ_ _ _ hb=>Zxv hm hb
end Go.Cx
set_option linter.unusedVariables false
set_option linter.unusedSimpArgs false
namespace Go.Cx
variable {P:Program} {n:Nat}
instance {t:Bool}:Nw (t=true) (t=true):=⟨id⟩
instance {t:Bool}:Nw (¬t=true) (t=false):=⟨λh=>by simpa using h⟩
instance (priority:=low) {p:Prop}:Nw p True:=⟨λ_=>trivial⟩
instance (priority:=low) {G A B:Prop} {t:Bool} [h:TstB G t A B]:Tst G (t=true) A B:=
 ⟨λh1 h2=>h.go (λa _=>h1 a (eq_true a)) (λa _=>h2 (by rw[a];decide) (by rw[a];decide))⟩
theorem Tp {G p A B q:Prop} [h:Tst G p A B] [a:Nw p q] (k:p->p=True->q->A) (hp:p:=by first|with_reducible assumption|omega):G:=h.go (λg e=>k g e (a.nw g)) λg _=>absurd hp g
theorem Tn {G p A B q:Prop} [h:Tst G p A B] [a:Nw (¬p) q] (k:¬p->p=False->q->B) (hp:¬p:=by first|with_reducible assumption|omega):G:=h.go (λg _=>absurd g hp) λg e=>k g e (a.nw g)
theorem T2 {G p A B q q':Prop} [h:Tst G p A B] [a:Nw p q] [b:Nw (¬p) q'] (k1:p->p=True->q->A) (k2:¬p->p=False->q'->B):G:=h.go (λg e=>k1 g e (a.nw g)) λg e=>k2 g e (b.nw g)
section
variable {G:Prop} {f:FuncId} {cap args args':List AV} {v:AV} {h:Za} {K:AV->Za->Prop}
theorem Pg [i:Pc G P f cap args h K] (hp:Zb P f args' v) (k:K v h) (ha:args++cap=args':=by first|rfl|(simp<;>fail)|(simp[s_]<;>fail)):G:=i.go hp ha k
theorem Sg [i:Sc G P f cap args h K] (hp:Zb P f args' v) (k:K v h) (ha:(args++cap).mapM (frz [] 0 12)=some args':=by first|(simp<;>fail)|(simp[s_]<;>fail)):G:=i.go hp ha k
theorem Lg [i:Lc G P f cap args h K] (hp:Zb P f args' v) (k:K v h) (hm:Zds v=true:=by rfl)
  (ha:(args++cap).mapM (frz h 0 12)=some args':=by first|(simp<;>fail)|(simp[s_]<;>fail)|(simp;rw[Zav (by simp) (by simp<;>omega)];simp<;>fail)|(simp;rw[Zav (by simp) (by simp<;>omega)];simp[s_]<;>fail)):G:=i.go hp hm ha k
theorem Gg (D:List Nat) (hp:Zb P f args' v) (k:K v (kill D h))
  (ha:fzDs h D 12 (args++cap)=some args':=by first|(simp<;>fail)|(simp[s_]<;>fail)|(simp;rw[ZcG (by simp) (by simp<;>omega)];simp<;>fail)|(simp;rw[ZcG (by simp) (by simp<;>omega)];simp[s_]<;>fail)):AInv P (.fn f cap) args h K:=AInv.give D hp ha k
end
theorem Ip {α:Type} {c:Prop} [Decidable c] {a b:α} (h:c:=by first|omega|(simp only[maxLen];omega)):(if c then a else b)=a:=if_pos h
theorem In {α:Type} {c:Prop} [Decidable c] {a b:α} (h:¬c:=by first|omega|(simp only[maxLen];omega)):(if c then a else b)=b:=if_neg h
theorem Fz {h:Za} {f ver m k:Nat} {cs:List AV} (hc:cs.all neat=true:=by simp) (hl:cs.length=m*k:=by simp<;>omega):Zgo h (f+1) ver 0 m k (some (.cells ver cs))=some (.sl false m cs):=Zav hc hl
theorem Gz {h:Za} {D:List Nat} {f ver m k:Nat} {cs:List AV} (hc:cs.all neat=true:=by simp) (hl:cs.length=m*k:=by simp<;>omega):ZwJ h D (f+1) ver 0 m k (some (.cells ver cs))=some (.sl false m cs):=ZcG hc hl
class Mix (P:Program):Prop where
 m:P.follows .mixedOrders=true
theorem Dg [i:Mix P] (id m:Nat) (D:List Nat) (cc:CC) {ops:Array Oper} {Q:Exit->Zc->Prop} {s:Zc} (h:AD P (λ_=>false) D cc ops (AOps P (λ_=>false) ops (Q .normal) (ops.toList.drop m)) 0 (ops.toList.take m) s)
  (hok:ZiG (λ_=>false) cc m ops=true:=by kernel_rfl) (hcc:(cc.all λp=>match p.2 with| .r id=>D.contains id|_=>true)=true:=by rfl):AW P n (.region id ops true) Q s:=
 AW.draw i.m (λ_=>false) D cc m hok h hcc
theorem Pm {f:FuncId} {fn:Func} {c:Code} {rs:List ResultVar} {N:Nat} {args:List AV} {v:AV} (hf:P.funcs[f]? =some fn) (hx:args.all fits=true->AX P (λ_=>false) 0 c (ZfP P rs 0 (λv' _=>v'=v)) ⟨N,Zbr args,[]⟩)
  (hb : fn.body = some c := by exact rfl) (hrs : fn.results.toList = rs := by exact rfl) (hN : args.length + (fn.ntmps - args.length) = N := by exact rfl) (he1 : (fn.name == "runtime.NumGoroutine") = false := by kernel_rfl) (he2 : fn.body.isNone = false := by exact rfl) (ha : args.all neat = true := by simp) (hv : neat v = true := by simp) : Zb P f args v :=
 Zb.mk (λ_=>false) hf hb hrs hN (Ent.mk hf he1 he2) ha hv hx
theorem Wa {n N':Nat} {s:Zc} {h':Za} {l:List (Nat×AV)} (hN:s.N=N':=by exact rfl) (hh:s.h=h':=by(simp<;>fail)) (hl:∀p∈l,s.T p.1=p.2:=by(simp<;>fail)):Wk n s ⟨N',Cx.pat l,h'⟩:=Wk.at l hN hh hl
theorem Wc {n N':Nat} {s:Zc} {h':Za} {l:List (Nat×AV)} (hN:s.N=N':=by exact rfl) (hnm:n<=h'.length:=by(simp<;>fail)) (hh:s.h.take h'.length=h':=by(simp<;>fail)) (hc:h'.all (ABlk.refsLt h'.length)=true:=by(simp<;>fail)) (hl:∀p∈l,s.T p.1=p.2/\refsLt h'.length p.2=true:=by(simp<;>fail)):Wk n s ⟨N',Cx.pat l,h'⟩:=Wk.cutAt l hN hnm hh hc hl
theorem Wz {n:Nat} {s:Zc} {l:List (Nat×AV)} (hl:∀p∈l,s.T p.1=p.2:=by(simp<;>fail)):Wk n s ⟨s.N,Cx.pat l,s.h⟩:=Wk.keep l hl
theorem D0 (id m:Nat) (D:List Nat) (cc:CC):∀⦃P:Program⦄⦃n:Nat⦄[Mix P]⦃ops:Array Oper⦄⦃Q:Exit->Zc->Prop⦄⦃s:Zc⦄,AD P (λ_=>false) D cc ops (AOps P (λ_=>false) ops (Q .normal) (ops.toList.drop m)) 0 (ops.toList.take m) s->
  ZiG (λ_=>false) cc m ops=true->(cc.all λp=>match p.2 with| .r id=>D.contains id|_=>true)=true->AW P n (.region id ops true) Q s:=λ_ _ _ _ _ _ h h1 h2=>Dg id m D cc h h1 h2
theorem D1 (id m:Nat) (D:List Nat) (cc:CC):∀⦃P:Program⦄⦃n:Nat⦄[Mix P]⦃ops:Array Oper⦄⦃Q:Exit->Zc->Prop⦄⦃s:Zc⦄,AD P (λ_=>false) D cc ops (AOps P (λ_=>false) ops (Q .normal) (ops.toList.drop m)) 0 (ops.toList.take m) ⟨s.N,s.T,s.h++[.cells 0 []]⟩->
  ZiG (λ_=>false) cc m ops=true->(cc.all λp=>match p.2 with| .r id=>D.contains id|_=>true)=true->AW P n (.region id ops true) Q s:=λ_ _ _ _ _ _ h h1 h2=>AW.room (Dg id m D cc h h1 h2)
theorem F0 {f:FuncId} {args0:List AV} {h0 h1:Za} {v:AV} (L:List Nat) (hc:XCall P f args0 h0 v h1):∀⦃cap args:List AV⦄⦃h:Za⦄⦃Q:AV->Za->Prop⦄,args++cap=args0.map (ren (ρL L))->atB (ρL L) h 0 h0->
  Q (ren (Cx.grow (ρL L) h0.length h.length) v) (Cx.lay (Cx.grow (ρL L) h0.length h.length) 0 (h1.take h0.length) h++(h1.drop h0.length).map (renB (Cx.grow (ρL L) h0.length h.length)))->L.Nodup->L.length=h0.length->AInv P (.fn f cap) args h Q:=λ_ _ _ _ a b q n l=>AInv.fresh L hc a b q n l
theorem H0 {f:FuncId} {args0:List AV} {h0 h1:Za} {v:AV} (L:List Nat) (hc:Zeq P f args0 h0 v h1):∀⦃cap args:List AV⦄⦃h:Za⦄⦃Q:AV->Za->Prop⦄,args++cap=args0.map (ren (ρL L))->atB (ρL L) h 0 h0->
  Q (ren (ρL L) v) (Cx.lay (ρL L) 0 h1 h)->L.Nodup->L.length=h0.length->AInv P (.fn f cap) args h Q:=λ_ _ _ _ a b q n l=>AInv.heap L hc a b q n l
theorem WW {G:Prop} (h:G:=by
 try first|simp[s_]|simp
 repeat' ((first|((first|refine Tp ?_|refine Tn ?_|refine T2 ?_ ?_)<;>intro h_ e_ n_)|exact q1_ _ Wc|exact q1_ _ Wa|exact q2_ _ Wc|exact q2_ _ Wa|exact q3_ _ Wc|exact q3_ _ Wa|refine e1_ ?_ (by kernel_rfl) rfl|refine e2_ ?_ (by kernel_rfl) rfl|refine e3_ ?_ (by kernel_rfl) rfl|refine e4_ ?_ (by kernel_rfl) rfl|refine e5_ ?_ (by kernel_rfl) rfl|refine e6_ ?_ (by kernel_rfl) rfl|refine e7_ ?_ (by kernel_rfl) rfl|refine e8_ ?_ (by kernel_rfl) rfl|refine d1_ ?_ (by kernel_rfl) rfl|refine d2_ ?_ (by kernel_rfl) rfl|refine d3_ ?_ (by kernel_rfl) rfl|refine d4_ ?_ (by kernel_rfl) rfl|refine d5_ ?_ (by kernel_rfl) rfl|refine d6_ ?_ (by kernel_rfl) rfl|refine d7_ ?_ (by kernel_rfl) rfl|refine d8_ ?_ (by kernel_rfl) rfl|refine d9_ ?_ (by kernel_rfl) rfl|refine d10_ ?_ (by kernel_rfl) rfl|refine d11_ ?_ (by kernel_rfl) rfl|refine d12_ ?_ (by kernel_rfl) rfl|refine d13_ ?_ (by kernel_rfl) rfl|refine d14_ ?_ (by kernel_rfl) rfl|refine d15_ ?_ (by kernel_rfl) rfl|refine d16_ ?_ (by kernel_rfl) rfl|refine d17_ ?_ (by kernel_rfl) rfl|refine d18_ ?_ (by kernel_rfl) rfl|refine d19_ ?_ (by kernel_rfl) rfl|refine d20_ ?_ (by kernel_rfl) rfl|(refine f1_ (by simp) (by simp) ?_ (by decide) rfl;simp)|(refine f2_ (by simp) (by simp) ?_ (by decide) rfl;simp)|(refine f3_ (by simp) (by simp) ?_ (by decide) rfl;simp)|(refine f4_ (by simp) (by simp) ?_ (by decide) rfl;simp)|refine Pg h0 ?_|refine Pg h1 ?_|refine Pg h2 ?_|refine Pg h3 ?_|refine Pg h4 ?_|refine Pg h5 ?_|refine Pg h6 ?_|refine Pg h7 ?_|refine Pg h8 ?_|refine Pg h9 ?_|refine Pg h10 ?_|refine Pg h11 ?_|refine Pg h12 ?_|refine Pg h13 ?_|refine Pg h14 ?_|refine Pg h15 ?_|refine Pg h16 ?_|refine Pg h17 ?_|refine Pg h18 ?_|refine Pg h19 ?_|refine Pg p1_ ?_|refine Pg p2_ ?_|refine Pg p3_ ?_|refine Pg p4_ ?_|refine Pg p5_ ?_|refine Pg p6_ ?_|refine Pg p7_ ?_|refine Pg p8_ ?_|refine Lg h0 ?_|refine Lg h1 ?_|refine Lg h2 ?_|refine Lg h3 ?_|refine Lg h4 ?_|refine Lg h5 ?_|refine Lg h6 ?_|refine Lg h7 ?_|refine Lg h8 ?_|refine Lg h9 ?_|refine Lg h10 ?_|refine Lg h11 ?_|refine Lg h12 ?_|refine Lg h13 ?_|refine Lg h14 ?_|refine Lg h15 ?_|refine Lg h16 ?_|refine Lg h17 ?_|refine Lg h18 ?_|refine Lg h19 ?_|refine Lg p1_ ?_|refine Lg p2_ ?_|refine Lg p3_ ?_|refine Lg p4_ ?_|refine Lg p5_ ?_|refine Lg p6_ ?_|refine Lg p7_ ?_|refine Lg p8_ ?_|refine Sg h0 ?_|refine Sg h1 ?_|refine Sg h2 ?_|refine Sg h3 ?_|refine Sg h4 ?_|refine Sg h5 ?_|refine Sg h6 ?_|refine Sg h7 ?_|refine Sg h8 ?_|refine Sg h9 ?_|refine Sg h10 ?_|refine Sg h11 ?_|refine Sg h12 ?_|refine Sg h13 ?_|refine Sg h14 ?_|refine Sg h15 ?_|refine Sg h16 ?_|refine Sg h17 ?_|refine Sg h18 ?_|refine Sg h19 ?_|refine Sg p1_ ?_|refine Sg p2_ ?_|refine Sg p3_ ?_|refine Sg p4_ ?_|refine Sg p5_ ?_|refine Sg p6_ ?_|refine Sg p7_ ?_|refine Sg p8_ ?_|rw[Ip]|rw[In]|rw[Fz]|rw[Gz]|fail)<;>first|simp[e_,n_,s_]|simp[e_,n_]|simp[s_]|simp|skip)):G:=h
end Go.Cx
namespace Go.Cx
open Go.RowKit
variable {P:Program}
theorem Ext.of_below {Z:Nat->Prop} {κ:Nat->Slot} {w W:World} (b:Below w.heap.size w W):Ext Z κ w Z κ W:=⟨b.os,b.tape,b.output,b.size,λk hk _=>b.block k hk,λ_ h=>h,λ_ h=> .inl h,λ_ h=> .inl h⟩
theorem Rel.later {Z:Nat->Prop} {κ:Nat->Slot} {w W:World} (r:Rel Z κ [] w) (b:Below w.heap.size w W):Rel Z κ [] W:=⟨λb' hb=>Nat.lt_of_lt_of_le (r.zlt b' hb) b.size,r.za,r.hole,λid x hx=>by simp at hx,r.inj⟩
theorem Zrz {Z:Nat->Prop} {κ:Nat->Slot} {w:World} (r:Rel Z κ [] w) (b:Nat):¬ZT κ b:=λ⟨id,ver,sz,hk⟩=>by rw[r.hole id (Nat.zero_le _)] at hk;cases hk
theorem Zb.raw {f:FuncId} {args:List AV} {v:AV} (hp:Zb P f args v) {n:Nat} {Z:Nat->Prop} {κ:Nat->Slot} {w W:World} {cargs:List Value} (r:Rel Z κ [] w) (hr:Rs Z w κ args cargs) (hb:Below w.heap.size w W):
  CallsIn Fence.wide n P f cargs.toArray W (λe W'=>∃c Z' κ',e= .returned c/\R Z' W' κ' v c/\(∀b,Z' b->Z b\/W.heap.size<=b)/\Below W.heap.size W W'):=by
 refine callsIn_wide.2 ?_
 obtain⟨h1,h2,h3,h4⟩:=hp
 refine(h4 Z κ W cargs (r.later hb) (hr.ext r (Ext.of_below hb) (.refl _))).mono ?_
 rintro e W' ⟨v',h',Z',κ',c,⟨rfl,rfl⟩,rfl,r',hv,ex,st⟩
 have na:=Zrz (r.later hb)
 exact⟨c,Z',κ',rfl,hv,λb hz=>by
  rcases ex.znew b hz with h|h|h
  ·exact .inl h
  ·exact absurd h (na b)
  ·exact .inr h,⟨ex.os,ex.tape,ex.output,ex.size,λk hk=>ex.keep k hk (na k)⟩⟩
theorem Zpr {Z:Nat->Prop} {w:World} {κ:Nat->Slot}:∀{xs:List Int} {us:List Value},Rs Z w κ (xs.map I) us->us=xs.map (.int .i64 ·)
 |[],_,.nil=>rfl
 |x::xs,_,h=>by
  rw[List.map_cons] at h
  cases h with
  |cons h1 h2=>
   cases h1 with
   |val _=>rw[Zpr h2];rfl
theorem nums_inv {Z:Nat->Prop} {w:World} {κ:Nat->Slot} {xs:List Int} {c:Value} (h:R Z w κ (enc1 I xs) c):
  (xs=[]/\∃A cap,c= .slice A 0 cap)\/∃b off cap,c= .slice (some ⟨b,off,none⟩) xs.length cap/\Z b/\∀(j:Nat) (hj:j<xs.length),w.cell? ⟨b,off+j,none⟩=some (.int .i64 xs[j]):=by
 rcases R.sl_inv h with⟨h0,hcs,A,cap,rfl⟩|⟨h0,a,cap,us,rfl,hnc,hcm,hz,hat,hus⟩
 ·have:xs=[]:=List.eq_nil_of_length_eq_zero h0
  subst this
  exact .inl ⟨rfl,_,_,rfl⟩
 ·have hus:=Zpr hus
  subst hus
  have hsp:a.spot=none:=Zlg (w:=w) (v:= .int .i64 xs[0]) (by
   have:=hat 0 (.int .i64 xs[0]) (by simp[h0])
   have e0:a.add 0=a:=by simp[Addr.add]
   rwa[e0] at this)
  obtain⟨b,off,sp⟩:=a
  simp only at hsp
  subst hsp
  refine .inr ⟨b,off,cap,rfl,hz,λj hj=> ?_⟩
  have:=hat j (.int .i64 xs[j]) (by simp[hj])
  rwa[ZaT] at this
structure Zet (B:Nat) (W W':World):Prop where
 os:W'.os=W.os
 tape:W'.tape=W.tape
 output:W'.output=W.output
 size:W.heap.size<=W'.heap.size
 cells:∀(k:Nat) (o:Obj),k≠B->W.heap[k]? =some o->o.isCells=true->W'.heap[k]? =some o
theorem Zet.refl (B:Nat) (W:World):Zet B W W:=⟨rfl,rfl,rfl,Nat.le_refl _,λ_ _ _ h _=>h⟩
theorem Zet.trans {B:Nat} {A C D:World} (h:Zet B A C) (k:Zet B C D):Zet B A D:=
 ⟨k.os.trans h.os,k.tape.trans h.tape,k.output.trans h.output,Nat.le_trans h.size k.size,λi o hi ho hc=>k.cells i o hi (h.cells i o hi ho hc) hc⟩
theorem Zet.put {B:Nat} (W:World) (l:Nat) (o o':Obj) (h:W.heap[l]? =some o) (hc:o.isCells=false):Zet B W (W.putObj l o'):=by
 obtain⟨g1,g2,g3,g4,g5⟩:=grownBy_putObj' W l o'
 refine⟨g1,g2,g3,g4,λk x hk hx hxc=> ?_⟩
 have hlt:=(Array.getElem?_eq_some_iff.1 hx).1
 rw[g5 k hlt (λe=>by injection e with e;subst e;rw[h] at hx;cases hx;rw[hc] at hxc;cases hxc)]
 exact hx
theorem Zet.cell {B:Nat} {W W':World} (h:Zet B W W') {k i:Nat} {v:Value} (hk:k≠B) (hc:W.cell? ⟨k,i,none⟩=some v):W'.cell? ⟨k,i,none⟩=some v:=by
 unfold World.cell? at hc⊢
 simp only at hc⊢
 cases ho:W.heap[k]? with
 |none=>rw[ho] at hc;simp at hc
 |some o=>
  cases o<;>rw[ho] at hc<;>simp at hc
  rw[h.cells k _ hk ho rfl]
  simpa using hc
end Go.Cx
namespace Go.Cx
open Go.ChangeShapes Go.WideShapes
variable {P:Program} {W:World}
theorem blk_pos {H:Type} (d:DataW H):1<=blk d:=by
 cases d with
 |lit l=>cases l<;>simp[blk]
 |slice e s=>simp[blk]
 |agg p=>simp[blk]
 |nil=>simp[blk]
 |ptr d=>simp[blk]
 |iface t d=>simp[blk]
 |map es=>simp[blk]
 |held h=>simp[blk]
theorem Opn.b1 {t:TypeId} {A:List AV->Prop} (h:Opn P W t A):OpnB P W t (λas b=>A as/\1<=b):=λH enc fuel cs x hx=>
 let⟨as,ha,hr⟩:=h H enc fuel cs x hx
 ⟨as,⟨ha,blk_pos _⟩,hr⟩
theorem Zpx {α:Type} (l:List α):(l.map λ_=>1).sum=l.length:=by induction l with|nil=>rfl|cons a l ih=>simp[ih];omega
theorem Zmg {α β:Type} (f:α->β):∀l:List α,(l.flatMap λc=>[f c])=l.map f
 |[]=>rfl
 |a::l=>by rw[List.flatMap_cons,List.map_cons,Zmg f l];rfl
theorem Zjx {α:Type} {enc:α->AV} {p:α->Prop} {wt:α->Nat} {t e:TypeId} (ht:Zab P t=some e) (hk:Zd P e=some 1) (he:OpnB P W e (λas b=>∃c,as=[enc c]/\p c/\wt c<=b)):
  OpnB P W t (λas b=>∃cs:List α,as=[.sl false cs.length (cs.map enc)]/\(∀c∈cs,p c)/\(cs.map wt).sum+1<=b):=
 (Zbt (enc:=λc=>[enc c]) ht hk (by omega) he).mono λas b ⟨cs,h1,h2,h3⟩=>⟨cs,by rw[h1,Zmg],h2,h3⟩
theorem ZuC {t e:TypeId} (ht:Zab P t=some e) (hk:Zd P e=some 1) (hi:P.underlying e=some (.int .i64)):
  OpnB P W t (λas b=>∃cs:List Int,as=[.sl false cs.length (cs.map I)]/\(∀c∈cs,inI c)/\cs.length+1<=b):=
 (Zjx (enc:=I) (p:=inI) (wt:=λ_=>1) ht hk ((ZO hi).b1.mono λas b ⟨⟨n,h1,h2⟩,h3⟩=>⟨n,h1,h2,h3⟩)).mono λas b ⟨cs,h1,h2,h3⟩=>⟨cs,h1,h2,by rwa[Zpx] at h3⟩
theorem Zmh {t e:TypeId} (ht:Zab P t=some e) (hk:Zd P e=some 1) (hi:P.underlying e=some .string):
  OpnB P W t (λas b=>∃cs:List ByteArray,as=[.sl false cs.length (cs.map S)]/\(∀c∈cs,c.size<=maxLen)/\cs.length+1<=b):=
 (Zjx (enc:=S) (p:=λc=>c.size<=maxLen) (wt:=λ_=>1) ht hk ((Zqv hi).b1.mono λas b ⟨⟨n,h1,h2⟩,h3⟩=>⟨n,h1,h2,h3⟩)).mono λas b ⟨cs,h1,h2,h3⟩=>⟨cs,h1,h2,by rwa[Zpx] at h3⟩
theorem Zpy {α:Type} {f:α->Nat}:∀{l:List α} {a:α},a∈l->f a<=(l.map f).sum
 |b::l,a,h=>by
  rw[List.map_cons,List.sum_cons]
  rcases List.mem_cons.1 h with rfl|h
  ·omega
  ·have:=Zpy (f:=f) h;omega
theorem Zmi {α:Type} {f:α->Nat} (hf:∀a,1<=f a):∀l:List α,l.length<=(l.map f).sum
 |[]=>by simp
 |a::l=>by have:=Zmi hf l;have:=hf a;simp only[List.length_cons,List.map_cons,List.sum_cons];omega
end Go.Cx
