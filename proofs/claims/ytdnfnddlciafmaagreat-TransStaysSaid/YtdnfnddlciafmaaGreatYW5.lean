import Derived.Test.YtdnfnddlciafmaaGreatYW4
import Derived.Test.YtdnfnddlciafmaaGreatYW2
import Derived.Test.YtdnfnddlciafmaaGreatYP1
import Derived.Test.YtdnfnddlciafmaaGreatYP2
import Derived.Test.YtdnfnddlciafmaaGreatRows
import Derived.JoinedCond
set_option linter.unusedVariables false
set_option linter.unusedSimpArgs false
namespace Go.Proofs.YtdnfnddlciafmaaGreat
open Go.Cx Tab
set_option maxHeartbeats 400000
set_option maxRecDepth 40000
def store0:StoreR:=⟨[⟨1,[⟨1,false,⟨1,2,0,.empty,[]⟩⟩]⟩],[⟨1,2⟩],1⟩
theorem Zuw:Ze Tryz.prog 102 [] (.agg store0.enc):=by
 have h:=Zuv
 refine Pm Tryz.func102 fun hfit=> ?_
 simp[Tryz.f102,store0,StoreR.enc,ChainR.enc,VerR.enc,CountR.enc,NodeR.enc]
 have s_:=An @newF.eq_1 (An @FSR.enc.eq_1 (An @NodeR.enc.eq_1 (An @ChainR.enc.eq_1 (An @VerR.enc.eq_1 (@CountR.enc.eq_1)))))
 try simp[s_]
 repeat' ((first|((first|refine Tp ?_|refine Tn ?_|refine T2 ?_ ?_)<;>intro h_ e_ n_)|refine Pg h ?_|rw[Ip]|rw[In]|rw[Fz]|rw[Gz]|fail)<;>first|simp[e_,n_,s_]|simp[s_]|skip)
theorem ZdQ:ZJ store0:=by
 have hn:nodeOk ⟨1,2,0,.empty,[]⟩=true:=by decide+kernel
 refine⟨by decide,fun c hc=> ?_,by simp[store0],by simp[store0],by simp[store0],fun c hc=> ?_⟩
 ·simp only[store0,List.mem_cons,List.not_mem_nil,or_false] at hc
  subst hc
  refine⟨by decide,by simp,by simp,fun v hv=> ?_,fun v hv=> ?_⟩
  ·simp only[List.mem_cons,List.not_mem_nil,or_false] at hv
   subst hv;decide
  ·simp only[List.mem_cons,List.not_mem_nil,or_false] at hv
   subst hv
   exact⟨fun h=>(by cases h),fun _=>⟨hn,rfl⟩⟩
 ·simp only[store0,List.mem_cons,List.not_mem_nil,or_false] at hc
  subst hc;decide
theorem ZfS:Zbv 10 store0:=⟨by decide,by decide,by decide+kernel,by decide+kernel⟩
theorem view0:viewS store0 1=newF:=by decide+kernel
def txn1:TxnR:=⟨1,newF,fA,[0,1]⟩
theorem begin0:beginS store0=⟨1,newF,newF,[]⟩:=by
 have e:viewS store0 store0.stamp=newF:=view0
 unfold beginS
 rw[e];rfl
theorem touch0:touchS newF cA=[0,1]:=by decide+kernel
theorem step0:stepS ⟨1,newF,newF,[]⟩ cA=(txn1,⟨0,2,0,0,.empty,[]⟩):=by
 unfold stepS
 simp only
 rw[doA,touch0]
 have:numsS ([]++[0,1]:List Int)=[0,1]:=by decide+kernel
 rw[this];rfl
theorem steps0:stepsS ⟨1,newF,newF,[]⟩ [cA]=(txn1,[⟨0,2,0,0,.empty,[]⟩]):=by
 simp only[stepsS,step0]
theorem newN:Zi newF:=(ZgG newF).1 rowsN
theorem newT:ZF newF:=ZdI.tree newN ((ZhM newF).1 (by decide+kernel:rightF newF=true)).2
theorem Zek:TxnP txn1:=by
 have h:=ZcZ (t:=⟨1,newF,newF,[]⟩) ⟨newN,newT,newN,newT,Int.le_refl _,by decide,rfl,by simp⟩ cA
 rw[step0] at h
 exact h
theorem clash0:clashS store0 txn1=false:=by decide+kernel
theorem was1:txn1.was≠txn1.now:=by decide+kernel
theorem Zux:commitS store0 txn1=(installS store0 (changesS newF fA) 3,0):=by
 unfold commitS
 rw[if_neg was1,clash0,if_neg (by simp)];rfl
theorem clash1:clashS (installS store0 (changesS newF fA) 3) txn1=true:=by decide+kernel
theorem Zbe:Ze Tryz.prog 44 [] (B true):=by
 have hwf:cA.wf:=by unfold CallR.wf cA;simp only[inI];exact⟨⟨by decide,by decide⟩,⟨by decide,by decide⟩,⟨by decide,by decide⟩,⟨by decide,by decide⟩,⟨by decide,by decide⟩,by decide,by decide,by decide⟩
 have v0:viewS store0 store0.stamp=newF:=view0
 have K:=ZbR ZdQ ZfS Zek
 rw[Zux] at K
 obtain⟨K1,K2,_⟩:=K
 have h0:=Zuw
 have hC0:=Zbx store0 txn1 ZdQ (ZfS.b (by decide)) Zek.rise (by decide)
 have h1:=run_ok store0 [cA] ZdQ (ZfS.mono (by decide)) (by decide) (by rw[v0];exact newN) (by rw[v0];exact newT) (by rw[v0];decide) (by simpa using hwf) (by decide) (by rw[begin0,steps0];exact hC0)
 have h2:=ZcD store0 (by decide)
 have h3:=Zdk ⟨1,newF,newF,[]⟩ cA newN newT (by decide) (by decide) hwf
 have h4:=Zbx (installS store0 (changesS newF fA) 3) txn1 K1 (K2.b (by decide)) Zek.rise (by decide)
 have h5:=ZaV (installS store0 (changesS newF fA) 3) txn1 K1 (K2.mono (by decide)) (by decide) Zek h4
 have h6:=Zgh txn1
 rw[decide_eq_false was1] at h6
 have hc5:commitS (installS store0 (changesS newF fA) 3) txn1=(installS store0 (changesS newF fA) 3,15):=by
  unfold commitS
  rw[if_neg was1,if_pos clash1]
 rw[hc5] at h5
 rw[clash1] at h4
 unfold runS at h1
 rw[begin0] at h1 h2
 rw[steps0] at h1
 simp only[Zux] at h1
 rw[step0] at h3
 have hst:(installS store0 (changesS newF fA) 3).stamp=2:=rfl
 generalize installS store0 (changesS newF fA) 3=S1 at*
 generalize txn1=T1 at*
 generalize store0=S0 at*
 clear K1 K2 hC0 v0 hc5
 have e1:encC cA= .agg [I 6,I 1,I 0,I 0,I 0,S (T [97]),S .empty,S .empty]:=rfl
 have e1':cA.enc=[I 6,I 1,I 0,I 0,I 0,S (T [97]),S .empty,S .empty]:=rfl
 have e2:(⟨#[97]⟩:ByteArray)=T [97]:=rfl
 refine Pm Tryz.func44 fun hfit=> ?_
 simp[Tryz.f44]
 have s_:=An @e1 (An @e1' (An @e2 (An @hst (An @StoreR.enc.eq_1 (An @TxnR.enc.eq_1 (An @FSR.enc.eq_1 (@ReplyR.enc.eq_1)))))))
 try simp[s_]
 repeat' ((first|((first|refine Tp ?_|refine Tn ?_|refine T2 ?_ ?_)<;>intro h_ e_ n_)|(refine AW.room (AW.room (Dg 4 10 [3,4] [(7,.r 3),(8,.r 4)] ?_));simp[e2])|refine Pg h0 ?_|refine Sg h1 ?_|refine Pg h2 ?_|refine Pg h3 ?_|refine Pg h4 ?_|refine Pg h5 ?_|refine Pg h6 ?_|rw[Ip]|rw[In]|rw[Fz]|rw[Gz]|fail)<;>first|simp[e_,n_,s_]|simp[s_]|skip)
theorem ZdR {s:StoreR} (h:ZgA s=true):ZJ s∧Zbv 200 s∧s.stamp<1152921504606846976∧Zi (viewS s s.stamp)∧ZF (viewS s s.stamp)∧(viewS s s.stamp).next<1152921504606846976:=by
 simp only[ZgA,Bool.and_eq_true,decide_eq_true_eq] at h
 obtain⟨h1,h2,h3,h4,h5,h6⟩:=h
 obtain⟨f1,f2,f3⟩:=Zuk h1
 obtain⟨R,F⟩:=(ZhM _).1 h5
 exact⟨Zgg.1 h2,⟨f1,f2,fun c hc=>(f3 c hc).1,fun c hc v hv=>by have:=((f3 c hc).2 v hv).2;omega⟩,h3,R,F.tree R,h6⟩
theorem wasT (t:TxnR):List.take 2 t.enc.tail=t.was.enc:=rfl
theorem Zuy (s:StoreR) (l:List CallR) (hb:Zbd s) (hw:∀c∈l,c.wf):Ze Tryz.prog 14 [.agg s.enc,ZG l] (B true):=by
 have h0:=Zbe
 have h1:=ZcE s hb
 have h2:=ZaO l
 cases q1:ZgA s with
 |false=>
  rw[q1] at h1
  refine Pm Tryz.func14 fun hfit=> ?_
  simp[Tryz.f14]
  try simp
  repeat' ((first|((first|refine Tp ?_|refine Tn ?_|refine T2 ?_ ?_)<;>intro h_ e_ n_)|refine Pg h0 ?_|refine Pg h1 ?_|refine Dg 7 30 [] [] ?_|rw[Ip]|rw[In]|rw[Fz]|rw[Gz]|fail)<;>first|simp[e_,n_]|simp|skip)
 |true=>
 rw[q1] at h1
 cases q2:Zba l with
 |false=>
  rw[q2] at h2
  refine Pm Tryz.func14 fun hfit=> ?_
  simp[Tryz.f14]
  try simp
  repeat' ((first|((first|refine Tp ?_|refine Tn ?_|refine T2 ?_ ?_)<;>intro h_ e_ n_)|refine Pg h0 ?_|refine Pg h1 ?_|refine Pg h2 ?_|refine Dg 7 30 [] [] ?_|rw[Ip]|rw[In]|rw[Fz]|rw[Gz]|fail)<;>first|simp[e_,n_]|simp|skip)
 |true=>
 rw[q2] at h2
 obtain⟨hP,hC,hst,R,T,hn⟩:=ZdR q1
 have hll:=Zar q2
 have Tb:=ZbS hP R T
 have h3:=ZcD s (by have:=hC.l;omega)
 have h4:=ZdU (beginS s) l Tb (by show(viewS s s.stamp).next+_<_;omega) (by simp[beginS]) hw (by omega)
 obtain⟨S1,S2,S3⟩:=Zv l Tb
 obtain⟨p1,p2,p3,p4⟩:=Zas l (beginS s)
 have hk0:(beginS s).looks.length=0:=rfl
 have hk:(stepsS (beginS s) l).1.looks.length≤1000000:=by omega
 have p3':(stepsS (beginS s) l).1.was=viewS s s.stamp:=p3
 have p4':(stepsS (beginS s) l).1.stamp=s.stamp:=p4
 clear hk0 p1 p2 p3 p4 S2 S3 Tb
 generalize stepsS (beginS s) l=X at*
 obtain⟨t,out⟩:=X
 simp only at S1 p3' p4' hk h4
 obtain⟨c1,c2,c3,c4,c5,c6⟩:=ZbF hP hC S1 p3' p4'
 have h5:=Zbx s t hP hb S1.rise hk
 have h6:=ZaV s t hP (hC.mono (by omega)) (by omega) S1 h5
 rw[ZfR hP p4'] at h5
 have h7:=ZbZ (commitS s t).1 (commitS s t).1.stamp (c2.few.b (by omega))
 rw[c3] at h7
 have h8:=Zat t.now t.now
 simp only[decide_true] at h8
 have h9:=Zgh t
 have h10:=Zdc (commitS s t).1 s
 rw[show decide ((commitS s t).1=s)=decide (t.was=t.now) from decide_eq_decide.2 c4] at h10
 have h11:=Ziq (commitS s t).1
 rw[Zgg.2 c2.right] at h11
 clear c2 c3 c4 c5 c6
 generalize commitS s t=K at*
 obtain⟨k,e⟩:=K
 simp only at c1 h7 h10 h11
 subst c1
 generalize decide (t.was=t.now)=b at*
 generalize beginS s=bg at*
 refine Pm Tryz.func14 fun hfit=> ?_
 simp[Tryz.f14]
 have s_:=An @StoreR.enc.eq_1 (An @TxnR.enc.eq_1 (@FSR.enc.eq_1))
 try simp[s_]
 repeat' ((first|((first|refine Tp ?_|refine Tn ?_|refine T2 ?_ ?_)<;>intro h_ e_ n_)|refine Pg h0 ?_|refine Pg h1 ?_|refine Pg h2 ?_|refine Pg h3 ?_|refine Pg h4 ?_|refine Pg h5 ?_|refine Pg h6 ?_|refine Pg h7 ?_|refine Pg h8 ?_|refine Pg h9 ?_|refine Pg h10 ?_|refine Pg h11 ?_|refine Dg 7 30 [] [] ?_|rw[Ip]|rw[In]|rw[Fz]|rw[Gz]|fail)<;>first|simp[e_,n_,s_]|simp[s_]|skip)
end Go.Proofs.YtdnfnddlciafmaaGreat
namespace Go.Proofs.YtdnfnddlciafmaaGreat
open Go.Cx Tab Go.ChangeShapes Go.WideShapes
set_option maxHeartbeats 1600000
set_option maxRecDepth 100000
theorem and_tt {a b:Bool} (ha:a=true) (hb:b=true):(a&&b)=true:=by rw[ha,hb];rfl
theorem own:ownKnob Tryz.prog.godebug=none:=by kernel_rfl
theorem laid:laidOutB Tryz.prog=true:=by kernel_rfl
section
variable {W:World}
theorem oEntry:Opn Tryz.prog W 121 (fun xs=>∃c:EntryR,xs=c.enc∧c.wf):=
 (ZcS tst121 Zxq (.cons (ZcR tus9) ts9 (.cons (ZI tui3) ts3 .nil))).mono fun xs h=>by
  obtain⟨_,_,⟨x0,rfl,h0⟩,⟨_,_,⟨x1,rfl,h1⟩,rfl,rfl⟩,rfl⟩:=h
  exact⟨⟨x0,x1⟩,by simp[EntryR.enc],h0,h1⟩
theorem oNode:Opn Tryz.prog W 43 (fun xs=>∃c:NodeR,xs=c.enc∧c.wf):=
 (ZcS tst43 ts43 (.cons (ZI tui3) ts3 (.cons (ZI tui3) ts3 (.cons (ZI tui3) ts3 (.cons (ZcR tus9) ts9 (.cons (Zbl te41 Zxq (by omega) oEntry) ts41 .nil)))))).mono fun xs h=>by
  obtain⟨_,_,⟨x0,rfl,h0⟩,⟨_,_,⟨x1,rfl,h1⟩,⟨_,_,⟨x2,rfl,h2⟩,⟨_,_,⟨x3,rfl,h3⟩,⟨_,_,⟨x4,rfl,h4⟩,rfl,rfl⟩,rfl⟩,rfl⟩,rfl⟩,rfl⟩:=h
  exact⟨⟨x0,x1,x2,x3,x4⟩,by simp[NodeR.enc],h0,h1,h2,h3,h4⟩
theorem oFS:Opn Tryz.prog W 24 (fun xs=>∃c:FSR,xs=c.enc∧c.wf):=
 (ZcS tst24 ts24 (.cons (Zbl te22 ts43 (by omega) oNode) ts22 (.cons (ZI tui3) ts3 .nil))).mono fun xs h=>by
  obtain⟨_,_,⟨x0,rfl,h0⟩,⟨_,_,⟨x1,rfl,h1⟩,rfl,rfl⟩,rfl⟩:=h
  exact⟨⟨x0,x1⟩,by simp[FSR.enc],h0,h1⟩
theorem Zkx:Opn Tryz.prog W 26 (fun xs=>∃c:CallR,xs=c.enc∧c.wf):=
 (ZcS tst26 ts26 (.cons (ZI tui3) ts3 (.cons (ZI tui3) ts3 (.cons (ZI tui3) ts3 (.cons (ZI tui3) ts3 (.cons (ZI tui3) ts3 (.cons (ZcR tus9) ts9 (.cons (ZcR tus9) ts9 (.cons (ZcR tus9) ts9 .nil))))))))).mono fun xs h=>by
  obtain⟨_,_,⟨x0,rfl,h0⟩,⟨_,_,⟨x1,rfl,h1⟩,⟨_,_,⟨x2,rfl,h2⟩,⟨_,_,⟨x3,rfl,h3⟩,⟨_,_,⟨x4,rfl,h4⟩,⟨_,_,⟨x5,rfl,h5⟩,⟨_,_,⟨x6,rfl,h6⟩,⟨_,_,⟨x7,rfl,h7⟩,rfl,rfl⟩,rfl⟩,rfl⟩,rfl⟩,rfl⟩,rfl⟩,rfl⟩,rfl⟩:=h
  exact⟨⟨x0,x1,x2,x3,x4,x5,x6,x7⟩,by simp[CallR.enc],h0,h1,h2,h3,h4,h5,h6,h7⟩
end
end Go.Proofs.YtdnfnddlciafmaaGreat
namespace Go.Proofs.YtdnfnddlciafmaaGreat
open Go.Cx Tab Go.ChangeShapes Go.WideShapes
set_option maxHeartbeats 1600000
set_option maxRecDepth 100000
mutual
theorem blk_le {H:Type}:∀d:DataW H,blk d≤Rows.uptoBulk d
 | .lit l=>by cases l<;>simp[blk,Rows.uptoBulk]
 | .nil=>by simp[blk,Rows.uptoBulk]
 | .ptr d=>by simp[blk,Rows.uptoBulk]
 | .slice elems spare=>by have:=ZaU elems;simp only[blk,Rows.uptoBulk];omega
 | .agg parts=>by have:=ZaU parts;simp only[blk,Rows.uptoBulk];omega
 | .iface t d=>by simp[blk,Rows.uptoBulk]
 | .map es=>by simp[blk,Rows.uptoBulk]
 | .held h=>by simp[blk,Rows.uptoBulk]
theorem ZaU {H:Type}:∀l:List (DataW H),blkAll l≤Rows.uptoBulkAll l
 |[]=>by simp[blkAll,Rows.uptoBulkAll]
 |d::r=>by have:=blk_le d;have:=ZaU r;simp only[blkAll,Rows.uptoBulkAll];omega
end
section
variable {W:World}
theorem oTxn:Opn Tryz.prog W 77 (fun xs=>∃c:TxnR,xs=c.enc∧c.wf):=
 (ZcS Zxp ts77 (.cons (ZI tui3) ts3 (.cons (oFS) ts24 (.cons (oFS) ts24 (.cons (Zlc (enc:=I) (p:=inI) te52 ts3 (ZI tui3)) ts52 .nil))))).mono fun xs h=>by
  obtain⟨_,_,⟨x0,rfl,h0⟩,⟨_,_,⟨x1,rfl,h1⟩,⟨_,_,⟨x2,rfl,h2⟩,⟨_,_,⟨x3,rfl,h3⟩,rfl,rfl⟩,rfl⟩,rfl⟩,rfl⟩:=h
  exact⟨⟨x0,x1,x2,x3⟩,by simp[TxnR.enc],h0,h1,h2,h3⟩
end
def Zil (c:EntryR):Nat:=c.name.size+1+1
def Zmm (c:NodeR):Nat:=c.text.size+1+(c.l.map Zil).sum+1+1
def wtFS (c:FSR):Nat:=(c.l.map Zmm).sum+1+1
def ZjC (c:CallR):Nat:=c.name.size+1+c.name2.size+1+c.text.size+1+1
def ZnN (c:VerR):Nat:=Zmm c.node+1
def Zds (c:ChainR):Nat:=(c.l.map ZnN).sum+1+1
def Zim (c:CountR):Nat:=1
def ZfW (c:StoreR):Nat:=(c.l.map Zds).sum+1+(c.nexts.map Zim).sum+1+1
def Zve (c:TxnR):Nat:=wtFS c.was+wtFS c.now+c.looks.length+1+1
def ZbI (c:Za):Nat:=ZfW c.s+Zve c.t+ZjC c.c+Zve c.other+1
def Zdt (c:Zh):Nat:=ZfW c.s+(c.l.map ZjC).sum+1+(c.others.map ZjC).sum+1+ZjC c.c+1
section
variable {W:World}
theorem bEntry:OpnB Tryz.prog W 121 (fun xs b=>∃c:EntryR,xs=c.enc∧c.wf∧Zil c≤b):=
 (ZZ tst121 Zxq (.cons (Zch tus9) ts9 (.cons ((ZI tui3).b) ts3 .nil))).mono fun xs b h=>by
  obtain⟨b1,l1,⟨_,_,_,_,m0,⟨x0,rfl,h0,g0⟩,⟨_,_,_,_,m1,⟨x1,rfl,h1⟩,rfl,rfl⟩,rfl⟩⟩:=h
  exact⟨⟨x0,x1⟩,by simp[EntryR.enc],⟨h0,h1⟩,by simp only[Zil];omega⟩
theorem bNode:OpnB Tryz.prog W 43 (fun xs b=>∃c:NodeR,xs=c.enc∧c.wf∧Zmm c≤b):=
 (ZZ tst43 ts43 (.cons ((ZI tui3).b) ts3 (.cons ((ZI tui3).b) ts3 (.cons ((ZI tui3).b) ts3 (.cons (Zch tus9) ts9 (.cons (ZbO te41 Zxq (by omega) bEntry) ts41 .nil)))))).mono fun xs b h=>by
  obtain⟨b1,l1,⟨_,_,_,_,m0,⟨x0,rfl,h0⟩,⟨_,_,_,_,m1,⟨x1,rfl,h1⟩,⟨_,_,_,_,m2,⟨x2,rfl,h2⟩,⟨_,_,_,_,m3,⟨x3,rfl,h3,g3⟩,⟨_,_,_,_,m4,⟨x4,rfl,h4,g4⟩,rfl,rfl⟩,rfl⟩,rfl⟩,rfl⟩,rfl⟩⟩:=h
  exact⟨⟨x0,x1,x2,x3,x4⟩,by simp[NodeR.enc],⟨h0,h1,h2,h3,h4⟩,by simp only[Zmm];omega⟩
theorem bFS:OpnB Tryz.prog W 24 (fun xs b=>∃c:FSR,xs=c.enc∧c.wf∧wtFS c≤b):=
 (ZZ tst24 ts24 (.cons (ZbO te22 ts43 (by omega) bNode) ts22 (.cons ((ZI tui3).b) ts3 .nil))).mono fun xs b h=>by
  obtain⟨b1,l1,⟨_,_,_,_,m0,⟨x0,rfl,h0,g0⟩,⟨_,_,_,_,m1,⟨x1,rfl,h1⟩,rfl,rfl⟩,rfl⟩⟩:=h
  exact⟨⟨x0,x1⟩,by simp[FSR.enc],⟨h0,h1⟩,by simp only[wtFS];omega⟩
theorem Zxi:OpnB Tryz.prog W 26 (fun xs b=>∃c:CallR,xs=c.enc∧c.wf∧ZjC c≤b):=
 (ZZ tst26 ts26 (.cons ((ZI tui3).b) ts3 (.cons ((ZI tui3).b) ts3 (.cons ((ZI tui3).b) ts3 (.cons ((ZI tui3).b) ts3 (.cons ((ZI tui3).b) ts3 (.cons (Zch tus9) ts9 (.cons (Zch tus9) ts9 (.cons (Zch tus9) ts9 .nil))))))))).mono fun xs b h=>by
  obtain⟨b1,l1,⟨_,_,_,_,m0,⟨x0,rfl,h0⟩,⟨_,_,_,_,m1,⟨x1,rfl,h1⟩,⟨_,_,_,_,m2,⟨x2,rfl,h2⟩,⟨_,_,_,_,m3,⟨x3,rfl,h3⟩,⟨_,_,_,_,m4,⟨x4,rfl,h4⟩,⟨_,_,_,_,m5,⟨x5,rfl,h5,g5⟩,⟨_,_,_,_,m6,⟨x6,rfl,h6,g6⟩,⟨_,_,_,_,m7,⟨x7,rfl,h7,g7⟩,rfl,rfl⟩,rfl⟩,rfl⟩,rfl⟩,rfl⟩,rfl⟩,rfl⟩,rfl⟩⟩:=h
  exact⟨⟨x0,x1,x2,x3,x4,x5,x6,x7⟩,by simp[CallR.enc],⟨h0,h1,h2,h3,h4,h5,h6,h7⟩,by simp only[ZjC];omega⟩
theorem bVer:OpnB Tryz.prog W 150 (fun xs b=>∃c:VerR,xs=c.enc∧c.wf∧ZnN c≤b):=
 (ZZ tst150 ts150 (.cons ((ZI tui3).b) ts3 (.cons ((Zwd tub4).b) ts4 (.cons (bNode) ts43 .nil)))).mono fun xs b h=>by
  obtain⟨b1,l1,⟨_,_,_,_,m0,⟨x0,rfl,h0⟩,⟨_,_,_,_,m1,⟨x1,rfl⟩,⟨_,_,_,_,m2,⟨x2,rfl,h2,g2⟩,rfl,rfl⟩,rfl⟩,rfl⟩⟩:=h
  exact⟨⟨x0,x1,x2⟩,by simp[VerR.enc],⟨h0,h2⟩,by simp only[ZnN];omega⟩
theorem bChain:OpnB Tryz.prog W 148 (fun xs b=>∃c:ChainR,xs=c.enc∧c.wf∧Zds c≤b):=
 (ZZ tst148 ts148 (.cons ((ZI tui3).b) ts3 (.cons (ZbO te146 ts150 (by omega) bVer) ts146 .nil))).mono fun xs b h=>by
  obtain⟨b1,l1,⟨_,_,_,_,m0,⟨x0,rfl,h0⟩,⟨_,_,_,_,m1,⟨x1,rfl,h1,g1⟩,rfl,rfl⟩,rfl⟩⟩:=h
  exact⟨⟨x0,x1⟩,by simp[ChainR.enc],⟨h0,h1⟩,by simp only[Zds];omega⟩
theorem bCount:OpnB Tryz.prog W 145 (fun xs b=>∃c:CountR,xs=c.enc∧c.wf∧Zim c≤b):=
 (ZZ tst145 ts145 (.cons ((ZI tui3).b) ts3 (.cons ((ZI tui3).b) ts3 .nil))).mono fun xs b h=>by
  obtain⟨b1,l1,⟨_,_,_,_,m0,⟨x0,rfl,h0⟩,⟨_,_,_,_,m1,⟨x1,rfl,h1⟩,rfl,rfl⟩,rfl⟩⟩:=h
  exact⟨⟨x0,x1⟩,by simp[CountR.enc],⟨h0,h1⟩,by simp only[Zim];omega⟩
theorem Zin:OpnB Tryz.prog W 75 (fun xs b=>∃c:StoreR,xs=c.enc∧c.wf∧ZfW c≤b):=
 (ZZ ZrV ts75 (.cons (ZbO te72 ts148 (by omega) bChain) ts72 (.cons (ZbO te73 ts145 (by omega) bCount) ts73 (.cons ((ZI tui3).b) ts3 .nil)))).mono fun xs b h=>by
  obtain⟨b1,l1,⟨_,_,_,_,m0,⟨x0,rfl,h0,g0⟩,⟨_,_,_,_,m1,⟨x1,rfl,h1,g1⟩,⟨_,_,_,_,m2,⟨x2,rfl,h2⟩,rfl,rfl⟩,rfl⟩,rfl⟩⟩:=h
  exact⟨⟨x0,x1,x2⟩,by simp[StoreR.enc],⟨h0,h1,h2⟩,by simp only[ZfW];omega⟩
theorem bTxn:OpnB Tryz.prog W 77 (fun xs b=>∃c:TxnR,xs=c.enc∧c.wf∧Zve c≤b):=
 (ZZ Zxp ts77 (.cons ((ZI tui3).b) ts3 (.cons (bFS) ts24 (.cons (bFS) ts24 (.cons (Zuu te52 ts3 tui3) ts52 .nil))))).mono fun xs b h=>by
  obtain⟨b1,l1,⟨_,_,_,_,m0,⟨x0,rfl,h0⟩,⟨_,_,_,_,m1,⟨x1,rfl,h1,g1⟩,⟨_,_,_,_,m2,⟨x2,rfl,h2,g2⟩,⟨_,_,_,_,m3,⟨x3,rfl,h3,g3⟩,rfl,rfl⟩,rfl⟩,rfl⟩,rfl⟩⟩:=h
  exact⟨⟨x0,x1,x2,x3⟩,by simp[TxnR.enc],⟨h0,h1,h2,h3⟩,by simp only[Zve];omega⟩
theorem Zky:OpnB Tryz.prog W 104 (fun xs b=>∃c:Za,xs=c.enc∧c.wf∧ZbI c≤b):=
 (ZZ tst104 ts104 (.cons (Zin) ts75 (.cons (bTxn) ts77 (.cons (Zxi) ts26 (.cons (bTxn) ts77 .nil))))).mono fun xs b h=>by
  obtain⟨b1,l1,⟨_,_,_,_,m0,⟨x0,rfl,h0,g0⟩,⟨_,_,_,_,m1,⟨x1,rfl,h1,g1⟩,⟨_,_,_,_,m2,⟨x2,rfl,h2,g2⟩,⟨_,_,_,_,m3,⟨x3,rfl,h3,g3⟩,rfl,rfl⟩,rfl⟩,rfl⟩,rfl⟩⟩:=h
  exact⟨⟨x0,x1,x2,x3⟩,by simp[Za.enc],⟨h0,h1,h2,h3⟩,by simp only[ZbI];omega⟩
theorem Zmn:OpnB Tryz.prog W 101 (fun xs b=>∃c:Zh,xs=c.enc∧c.wf∧Zdt c≤b):=
 (ZZ tst101 ts101 (.cons (Zin) ts75 (.cons (ZbO te30 ts26 (by omega) Zxi) ts30 (.cons (ZbO te30 ts26 (by omega) Zxi) ts30 (.cons (Zxi) ts26 .nil))))).mono fun xs b h=>by
  obtain⟨b1,l1,⟨_,_,_,_,m0,⟨x0,rfl,h0,g0⟩,⟨_,_,_,_,m1,⟨x1,rfl,h1,g1⟩,⟨_,_,_,_,m2,⟨x2,rfl,h2,g2⟩,⟨_,_,_,_,m3,⟨x3,rfl,h3,g3⟩,rfl,rfl⟩,rfl⟩,rfl⟩,rfl⟩⟩:=h
  exact⟨⟨x0,x1,x2,x3⟩,by simp[Zh.enc],⟨h0,h1,h2,h3⟩,by simp only[Zdt];omega⟩
end
section
variable {W:World}
end
theorem Zcq {s:StoreR} (h:ZfW s≤1048576):Zbd s:=by
 simp only[ZfW] at h
 have h1:=Zme (f:=Zds) (fun c=>by simp only[Zds];omega) s.l
 have h2:=Zme (f:=Zim) (fun c=>by simp only[Zim];omega) s.nexts
 refine⟨by omega,by omega,fun c hc=> ?_,fun c hc v hv=> ?_⟩
 ·have g1:=Zpm (f:=Zds) hc
  have g2:=Zme (f:=ZnN) (fun c=>by simp only[ZnN];omega) c.l
  simp only[Zds] at g1
  omega
 ·have g1:=Zpm (f:=Zds) hc
  have g2:=Zpm (f:=ZnN) hv
  have g3:=Zme (f:=Zil) (fun c=>by simp only[Zil];omega) v.node.l
  simp only[Zds] at g1
  simp only[ZnN,Zmm] at g2
  omega
end Go.Proofs.YtdnfnddlciafmaaGreat
