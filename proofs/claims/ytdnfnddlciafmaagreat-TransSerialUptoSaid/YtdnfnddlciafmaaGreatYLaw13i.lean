import Derived.Test.YtdnfnddlciafmaaGreatYW5
set_option linter.unusedVariables false
set_option linter.unusedSimpArgs false
namespace Go.Proofs.YtdnfnddlciafmaaGreat
open Go.Cx Tab
set_option maxHeartbeats 400000
set_option maxRecDepth 40000
theorem _root_.Go.Cx.Past.more {s k:StoreR} {B C:Nat} (h:Past s k B) (hB:B≤C):Past s k C:=⟨h.right,h.few.mono hB,h.rows,h.tree,h.next,h.stamp,h.old⟩
theorem ZrA (s:StoreR) (os:List (List CallR)) (l:List CallR) (hb:Zbd s) (hwo:∀o∈os,∀c∈o,c.wf) (hw:∀c∈l,c.wf):Ze Tryz.prog 12 [.agg s.enc,enc1 ZG os,ZG l] (B true):=by
 have h0:=Zbe
 have h1:=ZcE s hb
 have h2:=ZaO l
 cases q1:ZgA s with
 |false=>
  rw[q1] at h1
  refine Pm Tryz.func12 fun hfit=> ?_
  simp[Tryz.f12]
  try simp
  repeat' ((first|((first|refine Tp ?_|refine Tn ?_|refine T2 ?_ ?_)<;>intro h_ e_ n_)|refine Pg h0 ?_|refine Pg h1 ?_|refine Dg 17 10 [] [] ?_|refine Dg 26 23 [] [] ?_|rw[Ip]|rw[In]|rw[Fz]|rw[Gz]|fail)<;>first|simp[e_,n_]|simp|skip)
 |true=>
 rw[q1] at h1
 cases q2:Zba l with
 |false=>
  rw[q2] at h2
  refine Pm Tryz.func12 fun hfit=> ?_
  simp[Tryz.f12]
  try simp
  repeat' ((first|((first|refine Tp ?_|refine Tn ?_|refine T2 ?_ ?_)<;>intro h_ e_ n_)|refine Pg h0 ?_|refine Pg h1 ?_|refine Pg h2 ?_|refine Dg 17 10 [] [] ?_|refine Dg 26 23 [] [] ?_|rw[Ip]|rw[In]|rw[Fz]|rw[Gz]|fail)<;>first|simp[e_,n_]|simp|skip)
 |true=>
 rw[q2] at h2
 by_cases q3:6<os.length
 ·refine Pm Tryz.func12 fun hfit=> ?_
  simp[Tryz.f12]
  have s_:=q3
  try simp[s_]
  repeat' ((first|((first|refine Tp ?_|refine Tn ?_|refine T2 ?_ ?_)<;>intro h_ e_ n_)|refine Pg h0 ?_|refine Pg h1 ?_|refine Pg h2 ?_|refine Dg 17 10 [] [] ?_|refine Dg 26 23 [] [] ?_|rw[Ip]|rw[In]|rw[Fz]|rw[Gz]|fail)<;>first|simp[e_,n_,s_]|simp[s_]|skip)
 obtain⟨hP,hC,hst,R,T,hn⟩:=ZdR q1
 have hll:=Zar q2
 have Tb:=ZbS hP R T
 have h3:=ZcD s (by have:=hC.l;omega)
 have hnb:(beginS s).now.next<1152921504606846976:=hn
 have hk0:(beginS s).looks.length=0:=rfl
 obtain⟨S1,S2,S3⟩:=Zv l Tb
 obtain⟨_,_,p3,p4⟩:=Zas l (beginS s)
 have SER:=fun(k:StoreR) (B:Nat) (P:Past s k B)=>serial hP R T P l
 have hk:(stepsS (beginS s) l).1.looks.length≤1000000:=by omega
 have p4':(stepsS (beginS s) l).1.stamp=s.stamp:=p4
 have h9:=Zgh (stepsS (beginS s) l).1
 have h10:=all_ok (stepsS (beginS s) l).2 (stepsS (beginS s) l).2
 simp only[decide_true] at h10
 have st0:(stepsS (beginS s) (l.drop 0))=stepsS (beginS s) l:=rfl
 have P0:=Past.here hP hC R T
 refine Pm Tryz.func12 fun hfit=> ?_
 simp[Tryz.f12]
 have s_:=q3
 try simp[s_]
 repeat' ((first|((first|refine Tp ?_|refine Tn ?_|refine T2 ?_ ?_)<;>intro h_ e_ n_)|refine Pg h0 ?_|refine Pg h1 ?_|refine Pg h2 ?_|refine Pg h3 ?_|refine Dg 17 10 [] [] ?_|refine Dg 26 23 [] [] ?_|rw[Ip]|rw[In]|rw[Fz]|rw[Gz]|fail)<;>first|simp[e_,n_,s_]|simp[s_]|skip)
 generalize beginS s=bg at*
 generalize stepsS bg l=Z at*
 refine AW.loopG (lit:=fun _=>false) (fun x:Nat×TxnR×List ReplyR=>⟨139,pat [(1,enc1 ZG os),(2,ZG l),(3,.ptr 0 0 0),(7,B true),(8,.ptr 1 0 0),(9,.own 2 x.2.2.length 0 x.2.2.length 6),(10,I x.1)],[.cells 0 s.enc,.cells 0 x.2.1.enc,.cells x.2.2.length (x.2.2.flatMap ReplyR.enc)]⟩) (fun x=>l.length -x.1)
  (fun x=>x.1≤l.length∧x.2.2.length=x.1∧(TxnP x.2.1∧x.2.1.now.next≤bg.now.next+x.1∧x.2.1.looks.length≤7*x.1)∧(stepsS x.2.1 (l.drop x.1)).1=Z.1∧x.2.2++(stepsS x.2.1 (l.drop x.1)).2=Z.2) (0,bg,[]) ?_ ?_ ?_
 ·exact Wk.trans (Wk.ownNil 9 6 (by simp)) Wa
 ·exact⟨by simp,rfl,⟨Tb,by simp,by simp[hk0]⟩,by rw[st0],by rw[st0];simp⟩
 rintro⟨i,g,acc⟩ ⟨g1,g2,⟨k1,k2,k3⟩,g4,g5⟩ A hA
 simp only at g1 g2 k1 k2 k3 g4 g5 hA
 by_cases hi:i<l.length
 ·rw[List.drop_eq_getElem_cons hi] at g4 g5
  have hwi:=Zf hi (by simp only[maxLen];omega)
  obtain⟨K1,K2,K3⟩:=Zv [l[i]] k1
  simp only[stepsS,List.length_cons,List.length_nil] at K1 K2 K3
  have h4:=Zdk g l[i] k1.nrows k1.ntree (by omega) (by omega) (hw _ (List.getElem_mem hi))
  simp only[stepsS] at g4 g5
  generalize stepS g l[i]=X at*
  have hal:(acc++[X.2]).length=acc.length+1:=by simp
  have hm:acc.length+1≤maxLen:=by simp only[maxLen];omega
  have s_:=An @hi (An @hwi (An @hm (@setT_enc)))
  try simp[s_]
  repeat' ((first|((first|refine Tp ?_|refine Tn ?_|refine T2 ?_ ?_)<;>intro h_ e_ n_)|(refine AW.room (AW.room (Dg 9 12 [3,4] [(9,.r 3),(10,.r 4)] ?_));simp[hi])|(exact hA (i+1,X.1,acc++[X.2]) _ (Wk.cutAt _ rfl (by simp) (by simp[setT_enc]) (by simp) (by simp)) ⟨hi,by simp only[hal];omega,⟨K1,by simp only;omega,by simp only;omega⟩,g4,by simpa using g5⟩ (by simp only;omega))|refine Pg h4 ?_|refine Dg 17 10 [] [] ?_|refine Dg 26 23 [] [] ?_|rw[Ip]|rw[In]|rw[Fz]|rw[Gz]|fail)<;>first|simp[e_,n_,s_]|simp[s_]|skip)
 rw[List.drop_eq_nil_of_le (by omega)] at g4 g5
 simp only[stepsS,List.append_nil] at g4 g5
 subst g4 g5
 have hm:Z.2.length≤30:=by omega
 clear hA st0 k1 k2 k3 S2 S3 h3
 have s_:=hi
 try simp[s_]
 repeat' ((first|((first|refine Tp ?_|refine Tn ?_|refine T2 ?_ ?_)<;>intro h_ e_ n_)|refine Dg 17 10 [] [] ?_|refine Dg 26 23 [] [] ?_|rw[Ip]|rw[In]|rw[Fz]|rw[Gz]|fail)<;>first|simp[e_,n_,s_]|simp[s_]|skip)
 generalize Z.1=t at*
 generalize Z.2=told at*
 refine AW.loopG (lit:=fun _=>false) (fun x:Nat×StoreR=>⟨139,pat [(1,enc1 ZG os),(2,ZG l),(3,.ptr 0 0 0),(7,B true),(8,.ptr 1 0 0),(9,.own 2 told.length 0 told.length 6),(13,I x.1)],[.cells 0 x.2.enc,.cells 0 t.enc,.cells told.length (told.flatMap ReplyR.enc)]⟩) (fun x=>os.length -x.1)
  (fun x=>x.1≤os.length∧Past s x.2 (200+513*x.1)∧(viewS x.2 x.2.stamp).next≤1152921504606846976+30*x.1∧x.2.stamp≤1152921504606846976+x.1∧(x.1=0→x.2=s)) (0,s) ?_ ?_ ?_
 ·exact Wa
 ·exact⟨Nat.zero_le _,P0,by simp only;omega,by simp only;omega,fun _=>rfl⟩
 rintro⟨j,k⟩ ⟨g1,P,g3,g4,g5⟩ A2 hA
 simp only at g1 P g3 g4 g5 hA
 by_cases hj:j<os.length
 ·have hwj:=Zf hj (by simp only[maxLen];omega)
  have h5:=ZaO os[j]
  cases q4:Zba os[j] with
  |false=>
   rw[q4] at h5
   have s_:=An @hj (@hwj)
   try simp[s_]
   repeat' ((first|((first|refine Tp ?_|refine Tn ?_|refine T2 ?_ ?_)<;>intro h_ e_ n_)|refine Pg h5 ?_|refine Dg 17 10 [] [] ?_|refine Dg 26 23 [] [] ?_|rw[Ip]|rw[In]|rw[Fz]|rw[Gz]|fail)<;>first|simp[e_,n_,s_]|simp[s_]|skip)
  |true=>
  rw[q4] at h5
  have hlo:=Zar q4
  obtain⟨P',n',s'⟩:=Zkt P os[j]
  have h6:=ZkA k os[j] P.right (P.few.mono (by omega)) (by omega) P.rows P.tree (by omega) (hwo _ (List.getElem_mem hj)) (by omega)
  generalize runS k os[j]=Y at*
  have s_:=An @hj (An @hwj (@setSt_enc))
  try simp[s_]
  repeat' ((first|((first|refine Tp ?_|refine Tn ?_|refine T2 ?_ ?_)<;>intro h_ e_ n_)|(exact hA (j+1,Y.1) _ (Wk.at _ rfl (by simp[setSt_enc]) (by simp[setSt_enc])) ⟨hj,P'.more (by simp only;omega),by simp only;omega,by simp only;omega,fun h=>by simp at h⟩ (by simp only;omega))|refine Pg h5 ?_|refine Pg h6 ?_|refine Dg 17 10 [0] [(0,.w)] ?_|refine Dg 26 23 [] [] ?_|rw[Ip]|rw[In]|rw[Fz]|rw[Gz]|fail)<;>first|simp[e_,n_,s_]|simp[s_]|skip)
 have h5:=ZcE k (P.few.b (by omega))
 cases q4:ZgA k with
 |false=>
  rw[q4] at h5
  have s_:=hj
  try simp[s_]
  repeat' ((first|((first|refine Tp ?_|refine Tn ?_|refine T2 ?_ ?_)<;>intro h_ e_ n_)|refine Pg h5 ?_|refine Dg 17 10 [] [] ?_|refine Dg 26 23 [] [] ?_|rw[Ip]|rw[In]|rw[Fz]|rw[Gz]|fail)<;>first|simp[e_,n_,s_]|simp[s_]|skip)
 |true=>
 rw[q4] at h5
 obtain⟨hP2,hC2,hst2,R2,T2,hn2⟩:=ZdR q4
 have hc:=Zbx k t hP2 (hC2.b (by omega)) S1.rise hk
 have h6:=ZaV k t hP2 (hC2.mono (by omega)) (by omega) S1 hc
 have h7:=Zdc k k
 simp only[decide_true] at h7
 by_cases z:t.was=t.now
 ·have e6:commitS k t=(k,0):=by unfold commitS;rw[if_pos z]
  rw[e6] at h6
  rw[decide_eq_true z] at h9
  have s_:=hj
  try simp[s_]
  repeat' ((first|((first|refine Tp ?_|refine Tn ?_|refine T2 ?_ ?_)<;>intro h_ e_ n_)|refine Pg h5 ?_|refine Pg h6 ?_|refine Pg h7 ?_|refine Pg h9 ?_|refine Dg 17 10 [] [] ?_|refine Dg 26 23 [] [] ?_|rw[Ip]|rw[In]|rw[Fz]|rw[Gz]|fail)<;>first|simp[e_,n_,s_]|simp[s_]|skip)
 rw[decide_eq_false z] at h9
 cases zc:clashS k t with
 |true=>
  have e6:commitS k t=(k,15):=by unfold commitS;rw[if_neg z,if_pos zc]
  rw[e6] at h6
  have hpos:0<os.length:=by
   rcases Nat.eq_zero_or_pos os.length with e|e
   ·exfalso
    have:=g5 (by omega)
    subst this
    rw[ZfR hP p4'] at zc;cases zc
   ·exact e
  have s_:=An @hj (@hpos)
  try simp[s_]
  repeat' ((first|((first|refine Tp ?_|refine Tn ?_|refine T2 ?_ ?_)<;>intro h_ e_ n_)|refine Pg h5 ?_|refine Pg h6 ?_|refine Pg h7 ?_|refine Pg h9 ?_|refine Dg 17 10 [] [] ?_|refine Dg 26 23 [] [] ?_|rw[Ip]|rw[In]|rw[Fz]|rw[Gz]|fail)<;>first|simp[e_,n_,s_]|simp[s_]|skip)
 |false=>
 have e6:commitS k t=(installS k (changesS t.was t.now) t.now.next,0):=by unfold commitS;rw[if_neg z,zc,if_neg (by simp)]
 rw[e6] at h6
 obtain⟨e7,e8⟩:=SER k _ P zc z
 obtain⟨_,f2,_⟩:=ZbR hP2 hC2 S1
 rw[e6] at f2
 have h11:=ZbZ k k.stamp (hC2.b (by omega))
 have h12:=ZpB (viewS k k.stamp) l R2 T2 (by omega) hw (by omega)
 have h13:=ZbZ (installS k (changesS t.was t.now) t.now.next) (k.stamp+1) (f2.b (by omega))
 rw[e8] at h13
 have h14:=Zat (playS (viewS k k.stamp) l).1 (playS (viewS k k.stamp) l).1
 simp only[decide_true] at h14
 have hst':(installS k (changesS t.was t.now) t.now.next).stamp=k.stamp+1:=rfl
 have hwk:IntKind.i64.wrap (k.stamp+1)=k.stamp+1:=Zj (by have:=hP2.stamp;omega) (by omega)
 clear SER e8 f2 hc
 generalize viewS k k.stamp=v at*
 generalize playS v l=Q at*
 obtain⟨f,again⟩:=Q
 simp only at e7 h12 h13 h14
 subst e7
 generalize installS k (changesS t.was t.now) t.now.next=K at*
 have s_:=An @hj (An @hst' (@hwk))
 try simp[s_]
 repeat' ((first|((first|refine Tp ?_|refine Tn ?_|refine T2 ?_ ?_)<;>intro h_ e_ n_)|refine Pg h5 ?_|refine Pg h6 ?_|refine Pg h7 ?_|refine Pg h9 ?_|refine Lg h10 ?_|refine Dg 26 23 [] [(4,.q)] ?_|refine Pg h11 ?_|refine Pg h12 ?_|refine Pg h13 ?_|refine Pg h14 ?_|refine Dg 17 10 [] [] ?_|rw[Ip]|rw[In]|rw[Fz]|rw[Gz]|fail)<;>first|simp[e_,n_,s_]|simp[s_]|skip)
end Go.Proofs.YtdnfnddlciafmaaGreat
