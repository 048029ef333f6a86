import Derived.Test.YtdnfnddlciafmaaGreatYW5
set_option linter.unusedVariables false
set_option linter.unusedSimpArgs false
namespace Go.Proofs.YtdnfnddlciafmaaGreat
open Go.Cx Tab
set_option maxHeartbeats 400000
set_option maxRecDepth 40000
theorem ZuA {t:TxnR} (h:Zmt t=true):TxnP t∧t.looks.length≤300∧t.now.next<1152921504606846976:=by
 simp only[Zmt,Bool.and_eq_true,decide_eq_true_eq] at h
 exact⟨(ZhX t).1 h.2.2.2.2,h.2.2.1,h.2.2.2.1⟩
theorem ZuC {l:List Int} {i:Nat} {n:Int} {b:Bool} (hi:i<l.length) (hb:b=true↔n∈l.take i):(b=true∨l[i]=n)↔n∈l.take (i+1):=by
 rw[List.take_succ_eq_append_getElem hi,List.mem_append,List.mem_singleton,hb]
 exact⟨fun h=>h.imp id Eq.symm,fun h=>h.imp id Eq.symm⟩
theorem ZnF (t:TxnR) (c:CallR) (n:Int) (hc:c.wf):Ze Tryz.prog 13 [.agg t.enc,encC c,I n] (B true):=by
 have h0:=Zbe
 have h1:=ZgP t
 have h2:=ZaO [c]
 cases q1:Zmt t with
 |false=>
  rw[q1] at h1
  refine Pm Tryz.func13 fun hfit=> ?_
  simp[Tryz.f13]
  have s_:= @CallR.enc.eq_1
  try simp[s_]
  repeat' ((first|((first|refine Tp ?_|refine Tn ?_|refine T2 ?_ ?_)<;>intro h_ e_ n_)|refine Pg h0 ?_|refine Pg h1 ?_|rw[Ip]|rw[In]|rw[Fz]|rw[Gz]|fail)<;>first|simp[e_,n_,s_]|simp[s_]|skip)
 |true=>
 rw[q1] at h1
 cases q2:Zba [c] with
 |false=>
  rw[q2] at h2
  refine Pm Tryz.func13 fun hfit=> ?_
  simp[Tryz.f13]
  have s_:= @CallR.enc.eq_1
  try simp[s_]
  repeat' ((first|((first|refine Tp ?_|refine Tn ?_|refine T2 ?_ ?_)<;>intro h_ e_ n_)|refine Pg h0 ?_|refine Pg h1 ?_|refine Lg h2 ?_|rw[Ip]|rw[In]|rw[Fz]|rw[Gz]|fail)<;>first|simp[e_,n_,s_]|simp[s_]|skip)
 |true=>
 rw[q2] at h2
 obtain⟨hT,hk,hnx⟩:=ZuA q1
 have K:=ZcZ hT c
 have hin:n∈t.looks→n∈(stepS t c).1.looks:=fun h=>(Zdb t c n).2 (.inl h)
 have hkl:(stepS t c).1.looks.length≤1000:=by
  obtain⟨_,_,k3⟩:=Zv [c] hT
  have k3':(stepS t c).1.looks.length≤t.looks.length+7*1:=k3
  omega
 have h3:=Zdk t c hT.nrows hT.ntree (by omega) (by omega) hc
 have h4:=ZpA t.now c hT.nrows hT.ntree (by omega) hc
 have h5:=Zgi (stepS t c).1
 rw[(ZhX _).2 K] at h5
 have h6:=Zat t.was t.was
 have h7:=Zat (stepS t c).1.now (stepS t c).1.now
 have h8:=ZgO (stepS t c).2 (stepS t c).2
 simp only[decide_true] at h6 h7 h8
 have e1:(stepS t c).1.now=(doS t.now c).1:=rfl
 have e2:(stepS t c).2=(doS t.now c).2:=rfl
 have e3:(stepS t c).1.was=t.was:=rfl
 have e4:(stepS t c).1.stamp=t.stamp:=rfl
 clear K
 generalize stepS t c=X at*
 generalize doS t.now c=D at*
 obtain⟨k,r⟩:=X
 obtain⟨f,q⟩:=D
 simp only at e1 e2 e3 e4 h3 h4 h5 h7 h8 hin hkl
 subst e1 e2
 refine Pm Tryz.func13 fun hfit=> ?_
 simp[Tryz.f13]
 have s_:=An @CallR.enc.eq_1 (@ReplyR.enc.eq_1)
 try simp[s_]
 repeat' ((first|((first|refine Tp ?_|refine Tn ?_|refine T2 ?_ ?_)<;>intro h_ e_ n_)|refine Pg h0 ?_|refine Pg h1 ?_|refine Lg h2 ?_|refine Pg h3 ?_|refine Pg h4 ?_|rw[Ip]|rw[In]|rw[Fz]|rw[Gz]|fail)<;>first|simp[e_,n_,s_]|simp[s_]|skip)
 refine AW.loopG (lit:=fun _=>false) (fun x:Nat×Bool=>⟨111,pat [(2,I n),(3,.ptr 0 0 0),(7,B true),(8,.ptr 2 0 0),(9,.ptr 3 0 0),(10,.ptr 4 0 0),(11,.ptr 5 0 0),(12,B x.2),(13,B false),(14,I x.1)],[.cells 0 t.enc,.cells 0 c.enc,.cells 0 k.enc,.cells 0 r.enc,.cells 0 k.now.enc,.cells 0 r.enc]⟩) (fun x=>t.looks.length -x.1)
  (fun x=>x.1≤t.looks.length∧(x.2=true↔n∈t.looks.take x.1)) (0,false) ?_ ?_ ?_
 ·exact Wk.at _ rfl (by simp[CallR.enc,ReplyR.enc]) (by simp)
 ·exact⟨Nat.zero_le _,by simp⟩
 rintro⟨i,b⟩ ⟨g1,g2⟩ A hA
 simp only at g1 g2 hA
 by_cases hi:i<t.looks.length
 ·have hwi:=Zf hi (by simp only[maxLen];omega)
  have g3:=ZuC hi g2
  by_cases z:t.looks[i]=n
  ·have g4:n∈t.looks.take (i+1):=g3.1 (.inr z)
   cases b with
   |false=>
    have s_:=An @hi (An @hwi (@z))
    try simp[s_]
    repeat' ((first|((first|refine Tp ?_|refine Tn ?_|refine T2 ?_ ?_)<;>intro h_ e_ n_)|(exact hA (i+1,true) _ Wa ⟨hi,fun _=>g4,fun _=>rfl⟩ (by simp only;omega))|rw[Ip]|rw[In]|rw[Fz]|rw[Gz]|fail)<;>first|simp[e_,n_,s_]|simp[s_]|skip)
   |true=>
    have s_:=An @hi (An @hwi (@z))
    try simp[s_]
    repeat' ((first|((first|refine Tp ?_|refine Tn ?_|refine T2 ?_ ?_)<;>intro h_ e_ n_)|(exact hA (i+1,true) _ Wa ⟨hi,fun _=>g4,fun _=>rfl⟩ (by simp only;omega))|rw[Ip]|rw[In]|rw[Fz]|rw[Gz]|fail)<;>first|simp[e_,n_,s_]|simp[s_]|skip)
  ·cases b with
   |false=>
    have g4:¬n∈t.looks.take (i+1):=fun h=>(g3.2 h).elim (by simp) z
    have s_:=An @hi (An @hwi (@z))
    try simp[s_]
    repeat' ((first|((first|refine Tp ?_|refine Tn ?_|refine T2 ?_ ?_)<;>intro h_ e_ n_)|(exact hA (i+1,false) _ Wa ⟨hi,by simp,fun h=>absurd h g4⟩ (by simp only;omega))|rw[Ip]|rw[In]|rw[Fz]|rw[Gz]|fail)<;>first|simp[e_,n_,s_]|simp[s_]|skip)
   |true=>
    have g4:n∈t.looks.take (i+1):=g3.1 (.inl rfl)
    have s_:=An @hi (An @hwi (@z))
    try simp[s_]
    repeat' ((first|((first|refine Tp ?_|refine Tn ?_|refine T2 ?_ ?_)<;>intro h_ e_ n_)|(exact hA (i+1,true) _ Wa ⟨hi,fun _=>g4,fun _=>rfl⟩ (by simp only;omega))|rw[Ip]|rw[In]|rw[Fz]|rw[Gz]|fail)<;>first|simp[e_,n_,s_]|simp[s_]|skip)
 rw[List.take_of_length_le (by omega)] at g2
 have g6:b=true→n∈k.looks:=fun h=>hin (g2.1 h)
 clear g2 hin hA
 have s_:=hi
 try simp[s_]
 repeat' ((first|((first|refine Tp ?_|refine Tn ?_|refine T2 ?_ ?_)<;>intro h_ e_ n_)|rw[Ip]|rw[In]|rw[Fz]|rw[Gz]|fail)<;>first|simp[e_,n_,s_]|simp[s_]|skip)
 refine AW.loopG (lit:=fun _=>false) (fun x:Nat×Bool=>⟨111,pat [(2,I n),(3,.ptr 0 0 0),(7,B true),(8,.ptr 2 0 0),(9,.ptr 3 0 0),(10,.ptr 4 0 0),(11,.ptr 5 0 0),(12,B b),(13,B x.2),(15,I x.1)],[.cells 0 t.enc,.cells 0 c.enc,.cells 0 k.enc,.cells 0 r.enc,.cells 0 k.now.enc,.cells 0 r.enc]⟩) (fun x=>k.looks.length -x.1)
  (fun x=>x.1≤k.looks.length∧(x.2=true↔n∈k.looks.take x.1)) (0,false) ?_ ?_ ?_
 ·exact Wa
 ·exact⟨Nat.zero_le _,by simp⟩
 rintro⟨j,d⟩ ⟨g1,g2⟩ A2 hA
 simp only at g1 g2 hA
 by_cases hj:j<k.looks.length
 ·have hwj:=Zf hj (by simp only[maxLen];omega)
  have g3:=ZuC hj g2
  by_cases z:k.looks[j]=n
  ·have g4:n∈k.looks.take (j+1):=g3.1 (.inr z)
   cases d with
   |false=>
    have s_:=An @hj (An @hwj (@z))
    try simp[s_]
    repeat' ((first|((first|refine Tp ?_|refine Tn ?_|refine T2 ?_ ?_)<;>intro h_ e_ n_)|(exact hA (j+1,true) _ Wa ⟨hj,fun _=>g4,fun _=>rfl⟩ (by simp only;omega))|rw[Ip]|rw[In]|rw[Fz]|rw[Gz]|fail)<;>first|simp[e_,n_,s_]|simp[s_]|skip)
   |true=>
    have s_:=An @hj (An @hwj (@z))
    try simp[s_]
    repeat' ((first|((first|refine Tp ?_|refine Tn ?_|refine T2 ?_ ?_)<;>intro h_ e_ n_)|(exact hA (j+1,true) _ Wa ⟨hj,fun _=>g4,fun _=>rfl⟩ (by simp only;omega))|rw[Ip]|rw[In]|rw[Fz]|rw[Gz]|fail)<;>first|simp[e_,n_,s_]|simp[s_]|skip)
  ·cases d with
   |false=>
    have g4:¬n∈k.looks.take (j+1):=fun h=>(g3.2 h).elim (by simp) z
    have s_:=An @hj (An @hwj (@z))
    try simp[s_]
    repeat' ((first|((first|refine Tp ?_|refine Tn ?_|refine T2 ?_ ?_)<;>intro h_ e_ n_)|(exact hA (j+1,false) _ Wa ⟨hj,by simp,fun h=>absurd h g4⟩ (by simp only;omega))|rw[Ip]|rw[In]|rw[Fz]|rw[Gz]|fail)<;>first|simp[e_,n_,s_]|simp[s_]|skip)
   |true=>
    have g4:n∈k.looks.take (j+1):=g3.1 (.inl rfl)
    have s_:=An @hj (An @hwj (@z))
    try simp[s_]
    repeat' ((first|((first|refine Tp ?_|refine Tn ?_|refine T2 ?_ ?_)<;>intro h_ e_ n_)|(exact hA (j+1,true) _ Wa ⟨hj,fun _=>g4,fun _=>rfl⟩ (by simp only;omega))|rw[Ip]|rw[In]|rw[Fz]|rw[Gz]|fail)<;>first|simp[e_,n_,s_]|simp[s_]|skip)
 rw[List.take_of_length_le (by omega)] at g2
 have hw3:k.was=t.was:=e3
 cases b with
 |false=>
  have s_:=An @hj (An @e4 (An @wasT (@hw3)))
  try simp[s_]
  repeat' ((first|((first|refine Tp ?_|refine Tn ?_|refine T2 ?_ ?_)<;>intro h_ e_ n_)|refine Pg h5 ?_|refine Pg h6 ?_|refine Pg h7 ?_|refine Pg h8 ?_|rw[Ip]|rw[In]|rw[Fz]|rw[Gz]|fail)<;>first|simp[e_,n_,s_]|simp[s_]|skip)
 |true=>
  have hd:d=true:=g2.2 (g6 rfl)
  subst hd
  have s_:=An @hj (An @e4 (An @wasT (@hw3)))
  try simp[s_]
  repeat' ((first|((first|refine Tp ?_|refine Tn ?_|refine T2 ?_ ?_)<;>intro h_ e_ n_)|refine Pg h5 ?_|refine Pg h6 ?_|refine Pg h7 ?_|refine Pg h8 ?_|rw[Ip]|rw[In]|rw[Fz]|rw[Gz]|fail)<;>first|simp[e_,n_,s_]|simp[s_]|skip)
end Go.Proofs.YtdnfnddlciafmaaGreat
