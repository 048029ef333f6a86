import Derived.Test.YtdnfnddlciafmaaGreatYW5
set_option linter.unusedVariables false
set_option linter.unusedSimpArgs false
namespace Go.Proofs.YtdnfnddlciafmaaGreat
open Go.Cx Tab
set_option maxHeartbeats 400000
set_option maxRecDepth 40000
theorem ZnD (t:TxnR) (c:CallR) (h:c.kind≤3∨13≤c.kind):(stepS t c).1.now=t.now:=ZlW t.now c h
structure Calm (s:StoreR) (t:TxnR) (i:Nat):Prop where
 txn:TxnP t
 was:t.was=viewS s s.stamp
 now:t.now=t.was
 looks:t.looks.length≤7*i
theorem Calm.mono {s:StoreR} {t:TxnR} {i:Nat} (h:Calm s t i):Calm s t (i+1):=⟨h.txn,h.was,h.now,by have:=h.looks;omega⟩
theorem Calm.step {s:StoreR} {t:TxnR} {i:Nat} (h:Calm s t i) {c:CallR} (hc:c.kind≤3∨13≤c.kind):Calm s (stepS t c).1 (i+1):=by
 obtain⟨_,_,k3⟩:=Zv [c] h.txn
 have k3':(stepS t c).1.looks.length≤t.looks.length+7*1:=k3
 have:=h.looks
 exact⟨ZcZ h.txn c,h.was,(ZnD t c hc).trans h.now,by omega⟩
theorem ZwG (s:StoreR) (others l:List CallR) (hb:Zbd s) (hwo:∀c∈others,c.wf) (hw:∀c∈l,c.wf):Ze Tryz.prog 15 [.agg s.enc,ZG others,ZG l] (B true):=by
 have h0:=Zbe
 have h1:=ZcE s hb
 have h2:=ZaO l
 have h2b:=ZaO others
 cases q1:ZgA s with
 |false=>
  rw[q1] at h1
  refine Pm Tryz.func15 fun hfit=> ?_
  simp[Tryz.f15]
  try simp
  repeat' ((first|((first|refine Tp ?_|refine Tn ?_|refine T2 ?_ ?_)<;>intro h_ e_ n_)|refine Pg h0 ?_|refine Pg h1 ?_|refine Dg 10 10 [] [] ?_|rw[Ip]|rw[In]|rw[Fz]|rw[Gz]|fail)<;>first|simp[e_,n_]|simp|skip)
 |true=>
 rw[q1] at h1
 cases q2:Zba l with
 |false=>
  rw[q2] at h2
  refine Pm Tryz.func15 fun hfit=> ?_
  simp[Tryz.f15]
  try simp
  repeat' ((first|((first|refine Tp ?_|refine Tn ?_|refine T2 ?_ ?_)<;>intro h_ e_ n_)|refine Pg h0 ?_|refine Pg h1 ?_|refine Pg h2 ?_|refine Dg 10 10 [] [] ?_|rw[Ip]|rw[In]|rw[Fz]|rw[Gz]|fail)<;>first|simp[e_,n_]|simp|skip)
 |true=>
 rw[q2] at h2
 cases q3:Zba others with
 |false=>
  rw[q3] at h2b
  refine Pm Tryz.func15 fun hfit=> ?_
  simp[Tryz.f15]
  try simp
  repeat' ((first|((first|refine Tp ?_|refine Tn ?_|refine T2 ?_ ?_)<;>intro h_ e_ n_)|refine Pg h0 ?_|refine Pg h1 ?_|refine Pg h2 ?_|refine Pg h2b ?_|refine Dg 10 10 [] [] ?_|rw[Ip]|rw[In]|rw[Fz]|rw[Gz]|fail)<;>first|simp[e_,n_]|simp|skip)
 |true=>
 rw[q3] at h2b
 obtain⟨hP,hC,hst,R,T,hn⟩:=ZdR q1
 have hll:=Zar q2
 have hlo:=Zar q3
 have Tb:=ZbS hP R T
 have h3:=ZcD s (by have:=hC.l;omega)
 obtain⟨P,_,P3⟩:=Zkt (Past.here hP hC R T) others
 have h4:=ZkA s others hP (hC.mono (by omega)) (by omega) R T (by omega) hwo (by omega)
 have hC0:Calm s (beginS s) 0:=⟨Tb,rfl,rfl,Nat.zero_le _⟩
 refine Pm Tryz.func15 fun hfit=> ?_
 simp[Tryz.f15]
 try simp
 repeat' ((first|((first|refine Tp ?_|refine Tn ?_|refine T2 ?_ ?_)<;>intro h_ e_ n_)|refine Pg h0 ?_|refine Pg h1 ?_|refine Pg h2 ?_|refine Pg h2b ?_|refine Pg h3 ?_|refine Dg 10 10 [] [] ?_|rw[Ip]|rw[In]|rw[Fz]|rw[Gz]|fail)<;>first|simp[e_,n_]|simp|skip)
 refine AW.loopG (lit:=fun _=>false) (fun x:Nat×TxnR=>⟨88,pat [(1,ZG others),(2,ZG l),(3,.ptr 0 0 0),(7,B true),(8,.ptr 1 0 0),(9,I x.1)],[.cells 0 s.enc,.cells 0 x.2.enc]⟩) (fun x=>l.length -x.1)
  (fun x=>x.1≤l.length∧Calm s x.2 x.1) (0,beginS s) ?_ ?_ ?_
 ·exact Wa
 ·exact⟨Nat.zero_le _,hC0⟩
 rintro⟨i,t⟩ ⟨g1,g2⟩ A hA
 simp only at g1 g2 hA
 by_cases hi:i<l.length
 ·have hwi:=Zf hi (by simp only[maxLen];omega)
  have hnn:=g2.txn.nrows
  have h5:=Zdk t l[i] g2.txn.nrows g2.txn.ntree (by rw[g2.now,g2.was];omega) (by have:=g2.looks;omega) (hw _ (List.getElem_mem hi))
  by_cases k1:l[i].kind≤3
  ·have G:=g2.step (c:=l[i]) (.inl k1)
   generalize stepS t l[i]=X at*
   have s_:=An @hi (An @hwi (An @k1 (@setT_enc)))
   try simp[s_]
   repeat' ((first|((first|refine Tp ?_|refine Tn ?_|refine T2 ?_ ?_)<;>intro h_ e_ n_)|(exact hA (i+1,X.1) _ (Wk.at _ rfl (by simp[setT_enc]) (by simp[setT_enc])) ⟨hi,G⟩ (by simp only;omega))|refine Pg h5 ?_|refine Dg 10 10 [1] [(0,.w)] ?_|rw[Ip]|rw[In]|rw[Fz]|rw[Gz]|fail)<;>first|simp[e_,n_,s_]|simp[s_]|skip)
  by_cases k2:13≤l[i].kind
  ·have G:=g2.step (c:=l[i]) (.inr k2)
   generalize stepS t l[i]=X at*
   have s_:=An @hi (An @hwi (An @k1 (An @k2 (@setT_enc))))
   try simp[s_]
   repeat' ((first|((first|refine Tp ?_|refine Tn ?_|refine T2 ?_ ?_)<;>intro h_ e_ n_)|(exact hA (i+1,X.1) _ (Wk.at _ rfl (by simp[setT_enc]) (by simp[setT_enc])) ⟨hi,G⟩ (by simp only;omega))|refine Pg h5 ?_|refine Dg 10 10 [1] [(0,.w)] ?_|rw[Ip]|rw[In]|rw[Fz]|rw[Gz]|fail)<;>first|simp[e_,n_,s_]|simp[s_]|skip)
  ·have s_:=An @hi (An @hwi (An @k1 (@k2)))
   try simp[s_]
   repeat' ((first|((first|refine Tp ?_|refine Tn ?_|refine T2 ?_ ?_)<;>intro h_ e_ n_)|(exact hA (i+1,t) _ Wa ⟨hi,g2.mono⟩ (by simp only;omega))|refine Dg 10 10 [] [] ?_|rw[Ip]|rw[In]|rw[Fz]|rw[Gz]|fail)<;>first|simp[e_,n_,s_]|simp[s_]|skip)
 have hc:=Zbx (runS s others).1 t P.right (P.few.b (by omega)) g2.txn.rise (by have:=g2.looks;omega)
 have h5:=ZaV (runS s others).1 t P.right (P.few.mono (by omega)) (by omega) g2.txn hc
 have e5:commitS (runS s others).1 t=((runS s others).1,0):=by unfold commitS;rw[if_pos g2.now.symm]
 rw[e5] at h5
 have h6:=Zgh t
 have h7:=Zdc (runS s others).1 (runS s others).1
 rw[decide_eq_true g2.now.symm] at h6
 simp only[decide_true] at h7
 clear hc P P3 g2 e5
 generalize runS s others=Y at*
 have s_:=An @hi (@StoreR.enc.eq_1)
 try simp[s_]
 repeat' ((first|((first|refine Tp ?_|refine Tn ?_|refine T2 ?_ ?_)<;>intro h_ e_ n_)|refine Pg h4 ?_|refine Pg h5 ?_|refine Pg h6 ?_|refine Pg h7 ?_|refine Dg 10 10 [] [] ?_|rw[Ip]|rw[In]|rw[Fz]|rw[Gz]|fail)<;>first|simp[e_,n_,s_]|simp[s_]|skip)
end Go.Proofs.YtdnfnddlciafmaaGreat
