import Derived.Test.YtdnfnddlciafmaaGreatYW5
set_option linter.unusedVariables false
set_option linter.unusedSimpArgs false
namespace Go.Proofs.YtdnfnddlciafmaaGreat
open Go.Cx Tab
set_option maxHeartbeats 400000
set_option maxRecDepth 40000
theorem ZuA {t:TxnR} (h:Zmt t=true):TxnP t∧t.looks.length≤300∧t.now.next<1152921504606846976:=by
 simp only[Zmt,Bool.and_eq_true,decide_eq_true_eq] at h
 exact⟨(ZhX t).1 h.2.2.2.2,h.2.2.1,h.2.2.2.1⟩
theorem ZnE (s:StoreR) (t:TxnR) (l:List CallR) (hb:Zbd s) (hw:∀c∈l,c.wf):Ze Tryz.prog 11 [.agg s.enc,.agg t.enc,ZG l] (B true):=by
 have h0:=Zbe
 have h1:=ZcE s hb
 have h1b:=ZgP t
 have h2:=ZaO l
 cases q1:ZgA s with
 |false=>
  rw[q1] at h1
  refine Pm Tryz.func11 fun hfit=> ?_
  simp[Tryz.f11]
  try simp
  repeat' ((first|((first|refine Tp ?_|refine Tn ?_|refine T2 ?_ ?_)<;>intro h_ e_ n_)|refine Pg h0 ?_|refine Pg h1 ?_|refine Dg 9 19 [] [] ?_|rw[Ip]|rw[In]|rw[Fz]|rw[Gz]|fail)<;>first|simp[e_,n_]|simp|skip)
 |true=>
 rw[q1] at h1
 cases q3:Zmt t with
 |false=>
  rw[q3] at h1b
  refine Pm Tryz.func11 fun hfit=> ?_
  simp[Tryz.f11]
  try simp
  repeat' ((first|((first|refine Tp ?_|refine Tn ?_|refine T2 ?_ ?_)<;>intro h_ e_ n_)|refine Pg h0 ?_|refine Pg h1 ?_|refine Pg h1b ?_|refine Dg 9 19 [] [] ?_|rw[Ip]|rw[In]|rw[Fz]|rw[Gz]|fail)<;>first|simp[e_,n_]|simp|skip)
 |true=>
 rw[q3] at h1b
 cases q2:Zba l with
 |false=>
  rw[q2] at h2
  refine Pm Tryz.func11 fun hfit=> ?_
  simp[Tryz.f11]
  try simp
  repeat' ((first|((first|refine Tp ?_|refine Tn ?_|refine T2 ?_ ?_)<;>intro h_ e_ n_)|refine Pg h0 ?_|refine Pg h1 ?_|refine Pg h1b ?_|refine Pg h2 ?_|refine Dg 9 19 [] [] ?_|rw[Ip]|rw[In]|rw[Fz]|rw[Gz]|fail)<;>first|simp[e_,n_]|simp|skip)
 |true=>
 rw[q2] at h2
 obtain⟨hP,hC,hst,R,T,hn⟩:=ZdR q1
 obtain⟨hT,hk,hnx⟩:=ZuA q3
 have hll:=Zar q2
 have Tb:=ZbS hP R T
 obtain⟨S1,S2,S3⟩:=Zv l Tb
 have hk0:(beginS s).looks.length=0:=rfl
 have h3:=Zbx s t hP hb hT.rise (by omega)
 have h4:=ZaV s t hP (hC.mono (by omega)) (by omega) hT h3
 have h5:=Zms s t hb
 have h6:=ZjG s t hP (hC.mono (by omega)) (by omega) hT
 have h7:=run_ok s l hP (hC.mono (by omega)) (by omega) R T (by omega) hw (by omega) (Zbx s _ hP hb S1.rise (by omega))
 have h8:=ZkA s l hP (hC.mono (by omega)) (by omega) R T (by omega) hw (by omega)
 have h9:=Zdc (commitS s t).1 (commitS s t).1
 have h10:=Zdc (runS s l).1 (runS s l).1
 have h11:=all_ok (runS s l).2 (runS s l).2
 simp only[decide_true] at h9 h10 h11
 clear S1 S2 S3 Tb hk0
 generalize commitS s t=K at*
 generalize runS s l=X at*
 generalize clashS s t=b at*
 refine Pm Tryz.func11 fun hfit=> ?_
 simp[Tryz.f11]
 try simp
 repeat' ((first|((first|refine Tp ?_|refine Tn ?_|refine T2 ?_ ?_)<;>intro h_ e_ n_)|refine Pg h0 ?_|refine Pg h1 ?_|refine Pg h1b ?_|refine Pg h2 ?_|refine Pg h3 ?_|refine Pg h4 ?_|refine Pg h5 ?_|refine Pg h6 ?_|refine Pg h7 ?_|refine Pg h8 ?_|refine Pg h9 ?_|refine Pg h10 ?_|refine Pg h11 ?_|refine Dg 9 19 [] [] ?_|rw[Ip]|rw[In]|rw[Fz]|rw[Gz]|fail)<;>first|simp[e_,n_]|simp|skip)
end Go.Proofs.YtdnfnddlciafmaaGreat
