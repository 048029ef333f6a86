import Derived.Test.YtdnfnddlciafmaaGreatYLaw13f
set_option linter.unusedVariables false
set_option linter.unusedSimpArgs false
namespace Go.Proofs.YtdnfnddlciafmaaGreat
open Go.Cx Tab
set_option maxHeartbeats 400000
set_option maxRecDepth 40000
theorem ZuB (w:Za) (hwf:w.wf) (hb:Zbd w.s) (hl:w.t.looks.length≤2000000):Ze Tryz.prog 18 [.agg w.enc] (B true):=by
 obtain⟨s,t,c,o⟩:=w
 obtain⟨_,_,hc,_⟩:=hwf
 simp only at hb hl hc
 have h0:=Zbe
 have h1:=Zmf t.was
 have h2:=Zmf t.now
 have h3:=ZaO [c]
 cases q1:fewS t.was with
 |false=>
  rw[q1] at h1
  refine Pm Tryz.func18 fun hfit=> ?_
  simp[Tryz.f18]
  have s_:= @CallR.enc.eq_1
  try simp[s_]
  repeat' ((first|((first|refine Tp ?_|refine Tn ?_|refine T2 ?_ ?_)<;>intro h_ e_ n_)|refine Pg h0 ?_|refine Pg h1 ?_|refine Dg 8 5 [] [] ?_|refine Dg 14 27 [] [] ?_|refine Dg 15 24 [] [] ?_|rw[Ip]|rw[In]|rw[Fz]|rw[Gz]|fail)<;>first|simp[e_,n_,s_]|simp[s_]|skip)
 |true=>
 rw[q1] at h1
 cases q2:fewS t.now with
 |false=>
  rw[q2] at h2
  refine Pm Tryz.func18 fun hfit=> ?_
  simp[Tryz.f18]
  have s_:= @CallR.enc.eq_1
  try simp[s_]
  repeat' ((first|((first|refine Tp ?_|refine Tn ?_|refine T2 ?_ ?_)<;>intro h_ e_ n_)|refine Pg h0 ?_|refine Pg h1 ?_|refine Pg h2 ?_|refine Dg 8 5 [] [] ?_|refine Dg 14 27 [] [] ?_|refine Dg 15 24 [] [] ?_|rw[Ip]|rw[In]|rw[Fz]|rw[Gz]|fail)<;>first|simp[e_,n_,s_]|simp[s_]|skip)
 |true=>
 rw[q2] at h2
 cases q3:Zba [c] with
 |false=>
  rw[q3] at h3
  refine Pm Tryz.func18 fun hfit=> ?_
  simp[Tryz.f18]
  have s_:= @CallR.enc.eq_1
  try simp[s_]
  repeat' ((first|((first|refine Tp ?_|refine Tn ?_|refine T2 ?_ ?_)<;>intro h_ e_ n_)|refine Pg h0 ?_|refine Pg h1 ?_|refine Pg h2 ?_|refine Lg h3 ?_|refine Dg 8 5 [] [] ?_|refine Dg 14 27 [] [] ?_|refine Dg 15 24 [] [] ?_|rw[Ip]|rw[In]|rw[Fz]|rw[Gz]|fail)<;>first|simp[e_,n_,s_]|simp[s_]|skip)
 |true=>
 rw[q3] at h3
 have h4:=Zvl t hl
 have h5:=Zgi t
 have h6:=ZcE s hb
 have h7:=ZgP t
 have h8:=ZgP o
 cases q4:ZgA s with
 |false=>
  rw[q4] at h6
  generalize rightTx t=b at*
  refine Pm Tryz.func18 fun hfit=> ?_
  simp[Tryz.f18]
  have s_:= @CallR.enc.eq_1
  try simp[s_]
  repeat' ((first|((first|refine Tp ?_|refine Tn ?_|refine T2 ?_ ?_)<;>intro h_ e_ n_)|refine Pg h0 ?_|refine Pg h1 ?_|refine Pg h2 ?_|refine Lg h3 ?_|refine Pg h4 ?_|refine Pg h5 ?_|refine Pg h6 ?_|refine Dg 8 5 [] [] ?_|refine Dg 14 27 [] [] ?_|refine Dg 15 24 [] [] ?_|rw[Ip]|rw[In]|rw[Fz]|rw[Gz]|fail)<;>first|simp[e_,n_,s_]|simp[s_]|skip)
 |true=>
 rw[q4] at h6
 cases q5:Zmt t with
 |false=>
  rw[q5] at h7
  generalize rightTx t=b at*
  refine Pm Tryz.func18 fun hfit=> ?_
  simp[Tryz.f18]
  have s_:= @CallR.enc.eq_1
  try simp[s_]
  repeat' ((first|((first|refine Tp ?_|refine Tn ?_|refine T2 ?_ ?_)<;>intro h_ e_ n_)|refine Pg h0 ?_|refine Pg h1 ?_|refine Pg h2 ?_|refine Lg h3 ?_|refine Pg h4 ?_|refine Pg h5 ?_|refine Pg h6 ?_|refine Pg h7 ?_|refine Dg 8 5 [] [] ?_|refine Dg 14 27 [] [] ?_|refine Dg 15 24 [] [] ?_|rw[Ip]|rw[In]|rw[Fz]|rw[Gz]|fail)<;>first|simp[e_,n_,s_]|simp[s_]|skip)
 |true=>
 rw[q5] at h7
 cases q6:Zmt o with
 |false=>
  rw[q6] at h8
  generalize rightTx t=b at*
  refine Pm Tryz.func18 fun hfit=> ?_
  simp[Tryz.f18]
  have s_:= @CallR.enc.eq_1
  try simp[s_]
  repeat' ((first|((first|refine Tp ?_|refine Tn ?_|refine T2 ?_ ?_)<;>intro h_ e_ n_)|refine Pg h0 ?_|refine Pg h1 ?_|refine Pg h2 ?_|refine Lg h3 ?_|refine Pg h4 ?_|refine Pg h5 ?_|refine Pg h6 ?_|refine Pg h7 ?_|refine Pg h8 ?_|refine Dg 8 5 [] [] ?_|refine Dg 14 27 [] [] ?_|refine Dg 15 24 [] [] ?_|rw[Ip]|rw[In]|rw[Fz]|rw[Gz]|fail)<;>first|simp[e_,n_,s_]|simp[s_]|skip)
 |true=>
 rw[q6] at h8
 obtain⟨hP,hC,hst,R,T,hn⟩:=ZdR q4
 obtain⟨hT,hk,hnx⟩:=ZuA q5
 have h9:=Zdk t c hT.nrows hT.ntree (by omega) (by omega) hc
 have h10:=ZpK t c hT.nrows hT.ntree (by omega) hT.rise (by omega) hc
 have h11:=Zis (stepS t c).1 (stepS t c).1
 have h12:=ZgO (stepS t c).2 (stepS t c).2
 have h13:=ZcD s (by have:=hC.l;omega)
 have h14:=Zmp s hb
 have h15:=Zis (beginS s) (beginS s)
 have h16:=ZpJ t.now c hT.nrows
 have h17:=Zmq t.now c hT.nrows
 have h18:=ZpC (touchS t.now c) (touchS t.now c)
 simp only[decide_true] at h11 h12 h15 h18
 have h19:=Zxu t o
 have h20:=Zis t o
 have h21:=Zgh t
 have h22:=Zat t.was t.now
 clear hT hP hC R T
 generalize stepS t c=X at*
 generalize beginS s=bg at*
 generalize touchS t.now c=L at*
 generalize decide (t=o)=d1 at*
 generalize decide (t.was=t.now)=d2 at*
 generalize rightTx t=b at*
 refine Pm Tryz.func18 fun hfit=> ?_
 simp[Tryz.f18]
 have s_:=An @CallR.enc.eq_1 (@ReplyR.enc.eq_1)
 try simp[s_]
 repeat' ((first|((first|refine Tp ?_|refine Tn ?_|refine T2 ?_ ?_)<;>intro h_ e_ n_)|refine Pg h0 ?_|refine Pg h1 ?_|refine Pg h2 ?_|refine Lg h3 ?_|refine Pg h4 ?_|refine Pg h5 ?_|refine Pg h6 ?_|refine Pg h7 ?_|refine Pg h8 ?_|refine Pg h9 ?_|refine Pg h10 ?_|refine Pg h11 ?_|refine Pg h12 ?_|refine Pg h13 ?_|refine Pg h14 ?_|refine Pg h15 ?_|refine Pg h16 ?_|refine Pg h17 ?_|refine Pg h18 ?_|refine Pg h19 ?_|refine Pg h20 ?_|refine Pg h21 ?_|refine Pg h22 ?_|refine Dg 8 5 [] [] ?_|refine Dg 14 27 [] [] ?_|refine Dg 15 24 [] [] ?_|rw[Ip]|rw[In]|rw[Fz]|rw[Gz]|fail)<;>first|simp[e_,n_,s_]|simp[s_]|skip)
end Go.Proofs.YtdnfnddlciafmaaGreat
