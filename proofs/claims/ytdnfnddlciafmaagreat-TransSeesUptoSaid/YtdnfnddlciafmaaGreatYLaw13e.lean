import Derived.Test.YtdnfnddlciafmaaGreatYW5
set_option linter.unusedVariables false
set_option linter.unusedSimpArgs false
namespace Go.Proofs.YtdnfnddlciafmaaGreat
open Go.Cx Tab
set_option maxHeartbeats 400000
set_option maxRecDepth 40000
theorem ZwH (w:Zh) (hwf:w.wf) (hb:Zbd w.s):Ze Tryz.prog 17 [.agg w.enc] (B true):=by
 obtain⟨s,l,others,c⟩:=w
 obtain⟨_,hw,hwo,hc⟩:=hwf
 simp only at hb hw hwo hc
 have h0:=Zbe
 have h1:=ZcE s hb
 have h2:=ZaO l
 have h2b:=ZaO others
 have h2c:=ZaO [c]
 cases q1:ZgA s with
 |false=>
  rw[q1] at h1
  refine Pm Tryz.func17 fun hfit=> ?_
  simp[Tryz.f17]
  try simp
  repeat' ((first|((first|refine Tp ?_|refine Tn ?_|refine T2 ?_ ?_)<;>intro h_ e_ n_)|refine Pg h0 ?_|refine Pg h1 ?_|refine Dg 13 16 [] [] ?_|rw[Ip]|rw[In]|rw[Fz]|rw[Gz]|fail)<;>first|simp[e_,n_]|simp|skip)
 |true=>
 rw[q1] at h1
 cases q2:Zba l with
 |false=>
  rw[q2] at h2
  refine Pm Tryz.func17 fun hfit=> ?_
  simp[Tryz.f17]
  try simp
  repeat' ((first|((first|refine Tp ?_|refine Tn ?_|refine T2 ?_ ?_)<;>intro h_ e_ n_)|refine Pg h0 ?_|refine Pg h1 ?_|refine Pg h2 ?_|refine Dg 13 16 [] [] ?_|rw[Ip]|rw[In]|rw[Fz]|rw[Gz]|fail)<;>first|simp[e_,n_]|simp|skip)
 |true=>
 rw[q2] at h2
 cases q3:Zba others with
 |false=>
  rw[q3] at h2b
  refine Pm Tryz.func17 fun hfit=> ?_
  simp[Tryz.f17]
  try simp
  repeat' ((first|((first|refine Tp ?_|refine Tn ?_|refine T2 ?_ ?_)<;>intro h_ e_ n_)|refine Pg h0 ?_|refine Pg h1 ?_|refine Pg h2 ?_|refine Pg h2b ?_|refine Dg 13 16 [] [] ?_|rw[Ip]|rw[In]|rw[Fz]|rw[Gz]|fail)<;>first|simp[e_,n_]|simp|skip)
 |true=>
 rw[q3] at h2b
 cases q4:Zba [c] with
 |false=>
  rw[q4] at h2c
  refine Pm Tryz.func17 fun hfit=> ?_
  simp[Tryz.f17]
  have s_:= @CallR.enc.eq_1
  try simp[s_]
  repeat' ((first|((first|refine Tp ?_|refine Tn ?_|refine T2 ?_ ?_)<;>intro h_ e_ n_)|refine Pg h0 ?_|refine Pg h1 ?_|refine Pg h2 ?_|refine Pg h2b ?_|refine Lg h2c ?_|refine Dg 13 16 [] [] ?_|rw[Ip]|rw[In]|rw[Fz]|rw[Gz]|fail)<;>first|simp[e_,n_,s_]|simp[s_]|skip)
 |true=>
 rw[q4] at h2c
 obtain⟨hP,hC,hst,R,T,hn⟩:=ZdR q1
 have hll:=Zar q2
 have hlo:=Zar q3
 have Tb:=ZbS hP R T
 have h3:=ZcD s (by have:=hC.l;omega)
 have h4:=ZdU (beginS s) l Tb (by show(viewS s s.stamp).next+_<_;omega) (by simp[beginS]) hw (by omega)
 obtain⟨S1,S2,S3⟩:=Zv l Tb
 obtain⟨p1,p2,p3,p4⟩:=Zas l (beginS s)
 have hk0:(beginS s).looks.length=0:=rfl
 have hk:(stepsS (beginS s) l).1.looks.length≤1000000:=by omega
 have p1':(playS (viewS s s.stamp) l).1=(stepsS (beginS s) l).1.now:=p1.symm
 have p3':(stepsS (beginS s) l).1.was=viewS s s.stamp:=p3
 have p4':(stepsS (beginS s) l).1.stamp=s.stamp:=p4
 have hnb:(beginS s).now.next<1152921504606846976:=hn
 obtain⟨P,_,_⟩:=Zkt (Past.here hP hC R T) others
 have h5:=ZbZ s s.stamp hb
 have h6:=ZpB (viewS s s.stamp) l R T (by omega) hw (by omega)
 have h7:=ZkA s others hP (hC.mono (by omega)) (by omega) R T (by omega) hwo (by omega)
 have h8:=Zdk (stepsS (beginS s) l).1 c S1.nrows S1.ntree (by omega) (by omega) hc
 have h9:=ZpA (stepsS (beginS s) l).1.now c S1.nrows S1.ntree (by omega) hc
 have h10:=ZbZ (runS s others).1 s.stamp (P.few.b (by omega))
 rw[P.old] at h10
 have h11:=Zat (viewS s s.stamp) (viewS s s.stamp)
 have h12:=ZgO (doS (stepsS (beginS s) l).1.now c).2 (doS (stepsS (beginS s) l).1.now c).2
 simp only[decide_true] at h11 h12
 rw[←p3'] at h11
 have e8:(stepS (stepsS (beginS s) l).1 c).2=(doS (stepsS (beginS s) l).1.now c).2:=rfl
 clear P S1 S2 S3 Tb hk0 p1 p2 p3 p4 hk
 generalize playS (viewS s s.stamp) l=Z at*
 obtain⟨f,r0⟩:=Z
 simp only at p1'
 subst p1'
 generalize stepsS (beginS s) l=X at*
 obtain⟨t,out⟩:=X
 simp only at p3' p4' h4 h6 h8 h9 h11 h12 e8
 generalize runS s others=Y at*
 generalize beginS s=bg at*
 generalize stepS t c=U at*
 generalize doS t.now c=V at*
 obtain⟨u1,u2⟩:=U
 simp only at e8
 subst e8
 rw[p3'] at h11
 refine Pm Tryz.func17 fun hfit=> ?_
 simp[Tryz.f17]
 have s_:=An @CallR.enc.eq_1 (An @wasT (An @p3' (@p4')))
 try simp[s_]
 repeat' ((first|((first|refine Tp ?_|refine Tn ?_|refine T2 ?_ ?_)<;>intro h_ e_ n_)|refine Pg h0 ?_|refine Pg h1 ?_|refine Pg h2 ?_|refine Pg h2b ?_|refine Lg h2c ?_|refine Pg h3 ?_|refine Pg h4 ?_|refine Pg h5 ?_|refine Pg h6 ?_|refine Pg h7 ?_|refine Pg h8 ?_|refine Pg h9 ?_|refine Pg h10 ?_|refine Pg h11 ?_|refine Pg h12 ?_|refine Dg 13 16 [] [] ?_|rw[Ip]|rw[In]|rw[Fz]|rw[Gz]|fail)<;>first|simp[e_,n_,s_]|simp[s_]|skip)
end Go.Proofs.YtdnfnddlciafmaaGreat
