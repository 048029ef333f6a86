import Derived.Test.YtdnfnddlciafmaaGreatYW5
set_option linter.unusedVariables false
set_option linter.unusedSimpArgs false
namespace Go.Proofs.YtdnfnddlciafmaaGreat
open Go.Cx Tab
set_option maxHeartbeats 400000
set_option maxRecDepth 40000
theorem Zuz (s:StoreR) (a b:List CallR) (hb:Zbd s) (ha:∀c∈a,c.wf) (hbw:∀c∈b,c.wf):Ze Tryz.prog 16 [.agg s.enc,ZG a,ZG b] (B true):=by
 have h0:=Zbe
 have h1:=ZcE s hb
 have h2:=ZaO a
 have h2b:=ZaO b
 cases q1:ZgA s with
 |false=>
  rw[q1] at h1
  refine Pm Tryz.func16 fun hfit=> ?_
  simp[Tryz.f16]
  try simp
  repeat' ((first|((first|refine Tp ?_|refine Tn ?_|refine T2 ?_ ?_)<;>intro h_ e_ n_)|refine Pg h0 ?_|refine Pg h1 ?_|refine Dg 14 13 [] [] ?_|rw[Ip]|rw[In]|rw[Fz]|rw[Gz]|fail)<;>first|simp[e_,n_]|simp|skip)
 |true=>
 rw[q1] at h1
 cases q2:Zba a with
 |false=>
  rw[q2] at h2
  refine Pm Tryz.func16 fun hfit=> ?_
  simp[Tryz.f16]
  try simp
  repeat' ((first|((first|refine Tp ?_|refine Tn ?_|refine T2 ?_ ?_)<;>intro h_ e_ n_)|refine Pg h0 ?_|refine Pg h1 ?_|refine Pg h2 ?_|refine Dg 14 13 [] [] ?_|rw[Ip]|rw[In]|rw[Fz]|rw[Gz]|fail)<;>first|simp[e_,n_]|simp|skip)
 |true=>
 rw[q2] at h2
 cases q3:Zba b with
 |false=>
  rw[q3] at h2b
  refine Pm Tryz.func16 fun hfit=> ?_
  simp[Tryz.f16]
  try simp
  repeat' ((first|((first|refine Tp ?_|refine Tn ?_|refine T2 ?_ ?_)<;>intro h_ e_ n_)|refine Pg h0 ?_|refine Pg h1 ?_|refine Pg h2 ?_|refine Pg h2b ?_|refine Dg 14 13 [] [] ?_|rw[Ip]|rw[In]|rw[Fz]|rw[Gz]|fail)<;>first|simp[e_,n_]|simp|skip)
 |true=>
 rw[q3] at h2b
 obtain⟨hP,hC,hst,R,T,hn⟩:=ZdR q1
 have hla:=Zar q2
 have hlb:=Zar q3
 have Tb:=ZbS hP R T
 have h3:=ZcD s (by have:=hC.l;omega)
 have h4:=ZdU (beginS s) a Tb (by show(viewS s s.stamp).next+_<_;omega) (by simp[beginS]) ha (by omega)
 have h5:=ZdU (beginS s) b Tb (by show(viewS s s.stamp).next+_<_;omega) (by simp[beginS]) hbw (by omega)
 have AP:=apart hP R T hC a b
 obtain⟨X1,X2,X3⟩:=Zv a Tb
 obtain⟨Y1,Y2,Y3⟩:=Zv b Tb
 obtain⟨_,_,x3,x4⟩:=Zas a (beginS s)
 obtain⟨_,_,y3,y4⟩:=Zas b (beginS s)
 have hk0:(beginS s).looks.length=0:=rfl
 have xk:(stepsS (beginS s) a).1.looks.length≤1000000:=by omega
 have yk:(stepsS (beginS s) b).1.looks.length≤1000000:=by omega
 have x3':(stepsS (beginS s) a).1.was=viewS s s.stamp:=x3
 have y3':(stepsS (beginS s) b).1.was=viewS s s.stamp:=y3
 have x4':(stepsS (beginS s) a).1.stamp=s.stamp:=x4
 have y4':(stepsS (beginS s) b).1.stamp=s.stamp:=y4
 clear hk0 x3 x4 y3 y4 X2 X3 Y2 Y3 Tb
 generalize stepsS (beginS s) a=X at*
 generalize stepsS (beginS s) b=Y at*
 generalize beginS s=bg at*
 obtain⟨x,xo⟩:=X
 obtain⟨y,yo⟩:=Y
 simp only at X1 Y1 x3' y3' x4' y4' xk yk h4 h5 AP
 obtain⟨cx1,cx2,_,_,cx5,_⟩:=ZbF hP hC X1 x3' x4'
 obtain⟨cy1,cy2,_,_,cy5,_⟩:=ZbF hP hC Y1 y3' y4'
 have c1:=ZaV s x hP (hC.mono (by omega)) (by omega) X1 (Zbx s x hP hb X1.rise xk)
 have c2:=ZaV s y hP (hC.mono (by omega)) (by omega) Y1 (Zbx s y hP hb Y1.rise yk)
 have c3:=ZaV (commitS s x).1 y cx2.right (cx2.few.mono (by omega)) (by omega) Y1 (Zbx _ y cx2.right (cx2.few.b (by omega)) Y1.rise yk)
 have c4:=ZaV (commitS s y).1 x cy2.right (cy2.few.mono (by omega)) (by omega) X1 (Zbx _ x cy2.right (cy2.few.b (by omega)) X1.rise xk)
 obtain⟨_,r2,_⟩:=ZbR cx2.right cx2.few Y1
 obtain⟨_,t2,_⟩:=ZbR cy2.right cy2.few X1
 have v1:=ZbZ (commitS (commitS s x).1 y).1 (commitS (commitS s x).1 y).1.stamp (r2.b (by omega))
 have v2:=ZbZ (commitS (commitS s y).1 x).1 (commitS (commitS s y).1 x).1.stamp (t2.b (by omega))
 clear cx2 cy2 cx5 cy5 r2 t2
 generalize commitS (commitS s x).1 y=K2 at*
 generalize commitS (commitS s y).1 x=M2 at*
 generalize commitS s x=K1 at*
 generalize commitS s y=M1 at*
 obtain⟨k1,e1⟩:=K1
 obtain⟨m1,e2⟩:=M1
 simp only at cx1 cy1 c1 c2 c3 c4
 subst cx1 cy1
 by_cases zf:K2.2=0
 ·by_cases zh:M2.2=0
  ·rw[AP zf zh] at v1
   have s1:=Zat (viewS M2.1 M2.1.stamp) (viewS M2.1 M2.1.stamp)
   simp only[decide_true] at s1
   clear AP
   generalize viewS M2.1 M2.1.stamp=V at*
   refine Pm Tryz.func16 fun hfit=> ?_
   simp[Tryz.f16]
   have s_:=An @zf (An @zh (@setSt_enc))
   try simp[s_]
   repeat' ((first|((first|refine Tp ?_|refine Tn ?_|refine T2 ?_ ?_)<;>intro h_ e_ n_)|refine Pg h0 ?_|refine Pg h1 ?_|refine Pg h2 ?_|refine Pg h2b ?_|refine Pg h3 ?_|refine Pg h4 ?_|refine Pg h5 ?_|refine Pg c1 ?_|refine Pg c2 ?_|refine Pg c3 ?_|refine Pg c4 ?_|refine Pg v1 ?_|refine Pg v2 ?_|refine Pg s1 ?_|refine Dg 14 13 [] [] ?_|rw[Ip]|rw[In]|rw[Fz]|rw[Gz]|fail)<;>first|simp[e_,n_,s_]|simp[s_]|skip)
  ·clear AP v1 v2
   refine Pm Tryz.func16 fun hfit=> ?_
   simp[Tryz.f16]
   have s_:=An @zf (An @zh (@setSt_enc))
   try simp[s_]
   repeat' ((first|((first|refine Tp ?_|refine Tn ?_|refine T2 ?_ ?_)<;>intro h_ e_ n_)|refine Pg h0 ?_|refine Pg h1 ?_|refine Pg h2 ?_|refine Pg h2b ?_|refine Pg h3 ?_|refine Pg h4 ?_|refine Pg h5 ?_|refine Pg c1 ?_|refine Pg c2 ?_|refine Pg c3 ?_|refine Pg c4 ?_|refine Dg 14 13 [] [] ?_|rw[Ip]|rw[In]|rw[Fz]|rw[Gz]|fail)<;>first|simp[e_,n_,s_]|simp[s_]|skip)
 ·clear AP v1 v2
  refine Pm Tryz.func16 fun hfit=> ?_
  simp[Tryz.f16]
  have s_:=An @zf (@setSt_enc)
  try simp[s_]
  repeat' ((first|((first|refine Tp ?_|refine Tn ?_|refine T2 ?_ ?_)<;>intro h_ e_ n_)|refine Pg h0 ?_|refine Pg h1 ?_|refine Pg h2 ?_|refine Pg h2b ?_|refine Pg h3 ?_|refine Pg h4 ?_|refine Pg h5 ?_|refine Pg c1 ?_|refine Pg c2 ?_|refine Pg c3 ?_|refine Pg c4 ?_|refine Dg 14 13 [] [] ?_|rw[Ip]|rw[In]|rw[Fz]|rw[Gz]|fail)<;>first|simp[e_,n_,s_]|simp[s_]|skip)
end Go.Proofs.YtdnfnddlciafmaaGreat
