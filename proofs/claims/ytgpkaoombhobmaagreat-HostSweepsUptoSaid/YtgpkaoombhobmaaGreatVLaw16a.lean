import Derived.Test.YtgpkaoombhobmaaGreatVW4
import Derived.Test.YtgpkaoombhobmaaGreatVP2
set_option linter.unusedVariables false
set_option linter.unusedSimpArgs false
namespace Go.Proofs.YtgpkaoombhobmaaGreat
open Go.Cx Tab
set_option maxHeartbeats 400000
set_option maxRecDepth 40000
theorem tnew_ok:Zd Tryz.prog 108 [] (encF newF):=by
 refine Pm Tryz.func108 λhfit=> ?_
 simp[Tryz.f108]
 have s_:=An @newF.eq_1 (An @FSR.enc.eq_1 (@NodeR.enc.eq_1))
 exact WW
theorem snew_ok:Zd Tryz.prog 60 [] (.agg sto0.enc):=by
 have h:=tnew_ok
 refine Pm Tryz.func60 λhfit=> ?_
 have d1_:=D0 2 13 [] []
 simp[Tryz.f60]
 have s_:=An @newF.eq_1 (An @FSR.enc.eq_1 (An @sto0.eq_1 (An @StoreR.enc.eq_1 (An @NodeR.enc.eq_1 (An @ChainR.enc.eq_1 (An @VerR.enc.eq_1 (@CountR.enc.eq_1)))))))
 have e1_:=D0 2 14 [0] []
 have p1_:=h
 exact WW
theorem hnew_ok (l:Int) (hl:1<=l):Zd Tryz.prog 28 [I l] (.tup [.agg (⟨sto0,[],[],0,l⟩:HostR).enc,I 0]):=by
 have h:=snew_ok
 have c:¬l<1:=by omega
 generalize sto0=s at*
 refine Pm Tryz.func28 λhfit=> ?_
 simp[Tryz.f28]
 have s_:=An @c (An @encH7 (@StoreR.enc.eq_1))
 have p1_:=h
 exact WW
theorem Zwp {h:HostR} (H:Zir h) {B:Nat} {N:Int} (X:Near h B N) (hB:B<=80000) (hN:N<=2305843009213693952) (hn:h.now<=1152921504606846976) (hl:h.lease<=9223372036854775807 -h.now):FitH h:=
 ⟨H.rise,by have:=H.few;omega,λo ho=>⟨(H.open_ o ho).t,by have:=(X.opens o ho).1;omega,by have:=(X.opens o ho).2;omega⟩,H.store,X.vers.mono (by omega),by have:=X.stamp;omega,H.rows,Zf (by have:=H.now;have:=H.lease;omega) (by omega)⟩
theorem Zef {h:HostR} {i:Nat} (A:Zcc h i):Near h (10+513*i) (2+i):=⟨A.few,by have:=A.stamp;omega,A.next,λo ho=>⟨(A.open_ o ho).next,by have:=(A.open_ o ho).looks;omega⟩⟩
theorem ZtN {h:HostR} (G:goodH h=true):Zir h/\Near h 300 1152921504606846976/\h.now<1152921504606846976/\h.lease<1152921504606846976/\h.opens.length<=8:=by
 have g:=Zme.1 G
 have g1:=g.store
 simp only[Zmq,Bool.and_eq_true,decide_eq_true_eq] at g1
 obtain⟨a1,a2,a3,a4,a5,a6⟩:=g1
 obtain⟨f1,f2,f3⟩:=Ztu a1
 refine⟨g.host,⟨⟨by omega,by omega,λc hc=>by have:=(f3 c hc).1;omega,λc hc v hv=>by have:=((f3 c hc).2 v hv).2;omega⟩,by omega,by omega,λo ho=> ?_⟩,g.now,g.lease,g.few⟩
 have:=(g.opens o ho).1
 simp only[Zoc,Bool.and_eq_true,decide_eq_true_eq] at this
 exact⟨by omega,this.2.2.1⟩
theorem ZqX:Zd Tryz.prog 8 [] (B true):=by
 have hwf:cA.wf:=by unfold Zi.wf cA;simp only[inI];exact⟨⟨by decide,by decide⟩,⟨by decide,by decide⟩,⟨by decide,by decide⟩,⟨by decide,by decide⟩,⟨by decide,by decide⟩,by decide,by decide,by decide⟩
 have hwz:Zi.wf ⟨0,0,0,0,0,.empty,.empty,.empty⟩:=by unfold Zi.wf;simp only[inI];exact⟨⟨by decide,by decide⟩,⟨by decide,by decide⟩,⟨by decide,by decide⟩,⟨by decide,by decide⟩,⟨by decide,by decide⟩,by decide,by decide,by decide⟩
 obtain⟨a0,a1,a2,a3⟩:=alive_x
 have lease:∀{h:HostR} {i:Nat} (A:Zcc h i),h.lease=5->i<=3->FitH h:=λA hl hi=>Zwp A.host (Zef A) (by omega) (by omega) (by rw[A.now];omega) (by rw[A.now,hl];decide)
 have l1:xh1.1.lease=5:=(Zew a0.host (Zef a0) xm1).2.2
 have l2:xh2.1.lease=5:=((Zew a1.host (Zef a1) xm2).2.2).trans l1
 have l3:xh3.1.lease=5:=((Zew a2.host (Zef a2) xm3).2.2).trans l2
 have h0:=hnew_ok 5 (by decide)
 have h1:Zd Tryz.prog 11 [.agg xh0.enc,.agg xm1.enc] (.tup [.agg xh1.1.enc,.agg xh1.2.enc]):=Zfy xh0 xm1 (lease a0 rfl (by omega)) hwz
 have h2:Zd Tryz.prog 11 [.agg xh1.1.enc,.agg xm2.enc] (.tup [.agg xh2.1.enc,.agg xh2.2.enc]):=Zfy xh1.1 xm2 (lease a1 l1 (by omega)) hwf
 have h3:Zd Tryz.prog 11 [.agg xh2.1.enc,.agg xm3.enc] (.tup [.agg xh3.1.enc,.agg xh3.2.enc]):=Zfy xh2.1 xm3 (lease a2 l2 (by omega)) hwf
 have h4:Zd Tryz.prog 11 [.agg xh3.1.enc,.agg xm4.enc] (.tup [.agg xh4.1.enc,.agg xh4.2.enc]):=Zfy xh3.1 xm4 (lease a3 l3 (by omega)) hwf
 obtain⟨t1,t2,t3,t4,t5,t6⟩:=xh_told
 have e2:(⟨#[97]⟩:ByteArray)=T [97]:=rfl
 have em1:xm1.enc=[I 1,I 1,I 1,I 1,I 0,I 0,I 0,I 0,I 0,I 0,I 0,S .empty,S .empty,S .empty]:=rfl
 have em2:xm2.enc=[I 2,I 1,I 1,I 1,I 1,I 1,I 6,I 1,I 0,I 0,I 0,S (T [97]),S .empty,S .empty]:=rfl
 have em3:xm3.enc=[I 3,I 1,I 1,I 1,I 1,I 1,I 6,I 1,I 0,I 0,I 0,S (T [97]),S .empty,S .empty]:=rfl
 have em4:xm4.enc=[I 5,I 1,I 1,I 1,I 1,I 1,I 6,I 1,I 0,I 0,I 0,S (T [97]),S .empty,S .empty]:=rfl
 rw[em1] at h1
 rw[em2] at h2
 rw[em3] at h3
 rw[em4] at h4
 have ex0:AV.agg (⟨sto0,[],[],0,5⟩:HostR).enc= .agg xh0.enc:=rfl
 rw[ex0] at h0
 clear hwf hwz a0 a1 a2 a3 lease l1 l2 l3 em1 em2 em3 em4 ex0
 generalize xh0=X0 at*
 generalize xh1=X1 at*
 generalize xh2=X2 at*
 generalize xh3=X3 at*
 generalize xh4=X4 at*
 refine Pm Tryz.func8 λhfit=> ?_
 simp[Tryz.f8]
 have s_:=An @t1 (An @t2 (An @t3 (An @t4 (An @t5 (An @t6 (An @e2 (@setH_enc)))))))
 exact WW
end Go.Proofs.YtgpkaoombhobmaaGreat
