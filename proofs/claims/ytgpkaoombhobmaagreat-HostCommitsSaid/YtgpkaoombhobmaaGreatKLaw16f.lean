import Derived.Test.YtgpkaoombhobmaaGreatKLaw16c
import Derived.Test.YtgpkaoombhobmaaGreatKW4
set_option linter.unusedVariables false
set_option linter.unusedSimpArgs false
namespace Go.Proofs.YtgpkaoombhobmaaGreat
open Go.Cx Tab
set_option maxHeartbeats 8000000
set_option maxRecDepth 40000
theorem ZtN {h:Zk} {i:Nat} (A:Zbw h i) (hi:i<=100) (hl:h.lease<=9223372036854775807):FitH h:=ZoZ A.host (ZbY A) (by omega) (by omega) (by rw[A.now];omega) (by rw[A.now];omega)
theorem ZnM (lease:Int) (l:List MsgR) (m:MsgR) (hle:inI lease) (hw:∀x∈l,x.c.wf) (hm:m.c.wf):Zd Tryz.prog 5 [I lease,encL MsgR.enc l,.agg m.enc] (B true):=by
 have h0:=ZqT
 have h1:=ZtM lease
 have h2:=Zph [m.c]
 by_cases c1:lease<1
 ·have e:newH lease=(⟨⟨[],[],0⟩,[],[],0,0⟩,1):=if_pos c1
  rw[e] at h1
  simp only at h1
  generalize(⟨⟨[],[],0⟩,[],[],0,0⟩:Zk)=H0 at*
  refine Pm Tryz.func5 λhfit=> ?_
  have d1_:=D0 10 10 [] []
  have d2_:=D0 17 14 [] []
  simp[Tryz.f5]
  exact WW
 have e:newH lease=(⟨sto0,[],[],0,lease⟩,0):=if_neg c1
 rw[e] at h1
 simp only at h1
 have a0:Zbw ⟨sto0,[],[],0,lease⟩ 0:=alive0 (by omega)
 have hk0:(⟨sto0,[],[],0,lease⟩:Zk).lease=lease:=rfl
 generalize(⟨sto0,[],[],0,lease⟩:Zk)=H0 at*
 clear e
 by_cases c14:14<l.length
 ·refine Pm Tryz.func5 λhfit=> ?_
  have d1_:=D0 10 10 [] []
  have d2_:=D0 17 14 [] []
  simp[Tryz.f5]
  have s_:=c14
  exact WW
 cases q2:ZhF [m.c] with
 |false=>
  rw[q2] at h2
  refine Pm Tryz.func5 λhfit=> ?_
  have d1_:=D0 10 10 [] []
  have d2_:=D0 17 14 [] []
  simp[Tryz.f5]
  have s_:=An @c14 (An @MsgR.enc.eq_1 (@CallR.enc.eq_1))
  exact WW
 |true=>
 rw[q2] at h2
 have hmx:lease<=9223372036854775807:=by simp only[inI] at hle;omega
 refine Pm Tryz.func5 λhfit=> ?_
 have d1_:=D0 10 10 [] []
 have d2_:=D0 17 14 [] []
 simp[Tryz.f5]
 have s_:=An @c14 (An @MsgR.enc.eq_1 (@CallR.enc.eq_1))
 try simp[s_]
 repeat' ((first|((first|refine Tp ?_|refine Tn ?_|refine T2 ?_ ?_)<;>intro h_ e_ n_)|refine Pg h0 ?_|refine Pg h1 ?_|refine Lg h2 ?_|refine Sg h2 ?_|refine Dg 10 10 [] [] ?_|refine Dg 17 14 [] [] ?_|rw[Ip]|rw[In]|rw[Fz]|rw[Gz]|fail)<;>first|simp[e_,n_,s_]|simp[s_]|skip)
 obtain⟨M,hM⟩:∃M,m.enc=M:=⟨_,rfl⟩
 refine AW.loopG (lit:=λ_=>false) (λx:Nat×Zk=>⟨162,pat [(1,encL MsgR.enc l),(5,.ptr 0 0 0),(7,B true),(8,.ptr 1 0 0),(10,I x.1)],[.cells 0 M,.cells 0 x.2.enc]⟩) (λx=>l.length -x.1) (λx=>x.1<=l.length/\Zbw x.2 x.1/\x.2.lease=lease) (0,H0) ?_ ?_ ?_
 ·exact Wk.at _ rfl (by simp[<-hM,MsgR.enc,CallR.enc]) (by simp)
 ·exact⟨Nat.zero_le _,a0,hk0⟩
 rintro⟨i,k⟩ ⟨g1,g2,g3⟩ A hA
 simp only at g1 g2 g3 hA
 have F:=ZtN g2 (by omega) (by omega)
 by_cases hi:i<l.length
 ·have hwi:=Zf hi (by simp only[maxLen];omega)
  have h3:=Zph [l[i].c]
  cases q3:ZhF [l[i].c] with
  |false=>
   rw[q3] at h3
   have s_:=An @hi (An @MsgR.enc.eq_1 (@CallR.enc.eq_1))
   exact WW
  |true=>
  rw[q3] at h3
  have h4:=Zmj k l[i] F (hw _ (List.getElem_mem hi))
  have g4:Zbw (handleS k l[i]).1 (i+1):=g2.answer (by omega) l[i]
  have g5:(handleS k l[i]).1.lease=lease:=((ZcW g2.host (ZbY g2) l[i]).2.2).trans g3
  generalize handleS k l[i]=X at*
  have s_:=An @hi (An @hwi (An @setH_enc (An @MsgR.enc.eq_1 (@CallR.enc.eq_1))))
  have q1_:=λs w=>hA (i+1,X.1) s w ⟨hi,g4,g5⟩ (by simp only;omega)
  have e1_:=D0 10 10 [1] [(0,.w)]
  exact WW
 subst hM
 have h3:=ZqR k (g2.few.b (by omega))
 cases q3:goodH k with
 |false=>
  rw[q3] at h3
  have s_:=hi
  exact WW
 |true=>
 rw[q3] at h3
 have h4:=ZcU k m.client (by have:=g2.host.few;omega)
 have h5:=ZdO k m F hm
 have h6:=Zrq (handleS k m).1.s k.s
 by_cases z:(handleS k m).1.s=k.s
 ·rw[decide_eq_true z] at h6
  generalize handleS k m=X at*
  generalize findO k m.client=fo at*
  have s_:=hi
  exact WW
 rw[decide_eq_false z] at h6
 obtain⟨o,o1,o2,o3,o4,o5,o6,o7,o8,o9⟩:=ZqN g2 (m:=m) z
 rw[o1] at h4
 simp only[oTup,Option.getD_some,Option.isSome_some] at h4
 have A2:Zbw (handleS k m).1 (i+1):=g2.answer (by omega) m
 have T:=(g2.open_ o (Zn OpenR.client o1).1).born.txn
 have h7:=ZfF k.s k.s.stamp (g2.few.b (by omega))
 have h8:=ZfF (handleS k m).1.s (handleS k m).1.s.stamp (A2.few.b (by omega))
 have h9:=ZeO (viewS k.s k.s.stamp) (viewS (handleS k m).1.s (handleS k m).1.s.stamp) g2.host.vrows A2.host.vrows
 have o8:changesS (viewS k.s k.s.stamp) (viewS (handleS k m).1.s (handleS k m).1.s.stamp)=changesS o.t.was o.t.now:=o8
 rw[o8] at h9
 have h10:=ZeO o.t.was o.t.now T.wrows T.nrows
 have h11:=Zuu (changesS o.t.was o.t.now) (changesS o.t.was o.t.now)
 rw[decide_eq_true rfl] at h11
 have o9:(handleS k m).1.s.stamp=k.s.stamp+1:=o9
 have o3:(handleS k m).2.r.e=0:=o3
 have hws:IntKind.i64.wrap (k.s.stamp+1)=k.s.stamp+1:=Zg (by have:=g2.host.store.stamp;omega) (by have:=g2.stamp;omega)
 clear z A2 T o8 g2 F q3 a0 hw hm
 generalize handleS k m=X at*
 generalize changesS o.t.was o.t.now=C at*
 have s_:=An @hi (An @o2 (An @o3 (An @o4 (An @o5 (An @o6 (An @o7 (An @o9 (@hws))))))))
 exact WW
end Go.Proofs.YtgpkaoombhobmaaGreat
