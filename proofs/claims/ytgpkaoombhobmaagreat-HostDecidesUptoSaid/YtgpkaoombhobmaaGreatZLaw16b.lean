import Derived.Test.YtgpkaoombhobmaaGreatZLaw16a
set_option linter.unusedVariables false
set_option linter.unusedSimpArgs false
namespace Go.Proofs.YtgpkaoombhobmaaGreat
open Go.Cx Tab
set_option maxHeartbeats 400000
set_option maxRecDepth 40000
theorem Znk {h:HostR} {m:MsgR} (G:goodH h=true) (hm:m.c.wf):Zd Tryz.prog 11 [.agg h.enc,.agg m.enc] (.tup [.agg (handleS h m).1.enc,.agg (handleS h m).2.enc]):=by
 obtain⟨H,X,hn,hl,_⟩:=ZlJ G
 exact ZcC h m (ZjY H X (by omega) (by omega) (by omega) (by omega)) hm
theorem Ztj (h:HostR) (m:MsgR) (hb:Zcy h.s) (hm:m.c.wf):Zd Tryz.prog 3 [.agg h.enc,.agg m.enc] (B true):=by
 have h0:=Zqz
 have h1:=Zqy h hb
 have h2:=ZvX [m.c]
 have hc:encC m.c= .agg [I m.c.kind,I m.c.ino,I m.c.to_,I m.c.at_,I m.c.many,S m.c.name,S m.c.name2,S m.c.text]:=rfl
 cases q1:goodH h with
 |false=>
  rw[q1] at h1
  refine Pm Tryz.func3 fun hfit=> ?_
  simp[Tryz.f3]
  try simp
  repeat' ((first|((first|refine Tp ?_|refine Tn ?_|refine T2 ?_ ?_)<;>intro h_ e_ n_)|refine Pg h0 ?_|refine Pg h1 ?_|rw[Ip]|rw[In]|rw[Fz]|rw[Gz]|fail)<;>first|simp[e_,n_]|simp|skip)
 |true=>
 rw[q1] at h1
 cases q2:ZiG [m.c] with
 |false=>
  rw[q2] at h2
  refine Pm Tryz.func3 fun hfit=> ?_
  simp[Tryz.f3]
  have s_:=An @MsgR.enc.eq_1 (@CallR.enc.eq_1)
  try simp[s_]
  repeat' ((first|((first|refine Tp ?_|refine Tn ?_|refine T2 ?_ ?_)<;>intro h_ e_ n_)|refine Pg h0 ?_|refine Pg h1 ?_|refine Lg h2 ?_|rw[Ip]|rw[In]|rw[Fz]|rw[Gz]|fail)<;>first|simp[e_,n_,s_]|simp[s_]|skip)
 |true=>
 rw[q2] at h2
 obtain⟨H,X,hn,hl,_⟩:=ZlJ q1
 have h3:=Znk q1 hm
 obtain⟨X',n1,n2⟩:=ZcE H X m
 have h4:=ZhJ (handleS h m).1 (X'.vers.b (by omega))
 obtain⟨t1,t2,t3⟩:=ZlC H m
 cases q3:ZhH (handleS h m).1 with
 |false=>
  rw[q3] at h4
  generalize(handleS h m).1=a at*
  generalize(handleS h m).2=r at*
  refine Pm Tryz.func3 fun hfit=> ?_
  simp[Tryz.f3]
  have s_:=An @MsgR.enc.eq_1 (@CallR.enc.eq_1)
  try simp[s_]
  repeat' ((first|((first|refine Tp ?_|refine Tn ?_|refine T2 ?_ ?_)<;>intro h_ e_ n_)|refine Pg h0 ?_|refine Pg h1 ?_|refine Lg h2 ?_|refine Pg h3 ?_|refine Pg h4 ?_|rw[Ip]|rw[In]|rw[Fz]|rw[Gz]|fail)<;>first|simp[e_,n_,s_]|simp[s_]|skip)
 |true=>
 rw[q3] at h4
 have H':=ZhI.1 q3
 have h5:=ZcC (handleS h m).1 m (ZjY H' X' (by omega) (by omega) (by show(answerS h m).1.now≤_;omega) (by show(answerS h m).1.lease≤_ -(answerS h m).1.now;omega)) hm
 have e1:(handleS (handleS h m).1 m).1=(handleS h m).1:=t1
 have e2:(handleS (handleS h m).1 m).2=(handleS h m).2∨((handleS h m).2.r.e=16∧m.kind=3∧(handleS (handleS h m).1 m).2.r.e=15):=by
  rcases t2 with t2|t2
  ·refine .inl ?_
   show(⟨m.kind,m.client,m.epoch,m.seq,nS (answerS h m).1 m,(answerS (answerS h m).1 m).2⟩:RspR)=⟨m.kind,m.client,m.epoch,m.seq,nS h m,(answerS h m).2⟩
   rw[t2,t3]
  ·exact .inr t2
 rw[e1] at h5
 have h6:=Zqx (handleS h m).1 (handleS h m).1 H'.rows
 rw[decide_eq_true rfl] at h6
 generalize(handleS (handleS h m).1 m).2=q at*
 clear X' n1 n2 t1 t2 t3 H' q3 e1 X H
 generalize(handleS h m).1=a at*
 generalize(handleS h m).2=r at*
 rcases e2 with rfl|⟨z1,z2,z3⟩
 ·have h7:=Zjb q q true (by simp)
  by_cases z1:q.r.e=16<;>by_cases z2:m.kind=3
  all_goals
   refine Pm Tryz.func3 fun hfit=> ?_
   simp[Tryz.f3]
   have s_:=An @z1 (An @z2 (An @MsgR.enc.eq_1 (An @CallR.enc.eq_1 (An @RspR.enc.eq_1 (@ReplyR.enc.eq_1)))))
   try simp[s_]
   repeat' ((first|((first|refine Tp ?_|refine Tn ?_|refine T2 ?_ ?_)<;>intro h_ e_ n_)|refine Pg h0 ?_|refine Pg h1 ?_|refine Lg h2 ?_|refine Pg h3 ?_|refine Pg h4 ?_|refine Pg h5 ?_|refine Pg h6 ?_|refine Pg h7 ?_|rw[Ip]|rw[In]|rw[Fz]|rw[Gz]|fail)<;>first|simp[e_,n_,s_]|simp[s_]|skip)
 ·have h7:=Zjb r q false (by constructor;(·intro g;rw[g.1] at z1;omega);(·intro g;cases g))
  refine Pm Tryz.func3 fun hfit=> ?_
  simp[Tryz.f3]
  have s_:=An @z1 (An @z2 (An @z3 (An @MsgR.enc.eq_1 (An @CallR.enc.eq_1 (An @RspR.enc.eq_1 (@ReplyR.enc.eq_1))))))
  try simp[s_]
  repeat' ((first|((first|refine Tp ?_|refine Tn ?_|refine T2 ?_ ?_)<;>intro h_ e_ n_)|refine Pg h0 ?_|refine Pg h1 ?_|refine Lg h2 ?_|refine Pg h3 ?_|refine Pg h4 ?_|refine Pg h5 ?_|refine Pg h6 ?_|refine Pg h7 ?_|rw[Ip]|rw[In]|rw[Fz]|rw[Gz]|fail)<;>first|simp[e_,n_,s_]|simp[s_]|skip)
end Go.Proofs.YtgpkaoombhobmaaGreat
