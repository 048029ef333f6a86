import Derived.Test.YtgpkaoombhobmaaGreatZLaw16b
set_option linter.unusedVariables false
set_option linter.unusedSimpArgs false
namespace Go.Proofs.YtgpkaoombhobmaaGreat
open Go.Cx Tab
set_option maxHeartbeats 8000000
set_option maxRecDepth 40000
@[simp] theorem all_MsgR (l:List MsgR):(l.flatMap MsgR.enc).all neat=true:=Zaq MsgR.neat l
@[simp high] theorem len_MsgR (l:List MsgR):(l.flatMap MsgR.enc).length=l.length*14:=ZY (enc:=MsgR.enc) (k:=14) (fun _=>rfl) l
@[simp high] theorem take_MsgR (l:List MsgR):(l.flatMap MsgR.enc).take (l.length*14)=l.flatMap MsgR.enc:=Zas (enc:=MsgR.enc) (k:=14) (fun _=>rfl) l
@[simp high] theorem at_MsgR {l:List MsgR} {i:Nat} (h:i<l.length):List.take 14 (List.drop (i*14) (l.flatMap MsgR.enc))=(l[i]).enc:=Zar (enc:=MsgR.enc) (k:=14) (fun _=>rfl) l i l[i] (by simp[h])
@[simp high] theorem one_MsgR (l:List MsgR):(l.flatMap MsgR.enc).all Zx=true:=Zat MsgR.one l
structure ZwO (h:HostR) (m:MsgR) (b:Bool) (i:Nat) (k:HostR):Prop where
 near:Near k (813+513*i) (1152921504606846977+i)
 now:k.now=h.now
 lease:k.lease=h.lease
 told:askS k.rows m.client m.epoch m.seq=(b,0)
theorem ZwO.step {h:HostR} {m:MsgR} {b:Bool} {i:Nat} {k:HostR} (T:ZwO h m b i k) (H:ZhF k) {x:MsgR} (hx:¬(x.client=m.client∧(x.kind=6∨m.epoch<x.epoch))):ZwO h m b (i+1) (handleS k x).1:=by
 obtain⟨X,n1,n2⟩:=ZcE H T.near x
 refine⟨?_,n1.trans T.now,n2.trans T.lease,ZwA H.rows T.told hx⟩
 have e1:813+513*i+513=813+513*(i+1):=by omega
 have e2:(1152921504606846977:Int)+i+1=1152921504606846977+((i+1:Nat):Int):=by omega
 rw[e1,e2] at X
 exact X
theorem ZwC (h:HostR) (m:MsgR) (l:List MsgR) (hb:Zcy h.s) (hm:m.c.wf) (hw:∀x∈l,x.c.wf):Zd Tryz.prog 4 [.agg h.enc,.agg m.enc,encL MsgR.enc l] (B true):=by
 have h0:=Zqz
 have h1:=Zqy h hb
 have h2:=ZvX [m.c]
 cases q1:goodH h with
 |false=>
  rw[q1] at h1
  refine Pm Tryz.func4 fun hfit=> ?_
  simp[Tryz.f4]
  try simp
  repeat' ((first|((first|refine Tp ?_|refine Tn ?_|refine T2 ?_ ?_)<;>intro h_ e_ n_)|refine Pg h0 ?_|refine Pg h1 ?_|rw[Ip]|rw[In]|rw[Fz]|rw[Gz]|fail)<;>first|simp[e_,n_]|simp|skip)
 |true=>
 rw[q1] at h1
 cases q2:ZiG [m.c] with
 |false=>
  rw[q2] at h2
  refine Pm Tryz.func4 fun hfit=> ?_
  simp[Tryz.f4]
  have s_:=An @MsgR.enc.eq_1 (@CallR.enc.eq_1)
  try simp[s_]
  repeat' ((first|((first|refine Tp ?_|refine Tn ?_|refine T2 ?_ ?_)<;>intro h_ e_ n_)|refine Pg h0 ?_|refine Pg h1 ?_|refine Lg h2 ?_|rw[Ip]|rw[In]|rw[Fz]|rw[Gz]|fail)<;>first|simp[e_,n_,s_]|simp[s_]|skip)
 |true=>
 rw[q2] at h2
 by_cases c6:6<l.length
 ·refine Pm Tryz.func4 fun hfit=> ?_
  simp[Tryz.f4]
  have s_:=An @c6 (An @MsgR.enc.eq_1 (@CallR.enc.eq_1))
  try simp[s_]
  repeat' ((first|((first|refine Tp ?_|refine Tn ?_|refine T2 ?_ ?_)<;>intro h_ e_ n_)|refine Pg h0 ?_|refine Pg h1 ?_|refine Lg h2 ?_|rw[Ip]|rw[In]|rw[Fz]|rw[Gz]|fail)<;>first|simp[e_,n_,s_]|simp[s_]|skip)
 obtain⟨H,X,hn,hl,_⟩:=ZlJ q1
 have h3:=Znk (m:=⟨3,m.client,m.epoch,m.seq,m.n,m.stamp,m.c⟩) q1 hm
 have hX:=ZcE H X ⟨3,m.client,m.epoch,m.seq,m.n,m.stamp,m.c⟩
 rcases commit_told H (m:=⟨3,m.client,m.epoch,m.seq,m.n,m.stamp,m.c⟩) rfl with⟨⟨z1,z2,z3⟩,e⟩|⟨b,t1,t2,t3⟩
 ·have e:(handleS h ⟨3,m.client,m.epoch,m.seq,m.n,m.stamp,m.c⟩).1=h:=e
  have z1:(handleS h ⟨3,m.client,m.epoch,m.seq,m.n,m.stamp,m.c⟩).2.r.e≠0:=z1
  have z2:(handleS h ⟨3,m.client,m.epoch,m.seq,m.n,m.stamp,m.c⟩).2.r.e≠15:=z2
  have z3:(handleS h ⟨3,m.client,m.epoch,m.seq,m.n,m.stamp,m.c⟩).2.r.e≠16:=z3
  have h6:=Zqx h h H.rows
  rw[decide_eq_true rfl] at h6
  rw[e] at h3
  generalize(handleS h ⟨3,m.client,m.epoch,m.seq,m.n,m.stamp,m.c⟩).2=r at*
  clear hX e
  refine Pm Tryz.func4 fun hfit=> ?_
  simp[Tryz.f4]
  have s_:=An @c6 (An @z1 (An @z2 (An @z3 (An @MsgR.enc.eq_1 (An @CallR.enc.eq_1 (An @RspR.enc.eq_1 (@ReplyR.enc.eq_1)))))))
  try simp[s_]
  repeat' ((first|((first|refine Tp ?_|refine Tn ?_|refine T2 ?_ ?_)<;>intro h_ e_ n_)|refine Pg h0 ?_|refine Pg h1 ?_|refine Lg h2 ?_|refine Pg h3 ?_|refine Pg h6 ?_|rw[Ip]|rw[In]|rw[Fz]|rw[Gz]|fail)<;>first|simp[e_,n_,s_]|simp[s_]|skip)
 have t0:ZwO h m b 0 (handleS h ⟨3,m.client,m.epoch,m.seq,m.n,m.stamp,m.c⟩).1:=⟨hX.1,hX.2.1,hX.2.2,t1⟩
 have t2:(handleS h ⟨3,m.client,m.epoch,m.seq,m.n,m.stamp,m.c⟩).2.r.e=0↔b=true:=t2
 have t3:(handleS h ⟨3,m.client,m.epoch,m.seq,m.n,m.stamp,m.c⟩).2.r.e=0∨(handleS h ⟨3,m.client,m.epoch,m.seq,m.n,m.stamp,m.c⟩).2.r.e=15∨(handleS h ⟨3,m.client,m.epoch,m.seq,m.n,m.stamp,m.c⟩).2.r.e=16:=t3
 clear hX t1 q1 q2 X
 generalize(handleS h ⟨3,m.client,m.epoch,m.seq,m.n,m.stamp,m.c⟩).2=r at*
 generalize(handleS h ⟨3,m.client,m.epoch,m.seq,m.n,m.stamp,m.c⟩).1=k0 at*
 obtain⟨rk,rc,re,rs,rn,⟨e,ra,rb,rm,rt,rl⟩⟩:=r
 simp only at t2 t3
 obtain⟨R0,hR⟩:∃R0:RspR,R0=⟨rk,rc,re,rs,rn,⟨e,ra,rb,rm,rt,rl⟩⟩:=⟨_,rfl⟩
 rcases t3 with rfl|rfl|rfl
 all_goals
  refine Pm Tryz.func4 fun hfit=> ?_
  simp[Tryz.f4]
  have s_:=An @c6 (An @MsgR.enc.eq_1 (An @CallR.enc.eq_1 (An @RspR.enc.eq_1 (@ReplyR.enc.eq_1))))
  try simp[s_]
  repeat' ((first|((first|refine Tp ?_|refine Tn ?_|refine T2 ?_ ?_)<;>intro h_ e_ n_)|refine Pg h0 ?_|refine Pg h1 ?_|refine Lg h2 ?_|refine Pg h3 ?_|rw[Ip]|rw[In]|rw[Fz]|rw[Gz]|fail)<;>first|simp[e_,n_,s_]|simp[s_]|skip)
  refine AW.loopG (lit:=fun _=>false) (fun x:Nat×HostR=>⟨140,pat [(2,encL MsgR.enc l),(3,.ptr 0 0 0),(4,.ptr 1 0 0),(7,B true),(8,.ptr 2 0 0),(9,.ptr 3 0 0),(10,I x.1)],[.cells 0 h.enc,.cells 0 (⟨3,m.client,m.epoch,m.seq,m.n,m.stamp,m.c⟩:MsgR).enc,.cells 0 x.2.enc,.cells 0 R0.enc]⟩) (fun x=>l.length -x.1) (fun x=>x.1≤l.length∧ZwO h m b x.1 x.2) (0,k0) ?_ ?_ ?_
  ·exact Wk.at _ rfl (by simp[hR,MsgR.enc,CallR.enc,RspR.enc,ReplyR.enc]) (by simp[MsgR.enc,CallR.enc,RspR.enc,ReplyR.enc])
  ·exact⟨Nat.zero_le _,t0⟩
  rintro⟨i,k⟩ ⟨g1,g2⟩ A hA
  simp only at g1 g2 hA
  subst hR
  have h4:=ZhJ k (g2.near.vers.b (by omega))
  by_cases hi:i<l.length
  ·have hwi:=Zi hi (by simp only[maxLen];omega)
   have h5:=ZvX [l[i].c]
   cases p1:ZiG [l[i].c] with
   |false=>
    rw[p1] at h5
    have s_:=hi
    try simp[s_]
    repeat' ((first|((first|refine Tp ?_|refine Tn ?_|refine T2 ?_ ?_)<;>intro h_ e_ n_)|refine Lg h5 ?_|rw[Ip]|rw[In]|rw[Fz]|rw[Gz]|fail)<;>first|simp[e_,n_,s_]|simp[s_]|skip)
   |true=>
   rw[p1] at h5
   cases p2:ZhH k with
   |false=>
    rw[p2] at h4
    by_cases y1:l[i].client=m.client<;>by_cases y2:l[i].kind=6<;>by_cases y3:m.epoch<l[i].epoch
    all_goals
     have s_:=An @hi (An @y1 (An @y2 (@y3)))
     try simp[s_]
     repeat' ((first|((first|refine Tp ?_|refine Tn ?_|refine T2 ?_ ?_)<;>intro h_ e_ n_)|refine Lg h5 ?_|refine Pg h4 ?_|rw[Ip]|rw[In]|rw[Fz]|rw[Gz]|fail)<;>first|simp[e_,n_,s_]|simp[s_]|skip)
   |true=>
   rw[p2] at h4
   have K:=ZhI.1 p2
   have h6:=ZcC k l[i] (ZjY K g2.near (by omega) (by omega) (by rw[g2.now];omega) (by rw[g2.now,g2.lease];omega)) (hw _ (List.getElem_mem hi))
   have st:=fun(hx:¬(l[i].client=m.client∧(l[i].kind=6∨m.epoch<l[i].epoch)))=>g2.step K hx
   generalize handleS k l[i]=Y at*
   by_cases y1:l[i].client=m.client<;>by_cases y2:l[i].kind=6<;>by_cases y3:m.epoch<l[i].epoch
   all_goals
    have s_:=An @hi (An @hwi (An @y1 (An @y2 (An @y3 (@setH_enc)))))
    try simp[s_]
    repeat' ((first|((first|refine Tp ?_|refine Tn ?_|refine T2 ?_ ?_)<;>intro h_ e_ n_)|(exact hA (i+1,Y.1) _ (Wk.cutAt _ rfl (by simp) (by simp[MsgR.enc,CallR.enc,RspR.enc,ReplyR.enc,setH_enc]) (by simp) (by simp)) ⟨hi,st (by omega)⟩ (by simp only;omega))|refine Lg h5 ?_|refine Pg h4 ?_|refine Pg h6 ?_|rw[Ip]|rw[In]|rw[Fz]|rw[Gz]|fail)<;>first|simp[e_,n_,s_]|simp[s_]|skip)
  cases p2:ZhH k with
  |false=>
   rw[p2] at h4
   have s_:=hi
   try simp[s_]
   repeat' ((first|((first|refine Tp ?_|refine Tn ?_|refine T2 ?_ ?_)<;>intro h_ e_ n_)|refine Pg h4 ?_|rw[Ip]|rw[In]|rw[Fz]|rw[Gz]|fail)<;>first|simp[e_,n_,s_]|simp[s_]|skip)
  |true=>
  rw[p2] at h4
  have K:=ZhI.1 p2
  have h6:=ZcC k ⟨5,m.client,m.epoch,m.seq,m.n,m.stamp,m.c⟩ (ZjY K g2.near (by omega) (by omega) (by rw[g2.now];omega) (by rw[g2.now,g2.lease];omega)) hm
  have h7:=ZwQ (h:=k) (m:=⟨5,m.client,m.epoch,m.seq,m.n,m.stamp,m.c⟩) rfl g2.told
  have h8:handleS k ⟨5,m.client,m.epoch,m.seq,m.n,m.stamp,m.c⟩=(k,⟨5,m.client,m.epoch,m.seq,nS k ⟨5,m.client,m.epoch,m.seq,m.n,m.stamp,m.c⟩,if b=true then rep0 else errR 15⟩):=by unfold handleS;rw[h7]
  rw[h8] at h6
  clear g2 h8 h7 K
  generalize nS k ⟨5,m.client,m.epoch,m.seq,m.n,m.stamp,m.c⟩=nn at*
  cases b<;>simp at t2
  have s_:=An @hi (An @MsgR.enc.eq_1 (An @CallR.enc.eq_1 (An @RspR.enc.eq_1 (An @ReplyR.enc.eq_1 (An @rep0.eq_1 (@errR.eq_1))))))
  try simp[s_]
  repeat' ((first|((first|refine Tp ?_|refine Tn ?_|refine T2 ?_ ?_)<;>intro h_ e_ n_)|refine Pg h4 ?_|refine Pg h6 ?_|rw[Ip]|rw[In]|rw[Fz]|rw[Gz]|fail)<;>first|simp[e_,n_,s_]|simp[s_]|skip)
end Go.Proofs.YtgpkaoombhobmaaGreat
