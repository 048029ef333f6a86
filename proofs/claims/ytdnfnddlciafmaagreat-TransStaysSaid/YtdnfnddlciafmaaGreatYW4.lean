import Derived.Test.YtdnfnddlciafmaaGreatYW3
import Derived.Test.YtdnfnddlciafmaaGreatYP1
import Derived.RangeFuncBox
import Derived.RangeFuncLeaves
import Derived.Shelf.Abstract
import Derived.WalkKit
import Derived.OwnWalkIn
import Derived.TacticsInMore
import Derived.LoopNIn
import Derived.LoopIn
import Derived.Maps.AppendAt
import Derived.Scope
import Derived.RangeFuncCalls
set_option linter.unusedVariables false
set_option linter.unusedSimpArgs false
namespace Go.Proofs.YtdnfnddlciafmaaGreat
open Go.Cx Tab
set_option maxHeartbeats 400000
set_option maxRecDepth 40000
theorem ZpI {h:Zb} {f:Nat} {b b':List AV} (hb:frzs h 0 (f+1) b=some b'):∀{a:List AV},a.all neat=true→frzs h 0 (f+1) (a++b)=some (a++b')
 |[],_=>hb
 |x::a,ha=>by
  rw[List.all_cons,Bool.and_eq_true] at ha
  rw[List.cons_append,Zho,Zdf _ _ _ ha.1,ZpI hb ha.2];rfl
theorem frzOwn_end {h:Zb} {f ver m k:Nat} {a b b':List AV} (ha:a.all neat=true) (hl:(a++b).length=m*k) (hm:m≠0) (hb:frzs h 0 (f+1) b=some b'):
  Zeq h (f+1) ver 0 m k (some (.cells ver (a++b)))=some (.sl false m (a++b')):=by
 simp only[Zeq,true_and,Nat.zero_add,Nat.zero_mul,List.drop_zero]
 rw[if_pos (by omega),if_neg hm,List.take_of_length_le (by omega),ZpI hb ha];rfl
theorem ZrT (l:List ChainR) (ino:Int) (v:VerR) (hl:l.length≤500000) (hr:l.Pairwise fun a b=>a.ino<b.ino) (hc:∀c∈l,c.l.length≤2000000):Ze Tryz.prog 171 [encL ChainR.enc l,I ino,.agg v.enc] (encL ChainR.enc (withS l ino v)):=by
 obtain⟨W,hW⟩:∃W,withS l ino v=W:=⟨_,rfl⟩
 rw[hW]
 refine Pm Tryz.func171 fun hfit=> ?_
 simp[Tryz.f171]
 refine AW.loopGW (fun x:Nat×List ChainR×Bool=>⟨86,pat [(0,encL ChainR.enc l),(1,I ino),(5,.ptr 0 0 0),(7,.own 1 x.2.1.length 0 x.2.1.length 2),(8,B x.2.2),(9,I x.1)],[.cells 0 v.enc,.cells x.2.1.length (x.2.1.flatMap ChainR.enc)]⟩) (fun x=>l.length -x.1)
  (fun x=>x.1≤l.length∧x.2.1.length≤x.1+1∧(x.2.2=true→x.2.1++l.drop x.1=W∧∀c∈l.drop x.1,ino<c.ino)∧(x.2.2=false→x.2.1++withS (l.drop x.1) ino v=W∧x.2.1.length≤x.1)) (0,[],false) ?_ ?_ ?_
 ·exact Wk.trans (Wk.ownNil 7 2 (by simp)) Wa
 ·exact⟨by simp,by simp,fun h=>(by cases h),fun _=>⟨by simpa using hW,by simp⟩⟩
 rintro⟨i,acc,dn⟩ ⟨g1,g2,g3,g4⟩ A hA
 simp only at g1 g2 g3 g4 hA
 have hm:acc.length+1≤maxLen:=by simp only[maxLen];omega
 have hm':acc.length+1≤17592186044416:=by omega
 have hm2:acc.length+1+1≤maxLen:=by simp only[maxLen];omega
 have hm2':acc.length+1+1≤17592186044416:=by omega
 by_cases hi:i<l.length
 case neg=>
  rw[List.drop_eq_nil_of_le (by omega)] at g3 g4
  refine ZcG (lit:=fun _=>false) _ _ _ ?_
  cases dn with
  |true=>
   have g3:=(g3 rfl).1
   rw[List.append_nil] at g3
   rw[←g3]
   have s_:=hi
   try simp[s_]
   repeat' ((first|((first|refine Tp ?_|refine Tn ?_|refine T2 ?_ ?_)<;>intro h_ e_ n_)|refine Dg 15 9 [] [] ?_|rw[Ip]|rw[In]|rw[Fz]|rw[Gz]|fail)<;>first|simp[e_,n_,s_]|simp[s_]|skip)
  |false=>
   have g4:=(g4 rfl).1
   rw[withS] at g4
   rw[←g4]
   have s_:=An @hi (An @hm (@hm'))
   try simp[s_]
   repeat' ((first|((first|refine Tp ?_|refine Tn ?_|refine T2 ?_ ?_)<;>intro h_ e_ n_)|(rw[frzOwn_end (b':=[I ino,.sl false 1 v.enc]) (by simp) (by simp;omega) (by simp) (by simp)];simp[encL,ChainR.enc])|refine Dg 15 9 [] [] ?_|rw[Ip]|rw[In]|rw[Fz]|rw[Gz]|fail)<;>first|simp[e_,n_,s_]|simp[s_]|skip)
 have hwi:=Zf hi (by simp only[maxLen];omega)
 rw[List.drop_eq_getElem_cons hi] at g3 g4
 have hal:∀c:ChainR,(acc++[c]).length=acc.length+1:=fun c=>by simp
 have hcl:=hc l[i] (List.getElem_mem hi)
 have hgt:∀c∈l.drop (i+1),l[i].ino<c.ino:=fun c hc=>by
  obtain⟨j,hj,rfl⟩:=List.getElem_of_mem hc
  rw[List.getElem_drop]
  rw[List.length_drop] at hj
  exact List.pairwise_iff_getElem.1 hr i (i+1+j) hi (by omega) (by omega)
 generalize hci:l[i]=c at*
 cases dn with
 |true=>
  obtain⟨k1,k2⟩:=g3 rfl
  have q:=k2 c (by simp)
  have q2:¬c.ino=ino:=by omega
  refine ZcG (lit:=fun _=>false) _ _ _ ?_
  have s_:=An @hi (An @hwi (An @hci (An @q (An @q2 (An @hm (An @hm' (@ChainR.enc.eq_1)))))))
  try simp[s_]
  repeat' ((first|((first|refine Tp ?_|refine Tn ?_|refine T2 ?_ ?_)<;>intro h_ e_ n_)|(exact hA (i+1,acc++[c],true) _ (Wk.cutAt _ rfl (by simp) (by simp[ChainR.enc]) (by simp) (by simp)) ⟨hi,by simp only[hal];omega,fun _=>⟨by simpa using k1,fun x hx=>k2 x (by simp[hx])⟩,fun h=>(by cases h)⟩ (by simp only;omega))|refine Dg 15 9 [] [] ?_|rw[Ip]|rw[In]|rw[Fz]|rw[Gz]|fail)<;>first|simp[e_,n_,s_]|simp[s_]|skip)
 |false=>
  obtain⟨g4,g5⟩:=g4 rfl
  rw[withS] at g4
  by_cases q1:ino<c.ino
  ·rw[if_pos q1] at g4
   have q2:¬c.ino=ino:=by omega
   refine ZcG (lit:=fun _=>false) _ _ _ ?_
   have hsf:([I ino,.sl true 1 v.enc]++c.enc).mapM (frz [] 0 12)=some ([I ino,.sl false 1 v.enc]++c.enc):=by
    show frzs [] 0 12 ([I ino,.sl true 1 v.enc]++c.enc)=_
    simp[ChainR.enc]
   have hal2:(acc++[⟨ino,[v]⟩,c]).length=acc.length+2:=by simp
   have s_:=An @hi (An @hwi (An @hci (An @q1 (An @q2 (An @hm (An @hm' (An @hm2 (@hm2'))))))))
   try simp[s_]
   repeat' ((first|((first|refine Tp ?_|refine Tn ?_|refine T2 ?_ ?_)<;>intro h_ e_ n_)|refine Dg 15 9 [] [] ?_|rw[Ip]|rw[In]|rw[Fz]|rw[Gz]|fail)<;>first|simp[e_,n_,s_]|simp[s_]|skip)
   exact hA (i+1,acc++[⟨ino,[v]⟩,c],true) _ (Wk.trans (Wk.softEnd 1 (acc.length+1+1) (acc.flatMap ChainR.enc) (x:=[I ino,.sl true 1 v.enc]++c.enc) (x':=[I ino,.sl false 1 v.enc]++c.enc) (by simp) hsf) (Wk.cutAt _ rfl (by simp) (by simp[ChainR.enc,encL]) (by simp) (by simp))) ⟨hi,by simp only[hal2];omega,fun _=>⟨by simpa using g4,fun x hx=>by have:=hgt x hx;omega⟩,fun h=>(by cases h)⟩ (by simp only;omega)
  rw[if_neg q1] at g4
  by_cases q2:c.ino=ino
  case neg=>
   rw[if_neg q2] at g4
   refine ZcG (lit:=fun _=>false) _ _ _ ?_
   have s_:=An @hi (An @hwi (An @hci (An @q1 (An @q2 (An @hm (@hm'))))))
   try simp[s_]
   repeat' ((first|((first|refine Tp ?_|refine Tn ?_|refine T2 ?_ ?_)<;>intro h_ e_ n_)|(exact hA (i+1,acc++[c],false) _ Wc ⟨hi,by simp only[hal];omega,fun h=>(by cases h),fun _=>⟨by simpa using g4,by simp only[hal];omega⟩⟩ (by simp only;omega))|refine Dg 15 9 [] [] ?_|rw[Ip]|rw[In]|rw[Fz]|rw[Gz]|fail)<;>first|simp[e_,n_,s_]|simp[s_]|skip)
  rw[if_pos q2] at g4
  refine AW.seqA (lit:=fun _=>false) ?_
  have s_:=hi
  try simp[s_]
  repeat' ((first|((first|refine Tp ?_|refine Tn ?_|refine T2 ?_ ?_)<;>intro h_ e_ n_)|refine Dg 15 9 [] [] ?_|rw[Ip]|rw[In]|rw[Fz]|rw[Gz]|fail)<;>first|simp[e_,n_,s_]|simp[s_]|skip)
  refine AW.seqW ?_
  refine AW.blockW ?_
  refine AW.splitA' (lit:=fun _=>false) 4 _ ?_
  simp only[ZlD]
  have s_:=An @hi (An @hci (An @q1 (@q2)))
  try simp[s_]
  repeat' ((first|((first|refine Tp ?_|refine Tn ?_|refine T2 ?_ ?_)<;>intro h_ e_ n_)|refine Dg 15 9 [] [] ?_|rw[Ip]|rw[In]|rw[Fz]|rw[Gz]|fail)<;>first|simp[e_,n_,s_]|simp[s_]|skip)
  refine AW.loopG (lit:=fun _=>false) (fun y:Nat×List VerR=>⟨86,pat [(0,encL ChainR.enc l),(1,I ino),(5,.ptr 0 0 0),(7,.own 1 acc.length 0 acc.length 2),(9,I i),(10,.ptr 2 0 0),(11,.own 3 y.2.length 0 y.2.length 7),(12,I y.1)],[.cells 0 v.enc,.cells acc.length (acc.flatMap ChainR.enc),.cells 0 c.enc,.cells y.2.length (y.2.flatMap VerR.enc)]⟩) (fun y=>c.l.length -y.1)
   (fun y=>y.1≤c.l.length∧y.2.length≤y.1∧y.2++((c.l.drop y.1).filter fun x=> !decide (x.stamp=v.stamp))=c.l.filter fun x=> !decide (x.stamp=v.stamp)) (0,[]) ?_ ?_ ?_
  ·exact Wk.trans (Wk.ownNil 11 7 (by simp)) Wa
  ·exact⟨by simp,by simp,by simp⟩
  rintro⟨j,ks⟩ ⟨k1,k2,k3⟩ B hB
  simp only at k1 k2 k3 hB
  have b1:ks.length+1≤maxLen:=by simp only[maxLen];omega
  have b2:ks.length+1≤17592186044416:=by omega
  have b3:(ks.length+1)*80≤140737488355328:=by omega
  by_cases hj:j<c.l.length
  case pos=>
   have hwj:=Zf hj (by simp only[maxLen];omega)
   rw[List.drop_eq_getElem_cons hj] at k3
   have hkl:(ks++[c.l[j]]).length=ks.length+1:=by simp
   by_cases q:c.l[j].stamp=v.stamp
   ·rw[List.filter_cons_of_neg (by simpa using q)] at k3
    have s_:=An @hj (An @hwj (@q))
    try simp[s_]
    repeat' ((first|((first|refine Tp ?_|refine Tn ?_|refine T2 ?_ ?_)<;>intro h_ e_ n_)|(exact hB (j+1,ks) _ Wc ⟨hj,by simp only;omega,k3⟩ (by simp only;omega))|refine Dg 15 9 [] [] ?_|rw[Ip]|rw[In]|rw[Fz]|rw[Gz]|fail)<;>first|simp[e_,n_,s_]|simp[s_]|skip)
   ·rw[List.filter_cons_of_pos (by simpa using q)] at k3
    have s_:=An @hj (An @hwj (An @q (An @b1 (An @b2 (@b3)))))
    try simp[s_]
    repeat' ((first|((first|refine Tp ?_|refine Tn ?_|refine T2 ?_ ?_)<;>intro h_ e_ n_)|(exact hB (j+1,ks++[c.l[j]]) _ Wc ⟨hj,by simp only[hkl];omega,by simpa using k3⟩ (by simp only;omega))|refine Dg 15 9 [] [] ?_|rw[Ip]|rw[In]|rw[Fz]|rw[Gz]|fail)<;>first|simp[e_,n_,s_]|simp[s_]|skip)
  rw[List.drop_eq_nil_of_le (by omega),List.filter_nil,List.append_nil] at k3
  have hadd:addV c.l v=ks++[v]:=by unfold addV;rw[k3]
  rw[hadd] at g4
  have s_:=An @hj (An @b1 (An @b2 (@b3)))
  try simp[s_]
  repeat' ((first|((first|refine Tp ?_|refine Tn ?_|refine T2 ?_ ?_)<;>intro h_ e_ n_)|refine Dg 15 9 [] [] ?_|rw[Ip]|rw[In]|rw[Fz]|rw[Gz]|fail)<;>first|simp[e_,n_,s_]|simp[s_]|skip)
  all_goals
   refine AW.wkZ (WkZ.freeze [2,3] 10 (.fp [I ino,encL VerR.enc (ks++[v])]) (by simp[ChainR.enc];rw[Gz];simp[encL])) ?_
   refine ZcG (lit:=fun _=>false) _ _ _ ?_
   have hx:([I ino,encL VerR.enc (ks++[v])]:List AV)=(⟨ino,ks++[v]⟩:ChainR).enc:=rfl
   rw[hx]
   simp
   have s_:=An @hm (@hm')
   try simp[s_]
   repeat' ((first|((first|refine Tp ?_|refine Tn ?_|refine T2 ?_ ?_)<;>intro h_ e_ n_)|refine Dg 15 9 [] [] ?_|rw[Ip]|rw[In]|rw[Fz]|rw[Gz]|fail)<;>first|simp[e_,n_,s_]|simp[s_]|skip)
   refine ZcG (lit:=fun _=>false) _ _ _ ?_
   simp[hwi]
   exact hA (i+1,acc++[⟨ino,ks++[v]⟩],true) _ Wc ⟨hi,by simp only[hal];omega,fun _=>⟨by simpa using g4,fun x hx=>by have:=hgt x hx;omega⟩,fun h=>(by cases h)⟩ (by simp only;omega)
theorem ZjE {st:Int} {l:List ChangeR} {cs:List ChainR} {i:Nat} (hi:i<l.length):(l.take (i+1)).foldl (ZT st) cs=withS ((l.take i).foldl (ZT st) cs) l[i].ino (Zdp st l[i]):=by
 rw[List.take_succ_eq_append_getElem hi,List.foldl_append];rfl
theorem ZrU (s:StoreR) (l:List ChangeR) (next:Int) (B:Nat) (hm:Mid s.l (s.stamp+1) B) (hB:B+l.length≤500000) (hs:s.stamp<9223372036854775807) (h0:0≤s.stamp) (hn:s.nexts≠[]) (hnl:s.nexts.length≤2000000):Ze Tryz.prog 104 [.agg s.enc,encL ChangeR.enc l,I next] (.agg (installS s l next).enc):=by
 obtain⟨cs,ns,stamp⟩:=s
 simp only at hm hs h0 hn hnl
 unfold installS
 simp only
 obtain⟨st,hS⟩:∃st,stamp+1=st:=⟨_,rfl⟩
 have hw:IntKind.i64.wrap (stamp+1)=st:=by rw[Zj (by omega) (by omega),hS]
 simp only[hS] at hm⊢
 have hlast:ns.length -1<ns.length:=by have:=List.length_pos_iff.2 hn;omega
 have hln:=ZhW hlast
 have hwn:IntKind.i64.wrap ((ns.length:Int) -1)=((ns.length -1:Nat):Int):=by rw[Zj (by omega) (by omega)];omega
 have hb1:(ns.length+1)*16≤140737488355328:=by omega
 have hb2:ns.length+1≤maxLen:=by simp only[maxLen];omega
 have hfold:∀i,i≤l.length→Mid ((l.take i).foldl (ZT st) cs) st (B+l.length):=fun i hi=>by
  have:=hm.fold (l.take i)
  rw[List.length_take,Nat.min_eq_left hi] at this
  exact⟨this.rise,this.some,this.vrise,this.le,by have:=this.len;omega,fun c hc=>by have:=this.vlen c hc;omega⟩
 have hend:(l.take l.length).foldl (ZT st) cs=l.foldl (ZT st) cs:=by rw[List.take_length]
 have hstep:=fun(i:Nat) (hi:i<l.length)=>ZjE (st:=st) (cs:=cs) hi
 generalize hF:(fun i:Nat=>(l.take i).foldl (ZT st) cs)=F at*
 have hF':∀i,(l.take i).foldl (ZT st) cs=F i:=fun i=>by rw[←hF]
 simp only[hF'] at hfold hend hstep
 rw[←hend]
 clear hend
 have hfst:cs=F 0:=by rw[←hF' 0];rfl
 rw[hfst]
 clear hfst
 generalize lastNext ns=ln at*
 refine Pm Tryz.func104 fun hfit=> ?_
 simp[Tryz.f104,StoreR.enc]
 refine AW.loopG (lit:=fun _=>false) (fun i:Nat=>⟨69,pat [(2,I next),(3,.ptr 0 0 0),(6,.ptr 1 0 0),(15,encL ChangeR.enc l),(16,I l.length),(17,I i)],[.cells 0 [encL ChainR.enc (F i),encL CountR.enc ns,I st],.cells 0 [.sl true 0 [],.sl true 0 [],I 0]]⟩) (fun i=>l.length -i) (fun i=>i≤l.length) 0 ?_ ?_ ?_
 ·exact Wk.at _ rfl (by simp;exact hw) (by simp)
 ·simp
 rintro i g1 A hA
 by_cases hi:i<l.length
 case neg=>
  have e:i=l.length:=by omega
  subst e
  by_cases q:ln<next
  ·have s_:=An @hi (An @hlast (An @hwn (An @hln (An @q (An @hb1 (An @hb2 (@CountR.enc.eq_1)))))))
   try simp[s_]
   repeat' ((first|((first|refine Tp ?_|refine Tn ?_|refine T2 ?_ ?_)<;>intro h_ e_ n_)|refine Dg 13 13 [] [] ?_|rw[Ip]|rw[In]|rw[Fz]|rw[Gz]|fail)<;>first|simp[e_,n_,s_]|simp[s_]|skip)
  ·have s_:=An @hi (An @hlast (An @hwn (An @hln (An @q (@CountR.enc.eq_1)))))
   try simp[s_]
   repeat' ((first|((first|refine Tp ?_|refine Tn ?_|refine T2 ?_ ?_)<;>intro h_ e_ n_)|refine Dg 13 13 [] [] ?_|rw[Ip]|rw[In]|rw[Fz]|rw[Gz]|fail)<;>first|simp[e_,n_,s_]|simp[s_]|skip)
 have hwi:=Zf hi (by simp only[maxLen];omega)
 have hf:=hfold i (by omega)
 have hch:=ZrS (F i) l[i].ino (Zdp st l[i]) (by have:=hf.len;omega) fun c hc=>⟨hf.some c hc,by have:=hf.vlen c hc;omega,hf.vrise c hc,by simpa[ZnA] using hf.le c hc⟩
 rw[←hstep i hi] at hch
 generalize hc:l[i]=c at*
 cases hg:c.gone with
 |true=>
  rw[Zdp,if_pos hg,hg] at hch
  have s_:=An @hi (An @hwi (An @hc (An @hg (An @ChangeR.enc.eq_1 (An @VerR.enc.eq_1 (An @NodeR.zero.eq_1 (@NodeR.enc.eq_1)))))))
  try simp[s_]
  repeat' ((first|((first|refine Tp ?_|refine Tn ?_|refine T2 ?_ ?_)<;>intro h_ e_ n_)|(exact hA (i+1) _ Wc hi (by omega))|refine Sg hch ?_|refine Dg 13 13 [] [] ?_|rw[Ip]|rw[In]|rw[Fz]|rw[Gz]|fail)<;>first|simp[e_,n_,s_]|simp[s_]|skip)
 |false=>
  rw[Zdp,if_neg (by simp[hg]),hg] at hch
  have s_:=An @hi (An @hwi (An @hc (An @hg (An @ChangeR.enc.eq_1 (An @VerR.enc.eq_1 (@NodeR.enc.eq_1))))))
  try simp[s_]
  repeat' ((first|((first|refine Tp ?_|refine Tn ?_|refine T2 ?_ ?_)<;>intro h_ e_ n_)|(exact hA (i+1) _ Wc hi (by omega))|refine Pg hch ?_|refine Dg 13 13 [] [] ?_|rw[Ip]|rw[In]|rw[Fz]|rw[Gz]|fail)<;>first|simp[e_,n_,s_]|simp[s_]|skip)
theorem ZnO (s:StoreR) (l:List ChangeR) (next:Int) (B:Nat) (hm:Mid s.l (s.stamp+1) B) (hB:B+l.length≤500000) (hs:s.stamp<9223372036854775807) (h0:0≤s.stamp) (hn:s.nexts≠[]) (hnl:s.nexts.length≤2000000):Ze Tryz.prog 105 [.agg s.enc,encL ChangeR.enc l,I next] (.agg (installS s l next).enc):=by
 obtain⟨cs,ns,stamp⟩:=s
 simp only at hm hs h0 hn hnl
 unfold installS
 simp only
 obtain⟨st,hS⟩:∃st,stamp+1=st:=⟨_,rfl⟩
 have hw:IntKind.i64.wrap (stamp+1)=st:=by rw[Zj (by omega) (by omega),hS]
 simp only[hS] at hm⊢
 have hlast:ns.length -1<ns.length:=by have:=List.length_pos_iff.2 hn;omega
 have hln:=ZhW hlast
 have hwn:IntKind.i64.wrap ((ns.length:Int) -1)=((ns.length -1:Nat):Int):=by rw[Zj (by omega) (by omega)];omega
 have hb1:(ns.length+1)*16≤140737488355328:=by omega
 have hb2:ns.length+1≤maxLen:=by simp only[maxLen];omega
 have hb3:ns.length*16≤140737488355328:=by omega
 have hb4:ns.length≤maxLen:=by simp only[maxLen];omega
 have hfold:∀i,i≤l.length→Mid ((l.take i).foldl (ZT st) cs) st (B+l.length):=fun i hi=>by
  have:=hm.fold (l.take i)
  rw[List.length_take,Nat.min_eq_left hi] at this
  exact⟨this.rise,this.some,this.vrise,this.le,by have:=this.len;omega,fun c hc=>by have:=this.vlen c hc;omega⟩
 have hend:(l.take l.length).foldl (ZT st) cs=l.foldl (ZT st) cs:=by rw[List.take_length]
 have hstep:=fun(i:Nat) (hi:i<l.length)=>ZjE (st:=st) (cs:=cs) hi
 generalize hF:(fun i:Nat=>(l.take i).foldl (ZT st) cs)=F at*
 have hF':∀i,(l.take i).foldl (ZT st) cs=F i:=fun i=>by rw[←hF]
 simp only[hF'] at hfold hend hstep
 rw[←hend]
 clear hend
 have hfst:cs=F 0:=by rw[←hF' 0];rfl
 rw[hfst]
 clear hfst
 generalize lastNext ns=ln at*
 refine Pm Tryz.func105 fun hfit=> ?_
 simp[Tryz.f105,StoreR.enc]
 refine AW.loopG (lit:=fun _=>false) (fun i:Nat=>⟨85,pat [(1,encL ChangeR.enc l),(2,I next),(3,.ptr 0 0 0),(6,.ptr 1 0 0),(7,.ptr 2 0 0),(8,I i)],[.cells 0 [encL ChainR.enc (F 0),encL CountR.enc ns,I stamp],.cells 0 [.sl true 0 [],.sl true 0 [],I 0],.cells 0 [encL ChainR.enc (F i),.sl true 0 [],I st]]⟩) (fun i=>l.length -i) (fun i=>i≤l.length) 0 ?_ ?_ ?_
 ·exact Wk.at _ rfl (by simp;exact hw) (by simp)
 ·simp
 rintro i g1 A hA
 by_cases hi:i<l.length
 case neg=>
  have e:i=l.length:=by omega
  subst e
  by_cases q:ln<next
  ·have s_:=An @hi (An @hlast (An @hwn (An @hln (An @q (An @hb1 (An @hb2 (An @hb3 (An @hb4 (@CountR.enc.eq_1)))))))))
   try simp[s_]
   repeat' ((first|((first|refine Tp ?_|refine Tn ?_|refine T2 ?_ ?_)<;>intro h_ e_ n_)|refine Dg 9 10 [] [] ?_|rw[Ip]|rw[In]|rw[Fz]|rw[Gz]|fail)<;>first|simp[e_,n_,s_]|simp[s_]|skip)
  ·have s_:=An @hi (An @hlast (An @hwn (An @hln (An @q (An @hb3 (An @hb4 (@CountR.enc.eq_1)))))))
   try simp[s_]
   repeat' ((first|((first|refine Tp ?_|refine Tn ?_|refine T2 ?_ ?_)<;>intro h_ e_ n_)|refine Dg 9 10 [] [] ?_|rw[Ip]|rw[In]|rw[Fz]|rw[Gz]|fail)<;>first|simp[e_,n_,s_]|simp[s_]|skip)
 have hwi:=Zf hi (by simp only[maxLen];omega)
 have hf:=hfold i (by omega)
 have hch:=ZrT (F i) l[i].ino (Zdp st l[i]) (by have:=hf.len;omega) hf.rise fun c hc=>by have:=hf.vlen c hc;omega
 rw[←hstep i hi] at hch
 generalize hc:l[i]=c at*
 cases hg:c.gone with
 |true=>
  rw[Zdp,if_pos hg,hg] at hch
  have s_:=An @hi (An @hwi (An @hc (An @hg (An @ChangeR.enc.eq_1 (An @VerR.enc.eq_1 (An @NodeR.zero.eq_1 (@NodeR.enc.eq_1)))))))
  try simp[s_]
  repeat' ((first|((first|refine Tp ?_|refine Tn ?_|refine T2 ?_ ?_)<;>intro h_ e_ n_)|(exact hA (i+1) _ Wc hi (by omega))|refine AW.room (Dg 5 10 [3] [(8,.w)] ?_)|refine Sg hch ?_|refine Dg 9 10 [] [] ?_|rw[Ip]|rw[In]|rw[Fz]|rw[Gz]|fail)<;>first|simp[e_,n_,s_]|simp[s_]|skip)
 |false=>
  rw[Zdp,if_neg (by simp[hg]),hg] at hch
  have s_:=An @hi (An @hwi (An @hc (An @hg (An @ChangeR.enc.eq_1 (An @VerR.enc.eq_1 (@NodeR.enc.eq_1))))))
  try simp[s_]
  repeat' ((first|((first|refine Tp ?_|refine Tn ?_|refine T2 ?_ ?_)<;>intro h_ e_ n_)|(exact hA (i+1) _ Wc hi (by omega))|refine AW.room (Dg 5 10 [3] [(8,.w)] ?_)|refine Pg hch ?_|refine Dg 9 10 [] [] ?_|rw[Ip]|rw[In]|rw[Fz]|rw[Gz]|fail)<;>first|simp[e_,n_,s_]|simp[s_]|skip)
noncomputable def Zio (last:Int) (c:ChainR):Bool:= @decide (Zes last c) (Classical.propDecidable _)
theorem Zgf {last:Int} {c:ChainR}:Zio last c=true↔Zes last c:=by simp[Zio]
theorem ZdT {last:Int} {c:ChainR} (h:¬Zes last c):Zio last c=false:=by simp[Zio,h]
noncomputable def storeB (s:StoreR):Bool:= @decide (ZJ s) (Classical.propDecidable _)
theorem Zgg {s:StoreR}:storeB s=true↔ZJ s:=by simp[storeB]
theorem ZcC {s:StoreR} (h:¬ZJ s):storeB s=false:=by simp[storeB,h]
def verB (ino:Int) (v:VerR):Bool:=if v.gone=true then decide (v.node= .zero) else(nodeOk v.node&&decide (v.node.ino=ino))
theorem Zxn {ino:Int} {v:VerR}:verB ino v=true↔VerP ino v:=by
 unfold verB
 constructor
 ·intro h
  split at h
  ·rename_i q
   exact⟨fun _=>by simpa using h,fun g=>by rw[q] at g;cases g⟩
  ·rename_i q
   simp only[Bool.and_eq_true,decide_eq_true_eq] at h
   exact⟨fun g=>absurd g q,fun _=>h⟩
 ·intro h
  split
  ·rename_i q;simpa using h.gone q
  ·rename_i q;simpa using h.node (by simpa using q)
theorem Zip {α:Type} {f:α→Int}:∀{l:List α},(∀(j:Nat) (h:j+1<l.length),f l[j]<f l[j+1])→l.Pairwise fun a b=>f a<f b
 |[],_=> .nil
 |a::l,h=>by
  have ih:=Zip (f:=f) (l:=l) fun j hj=>by have:=h (j+1) (by simpa using hj);simpa only[List.getElem_cons_succ] using this
  refine List.pairwise_cons.2 ⟨fun b hb=> ?_,ih⟩
  cases l with
  |nil=>cases hb
  |cons c l=>
   have h0:=h 0 (by simp)
   simp only[List.getElem_cons_zero,List.getElem_cons_succ] at h0
   rcases List.mem_cons.1 hb with rfl|hb
   ·exact h0
   ·have:=(List.pairwise_cons.1 ih).1 b hb;omega
theorem Zxo (c:ChainR) (last:Int):Ze Tryz.prog 114 [.agg c.enc,I last] (B (Zio last c)):=by
 by_cases q0:c.ino<1
 ·rw[ZdT fun h=>by have:=h.ino;omega]
  refine Pm Tryz.func114 fun hfit=> ?_
  simp[Tryz.f114]
  have s_:=An @q0 (@ChainR.enc.eq_1)
  try simp[s_]
  repeat' ((first|((first|refine Tp ?_|refine Tn ?_|refine T2 ?_ ?_)<;>intro h_ e_ n_)|refine Dg 9 42 [] [] ?_|rw[Ip]|rw[In]|rw[Fz]|rw[Gz]|fail)<;>first|simp[e_,n_,s_]|simp[s_]|skip)
 by_cases q1:c.l.length<1
 ·rw[ZdT fun h=>h.some (List.eq_nil_of_length_eq_zero (by omega))]
  refine Pm Tryz.func114 fun hfit=> ?_
  simp[Tryz.f114]
  have s_:=An @q0 (An @q1 (@ChainR.enc.eq_1))
  try simp[s_]
  repeat' ((first|((first|refine Tp ?_|refine Tn ?_|refine T2 ?_ ?_)<;>intro h_ e_ n_)|refine Dg 9 42 [] [] ?_|rw[Ip]|rw[In]|rw[Fz]|rw[Gz]|fail)<;>first|simp[e_,n_,s_]|simp[s_]|skip)
 obtain⟨b,hb⟩:∃b,Zio last c=b:=⟨_,rfl⟩
 rw[hb]
 refine Pm Tryz.func114 fun hfit=> ?_
 simp[ChainR.enc] at hfit
 have hll:=hfit.1
 simp only[maxLen] at hll
 simp[Tryz.f114,ChainR.enc]
 have s_:=An @q0 (@q1)
 try simp[s_]
 repeat' ((first|((first|refine Tp ?_|refine Tn ?_|refine T2 ?_ ?_)<;>intro h_ e_ n_)|refine Dg 9 42 [] [] ?_|rw[Ip]|rw[In]|rw[Fz]|rw[Gz]|fail)<;>first|simp[e_,n_,s_]|simp[s_]|skip)
 refine AW.loopG (lit:=fun _=>false) (fun i:Nat=>⟨87,pat [(1,I last),(2,.ptr 0 0 0),(5,I i)],[.cells 0 [I c.ino,encL VerR.enc c.l]]⟩) (fun i=>c.l.length -i) (fun i=>i≤c.l.length∧∀(j:Nat) (h:j<c.l.length),j<i→(1≤c.l[j].stamp∧c.l[j].stamp≤last)∧VerP c.ino c.l[j]∧∀p,c.l[j -1]? =some p→0<j→p.stamp<c.l[j].stamp) 0 ?_ ?_ ?_
 ·exact Wa
 ·exact⟨by simp,fun j h hj=>by omega⟩
 rintro i ⟨g1,g2⟩ A hA
 by_cases hi:i<c.l.length
 case neg=>
  have e:b=true:=by
   rw[←hb]
   refine Zgf.2 ⟨by omega,fun e=>by rw[e] at q1;simp at q1,?_,fun v hv=> ?_,fun v hv=> ?_⟩
   ·refine Zip fun j h=> ?_
    have:=(g2 (j+1) h (by omega)).2.2 c.l[j] (by simp) (by omega)
    simpa using this
   ·obtain⟨j,hj,rfl⟩:=List.getElem_of_mem hv
    exact(g2 j hj (by omega)).1
   ·obtain⟨j,hj,rfl⟩:=List.getElem_of_mem hv
    exact(g2 j hj (by omega)).2.1
  rw[e]
  have s_:=hi
  try simp[s_]
  repeat' ((first|((first|refine Tp ?_|refine Tn ?_|refine T2 ?_ ?_)<;>intro h_ e_ n_)|refine Dg 9 42 [] [] ?_|rw[Ip]|rw[In]|rw[Fz]|rw[Gz]|fail)<;>first|simp[e_,n_,s_]|simp[s_]|skip)
 have hwi:=Zf hi hfit.1
 have hbad:¬((1≤c.l[i].stamp∧c.l[i].stamp≤last)∧VerP c.ino c.l[i]∧∀p,c.l[i -1]? =some p→0<i→p.stamp<c.l[i].stamp)→b=false:=fun hn=>by
  rw[←hb]
  refine ZdT fun h=>hn ⟨h.lo _ (List.getElem_mem hi),h.ver _ (List.getElem_mem hi),fun p hp h0=>by
   obtain⟨h1,rfl⟩:=List.getElem?_eq_some_iff.1 hp
   exact List.pairwise_iff_getElem.1 h.rise (i -1) i h1 hi (by omega)⟩
 have hgo:((1≤c.l[i].stamp∧c.l[i].stamp≤last)∧VerP c.ino c.l[i]∧∀p,c.l[i -1]? =some p→0<i→p.stamp<c.l[i].stamp)→∀(j:Nat) (h:j<c.l.length),j<i+1→(1≤c.l[j].stamp∧c.l[j].stamp≤last)∧VerP c.ino c.l[j]∧∀p,c.l[j -1]? =some p→0<j→p.stamp<c.l[j].stamp:=fun hn j h hj=>by
  rcases Nat.lt_or_ge j i with g|g
  ·exact g2 j h g
  ·have:j=i:=by omega
   subst this;exact hn
 have hR:=rnright_ok c.l[i].node
 have hZ:=rnsame_ok c.l[i].node .zero
 have hi1:i -1<c.l.length:=by omega
 have hp1:c.l[i -1]? =some c.l[i -1]:=List.getElem?_eq_getElem hi1
 have hwm:0<i→IntKind.i64.wrap ((i:Int) -1)=((i -1:Nat):Int):=fun hp=>by rw[Zj (by omega) (by omega)];omega
 clear g2
 have hv:verB c.ino c.l[i]=true↔_:=Zxn
 rw[←hv] at hbad hgo
 clear hv
 unfold verB at hbad hgo
 generalize hck:c.l[i -1]=p at*
 generalize hci:c.l[i]=v at*
 generalize hn1:nodeOk v.node=ok at*
 generalize hn2:decide (v.node=NodeR.zero)=zr at*
 by_cases q2:v.stamp<1
 ·rw[hbad fun h=>by have:=h.1;omega]
  have s_:=An @hi (An @hci (An @q2 (An @VerR.enc.eq_1 (An @NodeR.enc.eq_1 (@NodeR.zero.eq_1)))))
  try simp[s_]
  repeat' ((first|((first|refine Tp ?_|refine Tn ?_|refine T2 ?_ ?_)<;>intro h_ e_ n_)|refine Pg hR ?_|refine Sg hZ ?_|refine Dg 9 42 [] [] ?_|rw[Ip]|rw[In]|rw[Fz]|rw[Gz]|fail)<;>first|simp[e_,n_,s_]|simp[s_]|skip)
 by_cases q3:last<v.stamp
 ·rw[hbad fun h=>by have:=h.1;omega]
  have s_:=An @hi (An @hci (An @q2 (An @q3 (An @VerR.enc.eq_1 (An @NodeR.enc.eq_1 (@NodeR.zero.eq_1))))))
  try simp[s_]
  repeat' ((first|((first|refine Tp ?_|refine Tn ?_|refine T2 ?_ ?_)<;>intro h_ e_ n_)|refine Pg hR ?_|refine Sg hZ ?_|refine Dg 9 42 [] [] ?_|rw[Ip]|rw[In]|rw[Fz]|rw[Gz]|fail)<;>first|simp[e_,n_,s_]|simp[s_]|skip)
 by_cases q4:0<i∧v.stamp≤p.stamp
 ·rw[hbad fun h=>by have:=h.2.2 p hp1 q4.1;omega]
  have q5:=q4.1
  have q6:=q4.2
  have hwm:=hwm q5
  have s_:=An @hi (An @hci (An @hck (An @q2 (An @q3 (An @q5 (An @q6 (An @hwm (An @hi1 (An @VerR.enc.eq_1 (An @NodeR.enc.eq_1 (@NodeR.zero.eq_1)))))))))))
  try simp[s_]
  repeat' ((first|((first|refine Tp ?_|refine Tn ?_|refine T2 ?_ ?_)<;>intro h_ e_ n_)|refine Pg hR ?_|refine Sg hZ ?_|refine Dg 9 42 [] [] ?_|rw[Ip]|rw[In]|rw[Fz]|rw[Gz]|fail)<;>first|simp[e_,n_,s_]|simp[s_]|skip)
 have q7:∀p',c.l[i -1]? =some p'→0<i→p'.stamp<v.stamp:=fun p' e h0=>by
  rw[hp1] at e
  cases e
  omega
 have q8:0<i→¬v.stamp≤p.stamp:=fun h0=>by omega
 cases hg:v.gone with
 |true=>
  rw[hg,if_pos rfl] at hbad hgo
  cases zr with
  |false=>
   rw[hbad fun h=>by have:=h.2.1;simp at this]
   by_cases q5:0<i
   ·have hwm:=hwm q5
    have q8:=q8 q5
    have s_:=An @hi (An @hci (An @hck (An @q2 (An @q3 (An @q5 (An @q8 (An @hwm (An @hi1 (An @hg (An @VerR.enc.eq_1 (An @NodeR.enc.eq_1 (@NodeR.zero.eq_1))))))))))))
    try simp[s_]
    repeat' ((first|((first|refine Tp ?_|refine Tn ?_|refine T2 ?_ ?_)<;>intro h_ e_ n_)|refine Pg hR ?_|refine Sg hZ ?_|refine Dg 9 42 [] [] ?_|rw[Ip]|rw[In]|rw[Fz]|rw[Gz]|fail)<;>first|simp[e_,n_,s_]|simp[s_]|skip)
   ·have s_:=An @hi (An @hci (An @q2 (An @q3 (An @q5 (An @hg (An @VerR.enc.eq_1 (An @NodeR.enc.eq_1 (@NodeR.zero.eq_1))))))))
    try simp[s_]
    repeat' ((first|((first|refine Tp ?_|refine Tn ?_|refine T2 ?_ ?_)<;>intro h_ e_ n_)|refine Pg hR ?_|refine Sg hZ ?_|refine Dg 9 42 [] [] ?_|rw[Ip]|rw[In]|rw[Fz]|rw[Gz]|fail)<;>first|simp[e_,n_,s_]|simp[s_]|skip)
  |true=>
   have hgo:=hgo ⟨by omega,rfl,q7⟩
   by_cases q5:0<i
   ·have hwm:=hwm q5
    have q8:=q8 q5
    have s_:=An @hi (An @hci (An @hck (An @q2 (An @q3 (An @q5 (An @q8 (An @hwm (An @hwi (An @hi1 (An @hg (An @VerR.enc.eq_1 (An @NodeR.enc.eq_1 (@NodeR.zero.eq_1)))))))))))))
    try simp[s_]
    repeat' ((first|((first|refine Tp ?_|refine Tn ?_|refine T2 ?_ ?_)<;>intro h_ e_ n_)|(exact hA (i+1) _ Wc ⟨hi,hgo⟩ (by omega))|refine Pg hR ?_|refine Sg hZ ?_|refine Dg 9 42 [] [] ?_|rw[Ip]|rw[In]|rw[Fz]|rw[Gz]|fail)<;>first|simp[e_,n_,s_]|simp[s_]|skip)
   ·have s_:=An @hi (An @hci (An @q2 (An @q3 (An @q5 (An @hwi (An @hg (An @VerR.enc.eq_1 (An @NodeR.enc.eq_1 (@NodeR.zero.eq_1)))))))))
    try simp[s_]
    repeat' ((first|((first|refine Tp ?_|refine Tn ?_|refine T2 ?_ ?_)<;>intro h_ e_ n_)|(exact hA (i+1) _ Wc ⟨hi,hgo⟩ (by omega))|refine Pg hR ?_|refine Sg hZ ?_|refine Dg 9 42 [] [] ?_|rw[Ip]|rw[In]|rw[Fz]|rw[Gz]|fail)<;>first|simp[e_,n_,s_]|simp[s_]|skip)
 |false=>
  rw[hg,if_neg (by simp)] at hbad hgo
  by_cases q9:ok=true∧v.node.ino=c.ino
  case neg=>
   rw[hbad fun h=>q9 (by simpa using h.2.1)]
   cases ok with
   |false=>
    by_cases q5:0<i
    ·have hwm:=hwm q5
     have q8:=q8 q5
     have s_:=An @hi (An @hci (An @hck (An @q2 (An @q3 (An @q5 (An @q8 (An @hwm (An @hi1 (An @hg (An @VerR.enc.eq_1 (An @NodeR.enc.eq_1 (@NodeR.zero.eq_1))))))))))))
     try simp[s_]
     repeat' ((first|((first|refine Tp ?_|refine Tn ?_|refine T2 ?_ ?_)<;>intro h_ e_ n_)|refine Pg hR ?_|refine Sg hZ ?_|refine Dg 9 42 [] [] ?_|rw[Ip]|rw[In]|rw[Fz]|rw[Gz]|fail)<;>first|simp[e_,n_,s_]|simp[s_]|skip)
    ·have s_:=An @hi (An @hci (An @q2 (An @q3 (An @q5 (An @hg (An @VerR.enc.eq_1 (An @NodeR.enc.eq_1 (@NodeR.zero.eq_1))))))))
     try simp[s_]
     repeat' ((first|((first|refine Tp ?_|refine Tn ?_|refine T2 ?_ ?_)<;>intro h_ e_ n_)|refine Pg hR ?_|refine Sg hZ ?_|refine Dg 9 42 [] [] ?_|rw[Ip]|rw[In]|rw[Fz]|rw[Gz]|fail)<;>first|simp[e_,n_,s_]|simp[s_]|skip)
   |true=>
    have q9:¬v.node.ino=c.ino:=fun e=>q9 ⟨rfl,e⟩
    by_cases q5:0<i
    ·have hwm:=hwm q5
     have q8:=q8 q5
     have s_:=An @hi (An @hci (An @hck (An @q2 (An @q3 (An @q5 (An @q8 (An @hwm (An @hi1 (An @hg (An @q9 (An @VerR.enc.eq_1 (An @NodeR.enc.eq_1 (@NodeR.zero.eq_1)))))))))))))
     try simp[s_]
     repeat' ((first|((first|refine Tp ?_|refine Tn ?_|refine T2 ?_ ?_)<;>intro h_ e_ n_)|refine Pg hR ?_|refine Sg hZ ?_|refine Dg 9 42 [] [] ?_|rw[Ip]|rw[In]|rw[Fz]|rw[Gz]|fail)<;>first|simp[e_,n_,s_]|simp[s_]|skip)
    ·have s_:=An @hi (An @hci (An @q2 (An @q3 (An @q5 (An @hg (An @q9 (An @VerR.enc.eq_1 (An @NodeR.enc.eq_1 (@NodeR.zero.eq_1)))))))))
     try simp[s_]
     repeat' ((first|((first|refine Tp ?_|refine Tn ?_|refine T2 ?_ ?_)<;>intro h_ e_ n_)|refine Pg hR ?_|refine Sg hZ ?_|refine Dg 9 42 [] [] ?_|rw[Ip]|rw[In]|rw[Fz]|rw[Gz]|fail)<;>first|simp[e_,n_,s_]|simp[s_]|skip)
  obtain⟨rfl,q9⟩:=q9
  have hgo:=hgo ⟨by omega,by simp[q9],q7⟩
  by_cases q5:0<i
  ·have hwm:=hwm q5
   have q8:=q8 q5
   have s_:=An @hi (An @hci (An @hck (An @q2 (An @q3 (An @q5 (An @q8 (An @hwm (An @hwi (An @hi1 (An @hg (An @q9 (An @VerR.enc.eq_1 (An @NodeR.enc.eq_1 (@NodeR.zero.eq_1))))))))))))))
   try simp[s_]
   repeat' ((first|((first|refine Tp ?_|refine Tn ?_|refine T2 ?_ ?_)<;>intro h_ e_ n_)|(exact hA (i+1) _ Wc ⟨hi,hgo⟩ (by omega))|refine Pg hR ?_|refine Sg hZ ?_|refine Dg 9 42 [] [] ?_|rw[Ip]|rw[In]|rw[Fz]|rw[Gz]|fail)<;>first|simp[e_,n_,s_]|simp[s_]|skip)
  ·have s_:=An @hi (An @hci (An @q2 (An @q3 (An @q5 (An @hwi (An @hg (An @q9 (An @VerR.enc.eq_1 (An @NodeR.enc.eq_1 (@NodeR.zero.eq_1))))))))))
   try simp[s_]
   repeat' ((first|((first|refine Tp ?_|refine Tn ?_|refine T2 ?_ ?_)<;>intro h_ e_ n_)|(exact hA (i+1) _ Wc ⟨hi,hgo⟩ (by omega))|refine Pg hR ?_|refine Sg hZ ?_|refine Dg 9 42 [] [] ?_|rw[Ip]|rw[In]|rw[Fz]|rw[Gz]|fail)<;>first|simp[e_,n_,s_]|simp[s_]|skip)
theorem Ziq (s:StoreR):Ze Tryz.prog 60 [.agg s.enc] (B (storeB s)):=by
 by_cases q0:s.stamp<1
 ·rw[ZcC fun h=>by have:=h.stamp;omega]
  refine Pm Tryz.func60 fun hfit=> ?_
  simp[Tryz.f60]
  have s_:=An @q0 (@StoreR.enc.eq_1)
  try simp[s_]
  repeat' ((first|((first|refine Tp ?_|refine Tn ?_|refine T2 ?_ ?_)<;>intro h_ e_ n_)|refine Dg 6 9 [] [] ?_|refine Dg 7 22 [] [] ?_|refine Dg 13 31 [] [] ?_|rw[Ip]|rw[In]|rw[Fz]|rw[Gz]|fail)<;>first|simp[e_,n_,s_]|simp[s_]|skip)
 by_cases q1:s.nexts.length<1
 ·rw[ZcC fun h=>h.some (List.eq_nil_of_length_eq_zero (by omega))]
  refine Pm Tryz.func60 fun hfit=> ?_
  simp[Tryz.f60]
  have s_:=An @q0 (An @q1 (@StoreR.enc.eq_1))
  try simp[s_]
  repeat' ((first|((first|refine Tp ?_|refine Tn ?_|refine T2 ?_ ?_)<;>intro h_ e_ n_)|refine Dg 6 9 [] [] ?_|refine Dg 7 22 [] [] ?_|refine Dg 13 31 [] [] ?_|rw[Ip]|rw[In]|rw[Fz]|rw[Gz]|fail)<;>first|simp[e_,n_,s_]|simp[s_]|skip)
 obtain⟨b,hb⟩:∃b,storeB s=b:=⟨_,rfl⟩
 rw[hb]
 refine Pm Tryz.func60 fun hfit=> ?_
 simp[StoreR.enc] at hfit
 have hl1:=hfit.1.1
 have hl2:=hfit.2.1
 have hm1:=hl1
 have hm2:=hl2
 simp only[maxLen] at hm1 hm2
 simp[Tryz.f60,StoreR.enc]
 have s_:=An @q0 (@q1)
 try simp[s_]
 repeat' ((first|((first|refine Tp ?_|refine Tn ?_|refine T2 ?_ ?_)<;>intro h_ e_ n_)|refine Dg 6 9 [] [] ?_|refine Dg 7 22 [] [] ?_|refine Dg 13 31 [] [] ?_|rw[Ip]|rw[In]|rw[Fz]|rw[Gz]|fail)<;>first|simp[e_,n_,s_]|simp[s_]|skip)
 refine AW.loopG (lit:=fun _=>false) (fun i:Nat=>⟨96,pat [(1,.ptr 0 0 0),(3,I i)],[.cells 0 [encL ChainR.enc s.l,encL CountR.enc s.nexts,I s.stamp]]⟩) (fun i=>s.l.length -i) (fun i=>i≤s.l.length∧∀(j:Nat) (h:j<s.l.length),j<i→Zes s.stamp s.l[j]∧∀p,s.l[j -1]? =some p→0<j→p.ino<s.l[j].ino) 0 ?_ ?_ ?_
 ·exact Wa
 ·exact⟨by simp,fun j h hj=>by omega⟩
 rintro i ⟨g1,g2⟩ A hA
 by_cases hi:i<s.l.length
 case neg=>
  have hc1:∀c∈s.l,Zes s.stamp c:=fun c hc=>by
   obtain⟨j,hj,rfl⟩:=List.getElem_of_mem hc
   exact(g2 j hj (by omega)).1
  have hc2:s.l.Pairwise fun a b=>a.ino<b.ino:=Zip fun j h=>by
   have:=(g2 (j+1) h (by omega)).2 s.l[j] (by simp) (by omega)
   simpa using this
  clear g2
  have s_:=hi
  try simp[s_]
  repeat' ((first|((first|refine Tp ?_|refine Tn ?_|refine T2 ?_ ?_)<;>intro h_ e_ n_)|refine Dg 6 9 [] [] ?_|refine Dg 7 22 [] [] ?_|refine Dg 13 31 [] [] ?_|rw[Ip]|rw[In]|rw[Fz]|rw[Gz]|fail)<;>first|simp[e_,n_,s_]|simp[s_]|skip)
  refine AW.loopG (lit:=fun _=>false) (fun i:Nat=>⟨96,pat [(1,.ptr 0 0 0),(5,I i)],[.cells 0 [encL ChainR.enc s.l,encL CountR.enc s.nexts,I s.stamp]]⟩) (fun i=>s.nexts.length -i) (fun i=>i≤s.nexts.length∧∀(j:Nat) (h:j<s.nexts.length),j<i→(1≤s.nexts[j].stamp∧s.nexts[j].stamp≤s.stamp∧1≤s.nexts[j].next)∧∀p,s.nexts[j -1]? =some p→0<j→p.stamp<s.nexts[j].stamp) 0 ?_ ?_ ?_
  ·exact Wa
  ·exact⟨by simp,fun j h hj=>by omega⟩
  clear hA g1 hi
  rintro i ⟨g1,g2⟩ A hA
  by_cases hi:i<s.nexts.length
  case neg=>
   have e:b=true:=by
    rw[←hb]
    refine Zgg.2 ⟨by omega,hc1,hc2,fun e=>by rw[e] at q1;simp at q1,?_,fun v hv=> ?_⟩
    ·refine Zip fun j h=> ?_
     have:=(g2 (j+1) h (by omega)).2 s.nexts[j] (by simp) (by omega)
     simpa using this
    ·obtain⟨j,hj,rfl⟩:=List.getElem_of_mem hv
     exact(g2 j hj (by omega)).1
   rw[e]
   have s_:=hi
   try simp[s_]
   repeat' ((first|((first|refine Tp ?_|refine Tn ?_|refine T2 ?_ ?_)<;>intro h_ e_ n_)|refine Dg 6 9 [] [] ?_|refine Dg 7 22 [] [] ?_|refine Dg 13 31 [] [] ?_|rw[Ip]|rw[In]|rw[Fz]|rw[Gz]|fail)<;>first|simp[e_,n_,s_]|simp[s_]|skip)
  have hwi:=Zf hi hl2
  have hbad:¬((1≤s.nexts[i].stamp∧s.nexts[i].stamp≤s.stamp∧1≤s.nexts[i].next)∧∀p,s.nexts[i -1]? =some p→0<i→p.stamp<s.nexts[i].stamp)→b=false:=fun hn=>by
   rw[←hb]
   refine ZcC fun h=>hn ⟨h.count _ (List.getElem_mem hi),fun p hp h0=>by
    obtain⟨h1,rfl⟩:=List.getElem?_eq_some_iff.1 hp
    exact List.pairwise_iff_getElem.1 h.nrise (i -1) i h1 hi (by omega)⟩
  have hgo:((1≤s.nexts[i].stamp∧s.nexts[i].stamp≤s.stamp∧1≤s.nexts[i].next)∧∀p,s.nexts[i -1]? =some p→0<i→p.stamp<s.nexts[i].stamp)→∀(j:Nat) (h:j<s.nexts.length),j<i+1→(1≤s.nexts[j].stamp∧s.nexts[j].stamp≤s.stamp∧1≤s.nexts[j].next)∧∀p,s.nexts[j -1]? =some p→0<j→p.stamp<s.nexts[j].stamp:=fun hn j h hj=>by
   rcases Nat.lt_or_ge j i with g|g
   ·exact g2 j h g
   ·have:j=i:=by omega
    subst this;exact hn
  have hi1:i -1<s.nexts.length:=by omega
  have hp1:s.nexts[i -1]? =some s.nexts[i -1]:=List.getElem?_eq_getElem hi1
  have hwm:0<i→IntKind.i64.wrap ((i:Int) -1)=((i -1:Nat):Int):=fun hp=>by rw[Zj (by omega) (by omega)];omega
  clear g2
  generalize hck:s.nexts[i -1]=p at*
  generalize hci:s.nexts[i]=v at*
  by_cases q2:v.stamp<1
  ·rw[hbad fun h=>by have:=h.1;omega]
   have s_:=An @hi (An @hci (An @q2 (@CountR.enc.eq_1)))
   try simp[s_]
   repeat' ((first|((first|refine Tp ?_|refine Tn ?_|refine T2 ?_ ?_)<;>intro h_ e_ n_)|refine Dg 6 9 [] [] ?_|refine Dg 7 22 [] [] ?_|refine Dg 13 31 [] [] ?_|rw[Ip]|rw[In]|rw[Fz]|rw[Gz]|fail)<;>first|simp[e_,n_,s_]|simp[s_]|skip)
  by_cases q3:s.stamp<v.stamp
  ·rw[hbad fun h=>by have:=h.1;omega]
   have s_:=An @hi (An @hci (An @q2 (An @q3 (@CountR.enc.eq_1))))
   try simp[s_]
   repeat' ((first|((first|refine Tp ?_|refine Tn ?_|refine T2 ?_ ?_)<;>intro h_ e_ n_)|refine Dg 6 9 [] [] ?_|refine Dg 7 22 [] [] ?_|refine Dg 13 31 [] [] ?_|rw[Ip]|rw[In]|rw[Fz]|rw[Gz]|fail)<;>first|simp[e_,n_,s_]|simp[s_]|skip)
  by_cases q4:v.next<1
  ·rw[hbad fun h=>by have:=h.1;omega]
   have s_:=An @hi (An @hci (An @q2 (An @q3 (An @q4 (@CountR.enc.eq_1)))))
   try simp[s_]
   repeat' ((first|((first|refine Tp ?_|refine Tn ?_|refine T2 ?_ ?_)<;>intro h_ e_ n_)|refine Dg 6 9 [] [] ?_|refine Dg 7 22 [] [] ?_|refine Dg 13 31 [] [] ?_|rw[Ip]|rw[In]|rw[Fz]|rw[Gz]|fail)<;>first|simp[e_,n_,s_]|simp[s_]|skip)
  by_cases q5:0<i
  ·have hwm:=hwm q5
   by_cases q6:v.stamp≤p.stamp
   ·rw[hbad fun h=>by have:=h.2 p hp1 q5;omega]
    have s_:=An @hi (An @hci (An @hck (An @q2 (An @q3 (An @q4 (An @q5 (An @q6 (An @hwm (An @hi1 (@CountR.enc.eq_1))))))))))
    try simp[s_]
    repeat' ((first|((first|refine Tp ?_|refine Tn ?_|refine T2 ?_ ?_)<;>intro h_ e_ n_)|refine Dg 6 9 [] [] ?_|refine Dg 7 22 [] [] ?_|refine Dg 13 31 [] [] ?_|rw[Ip]|rw[In]|rw[Fz]|rw[Gz]|fail)<;>first|simp[e_,n_,s_]|simp[s_]|skip)
   ·have hgo:=hgo ⟨by omega,fun p' e h0=>by rw[hp1] at e;cases e;omega⟩
    have s_:=An @hi (An @hci (An @hck (An @q2 (An @q3 (An @q4 (An @q5 (An @q6 (An @hwm (An @hwi (An @hi1 (@CountR.enc.eq_1)))))))))))
    try simp[s_]
    repeat' ((first|((first|refine Tp ?_|refine Tn ?_|refine T2 ?_ ?_)<;>intro h_ e_ n_)|(exact hA (i+1) _ Wc ⟨hi,hgo⟩ (by omega))|refine Dg 6 9 [] [] ?_|refine Dg 7 22 [] [] ?_|refine Dg 13 31 [] [] ?_|rw[Ip]|rw[In]|rw[Fz]|rw[Gz]|fail)<;>first|simp[e_,n_,s_]|simp[s_]|skip)
  ·have hgo:=hgo ⟨by omega,fun p' e h0=>by omega⟩
   have s_:=An @hi (An @hci (An @q2 (An @q3 (An @q4 (An @q5 (An @hwi (@CountR.enc.eq_1)))))))
   try simp[s_]
   repeat' ((first|((first|refine Tp ?_|refine Tn ?_|refine T2 ?_ ?_)<;>intro h_ e_ n_)|(exact hA (i+1) _ Wc ⟨hi,hgo⟩ (by omega))|refine Dg 6 9 [] [] ?_|refine Dg 7 22 [] [] ?_|refine Dg 13 31 [] [] ?_|rw[Ip]|rw[In]|rw[Fz]|rw[Gz]|fail)<;>first|simp[e_,n_,s_]|simp[s_]|skip)
 have hwi:=Zf hi hl1
 have hbad:¬(Zes s.stamp s.l[i]∧∀p,s.l[i -1]? =some p→0<i→p.ino<s.l[i].ino)→b=false:=fun hn=>by
  rw[←hb]
  refine ZcC fun h=>hn ⟨h.chain _ (List.getElem_mem hi),fun p hp h0=>by
   obtain⟨h1,rfl⟩:=List.getElem?_eq_some_iff.1 hp
   exact List.pairwise_iff_getElem.1 h.rise (i -1) i h1 hi (by omega)⟩
 have hgo:(Zes s.stamp s.l[i]∧∀p,s.l[i -1]? =some p→0<i→p.ino<s.l[i].ino)→∀(j:Nat) (h:j<s.l.length),j<i+1→Zes s.stamp s.l[j]∧∀p,s.l[j -1]? =some p→0<j→p.ino<s.l[j].ino:=fun hn j h hj=>by
  rcases Nat.lt_or_ge j i with g|g
  ·exact g2 j h g
  ·have:j=i:=by omega
   subst this;exact hn
 have hi1:i -1<s.l.length:=by omega
 have hp1:s.l[i -1]? =some s.l[i -1]:=List.getElem?_eq_getElem hi1
 have hwm:0<i→IntKind.i64.wrap ((i:Int) -1)=((i -1:Nat):Int):=fun hp=>by rw[Zj (by omega) (by omega)];omega
 clear g2
 generalize hck:s.l[i -1]=p at*
 generalize hci:s.l[i]=c at*
 have hC:=Zxo c s.stamp
 cases hcb:Zio s.stamp c with
 |false=>
  rw[hbad fun h=>by rw[Zgf.2 h.1] at hcb;cases hcb]
  rw[hcb] at hC
  have s_:=An @hi (An @hci (@ChainR.enc.eq_1))
  try simp[s_]
  repeat' ((first|((first|refine Tp ?_|refine Tn ?_|refine T2 ?_ ?_)<;>intro h_ e_ n_)|refine Pg hC ?_|refine Dg 6 9 [] [] ?_|refine Dg 7 22 [] [] ?_|refine Dg 13 31 [] [] ?_|rw[Ip]|rw[In]|rw[Fz]|rw[Gz]|fail)<;>first|simp[e_,n_,s_]|simp[s_]|skip)
 |true=>
  rw[hcb] at hC
  rw[Zgf] at hcb
  by_cases q5:0<i
  ·have hwm:=hwm q5
   by_cases q6:c.ino≤p.ino
   ·rw[hbad fun h=>by have:=h.2 p hp1 q5;omega]
    have s_:=An @hi (An @hci (An @hck (An @q5 (An @q6 (An @hwm (An @hi1 (@ChainR.enc.eq_1)))))))
    try simp[s_]
    repeat' ((first|((first|refine Tp ?_|refine Tn ?_|refine T2 ?_ ?_)<;>intro h_ e_ n_)|refine Pg hC ?_|refine Dg 6 9 [] [] ?_|refine Dg 7 22 [] [] ?_|refine Dg 13 31 [] [] ?_|rw[Ip]|rw[In]|rw[Fz]|rw[Gz]|fail)<;>first|simp[e_,n_,s_]|simp[s_]|skip)
   ·have hgo:=hgo ⟨hcb,fun p' e h0=>by rw[hp1] at e;cases e;omega⟩
    have s_:=An @hi (An @hci (An @hck (An @q5 (An @q6 (An @hwm (An @hwi (An @hi1 (@ChainR.enc.eq_1))))))))
    try simp[s_]
    repeat' ((first|((first|refine Tp ?_|refine Tn ?_|refine T2 ?_ ?_)<;>intro h_ e_ n_)|(exact hA (i+1) _ Wc ⟨hi,hgo⟩ (by omega))|refine Pg hC ?_|refine Dg 6 9 [] [] ?_|refine Dg 7 22 [] [] ?_|refine Dg 13 31 [] [] ?_|rw[Ip]|rw[In]|rw[Fz]|rw[Gz]|fail)<;>first|simp[e_,n_,s_]|simp[s_]|skip)
  ·have hgo:=hgo ⟨hcb,fun p' e h0=>by omega⟩
   have s_:=An @hi (An @hci (An @q5 (An @hwi (@ChainR.enc.eq_1))))
   try simp[s_]
   repeat' ((first|((first|refine Tp ?_|refine Tn ?_|refine T2 ?_ ?_)<;>intro h_ e_ n_)|(exact hA (i+1) _ Wc ⟨hi,hgo⟩ (by omega))|refine Pg hC ?_|refine Dg 6 9 [] [] ?_|refine Dg 7 22 [] [] ?_|refine Dg 13 31 [] [] ?_|rw[Ip]|rw[In]|rw[Fz]|rw[Gz]|fail)<;>first|simp[e_,n_,s_]|simp[s_]|skip)
theorem Zvi (s:StoreR) (hb:Zbd s):Ze Tryz.prog 103 [.agg s.enc] (B (fewStore s)):=by
 have hl1:=hb.l
 have hl2:=hb.nexts
 have hl3:=hb.vers
 have hl4:=hb.ents
 clear hb
 obtain⟨cs,ns,st⟩:=s
 simp only at hl1 hl2 hl3 hl4
 obtain⟨b,hb⟩:∃b,fewStore ⟨cs,ns,st⟩=b:=⟨_,rfl⟩
 rw[hb]
 have hw0:IntKind.i64.wrap ((cs.length:Int)+ns.length)=(cs.length:Int)+ns.length:=Zj (by omega) (by omega)
 refine Pm Tryz.func103 fun hfit=> ?_
 simp[Tryz.f103,StoreR.enc]
 refine AW.loopG (lit:=fun _=>false) (fun x:Nat×Int=>⟨77,pat [(1,.ptr 0 0 0),(3,I x.2),(4,I x.1)],[.cells 0 [encL ChainR.enc cs,encL CountR.enc ns,I st]]⟩) (fun x=>cs.length -x.1) (fun x=>x.1≤cs.length∧0≤x.2∧x.2≤4194304∧(match fewC (cs.drop x.1) x.2 with|none=>false|some n=>decide (n≤200))=b) (0,(cs.length:Int)+ns.length) ?_ ?_ ?_
 ·exact Wk.at _ rfl (by simp) (by simp;exact hw0)
 ·exact⟨by simp,by simp only;omega,by simp only;omega,hb⟩
 rintro⟨i,n⟩ ⟨g1,g2,g3,g4⟩ A hA
 simp only at g1 g2 g3 g4 hA
 by_cases hi:i<cs.length
 case neg=>
  rw[List.drop_eq_nil_of_le (by omega),fewC] at g4
  simp only at g4
  subst g4
  have s_:=hi
  try simp[s_]
  repeat' ((first|((first|refine Tp ?_|refine Tn ?_|refine T2 ?_ ?_)<;>intro h_ e_ n_)|rw[Ip]|rw[In]|rw[Fz]|rw[Gz]|fail)<;>first|simp[e_,n_,s_]|simp[s_]|skip)
 rw[List.drop_eq_getElem_cons hi,fewC] at g4
 by_cases hn:n≤200
 case neg=>
  rw[if_neg hn] at g4
  simp only at g4
  subst g4
  have s_:=An @hi (@hn)
  try simp[s_]
  repeat' ((first|((first|refine Tp ?_|refine Tn ?_|refine T2 ?_ ?_)<;>intro h_ e_ n_)|rw[Ip]|rw[In]|rw[Fz]|rw[Gz]|fail)<;>first|simp[e_,n_,s_]|simp[s_]|skip)
 rw[if_pos hn] at g4
 have hwi:=Zf hi (by simp only[maxLen];omega)
 have hl3:=hl3 cs[i] (List.getElem_mem hi)
 have hl4:=hl4 cs[i] (List.getElem_mem hi)
 generalize hci:cs[i]=c at*
 have hw1:IntKind.i64.wrap (n+(c.l.length:Int))=n+c.l.length:=Zj (by omega) (by omega)
 have s_:=An @hi (An @hn (An @hci (An @hw1 (@ChainR.enc.eq_1))))
 try simp[s_]
 repeat' ((first|((first|refine Tp ?_|refine Tn ?_|refine T2 ?_ ?_)<;>intro h_ e_ n_)|rw[Ip]|rw[In]|rw[Fz]|rw[Gz]|fail)<;>first|simp[e_,n_,s_]|simp[s_]|skip)
 refine AW.loopG (lit:=fun _=>false) (fun x:Nat×Int=>⟨77,pat [(1,.ptr 0 0 0),(3,I x.2),(4,I i),(5,I x.1)],[.cells 0 [encL ChainR.enc cs,encL CountR.enc ns,I st]]⟩) (fun x=>c.l.length -x.1) (fun x=>x.1≤c.l.length∧0≤x.2∧x.2≤4194304∧(match(match fewV (c.l.drop x.1) x.2 with|none=>none|some m=>fewC (cs.drop (i+1)) m) with|none=>false|some n=>decide (n≤200))=b) (0,n+c.l.length) ?_ ?_ ?_
 ·exact Wk.at _ rfl (by simp[hw1]) (by simp)
 ·exact⟨by simp,by simp only;omega,by simp only;omega,g4⟩
 rintro⟨j,m⟩ ⟨k1,k2,k3,k4⟩ A' hA'
 simp only at k1 k2 k3 k4 hA'
 by_cases hj:j<c.l.length
 case neg=>
  rw[List.drop_eq_nil_of_le (by omega),fewV] at k4
  simp only at k4
  have s_:=An @hi (An @hci (An @hj (An @hwi (@ChainR.enc.eq_1))))
  try simp[s_]
  repeat' ((first|((first|refine Tp ?_|refine Tn ?_|refine T2 ?_ ?_)<;>intro h_ e_ n_)|(exact hA (i+1,m) _ Wa ⟨hi,k2,k3,k4⟩ (by simp only;omega))|rw[Ip]|rw[In]|rw[Fz]|rw[Gz]|fail)<;>first|simp[e_,n_,s_]|simp[s_]|skip)
 rw[List.drop_eq_getElem_cons hj,fewV] at k4
 by_cases hm:m≤200
 case neg=>
  rw[if_neg hm] at k4
  simp only at k4
  have s_:=An @hi (An @hci (An @hj (An @hm (An @hwi (@ChainR.enc.eq_1)))))
  try simp[s_]
  repeat' ((first|((first|refine Tp ?_|refine Tn ?_|refine T2 ?_ ?_)<;>intro h_ e_ n_)|(exact hA (i+1,m) _ Wa ⟨hi,k2,k3,k4⟩ (by simp only;omega))|rw[Ip]|rw[In]|rw[Fz]|rw[Gz]|fail)<;>first|simp[e_,n_,s_]|simp[s_]|skip)
 rw[if_pos hm] at k4
 have hwj:=Zf hj (by simp only[maxLen];omega)
 have hl4:=hl4 c.l[j] (List.getElem_mem hj)
 generalize hcj:c.l[j]=v at*
 have hw2:IntKind.i64.wrap (m+(v.node.l.length:Int))=m+v.node.l.length:=Zj (by omega) (by omega)
 by_cases ht:4096<v.node.text.size
 ·rw[if_pos ht] at k4
  simp only at k4
  subst k4
  have s_:=An @hi (An @hci (An @hj (An @hcj (An @hm (An @hw2 (An @ht (An @ChainR.enc.eq_1 (An @VerR.enc.eq_1 (@NodeR.enc.eq_1)))))))))
  try simp[s_]
  repeat' ((first|((first|refine Tp ?_|refine Tn ?_|refine T2 ?_ ?_)<;>intro h_ e_ n_)|rw[Ip]|rw[In]|rw[Fz]|rw[Gz]|fail)<;>first|simp[e_,n_,s_]|simp[s_]|skip)
 ·rw[if_neg ht] at k4
  have s_:=An @hi (An @hci (An @hj (An @hcj (An @hm (An @hw2 (An @hwj (An @ht (An @ChainR.enc.eq_1 (An @VerR.enc.eq_1 (@NodeR.enc.eq_1))))))))))
  try simp[s_]
  repeat' ((first|((first|refine Tp ?_|refine Tn ?_|refine T2 ?_ ?_)<;>intro h_ e_ n_)|(exact hA' (j+1,m+v.node.l.length) _ (Wk.at _ rfl (by simp[hw2]) (by simp)) ⟨hj,by simp only;omega,by simp only;omega,k4⟩ (by simp only;omega))|rw[Ip]|rw[In]|rw[Fz]|rw[Gz]|fail)<;>first|simp[e_,n_,s_]|simp[s_]|skip)
theorem Zkz {α:Type} {a b:List α} (hl:a.length=b.length) (h:∀(j:Nat) (ha:j<a.length) (hb:j<b.length),a[j]=b[j]):a=b:=List.ext_getElem hl fun j ha hb=>h j ha hb
def _root_.Go.Cx.CountR.vals (c:CountR):List Value:=[.int .i64 c.stamp,.int .i64 c.next]
abbrev cntK:List TypeDesc:=[.int .i64,.int .i64]
theorem _root_.Go.Cx.CountR.kinds (c:CountR):Zcs cntK c.vals:= .cons rfl (.cons rfl .nil)
theorem _root_.Go.Cx.CountR.vals_eq (a b:CountR):a.vals=b.vals↔a=b:=by
 cases a;cases b;simp[CountR.vals]
@[simp] theorem cnt_neq {P:Program} {t:TypeId} (ox oy:Operand) (ht:ZmL P t=some cntK) (hg:tagg P t=some true) (a b:CountR):abin P .neq t ox oy (.agg a.enc) (.agg b.enc)=some (.val (.bool (!decide (a=b)))):=by
 have:=(Ztv ht hg a.kinds b.kinds ox oy).2
 have e:decide (a.vals=b.vals)=decide (a=b):=by rw[decide_eq_decide];exact CountR.vals_eq a b
 rw[e] at this;exact this
theorem Zdc (a b:StoreR):Ze Tryz.prog 51 [.agg a.enc,.agg b.enc] (B (decide (a=b))):=by
 by_cases q0:a.stamp=b.stamp
 case neg=>
  rw[decide_eq_false fun h=>q0 (by rw[h])]
  refine Pm Tryz.func51 fun hfit=> ?_
  simp[Tryz.f51]
  have s_:=An @q0 (@StoreR.enc.eq_1)
  try simp[s_]
  repeat' ((first|((first|refine Tp ?_|refine Tn ?_|refine T2 ?_ ?_)<;>intro h_ e_ n_)|refine Dg 6 11 [] [] ?_|refine Dg 18 14 [] [] ?_|refine Dg 19 32 [] [] ?_|rw[Ip]|rw[In]|rw[Fz]|rw[Gz]|fail)<;>first|simp[e_,n_,s_]|simp[s_]|skip)
 by_cases q1:a.l.length=b.l.length
 case neg=>
  rw[decide_eq_false fun h=>q1 (by rw[h])]
  have q1':¬(a.l.length:Int)=b.l.length:=by omega
  refine Pm Tryz.func51 fun hfit=> ?_
  simp[Tryz.f51]
  have s_:=An @q0 (An @q1 (An @q1' (@StoreR.enc.eq_1)))
  try simp[s_]
  repeat' ((first|((first|refine Tp ?_|refine Tn ?_|refine T2 ?_ ?_)<;>intro h_ e_ n_)|refine Dg 6 11 [] [] ?_|refine Dg 18 14 [] [] ?_|refine Dg 19 32 [] [] ?_|rw[Ip]|rw[In]|rw[Fz]|rw[Gz]|fail)<;>first|simp[e_,n_,s_]|simp[s_]|skip)
 by_cases q2:a.nexts.length=b.nexts.length
 case neg=>
  rw[decide_eq_false fun h=>q2 (by rw[h])]
  have q2':¬(a.nexts.length:Int)=b.nexts.length:=by omega
  refine Pm Tryz.func51 fun hfit=> ?_
  simp[Tryz.f51]
  have s_:=An @q0 (An @q1 (An @q2 (An @q2' (@StoreR.enc.eq_1))))
  try simp[s_]
  repeat' ((first|((first|refine Tp ?_|refine Tn ?_|refine T2 ?_ ?_)<;>intro h_ e_ n_)|refine Dg 6 11 [] [] ?_|refine Dg 18 14 [] [] ?_|refine Dg 19 32 [] [] ?_|rw[Ip]|rw[In]|rw[Fz]|rw[Gz]|fail)<;>first|simp[e_,n_,s_]|simp[s_]|skip)
 obtain⟨r,hr⟩:∃r,decide (a=b)=r:=⟨_,rfl⟩
 rw[hr]
 obtain⟨al,an,ast⟩:=a
 obtain⟨bl,bn,bst⟩:=b
 simp only at q0 q1 q2
 subst q0
 have hbad1:an≠bn→r=false:=fun h=>by rw[←hr];exact decide_eq_false fun e=>h (by cases e;rfl)
 have hbad2:al≠bl→r=false:=fun h=>by rw[←hr];exact decide_eq_false fun e=>h (by cases e;rfl)
 have hgood:an=bn→al=bl→r=true:=fun h1 h2=>by rw[←hr,h1,h2];simp
 clear hr
 refine Pm Tryz.func51 fun hfit=> ?_
 simp[StoreR.enc] at hfit
 have hl1:=hfit.1.1.1
 have hl2:=hfit.1.2.1
 have hfv:=hfit.1.1.2
 have hm1:=hl1
 have hm2:=hl2
 simp only[maxLen] at hm1 hm2
 simp[Tryz.f51,StoreR.enc]
 have s_:=An @q1 (@q2)
 try simp[s_]
 repeat' ((first|((first|refine Tp ?_|refine Tn ?_|refine T2 ?_ ?_)<;>intro h_ e_ n_)|refine Dg 6 11 [] [] ?_|refine Dg 18 14 [] [] ?_|refine Dg 19 32 [] [] ?_|rw[Ip]|rw[In]|rw[Fz]|rw[Gz]|fail)<;>first|simp[e_,n_,s_]|simp[s_]|skip)
 refine AW.loopG (lit:=fun _=>false) (fun i:Nat=>⟨135,pat [(2,.ptr 0 0 0),(3,.ptr 1 0 0),(5,I i)],[.cells 0 [encL ChainR.enc al,encL CountR.enc an,I ast],.cells 0 [encL ChainR.enc bl,encL CountR.enc bn,I ast]]⟩) (fun i=>an.length -i) (fun i=>i≤an.length∧∀(j:Nat) (ha:j<an.length) (hb:j<bn.length),j<i→an[j]=bn[j]) 0 ?_ ?_ ?_
 ·exact Wa
 ·exact⟨by simp,fun j h _ hj=>by omega⟩
 rintro i ⟨g1,g2⟩ A hA
 by_cases hi:i<an.length
 case pos=>
  have hi2:i<bn.length:=by omega
  have hwi:=Zf hi hl2
  by_cases q3:an[i]=bn[i]
  ·have hgo:∀(j:Nat) (ha:j<an.length) (hb:j<bn.length),j<i+1→an[j]=bn[j]:=fun j ha hb hj=>by
    rcases Nat.lt_or_ge j i with g|g
    ·exact g2 j ha hb g
    ·have:j=i:=by omega
     subst this;exact q3
   have s_:=An @hi (An @hi2 (An @hwi (@q3)))
   try simp[s_]
   repeat' ((first|((first|refine Tp ?_|refine Tn ?_|refine T2 ?_ ?_)<;>intro h_ e_ n_)|(exact hA (i+1) _ Wa ⟨hi,hgo⟩ (by omega))|refine Dg 6 11 [] [] ?_|refine Dg 18 14 [] [] ?_|refine Dg 19 32 [] [] ?_|rw[Ip]|rw[In]|rw[Fz]|rw[Gz]|fail)<;>first|simp[e_,n_,s_]|simp[s_]|skip)
  ·rw[hbad1 fun e=>q3 (by subst e;rfl)]
   have s_:=An @hi (An @hi2 (@q3))
   try simp[s_]
   repeat' ((first|((first|refine Tp ?_|refine Tn ?_|refine T2 ?_ ?_)<;>intro h_ e_ n_)|refine Dg 6 11 [] [] ?_|refine Dg 18 14 [] [] ?_|refine Dg 19 32 [] [] ?_|rw[Ip]|rw[In]|rw[Fz]|rw[Gz]|fail)<;>first|simp[e_,n_,s_]|simp[s_]|skip)
 have hnn:an=bn:=Zkz q2 fun j ha hb=>g2 j ha hb (by omega)
 have hgood:=hgood hnn
 clear g2 hbad1
 have s_:=hi
 try simp[s_]
 repeat' ((first|((first|refine Tp ?_|refine Tn ?_|refine T2 ?_ ?_)<;>intro h_ e_ n_)|refine Dg 6 11 [] [] ?_|refine Dg 18 14 [] [] ?_|refine Dg 19 32 [] [] ?_|rw[Ip]|rw[In]|rw[Fz]|rw[Gz]|fail)<;>first|simp[e_,n_,s_]|simp[s_]|skip)
 clear hA g1 hi
 refine AW.loopG (lit:=fun _=>false) (fun i:Nat=>⟨135,pat [(2,.ptr 0 0 0),(3,.ptr 1 0 0),(6,I i)],[.cells 0 [encL ChainR.enc al,encL CountR.enc an,I ast],.cells 0 [encL ChainR.enc bl,encL CountR.enc bn,I ast]]⟩) (fun i=>al.length -i) (fun i=>i≤al.length∧∀(j:Nat) (ha:j<al.length) (hb:j<bl.length),j<i→al[j]=bl[j]) 0 ?_ ?_ ?_
 ·exact Wa
 ·exact⟨by simp,fun j h _ hj=>by omega⟩
 rintro i ⟨g1,g2⟩ A hA
 by_cases hi:i<al.length
 case neg=>
  rw[hgood (Zkz q1 fun j ha hb=>g2 j ha hb (by omega))]
  have s_:=hi
  try simp[s_]
  repeat' ((first|((first|refine Tp ?_|refine Tn ?_|refine T2 ?_ ?_)<;>intro h_ e_ n_)|refine Dg 6 11 [] [] ?_|refine Dg 18 14 [] [] ?_|refine Dg 19 32 [] [] ?_|rw[Ip]|rw[In]|rw[Fz]|rw[Gz]|fail)<;>first|simp[e_,n_,s_]|simp[s_]|skip)
 have hi2:i<bl.length:=by omega
 have hwi:=Zf hi hl1
 have hgo:al[i]=bl[i]→∀(j:Nat) (ha:j<al.length) (hb:j<bl.length),j<i+1→al[j]=bl[j]:=fun q3 j ha hb hj=>by
  rcases Nat.lt_or_ge j i with g|g
  ·exact g2 j ha hb g
  ·have:j=i:=by omega
   subst this;exact q3
 have hbad:al[i]≠bl[i]→r=false:=fun q=>hbad2 fun e=>q (by subst e;rfl)
 have hlv:al[i].l.length≤maxLen:=by
  have:=hfv al[i] (List.getElem_mem hi) (encL VerR.enc al[i].l) (by simp[ChainR.enc])
  simp at this
  exact this.1
 clear g2 hbad2 hgood
 generalize hx:al[i]=x at*
 generalize hy:bl[i]=y at*
 by_cases q3:x.ino=y.ino
 case neg=>
  rw[hbad fun e=>q3 (by rw[e])]
  have s_:=An @hi (An @hi2 (An @hx (An @hy (An @q3 (@ChainR.enc.eq_1)))))
  try simp[s_]
  repeat' ((first|((first|refine Tp ?_|refine Tn ?_|refine T2 ?_ ?_)<;>intro h_ e_ n_)|refine Dg 6 11 [] [] ?_|refine Dg 18 14 [] [] ?_|refine Dg 19 32 [] [] ?_|rw[Ip]|rw[In]|rw[Fz]|rw[Gz]|fail)<;>first|simp[e_,n_,s_]|simp[s_]|skip)
 by_cases q4:x.l.length=y.l.length
 case neg=>
  have q4':¬(x.l.length:Int)=y.l.length:=by omega
  rw[hbad fun e=>q4 (by rw[e])]
  have s_:=An @hi (An @hi2 (An @hx (An @hy (An @q3 (An @q4 (An @q4' (@ChainR.enc.eq_1)))))))
  try simp[s_]
  repeat' ((first|((first|refine Tp ?_|refine Tn ?_|refine T2 ?_ ?_)<;>intro h_ e_ n_)|refine Dg 6 11 [] [] ?_|refine Dg 18 14 [] [] ?_|refine Dg 19 32 [] [] ?_|rw[Ip]|rw[In]|rw[Fz]|rw[Gz]|fail)<;>first|simp[e_,n_,s_]|simp[s_]|skip)
 have s_:=An @hi (An @hi2 (An @hx (An @hy (An @q3 (An @q4 (@ChainR.enc.eq_1))))))
 try simp[s_]
 repeat' ((first|((first|refine Tp ?_|refine Tn ?_|refine T2 ?_ ?_)<;>intro h_ e_ n_)|refine Dg 6 11 [] [] ?_|refine Dg 18 14 [] [] ?_|refine Dg 19 32 [] [] ?_|rw[Ip]|rw[In]|rw[Fz]|rw[Gz]|fail)<;>first|simp[e_,n_,s_]|simp[s_]|skip)
 refine AW.loopG (lit:=fun _=>false) (fun j:Nat=>⟨135,pat [(2,.ptr 0 0 0),(3,.ptr 1 0 0),(6,I i),(7,.ptr 2 0 0),(8,.ptr 3 0 0),(9,I j)],[.cells 0 [encL ChainR.enc al,encL CountR.enc an,I ast],.cells 0 [encL ChainR.enc bl,encL CountR.enc bn,I ast],.cells 0 [I x.ino,encL VerR.enc x.l],.cells 0 [I y.ino,encL VerR.enc y.l]]⟩) (fun j=>x.l.length -j) (fun j=>j≤x.l.length∧∀(k:Nat) (ha:k<x.l.length) (hb:k<y.l.length),k<j→x.l[k]=y.l[k]) 0 ?_ ?_ ?_
 ·exact Wk.at _ rfl (by simp[q3,q4]) (by simp)
 ·exact⟨by simp,fun j h _ hj=>by omega⟩
 rintro j ⟨k1,k2⟩ A' hA'
 by_cases hj:j<x.l.length
 case neg=>
  have hl:x.l=y.l:=Zkz q4 fun k ha hb=>k2 k ha hb (by omega)
  have hxy:x=y:=by cases x;cases y;simp only at q3 hl;rw[q3,hl]
  have hgo:=hgo hxy
  have s_:=An @hi (An @hj (@hwi))
  try simp[s_]
  repeat' ((first|((first|refine Tp ?_|refine Tn ?_|refine T2 ?_ ?_)<;>intro h_ e_ n_)|(exact hA (i+1) _ Wc ⟨hi,hgo⟩ (by omega))|refine Dg 6 11 [] [] ?_|refine Dg 18 14 [] [] ?_|refine Dg 19 32 [] [] ?_|rw[Ip]|rw[In]|rw[Fz]|rw[Gz]|fail)<;>first|simp[e_,n_,s_]|simp[s_]|skip)
 have hj2:j<y.l.length:=by omega
 have hwj:=Zf hj hlv
 have hgo':x.l[j]=y.l[j]→∀(k:Nat) (ha:k<x.l.length) (hb:k<y.l.length),k<j+1→x.l[k]=y.l[k]:=fun q3 k ha hb hk=>by
  rcases Nat.lt_or_ge k j with g|g
  ·exact k2 k ha hb g
  ·have:k=j:=by omega
   subst this;exact q3
 have hbad':x.l[j]≠y.l[j]→r=false:=fun q=>hbad fun e=>q (by subst e;rfl)
 clear k2 hbad hgo
 generalize hv:x.l[j]=v at*
 generalize hw:y.l[j]=w at*
 have hN:=rnsame_ok v.node w.node
 by_cases q5:v.node=w.node
 case neg=>
  rw[hbad' fun e=>q5 (by rw[e])]
  rw[decide_eq_false q5] at hN
  have s_:=An @hj (An @hj2 (An @hv (An @hw (An @VerR.enc.eq_1 (@NodeR.enc.eq_1)))))
  try simp[s_]
  repeat' ((first|((first|refine Tp ?_|refine Tn ?_|refine T2 ?_ ?_)<;>intro h_ e_ n_)|refine Pg hN ?_|refine Dg 6 11 [] [] ?_|refine Dg 18 14 [] [] ?_|refine Dg 19 32 [] [] ?_|rw[Ip]|rw[In]|rw[Fz]|rw[Gz]|fail)<;>first|simp[e_,n_,s_]|simp[s_]|skip)
 rw[decide_eq_true q5] at hN
 by_cases q6:v.stamp=w.stamp
 case neg=>
  rw[hbad' fun e=>q6 (by rw[e])]
  have s_:=An @hj (An @hj2 (An @hv (An @hw (An @q6 (An @VerR.enc.eq_1 (@NodeR.enc.eq_1))))))
  try simp[s_]
  repeat' ((first|((first|refine Tp ?_|refine Tn ?_|refine T2 ?_ ?_)<;>intro h_ e_ n_)|refine Pg hN ?_|refine Dg 6 11 [] [] ?_|refine Dg 18 14 [] [] ?_|refine Dg 19 32 [] [] ?_|rw[Ip]|rw[In]|rw[Fz]|rw[Gz]|fail)<;>first|simp[e_,n_,s_]|simp[s_]|skip)
 by_cases q7:v.gone=w.gone
 case neg=>
  rw[hbad' fun e=>q7 (by rw[e])]
  have s_:=An @hj (An @hj2 (An @hv (An @hw (An @q6 (An @q7 (An @VerR.enc.eq_1 (@NodeR.enc.eq_1)))))))
  try simp[s_]
  repeat' ((first|((first|refine Tp ?_|refine Tn ?_|refine T2 ?_ ?_)<;>intro h_ e_ n_)|refine Pg hN ?_|refine Dg 6 11 [] [] ?_|refine Dg 18 14 [] [] ?_|refine Dg 19 32 [] [] ?_|rw[Ip]|rw[In]|rw[Fz]|rw[Gz]|fail)<;>first|simp[e_,n_,s_]|simp[s_]|skip)
 have hgo':=hgo' (by cases v;cases w;simp only at q5 q6 q7;rw[q5,q6,q7])
 have s_:=An @hj (An @hj2 (An @hv (An @hw (An @q6 (An @q7 (An @hwj (An @VerR.enc.eq_1 (@NodeR.enc.eq_1))))))))
 try simp[s_]
 repeat' ((first|((first|refine Tp ?_|refine Tn ?_|refine T2 ?_ ?_)<;>intro h_ e_ n_)|(exact hA' (j+1) _ Wa ⟨hj,hgo'⟩ (by omega))|refine Pg hN ?_|refine Dg 6 11 [] [] ?_|refine Dg 18 14 [] [] ?_|refine Dg 19 32 [] [] ?_|rw[Ip]|rw[In]|rw[Fz]|rw[Gz]|fail)<;>first|simp[e_,n_,s_]|simp[s_]|skip)
theorem eqI_ok (a b:List Int):Ze Tryz.prog 115 [enc1 I a,enc1 I b] (B (decide (a=b))):=by
 refine Pm Tryz.func115 fun hfit=> ?_
 simp at hfit
 simp[Tryz.f115]
 by_cases hl:a.length=b.length
 case neg=>
  have:¬a=b:=fun e=>hl (by rw[e])
  simp[hl,this]
 simp[hl]
 refine AW.loopG (lit:=fun _=>false) (fun i:Nat=>⟨26,pat [(0,enc1 I a),(1,enc1 I b),(12,I b.length),(13,I i)],[]⟩) (fun i=>b.length -i) (fun i=>i≤b.length∧a.take i=b.take i) 0 ?_ ?_ ?_
 ·exact Wk.at _ rfl (by simp[hl]) (by simp)
 ·simp
 rintro i ⟨hi,ht⟩ A hA
 by_cases h:i<b.length
 case neg=>
  have:=ZbM ht (by omega) (by omega)
  have s_:=An @h ((eq_true this))
  try simp[s_]
  repeat' ((first|((first|refine Tp ?_|refine Tn ?_|refine T2 ?_ ?_)<;>intro h_ e_ n_)|refine Dg 6 9 [] [] ?_|rw[Ip]|rw[In]|rw[Fz]|rw[Gz]|fail)<;>first|simp[e_,n_,s_]|simp[s_]|skip)
 have ha:i<a.length:=by omega
 have hw:=Zf ha hfit.1
 by_cases h2:a[i]=b[i]
 ·have s_:=An @h (An @ha (An @h2 (@hw)))
  try simp[s_]
  repeat' ((first|((first|refine Tp ?_|refine Tn ?_|refine T2 ?_ ?_)<;>intro h_ e_ n_)|(exact hA (i+1) _ Wa ⟨by omega,take_step ht ha h h2⟩ (by omega))|refine Dg 6 9 [] [] ?_|rw[Ip]|rw[In]|rw[Fz]|rw[Gz]|fail)<;>first|simp[e_,n_,s_]|simp[s_]|skip)
 ·have h3:¬a=b:=fun e=>by subst e;exact h2 rfl
  have s_:=An @h (An @ha (An @h2 (@h3)))
  try simp[s_]
  repeat' ((first|((first|refine Tp ?_|refine Tn ?_|refine T2 ?_ ?_)<;>intro h_ e_ n_)|refine Dg 6 9 [] [] ?_|rw[Ip]|rw[In]|rw[Fz]|rw[Gz]|fail)<;>first|simp[e_,n_,s_]|simp[s_]|skip)
theorem Zxr (l:List Int) (g:FuncId) (p:Int→Bool) (hp:∀x∈l,Ze Tryz.prog g [I x] (B (p x))) (hl:l.length≤1000000):Ze Tryz.prog 185 [enc1 I l,.fn g []] (I (idxS p l)):=by
 refine Pm Tryz.func185 fun hfit=> ?_
 simp at hfit
 simp[Tryz.f185]
 refine AW.loopG (lit:=fun _=>false) (fun i:Nat=>⟨19,pat [(0,enc1 I l),(1,.fn g []),(7,I l.length),(8,I i)],[]⟩) (fun i=>l.length -i) (fun i=>i≤l.length∧Zbr p i (l.drop i)=idxS p l) 0 ?_ ?_ ?_
 ·exact Wk.at _ rfl rfl (by simp)
 ·simp[idxS]
 rintro i ⟨h1,h2⟩ A hA
 by_cases hi:i<l.length
 case neg=>
  rw[Zhx hi] at h2
  have s_:=An @hi (Eq.symm (h2))
  try simp[s_]
  repeat' ((first|((first|refine Tp ?_|refine Tn ?_|refine T2 ?_ ?_)<;>intro h_ e_ n_)|rw[Ip]|rw[In]|rw[Fz]|rw[Gz]|fail)<;>first|simp[e_,n_,s_]|simp[s_]|skip)
 rw[ZiU hi] at h2
 have hw:=Zf hi (by simp only[maxLen];omega)
 have hpi:=hp l[i] (List.getElem_mem hi)
 cases hpp:p l[i] with
 |true=>
  rw[hpp] at hpi
  simp only[hpp,if_true] at h2
  have s_:=An @hi (An (Eq.symm (h2)) (@hpp))
  try simp[s_]
  repeat' ((first|((first|refine Tp ?_|refine Tn ?_|refine T2 ?_ ?_)<;>intro h_ e_ n_)|refine Pg hpi ?_|rw[Ip]|rw[In]|rw[Fz]|rw[Gz]|fail)<;>first|simp[e_,n_,s_]|simp[s_]|skip)
 |false=>
  rw[hpp] at hpi
  simp only[hpp,Bool.false_eq_true,if_false] at h2
  have s_:=An @hi (An @hw (@hpp))
  try simp[s_]
  repeat' ((first|((first|refine Tp ?_|refine Tn ?_|refine T2 ?_ ?_)<;>intro h_ e_ n_)|(exact hA (i+1) _ Wa ⟨by omega,h2⟩ (by omega))|refine Pg hpi ?_|rw[Ip]|rw[In]|rw[Fz]|rw[Gz]|fail)<;>first|simp[e_,n_,s_]|simp[s_]|skip)
theorem delI_ok (V:Nat) (l:List Int) (g:FuncId) (p:Int→Bool) (hp:∀x∈l,Ze Tryz.prog g [I x] (B (p x))) (hl:l.length≤1000000):XCall Tryz.prog 117 [.own 0 V 0 l.length 1,.fn g []] [.cells V (l.map I)] (.own 0 V 0 (l.filter fun x=> !p x).length 1) [.cells V ((l.filter fun x=> !p x).map I)]:=by
 refine XCall.mkG (fun s (_:Unit)=>s) (fun _=>false) Tryz.func117 rfl rfl rfl (Ent.mk Tryz.func117 (by kernel_rfl) rfl) (by simp) (by simp) (by simp) (by simp) (by simp) fun hfit=> ?_
 refine⟨WkE.one _ _,fun _=> ?_⟩
 have hix:=Zxr l g p hp hl
 by_cases h0:idxS p l= -1
 ·obtain⟨e1,_⟩:=Zlx h0
  simp[Tryz.f117]
  have s_:=h0
  try simp[s_]
  repeat' ((first|((first|refine Tp ?_|refine Tn ?_|refine T2 ?_ ?_)<;>intro h_ e_ n_)|refine Lg hix ?_|rw[Ip]|rw[In]|rw[Fz]|rw[Gz]|fail)<;>first|simp[e_,n_,s_]|simp[s_]|skip)
  exact⟨_,Wk.refl _ _,by simp[e1]⟩
 obtain⟨j0,hj0,e1,e2,e3⟩:=Zly h0
 have hw0:IntKind.i64.wrap ((j0:Int)+1)=(j0:Int)+1:=Zj (by omega) (by omega)
 have hn0:¬((j0:Int)= -1):=by omega
 rw[e1] at hix
 simp[Tryz.f117]
 have s_:=An @e1 (An @hw0 (@hn0))
 try simp[s_]
 repeat' ((first|((first|refine Tp ?_|refine Tn ?_|refine T2 ?_ ?_)<;>intro h_ e_ n_)|refine Lg hix ?_|rw[Ip]|rw[In]|rw[Fz]|rw[Gz]|fail)<;>first|simp[e_,n_,s_]|simp[s_]|skip)
 refine AW.loopG (lit:=fun _=>false) (fun x:Nat×Nat×List Int=>⟨42,pat [(0,.own 0 V 0 l.length 1),(1,.fn g []),(5,I x.1),(6,I x.2.1)],[.cells V (x.2.2.map I)]⟩) (fun x=>l.length -x.2.1) (fun x=>Zfd p l x.2.2 x.1 x.2.1) (j0,j0+1,l) ?_ ?_ ?_
 ·exact Wk.at _ rfl (by simp[e1,hw0]) (by simp)
 ·exact .start hj0 e2 e3
 rintro⟨i,j,m⟩ hd A hA
 simp only at hd hA
 have hml:=hd.len
 by_cases hj:j<l.length
 case neg=>
  obtain⟨d1,d2,d3⟩:=hd.done hj
  have s_:=An @hj (@hml)
  try simp[s_]
  repeat' ((first|((first|refine Tp ?_|refine Tn ?_|refine T2 ?_ ?_)<;>intro h_ e_ n_)|rw[Ip]|rw[In]|rw[Fz]|rw[Gz]|fail)<;>first|simp[e_,n_,s_]|simp[s_]|skip)
  exact⟨_,Wk.prefix 0 V i rfl rfl,by simp[d2],by
   have:(putAt (m.map I) i (List.replicate (l.length -i) (I 0))).take i=(m.take i).map I:=by
    rw[List.map_take]
    unfold putAt
    rw[List.append_assoc,List.take_left' (by simp;omega)]
   rw[d1] at this
   simpa using this⟩
 have hmj:=hd.get hj
 have hx:=hp l[j] (List.getElem_mem hj)
 have hw:IntKind.i64.wrap ((j:Int)+1)=((j+1:Nat):Int):=by rw[Zj (by omega) (by omega)];omega
 have hi:=hd.lt
 have hwi:IntKind.i64.wrap ((i:Int)+1)=((i+1:Nat):Int):=by rw[Zj (by omega) (by omega)];omega
 cases hpp:p l[j] with
 |true=>
  rw[hpp] at hx
  have s_:=An @hj (An @hml (An @hw (@hmj)))
  try simp[s_]
  repeat' ((first|((first|refine Tp ?_|refine Tn ?_|refine T2 ?_ ?_)<;>intro h_ e_ n_)|(exact hA (i,j+1,m) _ Wc (hd.skip hj hpp) (by simp only;omega))|refine Pg hx ?_|rw[Ip]|rw[In]|rw[Fz]|rw[Gz]|fail)<;>first|simp[e_,n_,s_]|simp[s_]|skip)
 |false=>
  rw[hpp] at hx
  have him:i<m.length:=by omega
  have hil:i<l.length:=by omega
  have s_:=An @hj (An @hml (An @hw (An @hwi (An @hmj (An @him (@hil))))))
  try simp[s_]
  repeat' ((first|((first|refine Tp ?_|refine Tn ?_|refine T2 ?_ ?_)<;>intro h_ e_ n_)|(exact hA (i+1,j+1,m.set i l[j]) _ (Wk.cutAt _ rfl (by simp) (by simp) (by simp[-List.map_set]) (by simp)) (hd.keep hj hpp) (by simp only;omega))|refine Pg hx ?_|rw[Ip]|rw[In]|rw[Fz]|rw[Gz]|fail)<;>first|simp[e_,n_,s_]|simp[s_]|skip)
theorem Zxs (m:Nat) (hm:m≤5000000):XCall Tryz.prog 216 [.sl true 0 [],I m] [] (.own 0 0 0 0 1) [.cells 0 []]:=by
 have hw:IntKind.i64.wrap (m:Int)=m:=Zj (by omega) (by omega)
 by_cases h0:m=0
 ·subst h0
  refine XCall.mkG (fun s (_:Unit)=>s) (fun _=>false) Tryz.func216 rfl rfl rfl (Ent.mk Tryz.func216 (by kernel_rfl) rfl) (by simp) (by simp) (by simp) (by simp) (by simp) fun hfit=> ?_
  refine⟨WkE.one _ _,fun _=> ?_⟩
  have s_:=An (@Tryz.f216.eq_1) (@hw)
  try simp[s_]
  repeat' ((first|((first|refine Tp ?_|refine Tn ?_|refine T2 ?_ ?_)<;>intro h_ e_ n_)|rw[Ip]|rw[In]|rw[Fz]|rw[Gz]|fail)<;>first|simp[e_,n_,s_]|simp[s_]|skip)
  exact⟨_,Wk.ownNil 4 1 (by simp),by simp⟩
 ·refine XCall.mkG (fun s (_:Unit)=>s) (fun _=>false) Tryz.func216 rfl rfl rfl (Ent.mk Tryz.func216 (by kernel_rfl) rfl) (by simp) (by simp) (by simp) (by simp) (by simp) fun hfit=> ?_
  refine⟨WkE.one _ _,fun _=> ?_⟩
  have h1:0<m:=by omega
  have hx:m≤maxLen:=by simp only[maxLen];omega
  have s_:=An (@Tryz.f216.eq_1) (An @hw (An @h0 (An @h1 (@hx))))
  try simp[s_]
  repeat' ((first|((first|refine Tp ?_|refine Tn ?_|refine T2 ?_ ?_)<;>intro h_ e_ n_)|rw[Ip]|rw[In]|rw[Fz]|rw[Gz]|fail)<;>first|simp[e_,n_,s_]|simp[s_]|skip)
  exact⟨_,Wk.prefix 0 0 0 rfl rfl,by simp⟩
def looksV (f:FSR) (c:CallR):Nat:=if c.kind=15 then 0 else(ZaH f c).length -2
theorem Zvj (f:FSR) (c:CallR) (h:Zi f):XCall Tryz.prog 31 [encF f,encC c] [] (.own 2 (looksV f c) 0 (looksS f c).length 1) [.cells 0 f.enc,.cells 0 c.enc,.cells (looksV f c) ((looksS f c).map I)]:=by
 by_cases k:c.kind=15
 ·have h1:=ZfU 0 [0] (by decide)
  have e:numsS [0]=[0]:=rfl
  rw[e] at h1
  have e2:looksS f c=[0]:=by unfold looksS;rw[if_pos k]
  have ev:looksV f c=0:=by unfold looksV;rw[if_pos k]
  rw[e2,ev]
  refine XCall.mk' (fun t=>t==52) Tryz.func31 rfl rfl rfl (Ent.mk Tryz.func31 (by kernel_rfl) rfl) (by simp) (by simp) (by simp) (by simp) (by simp) fun hfit=> ?_
  simp[Tryz.f31,k]
  refine AInv.heap [2] h1 (by simp) (by simp) ?_
  simp
 have ev:looksV f c=(ZaH f c).length -2:=by unfold looksV;rw[if_neg k]
 rw[Zxc f c k,ev]
 have hlen:=h.len
 have htot:=ZrL f c
 refine XCall.mk' (fun t=>t==52) Tryz.func31 rfl rfl rfl (Ent.mk Tryz.func31 (by kernel_rfl) rfl) (by simp) (by simp) (by simp) (by simp) (by simp) fun hfit=> ?_
 simp[Tryz.f31,k]
 refine AW.loopG (lit:=fun t=>t==52) (fun x:Nat×List Int×Nat=>⟨66,pat [(2,.ptr 0 0 0),(3,.ptr 1 0 0),(5,.own 2 x.2.2 0 x.2.1.length 1),(28,.own 3 0 0 2 1),(29,I 2),(30,I x.1)],[.cells 0 f.enc,.cells 0 c.enc,.cells x.2.2 (x.2.1.map I),.cells 0 [I c.ino,I c.to_]]⟩) (fun x=>2 -x.1)
  (fun x=>x.1≤2∧x.2.1++([c.ino,c.to_].drop x.1).flatMap (ZcB f c)=ZaH f c∧x.2.2+2=x.2.1.length) (0,[c.ino,c.to_],0) ?_ ?_ ?_
 ·exact Wa
 ·exact⟨by simp,by simp[ZaH],by simp⟩
 rintro⟨i,acc,ver⟩ ⟨g1,g2,g4⟩ A hA
 simp only at g1 g2 g4 hA
 by_cases hi:i<2
 case neg=>
  have:i=2:=by omega
  subst this
  simp only[List.drop_succ_cons,List.drop_nil,List.flatMap_nil,List.append_nil,List.drop_zero] at g2
  rw[←g2] at htot
  have h1:=ZfU ver acc (by omega)
  have ev2:ver=(ZaH f c).length -2:=by rw[←g2];omega
  rw[g2] at h1
  rw[ev2] at h1⊢
  subst g2
  clear ev2 ev
  simp
  refine AInv.heap [2] h1 (by simp) (by simp) ?_
  simp
 have hi2:i=0∨i=1:=by omega
 rcases hi2 with rfl|rfl
 ·have g3:acc++[c.name,c.name2].flatMap (ZW f c.ino)++ZcB f c c.to_=ZaH f c:=by simpa[ZcB] using g2
  have hrow:=h.row c.ino
  have h1:=find_ok f c.ino (by omega)
  have hN:∀s,Ze Tryz.prog 86 [encL EntryR.enc (findB f.l c.ino).1.l,S s] (.tup [I (findE (findB f.l c.ino).1.l s).1,B (findE (findB f.l c.ino).1.l s).2]):=fun s=>nfind_ok (findB f.l c.ino).1.l s hrow.rise (by have:=hrow.len;omega)
  try simp
  repeat' ((first|((first|refine Tp ?_|refine Tn ?_|refine T2 ?_ ?_)<;>intro h_ e_ n_)|refine Pg h1 ?_|rw[Ip]|rw[In]|rw[Fz]|rw[Gz]|fail)<;>first|simp[e_,n_]|simp|skip)
  refine AW.loopG (lit:=fun t=>t==52) (fun x:Nat×List Int×Nat=>⟨66,pat [(2,.ptr 0 0 0),(3,.ptr 1 0 0),(5,.own 2 x.2.2 0 x.2.1.length 1),(8,.ptr 4 0 0),(28,.own 3 0 0 2 1),(29,I 2),(30,I 0),(44,.sl true 2 [S c.name,S c.name2]),(45,I 2),(46,I x.1)],[.cells 0 f.enc,.cells 0 c.enc,.cells x.2.2 (x.2.1.map I),.cells 0 [I c.ino,I c.to_],.cells 0 (findB f.l c.ino).1.enc]⟩) (fun x=>2 -x.1)
   (fun x=>x.1≤2∧x.2.1++([c.name,c.name2].drop x.1).flatMap (ZW f c.ino)++ZcB f c c.to_=ZaH f c∧x.2.2+2=x.2.1.length) (0,acc,ver) ?_ ?_ ?_
  ·exact Wa
  ·exact⟨by simp,by simpa using g3,g4⟩
  rintro⟨j,acc2,ver2⟩ ⟨k1,k2,k4⟩ A2 hA2
  simp only at k1 k2 k4 hA2
  by_cases hj:j<2
  case neg=>
   have:j=2:=by omega
   subst this
   have k3:acc2++([c.ino,c.to_].drop (0+1)).flatMap (ZcB f c)=ZaH f c:=by simpa using k2
   try simp
   repeat' ((first|((first|refine Tp ?_|refine Tn ?_|refine T2 ?_ ?_)<;>intro h_ e_ n_)|(exact hA (0+1,acc2,ver2) _ Wc ⟨by simp,k3,k4⟩ (by simp))|rw[Ip]|rw[In]|rw[Fz]|rw[Gz]|fail)<;>first|simp[e_,n_]|simp|skip)
  have ha2:acc2.length≤6:=by
   rw[←k2] at htot
   simp only[List.length_append] at htot
   omega
  have hm:acc2.length+1≤maxLen:=by simp only[maxLen];omega
  have hj2:j=0∨j=1:=by omega
  rcases hj2 with rfl|rfl
  ·have q:=hN c.name
   simp only[List.drop_zero,List.drop_succ_cons,List.flatMap_cons,List.flatMap_nil,List.append_nil] at k2
   cases hf:(findE (findB f.l c.ino).1.l c.name).2 with
   |false=>
    rw[hf] at q
    have k3:acc2++([c.name,c.name2].drop (0+1)).flatMap (ZW f c.ino)++ZcB f c c.to_=ZaH f c:=by
     have e:ZW f c.ino c.name=[]:=by simp[ZW,hf]
     rw[e] at k2
     simpa using k2
    have s_:=hm
    try simp[s_]
    repeat' ((first|((first|refine Tp ?_|refine Tn ?_|refine T2 ?_ ?_)<;>intro h_ e_ n_)|(exact hA2 (0+1,acc2,ver2) _ Wc ⟨by simp,k3,k4⟩ (by simp))|refine Pg q ?_|rw[Ip]|rw[In]|rw[Fz]|rw[Gz]|fail)<;>first|simp[e_,n_,s_]|simp[s_]|skip)
   |true=>
    rw[hf] at q
    have k3:(acc2++[(findE (findB f.l c.ino).1.l c.name).1])++([c.name,c.name2].drop (0+1)).flatMap (ZW f c.ino)++ZcB f c c.to_=ZaH f c:=by
     have e:ZW f c.ino c.name=[(findE (findB f.l c.ino).1.l c.name).1]:=by simp[ZW,hf]
     rw[e] at k2
     simpa using k2
    generalize(findE (findB f.l c.ino).1.l c.name).1=v at*
    have s_:=An @hm ((show acc2.length+1≤17592186044416 by omega))
    try simp[s_]
    repeat' ((first|((first|refine Tp ?_|refine Tn ?_|refine T2 ?_ ?_)<;>intro h_ e_ n_)|(exact hA2 (0+1,acc2++[v],ver2+1) _ Wc ⟨by simp,k3,by simp only[List.length_append,List.length_cons,List.length_nil];omega⟩ (by simp))|refine Pg q ?_|rw[Ip]|rw[In]|rw[Fz]|rw[Gz]|fail)<;>first|simp[e_,n_,s_]|simp[s_]|skip)
  ·have q:=hN c.name2
   simp only[List.drop_zero,List.drop_succ_cons,List.flatMap_cons,List.flatMap_nil,List.append_nil] at k2
   cases hf:(findE (findB f.l c.ino).1.l c.name2).2 with
   |false=>
    rw[hf] at q
    have k3:acc2++([c.name,c.name2].drop (1+1)).flatMap (ZW f c.ino)++ZcB f c c.to_=ZaH f c:=by
     have e:ZW f c.ino c.name2=[]:=by simp[ZW,hf]
     rw[e] at k2
     simpa using k2
    have s_:=hm
    try simp[s_]
    repeat' ((first|((first|refine Tp ?_|refine Tn ?_|refine T2 ?_ ?_)<;>intro h_ e_ n_)|(exact hA2 (1+1,acc2,ver2) _ Wc ⟨by simp,k3,k4⟩ (by simp))|refine Pg q ?_|rw[Ip]|rw[In]|rw[Fz]|rw[Gz]|fail)<;>first|simp[e_,n_,s_]|simp[s_]|skip)
   |true=>
    rw[hf] at q
    have k3:(acc2++[(findE (findB f.l c.ino).1.l c.name2).1])++([c.name,c.name2].drop (1+1)).flatMap (ZW f c.ino)++ZcB f c c.to_=ZaH f c:=by
     have e:ZW f c.ino c.name2=[(findE (findB f.l c.ino).1.l c.name2).1]:=by simp[ZW,hf]
     rw[e] at k2
     simpa using k2
    generalize(findE (findB f.l c.ino).1.l c.name2).1=v at*
    have s_:=An @hm ((show acc2.length+1≤17592186044416 by omega))
    try simp[s_]
    repeat' ((first|((first|refine Tp ?_|refine Tn ?_|refine T2 ?_ ?_)<;>intro h_ e_ n_)|(exact hA2 (1+1,acc2++[v],ver2+1) _ Wc ⟨by simp,k3,by simp only[List.length_append,List.length_cons,List.length_nil];omega⟩ (by simp))|refine Pg q ?_|rw[Ip]|rw[In]|rw[Fz]|rw[Gz]|fail)<;>first|simp[e_,n_,s_]|simp[s_]|skip)
 ·have g3:acc++[c.name,c.name2].flatMap (ZW f c.to_)=ZaH f c:=by simpa[ZcB] using g2
  have hrow:=h.row c.to_
  have h1:=find_ok f c.to_ (by omega)
  have hN:∀s,Ze Tryz.prog 86 [encL EntryR.enc (findB f.l c.to_).1.l,S s] (.tup [I (findE (findB f.l c.to_).1.l s).1,B (findE (findB f.l c.to_).1.l s).2]):=fun s=>nfind_ok (findB f.l c.to_).1.l s hrow.rise (by have:=hrow.len;omega)
  try simp
  repeat' ((first|((first|refine Tp ?_|refine Tn ?_|refine T2 ?_ ?_)<;>intro h_ e_ n_)|refine Pg h1 ?_|rw[Ip]|rw[In]|rw[Fz]|rw[Gz]|fail)<;>first|simp[e_,n_]|simp|skip)
  refine AW.loopG (lit:=fun t=>t==52) (fun x:Nat×List Int×Nat=>⟨66,pat [(2,.ptr 0 0 0),(3,.ptr 1 0 0),(5,.own 2 x.2.2 0 x.2.1.length 1),(8,.ptr 4 0 0),(28,.own 3 0 0 2 1),(29,I 2),(30,I 1),(44,.sl true 2 [S c.name,S c.name2]),(45,I 2),(46,I x.1)],[.cells 0 f.enc,.cells 0 c.enc,.cells x.2.2 (x.2.1.map I),.cells 0 [I c.ino,I c.to_],.cells 0 (findB f.l c.to_).1.enc]⟩) (fun x=>2 -x.1)
   (fun x=>x.1≤2∧x.2.1++([c.name,c.name2].drop x.1).flatMap (ZW f c.to_)=ZaH f c∧x.2.2+2=x.2.1.length) (0,acc,ver) ?_ ?_ ?_
  ·exact Wa
  ·exact⟨by simp,by simpa using g3,g4⟩
  rintro⟨j,acc2,ver2⟩ ⟨k1,k2,k4⟩ A2 hA2
  simp only at k1 k2 k4 hA2
  by_cases hj:j<2
  case neg=>
   have:j=2:=by omega
   subst this
   have k3:acc2++([c.ino,c.to_].drop (1+1)).flatMap (ZcB f c)=ZaH f c:=by simpa using k2
   try simp
   repeat' ((first|((first|refine Tp ?_|refine Tn ?_|refine T2 ?_ ?_)<;>intro h_ e_ n_)|(exact hA (1+1,acc2,ver2) _ Wc ⟨by simp,k3,k4⟩ (by simp))|rw[Ip]|rw[In]|rw[Fz]|rw[Gz]|fail)<;>first|simp[e_,n_]|simp|skip)
  have ha2:acc2.length≤6:=by
   rw[←k2] at htot
   simp only[List.length_append] at htot
   omega
  have hm:acc2.length+1≤maxLen:=by simp only[maxLen];omega
  have hj2:j=0∨j=1:=by omega
  rcases hj2 with rfl|rfl
  ·have q:=hN c.name
   simp only[List.drop_zero,List.drop_succ_cons,List.flatMap_cons,List.flatMap_nil,List.append_nil] at k2
   cases hf:(findE (findB f.l c.to_).1.l c.name).2 with
   |false=>
    rw[hf] at q
    have k3:acc2++([c.name,c.name2].drop (0+1)).flatMap (ZW f c.to_)=ZaH f c:=by
     have e:ZW f c.to_ c.name=[]:=by simp[ZW,hf]
     rw[e] at k2
     simpa using k2
    have s_:=hm
    try simp[s_]
    repeat' ((first|((first|refine Tp ?_|refine Tn ?_|refine T2 ?_ ?_)<;>intro h_ e_ n_)|(exact hA2 (0+1,acc2,ver2) _ Wc ⟨by simp,k3,k4⟩ (by simp))|refine Pg q ?_|rw[Ip]|rw[In]|rw[Fz]|rw[Gz]|fail)<;>first|simp[e_,n_,s_]|simp[s_]|skip)
   |true=>
    rw[hf] at q
    have k3:(acc2++[(findE (findB f.l c.to_).1.l c.name).1])++([c.name,c.name2].drop (0+1)).flatMap (ZW f c.to_)=ZaH f c:=by
     have e:ZW f c.to_ c.name=[(findE (findB f.l c.to_).1.l c.name).1]:=by simp[ZW,hf]
     rw[e] at k2
     simpa using k2
    generalize(findE (findB f.l c.to_).1.l c.name).1=v at*
    have s_:=An @hm ((show acc2.length+1≤17592186044416 by omega))
    try simp[s_]
    repeat' ((first|((first|refine Tp ?_|refine Tn ?_|refine T2 ?_ ?_)<;>intro h_ e_ n_)|(exact hA2 (0+1,acc2++[v],ver2+1) _ Wc ⟨by simp,k3,by simp only[List.length_append,List.length_cons,List.length_nil];omega⟩ (by simp))|refine Pg q ?_|rw[Ip]|rw[In]|rw[Fz]|rw[Gz]|fail)<;>first|simp[e_,n_,s_]|simp[s_]|skip)
  ·have q:=hN c.name2
   simp only[List.drop_zero,List.drop_succ_cons,List.flatMap_cons,List.flatMap_nil,List.append_nil] at k2
   cases hf:(findE (findB f.l c.to_).1.l c.name2).2 with
   |false=>
    rw[hf] at q
    have k3:acc2++([c.name,c.name2].drop (1+1)).flatMap (ZW f c.to_)=ZaH f c:=by
     have e:ZW f c.to_ c.name2=[]:=by simp[ZW,hf]
     rw[e] at k2
     simpa using k2
    have s_:=hm
    try simp[s_]
    repeat' ((first|((first|refine Tp ?_|refine Tn ?_|refine T2 ?_ ?_)<;>intro h_ e_ n_)|(exact hA2 (1+1,acc2,ver2) _ Wc ⟨by simp,k3,k4⟩ (by simp))|refine Pg q ?_|rw[Ip]|rw[In]|rw[Fz]|rw[Gz]|fail)<;>first|simp[e_,n_,s_]|simp[s_]|skip)
   |true=>
    rw[hf] at q
    have k3:(acc2++[(findE (findB f.l c.to_).1.l c.name2).1])++([c.name,c.name2].drop (1+1)).flatMap (ZW f c.to_)=ZaH f c:=by
     have e:ZW f c.to_ c.name2=[(findE (findB f.l c.to_).1.l c.name2).1]:=by simp[ZW,hf]
     rw[e] at k2
     simpa using k2
    generalize(findE (findB f.l c.to_).1.l c.name2).1=v at*
    have s_:=An @hm ((show acc2.length+1≤17592186044416 by omega))
    try simp[s_]
    repeat' ((first|((first|refine Tp ?_|refine Tn ?_|refine T2 ?_ ?_)<;>intro h_ e_ n_)|(exact hA2 (1+1,acc2++[v],ver2+1) _ Wc ⟨by simp,k3,by simp only[List.length_append,List.length_cons,List.length_nil];omega⟩ (by simp))|refine Pg q ?_|rw[Ip]|rw[In]|rw[Fz]|rw[Gz]|fail)<;>first|simp[e_,n_,s_]|simp[s_]|skip)
theorem ZrW (a b:List Int) (t:Bool) (ha:a.length≤2000000) (hb:b.length≤2000000):XCall Tryz.prog 180 [.sl t 2 [enc1 I a,enc1 I b]] [] (.own 0 2 0 (a++b).length 1) [.cells 2 ((a++b).map I)]:=by
 have hg:=Zxs (a.length+b.length) (by omega)
 have hw1:IntKind.i64.wrap (a.length:Int)=a.length:=Zj (by omega) (by omega)
 have hw2:IntKind.i64.wrap ((a.length:Int)+b.length)=((a.length+b.length:Nat):Int):=by rw[Zj (by omega) (by omega)];omega
 refine XCall.mk' (fun _=>false) Tryz.func180 rfl rfl rfl (Ent.mk Tryz.func180 (by kernel_rfl) rfl) (by simp) (by simp) (by simp) (by simp) (by simp) fun hfit=> ?_
 simp[Tryz.f180]
 refine AW.loopG (lit:=fun _=>false) (fun i:Nat=>⟨36,pat [(0,.sl t 2 [enc1 I a,enc1 I b]),(3,I (if i=0 then 0 else if i=1 then a.length else a.length+b.length:Nat)),(9,.sl t 2 [enc1 I a,enc1 I b]),(10,I 2),(11,I i)],[]⟩) (fun i=>2 -i) (fun i=>i≤2) 0 ?_ ?_ ?_
 ·exact Wa
 ·simp
 rintro i g1 A hA
 have hi:i=0∨i=1∨i=2:=by omega
 rcases hi with rfl|rfl|rfl
 ·have s_:=hw1
  try simp[s_]
  repeat' ((first|((first|refine Tp ?_|refine Tn ?_|refine T2 ?_ ?_)<;>intro h_ e_ n_)|(exact hA 1 _ Wa (by simp) (by simp))|rw[Ip]|rw[In]|rw[Fz]|rw[Gz]|fail)<;>first|simp[e_,n_,s_]|simp[s_]|skip)
 ·have s_:=hw2
  try simp[s_]
  repeat' ((first|((first|refine Tp ?_|refine Tn ?_|refine T2 ?_ ?_)<;>intro h_ e_ n_)|(exact hA 2 _ Wa (by simp) (by simp))|rw[Ip]|rw[In]|rw[Fz]|rw[Gz]|fail)<;>first|simp[e_,n_,s_]|simp[s_]|skip)
 ·try simp
  repeat' ((first|((first|refine Tp ?_|refine Tn ?_|refine T2 ?_ ?_)<;>intro h_ e_ n_)|(refine AInv.fresh [] hg (by simp) (by simp) ?_;simp)|rw[Ip]|rw[In]|rw[Fz]|rw[Gz]|fail)<;>first|simp[e_,n_]|simp|skip)
  refine AW.loopG (lit:=fun _=>false) (fun x:Nat×List Int=>⟨36,pat [(6,.own 0 x.1 0 x.2.length 1),(25,.sl t 2 [enc1 I a,enc1 I b]),(26,I 2),(27,I x.1)],[.cells x.1 (x.2.map I)]⟩) (fun x=>2 -x.1) (fun x=>x.1≤2∧x.2=if x.1=0 then[] else if x.1=1 then a else a++b) (0,[]) ?_ ?_ ?_
  ·exact Wa
  ·simp
  rintro⟨j,acc⟩ ⟨k1,k2⟩ A2 hA2
  simp only at k1 k2 hA2
  have hj:j=0∨j=1∨j=2:=by omega
  rcases hj with rfl|rfl|rfl
  ·have k2:acc=[]:=k2
   subst k2
   have hx:a.length≤maxLen:=by simp only[maxLen];omega
   have s_:=hx
   try simp[s_]
   repeat' ((first|((first|refine Tp ?_|refine Tn ?_|refine T2 ?_ ?_)<;>intro h_ e_ n_)|(exact hA2 (1,a) _ Wc ⟨by simp,by simp⟩ (by simp))|rw[Ip]|rw[In]|rw[Fz]|rw[Gz]|fail)<;>first|simp[e_,n_,s_]|simp[s_]|skip)
  ·have k2:acc=a:=k2
   subst k2
   have hx:acc.length+b.length≤maxLen:=by simp only[maxLen];omega
   have s_:=hx
   try simp[s_]
   repeat' ((first|((first|refine Tp ?_|refine Tn ?_|refine T2 ?_ ?_)<;>intro h_ e_ n_)|(exact hA2 (2,acc++b) _ Wc ⟨by simp,by simp⟩ (by simp))|rw[Ip]|rw[In]|rw[Fz]|rw[Gz]|fail)<;>first|simp[e_,n_,s_]|simp[s_]|skip)
  ·have k2:acc=a++b:=k2
   subst k2
   try simp
   repeat' ((first|((first|refine Tp ?_|refine Tn ?_|refine T2 ?_ ?_)<;>intro h_ e_ n_)|rw[Ip]|rw[In]|rw[Fz]|rw[Gz]|fail)<;>first|simp[e_,n_]|simp|skip)
theorem ZnP {h:Zb} {f ver m:Nat} {a b:List AV} (ha:a.all neat=true) (hl:a.length=m):Zeq h (f+1) ver 0 m 1 (some (.cells ver (a++b)))=some (.sl false m a):=by
 simp only[Zeq,true_and,Nat.zero_add,Nat.zero_mul,List.drop_zero,Nat.mul_one]
 rw[if_pos (by simp;omega)]
 split
 ·rename_i h0
  have:a=[]:=List.eq_nil_of_length_eq_zero (by omega)
  rw[this,h0]
 ·rw[List.take_left' hl,ZbL ha];rfl
theorem Zir (a b:List Int) (ha:a.length≤2000000) (hb:b.length≤2000000):Ze Tryz.prog 110 [enc1 I a,enc1 I b] (enc1 I (numsS (a++b))):=by
 have h0:=ZrW a b true ha hb
 have h1:=Zpw 2 (a++b) (by rw[List.length_append];omega)
 have hsl:(sortI (a++b)).length=(a++b).length:=List.length_mergeSort _
 have h2:=Zih 2 (sortI (a++b)) (by rw[hsl,List.length_append];omega)
 rw[show Lib.compact (sortI (a++b))=numsS (a++b) from ZdL (a++b),hsl] at h2
 generalize sortI (a++b)=z at*
 have hq:=Zfk (a++b)
 generalize numsS (a++b)=q at*
 generalize a++b=l at*
 refine Pm Tryz.func110 fun hfit=> ?_
 simp[Tryz.f110]
 refine AInv.fresh [] h0 (by simp) (by simp) ?_
 simp
 refine AInv.heap [0] h1 (by simp) (by simp) ?_
 simp
 refine AInv.heap [0] h2 (by simp) (by simp) ?_
 simp
 rw[ZnP (by simp) (by simp)]
 simp[Function.comp_def]
theorem less_ok (a b:Int):Ze Tryz.prog 174 [I a,I b] (B (decide (a<b))):=by
 have hn:∀x,Ze Tryz.prog 215 [I x] (B false):=fun x=>by
  refine Pm Tryz.func215 fun hfit=> ?_
  simp[Tryz.f215]
 refine Pm Tryz.func174 fun hfit=> ?_
 simp[Tryz.f174]
 try simp
 repeat' ((first|((first|refine Tp ?_|refine Tn ?_|refine T2 ?_ ?_)<;>intro h_ e_ n_)|refine Pg (hn a) ?_|refine Pg (hn b) ?_|rw[Ip]|rw[In]|rw[Fz]|rw[Gz]|fail)<;>first|simp[e_,n_]|simp|skip)
theorem nan_ok (x:Int):Ze Tryz.prog 175 [I x] (B false):=by
 refine Pm Tryz.func175 fun hfit=> ?_
 simp[Tryz.f175]
abbrev atI (l:List Int) (i:Nat):Int:=l.getD i 0
theorem bsI_ok (l:List Int) (k:Int) (hl:l.length≤1000000):Ze Tryz.prog 107 [enc1 I l,I k] (.tup [I (bsGo (atI l) k 0 l.length),B (decide (bsGo (atI l) k 0 l.length<l.length)&&decide (atI l (bsGo (atI l) k 0 l.length)=k))]):=by
 refine Pm Tryz.func107 fun hfit=> ?_
 simp at hfit
 simp[Tryz.f107]
 refine AW.loopG (lit:=fun _=>false) (fun x:Nat×Nat=>⟨54,pat [(0,enc1 I l),(1,I k),(6,I l.length),(7,I x.1),(8,I x.2)],[]⟩) (fun x=>x.2 -x.1) (fun x=>x.1≤x.2∧x.2≤l.length∧bsGo (atI l) k x.1 x.2=bsGo (atI l) k 0 l.length) (0,l.length) ?_ ?_ ?_
 ·exact Wk.at _ rfl rfl (by simp)
 ·simp
 rintro⟨i,j⟩ ⟨h1,h2,h3⟩ A hA
 simp only at h1 h2 h3
 have hat:∀m (h:m<l.length),atI l m=l[m]:=fun m h=>by simp[atI,List.getD_eq_getElem?_getD,h]
 by_cases h:i<j
 case neg=>
  have hij:i=j:=by omega
  subst hij
  rw[Zhw h] at h3
  by_cases hi:i<l.length
  ·have e1:=hat i hi
   have hN:=nan_ok l[i]
   by_cases q:l[i]=k
   ·have s_:=An @h (An @hi (An (Eq.symm (h3)) (An @e1 (@q))))
    try simp[s_]
    repeat' ((first|((first|refine Tp ?_|refine Tn ?_|refine T2 ?_ ?_)<;>intro h_ e_ n_)|refine Pg hN ?_|rw[Ip]|rw[In]|rw[Fz]|rw[Gz]|fail)<;>first|simp[e_,n_,s_]|simp[s_]|skip)
   ·have s_:=An @h (An @hi (An (Eq.symm (h3)) (An @e1 (@q))))
    try simp[s_]
    repeat' ((first|((first|refine Tp ?_|refine Tn ?_|refine T2 ?_ ?_)<;>intro h_ e_ n_)|refine Pg hN ?_|rw[Ip]|rw[In]|rw[Fz]|rw[Gz]|fail)<;>first|simp[e_,n_,s_]|simp[s_]|skip)
  ·have s_:=An @h (An @hi (Eq.symm (h3)))
   try simp[s_]
   repeat' ((first|((first|refine Tp ?_|refine Tn ?_|refine T2 ?_ ?_)<;>intro h_ e_ n_)|rw[Ip]|rw[In]|rw[Fz]|rw[Gz]|fail)<;>first|simp[e_,n_,s_]|simp[s_]|skip)
 rw[Zhv h] at h3
 have hm:(i+j)/2<l.length:=by omega
 have e1:=hat _ hm
 have w1:IntKind.i64.wrap ((i:Int)+j)=(i:Int)+j:=Zj (by omega) (by omega)
 have w2:((i:Int)+j)%18446744073709551616=(i:Int)+j:=by omega
 have w3:((i:Int)+j).fdiv 2=(((i+j)/2:Nat):Int):=by rw[Int.fdiv_eq_ediv_of_nonneg _ (by omega)];omega
 have w4:IntKind.i64.wrap (((i+j)/2:Nat):Int)=(((i+j)/2:Nat):Int):=Zj (by omega) (by omega)
 generalize hmm:(i+j)/2=m at*
 have w5:IntKind.i64.wrap ((m:Int)+1)=((m+1:Nat):Int):=by rw[Zj (by omega) (by omega)];omega
 have hL:=less_ok l[m] k
 have hk:atI l m<k∨¬atI l m<k:=Classical.em _
 rcases hk with hk|hk
 ·rw[if_pos hk] at h3
  rw[e1] at hk
  have s_:=An @h (An @w1 (An @w2 (An @w3 (An @w4 (An @w5 (An @hm (@hk)))))))
  try simp[s_]
  repeat' ((first|((first|refine Tp ?_|refine Tn ?_|refine T2 ?_ ?_)<;>intro h_ e_ n_)|(exact hA (m+1,j) _ Wa ⟨by simp only;omega,h2,h3⟩ (by simp only;omega))|refine Pg hL ?_|rw[Ip]|rw[In]|rw[Fz]|rw[Gz]|fail)<;>first|simp[e_,n_,s_]|simp[s_]|skip)
 ·rw[if_neg hk] at h3
  rw[e1] at hk
  have s_:=An @h (An @w1 (An @w2 (An @w3 (An @w4 (An @w5 (An @hm (@hk)))))))
  try simp[s_]
  repeat' ((first|((first|refine Tp ?_|refine Tn ?_|refine T2 ?_ ?_)<;>intro h_ e_ n_)|(exact hA (i,m) _ Wa ⟨by simp only;omega,by simp only;omega,h3⟩ (by simp only;omega))|refine Pg hL ?_|rw[Ip]|rw[In]|rw[Fz]|rw[Gz]|fail)<;>first|simp[e_,n_,s_]|simp[s_]|skip)
theorem Zxt (l:List Int) (k:Int) (hr:ZL l=true) (hl:l.length≤1000000):∃i,Ze Tryz.prog 107 [enc1 I l,I k] (.tup [I i,B (decide (k∈l))]):=by
 have h1:=bsI_ok l k hl
 have hat:∀m (h:m<l.length),atI l m=l[m]:=fun m h=>by simp[atI,List.getD_eq_getElem?_getD,h]
 rw[ZoV idI hr hat k] at h1
 have e:(decide (placeS idI l k<l.length)&&decide (atI l (placeS idI l k)=k))=decide (k∈l):=by
  cases hf:Zkh idI l k with
  |some x=>
   obtain⟨hp,e⟩:=ZqT idI hr hf
   obtain⟨m1,m2⟩:=Zfg idI hf
   have m2:x=k:=m2
   subst m2
   rw[hat _ hp,e]
   simp[hp,m1]
  |none=>
   have hk:¬k∈l:=fun hk=>(ZiY idI).1 hf k hk rfl
   by_cases hp:placeS idI l k<l.length
   ·have:=ZqU idI hr hf hp
    rw[hat _ hp]
    have:¬l[placeS idI l k]=k:=this
    simp[this,hk]
   ·simp[hp,hk]
 rw[e] at h1
 exact⟨_,h1⟩
theorem Zvk (n:Int):Ze Tryz.prog 118 [I n] (B (decide (n<1))):=by
 refine Pm Tryz.func118 fun hfit=> ?_
 simp[Tryz.f118]
theorem ZpJ (f:FSR) (c:CallR) (h:Zi f):Ze Tryz.prog 65 [encF f,encC c] (enc1 I (touchS f c)):=by
 have h0:=Zvj f c h
 have hr:=(Zbb f c).1
 have hlen:=ZhV f c
 have ht:touchS f c=numsS ((looksS f c).filter (fun n=> !decide (n<1))++if touchK c=true then[0] else[]):=rfl
 generalize looksV f c=V at*
 generalize touchS f c=t at*
 generalize looksS f c=L at*
 have h1:=delI_ok V L 118 (fun n=>decide (n<1)) (fun x _=>Zvk x) (by omega)
 have hfl:=List.length_filter_le (fun n:Int=> !decide (n<1)) L
 have hrf:ZL (L.filter fun n=> !decide (n<1))=true:=ZaZ idI hr _
 generalize(L.filter fun n=> !decide (n<1))=q at*
 cases hk:touchK c with
 |true=>
  rw[hk,if_pos rfl] at ht
  have h2:=Zir q [0] (by omega) (by simp)
  simp only[touchK,Bool.or_eq_true,decide_eq_true_eq] at hk
  rw[←ht] at h2
  refine Pm Tryz.func65 fun hfit=> ?_
  simp[Tryz.f65]
  refine AInv.fresh [] h0 (by simp) (by simp) ?_
  simp
  refine AInv.fresh [4] h1 (by simp) (by simp) ?_
  simp
  have s_:= @CallR.enc.eq_1
  try simp[s_]
  repeat' ((first|((first|refine Tp ?_|refine Tn ?_|refine T2 ?_ ?_)<;>intro h_ e_ n_)|refine Gg [4] h2 ?_|rw[Ip]|rw[In]|rw[Fz]|rw[Gz]|fail)<;>first|simp[e_,n_,s_]|simp[s_]|skip)
 |false=>
  rw[hk,if_neg (by simp),List.append_nil,Zjd hrf] at ht
  simp only[touchK,Bool.or_eq_false_iff,decide_eq_false_iff_not] at hk
  subst ht
  refine Pm Tryz.func65 fun hfit=> ?_
  simp[Tryz.f65]
  refine AInv.fresh [] h0 (by simp) (by simp) ?_
  simp
  refine AInv.fresh [4] h1 (by simp) (by simp) ?_
  simp
  have s_:= @CallR.enc.eq_1
  try simp[s_]
  repeat' ((first|((first|refine Tp ?_|refine Tn ?_|refine T2 ?_ ?_)<;>intro h_ e_ n_)|rw[Ip]|rw[In]|rw[Fz]|rw[Gz]|fail)<;>first|simp[e_,n_,s_]|simp[s_]|skip)
theorem ZrX (a b:List NodeR):Ze Tryz.prog 181 [encL NodeR.enc a,encL NodeR.enc b,.fn 98 []] (B (decide (a=b))):=by
 refine Pm Tryz.func181 fun hfit=> ?_
 simp at hfit
 simp[Tryz.f181]
 by_cases hl:a.length=b.length
 case neg=>
  have:¬a=b:=fun e=>hl (by rw[e])
  simp[hl,this]
 simp[hl]
 refine AW.loopG (lit:=fun _=>false) (fun i:Nat=>⟨32,pat [(0,encL NodeR.enc a),(1,encL NodeR.enc b),(2,.fn 98 []),(15,encL NodeR.enc a),(16,I b.length),(17,I i)],[]⟩) (fun i=>b.length -i) (fun i=>i≤b.length∧a.take i=b.take i) 0 ?_ ?_ ?_
 ·exact Wk.at _ rfl (by simp[hl]) (by simp)
 ·simp
 rintro i ⟨hi,ht⟩ A hA
 by_cases h:i<b.length
 case neg=>
  have:=ZbM ht (by omega) (by omega)
  have s_:=An @h ((eq_true this))
  try simp[s_]
  repeat' ((first|((first|refine Tp ?_|refine Tn ?_|refine T2 ?_ ?_)<;>intro h_ e_ n_)|rw[Ip]|rw[In]|rw[Fz]|rw[Gz]|fail)<;>first|simp[e_,n_,s_]|simp[s_]|skip)
 have ha:i<a.length:=by omega
 have hw:=Zf ha hfit.1.1
 have hN:=Zpn a[i] b[i]
 by_cases h2:a[i]=b[i]
 ·rw[decide_eq_true h2] at hN
  have ht:=take_step ht ha h h2
  have s_:=An @h (An @ha (@hw))
  try simp[s_]
  repeat' ((first|((first|refine Tp ?_|refine Tn ?_|refine T2 ?_ ?_)<;>intro h_ e_ n_)|(exact hA (i+1) _ Wc ⟨by omega,ht⟩ (by omega))|refine Pg hN ?_|rw[Ip]|rw[In]|rw[Fz]|rw[Gz]|fail)<;>first|simp[e_,n_,s_]|simp[s_]|skip)
 ·have h3:¬a=b:=fun e=>by subst e;exact h2 rfl
  rw[decide_eq_false h2] at hN
  have s_:=An @h (An @ha (@h3))
  try simp[s_]
  repeat' ((first|((first|refine Tp ?_|refine Tn ?_|refine T2 ?_ ?_)<;>intro h_ e_ n_)|refine Pg hN ?_|rw[Ip]|rw[In]|rw[Fz]|rw[Gz]|fail)<;>first|simp[e_,n_,s_]|simp[s_]|skip)
theorem ZnQ (f g:FSR):Ze Tryz.prog 111 [encF f,encF g] (B (decide (f=g))):=by
 have h1:=ZrX f.l g.l
 have e:decide (f=g)=(decide (f.next=g.next)&&decide (f.l=g.l)):=by
  cases f;cases g;rw[Bool.eq_iff_iff];simp[and_comm]
 rw[e]
 generalize decide (f.l=g.l)=x at*
 by_cases q:f.next=g.next
 ·refine Pm Tryz.func111 fun hfit=> ?_
  simp[Tryz.f111]
  have s_:=An @q (@FSR.enc.eq_1)
  try simp[s_]
  repeat' ((first|((first|refine Tp ?_|refine Tn ?_|refine T2 ?_ ?_)<;>intro h_ e_ n_)|refine Pg h1 ?_|rw[Ip]|rw[In]|rw[Fz]|rw[Gz]|fail)<;>first|simp[e_,n_,s_]|simp[s_]|skip)
 ·refine Pm Tryz.func111 fun hfit=> ?_
  simp[Tryz.f111]
  have s_:=An @q (@FSR.enc.eq_1)
  try simp[s_]
  repeat' ((first|((first|refine Tp ?_|refine Tn ?_|refine T2 ?_ ?_)<;>intro h_ e_ n_)|rw[Ip]|rw[In]|rw[Fz]|rw[Gz]|fail)<;>first|simp[e_,n_,s_]|simp[s_]|skip)
theorem ZcD (s:StoreR) (hl:s.l.length≤2000000):Ze Tryz.prog 54 [.agg s.enc] (.agg (beginS s).enc):=by
 have h1:=view_ok s s.stamp hl
 unfold beginS
 generalize viewS s s.stamp=f at*
 refine Pm Tryz.func54 fun hfit=> ?_
 simp[Tryz.f54]
 have s_:=An @StoreR.enc.eq_1 (An @TxnR.enc.eq_1 (@FSR.enc.eq_1))
 try simp[s_]
 repeat' ((first|((first|refine Tp ?_|refine Tn ?_|refine T2 ?_ ?_)<;>intro h_ e_ n_)|refine Pg h1 ?_|rw[Ip]|rw[In]|rw[Fz]|rw[Gz]|fail)<;>first|simp[e_,n_,s_]|simp[s_]|skip)
theorem Zmp (s:StoreR) (hb:Zbd s):Ze Tryz.prog 64 [.agg s.enc] (.agg (beginS s).enc):=by
 have h1:=ZbZ s s.stamp hb
 unfold beginS
 generalize viewS s s.stamp=f at*
 refine Pm Tryz.func64 fun hfit=> ?_
 simp[Tryz.f64]
 have s_:=An @StoreR.enc.eq_1 (An @TxnR.enc.eq_1 (@FSR.enc.eq_1))
 try simp[s_]
 repeat' ((first|((first|refine Tp ?_|refine Tn ?_|refine T2 ?_ ?_)<;>intro h_ e_ n_)|refine Pg h1 ?_|rw[Ip]|rw[In]|rw[Fz]|rw[Gz]|fail)<;>first|simp[e_,n_,s_]|simp[s_]|skip)
theorem Zgh (t:TxnR):Ze Tryz.prog 56 [.agg t.enc] (B (decide (t.was=t.now))):=by
 have h1:=ZnQ t.was t.now
 refine Pm Tryz.func56 fun hfit=> ?_
 simp[Tryz.f56]
 have s_:=An @TxnR.enc.eq_1 (@FSR.enc.eq_1)
 try simp[s_]
 repeat' ((first|((first|refine Tp ?_|refine Tn ?_|refine T2 ?_ ?_)<;>intro h_ e_ n_)|refine Pg h1 ?_|rw[Ip]|rw[In]|rw[Fz]|rw[Gz]|fail)<;>first|simp[e_,n_,s_]|simp[s_]|skip)
theorem txn_eq (a b:TxnR):a=b↔a.stamp=b.stamp∧a.looks=b.looks∧a.was=b.was∧a.now=b.now:=by
 cases a;cases b;simp only[TxnR.mk.injEq];constructor
 ·rintro⟨h1,h2,h3,h4⟩;exact⟨h1,h4,h2,h3⟩
 ·rintro⟨h1,h2,h3,h4⟩;exact⟨h1,h3,h4,h2⟩
theorem Zxu (a b:TxnR):Ze Tryz.prog 67 [.agg a.enc,.agg b.enc] (B (decide (a=b))):=by
 have h1:=eqI_ok a.looks b.looks
 have h2:=ZnQ a.was b.was
 have h3:=ZnQ a.now b.now
 have e:decide (a=b)=(decide (a.stamp=b.stamp)&&(decide (a.looks=b.looks)&&(decide (a.was=b.was)&&decide (a.now=b.now)))):=by
  rw[Bool.eq_iff_iff];simp only[Bool.and_eq_true,decide_eq_true_eq];exact txn_eq a b
 rw[e]
 generalize decide (a.looks=b.looks)=x1 at*
 generalize decide (a.was=b.was)=x2 at*
 generalize decide (a.now=b.now)=x3 at*
 by_cases q:a.stamp=b.stamp
 ·refine Pm Tryz.func67 fun hfit=> ?_
  simp[Tryz.f67]
  have s_:=An @q (An @TxnR.enc.eq_1 (@FSR.enc.eq_1))
  try simp[s_]
  repeat' ((first|((first|refine Tp ?_|refine Tn ?_|refine T2 ?_ ?_)<;>intro h_ e_ n_)|refine Pg h1 ?_|refine Pg h2 ?_|refine Pg h3 ?_|rw[Ip]|rw[In]|rw[Fz]|rw[Gz]|fail)<;>first|simp[e_,n_,s_]|simp[s_]|skip)
 ·refine Pm Tryz.func67 fun hfit=> ?_
  simp[Tryz.f67]
  have s_:=An @q (An @TxnR.enc.eq_1 (@FSR.enc.eq_1))
  try simp[s_]
  repeat' ((first|((first|refine Tp ?_|refine Tn ?_|refine T2 ?_ ?_)<;>intro h_ e_ n_)|refine Pg h1 ?_|refine Pg h2 ?_|refine Pg h3 ?_|rw[Ip]|rw[In]|rw[Fz]|rw[Gz]|fail)<;>first|simp[e_,n_,s_]|simp[s_]|skip)
theorem Zis (a b:TxnR):Ze Tryz.prog 63 [.agg a.enc,.agg b.enc] (B (decide (a=b))):=by
 have h1:=ZpC a.looks b.looks
 have h2:=Zat a.was b.was
 have h3:=Zat a.now b.now
 have e:decide (a=b)=(decide (a.stamp=b.stamp)&&(decide (a.looks=b.looks)&&(decide (a.was=b.was)&&decide (a.now=b.now)))):=by
  rw[Bool.eq_iff_iff];simp only[Bool.and_eq_true,decide_eq_true_eq];exact txn_eq a b
 rw[e]
 generalize decide (a.looks=b.looks)=x1 at*
 generalize decide (a.was=b.was)=x2 at*
 generalize decide (a.now=b.now)=x3 at*
 by_cases q:a.stamp=b.stamp
 ·refine Pm Tryz.func63 fun hfit=> ?_
  simp[Tryz.f63]
  have s_:=An @q (An @TxnR.enc.eq_1 (@FSR.enc.eq_1))
  try simp[s_]
  repeat' ((first|((first|refine Tp ?_|refine Tn ?_|refine T2 ?_ ?_)<;>intro h_ e_ n_)|refine Pg h1 ?_|refine Pg h2 ?_|refine Pg h3 ?_|rw[Ip]|rw[In]|rw[Fz]|rw[Gz]|fail)<;>first|simp[e_,n_,s_]|simp[s_]|skip)
 ·refine Pm Tryz.func63 fun hfit=> ?_
  simp[Tryz.f63]
  have s_:=An @q (An @TxnR.enc.eq_1 (@FSR.enc.eq_1))
  try simp[s_]
  repeat' ((first|((first|refine Tp ?_|refine Tn ?_|refine T2 ?_ ?_)<;>intro h_ e_ n_)|refine Pg h1 ?_|refine Pg h2 ?_|refine Pg h3 ?_|rw[Ip]|rw[In]|rw[Fz]|rw[Gz]|fail)<;>first|simp[e_,n_,s_]|simp[s_]|skip)
theorem ZjF {x:Int} {l:List Int} (h:ZL (x::l)=true):(∀n∈x::l,0≤n)↔0≤x:=by
 constructor
 ·intro g;exact g x (by simp)
 ·intro g n hn
  rcases List.mem_cons.1 hn with rfl|hn
  ·exact g
  ·have:=(ZaM idI h).2 n hn
   have:x<n:=this
   omega
theorem Zvl (t:TxnR) (hl:t.looks.length≤2000000):Ze Tryz.prog 61 [.agg t.enc] (B (rightTx t)):=by
 have h1:=Zir t.looks [] hl (by simp)
 rw[List.append_nil] at h1
 have h2:=eqI_ok t.looks (numsS t.looks)
 have h3:=Zpp t.was
 have h4:=Zpp t.now
 unfold rightTx
 generalize rightF t.was=x1 at*
 generalize rightF t.now=x2 at*
 by_cases r:ZL t.looks=true
 case neg=>
  have e:¬t.looks=numsS t.looks:=fun e=>r (by rw[e];exact(Zai _).1)
  rw[decide_eq_false e] at h2
  rw[decide_eq_false fun h=>r h.1]
  by_cases q1:t.was.next≤t.now.next
  ·by_cases q2:1≤t.stamp
   ·refine Pm Tryz.func61 fun hfit=> ?_
    simp[Tryz.f61]
    have s_:=An @TxnR.enc.eq_1 (An @FSR.enc.eq_1 (An @q1 (@q2)))
    try simp[s_]
    repeat' ((first|((first|refine Tp ?_|refine Tn ?_|refine T2 ?_ ?_)<;>intro h_ e_ n_)|refine Sg h1 ?_|refine Pg h2 ?_|refine Pg h3 ?_|refine Pg h4 ?_|refine Dg 1 20 [] [] ?_|rw[Ip]|rw[In]|rw[Fz]|rw[Gz]|fail)<;>first|simp[e_,n_,s_]|simp[s_]|skip)
   ·refine Pm Tryz.func61 fun hfit=> ?_
    simp[Tryz.f61]
    have s_:=An @TxnR.enc.eq_1 (An @FSR.enc.eq_1 (An @q1 (@q2)))
    try simp[s_]
    repeat' ((first|((first|refine Tp ?_|refine Tn ?_|refine T2 ?_ ?_)<;>intro h_ e_ n_)|refine Sg h1 ?_|refine Pg h2 ?_|refine Pg h3 ?_|refine Pg h4 ?_|refine Dg 1 20 [] [] ?_|rw[Ip]|rw[In]|rw[Fz]|rw[Gz]|fail)<;>first|simp[e_,n_,s_]|simp[s_]|skip)
  ·refine Pm Tryz.func61 fun hfit=> ?_
   simp[Tryz.f61]
   have s_:=An @TxnR.enc.eq_1 (An @FSR.enc.eq_1 (@q1))
   try simp[s_]
   repeat' ((first|((first|refine Tp ?_|refine Tn ?_|refine T2 ?_ ?_)<;>intro h_ e_ n_)|refine Sg h1 ?_|refine Pg h2 ?_|refine Pg h3 ?_|refine Pg h4 ?_|refine Dg 1 20 [] [] ?_|rw[Ip]|rw[In]|rw[Fz]|rw[Gz]|fail)<;>first|simp[e_,n_,s_]|simp[s_]|skip)
 rw[Zjd r] at h1 h2
 rw[decide_eq_true rfl] at h2
 generalize hq:t.looks=L at*
 cases L with
 |nil=>
  rw[decide_eq_true ⟨r,by simp⟩]
  by_cases q1:t.was.next≤t.now.next
  ·by_cases q2:1≤t.stamp
   ·refine Pm Tryz.func61 fun hfit=> ?_
    simp[Tryz.f61]
    have s_:=An @hq (An @TxnR.enc.eq_1 (An @FSR.enc.eq_1 (An @q1 (@q2))))
    try simp[s_]
    repeat' ((first|((first|refine Tp ?_|refine Tn ?_|refine T2 ?_ ?_)<;>intro h_ e_ n_)|refine Sg h1 ?_|refine Pg h2 ?_|refine Pg h3 ?_|refine Pg h4 ?_|refine Dg 1 20 [] [] ?_|rw[Ip]|rw[In]|rw[Fz]|rw[Gz]|fail)<;>first|simp[e_,n_,s_]|simp[s_]|skip)
   ·refine Pm Tryz.func61 fun hfit=> ?_
    simp[Tryz.f61]
    have s_:=An @hq (An @TxnR.enc.eq_1 (An @FSR.enc.eq_1 (An @q1 (@q2))))
    try simp[s_]
    repeat' ((first|((first|refine Tp ?_|refine Tn ?_|refine T2 ?_ ?_)<;>intro h_ e_ n_)|refine Sg h1 ?_|refine Pg h2 ?_|refine Pg h3 ?_|refine Pg h4 ?_|refine Dg 1 20 [] [] ?_|rw[Ip]|rw[In]|rw[Fz]|rw[Gz]|fail)<;>first|simp[e_,n_,s_]|simp[s_]|skip)
  ·refine Pm Tryz.func61 fun hfit=> ?_
   simp[Tryz.f61]
   have s_:=An @hq (An @TxnR.enc.eq_1 (An @FSR.enc.eq_1 (@q1)))
   try simp[s_]
   repeat' ((first|((first|refine Tp ?_|refine Tn ?_|refine T2 ?_ ?_)<;>intro h_ e_ n_)|refine Sg h1 ?_|refine Pg h2 ?_|refine Pg h3 ?_|refine Pg h4 ?_|refine Dg 1 20 [] [] ?_|rw[Ip]|rw[In]|rw[Fz]|rw[Gz]|fail)<;>first|simp[e_,n_,s_]|simp[s_]|skip)
 |cons x L=>
  have hx:decide (ZL (x::L)=true∧∀n∈x::L,0≤n)=decide (0≤x):=by
   rw[decide_eq_decide];exact⟨fun h=>(ZjF r).1 h.2,fun h=>⟨r,(ZjF r).2 h⟩⟩
  rw[hx]
  clear hx
  by_cases q0:0≤x
  ·by_cases q1:t.was.next≤t.now.next
   ·by_cases q2:1≤t.stamp
    ·refine Pm Tryz.func61 fun hfit=> ?_
     simp[Tryz.f61]
     have s_:=An @hq (An @TxnR.enc.eq_1 (An @FSR.enc.eq_1 (An @q0 (An @q1 (@q2)))))
     try simp[s_]
     repeat' ((first|((first|refine Tp ?_|refine Tn ?_|refine T2 ?_ ?_)<;>intro h_ e_ n_)|refine Sg h1 ?_|refine Pg h2 ?_|refine Pg h3 ?_|refine Pg h4 ?_|refine Dg 1 20 [] [] ?_|rw[Ip]|rw[In]|rw[Fz]|rw[Gz]|fail)<;>first|simp[e_,n_,s_]|simp[s_]|skip)
    ·refine Pm Tryz.func61 fun hfit=> ?_
     simp[Tryz.f61]
     have s_:=An @hq (An @TxnR.enc.eq_1 (An @FSR.enc.eq_1 (An @q0 (An @q1 (@q2)))))
     try simp[s_]
     repeat' ((first|((first|refine Tp ?_|refine Tn ?_|refine T2 ?_ ?_)<;>intro h_ e_ n_)|refine Sg h1 ?_|refine Pg h2 ?_|refine Pg h3 ?_|refine Pg h4 ?_|refine Dg 1 20 [] [] ?_|rw[Ip]|rw[In]|rw[Fz]|rw[Gz]|fail)<;>first|simp[e_,n_,s_]|simp[s_]|skip)
   ·refine Pm Tryz.func61 fun hfit=> ?_
    simp[Tryz.f61]
    have s_:=An @hq (An @TxnR.enc.eq_1 (An @FSR.enc.eq_1 (An @q0 (@q1))))
    try simp[s_]
    repeat' ((first|((first|refine Tp ?_|refine Tn ?_|refine T2 ?_ ?_)<;>intro h_ e_ n_)|refine Sg h1 ?_|refine Pg h2 ?_|refine Pg h3 ?_|refine Pg h4 ?_|refine Dg 1 20 [] [] ?_|rw[Ip]|rw[In]|rw[Fz]|rw[Gz]|fail)<;>first|simp[e_,n_,s_]|simp[s_]|skip)
  ·by_cases q1:t.was.next≤t.now.next
   ·by_cases q2:1≤t.stamp
    ·refine Pm Tryz.func61 fun hfit=> ?_
     simp[Tryz.f61]
     have s_:=An @hq (An @TxnR.enc.eq_1 (An @FSR.enc.eq_1 (An @q0 (An @q1 (@q2)))))
     try simp[s_]
     repeat' ((first|((first|refine Tp ?_|refine Tn ?_|refine T2 ?_ ?_)<;>intro h_ e_ n_)|refine Sg h1 ?_|refine Pg h2 ?_|refine Pg h3 ?_|refine Pg h4 ?_|refine Dg 1 20 [] [] ?_|rw[Ip]|rw[In]|rw[Fz]|rw[Gz]|fail)<;>first|simp[e_,n_,s_]|simp[s_]|skip)
    ·refine Pm Tryz.func61 fun hfit=> ?_
     simp[Tryz.f61]
     have s_:=An @hq (An @TxnR.enc.eq_1 (An @FSR.enc.eq_1 (An @q0 (An @q1 (@q2)))))
     try simp[s_]
     repeat' ((first|((first|refine Tp ?_|refine Tn ?_|refine T2 ?_ ?_)<;>intro h_ e_ n_)|refine Sg h1 ?_|refine Pg h2 ?_|refine Pg h3 ?_|refine Pg h4 ?_|refine Dg 1 20 [] [] ?_|rw[Ip]|rw[In]|rw[Fz]|rw[Gz]|fail)<;>first|simp[e_,n_,s_]|simp[s_]|skip)
   ·refine Pm Tryz.func61 fun hfit=> ?_
    simp[Tryz.f61]
    have s_:=An @hq (An @TxnR.enc.eq_1 (An @FSR.enc.eq_1 (An @q0 (@q1))))
    try simp[s_]
    repeat' ((first|((first|refine Tp ?_|refine Tn ?_|refine T2 ?_ ?_)<;>intro h_ e_ n_)|refine Sg h1 ?_|refine Pg h2 ?_|refine Pg h3 ?_|refine Pg h4 ?_|refine Dg 1 20 [] [] ?_|rw[Ip]|rw[In]|rw[Fz]|rw[Gz]|fail)<;>first|simp[e_,n_,s_]|simp[s_]|skip)
theorem Zgi (t:TxnR):Ze Tryz.prog 58 [.agg t.enc] (B (rightTx t)):=by
 have h3:=ZeG t.was
 have h4:=ZeG t.now
 have hbad:¬(ZL t.looks=true∧∀n∈t.looks,0≤n)→rightTx t=false:=fun h=>by unfold rightTx;rw[decide_eq_false h];rfl
 have hgood:(ZL t.looks=true∧∀n∈t.looks,0≤n)→rightTx t=(rightF t.was&&(rightF t.now&&(decide (t.was.next≤t.now.next)&&decide (1≤t.stamp)))):=fun h=>by unfold rightTx;rw[decide_eq_true h];rfl
 generalize rightTx t=b at*
 generalize rightF t.was=x1 at*
 generalize rightF t.now=x2 at*
 obtain⟨L,hL⟩:∃L,t.looks=L:=⟨_,rfl⟩
 rw[hL] at hbad hgood
 refine Pm Tryz.func58 fun hfit=> ?_
 simp[TxnR.enc,hL,FSR.enc] at hfit
 have hl:=hfit.2.2
 have hm:=hl
 simp only[maxLen] at hm
 simp[Tryz.f58,TxnR.enc,FSR.enc,hL]
 refine AW.loopG (lit:=fun _=>false) (fun i:Nat=>⟨61,pat [(1,.ptr 0 0 0),(3,I i)],[.cells 0 [I t.stamp,encL NodeR.enc t.was.l,I t.was.next,encL NodeR.enc t.now.l,I t.now.next,enc1 I L]]⟩) (fun i=>L.length -i) (fun i=>i≤L.length∧∀(j:Nat) (h:j<L.length),j<i→0≤L[j]∧∀p,L[j -1]? =some p→0<j→p<L[j]) 0 ?_ ?_ ?_
 ·exact Wa
 ·exact⟨by simp,fun j h hj=>by omega⟩
 rintro i ⟨g1,g2⟩ A hA
 by_cases hi:i<L.length
 case neg=>
  have e:=hgood ⟨(Zy idI L).2 (Zip (f:=idI) fun j h=>by
    have:=(g2 (j+1) h (by omega)).2 L[j] (by simp) (by omega)
    simpa using this),fun n hn=>by
    obtain⟨j,hj,rfl⟩:=List.getElem_of_mem hn
    exact(g2 j hj (by omega)).1⟩
  clear hgood hbad g2
  subst e
  by_cases q1:t.was.next≤t.now.next
  ·by_cases q2:1≤t.stamp
   ·have s_:=An @hi (An @q1 (An @q2 (@FSR.enc.eq_1)))
    try simp[s_]
    repeat' ((first|((first|refine Tp ?_|refine Tn ?_|refine T2 ?_ ?_)<;>intro h_ e_ n_)|refine Pg h3 ?_|refine Pg h4 ?_|refine Dg 4 24 [] [] ?_|rw[Ip]|rw[In]|rw[Fz]|rw[Gz]|fail)<;>first|simp[e_,n_,s_]|simp[s_]|skip)
   ·have s_:=An @hi (An @q1 (An @q2 (@FSR.enc.eq_1)))
    try simp[s_]
    repeat' ((first|((first|refine Tp ?_|refine Tn ?_|refine T2 ?_ ?_)<;>intro h_ e_ n_)|refine Pg h3 ?_|refine Pg h4 ?_|refine Dg 4 24 [] [] ?_|rw[Ip]|rw[In]|rw[Fz]|rw[Gz]|fail)<;>first|simp[e_,n_,s_]|simp[s_]|skip)
  ·have s_:=An @hi (An @q1 (@FSR.enc.eq_1))
   try simp[s_]
   repeat' ((first|((first|refine Tp ?_|refine Tn ?_|refine T2 ?_ ?_)<;>intro h_ e_ n_)|refine Pg h3 ?_|refine Pg h4 ?_|refine Dg 4 24 [] [] ?_|rw[Ip]|rw[In]|rw[Fz]|rw[Gz]|fail)<;>first|simp[e_,n_,s_]|simp[s_]|skip)
 have hwi:=Zf hi hl
 have hbad':¬(0≤L[i]∧∀p,L[i -1]? =some p→0<i→p<L[i])→b=false:=fun hn=>hbad fun h=>hn ⟨h.2 _ (List.getElem_mem hi),fun p hp h0=>by
  obtain⟨h1,rfl⟩:=List.getElem?_eq_some_iff.1 hp
  exact ZaS idI h.1 (i -1) i h1 hi (by omega)⟩
 have hgo:(0≤L[i]∧∀p,L[i -1]? =some p→0<i→p<L[i])→∀(j:Nat) (h:j<L.length),j<i+1→0≤L[j]∧∀p,L[j -1]? =some p→0<j→p<L[j]:=fun hn j h hj=>by
  rcases Nat.lt_or_ge j i with g|g
  ·exact g2 j h g
  ·have:j=i:=by omega
   subst this;exact hn
 have hi1:i -1<L.length:=by omega
 have hp1:L[i -1]? =some L[i -1]:=List.getElem?_eq_getElem hi1
 have hwm:0<i→IntKind.i64.wrap ((i:Int) -1)=((i -1:Nat):Int):=fun hp=>by rw[Zj (by omega) (by omega)];omega
 clear g2 hbad hgood
 generalize hck:L[i -1]=p at*
 generalize hci:L[i]=v at*
 by_cases q2:v<0
 ·rw[hbad' fun h=>by have:=h.1;omega]
  have s_:=An @hi (An @hci (@q2))
  try simp[s_]
  repeat' ((first|((first|refine Tp ?_|refine Tn ?_|refine T2 ?_ ?_)<;>intro h_ e_ n_)|refine Dg 4 24 [] [] ?_|rw[Ip]|rw[In]|rw[Fz]|rw[Gz]|fail)<;>first|simp[e_,n_,s_]|simp[s_]|skip)
 by_cases q5:0<i
 ·have hwm:=hwm q5
  by_cases q6:v≤p
  ·rw[hbad' fun h=>by have:=h.2 p hp1 q5;omega]
   have s_:=An @hi (An @hci (An @hck (An @q2 (An @q5 (An @q6 (An @hwm (@hi1)))))))
   try simp[s_]
   repeat' ((first|((first|refine Tp ?_|refine Tn ?_|refine T2 ?_ ?_)<;>intro h_ e_ n_)|refine Dg 4 24 [] [] ?_|rw[Ip]|rw[In]|rw[Fz]|rw[Gz]|fail)<;>first|simp[e_,n_,s_]|simp[s_]|skip)
  ·have hgo:=hgo ⟨by omega,fun p' e h0=>by rw[hp1] at e;cases e;omega⟩
   have s_:=An @hi (An @hci (An @hck (An @q2 (An @q5 (An @q6 (An @hwm (An @hwi (@hi1))))))))
   try simp[s_]
   repeat' ((first|((first|refine Tp ?_|refine Tn ?_|refine T2 ?_ ?_)<;>intro h_ e_ n_)|(exact hA (i+1) _ Wa ⟨hi,hgo⟩ (by omega))|refine Dg 4 24 [] [] ?_|rw[Ip]|rw[In]|rw[Fz]|rw[Gz]|fail)<;>first|simp[e_,n_,s_]|simp[s_]|skip)
 ·have hgo:=hgo ⟨by omega,fun p' e h0=>by omega⟩
  have s_:=An @hi (An @hci (An @q2 (An @q5 (@hwi))))
  try simp[s_]
  repeat' ((first|((first|refine Tp ?_|refine Tn ?_|refine T2 ?_ ?_)<;>intro h_ e_ n_)|(exact hA (i+1) _ Wa ⟨hi,hgo⟩ (by omega))|refine Dg 4 24 [] [] ?_|rw[Ip]|rw[In]|rw[Fz]|rw[Gz]|fail)<;>first|simp[e_,n_,s_]|simp[s_]|skip)
theorem ZrY (f:FSR) (c:CallR):((looksS f c).filter fun n=>decide (1≤n)).foldl withI (if touchK c=true then[0] else[])=touchS f c:=by
 obtain⟨t1,t2⟩:=touch_spec f c
 have hs:ZL (if touchK c=true then[0] else[])=true:=by split<;>rfl
 obtain⟨h1,h2⟩:=Zeg ((looksS f c).filter fun n=>decide (1≤n)) _ hs
 refine ZaN idI h1 t1 fun n=> ?_
 rw[h2,t2,List.mem_filter]
 simp only[decide_eq_true_eq]
 cases touchK c<;>simp[or_comm]
theorem ZrZ {l:List Int} (h:ZL l=true) (k:List Int):k.foldl withI l=numsS (l++k):=by
 obtain⟨h1,h2⟩:=Zeg k l h
 obtain⟨h3,h4⟩:=Zai (l++k)
 exact ZaN idI h1 h3 fun n=>by rw[h2,h4,List.mem_append]
theorem Zmq (f:FSR) (c:CallR) (h:Zi f):Ze Tryz.prog 66 [encF f,encC c] (enc1 I (touchS f c)):=by
 have h1:=Zvc f c h
 have hlen:=ZhV f c
 rw[←ZrY f c]
 generalize looksS f c=L at*
 obtain⟨R,hR⟩:∃R,(L.filter fun n=>decide (1≤n)).foldl withI (if touchK c=true then[0] else[])=R:=⟨_,rfl⟩
 rw[hR]
 have hs:ZL (if touchK c=true then[0] else[])=true:=by split<;>rfl
 have hs2:(if touchK c=true then[0] else[]:List Int).length≤1:=by split<;>simp
 have hk:((c.kind≠6∧c.kind≠7∧c.kind≠8∧c.kind≠12∧c.kind≠15)∧touchK c=false)∨(c.kind=6∧touchK c=true)∨(c.kind=7∧touchK c=true)∨(c.kind=8∧touchK c=true)∨(c.kind=12∧touchK c=true)∨(c.kind=15∧touchK c=true):=by
  unfold touchK
  by_cases a:c.kind=6
  ·simp[a]
  by_cases b:c.kind=7
  ·simp[b]
  by_cases d:c.kind=8
  ·simp[d]
  by_cases e:c.kind=12
  ·simp[e]
  by_cases g:c.kind=15
  ·simp[g]
  simp[a,b,d,e,g]
 refine Pm Tryz.func66 fun hfit=> ?_
 simp[Tryz.f66]
 rcases hk with⟨⟨k1,k2,k3,k4,k5⟩,hK⟩|⟨k,hK⟩|⟨k,hK⟩|⟨k,hK⟩|⟨k,hK⟩|⟨k,hK⟩
 all_goals
  have s_:=An @hK (@CallR.enc.eq_1)
  try simp[s_]
  repeat' ((first|((first|refine Tp ?_|refine Tn ?_|refine T2 ?_ ?_)<;>intro h_ e_ n_)|refine Pg h1 ?_|rw[Ip]|rw[In]|rw[Fz]|rw[Gz]|fail)<;>first|simp[e_,n_,s_]|simp[s_]|skip)
  first|(have hKt:touchK c=true:=hK;refine AW.wkZ (WkZ.freeze [2] 6 (enc1 I [0]) (by simp;rw[ZcQ (by simp) (by simp)];simp)) ?_;simp)|(have hKf:touchK c=false:=hK;skip)
  refine AW.loopG (lit:=fun _=>false) (fun x:Nat×List Int×Bool=>⟨55,pat [(5,enc1 I L),(6,.sl x.2.2 x.2.1.length (x.2.1.map I)),(7,I x.1)],[.cells 0 f.enc,.cells 0 c.enc]⟩) (fun x=>L.length -x.1)
   (fun x=>x.1≤L.length∧x.2.1.length≤x.1+1∧ZL x.2.1=true∧((L.drop x.1).filter fun n=>decide (1≤n)).foldl withI x.2.1=R) (0,(if touchK c=true then[0] else[]),!touchK c) ?_ ?_ ?_
  ·exact Wk.cutAt _ rfl (by simp) (by simp[hK,CallR.enc]) (by simp) (by simp[hK,CallR.enc])
  ·exact⟨by simp,hs2,hs,by simpa using hR⟩
  rintro⟨i,acc,b⟩ ⟨g1,g2,g3,g4⟩ A hA
  simp only at g1 g2 g3 g4 hA
  by_cases hi:i<L.length
  case neg=>
   rw[List.drop_eq_nil_of_le (by omega),List.filter_nil,List.foldl_nil] at g4
   subst g4
   have s_:=hi
   try simp[s_]
   repeat' ((first|((first|refine Tp ?_|refine Tn ?_|refine T2 ?_ ?_)<;>intro h_ e_ n_)|rw[Ip]|rw[In]|rw[Fz]|rw[Gz]|fail)<;>first|simp[e_,n_,s_]|simp[s_]|skip)
  rw[List.drop_eq_getElem_cons hi,List.filter_cons] at g4
  have hwi:=Zf hi (by simp only[maxLen];omega)
  have hW:=Zdr acc L[i] g3 (by omega)
  have hWl:=Zbu acc L[i]
  have hWr:=(Zaq g3 L[i]).1
  by_cases q:1≤L[i]
  ·rw[if_pos (decide_eq_true q),List.foldl_cons] at g4
   have s_:=An @hi (An @hwi (@q))
   try simp[s_]
   repeat' ((first|((first|refine Tp ?_|refine Tn ?_|refine T2 ?_ ?_)<;>intro h_ e_ n_)|(exact hA (i+1,withI acc L[i],false) _ Wa ⟨hi,by simp only;omega,hWr,g4⟩ (by simp only;omega))|refine Sg hW ?_|rw[Ip]|rw[In]|rw[Fz]|rw[Gz]|fail)<;>first|simp[e_,n_,s_]|simp[s_]|skip)
  ·rw[if_neg (by simpa using q)] at g4
   have s_:=An @hi (An @hwi (@q))
   try simp[s_]
   repeat' ((first|((first|refine Tp ?_|refine Tn ?_|refine T2 ?_ ?_)<;>intro h_ e_ n_)|(exact hA (i+1,acc,b) _ Wa ⟨hi,by simp only;omega,g3,g4⟩ (by simp only;omega))|rw[Ip]|rw[In]|rw[Fz]|rw[Gz]|fail)<;>first|simp[e_,n_,s_]|simp[s_]|skip)
abbrev tTup (x:TxnR×ReplyR):AV:= .tup [.agg x.1.enc,encR x.2]
theorem Zdk (t:TxnR) (c:CallR) (h:Zi t.now) (T:ZF t.now) (hn:t.now.next<4611686018427387904) (hl:t.looks.length≤1000000) (hc:c.wf):Ze Tryz.prog 55 [.agg t.enc,encC c] (tTup (stepS t c)):=by
 have h1:=ZpJ t.now c h
 have hlen:(touchS t.now c).length≤7:=ZhY t.now c
 have h2:=Zir t.looks (touchS t.now c) (by omega) (by omega)
 have h3:=do_ok t.now c h hn hc (calm_of h T c)
 unfold stepS
 generalize doS t.now c=X at*
 generalize numsS (t.looks++touchS t.now c)=q at*
 generalize touchS t.now c=k at*
 refine Pm Tryz.func55 fun hfit=> ?_
 simp[Tryz.f55]
 have s_:=An @TxnR.enc.eq_1 (An @FSR.enc.eq_1 (@ReplyR.enc.eq_1))
 try simp[s_]
 repeat' ((first|((first|refine Tp ?_|refine Tn ?_|refine T2 ?_ ?_)<;>intro h_ e_ n_)|refine Dg 4 4 [2,3] [] ?_|refine Pg h1 ?_|refine Pg h2 ?_|refine Pg h3 ?_|refine Dg 1 8 [] [] ?_|rw[Ip]|rw[In]|rw[Fz]|rw[Gz]|fail)<;>first|simp[e_,n_,s_]|simp[s_]|skip)
theorem ZpK (t:TxnR) (c:CallR) (h:Zi t.now) (T:ZF t.now) (hn:t.now.next<4611686018427387904) (hr:ZL t.looks=true) (hl:t.looks.length≤900000) (hc:c.wf):Ze Tryz.prog 62 [.agg t.enc,encC c] (tTup (stepS t c)):=by
 have h1:=Zmq t.now c h
 have hlen:(touchS t.now c).length≤7:=ZhY t.now c
 have h3:=ZpA t.now c h T hn hc
 unfold stepS
 rw[←ZrZ hr]
 generalize doS t.now c=X at*
 generalize touchS t.now c=k at*
 obtain⟨R,hR⟩:∃R,k.foldl withI t.looks=R:=⟨_,rfl⟩
 rw[hR]
 have hb1:t.looks.length≤maxLen:=by simp only[maxLen];omega
 have hb2:t.looks.length*8≤140737488355328:=by omega
 have hb3:t.looks.length≤17592186044416:=by omega
 refine Pm Tryz.func62 fun hfit=> ?_
 simp[Tryz.f62]
 have s_:=An @TxnR.enc.eq_1 (An @FSR.enc.eq_1 (An @ReplyR.enc.eq_1 (An @hb1 (An @hb2 (@hb3)))))
 try simp[s_]
 repeat' ((first|((first|refine Tp ?_|refine Tn ?_|refine T2 ?_ ?_)<;>intro h_ e_ n_)|refine Pg h1 ?_|refine Pg h3 ?_|refine Dg 8 10 [] [] ?_|rw[Ip]|rw[In]|rw[Fz]|rw[Gz]|fail)<;>first|simp[e_,n_,s_]|simp[s_]|skip)
 refine AW.wkZ (WkZ.freeze [6] 9 (enc1 I t.looks) (by simp;rw[ZcQ (by simp) (by simp)])) ?_
 simp
 refine AW.loopG (lit:=fun _=>false) (fun x:Nat×List Int=>⟨46,pat [(2,.ptr 0 0 0),(4,.ptr 2 0 0),(5,.ptr 3 0 0),(6,enc1 I k),(7,.ptr 4 0 0),(8,.ptr 5 0 0),(9,enc1 I x.2),(10,I x.1)],[.cells 0 [I t.stamp,encL NodeR.enc t.was.l,I t.was.next,encL NodeR.enc t.now.l,I t.now.next,enc1 I t.looks],.cells 0 c.enc,.cells 0 [I 0,.sl true 0 [],I 0,.sl true 0 [],I 0,.sl true 0 []],.cells 0 [I 0,I 0,I 0,I 0,S .empty,.sl true 0 []],.cells 0 [encL NodeR.enc X.1.l,I X.1.next],.cells 0 [I X.2.e,I X.2.a,I X.2.b,I X.2.n,S X.2.text,enc1 S X.2.names]]⟩) (fun x=>k.length -x.1)
  (fun x=>x.1≤k.length∧x.2.length≤t.looks.length+x.1∧ZL x.2=true∧(k.drop x.1).foldl withI x.2=R) (0,t.looks) ?_ ?_ ?_
 ·exact Wc
 ·exact⟨by simp,by simp,hr,by simpa using hR⟩
 rintro⟨i,acc⟩ ⟨g1,g2,g3,g4⟩ A hA
 simp only at g1 g2 g3 g4 hA
 by_cases hi:i<k.length
 case neg=>
  rw[List.drop_eq_nil_of_le (by omega),List.foldl_nil] at g4
  subst g4
  have s_:=An @hi (An @TxnR.enc.eq_1 (An @FSR.enc.eq_1 (@ReplyR.enc.eq_1)))
  try simp[s_]
  repeat' ((first|((first|refine Tp ?_|refine Tn ?_|refine T2 ?_ ?_)<;>intro h_ e_ n_)|refine Dg 8 10 [2,3] [] ?_|rw[Ip]|rw[In]|rw[Fz]|rw[Gz]|fail)<;>first|simp[e_,n_,s_]|simp[s_]|skip)
 rw[List.drop_eq_getElem_cons hi,List.foldl_cons] at g4
 have hwi:=Zf hi (by simp only[maxLen];omega)
 have hW:=Zdr acc k[i] g3 (by omega)
 have hWl:=Zbu acc k[i]
 have hWr:=(Zaq g3 k[i]).1
 have s_:=An @hi (@hwi)
 try simp[s_]
 repeat' ((first|((first|refine Tp ?_|refine Tn ?_|refine T2 ?_ ?_)<;>intro h_ e_ n_)|(exact hA (i+1,withI acc k[i]) _ Wa ⟨hi,by simp only;omega,hWr,g4⟩ (by simp only;omega))|refine Pg hW ?_|refine Dg 8 10 [] [] ?_|rw[Ip]|rw[In]|rw[Fz]|rw[Gz]|fail)<;>first|simp[e_,n_,s_]|simp[s_]|skip)
theorem Zmr (s:StoreR) (st:Int):(sinceS s st).length≤s.l.length+1:=by
 unfold sinceS Zbc
 have:=List.length_filter_le (ZbQ st) s.l
 split<;>simp<;>omega
theorem Zms (s:StoreR) (t:TxnR) (hb:Zbd s):Ze Tryz.prog 53 [.agg s.enc,.agg t.enc] (B (clashS s t)):=by
 have h1:=Zvf s t.stamp hb
 have hlen:=Zmr s t.stamp
 have hl:=hb.l
 unfold clashS
 generalize sinceS s t.stamp=L at*
 obtain⟨b,hbb⟩:∃b,(L.any fun n=>decide (n∈t.looks))=b:=⟨_,rfl⟩
 rw[hbb]
 obtain⟨K,hK⟩:∃K,t.looks=K:=⟨_,rfl⟩
 rw[hK] at hbb
 refine Pm Tryz.func53 fun hfit=> ?_
 simp[TxnR.enc,FSR.enc,hK] at hfit
 have hk1:=hfit.2.2.2
 simp[Tryz.f53]
 try simp
 repeat' ((first|((first|refine Tp ?_|refine Tn ?_|refine T2 ?_ ?_)<;>intro h_ e_ n_)|refine Pg h1 ?_|refine Dg 8 10 [] [] ?_|rw[Ip]|rw[In]|rw[Fz]|rw[Gz]|fail)<;>first|simp[e_,n_]|simp|skip)
 refine AW.loopG (lit:=fun _=>false) (fun i:Nat=>⟨35,pat [(3,.ptr 1 0 0),(5,enc1 I L),(6,I i)],[.cells 0 s.enc,.cells 0 [I t.stamp,encL NodeR.enc t.was.l,I t.was.next,encL NodeR.enc t.now.l,I t.now.next,enc1 I K]]⟩) (fun i=>L.length -i) (fun i=>i≤L.length∧((L.drop i).any fun n=>decide (n∈K))=b) 0 ?_ ?_ ?_
 ·exact Wk.at _ rfl (by simp[TxnR.enc,FSR.enc,hK]) (by simp)
 ·exact⟨by simp,by simpa using hbb⟩
 rintro i ⟨g1,g2⟩ A hA
 by_cases hi:i<L.length
 case neg=>
  rw[List.drop_eq_nil_of_le (by omega),List.any_nil] at g2
  subst g2
  have s_:=hi
  try simp[s_]
  repeat' ((first|((first|refine Tp ?_|refine Tn ?_|refine T2 ?_ ?_)<;>intro h_ e_ n_)|refine Dg 8 10 [] [] ?_|rw[Ip]|rw[In]|rw[Fz]|rw[Gz]|fail)<;>first|simp[e_,n_,s_]|simp[s_]|skip)
 rw[List.drop_eq_getElem_cons hi,List.any_cons] at g2
 have hwi:=Zf hi (by simp only[maxLen];omega)
 generalize hci:L[i]=n at*
 have s_:=hi
 try simp[s_]
 repeat' ((first|((first|refine Tp ?_|refine Tn ?_|refine T2 ?_ ?_)<;>intro h_ e_ n_)|refine Dg 8 10 [] [] ?_|rw[Ip]|rw[In]|rw[Fz]|rw[Gz]|fail)<;>first|simp[e_,n_,s_]|simp[s_]|skip)
 refine AW.loopG (lit:=fun _=>false) (fun j:Nat=>⟨35,pat [(3,.ptr 1 0 0),(5,enc1 I L),(6,I i),(7,I j)],[.cells 0 s.enc,.cells 0 [I t.stamp,encL NodeR.enc t.was.l,I t.was.next,encL NodeR.enc t.now.l,I t.now.next,enc1 I K]]⟩) (fun j=>K.length -j) (fun j=>j≤K.length∧(decide (n∈K.drop j)||((L.drop (i+1)).any fun n=>decide (n∈K)))=b) 0 ?_ ?_ ?_
 ·exact Wa
 ·exact⟨by simp,by simpa using g2⟩
 rintro j ⟨k1,k2⟩ A' hA'
 by_cases hj:j<K.length
 case neg=>
  rw[List.drop_eq_nil_of_le (by omega)] at k2
  have k2:((L.drop (i+1)).any fun n=>decide (n∈K))=b:=by simpa using k2
  have s_:=An @hi (An @hj (An @hwi (An @TxnR.enc.eq_1 (An @FSR.enc.eq_1 (@hK)))))
  try simp[s_]
  repeat' ((first|((first|refine Tp ?_|refine Tn ?_|refine T2 ?_ ?_)<;>intro h_ e_ n_)|(exact hA (i+1) _ Wa ⟨hi,k2⟩ (by omega))|refine Dg 8 10 [] [] ?_|rw[Ip]|rw[In]|rw[Fz]|rw[Gz]|fail)<;>first|simp[e_,n_,s_]|simp[s_]|skip)
 have hwj:=Zf hj hk1
 rw[List.drop_eq_getElem_cons hj] at k2
 by_cases q:n=K[j]
 ·have e:b=true:=by rw[←k2,decide_eq_true (by rw[q];exact List.mem_cons_self),Bool.true_or]
  subst e
  have s_:=An @hi (An @hj (An @hci (An @q (An @TxnR.enc.eq_1 (An @FSR.enc.eq_1 (@hK))))))
  try simp[s_]
  repeat' ((first|((first|refine Tp ?_|refine Tn ?_|refine T2 ?_ ?_)<;>intro h_ e_ n_)|refine Dg 8 10 [] [] ?_|rw[Ip]|rw[In]|rw[Fz]|rw[Gz]|fail)<;>first|simp[e_,n_,s_]|simp[s_]|skip)
 ·have k2:(decide (n∈K.drop (j+1))||((L.drop (i+1)).any fun n=>decide (n∈K)))=b:=by
   rw[←k2];congr 1;rw[decide_eq_decide,List.mem_cons];simp[q]
  have s_:=An @hi (An @hj (An @hci (An @q (An @hwj (An @TxnR.enc.eq_1 (An @FSR.enc.eq_1 (@hK)))))))
  try simp[s_]
  repeat' ((first|((first|refine Tp ?_|refine Tn ?_|refine T2 ?_ ?_)<;>intro h_ e_ n_)|(exact hA' (j+1) _ Wa ⟨hj,k2⟩ (by omega))|refine Dg 8 10 [] [] ?_|rw[Ip]|rw[In]|rw[Fz]|rw[Gz]|fail)<;>first|simp[e_,n_,s_]|simp[s_]|skip)
noncomputable def ZgA (s:StoreR):Bool:=fewStore s&&(storeB s&&(decide (s.stamp<1152921504606846976)&&(Go.Cx.fewS (viewS s s.stamp)&&(rightF (viewS s s.stamp)&&decide ((viewS s s.stamp).next<1152921504606846976)))))
theorem ZcE (s:StoreR) (hb:Zbd s):Ze Tryz.prog 45 [.agg s.enc] (B (ZgA s)):=by
 have h1:=Zvi s hb
 have h2:=Ziq s
 have h3:=ZbZ s s.stamp hb
 have h4:=Zmf (viewS s s.stamp)
 have h5:=ZeG (viewS s s.stamp)
 unfold ZgA
 generalize viewS s s.stamp=f at*
 generalize fewStore s=b1 at*
 generalize storeB s=b2 at*
 generalize Go.Cx.fewS f=b3 at*
 generalize rightF f=b4 at*
 by_cases q1:s.stamp<1152921504606846976
 ·by_cases q2:f.next<1152921504606846976
  ·refine Pm Tryz.func45 fun hfit=> ?_
   simp[Tryz.f45]
   have s_:=An @q1 (An @q2 (An @StoreR.enc.eq_1 (@FSR.enc.eq_1)))
   try simp[s_]
   repeat' ((first|((first|refine Tp ?_|refine Tn ?_|refine T2 ?_ ?_)<;>intro h_ e_ n_)|refine Pg h1 ?_|refine Pg h2 ?_|refine Pg h3 ?_|refine Pg h4 ?_|refine Pg h5 ?_|rw[Ip]|rw[In]|rw[Fz]|rw[Gz]|fail)<;>first|simp[e_,n_,s_]|simp[s_]|skip)
  ·refine Pm Tryz.func45 fun hfit=> ?_
   simp[Tryz.f45]
   have s_:=An @q1 (An @q2 (An @StoreR.enc.eq_1 (@FSR.enc.eq_1)))
   try simp[s_]
   repeat' ((first|((first|refine Tp ?_|refine Tn ?_|refine T2 ?_ ?_)<;>intro h_ e_ n_)|refine Pg h1 ?_|refine Pg h2 ?_|refine Pg h3 ?_|refine Pg h4 ?_|refine Pg h5 ?_|rw[Ip]|rw[In]|rw[Fz]|rw[Gz]|fail)<;>first|simp[e_,n_,s_]|simp[s_]|skip)
 ·refine Pm Tryz.func45 fun hfit=> ?_
  simp[Tryz.f45]
  have s_:=An @q1 (An @StoreR.enc.eq_1 (@FSR.enc.eq_1))
  try simp[s_]
  repeat' ((first|((first|refine Tp ?_|refine Tn ?_|refine T2 ?_ ?_)<;>intro h_ e_ n_)|refine Pg h1 ?_|refine Pg h2 ?_|rw[Ip]|rw[In]|rw[Fz]|rw[Gz]|fail)<;>first|simp[e_,n_,s_]|simp[s_]|skip)
def Zmt (t:TxnR):Bool:=Go.Cx.fewS t.was&&(Go.Cx.fewS t.now&&(decide (t.looks.length≤300)&&(decide (t.now.next<1152921504606846976)&&rightTx t)))
theorem ZgP (t:TxnR):Ze Tryz.prog 46 [.agg t.enc] (B (Zmt t)):=by
 have h1:=Zmf t.was
 have h2:=Zmf t.now
 have h3:=Zgi t
 unfold Zmt
 generalize Go.Cx.fewS t.was=b1 at*
 generalize Go.Cx.fewS t.now=b2 at*
 generalize rightTx t=b3 at*
 by_cases q1:t.looks.length≤300
 ·by_cases q2:t.now.next<1152921504606846976
  ·refine Pm Tryz.func46 fun hfit=> ?_
   simp[Tryz.f46]
   have s_:=An @q1 (An @q2 (An @TxnR.enc.eq_1 (@FSR.enc.eq_1)))
   try simp[s_]
   repeat' ((first|((first|refine Tp ?_|refine Tn ?_|refine T2 ?_ ?_)<;>intro h_ e_ n_)|refine Pg h1 ?_|refine Pg h2 ?_|refine Pg h3 ?_|rw[Ip]|rw[In]|rw[Fz]|rw[Gz]|fail)<;>first|simp[e_,n_,s_]|simp[s_]|skip)
  ·refine Pm Tryz.func46 fun hfit=> ?_
   simp[Tryz.f46]
   have s_:=An @q1 (An @q2 (An @TxnR.enc.eq_1 (@FSR.enc.eq_1)))
   try simp[s_]
   repeat' ((first|((first|refine Tp ?_|refine Tn ?_|refine T2 ?_ ?_)<;>intro h_ e_ n_)|refine Pg h1 ?_|refine Pg h2 ?_|refine Pg h3 ?_|rw[Ip]|rw[In]|rw[Fz]|rw[Gz]|fail)<;>first|simp[e_,n_,s_]|simp[s_]|skip)
 ·refine Pm Tryz.func46 fun hfit=> ?_
  simp[Tryz.f46]
  have s_:=An @q1 (An @TxnR.enc.eq_1 (@FSR.enc.eq_1))
  try simp[s_]
  repeat' ((first|((first|refine Tp ?_|refine Tn ?_|refine T2 ?_ ?_)<;>intro h_ e_ n_)|refine Pg h1 ?_|refine Pg h2 ?_|refine Pg h3 ?_|rw[Ip]|rw[In]|rw[Fz]|rw[Gz]|fail)<;>first|simp[e_,n_,s_]|simp[s_]|skip)
abbrev cTup (x:StoreR×Int):AV:= .tup [.agg x.1.enc,I x.2]
theorem ZjG (s:StoreR) (t:TxnR) (hP:ZJ s) (hb:Zbv 100000 s) (hs:s.stamp<9223372036854775807) (T:TxnP t):Ze Tryz.prog 48 [.agg s.enc,.agg t.enc] (cTup (commitS s t)):=by
 have h1:=Zat t.was t.now
 have h2:=Zms s t (hb.b (by omega))
 have h3:=ZnM t.was t.now T.wrows T.nrows
 have hcl:=(Zan T.wrows T.nrows).1
 have h4:=ZnO s (changesS t.was t.now) t.now.next 100000 (hP.mid hb.l hb.vers) (by omega) hs (by have:=hP.stamp;omega) hP.some (by have:=hb.nexts;omega)
 unfold commitS
 by_cases q:t.was=t.now
 ·rw[decide_eq_true q] at h1
  rw[if_pos q]
  refine Pm Tryz.func48 fun hfit=> ?_
  simp[Tryz.f48]
  have s_:=An @TxnR.enc.eq_1 (An @FSR.enc.eq_1 (@StoreR.enc.eq_1))
  try simp[s_]
  repeat' ((first|((first|refine Tp ?_|refine Tn ?_|refine T2 ?_ ?_)<;>intro h_ e_ n_)|refine Pg h1 ?_|refine Dg 7 10 [] [] ?_|rw[Ip]|rw[In]|rw[Fz]|rw[Gz]|fail)<;>first|simp[e_,n_,s_]|simp[s_]|skip)
 rw[decide_eq_false q] at h1
 rw[if_neg q]
 cases hc:clashS s t with
 |true=>
  rw[hc] at h2
  rw[if_pos rfl]
  refine Pm Tryz.func48 fun hfit=> ?_
  simp[Tryz.f48]
  have s_:=An @TxnR.enc.eq_1 (An @FSR.enc.eq_1 (@StoreR.enc.eq_1))
  try simp[s_]
  repeat' ((first|((first|refine Tp ?_|refine Tn ?_|refine T2 ?_ ?_)<;>intro h_ e_ n_)|refine Pg h1 ?_|refine Pg h2 ?_|refine Dg 7 10 [] [] ?_|rw[Ip]|rw[In]|rw[Fz]|rw[Gz]|fail)<;>first|simp[e_,n_,s_]|simp[s_]|skip)
 |false=>
  rw[hc] at h2
  rw[if_neg (by simp)]
  generalize changesS t.was t.now=C at*
  generalize installS s C t.now.next=X at*
  refine Pm Tryz.func48 fun hfit=> ?_
  simp[Tryz.f48]
  have s_:=An @TxnR.enc.eq_1 (An @FSR.enc.eq_1 (@StoreR.enc.eq_1))
  try simp[s_]
  repeat' ((first|((first|refine Tp ?_|refine Tn ?_|refine T2 ?_ ?_)<;>intro h_ e_ n_)|refine Pg h1 ?_|refine Pg h2 ?_|refine Pg h3 ?_|refine Pg h4 ?_|refine Dg 7 10 [] [] ?_|rw[Ip]|rw[In]|rw[Fz]|rw[Gz]|fail)<;>first|simp[e_,n_,s_]|simp[s_]|skip)
theorem setT_enc (f k:TxnR):setMany f.enc 0 k.enc=k.enc:=rfl
@[simp] theorem setT0_enc (k:TxnR):setMany [I 0,.sl true 0 [],I 0,.sl true 0 [],I 0,.sl true 0 []] 0 k.enc=k.enc:=rfl
theorem setSt_enc (f k:StoreR):setMany f.enc 0 k.enc=k.enc:=rfl
theorem ZdU (t:TxnR) (l:List CallR) (T:TxnP t) (hn:t.now.next+l.length<4611686018427387904) (hk:t.looks.length≤10000) (hw:∀c∈l,c.wf) (hl:l.length≤10000):Ze Tryz.prog 59 [.agg t.enc,ZG l] (.tup [.agg (stepsS t l).1.enc,ZbB (stepsS t l).2]):=by
 refine Pm Tryz.func59 fun hfit=> ?_
 simp[Tryz.f59]
 refine AW.loopG (lit:=fun _=>false) (fun x:Nat×TxnR×List ReplyR=>⟨32,pat [(1,ZG l),(2,.ptr 0 0 0),(4,.ptr 1 0 0),(6,.own 2 x.2.2.length 0 x.2.2.length 6),(7,I x.1)],[.cells 0 x.2.1.enc,.cells 0 [I 0,.sl true 0 [],I 0,.sl true 0 [],I 0,.sl true 0 []],.cells x.2.2.length (x.2.2.flatMap ReplyR.enc)]⟩) (fun x=>l.length -x.1)
  (fun x=>x.1≤l.length∧x.2.2.length=x.1∧(TxnP x.2.1∧x.2.1.now.next≤t.now.next+x.1∧x.2.1.looks.length≤t.looks.length+7*x.1)∧(stepsS x.2.1 (l.drop x.1)).1=(stepsS t l).1∧x.2.2++(stepsS x.2.1 (l.drop x.1)).2=(stepsS t l).2) (0,t,[]) ?_ ?_ ?_
 ·exact Wk.trans (Wk.ownNil 6 6 (by simp)) Wa
 ·exact⟨by simp,rfl,⟨T,by simp,by simp⟩,by simp,by simp⟩
 rintro⟨i,g,acc⟩ ⟨g1,g2,⟨k1,k2,k3⟩,g4,g5⟩ A hA
 simp only at g1 g2 k1 k2 k3 g4 g5 hA
 by_cases hi:i<l.length
 case neg=>
  rw[List.drop_eq_nil_of_le (by omega)] at g4 g5
  simp only[stepsS,List.append_nil] at g4 g5
  rw[←g4,←g5]
  have s_:=hi
  try simp[s_]
  repeat' ((first|((first|refine Tp ?_|refine Tn ?_|refine T2 ?_ ?_)<;>intro h_ e_ n_)|rw[Ip]|rw[In]|rw[Fz]|rw[Gz]|fail)<;>first|simp[e_,n_,s_]|simp[s_]|skip)
 rw[List.drop_eq_getElem_cons hi] at g4 g5
 have hwi:=Zf hi (by simp only[maxLen];omega)
 obtain⟨K1,K2,K3⟩:=Zv [l[i]] k1
 simp only[stepsS,List.length_cons,List.length_nil] at K1 K2 K3
 have h1:=ZpK g l[i] k1.nrows k1.ntree (by omega) k1.rise (by omega) (hw _ (List.getElem_mem hi))
 simp only[stepsS] at g4 g5
 generalize stepS g l[i]=X at*
 have hal:(acc++[X.2]).length=acc.length+1:=by simp
 have hm:acc.length+1≤maxLen:=by simp only[maxLen];omega
 have s_:=An @hi (An @hwi (An @hm (@setT_enc)))
 try simp[s_]
 repeat' ((first|((first|refine Tp ?_|refine Tn ?_|refine T2 ?_ ?_)<;>intro h_ e_ n_)|(refine AW.room (AW.room (Dg 5 12 [3,4] [(9,.r 3),(10,.r 4)] ?_));simp[hi])|(exact hA (i+1,X.1,acc++[X.2]) _ (Wk.cutAt _ rfl (by simp) (by simp[setT_enc]) (by simp) (by simp)) ⟨hi,by simp only[hal];omega,⟨K1,by simp only;omega,by simp only;omega⟩,g4,by simpa using g5⟩ (by simp only;omega))|refine Pg h1 ?_|rw[Ip]|rw[In]|rw[Fz]|rw[Gz]|fail)<;>first|simp[e_,n_,s_]|simp[s_]|skip)
abbrev kTup (x:StoreR×List ReplyR):AV:= .tup [.agg x.1.enc,ZbB x.2]
theorem Zit {s:StoreR} (hP:ZJ s) (R:Zi (viewS s s.stamp)) (T:ZF (viewS s s.stamp)):TxnP (beginS s):=⟨R,T,R,T,Int.le_refl _,hP.stamp,rfl,by simp[beginS]⟩
theorem ZkA (s:StoreR) (l:List CallR) (hP:ZJ s) (hb:Zbv 100000 s) (hs:s.stamp<9223372036854775807) (R:Zi (viewS s s.stamp)) (T:ZF (viewS s s.stamp)) (hn:(viewS s s.stamp).next+l.length<4611686018427387904) (hw:∀c∈l,c.wf) (hl:l.length≤10000):Ze Tryz.prog 50 [.agg s.enc,ZG l] (kTup (runS s l)):=by
 have h1:=Zmp s (hb.b (by omega))
 have B:=Zit hP R T
 have h2:=ZdU (beginS s) l B hn (by simp[beginS]) hw hl
 obtain⟨S1,S2,S3⟩:=Zv l B
 have h3:=ZjG s (stepsS (beginS s) l).1 hP hb hs S1
 unfold runS
 generalize stepsS (beginS s) l=X at*
 generalize beginS s=b at*
 generalize commitS s X.1=Y at*
 refine Pm Tryz.func50 fun hfit=> ?_
 simp[Tryz.f50]
 have s_:=An @TxnR.enc.eq_1 (An @FSR.enc.eq_1 (@StoreR.enc.eq_1))
 try simp[s_]
 repeat' ((first|((first|refine Tp ?_|refine Tn ?_|refine T2 ?_ ?_)<;>intro h_ e_ n_)|refine Pg h1 ?_|refine Pg h2 ?_|refine Pg h3 ?_|rw[Ip]|rw[In]|rw[Fz]|rw[Gz]|fail)<;>first|simp[e_,n_,s_]|simp[s_]|skip)
theorem ZaV (s:StoreR) (t:TxnR) (hP:ZJ s) (hb:Zbv 100000 s) (hs:s.stamp<9223372036854775807) (T:TxnP t) (h2:Ze Tryz.prog 52 [.agg s.enc,.agg t.enc] (B (clashS s t))):Ze Tryz.prog 47 [.agg s.enc,.agg t.enc] (cTup (commitS s t)):=by
 have h1:=Zgh t
 have hw:=T.wrows.len
 have hnw:=T.nrows.len
 have h3:=ZrN t.was t.now (by omega) (by omega)
 have hcl:=(Zan T.wrows T.nrows).1
 have h4:=ZrU s (changesS t.was t.now) t.now.next 100000 (hP.mid hb.l hb.vers) (by omega) hs (by have:=hP.stamp;omega) hP.some (by have:=hb.nexts;omega)
 unfold commitS
 by_cases q:t.was=t.now
 ·rw[decide_eq_true q] at h1
  rw[if_pos q]
  refine Pm Tryz.func47 fun hfit=> ?_
  simp[Tryz.f47]
  have s_:=setSt_enc
  try simp[s_]
  repeat' ((first|((first|refine Tp ?_|refine Tn ?_|refine T2 ?_ ?_)<;>intro h_ e_ n_)|refine Pg h1 ?_|refine Dg 5 10 [] [] ?_|rw[Ip]|rw[In]|rw[Fz]|rw[Gz]|fail)<;>first|simp[e_,n_,s_]|simp[s_]|skip)
 rw[decide_eq_false q] at h1
 rw[if_neg q]
 cases hc:clashS s t with
 |true=>
  rw[hc] at h2
  rw[if_pos rfl]
  refine Pm Tryz.func47 fun hfit=> ?_
  simp[Tryz.f47]
  have s_:=setSt_enc
  try simp[s_]
  repeat' ((first|((first|refine Tp ?_|refine Tn ?_|refine T2 ?_ ?_)<;>intro h_ e_ n_)|refine Pg h1 ?_|refine Pg h2 ?_|refine Dg 5 10 [] [] ?_|rw[Ip]|rw[In]|rw[Fz]|rw[Gz]|fail)<;>first|simp[e_,n_,s_]|simp[s_]|skip)
 |false=>
  rw[hc] at h2
  rw[if_neg (by simp)]
  generalize changesS t.was t.now=C at*
  generalize installS s C t.now.next=X at*
  refine Pm Tryz.func47 fun hfit=> ?_
  simp[Tryz.f47]
  have s_:=An @TxnR.enc.eq_1 (An @FSR.enc.eq_1 (@StoreR.enc.eq_1))
  try simp[s_]
  repeat' ((first|((first|refine Tp ?_|refine Tn ?_|refine T2 ?_ ?_)<;>intro h_ e_ n_)|refine Pg h1 ?_|refine Pg h2 ?_|refine Pg h3 ?_|refine Pg h4 ?_|refine Dg 5 10 [] [] ?_|rw[Ip]|rw[In]|rw[Fz]|rw[Gz]|fail)<;>first|simp[e_,n_,s_]|simp[s_]|skip)
theorem run_ok (s:StoreR) (l:List CallR) (hP:ZJ s) (hb:Zbv 100000 s) (hs:s.stamp<9223372036854775807) (R:Zi (viewS s s.stamp)) (T:ZF (viewS s s.stamp)) (hn:(viewS s s.stamp).next+l.length<4611686018427387904) (hw:∀c∈l,c.wf) (hl:l.length≤10000)
  (h2:Ze Tryz.prog 52 [.agg s.enc,.agg (stepsS (beginS s) l).1.enc] (B (clashS s (stepsS (beginS s) l).1))):Ze Tryz.prog 49 [.agg s.enc,ZG l] (kTup (runS s l)):=by
 have hB:=ZcD s (by have:=hb.l;omega)
 have B:=Zit hP R T
 obtain⟨S1,S2,S3⟩:=Zv l B
 have hC:=ZaV s (stepsS (beginS s) l).1 hP hb hs S1 h2
 clear h2
 unfold runS
 generalize hb0:beginS s=t at*
 have hk:t.looks.length≤10000:=by rw[←hb0];simp[beginS]
 have hn:t.now.next+l.length<4611686018427387904:=by rw[←hb0];exact hn
 clear hb0 S1 S2 S3
 refine Pm Tryz.func49 fun hfit=> ?_
 simp[Tryz.f49]
 try simp
 repeat' ((first|((first|refine Tp ?_|refine Tn ?_|refine T2 ?_ ?_)<;>intro h_ e_ n_)|refine Pg hB ?_|rw[Ip]|rw[In]|rw[Fz]|rw[Gz]|fail)<;>first|simp[e_,n_]|simp|skip)
 refine AW.loopG (lit:=fun _=>false) (fun x:Nat×TxnR×List ReplyR=>⟨40,pat [(2,.ptr 0 0 0),(4,.ptr 1 0 0),(6,.ptr 2 0 0),(7,.own 3 x.2.2.length 0 x.2.2.length 6),(14,ZG l),(15,I l.length),(16,I x.1)],[.cells 0 s.enc,.cells 0 [.sl true 0 [],.sl true 0 [],I 0],.cells 0 x.2.1.enc,.cells x.2.2.length (x.2.2.flatMap ReplyR.enc)]⟩) (fun x=>l.length -x.1)
  (fun x=>x.1≤l.length∧x.2.2.length=x.1∧(TxnP x.2.1∧x.2.1.now.next≤t.now.next+x.1∧x.2.1.looks.length≤t.looks.length+7*x.1)∧(stepsS x.2.1 (l.drop x.1)).1=(stepsS t l).1∧x.2.2++(stepsS x.2.1 (l.drop x.1)).2=(stepsS t l).2) (0,t,[]) ?_ ?_ ?_
 ·exact Wk.trans (Wk.ownNil 7 6 (by simp)) Wa
 ·exact⟨by simp,rfl,⟨B,by simp,by simp⟩,by simp,by simp⟩
 rintro⟨i,g,acc⟩ ⟨g1,g2,⟨k1,k2,k3⟩,g4,g5⟩ A hA
 simp only at g1 g2 k1 k2 k3 g4 g5 hA
 by_cases hi:i<l.length
 case neg=>
  rw[List.drop_eq_nil_of_le (by omega)] at g4 g5
  simp only[stepsS,List.append_nil] at g4 g5
  rw[←g4] at hC⊢
  rw[←g5]
  generalize commitS s g=Y at*
  have s_:=An @hi (@setSt_enc)
  try simp[s_]
  repeat' ((first|((first|refine Tp ?_|refine Tn ?_|refine T2 ?_ ?_)<;>intro h_ e_ n_)|refine Pg hC ?_|rw[Ip]|rw[In]|rw[Fz]|rw[Gz]|fail)<;>first|simp[e_,n_,s_]|simp[s_]|skip)
 rw[List.drop_eq_getElem_cons hi] at g4 g5
 have hwi:=Zf hi (by simp only[maxLen];omega)
 obtain⟨K1,K2,K3⟩:=Zv [l[i]] k1
 simp only[stepsS,List.length_cons,List.length_nil] at K1 K2 K3
 have h1:=Zdk g l[i] k1.nrows k1.ntree (by omega) (by omega) (hw _ (List.getElem_mem hi))
 simp only[stepsS] at g4 g5
 generalize stepS g l[i]=X at*
 have hal:(acc++[X.2]).length=acc.length+1:=by simp
 have hm:acc.length+1≤maxLen:=by simp only[maxLen];omega
 have s_:=An @hi (An @hwi (@setT_enc))
 try simp[s_]
 repeat' ((first|((first|refine Tp ?_|refine Tn ?_|refine T2 ?_ ?_)<;>intro h_ e_ n_)|(refine AW.wkZ (WkZ.freeze [5] 10 (.fp X.1.enc) (by simp)) ?_;simp;refine Dg 7 6 [2] [(0,.t)] ?_;simp)|(exact hA (i+1,X.1,acc++[X.2]) _ (Wk.cutAt _ rfl (by simp) (by simp[setT_enc]) (by simp) (by simp)) ⟨hi,by simp only[hal];omega,⟨K1,by simp only;omega,by simp only;omega⟩,g4,by simpa using g5⟩ (by simp only;omega))|refine Pg h1 ?_|rw[Ip]|rw[In]|rw[Fz]|rw[Gz]|fail)<;>first|simp[e_,n_,s_]|simp[s_]|skip)
end Go.Proofs.YtdnfnddlciafmaaGreat
namespace Go.Proofs.YtdnfnddlciafmaaGreat
open Go.RowKit Go.Shelf
attribute [local go_sem] Oper.semAt_some
open Go.Cx in
theorem Zvm {s:StoreR} {t:TxnR} (hP:ZJ s) (hb:Zbd s) {n:Nat} {Z:Nat→Prop} {κ:Nat→Slot} {w W:World} {v0 v1:Value} (r:Rel Z κ [] w) (hr:Rs Z w κ [.agg s.enc] [.agg #[v0,v1,.int .i64 s.stamp]]) (hB:Below w.heap.size w W) (B5:Nat) (h5:w.heap.size≤B5) (h5':B5<W.heap.size):
  CallsIn Fence.wide n Tryz.prog 173 #[.agg #[v0,v1,.int .i64 s.stamp],.int .i64 t.stamp] W (fun e W'=>∃A cap,e= .returned (.slice A (sinceS s t.stamp).length cap)∧
   (∀(j:Nat) (hj:j<(sinceS s t.stamp).length),∃b off,A=some ⟨b,off,none⟩∧b≠B5∧W'.cell? ⟨b,off+j,none⟩=some (.int .i64 (sinceS s t.stamp)[j]))∧Below W.heap.size W W'):=by
 have hr2:Rs Z w κ [.agg s.enc,I t.stamp] [.agg #[v0,v1,.int .i64 s.stamp],.int .i64 t.stamp]:=by
  cases hr with
  |cons a b=>exact .cons a (.cons (.val rfl) .nil)
 refine((Zxl s t.stamp hP hb).raw r hr2 hB).mono ?_
 rintro e W' ⟨c,Z',κ',rfl,hc,hz,hb'⟩
 rcases nums_inv hc with⟨h0,A,cap,rfl⟩|⟨b,off,cap,rfl,hzb,hat⟩
 ·exact⟨A,cap,by rw[h0];rfl,fun j hj=>by rw[h0] at hj;simp at hj,hb'⟩
 ·refine⟨_,cap,rfl,fun j hj=>⟨b,off,rfl,fun e=> ?_,hat j hj⟩,hb'⟩
  subst e
  rcases hz b hzb with h|h
  ·have:=r.zlt b h;omega
  ·omega
open Go.Cx in
set_option maxRecDepth 100000 in
set_option maxHeartbeats 2000000 in
theorem Zmu {s:StoreR} {t:TxnR} (hP:ZJ s) (hb:Zbd s) (hl:(sinceS s t.stamp).length≤2000000) (n:Nat) (hn:1≤n) {Z:Nat→Prop} {κ:Nat→Slot} {w0 w:World} {v0 v1:Value} (r:Rel Z κ [] w0) (hr:Rs Z w0 κ [.agg s.enc] [.agg #[v0,v1,.int .i64 s.stamp]]) (hB:Below w0.heap.size w0 w)
  (Bs Bt B5:Nat) (hBs:Bs<w.heap.size) (hBt:Bt<w.heap.size) (h5:w0.heap.size≤B5) (h5':B5<w.heap.size)
  (hc0:w.cell? ⟨Bs,0,none⟩=some v0) (hc1:w.cell? ⟨Bs,1,none⟩=some v1) (hc2:w.cell? ⟨Bs,2,none⟩=some (.int .i64 s.stamp)) (hct:w.cell? ⟨Bt,0,none⟩=some (.int .i64 t.stamp)):
  SeqStopsK Fence.wide n Tryz.prog 172 #[.pointer (some ⟨Bs,0,none⟩),.pointer (some ⟨Bt,0,none⟩)] (fun x:Int=> #[Value.int .i64 x]) (Zeo B5) (fun ys=>ys=sinceS s t.stamp) (fun pre=>pre<+:sinceS s t.stamp) (sinceS s t.stamp).length w:=fun l J Jx W hW hJ _ hY h0=>by
 have hc0':=(hW.cell (p:=⟨Bs,0,none⟩) hBs).trans hc0
 have hc1':=(hW.cell (p:=⟨Bs,1,none⟩) hBs).trans hc1
 have hc2':=(hW.cell (p:=⟨Bs,2,none⟩) hBs).trans hc2
 have hct':=(hW.cell (p:=⟨Bt,0,none⟩) hBt).trans hct
 have hBW:Below w0.heap.size w0 W:=hB.trans (hW.mono hB.size)
 have hS:=Zvm (t:=t) hP hb (n:=n -1) r hr hBW B5 h5 (Nat.lt_of_lt_of_le h5' hW.size)
 generalize sinceS s t.stamp=L at*
 have hf:Fence.wide.fn 173:=trivial
 refine callsIn_of_wp Tryz.func172 rfl trivial ?_ rfl
 simp only[Tryz.ntmps172,List.size_toArray,List.length_cons,List.length_nil,Nat.reduceAdd,Nat.reduceSub,Array.replicate_succ,Array.replicate_zero,List.push_toArray,List.append_toArray,List.nil_append,List.cons_append]
 gi_wp2_with (gi_at_call 173;refine hS.mono ?_;rintro e W1 ⟨A,cap,rfl,hA,hb1⟩)
 have hJ1:J [] W1:=hJ [] W W1 none h0 ⟨hb1.os,hb1.tape,hb1.output,hb1.size,fun k hk _=>hb1.block k hk⟩ (fun r e=>by cases e)
 gi_loopw [11] (fun i wr=>∃k:Nat,k≤L.length∧i= .int .i64 k∧J (L.take k) wr∧Zeo B5 W1 wr) (fun i _=>L.length -(intOf i).toNat)
 case atStart=>exact⟨0,Nat.zero_le _,rfl,hJ1,Zeo.refl _ _⟩
 case round=>
  obtain⟨k,hk,rfl,hJs,hK⟩:=hrel
  by_cases hlt:k<L.length
  ·obtain⟨b,off,rfl,hbne,hcell⟩:=hA k hlt
   have hcx:=hK.cell hbne hcell
   obtain⟨fn,tmps,assign,body,hy,hR⟩:=hY _ L[k] _ hJs (by rw[List.length_take];omega)
   gi_wp2
   refine hR.mono ?_
   rintro e W3 (⟨rfl,hJ3,hk3⟩|⟨rfl,hJx3⟩)
   ·gi_wp2
    go_roundw
    case rel=>exact⟨k+1,by omega,by simp,by rw[List.take_succ_eq_append_getElem hlt];exact hJ3,hK.trans hk3⟩
    case measure=>simp[intOf];omega
   ·gi_wp2
    refine bodyPost_ret (results_none rfl _ _ _) rfl ?_
    exact⟨⟨_,rfl⟩,.inr ⟨_,by rw[←List.take_succ_eq_append_getElem hlt];exact List.take_prefix _ _,hJx3⟩⟩
  ·obtain rfl:k=L.length:=by omega
   gi_wp2
   go_end0
   exact⟨⟨_,rfl⟩,.inl ⟨_,rfl,by rwa[List.take_length] at hJs⟩⟩
set_option maxHeartbeats 1000000 in
theorem later_in (n:Nat) (v0 v1 v2 u0 u1 u2 u3 u4 u5:Value) (w:World):
  CallsIn Fence.wide n Tryz.prog 106 #[.agg #[v0,v1,v2],.agg #[u0,u1,u2,u3,u4,u5]] w fun e w'=>e= .returned (.func (.func 172) #[] #[.pointer (some ⟨w.heap.size,0,none⟩),.pointer (some ⟨w.heap.size+1,0,none⟩)])∧w'=(w.alloc (.cells #[v0,v1,v2] 75)).alloc (.cells #[u0,u1,u2,u3,u4,u5] 77):=by
 refine callsIn_of_wp Tryz.func106 rfl trivial ?_ rfl
 simp only[Tryz.ntmps106,List.size_toArray,List.length_cons,List.length_nil,Nat.reduceAdd,Nat.reduceSub,Array.replicate_succ,Array.replicate_zero,List.push_toArray,List.append_toArray,List.nil_append,List.cons_append]
 gi_wp2
 go_ret
 exact⟨rfl,rfl⟩
theorem ZbJ {β:Type} (k:Nat) (o:Obj) (ho:o.isCells=true):Own (fun(_:β) W=>W.heap[k]? =some o):=fun s X Y row h hg hrow=>by
 obtain⟨_,_,_,_,g5⟩:=hg
 show Y.heap[k]? =some o
 rw[g5 k (Array.getElem?_eq_some_iff.1 h).1 (fun e=>by
  obtain⟨o',ho',hc⟩:=hrow k e.symm
  rw[show X.heap[k]? =some o from h] at ho';cases ho';rw[ho] at hc;cases hc)]
 exact h
theorem Zmv {β:Type} (B:Nat) (p:β→Prop):OwnFrom B (fun(x:β) (_:World)=>p x):=fun _ _ _ _ h _ _=>h
theorem Zel {W:World} {k:Nat} {o:Obj} (h:W.heap[k]? =some o) (o':Obj):(W.alloc o').heap[k]? =some o:=by
 obtain⟨_,_,_,_,g5⟩:=World.grownBy_alloc W o' none
 rw[g5 k (Array.getElem?_eq_some_iff.1 h).1 (by simp)]
 exact h
theorem Zdd {W:World} {k i:Nat} {cs:Array Value} {t:TypeId} {fr:Nat×Nat} {v:Value} (h:W.heap[k]? =some (.cells cs t fr)) (hv:cs[i]? =some v):W.cell? ⟨k,i,none⟩=some v:=by
 simp[World.cell?,h,hv]
open Go.Cx in
theorem Zsa {t:TxnR} (hri:ZL t.looks=true) (hk:t.looks.length≤1000000) {n:Nat} {Z:Nat→Prop} {κ:Nat→Slot} {w W:World} {u5:Value} (x:Int) (r:Rel Z κ [] w) (ht:Rs Z w κ [enc1 I t.looks] [u5]) (hB:Below w.heap.size w W):
  CallsIn Fence.wide n Tryz.prog 107 #[u5,.int .i64 x] W (fun e W'=>∃i,e= .returned (.tuple #[.int .i64 i,.bool (decide (x∈t.looks))])∧Below W.heap.size W W'):=by
 obtain⟨i,hf⟩:=Zxt t.looks x hri hk
 have hr2:Rs Z w κ [enc1 I t.looks,I x] [u5,.int .i64 x]:=by
  cases ht with
  |cons a b=>exact .cons a (.cons (.val rfl) .nil)
 refine(hf.raw r hr2 hB).mono ?_
 rintro e W' ⟨c,Z',κ',rfl,hc,hz,hb'⟩
 cases hc with
 |tup h=>
  cases h with
  |cons a h=>
   cases h with
   |cons b h=>
    cases h
    cases a with
    |val _=>cases b with
     |val _=>exact⟨i,rfl,hb'⟩
open Go.Cx in
set_option maxRecDepth 100000 in
set_option maxHeartbeats 2000000 in
theorem Zxv {s:StoreR} {t:TxnR} (hP:ZJ s) (hb:Zbd s) (hl:(sinceS s t.stamp).length≤2000000) (hri:ZL t.looks=true) (hk:t.looks.length≤1000000) (n:Nat) (hn:3≤n) {Z:Nat→Prop} {κ:Nat→Slot} {w:World} {v0 v1 u1 u2 u3 u4 u5:Value} (r:Rel Z κ [] w)
  (hs:Rs Z w κ [.agg s.enc] [.agg #[v0,v1,.int .i64 s.stamp]]) (ht:Rs Z w κ [enc1 I t.looks] [u5]):
  CallsIn Fence.wide n Tryz.prog 52 #[.agg #[v0,v1,.int .i64 s.stamp],.agg #[.int .i64 t.stamp,u1,u2,u3,u4,u5]] w fun e W'=>e= .returned (.bool (clashS s t))∧Below w.heap.size w W':=by
 have h1:1≤n:=by omega
 have hf:Fence.wide.fn 106:=trivial
 have hf2:Fence.wide.fn 107:=trivial
 refine callsIn_of_wp_marks Tryz.func52 rfl trivial ?_ rfl
 simp only[Tryz.ntmps52,List.size_toArray,List.length_cons,List.length_nil,Nat.reduceAdd,Nat.reduceSub,Array.replicate_succ,Array.replicate_zero,List.push_toArray,List.append_toArray,List.nil_append,List.cons_append]
 gi_wp2
 refine wpIn_wide.2 (wp_scope_straight ((wpIn_wide (n:=n)).1 ?_))
 gi_wp2
 refine wpIn_label ?_
 gi_wp2_with (gi_at_call 106;refine(later_in (n -1) _ _ _ _ _ _ _ _ _ _).mono ?_;rintro e w' ⟨rfl,rfl⟩)
 have b0:Below w.heap.size w (((((w.alloc (.cells #[v0,v1,.int .i64 s.stamp] 75)).alloc (.cells #[.int .i64 t.stamp,u1,u2,u3,u4,u5] 77)).alloc (.cells #[.bool false] 4)).alloc (.cells #[v0,v1,.int .i64 s.stamp] 75)).alloc (.cells #[.int .i64 t.stamp,u1,u2,u3,u4,u5] 77)):=by
  refine(((((Below.refl _ w).alloc (Nat.le_refl _) _).alloc ?_ _).alloc ?_ _).alloc ?_ _).alloc ?_ _<;>simp<;>omega
 have c1:=World.alloc_heap_new (w.alloc (.cells #[v0,v1,.int .i64 s.stamp] 75)) (.cells #[.int .i64 t.stamp,u1,u2,u3,u4,u5] 77)
 have c2:=World.alloc_heap_new ((w.alloc (.cells #[v0,v1,.int .i64 s.stamp] 75)).alloc (.cells #[.int .i64 t.stamp,u1,u2,u3,u4,u5] 77)) (.cells #[.bool false] 4)
 have c3:=World.alloc_heap_new (((w.alloc (.cells #[v0,v1,.int .i64 s.stamp] 75)).alloc (.cells #[.int .i64 t.stamp,u1,u2,u3,u4,u5] 77)).alloc (.cells #[.bool false] 4)) (.cells #[v0,v1,.int .i64 s.stamp] 75)
 have c4:=World.alloc_heap_new ((((w.alloc (.cells #[v0,v1,.int .i64 s.stamp] 75)).alloc (.cells #[.int .i64 t.stamp,u1,u2,u3,u4,u5] 77)).alloc (.cells #[.bool false] 4)).alloc (.cells #[v0,v1,.int .i64 s.stamp] 75)) (.cells #[.int .i64 t.stamp,u1,u2,u3,u4,u5] 77)
 have c1:=Zel (Zel (Zel c1 (.cells #[.bool false] 4)) (.cells #[v0,v1,.int .i64 s.stamp] 75)) (.cells #[.int .i64 t.stamp,u1,u2,u3,u4,u5] 77)
 have c2:=Zel (Zel c2 (.cells #[v0,v1,.int .i64 s.stamp] 75)) (.cells #[.int .i64 t.stamp,u1,u2,u3,u4,u5] 77)
 have c3:=Zel c3 (.cells #[.int .i64 t.stamp,u1,u2,u3,u4,u5] 77)
 simp only[World.size_alloc] at c1 c2 c3 c4
 generalize hwr:(((((w.alloc (.cells #[v0,v1,.int .i64 s.stamp] 75)).alloc (.cells #[.int .i64 t.stamp,u1,u2,u3,u4,u5] 77)).alloc (.cells #[.bool false] 4)).alloc (.cells #[v0,v1,.int .i64 s.stamp] 75)).alloc (.cells #[.int .i64 t.stamp,u1,u2,u3,u4,u5] 77))=wr at*
 have z4:=(Array.getElem?_eq_some_iff.1 c4).1
 have hseq:=Zmu hP hb hl (n -1) (by omega) r hs b0 (w.heap.size+1+1+1) (w.heap.size+1+1+1+1) (w.heap.size+1+1) (by omega) z4 (by omega) (by omega) (Zdd c3 rfl) (Zdd c3 rfl) (Zdd c3 rfl) (Zdd c4 rfl)
 refine wpIn_rangeFunc_ownG rfl h1 (gf:=172) (lb:= #[.pointer (some ⟨w.heap.size+1+1+1,0,none⟩),.pointer (some ⟨w.heap.size+1+1+1+1,0,none⟩)]) rfl trivial (enters_of Tryz.func172 (by kernel_rfl) rfl)
  hseq (fun h k=>Zeo.trans h k) (fun W l o o' _ h hc _=>Zeo.put W l o o' h hc) (Below.refl _ _) (fun _=>rfl)
  (fun pre W=>(W.heap[w.heap.size+1+1]? =some (.cells #[.bool false] 4 (0,0))∧W.heap[w.heap.size+1]? =some (.cells #[.int .i64 t.stamp,u1,u2,u3,u4,u5] 77 (0,0)))∧Below w.heap.size w W∧(∀x∈pre,¬x∈t.looks))
  (fun c pre W=>(W.heap[w.heap.size+1+1]? =some (.cells #[.bool true] 4 (0,0))∧Below w.heap.size w W)∧c= .exit 0∧∃x∈pre,x∈t.looks)
  (OwnFrom.and (OwnFrom.and ((ZbJ _ _ rfl).from _) ((ZbJ _ _ rfl).from _)) (OwnFrom.and (ownFrom_below (Nat.le_refl _) (by omega)) (Zmv _ _)))
  (fun c=>OwnFrom.and (OwnFrom.and ((ZbJ _ _ rfl).from _) (ownFrom_below (Nat.le_refl _) (by omega))) (Zmv _ _))
  ⟨⟨c2,c1⟩,b0,by simp⟩
  (fun x=>{tmps:= #[.agg #[v0,v1,.int .i64 s.stamp],.agg #[.int .i64 t.stamp,u1,u2,u3,u4,u5],.pointer (some ⟨w.heap.size,0,none⟩),.pointer (some ⟨w.heap.size+1,0,none⟩),.bool false,.pointer (some ⟨w.heap.size+1+1,0,none⟩),.int .i64 x,.agg #[v0,v1,.int .i64 s.stamp],.agg #[.int .i64 t.stamp,u1,u2,u3,u4,u5],.func (.func 172) #[] #[.pointer (some ⟨w.heap.size+1+1+1,0,none⟩),.pointer (some ⟨w.heap.size+1+1+1+1,0,none⟩)],.int .i64 x,undef,undef,undef,undef,undef,undef,undef,undef,undef],defers:=[]}) ?assign ?body ?done ?stop
 case assign=>
  intro l x W K hK
  gi_wp2
  exact hK
 case body=>
  rintro l pre x W ⟨⟨hbx,htx⟩,hB,hno⟩ hlt
  have hcx:=Zdd (i:=5) htx rfl
  have hbxl:=(Array.getElem?_eq_some_iff.1 hbx).1
  have hn3:1≤n -1 -1:=by omega
  have hf3:(Fence.wide.inRound l).fn 107:=trivial
  gi_wp2
  refine(CallsIn.inRound l (Zsa hri hk x r ht hB)).mono ?_
  rintro e W1 ⟨i,rfl,hb1⟩
  have hbx1:Boxed W1 (w.heap.size+1+1) 4 (.bool false):=(hb1.block _ hbxl).trans hbx
  have hcb:=hbx1.cell
  have hfb:=hbx1.frozen
  obtain⟨g1,g2,g3,g4,g5⟩:=grownBy_setCell' W1 (w.heap.size+1+1) (.bool (decide (x∈t.looks)))
  have hkeep:∀(k:Nat),k<W.heap.size→k≠w.heap.size+1+1→(W1.setCell ⟨w.heap.size+1+1,0,none⟩ (.bool (decide (x∈t.looks)))).heap[k]? =W.heap[k]? :=fun k hk hne=>by
   rw[g5 k (Nat.lt_of_lt_of_le hk hb1.size) (fun e=>hne (by injection e)),hb1.block k hk]
  have hsz:W.heap.size≤(W1.setCell ⟨w.heap.size+1+1,0,none⟩ (.bool (decide (x∈t.looks)))).heap.size:=Nat.le_trans hb1.size g4
  have hkf:KeepsFrom wr.heap.size W (W1.setCell ⟨w.heap.size+1+1,0,none⟩ (.bool (decide (x∈t.looks)))):=⟨hsz,fun k o _ ho hc=>by
   rw[hkeep k (Array.getElem?_eq_some_iff.1 ho).1 (fun e=>by subst e;rw[hbx] at ho;cases ho;cases hc)];exact ho⟩
  have hkc:Zeo (w.heap.size+1+1) W (W1.setCell ⟨w.heap.size+1+1,0,none⟩ (.bool (decide (x∈t.looks)))):=⟨g1.trans hb1.os,g2.trans hb1.tape,g3.trans hb1.output,hsz,fun k o hne ho _=>by
   rw[hkeep k (Array.getElem?_eq_some_iff.1 ho).1 hne];exact ho⟩
  have hbel:Below w.heap.size w (W1.setCell ⟨w.heap.size+1+1,0,none⟩ (.bool (decide (x∈t.looks)))):=⟨hkc.os.trans hB.os,hkc.tape.trans hB.tape,hkc.output.trans hB.output,Nat.le_trans hB.size hsz,fun k hk=>by
   rw[hkeep k (Nat.lt_of_lt_of_le hk hB.size) (by omega),hB.block k hk]⟩
  have htx2:=(hkeep (w.heap.size+1) (Array.getElem?_eq_some_iff.1 htx).1 (by omega)).trans htx
  have hbt:Boxed _ _ _ _:=hbx1.set (.bool (decide (x∈t.looks)))
  have hct:=hbt.cell
  clear g1 g2 g3 g4 g5 hkeep hsz
  by_cases q:x∈t.looks
  ·rw[decide_eq_true q] at*
   gi_wp2
   exact⟨hkf,⟨hbt,hbel⟩,rfl,x,by simp,q⟩
  ·rw[decide_eq_false q] at*
   gi_wp2
   exact⟨hkf,hkc,⟨hbt,htx2⟩,hbel,fun y hy=>(List.mem_append.1 hy).elim (hno y) (fun h=>by rw[List.mem_singleton.1 h];exact q)⟩
 case done=>
  rintro D ys W hD rfl ⟨⟨hbx,htx⟩,hB,hno⟩ hK
  have hcb:=(show Boxed W _ _ _ from hbx).cell
  have e:clashS s t=false:=by
   unfold clashS
   rw[List.any_eq_false]
   intro x hx;simpa using hno x hx
  gi_wp2
  refine⟨by simp,.inl ⟨_,_,rfl,run_takeDeferred hK,?_⟩⟩
  rw[e]
  exact⟨_,results_tmp rfl _ _ _,rfl,hB.trans (belowK_b (w:=w) (Nat.le_refl _) W D _ _ (by omega) hK rfl rfl)⟩
 case stop=>
  rintro D c pre W hD hpre ⟨⟨hbx,hB⟩,rfl,hx⟩ hK
  have hcb:=(show Boxed W _ _ _ from hbx).cell
  have e:clashS s t=true:=by
   unfold clashS
   rw[List.any_eq_true]
   obtain⟨x,hx,hx2⟩:=hx
   exact⟨x,hpre.subset hx,by simpa using hx2⟩
  gi_wp2
  refine⟨by simp,.inl ⟨_,_,rfl,run_takeDeferred hK,?_⟩⟩
  rw[e]
  exact⟨_,results_tmp rfl _ _ _,rfl,hB.trans (belowK_b (w:=w) (Nat.le_refl _) W D _ _ (by omega) hK rfl rfl)⟩
open Go.Cx in
theorem Zbx (s:StoreR) (t:TxnR) (hP:ZJ s) (hb:Zbd s) (hri:ZL t.looks=true) (hk:t.looks.length≤1000000):Ze Tryz.prog 52 [.agg s.enc,.agg t.enc] (B (clashS s t)):=by
 refine⟨by simp,by simp,Ent.mk Tryz.func52 (by kernel_rfl) rfl,fun Z κ w cargs r hr=> ?_⟩
 have hl:(sinceS s t.stamp).length≤2000000:=by have:=Zmr s t.stamp;have:=hb.l;omega
 cases hr with
 |cons h1 h2=>
 cases h2 with
 |cons h2 h3=>
 cases h3
 cases h1 with
 |agg h1=>
 cases h2 with
 |agg h2=>
 have h1':=h1
 have h2':=h2
 simp only[StoreR.enc] at h1'
 simp only[TxnR.enc,FSR.enc,List.cons_append,List.nil_append] at h2'
 cases h1' with
 |cons a0 h1'=>
 cases h1' with
 |cons a1 h1'=>
 cases h1' with
 |cons a2 h1'=>
 cases h1'
 cases a2 with
 |val _=>
 cases h2' with
 |cons c0 h2'=>
 cases c0 with
 |val _=>
 cases h2' with
 |cons c1 h2'=>
 cases h2' with
 |cons c2 h2'=>
 cases h2' with
 |cons c3 h2'=>
 cases h2' with
 |cons c4 h2'=>
 cases h2' with
 |cons c5 h2'=>
 cases h2'
 refine(callsIn_wide.1 (Zxv hP hb hl hri hk 3 (by omega) r (.cons (.agg h1) .nil) (.cons c5 .nil))).mono ?_
 rintro e W' ⟨rfl,hB⟩
 exact⟨_,_,Z,κ,_,⟨rfl,rfl⟩,rfl,r.later hB,.val rfl,Ext.of_below hB,.refl _ _⟩
end Go.Proofs.YtdnfnddlciafmaaGreat
