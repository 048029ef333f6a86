import Derived.Test.YtgpkaoombhobmaaGreatJW3
import Derived.Test.YtgpkaoombhobmaaGreatRows
import Derived.JoinedCond
import Derived.Test.YtgpkaoombhobmaaGreatJP2
import Derived.Test.YtgpkaoombhobmaaGreatJP1
set_option linter.unusedVariables false
set_option linter.unusedSimpArgs false
namespace Go.Proofs.YtgpkaoombhobmaaGreat
open Go.Cx Tab
set_option maxHeartbeats 4000000
set_option maxRecDepth 40000
theorem ZnP (h:HostR) (hl:h.opens.length<=100000) (hs:Zb Tryz.prog 66 [.agg h.s.enc,enc1 I ((staysS h).map λo=>o.t.stamp)] (.agg (sweepS h.s ((staysS h).map λo=>o.t.stamp)).enc)):Zb Tryz.prog 32 [.agg h.enc] (.agg (sweepH h).enc):=by
 have hS:sweepH h={h with opens:=staysS h,s:=sweepS h.s ((staysS h).map λo=>o.t.stamp)}:=rfl
 rw[hS]
 have hK:staysS h=h.opens.filter λo=> !decide (o.until_<h.now):=rfl
 generalize staysS h=K at*
 generalize hQ:K.map (λo=>o.t.stamp)=Q at*
 generalize sweepS h.s Q=S' at*
 refine Pm Tryz.func32 λhfit=> ?_
 have d1_:=D0 6 9 [] []
 simp[Tryz.f32]
 try simp
 repeat' ((first|((first|refine Tp ?_|refine Tn ?_|refine T2 ?_ ?_)<;>intro h_ e_ n_)|refine Dg 6 9 [] [] ?_|rw[Ip]|rw[In]|rw[Fz]|rw[Gz]|fail)<;>first|simp[e_,n_]|simp|skip)
 refine AW.loopG (lit:=λ_=>false) (λx:Nat×List OpenR=>⟨48,pat [(1,.ptr 0 0 0),(2,.ptr 1 0 0),(3,.own 2 x.2.length 0 x.2.length 17),(4,.own 3 x.2.length 0 x.2.length 1),(5,I x.1)],[.cells 0 h.enc,.cells 0 [.sl true 0 [],.sl true 0 [],I 0,.sl true 0 [],.sl true 0 [],I 0,I 0],.cells x.2.length (x.2.flatMap OpenR.enc),.cells x.2.length (x.2.map λo=>I o.t.stamp)]⟩) (λx=>h.opens.length -x.1) (λx=>x.1<=h.opens.length/\x.2.length<=x.1/\x.2++((h.opens.drop x.1).filter λo=> !decide (o.until_<h.now))=K) (0,[]) ?_ ?_ ?_
 ·exact Wk.trans (Wk.ownNil 3 17 (by simp)) (Wk.trans (Wk.ownNil 4 1 (by simp)) Wa)
 ·exact⟨Nat.zero_le _,by simp,by simp[hK]⟩
 rintro⟨i,acc⟩ ⟨g1,g2,g3⟩ A hA
 simp only at g1 g2 g3 hA
 by_cases hi:i<h.opens.length
 case neg=>
  rw[List.drop_eq_nil_of_le (by omega)] at g3
  simp only[List.filter_nil,List.append_nil] at g3
  subst g3
  subst hQ
  have s_:=An @hi (An @encH7 (@StoreR.enc.eq_1))
  try simp[s_]
  repeat' ((first|((first|refine Tp ?_|refine Tn ?_|refine T2 ?_ ?_)<;>intro h_ e_ n_)|refine Gg [3] hs ?_|refine Dg 6 9 [] [] ?_|rw[Ip]|rw[In]|rw[Fz]|rw[Gz]|fail)<;>first|simp[e_,n_,s_]|simp[s_]|skip)
 have hwi:=Zg hi (by simp only[maxLen];omega)
 have hm:acc.length+1<=maxLen:=by simp only[maxLen];omega
 have hal:(acc++[h.opens[i]]).length=acc.length+1:=by simp
 rw[List.drop_eq_getElem_cons hi,List.filter_cons] at g3
 by_cases q:h.opens[i].until_<h.now
 ·have q':¬h.now<=h.opens[i].until_:=by omega
  simp[q] at g3
  have s_:=An @hi (An @hwi (An @hm (@q')))
  have q1_:=λs w=>hA (i+1,acc) s w ⟨hi,by simp only;omega,by simpa using g3⟩ (by simp only;omega)
  exact WW
 ·have q':h.now<=h.opens[i].until_:=by omega
  simp[q] at g3
  have s_:=An @hi (An @hwi (An @hm (@q')))
  try simp[s_]
  repeat' ((first|((first|refine Tp ?_|refine Tn ?_|refine T2 ?_ ?_)<;>intro h_ e_ n_)|(exact hA (i+1,acc++[h.opens[i]]) _ Wc ⟨hi,by simp only[hal];omega,by simpa using g3⟩ (by simp only;omega))|refine Dg 6 9 [] [] ?_|rw[Ip]|rw[In]|rw[Fz]|rw[Gz]|fail)<;>first|simp[e_,n_,s_]|simp[s_]|skip)
theorem Zjz (v:VerR):∀l:List VerR,ZdG (l++[v])=if ZdG l=[] then(if v.gone=true then[] else[v]) else ZdG l++[v]
 |[]=>by simp[ZdG,List.dropWhile_cons]
 |a::l=>by
  have ih:=Zjz v l
  unfold ZdG at*
  by_cases h:a.gone=true
  ·rw[List.cons_append,List.dropWhile_cons_of_pos (by simpa using h),List.dropWhile_cons_of_pos (by simpa using h)];exact ih
  ·rw[List.cons_append,List.dropWhile_cons_of_neg (by simpa using h),List.dropWhile_cons_of_neg (by simpa using h)];simp
theorem ZpE {p:Int->Bool} {l:List Int} {k:Nat} (hk:k<l.length):(l.take (k+1)).any p=((l.take k).any p||p l[k]):=by rw[List.take_succ_eq_append_getElem hk,List.any_append];simp
theorem ZnQ (s:StoreR) (pins:List Int) (hp:pins.length<=100000) (hP:ZD s) (hb:ZbM s):Zb Tryz.prog 66 [.agg s.enc,enc1 I pins] (.agg (sweepS s pins).enc):=by
 have hrs:∀(c:ChainR) (st:Int),c∈s.l->Zb Tryz.prog 51 [.agg c.enc,I st] (I (atS VerR.stamp c.l st)):=λc st hc=>ZpM c st (by have:=hb.vers c hc;omega)
 have hrn:∀st:Int,Zb Tryz.prog 52 [.agg s.enc,I st] (I (atS CountR.stamp s.nexts st)):=λst=>ZpN s st (by have:=hb.nexts;omega)
 obtain⟨SX,hSX⟩:∃SX,sweepS s pins=SX:=⟨_,rfl⟩
 rw[hSX]
 obtain⟨sts,hsts⟩:∃sts,pins++[s.stamp]=sts:=⟨_,rfl⟩
 have hS:SX=⟨(s.l.map (Zgv sts)).filter λc=> !decide (c.l=[]),keptS CountR.stamp sts s.nexts,s.stamp⟩:=by rw[<-hSX,<-hsts];rfl
 have hsl:sts.length=pins.length+1:=by rw[<-hsts];simp
 have hL:=hb.l
 have hnl:=hb.nexts
 refine Zb.mkW Tryz.func66 rfl rfl rfl (Ent.mk Tryz.func66 (by kernel_rfl) rfl) (by simp) (by simp) λhfit=> ?_
 have d1_:=D0 15 15 [] []
 have d2_:=D0 28 11 [] []
 have d3_:=D0 30 10 [] []
 refine AW.splitA' (lit:=λ_=>false) 3 _ ?_
 simp only[ZlG]
 try simp
 repeat' ((first|((first|refine Tp ?_|refine Tn ?_|refine T2 ?_ ?_)<;>intro h_ e_ n_)|refine Dg 15 15 [] [] ?_|refine Dg 28 11 [] [] ?_|refine Dg 30 10 [] [] ?_|rw[Ip]|rw[In]|rw[Fz]|rw[Gz]|fail)<;>first|simp[e_,n_]|simp|skip)
 refine AW.wkZ (WkZ.freeze [2] 5 (enc1 I (pins++[s.stamp])) (by simp;rw[ZcG (by simp) (by simp)];simp)) ?_
 rw[hsts]
 refine AW.seqA (lit:=λ_=>false) ?_
 simp
 refine AW.loopGW (λx:Nat×List ChainR=>⟨146,pat [(2,.ptr 0 0 0),(4,.ptr 1 0 0),(5,enc1 I sts),(6,.ptr 3 0 0),(7,I x.1)],[.cells 0 s.enc,.cells 0 [.sl true 0 [],.sl true 0 [],I 0],.dead,.cells 0 [.own 4 x.2.length 0 x.2.length 2,.sl true 0 [],I s.stamp],.cells x.2.length (x.2.flatMap ChainR.enc)]⟩) (λx=>s.l.length -x.1) (λx=>x.1<=s.l.length/\x.2.length<=x.1/\x.2++(((s.l.drop x.1).map (Zgv sts)).filter λc=> !decide (c.l=[]))=SX.l) (0,[]) ?_ ?_ ?_
 ·exact Wk.trans (Wk.ownNilCell 3 0 0 2 rfl rfl) Wa
 ·exact⟨Nat.zero_le _,by simp,by simp[hS]⟩
 rintro⟨i,acc⟩ ⟨g1,g2,g3⟩ A hA
 simp only at g1 g2 g3 hA
 by_cases hi:i<s.l.length
 case neg=>
  rw[List.drop_eq_nil_of_le (by omega)] at g3
  simp only[List.map_nil,List.filter_nil,List.append_nil] at g3
  have hal:SX.l.length<=1048576:=by rw[<-g3];omega
  rw[hS] at g3
  simp only at g3
  refine Zck (lit:=λ_=>false) _ _ _ ?_
  have s_:=hi
  try simp[s_]
  repeat' ((first|((first|refine Tp ?_|refine Tn ?_|refine T2 ?_ ?_)<;>intro h_ e_ n_)|refine Dg 15 15 [] [] ?_|refine Dg 28 11 [] [] ?_|refine Dg 30 10 [] [] ?_|rw[Ip]|rw[In]|rw[Fz]|rw[Gz]|fail)<;>first|simp[e_,n_,s_]|simp[s_]|skip)
  refine Zck (lit:=λ_=>false) _ _ _ ?_
  try simp
  repeat' ((first|((first|refine Tp ?_|refine Tn ?_|refine T2 ?_ ?_)<;>intro h_ e_ n_)|refine Dg 15 15 [] [] ?_|refine Dg 28 11 [] [] ?_|refine Dg 30 10 [] [] ?_|rw[Ip]|rw[In]|rw[Fz]|rw[Gz]|fail)<;>first|simp[e_,n_]|simp|skip)
  refine AW.loopG (lit:=λ_=>false) (λx:Nat×List CountR=>⟨146,pat [(2,.ptr 0 0 0),(4,.ptr 1 0 0),(5,enc1 I sts),(6,.ptr 3 0 0),(13,I x.1)],[.cells 0 s.enc,.cells 0 [.sl true 0 [],.sl true 0 [],I 0],.dead,.cells 0 [.own 4 acc.length 0 acc.length 2,.own 5 x.2.length 0 x.2.length 2,I s.stamp],.cells acc.length (acc.flatMap ChainR.enc),.cells x.2.length (x.2.flatMap CountR.enc)]⟩) (λx=>s.nexts.length -x.1) (λx=>x.1<=s.nexts.length/\x.2=(s.nexts.take x.1).filter λc=>sts.any λst=>decide (Zbc CountR.stamp s.nexts st=some c)) (0,[]) ?_ ?_ ?_
  ·exact Wk.trans (Wk.ownNilCell 3 0 1 2 rfl rfl) Wc
  ·exact⟨Nat.zero_le _,by simp⟩
  rintro⟨j,ks⟩ ⟨k1,k2⟩ A2 hA2
  simp only at k1 k2 hA2
  by_cases hj:j<s.nexts.length
  case neg=>
   rw[List.take_of_length_le (by omega)] at k2
   have e:SX=⟨acc,ks,s.stamp⟩:=by rw[hS,g3,k2];rfl
   rw[e]
   have s_:=An @hj (@StoreR.enc.eq_1)
   exact WW
  have hwj:=Zg hj (by simp only[maxLen];omega)
  have hkl:ks.length<=j:=by have:=List.length_filter_le (λc=>sts.any λst=>decide (Zbc CountR.stamp s.nexts st=some c)) (s.nexts.take j);rw[<-k2,List.length_take] at this;omega
  have hm:ks.length+1<=maxLen:=by simp only[maxLen];omega
  have hal2:(ks++[s.nexts[j]]).length=ks.length+1:=by simp
  have hst:((s.nexts.take (j+1)).filter λc=>sts.any λst=>decide (Zbc CountR.stamp s.nexts st=some c))=ks++if(sts.any λst=>decide (atS CountR.stamp s.nexts st=(j:Int)))=true then[s.nexts[j]] else[]:=by
   rw[List.take_succ_eq_append_getElem hj,List.filter_append,<-k2,List.filter_cons,List.filter_nil]
   have:(sts.any λst=>decide (Zbc CountR.stamp s.nexts st=some s.nexts[j]))=sts.any λst=>decide (atS CountR.stamp s.nexts st=(j:Int)):=by congr 1;funext st;exact(decide_eq_decide.2 (ZmE hP.nrise hj st)).symm
   rw[this]
  clear k2
  have s_:=hj
  try simp[s_]
  repeat' ((first|((first|refine Tp ?_|refine Tn ?_|refine T2 ?_ ?_)<;>intro h_ e_ n_)|refine Dg 15 15 [] [] ?_|refine Dg 28 11 [] [] ?_|refine Dg 30 10 [] [] ?_|rw[Ip]|rw[In]|rw[Fz]|rw[Gz]|fail)<;>first|simp[e_,n_,s_]|simp[s_]|skip)
  refine AW.loopG (lit:=λ_=>false) (λz:Nat×Bool=>⟨146,pat [(2,.ptr 0 0 0),(4,.ptr 1 0 0),(5,enc1 I sts),(6,.ptr 3 0 0),(13,I j),(14,B z.2),(15,I z.1)],[.cells 0 s.enc,.cells 0 [.sl true 0 [],.sl true 0 [],I 0],.dead,.cells 0 [.own 4 acc.length 0 acc.length 2,.own 5 ks.length 0 ks.length 2,I s.stamp],.cells acc.length (acc.flatMap ChainR.enc),.cells ks.length (ks.flatMap CountR.enc)]⟩) (λz=>sts.length -z.1) (λz=>z.1<=sts.length/\z.2=(sts.take z.1).any λst=>decide (atS CountR.stamp s.nexts st=(j:Int))) (0,false) ?_ ?_ ?_
  ·exact Wa
  ·exact⟨Nat.zero_le _,by simp⟩
  rintro⟨k,b⟩ ⟨m1,m2⟩ A3 hA3
  simp only at m1 m2 hA3
  by_cases hk:k<sts.length
  ·have hwk:=Zg hk (by simp only[maxLen];omega)
   have h1:=hrn sts[k]
   have m3:=ZpE (p:=λst=>decide (atS CountR.stamp s.nexts st=(j:Int))) hk
   rw[<-m2] at m3
   cases b with
   |true=>
    rw[Bool.true_or] at m3
    have s_:=An @hk (@hwk)
    have q1_:=λs w=>hA3 (k+1,true) s w ⟨hk,m3.symm⟩ (by simp only;omega)
    exact WW
   |false=>
    rw[Bool.false_or] at m3
    have s_:=An @hk (@hwk)
    try simp[s_]
    repeat' ((first|((first|refine Tp ?_|refine Tn ?_|refine T2 ?_ ?_)<;>intro h_ e_ n_)|(exact hA3 (k+1,decide (atS CountR.stamp s.nexts sts[k]=(j:Int))) _ Wa ⟨hk,m3.symm⟩ (by simp only;omega))|refine Pg h1 ?_|refine Dg 15 15 [] [] ?_|refine Dg 28 11 [] [] ?_|refine Dg 30 10 [] [] ?_|rw[Ip]|rw[In]|rw[Fz]|rw[Gz]|fail)<;>first|simp[e_,n_,s_]|simp[s_]|skip)
  rw[List.take_of_length_le (by omega)] at m2
  rw[<-m2] at hst
  cases b with
  |true=>
   rw[if_pos rfl] at hst
   have s_:=An @hk (An @hj (An @hwj (@hm)))
   try simp[s_]
   repeat' ((first|((first|refine Tp ?_|refine Tn ?_|refine T2 ?_ ?_)<;>intro h_ e_ n_)|(exact hA2 (j+1,ks++[s.nexts[j]]) _ Wc ⟨hj,hst.symm⟩ (by simp only;omega))|refine Dg 15 15 [] [] ?_|refine Dg 28 11 [] [] ?_|refine Dg 30 10 [] [] ?_|rw[Ip]|rw[In]|rw[Fz]|rw[Gz]|fail)<;>first|simp[e_,n_,s_]|simp[s_]|skip)
  |false=>
   rw[if_neg (by simp),List.append_nil] at hst
   have s_:=An @hk (An @hj (@hwj))
   have q1_:=λs w=>hA2 (j+1,ks) s w ⟨hj,hst.symm⟩ (by simp only;omega)
   exact WW
 have hwi:=Zg hi (by simp only[maxLen];omega)
 have hcm:=List.getElem_mem hi
 have hcl:=hb.vers _ hcm
 have hcr:=(hP.chain _ hcm).rise
 have hrs:=λst=>hrs s.l[i] st hcm
 rw[List.drop_eq_getElem_cons hi,List.map_cons,List.filter_cons] at g3
 generalize hci:s.l[i]=c at*
 refine AW.seqA (lit:=λ_=>false) ?_
 have s_:=hi
 try simp[s_]
 repeat' ((first|((first|refine Tp ?_|refine Tn ?_|refine T2 ?_ ?_)<;>intro h_ e_ n_)|refine Dg 15 15 [] [] ?_|refine Dg 28 11 [] [] ?_|refine Dg 30 10 [] [] ?_|rw[Ip]|rw[In]|rw[Fz]|rw[Gz]|fail)<;>first|simp[e_,n_,s_]|simp[s_]|skip)
 refine AW.seqW ?_
 refine AW.blockW ?_
 refine AW.seqA (lit:=λ_=>false) ?_
 have s_:=An @hi (@hci)
 try simp[s_]
 repeat' ((first|((first|refine Tp ?_|refine Tn ?_|refine T2 ?_ ?_)<;>intro h_ e_ n_)|refine Dg 15 15 [] [] ?_|refine Dg 28 11 [] [] ?_|refine Dg 30 10 [] [] ?_|rw[Ip]|rw[In]|rw[Fz]|rw[Gz]|fail)<;>first|simp[e_,n_,s_]|simp[s_]|skip)
 refine AW.seqA (lit:=λ_=>false) ?_
 have s_:=An @hi (@hci)
 try simp[s_]
 repeat' ((first|((first|refine Tp ?_|refine Tn ?_|refine T2 ?_ ?_)<;>intro h_ e_ n_)|refine Dg 15 15 [] [] ?_|refine Dg 28 11 [] [] ?_|refine Dg 30 10 [] [] ?_|rw[Ip]|rw[In]|rw[Fz]|rw[Gz]|fail)<;>first|simp[e_,n_,s_]|simp[s_]|skip)
 refine AW.loopGW (λy:Nat×List VerR=>⟨146,pat [(2,.ptr 0 0 0),(4,.ptr 1 0 0),(5,enc1 I sts),(6,.ptr 3 0 0),(7,I i),(8,.ptr 5 0 0),(9,I y.1)],[.cells 0 s.enc,.cells 0 [.sl true 0 [],.sl true 0 [],I 0],.dead,.cells 0 [.own 4 acc.length 0 acc.length 2,.sl true 0 [],I s.stamp],.cells acc.length (acc.flatMap ChainR.enc),.cells 0 [I c.ino,.own 6 y.2.length 0 y.2.length 7],.cells y.2.length (y.2.flatMap VerR.enc)]⟩) (λy=>c.l.length -y.1) (λy=>y.1<=c.l.length/\y.2.length<=y.1/\y.2=ZdG ((c.l.take y.1).filter λv=>sts.any λst=>decide (Zbc VerR.stamp c.l st=some v))) (0,[]) ?_ ?_ ?_
 ·exact Wk.trans (Wk.ownNilCell 5 0 1 7 rfl rfl) Wc
 ·exact⟨Nat.zero_le _,by simp,by simp[ZdG]⟩
 rintro⟨j,vs⟩ ⟨k1,k2,k3⟩ A2 hA2
 simp only at k1 k2 k3 hA2
 by_cases hj:j<c.l.length
 case neg=>
  rw[List.take_of_length_le (by omega)] at k3
  have hsw:Zgv sts c=⟨c.ino,vs⟩:=by unfold Zgv keptS;rw[k3]
  rw[hsw] at g3
  simp only at g3
  refine AW.seqA (lit:=λ_=>false) ?_
  have s_:=An @hi (An @hj (@hci))
  try simp[s_]
  repeat' ((first|((first|refine Tp ?_|refine Tn ?_|refine T2 ?_ ?_)<;>intro h_ e_ n_)|refine Dg 15 15 [] [] ?_|refine Dg 28 11 [] [] ?_|refine Dg 30 10 [] [] ?_|rw[Ip]|rw[In]|rw[Fz]|rw[Gz]|fail)<;>first|simp[e_,n_,s_]|simp[s_]|skip)
  refine AW.wkZ (WkZ.freeze [5,6] 8 (.fp [I c.ino,encL VerR.enc vs]) (by simp;rw[Gz];simp[encL])) ?_
  have hx:([I c.ino,encL VerR.enc vs]:List AV)=(⟨c.ino,vs⟩:ChainR).enc:=rfl
  rw[hx]
  refine Zck (lit:=λ_=>false) _ _ _ ?_
  have hm:acc.length+1<=maxLen:=by simp only[maxLen];omega
  have hal:∀c:ChainR,(acc++[c]).length=acc.length+1:=λc=>by simp
  cases vs with
  |nil=>
   simp at g3
   have s_:= @ChainR.enc.eq_1
   try simp[s_]
   repeat' ((first|((first|refine Tp ?_|refine Tn ?_|refine T2 ?_ ?_)<;>intro h_ e_ n_)|refine Dg 15 15 [] [] ?_|refine Dg 28 11 [] [] ?_|refine Dg 30 10 [] [] ?_|rw[Ip]|rw[In]|rw[Fz]|rw[Gz]|fail)<;>first|simp[e_,n_,s_]|simp[s_]|skip)
   refine Zck (lit:=λ_=>false) _ _ _ ?_
   simp[hwi]
   exact hA (i+1,acc) _ Wc ⟨hi,by simp only;omega,by simpa using g3⟩ (by simp only;omega)
  |cons v r=>
   simp at g3
   have hpos:(0:Int)<(v::r).length:=by simp
   generalize v::r=vs at*
   have s_:=An @hm (@hpos)
   try simp[s_]
   repeat' ((first|((first|refine Tp ?_|refine Tn ?_|refine T2 ?_ ?_)<;>intro h_ e_ n_)|refine Dg 15 15 [] [] ?_|refine Dg 28 11 [] [] ?_|refine Dg 30 10 [] [] ?_|rw[Ip]|rw[In]|rw[Fz]|rw[Gz]|fail)<;>first|simp[e_,n_,s_]|simp[s_]|skip)
   refine Zck (lit:=λ_=>false) _ _ _ ?_
   simp[hwi]
   exact hA (i+1,acc++[⟨c.ino,vs⟩]) _ Wc ⟨hi,by simp only[hal];omega,by simpa using g3⟩ (by simp only;omega)
 refine Zck (lit:=λ_=>false) _ _ _ ?_
 have hwj:=Zg hj (by simp only[maxLen];omega)
 have hm:vs.length+1<=maxLen:=by simp only[maxLen];omega
 have hal:(vs++[c.l[j]]).length=vs.length+1:=by simp
 have hst:ZdG ((c.l.take (j+1)).filter λv=>sts.any λst=>decide (Zbc VerR.stamp c.l st=some v))=if(sts.any λst=>decide (atS VerR.stamp c.l st=(j:Int)))=true then(if vs=[] then(if c.l[j].gone=true then[] else[c.l[j]]) else vs++[c.l[j]]) else vs:=by
  rw[List.take_succ_eq_append_getElem hj,List.filter_append,List.filter_cons,List.filter_nil]
  have:(sts.any λst=>decide (Zbc VerR.stamp c.l st=some c.l[j]))=sts.any λst=>decide (atS VerR.stamp c.l st=(j:Int)):=by congr 1;funext st;exact(decide_eq_decide.2 (ZmE hcr hj st)).symm
  rw[this]
  split
  ·rw[Zjz,<-k3]
  ·rw[List.append_nil,<-k3]
 clear k3
 have s_:=An @hi (An @hj (@hci))
 try simp[s_]
 repeat' ((first|((first|refine Tp ?_|refine Tn ?_|refine T2 ?_ ?_)<;>intro h_ e_ n_)|refine Dg 15 15 [] [] ?_|refine Dg 28 11 [] [] ?_|refine Dg 30 10 [] [] ?_|rw[Ip]|rw[In]|rw[Fz]|rw[Gz]|fail)<;>first|simp[e_,n_,s_]|simp[s_]|skip)
 refine AW.loopG (lit:=λ_=>false) (λz:Nat×Bool=>⟨146,pat [(2,.ptr 0 0 0),(4,.ptr 1 0 0),(5,enc1 I sts),(6,.ptr 3 0 0),(7,I i),(8,.ptr 5 0 0),(9,I j),(10,B z.2),(11,I z.1)],[.cells 0 s.enc,.cells 0 [.sl true 0 [],.sl true 0 [],I 0],.dead,.cells 0 [.own 4 acc.length 0 acc.length 2,.sl true 0 [],I s.stamp],.cells acc.length (acc.flatMap ChainR.enc),.cells 0 [I c.ino,.own 6 vs.length 0 vs.length 7],.cells vs.length (vs.flatMap VerR.enc)]⟩) (λz=>sts.length -z.1) (λz=>z.1<=sts.length/\z.2=(sts.take z.1).any λst=>decide (atS VerR.stamp c.l st=(j:Int))) (0,false) ?_ ?_ ?_
 ·exact Wa
 ·exact⟨Nat.zero_le _,by simp⟩
 rintro⟨k,b⟩ ⟨m1,m2⟩ A3 hA3
 simp only at m1 m2 hA3
 by_cases hk:k<sts.length
 ·have hwk:=Zg hk (by simp only[maxLen];omega)
  have h1:=hrs sts[k]
  have m3:=ZpE (p:=λst=>decide (atS VerR.stamp c.l st=(j:Int))) hk
  rw[<-m2] at m3
  cases b with
  |true=>
   rw[Bool.true_or] at m3
   have s_:=An @hk (@hwk)
   have q1_:=λs w=>hA3 (k+1,true) s w ⟨hk,m3.symm⟩ (by simp only;omega)
   exact WW
  |false=>
   rw[Bool.false_or] at m3
   have s_:=An @hk (An @hwk (An @hi (@hci)))
   try simp[s_]
   repeat' ((first|((first|refine Tp ?_|refine Tn ?_|refine T2 ?_ ?_)<;>intro h_ e_ n_)|(exact hA3 (k+1,decide (atS VerR.stamp c.l sts[k]=(j:Int))) _ Wa ⟨hk,m3.symm⟩ (by simp only;omega))|refine Pg h1 ?_|refine Dg 15 15 [] [] ?_|refine Dg 28 11 [] [] ?_|refine Dg 30 10 [] [] ?_|rw[Ip]|rw[In]|rw[Fz]|rw[Gz]|fail)<;>first|simp[e_,n_,s_]|simp[s_]|skip)
 rw[List.take_of_length_le (by omega)] at m2
 rw[<-m2] at hst
 cases b with
 |false=>
  rw[if_neg (by simp)] at hst
  have s_:=An @hk (An @hi (An @hci (An @hj (@hwj))))
  have q1_:=λs w=>hA2 (j+1,vs) s w ⟨hj,by simp only;omega,hst.symm⟩ (by simp only;omega)
  exact WW
 |true=>
 rw[if_pos rfl] at hst
 cases vs with
 |cons v r=>
  rw[if_neg (by simp)] at hst
  have hpos:(0:Int)<(v::r).length:=by simp
  generalize v::r=vs at*
  have s_:=An @hk (An @hi (An @hci (An @hj (An @hwj (An @hpos (@hm))))))
  try simp[s_]
  repeat' ((first|((first|refine Tp ?_|refine Tn ?_|refine T2 ?_ ?_)<;>intro h_ e_ n_)|(exact hA2 (j+1,vs++[c.l[j]]) _ Wc ⟨hj,by simp only[hal];omega,hst.symm⟩ (by simp only;omega))|refine Dg 15 15 [] [] ?_|refine Dg 28 11 [] [] ?_|refine Dg 30 10 [] [] ?_|rw[Ip]|rw[In]|rw[Fz]|rw[Gz]|fail)<;>first|simp[e_,n_,s_]|simp[s_]|skip)
 |nil=>
  rw[if_pos rfl] at hst
  cases hg:c.l[j].gone with
  |true=>
   rw[if_pos hg] at hst
   have s_:=An @hk (An @hi (An @hci (An @hj (An @hwj (@hg)))))
   have q1_:=λs w=>hA2 (j+1,[]) s w ⟨hj,by simp only;simp,hst.symm⟩ (by simp only;omega)
   exact WW
  |false=>
   rw[if_neg (by rw[hg];simp)] at hst
   have s_:=An @hk (An @hi (An @hci (An @hj (An @hwj (@hg)))))
   try simp[s_]
   repeat' ((first|((first|refine Tp ?_|refine Tn ?_|refine T2 ?_ ?_)<;>intro h_ e_ n_)|(exact hA2 (j+1,[c.l[j]]) _ Wc ⟨hj,by simp,hst.symm⟩ (by simp only;omega))|refine Dg 15 15 [] [] ?_|refine Dg 28 11 [] [] ?_|refine Dg 30 10 [] [] ?_|rw[Ip]|rw[In]|rw[Fz]|rw[Gz]|fail)<;>first|simp[e_,n_,s_]|simp[s_]|skip)
end Go.Proofs.YtgpkaoombhobmaaGreat
namespace Go.Proofs.YtgpkaoombhobmaaGreat
open Go.Cx Tab Go.ChangeShapes Go.WideShapes
set_option maxHeartbeats 1600000
set_option maxRecDepth 100000
theorem and_tt {a b:Bool} (ha:a=true) (hb:b=true):(a&&b)=true:=by rw[ha,hb];rfl
theorem own:ownKnob Tryz.prog.godebug=none:=by kernel_rfl
theorem laid:laidOutB Tryz.prog=true:=by kernel_rfl
mutual
theorem blk_le {H:Type}:∀d:DataW H,blk d<=Rows.uptoBulk d
 | .lit l=>by cases l<;>simp[blk,Rows.uptoBulk]
 | .nil=>by simp[blk,Rows.uptoBulk]
 | .ptr d=>by simp[blk,Rows.uptoBulk]
 | .slice elems spare=>by have:=ZfH elems;simp only[blk,Rows.uptoBulk];omega
 | .agg parts=>by have:=ZfH parts;simp only[blk,Rows.uptoBulk];omega
 | .iface t d=>by simp[blk,Rows.uptoBulk]
 | .map es=>by simp[blk,Rows.uptoBulk]
 | .held h=>by simp[blk,Rows.uptoBulk]
theorem ZfH {H:Type}:∀l:List (DataW H),blkAll l<=Rows.uptoBulkAll l
 |[]=>by simp[blkAll,Rows.uptoBulkAll]
 |d::r=>by have:=blk_le d;have:=ZfH r;simp only[blkAll,Rows.uptoBulkAll];omega
end
section
variable {W:World}
end
def Zih (c:EntryR):Nat:=c.name.size+1+1
def Zmr (c:NodeR):Nat:=c.text.size+1+(c.l.map Zih).sum+1+1
def wtFS (c:FSR):Nat:=(c.l.map Zmr).sum+1+1
def ZnY (c:VerR):Nat:=Zmr c.node+1
def Zdh (c:ChainR):Nat:=(c.l.map ZnY).sum+1+1
def Zii (c:CountR):Nat:=1
def Zij (c:StoreR):Nat:=(c.l.map Zdh).sum+1+(c.nexts.map Zii).sum+1+1
def wtTxn (c:TxnR):Nat:=wtFS c.was+wtFS c.now+c.looks.length+1+1
def Zgh (c:DecisionR):Nat:=1
def wtRow (c:RowR):Nat:=(c.l.map Zgh).sum+1+1
def ZnZ (c:ReplyR):Nat:=c.text.size+1+c.names.length+1+1
def Zvt (c:OpenR):Nat:=wtTxn c.t+ZnZ c.last+1
def ZjH (c:HostR):Nat:=Zij c.s+(c.rows.map wtRow).sum+1+(c.opens.map Zvt).sum+1+1
section
variable {W:World}
theorem bEntry:OpnB Tryz.prog W 141 (λxs b=>∃c:EntryR,xs=c.enc/\c.wf/\Zih c<=b):=
 (ZP tst141 ts141 (.cons (ZeD tus9) ts9 (.cons ((ZO tui3).b) ts3 .nil))).mono λxs b h=>by
  obtain⟨b1,l1,⟨_,_,_,_,m0,⟨x0,rfl,h0,g0⟩,⟨_,_,_,_,m1,⟨x1,rfl,h1⟩,rfl,rfl⟩,rfl⟩⟩:=h
  exact⟨⟨x0,x1⟩,by simp[EntryR.enc],⟨h0,h1⟩,by simp only[Zih];omega⟩
theorem bNode:OpnB Tryz.prog W 99 (λxs b=>∃c:NodeR,xs=c.enc/\c.wf/\Zmr c<=b):=
 (ZP tst99 ts99 (.cons ((ZO tui3).b) ts3 (.cons ((ZO tui3).b) ts3 (.cons ((ZO tui3).b) ts3 (.cons (ZeD tus9) ts9 (.cons (Zbt te97 ts141 (by omega) bEntry) ts97 .nil)))))).mono λxs b h=>by
  obtain⟨b1,l1,⟨_,_,_,_,m0,⟨x0,rfl,h0⟩,⟨_,_,_,_,m1,⟨x1,rfl,h1⟩,⟨_,_,_,_,m2,⟨x2,rfl,h2⟩,⟨_,_,_,_,m3,⟨x3,rfl,h3,g3⟩,⟨_,_,_,_,m4,⟨x4,rfl,h4,g4⟩,rfl,rfl⟩,rfl⟩,rfl⟩,rfl⟩,rfl⟩⟩:=h
  exact⟨⟨x0,x1,x2,x3,x4⟩,by simp[NodeR.enc],⟨h0,h1,h2,h3,h4⟩,by simp only[Zmr];omega⟩
theorem bFS:OpnB Tryz.prog W 55 (λxs b=>∃c:FSR,xs=c.enc/\c.wf/\wtFS c<=b):=
 (ZP tst55 ts55 (.cons (Zbt te53 ts99 (by omega) bNode) ts53 (.cons ((ZO tui3).b) ts3 .nil))).mono λxs b h=>by
  obtain⟨b1,l1,⟨_,_,_,_,m0,⟨x0,rfl,h0,g0⟩,⟨_,_,_,_,m1,⟨x1,rfl,h1⟩,rfl,rfl⟩,rfl⟩⟩:=h
  exact⟨⟨x0,x1⟩,by simp[FSR.enc],⟨h0,h1⟩,by simp only[wtFS];omega⟩
theorem bVer:OpnB Tryz.prog W 101 (λxs b=>∃c:VerR,xs=c.enc/\c.wf/\ZnY c<=b):=
 (ZP tst101 ts101 (.cons ((ZO tui3).b) ts3 (.cons ((ZoH tub4).b) ts4 (.cons (bNode) ts99 .nil)))).mono λxs b h=>by
  obtain⟨b1,l1,⟨_,_,_,_,m0,⟨x0,rfl,h0⟩,⟨_,_,_,_,m1,⟨x1,rfl⟩,⟨_,_,_,_,m2,⟨x2,rfl,h2,g2⟩,rfl,rfl⟩,rfl⟩,rfl⟩⟩:=h
  exact⟨⟨x0,x1,x2⟩,by simp[VerR.enc],⟨h0,h2⟩,by simp only[ZnY];omega⟩
theorem bChain:OpnB Tryz.prog W 95 (λxs b=>∃c:ChainR,xs=c.enc/\c.wf/\Zdh c<=b):=
 (ZP tst95 ts95 (.cons ((ZO tui3).b) ts3 (.cons (Zbt te93 ts101 (by omega) bVer) ts93 .nil))).mono λxs b h=>by
  obtain⟨b1,l1,⟨_,_,_,_,m0,⟨x0,rfl,h0⟩,⟨_,_,_,_,m1,⟨x1,rfl,h1,g1⟩,rfl,rfl⟩,rfl⟩⟩:=h
  exact⟨⟨x0,x1⟩,by simp[ChainR.enc],⟨h0,h1⟩,by simp only[Zdh];omega⟩
theorem bCount:OpnB Tryz.prog W 92 (λxs b=>∃c:CountR,xs=c.enc/\c.wf/\Zii c<=b):=
 (ZP tst92 ts92 (.cons ((ZO tui3).b) ts3 (.cons ((ZO tui3).b) ts3 .nil))).mono λxs b h=>by
  obtain⟨b1,l1,⟨_,_,_,_,m0,⟨x0,rfl,h0⟩,⟨_,_,_,_,m1,⟨x1,rfl,h1⟩,rfl,rfl⟩,rfl⟩⟩:=h
  exact⟨⟨x0,x1⟩,by simp[CountR.enc],⟨h0,h1⟩,by simp only[Zii];omega⟩
theorem bStore:OpnB Tryz.prog W 25 (λxs b=>∃c:StoreR,xs=c.enc/\c.wf/\Zij c<=b):=
 (ZP tst25 ts25 (.cons (Zbt te22 ts95 (by omega) bChain) ts22 (.cons (Zbt te23 ts92 (by omega) bCount) ts23 (.cons ((ZO tui3).b) ts3 .nil)))).mono λxs b h=>by
  obtain⟨b1,l1,⟨_,_,_,_,m0,⟨x0,rfl,h0,g0⟩,⟨_,_,_,_,m1,⟨x1,rfl,h1,g1⟩,⟨_,_,_,_,m2,⟨x2,rfl,h2⟩,rfl,rfl⟩,rfl⟩,rfl⟩⟩:=h
  exact⟨⟨x0,x1,x2⟩,by simp[StoreR.enc],⟨h0,h1,h2⟩,by simp only[Zij];omega⟩
theorem bTxn:OpnB Tryz.prog W 58 (λxs b=>∃c:TxnR,xs=c.enc/\c.wf/\wtTxn c<=b):=
 (ZP tst58 ts58 (.cons ((ZO tui3).b) ts3 (.cons (bFS) ts55 (.cons (bFS) ts55 (.cons (ZuC te56 ts3 tui3) ts56 .nil))))).mono λxs b h=>by
  obtain⟨b1,l1,⟨_,_,_,_,m0,⟨x0,rfl,h0⟩,⟨_,_,_,_,m1,⟨x1,rfl,h1,g1⟩,⟨_,_,_,_,m2,⟨x2,rfl,h2,g2⟩,⟨_,_,_,_,m3,⟨x3,rfl,h3,g3⟩,rfl,rfl⟩,rfl⟩,rfl⟩,rfl⟩⟩:=h
  exact⟨⟨x0,x1,x2,x3⟩,by simp[TxnR.enc],⟨h0,h1,h2,h3⟩,by simp only[wtTxn];omega⟩
theorem Zvu:OpnB Tryz.prog W 126 (λxs b=>∃c:DecisionR,xs=c.enc/\c.wf/\Zgh c<=b):=
 (ZP tst126 ts126 (.cons ((ZO tui3).b) ts3 (.cons ((ZoH tub4).b) ts4 .nil))).mono λxs b h=>by
  obtain⟨b1,l1,⟨_,_,_,_,m0,⟨x0,rfl,h0⟩,⟨_,_,_,_,m1,⟨x1,rfl⟩,rfl,rfl⟩,rfl⟩⟩:=h
  exact⟨⟨x0,x1⟩,by simp[DecisionR.enc],h0,by simp only[Zgh];omega⟩
theorem bRow:OpnB Tryz.prog W 119 (λxs b=>∃c:RowR,xs=c.enc/\c.wf/\wtRow c<=b):=
 (ZP tst119 ts119 (.cons ((ZO tui3).b) ts3 (.cons ((ZO tui3).b) ts3 (.cons ((ZO tui3).b) ts3 (.cons (Zbt te117 ts126 (by omega) Zvu) ts117 .nil))))).mono λxs b h=>by
  obtain⟨b1,l1,⟨_,_,_,_,m0,⟨x0,rfl,h0⟩,⟨_,_,_,_,m1,⟨x1,rfl,h1⟩,⟨_,_,_,_,m2,⟨x2,rfl,h2⟩,⟨_,_,_,_,m3,⟨x3,rfl,h3,g3⟩,rfl,rfl⟩,rfl⟩,rfl⟩,rfl⟩⟩:=h
  exact⟨⟨x0,x1,x2,x3⟩,by simp[RowR.enc],⟨h0,h1,h2,h3⟩,by simp only[wtRow];omega⟩
theorem bReply:OpnB Tryz.prog W 41 (λxs b=>∃c:ReplyR,xs=c.enc/\c.wf/\ZnZ c<=b):=
 (ZP tst41 ts41 (.cons ((ZO tui38).b) ts38 (.cons ((ZO tui3).b) ts3 (.cons ((ZO tui3).b) ts3 (.cons ((ZO tui3).b) ts3 (.cons (ZeD tus9) ts9 (.cons (Zmh te39 ts9 tus9) ts39 .nil))))))).mono λxs b h=>by
  obtain⟨b1,l1,⟨_,_,_,_,m0,⟨x0,rfl,h0⟩,⟨_,_,_,_,m1,⟨x1,rfl,h1⟩,⟨_,_,_,_,m2,⟨x2,rfl,h2⟩,⟨_,_,_,_,m3,⟨x3,rfl,h3⟩,⟨_,_,_,_,m4,⟨x4,rfl,h4,g4⟩,⟨_,_,_,_,m5,⟨x5,rfl,h5,g5⟩,rfl,rfl⟩,rfl⟩,rfl⟩,rfl⟩,rfl⟩,rfl⟩⟩:=h
  exact⟨⟨x0,x1,x2,x3,x4,x5⟩,by simp[ReplyR.enc],⟨h0,h1,h2,h3,h4,h5⟩,by simp only[ZnZ];omega⟩
theorem bOpen:OpnB Tryz.prog W 60 (λxs b=>∃c:OpenR,xs=c.enc/\c.wf/\Zvt c<=b):=
 (ZP tst60 ts60 (.cons ((ZO tui3).b) ts3 (.cons ((ZO tui3).b) ts3 (.cons ((ZO tui3).b) ts3 (.cons ((ZO tui3).b) ts3 (.cons (bTxn) ts58 (.cons (bReply) ts41 (.cons ((ZO tui3).b) ts3 .nil)))))))).mono λxs b h=>by
  obtain⟨b1,l1,⟨_,_,_,_,m0,⟨x0,rfl,h0⟩,⟨_,_,_,_,m1,⟨x1,rfl,h1⟩,⟨_,_,_,_,m2,⟨x2,rfl,h2⟩,⟨_,_,_,_,m3,⟨x3,rfl,h3⟩,⟨_,_,_,_,m4,⟨x4,rfl,h4,g4⟩,⟨_,_,_,_,m5,⟨x5,rfl,h5,g5⟩,⟨_,_,_,_,m6,⟨x6,rfl,h6⟩,rfl,rfl⟩,rfl⟩,rfl⟩,rfl⟩,rfl⟩,rfl⟩,rfl⟩⟩:=h
  exact⟨⟨x0,x1,x2,x3,x4,x5,x6⟩,by simp[OpenR.enc],⟨h0,h1,h2,h3,h4,h5,h6⟩,by simp only[Zvt];omega⟩
theorem bHost:OpnB Tryz.prog W 29 (λxs b=>∃c:HostR,xs=c.enc/\c.wf/\ZjH c<=b):=
 (ZP tst29 ts29 (.cons (bStore) ts25 (.cons (Zbt te26 ts119 (by omega) bRow) ts26 (.cons (Zbt te27 ts60 (by omega) bOpen) ts27 (.cons ((ZO tui3).b) ts3 (.cons ((ZO tui3).b) ts3 .nil)))))).mono λxs b h=>by
  obtain⟨b1,l1,⟨_,_,_,_,m0,⟨x0,rfl,h0,g0⟩,⟨_,_,_,_,m1,⟨x1,rfl,h1,g1⟩,⟨_,_,_,_,m2,⟨x2,rfl,h2,g2⟩,⟨_,_,_,_,m3,⟨x3,rfl,h3⟩,⟨_,_,_,_,m4,⟨x4,rfl,h4⟩,rfl,rfl⟩,rfl⟩,rfl⟩,rfl⟩,rfl⟩⟩:=h
  exact⟨⟨x0,x1,x2,x3,x4⟩,by simp[HostR.enc],⟨h0,h1,h2,h3,h4⟩,by simp only[ZjH];omega⟩
end
theorem Zms {s:StoreR} (h:Zij s<=1048576):ZbM s:=by
 simp only[Zij] at h
 have h1:=Zmi (f:=Zdh) (λc=>by simp only[Zdh];omega) s.l
 have h2:=Zmi (f:=Zii) (λc=>by simp only[Zii];omega) s.nexts
 refine⟨by omega,by omega,λc hc=> ?_,λc hc v hv=> ?_⟩
 ·have g1:=Zpy (f:=Zdh) hc
  have g2:=Zmi (f:=ZnY) (λc=>by simp only[ZnY];omega) c.l
  simp only[Zdh] at g1
  omega
 ·have g1:=Zpy (f:=Zdh) hc
  have g2:=Zpy (f:=ZnY) hv
  have g3:=Zmi (f:=Zih) (λc=>by simp only[Zih];omega) v.node.l
  simp only[Zdh] at g1
  simp only[ZnY,Zmr] at g2
  omega
end Go.Proofs.YtgpkaoombhobmaaGreat
