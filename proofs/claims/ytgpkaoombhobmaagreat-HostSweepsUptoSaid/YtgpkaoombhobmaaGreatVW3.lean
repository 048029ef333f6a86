import Derived.Test.YtgpkaoombhobmaaGreatVW2
import Derived.Test.YtgpkaoombhobmaaGreatVP1
import Derived.RangeFuncBox
import Derived.RangeFuncLeaves
import Derived.Shelf.Abstract
import Derived.WalkKit
import Derived.OwnWalkIn
import Derived.TacticsInMore
import Derived.LoopNIn
import Derived.LoopIn
import Derived.Maps.AppendAt
import Derived.Scope
import Derived.RangeFuncCalls
import Derived.Test.YtgpkaoombhobmaaGreatVP2
import Derived.Test.YtgpkaoombhobmaaGreatVW1
set_option linter.unusedVariables false
set_option linter.unusedSimpArgs false
namespace Go.Proofs.YtgpkaoombhobmaaGreat
open Go.Cx Tab
set_option maxHeartbeats 400000
set_option maxRecDepth 40000
theorem Zuq (l:List ChainR) (hl:l.length<=1000000):XCall Tryz.prog 298 [encL ChainR.enc l] [] (.own 0 0 0 l.length 2) [.cells 0 (l.flatMap ChainR.enc)]:=by
 refine XCall.mkE 2 (λ_=>false) Tryz.func298 rfl rfl rfl (Ent.mk Tryz.func298 (by kernel_rfl) rfl) (by simp) (by simp) (by simp) (by simp) (by simp) λhfit=> ?_
 simp at hfit
 simp[Tryz.f298]
 rw[if_pos (by simp only[maxLen];omega)]
 simp
 intro h0
 subst h0
 simp
theorem Zrq (l:List ChainR) (i:Nat) (x:ChainR) (hi:i<=l.length) (hl:l.length<=1000000):XCall Tryz.prog 299 [.own 0 0 0 l.length 2,I i,.sl true 1 x.enc] [.cells 0 (l.flatMap ChainR.enc)] (.own 0 1 0 (l.length+1) 2) [.cells 1 ((insL l i x).flatMap ChainR.enc)]:=by
 by_cases hi2:i=l.length
 case pos=>
  subst hi2
  refine XCall.mkG (λs (_:Unit)=>s) (λ_=>false) Tryz.func299 rfl rfl rfl (Ent.mk Tryz.func299 (by kernel_rfl) rfl) (by simp) (by simp) (by simp) (by simp) (by simp) λhfit=> ?_
  refine⟨WkE.one _ _,λ_=> ?_⟩
  simp[Tryz.f299]
  rw[if_pos (by simp only[maxLen];omega)]
  simp
  exact⟨_,Wk.refl _ _,by simp[ZdT]⟩
 have hi3:i<l.length:=by omega
 have hcp:∀cap,l.length<=cap->(l.length*2+(cap*2 -l.length*2))/2=cap:=λcap h=>by omega
 have hw1:IntKind.i64.wrap ((l.length:Int)+1)=((l.length+1:Nat):Int):=by rw[Zf (by omega) (by omega)];omega
 have hw2:IntKind.i64.wrap ((i:Int)+1)=((i+1:Nat):Int):=by rw[Zf (by omega) (by omega)];omega
 have hw3:IntKind.i64.wrap ((l.length:Int)+1 -i)=((l.length+1 -i:Nat):Int):=by rw[Zf (by omega) (by omega)];omega
 have hw4:((i:Int)+((l.length+1 -i:Nat):Int)).toNat=l.length+1:=by omega
 have hm1:min 1 (l.length+1 -i)=1:=by omega
 have hm2:∀cap,l.length<=cap->min (i*2) (l.length*2+(cap*2 -l.length*2))=i*2:=λcap h=>by omega
 have hov:∀(lb:Nat) (h:Za) (y:ABlk) (Q:AV->Za->Prop),h[0]? =some y->(blkCells y).map (·.1)=some 0->Q (B false) h->AInv Tryz.prog (.fn 325 []) [.sl true 1 x.enc,.own 0 0 (i+1) lb 2] h Q:=λlb h y Q hy hv hq=>
  Zbu Tryz.func325 (by kernel_rfl) rfl (by kernel_rfl) rfl rfl (by kernel_rfl) (k:=2) (by kernel_rfl) true 1 _ _ 0 0 (i+1) lb hy hv (by omega) Q hq
 refine XCall.mkG (λs (cap:{cap:Nat//l.length<=cap/\cap<=maxLen})=>Zcd s 0 0 2 (l.flatMap ChainR.enc) cap.1) (λ_=>false) Tryz.func299 rfl rfl rfl (Ent.mk Tryz.func299 (by kernel_rfl) rfl) (by simp) (by simp) (by simp) (by simp) (by simp) λhfit=> ?_
 refine⟨WkE.full (t:=0) (by simp) (by simp) (by omega) (by simp),?_⟩
 rintro⟨cap,hc1,hc2⟩
 have hcp1:=hcp cap hc1
 have hm3:=hm2 cap hc1
 have hi4:¬i=l.length:=by omega
 have hle:i<=l.length:=by omega
 generalize hA:List.replicate (cap*2 -l.length*2) AV.any=A
 have hAl:A.length=cap*2 -l.length*2:=by rw[<-hA];simp
 have hLl:(l.flatMap ChainR.enc).length=l.length*2:=ZiK l
 have hta:(l.flatMap ChainR.enc++A).take (i*2)=(l.flatMap ChainR.enc).take (i*2):=List.take_append_of_le_length (by rw[hLl];omega)
 have hdr:(l.flatMap ChainR.enc).drop (i*2)=(l.drop i).flatMap ChainR.enc:=Zlc l i
 have hq0:(l.flatMap ChainR.enc++A).drop (i*2)=(l.drop i).flatMap ChainR.enc++A:=by rw[List.drop_append_of_le_length (by rw[hLl];omega),hdr]
 have hdl:((l.drop i).flatMap ChainR.enc).length=l.length*2 -i*2:=by rw[ZiK,List.length_drop];omega
 by_cases hr:l.length+1<=cap
 ·have hm4:min (l.length+1 -i) (l.length -i)=l.length -i:=by omega
  have hm5:min ((l.length+1 -i)*2) ((l.length -i)*2+(cap*2 -l.length*2))=(l.length+1 -i)*2:=by omega
  have hm6:min ((l.length+1 -i)*2) (l.length*2+(cap*2 -l.length*2) -i*2)=(l.length+1 -i)*2:=by omega
  have hq1:List.take ((l.length -i)*2) (List.take ((l.length+1 -i)*2) ((l.drop i).flatMap ChainR.enc++A))=(l.drop i).flatMap ChainR.enc:=by
   rw[List.take_take,Nat.min_eq_left (by omega),List.take_left' (by rw[hdl];omega)]
  have hq2:(putAt (l.flatMap ChainR.enc++A) ((i+1)*2) ((l.drop i).flatMap ChainR.enc)).length=cap*2:=by
   rw[ZD (by rw[List.length_append,hLl,hAl,hdl];omega),List.length_append,hLl,hAl];omega
  have hq3:(putAt (putAt (l.flatMap ChainR.enc++A) ((i+1)*2) ((l.drop i).flatMap ChainR.enc)) (i*2) x.enc).take ((l.length+1)*2)=(insL l i x).flatMap ChainR.enc:=by
   have:=ZdR (L:=l.flatMap ChainR.enc) (A:=A) (X:=x.enc) (a:=i*2) (k:=2) hLl (by omega) rfl (by rw[hAl];omega)
   rw[ZiO,hq0,List.take_left' (by rw[hdl])] at this
   rw[show(i+1)*2=i*2+2 by omega,show(l.length+1)*2=l.length*2+2 by omega]
   exact this
  have hone:∀y∈(l.drop i).flatMap ChainR.enc,Zx y=true:=List.all_eq_true.1 (ZiJ _)
  simp[Tryz.f299,Zcd,hA]
  have s_:=An @hcp1 (An @hw1 (An @hw2 (An @hw3 (An @hw4 (An @hm1 (An @hm3 (An @hm4 (An @hq0 (An @hq1 (An @hq2 (An @hi3 (An @hi4 (An @hle (@hr))))))))))))))
  try simp[s_]
  repeat' ((first|((first|refine Tp ?_|refine Tn ?_|refine T2 ?_ ?_)<;>intro h_ e_ n_)|(refine hov _ _ _ _ rfl rfl ?_;simp)|(refine optBif ⟨rfl,by rw[List.length_append,hLl,hAl];omega,by rw[List.length_take,List.length_append,hdl,hAl];omega,by rw[hm4,hq1];exact hone⟩ ?_;simp)|refine Dg 11 9 [] [] ?_|refine Dg 15 9 [] [] ?_|rw[Ip]|rw[In]|rw[Fz]|rw[Gz]|fail)<;>first|simp[e_,n_,s_]|simp[s_]|skip)
  exact⟨_,Wk.trans (Wk.prefix 0 0 ((l.length+1)*2) rfl rfl) (Wk.bump 6 0 0 0 (l.length+1) 2 (by simp) rfl),by simp[hq3]⟩
 ·have hm5:min ((l.length -i)*2) ((l.length -i)*2+(cap*2 -l.length*2))=(l.length -i)*2:=by omega
  have hq1:List.take ((l.length -i)*2) (List.take ((l.length -i)*2) ((l.drop i).flatMap ChainR.enc++A))=(l.drop i).flatMap ChainR.enc:=by
   rw[List.take_take,Nat.min_self,List.take_left' (by rw[hdl];omega)]
  have hq4:List.take ((l.length -i)*2) ((l.drop i).flatMap ChainR.enc)=(l.drop i).flatMap ChainR.enc:=List.take_of_length_le (by rw[hdl];omega)
  have hone:∀y∈(l.drop i).flatMap ChainR.enc,Zx y=true:=List.all_eq_true.1 (ZiJ _)
  simp[Tryz.f299,Zcd,hA]
  generalize hZ:(List.replicate (l.length+1 -i) [AV.val (Value.int IntKind.i64 0),AV.sl true 0 []]).flatten=Z
  have hZl:Z.length=(l.length+1 -i)*2:=by rw[<-hZ];simp
  have hta':((l.flatMap ChainR.enc).take (i*2)).length=i*2:=by rw[List.length_take,hLl];omega
  have hq2:(putAt ((l.flatMap ChainR.enc).take (i*2)++Z) (i*2) x.enc).length=(l.length+1)*2:=by
   rw[ZD (by rw[List.length_append,hta',hZl,ZmR];omega),List.length_append,hta',hZl];omega
  have hq3:putAt (putAt ((l.flatMap ChainR.enc).take (i*2)++Z) (i*2) x.enc) ((i+1)*2) ((l.drop i).flatMap ChainR.enc)=(insL l i x).flatMap ChainR.enc:=by
   have:=ZdS (L:=l.flatMap ChainR.enc) (A:=A) (X:=x.enc) (Z:=Z) (a:=i*2) (k:=2) hLl (by omega) rfl (by rw[hZl];omega)
   rw[ZiO,hta,hq0,List.take_left' (by rw[hdl])] at this
   rw[show(i+1)*2=i*2+2 by omega]
   exact this
  have s_:=An @hcp1 (An @hw1 (An @hw2 (An @hw3 (An @hw4 (An @hm1 (An @hm3 (An @hq0 (An @hq1 (An @hq4 (An @hta (An @hZ (An @hi3 (An @hi4 (An @hle (@hr)))))))))))))))
  try simp[s_]
  repeat' ((first|((first|refine Tp ?_|refine Tn ?_|refine T2 ?_ ?_)<;>intro h_ e_ n_)|(refine optBif ⟨by rw[hq2];omega,hone⟩ ?_;simp)|refine Dg 11 9 [] [] ?_|refine Dg 15 9 [] [] ?_|rw[Ip]|rw[In]|rw[Fz]|rw[Gz]|fail)<;>first|simp[e_,n_,s_]|simp[s_]|skip)
  exact⟨_,Wk.move 6 0 1 0 0 (l.length+1) 2 (by decide) (by simp;omega) rfl rfl rfl,by simp[hq3]⟩
theorem _root_.Go.Cx.XCall.soft {P:Program} {f:FuncId} {args args':List AV} {h0 h1:Za} {v:AV} (h:XCall P f args' h0 v h1) (ha:args.all (refsLt h0.length)=true) (hs:∀Z w κ cs,Rs Z w κ args cs->Rs Z w κ args' cs):XCall P f args h0 v h1:=
 ⟨ha,h.heap,h.val,h.len,h.heap1,⟨h.call.1,λZ κ w cargs r hr=>h.call.2 Z κ w cargs r (hs Z w κ cargs hr)⟩⟩
theorem insH_ok (l:List ChainR) (i:Nat) (ino:Int) (v:VerR) (hi:i<=l.length) (hl:l.length<=1000000):XCall Tryz.prog 299 [.own 0 0 0 l.length 2,I i,.sl true 1 [I ino,.sl true 1 v.enc]] [.cells 0 (l.flatMap ChainR.enc)] (.own 0 1 0 (l.length+1) 2) [.cells 1 ((insL l i ⟨ino,[v]⟩).flatMap ChainR.enc)]:=by
 refine(Zrq l i ⟨ino,[v]⟩ hi hl).soft (by simp) λZ w κ cs h=> ?_
 cases h with
 |cons a h=>
  cases h with
  |cons b h=>
   cases h with
   |cons c h=>
    cases h
    refine .cons a (.cons b (.cons ?_ .nil))
    cases c with
    |sl h0 h1 h2 h3 h4 h5 h6=>
     cases h6 with
     |cons x y=>
      cases y with
      |cons y z=>
       cases z
       exact .sl h0 h1 h2 h3 h4 h5 (.cons x (.cons (by simpa[encL] using y.loose) .nil))
theorem ZwR {l:List ChainR} {i:Nat} (hi:i<l.length) (h:i*2<(l.flatMap ChainR.enc).length):(l.flatMap ChainR.enc)[i*2]=I l[i].ino:=by
 have h0:=Zfe hi
 have h1:=congrArg (λx=>x[0]?) h0
 rw[List.getElem?_take_of_lt (by omega),List.getElem?_drop,Nat.add_zero,List.getElem?_eq_getElem h] at h1
 simpa[ChainR.enc] using h1
theorem chl_at {l:List ChainR} {i:Nat} (hi:i<l.length):(l.flatMap ChainR.enc)[i*2+1]? =some (encL VerR.enc l[i].l):=by
 have h0:=Zfe hi
 have h1:=congrArg (λx=>x[1]?) h0
 rw[List.getElem?_take_of_lt (by omega),List.getElem?_drop] at h1
 simpa[ChainR.enc] using h1
theorem Zpt {h:Za} {f:Nat} {x x':AV} (hx:frz h 0 (f+1) x=some x'):∀{cs:List AV} {j:Nat},cs.all neat=true->j<cs.length->frzs h 0 (f+1) (cs.set j x)=some (cs.set j x')
 |[],j,_,hj=>by simp at hj
 |c::cs,0,hc,_=>by
  rw[List.all_cons,Bool.and_eq_true] at hc
  rw[List.set_cons_zero,ZkS,hx,ZbA hc.2];rfl
 |c::cs,j+1,hc,hj=>by
  rw[List.all_cons,Bool.and_eq_true] at hc
  rw[List.set_cons_succ,ZkS,Zci _ _ _ hc.1,Zpt hx hc.2 (by simpa using hj)];rfl
theorem frzOwn_set {h:Za} {f ver m k j:Nat} {cs:List AV} {x x':AV} (hc:cs.all neat=true) (hl:cs.length=m*k) (hj:j<cs.length) (hm:m≠0) (hx:frz h 0 (f+1) x=some x'):
  Zgi h (f+1) ver 0 m k (some (.cells ver (cs.set j x)))=some (.sl false m (cs.set j x')):=by
 have hl':(cs.set j x).length=m*k:=by simpa using hl
 simp only[Zgi,true_and,Nat.zero_add,Nat.zero_mul,List.drop_zero]
 rw[if_pos (by omega),if_neg hm,List.take_of_length_le (by omega),Zpt hx hc hj];rfl
theorem Zmn:∀{l:List ChainR} {i:Nat} (hi:i<l.length) (y:List VerR),(l.flatMap ChainR.enc).set (i*2+1) (encL VerR.enc y)=(l.set i ⟨l[i].ino,y⟩).flatMap ChainR.enc
 |[],i,hi,_=>by simp at hi
 |c::l,0,_,y=>by simp[ChainR.enc]
 |c::l,i+1,hi,y=>by
  have ih:=Zmn (l:=l) (i:=i) (by simpa using hi) y
  have e:(i+1)*2+1=(i*2+1)+1+1:=by omega
  rw[e]
  simp only[List.flatMap_cons,ChainR.enc,List.cons_append,List.nil_append,List.set_cons_succ,List.getElem_cons_succ] at ih⊢
  rw[ih]
theorem Zjy {ino:Int} {v:VerR}:∀{l:List ChainR} {i:Nat},i<=l.length->(∀(j:Nat) (h:j<l.length),j<i->l[j].ino<ino)->withS l ino v=l.take i++withS (l.drop i) ino v
 |l,0,_,_=>by simp
 |[],i+1,h,_=>by simp at h
 |c::l,i+1,h,hj=>by
  have h0:=hj 0 (by simp) (by omega)
  simp only[List.getElem_cons_zero] at h0
  have ih:=Zjy (ino:=ino) (v:=v) (l:=l) (i:=i) (by simpa using h) λj h hji=>by
   have:=hj (j+1) (by simpa using h) (by omega)
   simpa using this
  rw[withS,if_neg (by omega),if_neg (by omega),ih]
  simp
theorem Zur {l:List VerR} {v:VerR} (hr:l.Pairwise λa b=>a.stamp<b.stamp) (hm:∀x∈l,x.stamp<=v.stamp) (hl:l.length -1<l.length):addV l v=(if l[l.length -1].stamp=v.stamp then l.take (l.length -1) else l)++[v]:=by
 have hp:=List.pairwise_iff_getElem.1 hr
 unfold addV
 congr 1
 have hlt:∀(j:Nat) (h:j<l.length),j<l.length -1->l[j].stamp<v.stamp:=λj h hj=>by
  have h1:=hp j (l.length -1) h hl hj
  have h2:=hm _ (List.getElem_mem hl)
  omega
 have e:l=l.take (l.length -1)++[l[l.length -1]]:=by
  rw[<-List.take_succ_eq_append_getElem hl,List.take_of_length_le (by omega)]
 have hk:(l.take (l.length -1)).filter (λx=> !decide (x.stamp=v.stamp))=l.take (l.length -1):=List.filter_eq_self.2 λx hx=>by
  obtain⟨j,hj,rfl⟩:=List.getElem_of_mem hx
  rw[List.length_take] at hj
  rw[List.getElem_take]
  have:=hlt j (by omega) (by omega)
  simp;omega
 by_cases q:l[l.length -1].stamp=v.stamp
 ·rw[if_pos q]
  conv=>lhs;rw[e]
  rw[List.filter_append,hk,List.filter_cons_of_neg (by simpa using q)]
  simp
 ·rw[if_neg q]
  conv=>lhs;rw[e]
  rw[List.filter_append,hk,List.filter_cons_of_pos (by simpa using q)]
  exact e.symm
theorem Zrr (l:List ChainR) (ino:Int) (v:VerR) (hl:l.length<=500000) (hc:∀c∈l,c.l≠[]/\c.l.length<=2000000/\(c.l.Pairwise λa b=>a.stamp<b.stamp)/\∀x∈c.l,x.stamp<=v.stamp):Zd Tryz.prog 241 [encL ChainR.enc l,I ino,.agg v.enc] (encL ChainR.enc (withS l ino v)):=by
 have hcl:=Zuq l (by omega)
 refine Pm Tryz.func241 λhfit=> ?_
 have d1_:=D0 8 10 [] []
 have d2_:=D0 10 13 [] []
 simp[Tryz.f241]
 refine AW.scopeG (lit:=λ_=>false) 0 (λ_:Unit=>⟨0,λ_=> .any,[]⟩) (λ_=>0) (λ_=>False) rfl (λA _=> ?_) (λx h=>h.elim)
 simp
 try simp
 repeat' ((first|((first|refine Tp ?_|refine Tn ?_|refine T2 ?_ ?_)<;>intro h_ e_ n_)|(refine AInv.fresh [] hcl (by simp) (by simp) ?_;simp)|refine Dg 8 10 [] [] ?_|refine Dg 10 13 [] [] ?_|rw[Ip]|rw[In]|rw[Fz]|rw[Gz]|fail)<;>first|simp[e_,n_]|simp|skip)
 refine AW.loopG (lit:=λ_=>false) (λi:Nat=>⟨75,pat [(0,.own 1 0 0 l.length 2),(1,I ino),(5,.ptr 0 0 0),(7,I i)],[.cells 0 v.enc,.cells 0 (l.flatMap ChainR.enc)]⟩) (λi=>l.length -i) (λi=>i<=l.length/\∀(j:Nat) (h:j<l.length),j<i->l[j].ino<ino) 0 ?_ ?_ ?_
 ·exact Wa
 ·exact⟨by simp,λj h hj=>by omega⟩
 rintro i ⟨g1,g2⟩ B hB
 have hsk:=Zjy (v:=v) g1 g2
 have hins:=insH_ok l i ino v g1 (by omega)
 by_cases hi:i<l.length
 case neg=>
  have e:withS l ino v=insL l i ⟨ino,[v]⟩:=by
   rw[hsk,List.drop_eq_nil_of_le (by omega)]
   simp[withS,insL,List.drop_eq_nil_of_le (show l.length<=i by omega)]
  rw[e]
  have s_:=hi
  have f1_:=F0 [1] hins
  exact WW
 have hwi:=Zh hi (by simp only[maxLen];omega)
 have hcc:=hc l[i] (List.getElem_mem hi)
 have a0:=ZwR hi
 have a1:=chl_at hi
 rw[List.drop_eq_getElem_cons hi,withS] at hsk
 by_cases q1:ino<l[i].ino
 ·rw[if_pos q1] at hsk
  have e:withS l ino v=insL l i ⟨ino,[v]⟩:=by
   rw[hsk,insL,List.drop_eq_getElem_cons hi]
  rw[e]
  have s_:=An @hi (An @q1 (@a0))
  have f1_:=F0 [1] hins
  exact WW
 rw[if_neg q1] at hsk
 by_cases q2:l[i].ino<ino
 ·have g3:∀(j:Nat) (h:j<l.length),j<i+1->l[j].ino<ino:=λj h hj=>by
   rcases Nat.lt_or_ge j i with g|g
   ·exact g2 j h g
   ·have:j=i:=by omega
    subst this;exact q2
  have s_:=An @hi (An @q1 (An @q2 (An @hwi (@a0))))
  have q1_:=λs w=>hB (i+1) s w ⟨hi,g3⟩ (by omega)
  exact WW
 have q3:l[i].ino=ino:=by omega
 rw[if_pos q3] at hsk
 obtain⟨c1,c2,c3,c4⟩:=hcc
 have hv0:l[i].l.length -1<l[i].l.length:=by have:=List.length_pos_iff.2 c1;omega
 have hav:=Zur c3 c4 hv0
 have hwv:IntKind.i64.wrap ((l[i].l.length:Int) -1)=((l[i].l.length -1:Nat):Int):=by rw[Zf (by omega) (by omega)];omega
 have hset:withS l ino v=l.set i ⟨l[i].ino,addV l[i].l v⟩:=by
  rw[hsk,List.set_eq_take_append_cons_drop,if_pos hi,q3]
 have hcs:=Zmn hi (addV l[i].l v)
 rw[<-hset] at hcs
 have hlen:(withS l ino v).length=l.length:=by rw[hset];simp
 generalize withS l ino v=W at*
 clear hset hsk
 generalize hci:l[i]=c at*
 have b1:(c.l.length -1+1)*80<=140737488355328:=by omega
 have b2:c.l.length -1+1<=maxLen:=by simp only[maxLen];omega
 have b3:(c.l.length+1)*80<=140737488355328:=by omega
 have b4:c.l.length+1<=maxLen:=by simp only[maxLen];omega
 have z1:(c.l.take (c.l.length -1)).length=c.l.length -1:=by simp
 by_cases q4:c.l[c.l.length -1].stamp=v.stamp
 ·rw[if_pos q4] at hav
  have s_:=An @hi (An @q1 (An @q2 (An @hci (An @hv0 (An @hwv (An @q4 (An @a0 (An @a1 (An @b1 (@b2))))))))))
  try simp[s_]
  repeat' ((first|((first|refine Tp ?_|refine Tn ?_|refine T2 ?_ ?_)<;>intro h_ e_ n_)|(rw[frzOwn_set (x':=encL VerR.enc (addV c.l v)) (by simp) (by simp) (by simp;omega) (by omega) (by simp[ZpY];rw[Fz];simp[hav,encL,List.take_take])];simp[hcs,hlen,encL])|refine Dg 8 10 [] [] ?_|refine Dg 10 13 [] [] ?_|rw[Ip]|rw[In]|rw[Fz]|rw[Gz]|fail)<;>first|simp[e_,n_,s_]|simp[s_]|skip)
 ·rw[if_neg q4] at hav
  have s_:=An @hi (An @q1 (An @q2 (An @hci (An @hv0 (An @hwv (An @q4 (An @a0 (An @a1 (An @b3 (@b4))))))))))
  try simp[s_]
  repeat' ((first|((first|refine Tp ?_|refine Tn ?_|refine T2 ?_ ?_)<;>intro h_ e_ n_)|(rw[frzOwn_set (x':=encL VerR.enc (addV c.l v)) (by simp) (by simp) (by simp;omega) (by omega) (by simp;rw[Fz];simp[hav,encL])];simp[hcs,hlen,encL])|refine Dg 8 10 [] [] ?_|refine Dg 10 13 [] [] ?_|rw[Ip]|rw[In]|rw[Fz]|rw[Gz]|fail)<;>first|simp[e_,n_,s_]|simp[s_]|skip)
theorem Zrs {st:Int} {l:List ChangeR} {cs:List ChainR} {i:Nat} (hi:i<l.length):(l.take (i+1)).foldl (Zao st) cs=withS ((l.take i).foldl (Zao st) cs) l[i].ino (Zen st l[i]):=by
 rw[List.take_succ_eq_append_getElem hi,List.foldl_append];rfl
theorem Zrt (s:StoreR) (l:List ChangeR) (next:Int) (B:Nat) (hm:Mid s.l (s.stamp+1) B) (hB:B+l.length<=500000) (hs:s.stamp<9223372036854775807) (h0:0<=s.stamp) (hn:s.nexts≠[]) (hnl:s.nexts.length<=2000000):Zd Tryz.prog 210 [.agg s.enc,encL ChangeR.enc l,I next] (.agg (installS s l next).enc):=by
 obtain⟨cs,ns,stamp⟩:=s
 simp only at hm hs h0 hn hnl
 unfold installS
 simp only
 obtain⟨st,hS⟩:∃st,stamp+1=st:=⟨_,rfl⟩
 have hw:IntKind.i64.wrap (stamp+1)=st:=by rw[Zf (by omega) (by omega),hS]
 simp only[hS] at hm⊢
 have hlast:ns.length -1<ns.length:=by have:=List.length_pos_iff.2 hn;omega
 have hln:=Znv hlast
 have hwn:IntKind.i64.wrap ((ns.length:Int) -1)=((ns.length -1:Nat):Int):=by rw[Zf (by omega) (by omega)];omega
 have hb1:(ns.length+1)*16<=140737488355328:=by omega
 have hb2:ns.length+1<=maxLen:=by simp only[maxLen];omega
 have hfold:∀i,i<=l.length->Mid ((l.take i).foldl (Zao st) cs) st (B+l.length):=λi hi=>by
  have:=hm.fold (l.take i)
  rw[List.length_take,Nat.min_eq_left hi] at this
  exact⟨this.rise,this.some,this.vrise,this.le,by have:=this.len;omega,λc hc=>by have:=this.vlen c hc;omega⟩
 have hend:(l.take l.length).foldl (Zao st) cs=l.foldl (Zao st) cs:=by rw[List.take_length]
 have hstep:=fun(i:Nat) (hi:i<l.length)=>Zrs (st:=st) (cs:=cs) hi
 generalize hF:(λi:Nat=>(l.take i).foldl (Zao st) cs)=F at*
 have hF':∀i,(l.take i).foldl (Zao st) cs=F i:=λi=>by rw[<-hF]
 simp only[hF'] at hfold hend hstep
 rw[<-hend]
 clear hend
 have hfst:cs=F 0:=by rw[<-hF' 0];rfl
 rw[hfst]
 clear hfst
 generalize lastNext ns=ln at*
 refine Pm Tryz.func210 λhfit=> ?_
 have d1_:=D0 13 13 [] []
 simp[Tryz.f210,StoreR.enc]
 refine AW.loopG (lit:=λ_=>false) (λi:Nat=>⟨69,pat [(2,I next),(3,.ptr 0 0 0),(6,.ptr 1 0 0),(15,encL ChangeR.enc l),(16,I l.length),(17,I i)],[.cells 0 [encL ChainR.enc (F i),encL CountR.enc ns,I st],.cells 0 [.sl true 0 [],.sl true 0 [],I 0]]⟩) (λi=>l.length -i) (λi=>i<=l.length) 0 ?_ ?_ ?_
 ·exact Wk.at _ rfl (by simp;exact hw) (by simp)
 ·simp
 rintro i g1 A hA
 by_cases hi:i<l.length
 case neg=>
  have e:i=l.length:=by omega
  subst e
  by_cases q:ln<next
  ·have s_:=An @hi (An @hlast (An @hwn (An @hln (An @q (An @hb1 (An @hb2 (@CountR.enc.eq_1)))))))
   exact WW
  ·have s_:=An @hi (An @hlast (An @hwn (An @hln (An @q (@CountR.enc.eq_1)))))
   exact WW
 have hwi:=Zh hi (by simp only[maxLen];omega)
 have hf:=hfold i (by omega)
 have hch:=Zrr (F i) l[i].ino (Zen st l[i]) (by have:=hf.len;omega) λc hc=>⟨hf.some c hc,by have:=hf.vlen c hc;omega,hf.vrise c hc,by simpa[Znu] using hf.le c hc⟩
 rw[<-hstep i hi] at hch
 generalize hc:l[i]=c at*
 cases hg:c.gone with
 |true=>
  rw[Zen,if_pos hg,hg] at hch
  have s_:=An @hi (An @hwi (An @hc (An @hg (An @ChangeR.enc.eq_1 (An @VerR.enc.eq_1 (An @NodeR.zero.eq_1 (@NodeR.enc.eq_1)))))))
  have q1_:=λs w=>hA (i+1) s w hi (by omega)
  have p1_:=hch
  exact WW
 |false=>
  rw[Zen,if_neg (by simp[hg]),hg] at hch
  have s_:=An @hi (An @hwi (An @hc (An @hg (An @ChangeR.enc.eq_1 (An @VerR.enc.eq_1 (@NodeR.enc.eq_1))))))
  have q1_:=λs w=>hA (i+1) s w hi (by omega)
  have p1_:=hch
  exact WW
noncomputable def Zie (last:Int) (c:ChainR):Bool:= @decide (Zeu last c) (Classical.propDecidable _)
theorem Zge {last:Int} {c:ChainR}:Zie last c=true↔Zeu last c:=by simp[Zie]
theorem ZdF {last:Int} {c:ChainR} (h:¬Zeu last c):Zie last c=false:=by simp[Zie,h]
noncomputable def storeB (s:StoreR):Bool:= @decide (Zu s) (Classical.propDecidable _)
theorem Zjz {s:StoreR}:storeB s=true↔Zu s:=by simp[storeB]
theorem Zcs {s:StoreR} (h:¬Zu s):storeB s=false:=by simp[storeB,h]
def verB (ino:Int) (v:VerR):Bool:=if v.gone=true then decide (v.node= .zero) else(nodeOk v.node&&decide (v.node.ino=ino))
theorem ZwS {ino:Int} {v:VerR}:verB ino v=true↔VerP ino v:=by
 unfold verB
 constructor
 ·intro h
  split at h
  ·rename_i q
   exact⟨λ_=>by simpa using h,λg=>by rw[q] at g;cases g⟩
  ·rename_i q
   simp only[Bool.and_eq_true,decide_eq_true_eq] at h
   exact⟨λg=>absurd g q,λ_=>h⟩
 ·intro h
  split
  ·rename_i q;simpa using h.gone q
  ·rename_i q;simpa using h.node (by simpa using q)
theorem Zif {α:Type} {f:α->Int}:∀{l:List α},(∀(j:Nat) (h:j+1<l.length),f l[j]<f l[j+1])->l.Pairwise λa b=>f a<f b
 |[],_=> .nil
 |a::l,h=>by
  have ih:=Zif (f:=f) (l:=l) λj hj=>by have:=h (j+1) (by simpa using hj);simpa only[List.getElem_cons_succ] using this
  refine List.pairwise_cons.2 ⟨λb hb=> ?_,ih⟩
  cases l with
  |nil=>cases hb
  |cons c l=>
   have h0:=h 0 (by simp)
   simp only[List.getElem_cons_zero,List.getElem_cons_succ] at h0
   rcases List.mem_cons.1 hb with rfl|hb
   ·exact h0
   ·have:=(List.pairwise_cons.1 ih).1 b hb;omega
theorem ZwT (c:ChainR) (last:Int):Zd Tryz.prog 80 [.agg c.enc,I last] (B (Zie last c)):=by
 by_cases q0:c.ino<1
 ·rw[ZdF λh=>by have:=h.ino;omega]
  refine Pm Tryz.func80 λhfit=> ?_
  have d1_:=D0 9 42 [] []
  simp[Tryz.f80]
  have s_:=An @q0 (@ChainR.enc.eq_1)
  exact WW
 by_cases q1:c.l.length<1
 ·rw[ZdF λh=>h.some (List.eq_nil_of_length_eq_zero (by omega))]
  refine Pm Tryz.func80 λhfit=> ?_
  have d1_:=D0 9 42 [] []
  simp[Tryz.f80]
  have s_:=An @q0 (An @q1 (@ChainR.enc.eq_1))
  exact WW
 obtain⟨b,hb⟩:∃b,Zie last c=b:=⟨_,rfl⟩
 rw[hb]
 refine Pm Tryz.func80 λhfit=> ?_
 have d1_:=D0 9 42 [] []
 simp[ChainR.enc] at hfit
 have hll:=hfit.1
 simp only[maxLen] at hll
 simp[Tryz.f80,ChainR.enc]
 have s_:=An @q0 (@q1)
 try simp[s_]
 repeat' ((first|((first|refine Tp ?_|refine Tn ?_|refine T2 ?_ ?_)<;>intro h_ e_ n_)|refine Dg 9 42 [] [] ?_|rw[Ip]|rw[In]|rw[Fz]|rw[Gz]|fail)<;>first|simp[e_,n_,s_]|simp[s_]|skip)
 refine AW.loopG (lit:=λ_=>false) (λi:Nat=>⟨87,pat [(1,I last),(2,.ptr 0 0 0),(5,I i)],[.cells 0 [I c.ino,encL VerR.enc c.l]]⟩) (λi=>c.l.length -i) (λi=>i<=c.l.length/\∀(j:Nat) (h:j<c.l.length),j<i->(1<=c.l[j].stamp/\c.l[j].stamp<=last)/\VerP c.ino c.l[j]/\∀p,c.l[j -1]? =some p->0<j->p.stamp<c.l[j].stamp) 0 ?_ ?_ ?_
 ·exact Wa
 ·exact⟨by simp,λj h hj=>by omega⟩
 rintro i ⟨g1,g2⟩ A hA
 by_cases hi:i<c.l.length
 case neg=>
  have e:b=true:=by
   rw[<-hb]
   refine Zge.2 ⟨by omega,λe=>by rw[e] at q1;simp at q1,?_,λv hv=> ?_,λv hv=> ?_⟩
   ·refine Zif λj h=> ?_
    have:=(g2 (j+1) h (by omega)).2.2 c.l[j] (by simp) (by omega)
    simpa using this
   ·obtain⟨j,hj,rfl⟩:=List.getElem_of_mem hv
    exact(g2 j hj (by omega)).1
   ·obtain⟨j,hj,rfl⟩:=List.getElem_of_mem hv
    exact(g2 j hj (by omega)).2.1
  rw[e]
  have s_:=hi
  exact WW
 have hwi:=Zh hi hfit.1
 have hbad:¬((1<=c.l[i].stamp/\c.l[i].stamp<=last)/\VerP c.ino c.l[i]/\∀p,c.l[i -1]? =some p->0<i->p.stamp<c.l[i].stamp)->b=false:=λhn=>by
  rw[<-hb]
  refine ZdF λh=>hn ⟨h.lo _ (List.getElem_mem hi),h.ver _ (List.getElem_mem hi),λp hp h0=>by
   obtain⟨h1,rfl⟩:=List.getElem?_eq_some_iff.1 hp
   exact List.pairwise_iff_getElem.1 h.rise (i -1) i h1 hi (by omega)⟩
 have hgo:((1<=c.l[i].stamp/\c.l[i].stamp<=last)/\VerP c.ino c.l[i]/\∀p,c.l[i -1]? =some p->0<i->p.stamp<c.l[i].stamp)->∀(j:Nat) (h:j<c.l.length),j<i+1->(1<=c.l[j].stamp/\c.l[j].stamp<=last)/\VerP c.ino c.l[j]/\∀p,c.l[j -1]? =some p->0<j->p.stamp<c.l[j].stamp:=λhn j h hj=>by
  rcases Nat.lt_or_ge j i with g|g
  ·exact g2 j h g
  ·have:j=i:=by omega
   subst this;exact hn
 have hR:=rnright_ok c.l[i].node
 have hZ:=rnsame_ok c.l[i].node .zero
 have hi1:i -1<c.l.length:=by omega
 have hp1:c.l[i -1]? =some c.l[i -1]:=List.getElem?_eq_getElem hi1
 have hwm:0<i->IntKind.i64.wrap ((i:Int) -1)=((i -1:Nat):Int):=λhp=>by rw[Zf (by omega) (by omega)];omega
 clear g2
 have hv:verB c.ino c.l[i]=true↔_:=ZwS
 rw[<-hv] at hbad hgo
 clear hv
 unfold verB at hbad hgo
 generalize hck:c.l[i -1]=p at*
 generalize hci:c.l[i]=v at*
 generalize hn1:nodeOk v.node=ok at*
 generalize hn2:decide (v.node=NodeR.zero)=zr at*
 by_cases q2:v.stamp<1
 ·rw[hbad λh=>by have:=h.1;omega]
  have s_:=An @hi (An @hci (An @q2 (An @VerR.enc.eq_1 (An @NodeR.enc.eq_1 (@NodeR.zero.eq_1)))))
  have p1_:=hR
  have p2_:=hZ
  exact WW
 by_cases q3:last<v.stamp
 ·rw[hbad λh=>by have:=h.1;omega]
  have s_:=An @hi (An @hci (An @q2 (An @q3 (An @VerR.enc.eq_1 (An @NodeR.enc.eq_1 (@NodeR.zero.eq_1))))))
  have p1_:=hR
  have p2_:=hZ
  exact WW
 by_cases q4:0<i/\v.stamp<=p.stamp
 ·rw[hbad λh=>by have:=h.2.2 p hp1 q4.1;omega]
  have q5:=q4.1
  have q6:=q4.2
  have hwm:=hwm q5
  have s_:=An @hi (An @hci (An @hck (An @q2 (An @q3 (An @q5 (An @q6 (An @hwm (An @hi1 (An @VerR.enc.eq_1 (An @NodeR.enc.eq_1 (@NodeR.zero.eq_1)))))))))))
  have p1_:=hR
  have p2_:=hZ
  exact WW
 have q7:∀p',c.l[i -1]? =some p'->0<i->p'.stamp<v.stamp:=λp' e h0=>by
  rw[hp1] at e
  cases e
  omega
 have q8:0<i->¬v.stamp<=p.stamp:=λh0=>by omega
 cases hg:v.gone with
 |true=>
  rw[hg,if_pos rfl] at hbad hgo
  cases zr with
  |false=>
   rw[hbad λh=>by have:=h.2.1;simp at this]
   by_cases q5:0<i
   ·have hwm:=hwm q5
    have q8:=q8 q5
    have s_:=An @hi (An @hci (An @hck (An @q2 (An @q3 (An @q5 (An @q8 (An @hwm (An @hi1 (An @hg (An @VerR.enc.eq_1 (An @NodeR.enc.eq_1 (@NodeR.zero.eq_1))))))))))))
    have p1_:=hR
    have p2_:=hZ
    exact WW
   ·have s_:=An @hi (An @hci (An @q2 (An @q3 (An @q5 (An @hg (An @VerR.enc.eq_1 (An @NodeR.enc.eq_1 (@NodeR.zero.eq_1))))))))
    have p1_:=hR
    have p2_:=hZ
    exact WW
  |true=>
   have hgo:=hgo ⟨by omega,rfl,q7⟩
   by_cases q5:0<i
   ·have hwm:=hwm q5
    have q8:=q8 q5
    have s_:=An @hi (An @hci (An @hck (An @q2 (An @q3 (An @q5 (An @q8 (An @hwm (An @hwi (An @hi1 (An @hg (An @VerR.enc.eq_1 (An @NodeR.enc.eq_1 (@NodeR.zero.eq_1)))))))))))))
    have q1_:=λs w=>hA (i+1) s w ⟨hi,hgo⟩ (by omega)
    have p1_:=hR
    have p2_:=hZ
    exact WW
   ·have s_:=An @hi (An @hci (An @q2 (An @q3 (An @q5 (An @hwi (An @hg (An @VerR.enc.eq_1 (An @NodeR.enc.eq_1 (@NodeR.zero.eq_1)))))))))
    have q1_:=λs w=>hA (i+1) s w ⟨hi,hgo⟩ (by omega)
    have p1_:=hR
    have p2_:=hZ
    exact WW
 |false=>
  rw[hg,if_neg (by simp)] at hbad hgo
  by_cases q9:ok=true/\v.node.ino=c.ino
  case neg=>
   rw[hbad λh=>q9 (by simpa using h.2.1)]
   cases ok with
   |false=>
    by_cases q5:0<i
    ·have hwm:=hwm q5
     have q8:=q8 q5
     have s_:=An @hi (An @hci (An @hck (An @q2 (An @q3 (An @q5 (An @q8 (An @hwm (An @hi1 (An @hg (An @VerR.enc.eq_1 (An @NodeR.enc.eq_1 (@NodeR.zero.eq_1))))))))))))
     have p1_:=hR
     have p2_:=hZ
     exact WW
    ·have s_:=An @hi (An @hci (An @q2 (An @q3 (An @q5 (An @hg (An @VerR.enc.eq_1 (An @NodeR.enc.eq_1 (@NodeR.zero.eq_1))))))))
     have p1_:=hR
     have p2_:=hZ
     exact WW
   |true=>
    have q9:¬v.node.ino=c.ino:=λe=>q9 ⟨rfl,e⟩
    by_cases q5:0<i
    ·have hwm:=hwm q5
     have q8:=q8 q5
     have s_:=An @hi (An @hci (An @hck (An @q2 (An @q3 (An @q5 (An @q8 (An @hwm (An @hi1 (An @hg (An @q9 (An @VerR.enc.eq_1 (An @NodeR.enc.eq_1 (@NodeR.zero.eq_1)))))))))))))
     have p1_:=hR
     have p2_:=hZ
     exact WW
    ·have s_:=An @hi (An @hci (An @q2 (An @q3 (An @q5 (An @hg (An @q9 (An @VerR.enc.eq_1 (An @NodeR.enc.eq_1 (@NodeR.zero.eq_1)))))))))
     have p1_:=hR
     have p2_:=hZ
     exact WW
  obtain⟨rfl,q9⟩:=q9
  have hgo:=hgo ⟨by omega,by simp[q9],q7⟩
  by_cases q5:0<i
  ·have hwm:=hwm q5
   have q8:=q8 q5
   have s_:=An @hi (An @hci (An @hck (An @q2 (An @q3 (An @q5 (An @q8 (An @hwm (An @hwi (An @hi1 (An @hg (An @q9 (An @VerR.enc.eq_1 (An @NodeR.enc.eq_1 (@NodeR.zero.eq_1))))))))))))))
   have q1_:=λs w=>hA (i+1) s w ⟨hi,hgo⟩ (by omega)
   have p1_:=hR
   have p2_:=hZ
   exact WW
  ·have s_:=An @hi (An @hci (An @q2 (An @q3 (An @q5 (An @hwi (An @hg (An @q9 (An @VerR.enc.eq_1 (An @NodeR.enc.eq_1 (@NodeR.zero.eq_1))))))))))
   have q1_:=λs w=>hA (i+1) s w ⟨hi,hgo⟩ (by omega)
   have p1_:=hR
   have p2_:=hZ
   exact WW
theorem Zig (s:StoreR):Zd Tryz.prog 40 [.agg s.enc] (B (storeB s)):=by
 by_cases q0:s.stamp<1
 ·rw[Zcs λh=>by have:=h.stamp;omega]
  refine Pm Tryz.func40 λhfit=> ?_
  have d1_:=D0 6 9 [] []
  have d2_:=D0 7 22 [] []
  have d3_:=D0 13 31 [] []
  simp[Tryz.f40]
  have s_:=An @q0 (@StoreR.enc.eq_1)
  exact WW
 by_cases q1:s.nexts.length<1
 ·rw[Zcs λh=>h.some (List.eq_nil_of_length_eq_zero (by omega))]
  refine Pm Tryz.func40 λhfit=> ?_
  have d1_:=D0 6 9 [] []
  have d2_:=D0 7 22 [] []
  have d3_:=D0 13 31 [] []
  simp[Tryz.f40]
  have s_:=An @q0 (An @q1 (@StoreR.enc.eq_1))
  exact WW
 obtain⟨b,hb⟩:∃b,storeB s=b:=⟨_,rfl⟩
 rw[hb]
 refine Pm Tryz.func40 λhfit=> ?_
 have d1_:=D0 6 9 [] []
 have d2_:=D0 7 22 [] []
 have d3_:=D0 13 31 [] []
 simp[StoreR.enc] at hfit
 have hl1:=hfit.1.1
 have hl2:=hfit.2.1
 have hm1:=hl1
 have hm2:=hl2
 simp only[maxLen] at hm1 hm2
 simp[Tryz.f40,StoreR.enc]
 have s_:=An @q0 (@q1)
 try simp[s_]
 repeat' ((first|((first|refine Tp ?_|refine Tn ?_|refine T2 ?_ ?_)<;>intro h_ e_ n_)|refine Dg 6 9 [] [] ?_|refine Dg 7 22 [] [] ?_|refine Dg 13 31 [] [] ?_|rw[Ip]|rw[In]|rw[Fz]|rw[Gz]|fail)<;>first|simp[e_,n_,s_]|simp[s_]|skip)
 refine AW.loopG (lit:=λ_=>false) (λi:Nat=>⟨96,pat [(1,.ptr 0 0 0),(3,I i)],[.cells 0 [encL ChainR.enc s.l,encL CountR.enc s.nexts,I s.stamp]]⟩) (λi=>s.l.length -i) (λi=>i<=s.l.length/\∀(j:Nat) (h:j<s.l.length),j<i->Zeu s.stamp s.l[j]/\∀p,s.l[j -1]? =some p->0<j->p.ino<s.l[j].ino) 0 ?_ ?_ ?_
 ·exact Wa
 ·exact⟨by simp,λj h hj=>by omega⟩
 rintro i ⟨g1,g2⟩ A hA
 by_cases hi:i<s.l.length
 case neg=>
  have hc1:∀c∈s.l,Zeu s.stamp c:=λc hc=>by
   obtain⟨j,hj,rfl⟩:=List.getElem_of_mem hc
   exact(g2 j hj (by omega)).1
  have hc2:s.l.Pairwise λa b=>a.ino<b.ino:=Zif λj h=>by
   have:=(g2 (j+1) h (by omega)).2 s.l[j] (by simp) (by omega)
   simpa using this
  clear g2
  have s_:=hi
  try simp[s_]
  repeat' ((first|((first|refine Tp ?_|refine Tn ?_|refine T2 ?_ ?_)<;>intro h_ e_ n_)|refine Dg 6 9 [] [] ?_|refine Dg 7 22 [] [] ?_|refine Dg 13 31 [] [] ?_|rw[Ip]|rw[In]|rw[Fz]|rw[Gz]|fail)<;>first|simp[e_,n_,s_]|simp[s_]|skip)
  refine AW.loopG (lit:=λ_=>false) (λi:Nat=>⟨96,pat [(1,.ptr 0 0 0),(5,I i)],[.cells 0 [encL ChainR.enc s.l,encL CountR.enc s.nexts,I s.stamp]]⟩) (λi=>s.nexts.length -i) (λi=>i<=s.nexts.length/\∀(j:Nat) (h:j<s.nexts.length),j<i->(1<=s.nexts[j].stamp/\s.nexts[j].stamp<=s.stamp/\1<=s.nexts[j].next)/\∀p,s.nexts[j -1]? =some p->0<j->p.stamp<s.nexts[j].stamp) 0 ?_ ?_ ?_
  ·exact Wa
  ·exact⟨by simp,λj h hj=>by omega⟩
  clear hA g1 hi
  rintro i ⟨g1,g2⟩ A hA
  by_cases hi:i<s.nexts.length
  case neg=>
   have e:b=true:=by
    rw[<-hb]
    refine Zjz.2 ⟨by omega,hc1,hc2,λe=>by rw[e] at q1;simp at q1,?_,λv hv=> ?_⟩
    ·refine Zif λj h=> ?_
     have:=(g2 (j+1) h (by omega)).2 s.nexts[j] (by simp) (by omega)
     simpa using this
    ·obtain⟨j,hj,rfl⟩:=List.getElem_of_mem hv
     exact(g2 j hj (by omega)).1
   rw[e]
   have s_:=hi
   exact WW
  have hwi:=Zh hi hl2
  have hbad:¬((1<=s.nexts[i].stamp/\s.nexts[i].stamp<=s.stamp/\1<=s.nexts[i].next)/\∀p,s.nexts[i -1]? =some p->0<i->p.stamp<s.nexts[i].stamp)->b=false:=λhn=>by
   rw[<-hb]
   refine Zcs λh=>hn ⟨h.count _ (List.getElem_mem hi),λp hp h0=>by
    obtain⟨h1,rfl⟩:=List.getElem?_eq_some_iff.1 hp
    exact List.pairwise_iff_getElem.1 h.nrise (i -1) i h1 hi (by omega)⟩
  have hgo:((1<=s.nexts[i].stamp/\s.nexts[i].stamp<=s.stamp/\1<=s.nexts[i].next)/\∀p,s.nexts[i -1]? =some p->0<i->p.stamp<s.nexts[i].stamp)->∀(j:Nat) (h:j<s.nexts.length),j<i+1->(1<=s.nexts[j].stamp/\s.nexts[j].stamp<=s.stamp/\1<=s.nexts[j].next)/\∀p,s.nexts[j -1]? =some p->0<j->p.stamp<s.nexts[j].stamp:=λhn j h hj=>by
   rcases Nat.lt_or_ge j i with g|g
   ·exact g2 j h g
   ·have:j=i:=by omega
    subst this;exact hn
  have hi1:i -1<s.nexts.length:=by omega
  have hp1:s.nexts[i -1]? =some s.nexts[i -1]:=List.getElem?_eq_getElem hi1
  have hwm:0<i->IntKind.i64.wrap ((i:Int) -1)=((i -1:Nat):Int):=λhp=>by rw[Zf (by omega) (by omega)];omega
  clear g2
  generalize hck:s.nexts[i -1]=p at*
  generalize hci:s.nexts[i]=v at*
  by_cases q2:v.stamp<1
  ·rw[hbad λh=>by have:=h.1;omega]
   have s_:=An @hi (An @hci (An @q2 (@CountR.enc.eq_1)))
   exact WW
  by_cases q3:s.stamp<v.stamp
  ·rw[hbad λh=>by have:=h.1;omega]
   have s_:=An @hi (An @hci (An @q2 (An @q3 (@CountR.enc.eq_1))))
   exact WW
  by_cases q4:v.next<1
  ·rw[hbad λh=>by have:=h.1;omega]
   have s_:=An @hi (An @hci (An @q2 (An @q3 (An @q4 (@CountR.enc.eq_1)))))
   exact WW
  by_cases q5:0<i
  ·have hwm:=hwm q5
   by_cases q6:v.stamp<=p.stamp
   ·rw[hbad λh=>by have:=h.2 p hp1 q5;omega]
    have s_:=An @hi (An @hci (An @hck (An @q2 (An @q3 (An @q4 (An @q5 (An @q6 (An @hwm (An @hi1 (@CountR.enc.eq_1))))))))))
    exact WW
   ·have hgo:=hgo ⟨by omega,λp' e h0=>by rw[hp1] at e;cases e;omega⟩
    have s_:=An @hi (An @hci (An @hck (An @q2 (An @q3 (An @q4 (An @q5 (An @q6 (An @hwm (An @hwi (An @hi1 (@CountR.enc.eq_1)))))))))))
    have q1_:=λs w=>hA (i+1) s w ⟨hi,hgo⟩ (by omega)
    exact WW
  ·have hgo:=hgo ⟨by omega,λp' e h0=>by omega⟩
   have s_:=An @hi (An @hci (An @q2 (An @q3 (An @q4 (An @q5 (An @hwi (@CountR.enc.eq_1)))))))
   have q1_:=λs w=>hA (i+1) s w ⟨hi,hgo⟩ (by omega)
   exact WW
 have hwi:=Zh hi hl1
 have hbad:¬(Zeu s.stamp s.l[i]/\∀p,s.l[i -1]? =some p->0<i->p.ino<s.l[i].ino)->b=false:=λhn=>by
  rw[<-hb]
  refine Zcs λh=>hn ⟨h.chain _ (List.getElem_mem hi),λp hp h0=>by
   obtain⟨h1,rfl⟩:=List.getElem?_eq_some_iff.1 hp
   exact List.pairwise_iff_getElem.1 h.rise (i -1) i h1 hi (by omega)⟩
 have hgo:(Zeu s.stamp s.l[i]/\∀p,s.l[i -1]? =some p->0<i->p.ino<s.l[i].ino)->∀(j:Nat) (h:j<s.l.length),j<i+1->Zeu s.stamp s.l[j]/\∀p,s.l[j -1]? =some p->0<j->p.ino<s.l[j].ino:=λhn j h hj=>by
  rcases Nat.lt_or_ge j i with g|g
  ·exact g2 j h g
  ·have:j=i:=by omega
   subst this;exact hn
 have hi1:i -1<s.l.length:=by omega
 have hp1:s.l[i -1]? =some s.l[i -1]:=List.getElem?_eq_getElem hi1
 have hwm:0<i->IntKind.i64.wrap ((i:Int) -1)=((i -1:Nat):Int):=λhp=>by rw[Zf (by omega) (by omega)];omega
 clear g2
 generalize hck:s.l[i -1]=p at*
 generalize hci:s.l[i]=c at*
 have hC:=ZwT c s.stamp
 cases hcb:Zie s.stamp c with
 |false=>
  rw[hbad λh=>by rw[Zge.2 h.1] at hcb;cases hcb]
  rw[hcb] at hC
  have s_:=An @hi (An @hci (@ChainR.enc.eq_1))
  have p1_:=hC
  exact WW
 |true=>
  rw[hcb] at hC
  rw[Zge] at hcb
  by_cases q5:0<i
  ·have hwm:=hwm q5
   by_cases q6:c.ino<=p.ino
   ·rw[hbad λh=>by have:=h.2 p hp1 q5;omega]
    have s_:=An @hi (An @hci (An @hck (An @q5 (An @q6 (An @hwm (An @hi1 (@ChainR.enc.eq_1)))))))
    have p1_:=hC
    exact WW
   ·have hgo:=hgo ⟨hcb,λp' e h0=>by rw[hp1] at e;cases e;omega⟩
    have s_:=An @hi (An @hci (An @hck (An @q5 (An @q6 (An @hwm (An @hwi (An @hi1 (@ChainR.enc.eq_1))))))))
    have q1_:=λs w=>hA (i+1) s w ⟨hi,hgo⟩ (by omega)
    have p1_:=hC
    exact WW
  ·have hgo:=hgo ⟨hcb,λp' e h0=>by omega⟩
   have s_:=An @hi (An @hci (An @q5 (An @hwi (@ChainR.enc.eq_1))))
   have q1_:=λs w=>hA (i+1) s w ⟨hi,hgo⟩ (by omega)
   have p1_:=hC
   exact WW
theorem Zus (s:StoreR) (hb:Zcb s):Zd Tryz.prog 25 [.agg s.enc] (B (fewStore s)):=by
 have hl1:=hb.l
 have hl2:=hb.nexts
 have hl3:=hb.vers
 have hl4:=hb.ents
 clear hb
 obtain⟨cs,ns,st⟩:=s
 simp only at hl1 hl2 hl3 hl4
 obtain⟨b,hb⟩:∃b,fewStore ⟨cs,ns,st⟩=b:=⟨_,rfl⟩
 rw[hb]
 have hw0:IntKind.i64.wrap ((cs.length:Int)+ns.length)=(cs.length:Int)+ns.length:=Zf (by omega) (by omega)
 refine Pm Tryz.func25 λhfit=> ?_
 simp[Tryz.f25,StoreR.enc]
 refine AW.loopG (lit:=λ_=>false) (λx:Nat×Int=>⟨77,pat [(1,.ptr 0 0 0),(3,I x.2),(4,I x.1)],[.cells 0 [encL ChainR.enc cs,encL CountR.enc ns,I st]]⟩) (λx=>cs.length -x.1) (λx=>x.1<=cs.length/\0<=x.2/\x.2<=4194304/\(match fewC (cs.drop x.1) x.2 with|none=>false|some n=>decide (n<=200))=b) (0,(cs.length:Int)+ns.length) ?_ ?_ ?_
 ·exact Wk.at _ rfl (by simp) (by simp;exact hw0)
 ·exact⟨by simp,by simp only;omega,by simp only;omega,hb⟩
 rintro⟨i,n⟩ ⟨g1,g2,g3,g4⟩ A hA
 simp only at g1 g2 g3 g4 hA
 by_cases hi:i<cs.length
 case neg=>
  rw[List.drop_eq_nil_of_le (by omega),fewC] at g4
  simp only at g4
  subst g4
  have s_:=hi
  exact WW
 rw[List.drop_eq_getElem_cons hi,fewC] at g4
 by_cases hn:n<=200
 case neg=>
  rw[if_neg hn] at g4
  simp only at g4
  subst g4
  have s_:=An @hi (@hn)
  exact WW
 rw[if_pos hn] at g4
 have hwi:=Zh hi (by simp only[maxLen];omega)
 have hl3:=hl3 cs[i] (List.getElem_mem hi)
 have hl4:=hl4 cs[i] (List.getElem_mem hi)
 generalize hci:cs[i]=c at*
 have hw1:IntKind.i64.wrap (n+(c.l.length:Int))=n+c.l.length:=Zf (by omega) (by omega)
 have s_:=An @hi (An @hn (An @hci (An @hw1 (@ChainR.enc.eq_1))))
 try simp[s_]
 repeat' ((first|((first|refine Tp ?_|refine Tn ?_|refine T2 ?_ ?_)<;>intro h_ e_ n_)|rw[Ip]|rw[In]|rw[Fz]|rw[Gz]|fail)<;>first|simp[e_,n_,s_]|simp[s_]|skip)
 refine AW.loopG (lit:=λ_=>false) (λx:Nat×Int=>⟨77,pat [(1,.ptr 0 0 0),(3,I x.2),(4,I i),(5,I x.1)],[.cells 0 [encL ChainR.enc cs,encL CountR.enc ns,I st]]⟩) (λx=>c.l.length -x.1) (λx=>x.1<=c.l.length/\0<=x.2/\x.2<=4194304/\(match(match fewV (c.l.drop x.1) x.2 with|none=>none|some m=>fewC (cs.drop (i+1)) m) with|none=>false|some n=>decide (n<=200))=b) (0,n+c.l.length) ?_ ?_ ?_
 ·exact Wk.at _ rfl (by simp[hw1]) (by simp)
 ·exact⟨by simp,by simp only;omega,by simp only;omega,g4⟩
 rintro⟨j,m⟩ ⟨k1,k2,k3,k4⟩ A' hA'
 simp only at k1 k2 k3 k4 hA'
 by_cases hj:j<c.l.length
 case neg=>
  rw[List.drop_eq_nil_of_le (by omega),fewV] at k4
  simp only at k4
  have s_:=An @hi (An @hci (An @hj (An @hwi (@ChainR.enc.eq_1))))
  have q1_:=λs w=>hA (i+1,m) s w ⟨hi,k2,k3,k4⟩ (by simp only;omega)
  exact WW
 rw[List.drop_eq_getElem_cons hj,fewV] at k4
 by_cases hm:m<=200
 case neg=>
  rw[if_neg hm] at k4
  simp only at k4
  have s_:=An @hi (An @hci (An @hj (An @hm (An @hwi (@ChainR.enc.eq_1)))))
  have q1_:=λs w=>hA (i+1,m) s w ⟨hi,k2,k3,k4⟩ (by simp only;omega)
  exact WW
 rw[if_pos hm] at k4
 have hwj:=Zh hj (by simp only[maxLen];omega)
 have hl4:=hl4 c.l[j] (List.getElem_mem hj)
 generalize hcj:c.l[j]=v at*
 have hw2:IntKind.i64.wrap (m+(v.node.l.length:Int))=m+v.node.l.length:=Zf (by omega) (by omega)
 by_cases ht:4096<v.node.text.size
 ·rw[if_pos ht] at k4
  simp only at k4
  subst k4
  have s_:=An @hi (An @hci (An @hj (An @hcj (An @hm (An @hw2 (An @ht (An @ChainR.enc.eq_1 (An @VerR.enc.eq_1 (@NodeR.enc.eq_1)))))))))
  exact WW
 ·rw[if_neg ht] at k4
  have s_:=An @hi (An @hci (An @hj (An @hcj (An @hm (An @hw2 (An @hwj (An @ht (An @ChainR.enc.eq_1 (An @VerR.enc.eq_1 (@NodeR.enc.eq_1))))))))))
  try simp[s_]
  repeat' ((first|((first|refine Tp ?_|refine Tn ?_|refine T2 ?_ ?_)<;>intro h_ e_ n_)|(exact hA' (j+1,m+v.node.l.length) _ (Wk.at _ rfl (by simp[hw2]) (by simp)) ⟨hj,by simp only;omega,by simp only;omega,k4⟩ (by simp only;omega))|rw[Ip]|rw[In]|rw[Fz]|rw[Gz]|fail)<;>first|simp[e_,n_,s_]|simp[s_]|skip)
theorem Zkt {α:Type} {a b:List α} (hl:a.length=b.length) (h:∀(j:Nat) (ha:j<a.length) (hb:j<b.length),a[j]=b[j]):a=b:=List.ext_getElem hl λj ha hb=>h j ha hb
def _root_.Go.Cx.CountR.vals (c:CountR):List Value:=[.int .i64 c.stamp,.int .i64 c.next]
abbrev cntK:List TypeDesc:=[.int .i64,.int .i64]
theorem _root_.Go.Cx.CountR.kinds (c:CountR):ZbW cntK c.vals:= .cons rfl (.cons rfl .nil)
theorem _root_.Go.Cx.CountR.vals_eq (a b:CountR):a.vals=b.vals↔a=b:=by
 cases a;cases b;simp[CountR.vals]
@[simp] theorem cnt_neq {P:Program} {t:TypeId} (ox oy:Operand) (ht:Zik P t=some cntK) (hg:tagg P t=some true) (a b:CountR):abin P .neq t ox oy (.agg a.enc) (.agg b.enc)=some (.val (.bool (!decide (a=b)))):=by
 have:=(ZmF ht hg a.kinds b.kinds ox oy).2
 have e:decide (a.vals=b.vals)=decide (a=b):=by rw[decide_eq_decide];exact CountR.vals_eq a b
 rw[e] at this;exact this
theorem Zru (a b:StoreR):Zd Tryz.prog 18 [.agg a.enc,.agg b.enc] (B (decide (a=b))):=by
 by_cases q0:a.stamp=b.stamp
 case neg=>
  rw[decide_eq_false λh=>q0 (by rw[h])]
  refine Pm Tryz.func18 λhfit=> ?_
  have d1_:=D0 6 11 [] []
  have d2_:=D0 18 14 [] []
  have d3_:=D0 19 32 [] []
  simp[Tryz.f18]
  have s_:=An @q0 (@StoreR.enc.eq_1)
  exact WW
 by_cases q1:a.l.length=b.l.length
 case neg=>
  rw[decide_eq_false λh=>q1 (by rw[h])]
  have q1':¬(a.l.length:Int)=b.l.length:=by omega
  refine Pm Tryz.func18 λhfit=> ?_
  have d1_:=D0 6 11 [] []
  have d2_:=D0 18 14 [] []
  have d3_:=D0 19 32 [] []
  simp[Tryz.f18]
  have s_:=An @q0 (An @q1 (An @q1' (@StoreR.enc.eq_1)))
  exact WW
 by_cases q2:a.nexts.length=b.nexts.length
 case neg=>
  rw[decide_eq_false λh=>q2 (by rw[h])]
  have q2':¬(a.nexts.length:Int)=b.nexts.length:=by omega
  refine Pm Tryz.func18 λhfit=> ?_
  have d1_:=D0 6 11 [] []
  have d2_:=D0 18 14 [] []
  have d3_:=D0 19 32 [] []
  simp[Tryz.f18]
  have s_:=An @q0 (An @q1 (An @q2 (An @q2' (@StoreR.enc.eq_1))))
  exact WW
 obtain⟨r,hr⟩:∃r,decide (a=b)=r:=⟨_,rfl⟩
 rw[hr]
 obtain⟨al,an,ast⟩:=a
 obtain⟨bl,bn,bst⟩:=b
 simp only at q0 q1 q2
 subst q0
 have hbad1:an≠bn->r=false:=λh=>by rw[<-hr];exact decide_eq_false λe=>h (by cases e;rfl)
 have hbad2:al≠bl->r=false:=λh=>by rw[<-hr];exact decide_eq_false λe=>h (by cases e;rfl)
 have hgood:an=bn->al=bl->r=true:=λh1 h2=>by rw[<-hr,h1,h2];simp
 clear hr
 refine Pm Tryz.func18 λhfit=> ?_
 have d1_:=D0 6 11 [] []
 have d2_:=D0 18 14 [] []
 have d3_:=D0 19 32 [] []
 simp[StoreR.enc] at hfit
 have hl1:=hfit.1.1.1
 have hl2:=hfit.1.2.1
 have hfv:=hfit.1.1.2
 have hm1:=hl1
 have hm2:=hl2
 simp only[maxLen] at hm1 hm2
 simp[Tryz.f18,StoreR.enc]
 have s_:=An @q1 (@q2)
 try simp[s_]
 repeat' ((first|((first|refine Tp ?_|refine Tn ?_|refine T2 ?_ ?_)<;>intro h_ e_ n_)|refine Dg 6 11 [] [] ?_|refine Dg 18 14 [] [] ?_|refine Dg 19 32 [] [] ?_|rw[Ip]|rw[In]|rw[Fz]|rw[Gz]|fail)<;>first|simp[e_,n_,s_]|simp[s_]|skip)
 refine AW.loopG (lit:=λ_=>false) (λi:Nat=>⟨135,pat [(2,.ptr 0 0 0),(3,.ptr 1 0 0),(5,I i)],[.cells 0 [encL ChainR.enc al,encL CountR.enc an,I ast],.cells 0 [encL ChainR.enc bl,encL CountR.enc bn,I ast]]⟩) (λi=>an.length -i) (λi=>i<=an.length/\∀(j:Nat) (ha:j<an.length) (hb:j<bn.length),j<i->an[j]=bn[j]) 0 ?_ ?_ ?_
 ·exact Wa
 ·exact⟨by simp,λj h _ hj=>by omega⟩
 rintro i ⟨g1,g2⟩ A hA
 by_cases hi:i<an.length
 case pos=>
  have hi2:i<bn.length:=by omega
  have hwi:=Zh hi hl2
  by_cases q3:an[i]=bn[i]
  ·have hgo:∀(j:Nat) (ha:j<an.length) (hb:j<bn.length),j<i+1->an[j]=bn[j]:=λj ha hb hj=>by
    rcases Nat.lt_or_ge j i with g|g
    ·exact g2 j ha hb g
    ·have:j=i:=by omega
     subst this;exact q3
   have s_:=An @hi (An @hi2 (An @hwi (@q3)))
   have q1_:=λs w=>hA (i+1) s w ⟨hi,hgo⟩ (by omega)
   exact WW
  ·rw[hbad1 λe=>q3 (by subst e;rfl)]
   have s_:=An @hi (An @hi2 (@q3))
   exact WW
 have hnn:an=bn:=Zkt q2 λj ha hb=>g2 j ha hb (by omega)
 have hgood:=hgood hnn
 clear g2 hbad1
 have s_:=hi
 try simp[s_]
 repeat' ((first|((first|refine Tp ?_|refine Tn ?_|refine T2 ?_ ?_)<;>intro h_ e_ n_)|refine Dg 6 11 [] [] ?_|refine Dg 18 14 [] [] ?_|refine Dg 19 32 [] [] ?_|rw[Ip]|rw[In]|rw[Fz]|rw[Gz]|fail)<;>first|simp[e_,n_,s_]|simp[s_]|skip)
 clear hA g1 hi
 refine AW.loopG (lit:=λ_=>false) (λi:Nat=>⟨135,pat [(2,.ptr 0 0 0),(3,.ptr 1 0 0),(6,I i)],[.cells 0 [encL ChainR.enc al,encL CountR.enc an,I ast],.cells 0 [encL ChainR.enc bl,encL CountR.enc bn,I ast]]⟩) (λi=>al.length -i) (λi=>i<=al.length/\∀(j:Nat) (ha:j<al.length) (hb:j<bl.length),j<i->al[j]=bl[j]) 0 ?_ ?_ ?_
 ·exact Wa
 ·exact⟨by simp,λj h _ hj=>by omega⟩
 rintro i ⟨g1,g2⟩ A hA
 by_cases hi:i<al.length
 case neg=>
  rw[hgood (Zkt q1 λj ha hb=>g2 j ha hb (by omega))]
  have s_:=hi
  exact WW
 have hi2:i<bl.length:=by omega
 have hwi:=Zh hi hl1
 have hgo:al[i]=bl[i]->∀(j:Nat) (ha:j<al.length) (hb:j<bl.length),j<i+1->al[j]=bl[j]:=λq3 j ha hb hj=>by
  rcases Nat.lt_or_ge j i with g|g
  ·exact g2 j ha hb g
  ·have:j=i:=by omega
   subst this;exact q3
 have hbad:al[i]≠bl[i]->r=false:=λq=>hbad2 λe=>q (by subst e;rfl)
 have hlv:al[i].l.length<=maxLen:=by
  have:=hfv al[i] (List.getElem_mem hi) (encL VerR.enc al[i].l) (by simp[ChainR.enc])
  simp at this
  exact this.1
 clear g2 hbad2 hgood
 generalize hx:al[i]=x at*
 generalize hy:bl[i]=y at*
 by_cases q3:x.ino=y.ino
 case neg=>
  rw[hbad λe=>q3 (by rw[e])]
  have s_:=An @hi (An @hi2 (An @hx (An @hy (An @q3 (@ChainR.enc.eq_1)))))
  exact WW
 by_cases q4:x.l.length=y.l.length
 case neg=>
  have q4':¬(x.l.length:Int)=y.l.length:=by omega
  rw[hbad λe=>q4 (by rw[e])]
  have s_:=An @hi (An @hi2 (An @hx (An @hy (An @q3 (An @q4 (An @q4' (@ChainR.enc.eq_1)))))))
  exact WW
 have s_:=An @hi (An @hi2 (An @hx (An @hy (An @q3 (An @q4 (@ChainR.enc.eq_1))))))
 try simp[s_]
 repeat' ((first|((first|refine Tp ?_|refine Tn ?_|refine T2 ?_ ?_)<;>intro h_ e_ n_)|refine Dg 6 11 [] [] ?_|refine Dg 18 14 [] [] ?_|refine Dg 19 32 [] [] ?_|rw[Ip]|rw[In]|rw[Fz]|rw[Gz]|fail)<;>first|simp[e_,n_,s_]|simp[s_]|skip)
 refine AW.loopG (lit:=λ_=>false) (λj:Nat=>⟨135,pat [(2,.ptr 0 0 0),(3,.ptr 1 0 0),(6,I i),(7,.ptr 2 0 0),(8,.ptr 3 0 0),(9,I j)],[.cells 0 [encL ChainR.enc al,encL CountR.enc an,I ast],.cells 0 [encL ChainR.enc bl,encL CountR.enc bn,I ast],.cells 0 [I x.ino,encL VerR.enc x.l],.cells 0 [I y.ino,encL VerR.enc y.l]]⟩) (λj=>x.l.length -j) (λj=>j<=x.l.length/\∀(k:Nat) (ha:k<x.l.length) (hb:k<y.l.length),k<j->x.l[k]=y.l[k]) 0 ?_ ?_ ?_
 ·exact Wk.at _ rfl (by simp[q3,q4]) (by simp)
 ·exact⟨by simp,λj h _ hj=>by omega⟩
 rintro j ⟨k1,k2⟩ A' hA'
 by_cases hj:j<x.l.length
 case neg=>
  have hl:x.l=y.l:=Zkt q4 λk ha hb=>k2 k ha hb (by omega)
  have hxy:x=y:=by cases x;cases y;simp only at q3 hl;rw[q3,hl]
  have hgo:=hgo hxy
  have s_:=An @hi (An @hj (@hwi))
  have q1_:=λs w=>hA (i+1) s w ⟨hi,hgo⟩ (by omega)
  exact WW
 have hj2:j<y.l.length:=by omega
 have hwj:=Zh hj hlv
 have hgo':x.l[j]=y.l[j]->∀(k:Nat) (ha:k<x.l.length) (hb:k<y.l.length),k<j+1->x.l[k]=y.l[k]:=λq3 k ha hb hk=>by
  rcases Nat.lt_or_ge k j with g|g
  ·exact k2 k ha hb g
  ·have:k=j:=by omega
   subst this;exact q3
 have hbad':x.l[j]≠y.l[j]->r=false:=λq=>hbad λe=>q (by subst e;rfl)
 clear k2 hbad hgo
 generalize hv:x.l[j]=v at*
 generalize hw:y.l[j]=w at*
 have hN:=rnsame_ok v.node w.node
 by_cases q5:v.node=w.node
 case neg=>
  rw[hbad' λe=>q5 (by rw[e])]
  rw[decide_eq_false q5] at hN
  have s_:=An @hj (An @hj2 (An @hv (An @hw (An @VerR.enc.eq_1 (@NodeR.enc.eq_1)))))
  have p1_:=hN
  exact WW
 rw[decide_eq_true q5] at hN
 by_cases q6:v.stamp=w.stamp
 case neg=>
  rw[hbad' λe=>q6 (by rw[e])]
  have s_:=An @hj (An @hj2 (An @hv (An @hw (An @q6 (An @VerR.enc.eq_1 (@NodeR.enc.eq_1))))))
  have p1_:=hN
  exact WW
 by_cases q7:v.gone=w.gone
 case neg=>
  rw[hbad' λe=>q7 (by rw[e])]
  have s_:=An @hj (An @hj2 (An @hv (An @hw (An @q6 (An @q7 (An @VerR.enc.eq_1 (@NodeR.enc.eq_1)))))))
  have p1_:=hN
  exact WW
 have hgo':=hgo' (by cases v;cases w;simp only at q5 q6 q7;rw[q5,q6,q7])
 have s_:=An @hj (An @hj2 (An @hv (An @hw (An @q6 (An @q7 (An @hwj (An @VerR.enc.eq_1 (@NodeR.enc.eq_1))))))))
 try simp[s_]
 repeat' ((first|((first|refine Tp ?_|refine Tn ?_|refine T2 ?_ ?_)<;>intro h_ e_ n_)|(exact hA' (j+1) _ Wa ⟨hj,hgo'⟩ (by omega))|refine Pg hN ?_|refine Dg 6 11 [] [] ?_|refine Dg 18 14 [] [] ?_|refine Dg 19 32 [] [] ?_|rw[Ip]|rw[In]|rw[Fz]|rw[Gz]|fail)<;>first|simp[e_,n_,s_]|simp[s_]|skip)
theorem ZwY (l:List Int) (g:FuncId) (p:Int->Bool) (hp:∀x∈l,Zd Tryz.prog g [I x] (B (p x))) (hl:l.length<=1000000):Zd Tryz.prog 196 [enc1 I l,.fn g []] (I (idxS p l)):=by
 refine Pm Tryz.func196 λhfit=> ?_
 simp at hfit
 simp[Tryz.f196]
 refine AW.loopG (lit:=λ_=>false) (λi:Nat=>⟨19,pat [(0,enc1 I l),(1,.fn g []),(7,I l.length),(8,I i)],[]⟩) (λi=>l.length -i) (λi=>i<=l.length/\ZaM p i (l.drop i)=idxS p l) 0 ?_ ?_ ?_
 ·exact Wk.at _ rfl rfl (by simp)
 ·simp[idxS]
 rintro i ⟨h1,h2⟩ A hA
 by_cases hi:i<l.length
 case neg=>
  rw[ZbX hi] at h2
  have s_:=An @hi (Eq.symm (h2))
  exact WW
 rw[ZcG hi] at h2
 have hw:=Zh hi (by simp only[maxLen];omega)
 have hpi:=hp l[i] (List.getElem_mem hi)
 cases hpp:p l[i] with
 |true=>
  rw[hpp] at hpi
  simp only[hpp,if_true] at h2
  have s_:=An @hi (An (Eq.symm (h2)) (@hpp))
  have p1_:=hpi
  exact WW
 |false=>
  rw[hpp] at hpi
  simp only[hpp,Bool.false_eq_true,if_false] at h2
  have s_:=An @hi (An @hw (@hpp))
  have q1_:=λs w=>hA (i+1) s w ⟨by omega,h2⟩ (by omega)
  have p1_:=hpi
  exact WW
theorem delI_ok (V:Nat) (l:List Int) (g:FuncId) (p:Int->Bool) (hp:∀x∈l,Zd Tryz.prog g [I x] (B (p x))) (hl:l.length<=1000000):XCall Tryz.prog 234 [.own 0 V 0 l.length 1,.fn g []] [.cells V (l.map I)] (.own 0 V 0 (l.filter λx=> !p x).length 1) [.cells V ((l.filter λx=> !p x).map I)]:=by
 refine XCall.mkG (λs (_:Unit)=>s) (λ_=>false) Tryz.func234 rfl rfl rfl (Ent.mk Tryz.func234 (by kernel_rfl) rfl) (by simp) (by simp) (by simp) (by simp) (by simp) λhfit=> ?_
 refine⟨WkE.one _ _,λ_=> ?_⟩
 have hix:=ZwY l g p hp hl
 by_cases h0:idxS p l= -1
 ·obtain⟨e1,_⟩:=Zdp h0
  simp[Tryz.f234]
  have s_:=h0
  try simp[s_]
  repeat' ((first|((first|refine Tp ?_|refine Tn ?_|refine T2 ?_ ?_)<;>intro h_ e_ n_)|refine Lg hix ?_|rw[Ip]|rw[In]|rw[Fz]|rw[Gz]|fail)<;>first|simp[e_,n_,s_]|simp[s_]|skip)
  exact⟨_,Wk.refl _ _,by simp[e1]⟩
 obtain⟨j0,hj0,e1,e2,e3⟩:=Zdq h0
 have hw0:IntKind.i64.wrap ((j0:Int)+1)=(j0:Int)+1:=Zf (by omega) (by omega)
 have hn0:¬((j0:Int)= -1):=by omega
 rw[e1] at hix
 simp[Tryz.f234]
 have s_:=An @e1 (An @hw0 (@hn0))
 try simp[s_]
 repeat' ((first|((first|refine Tp ?_|refine Tn ?_|refine T2 ?_ ?_)<;>intro h_ e_ n_)|refine Lg hix ?_|rw[Ip]|rw[In]|rw[Fz]|rw[Gz]|fail)<;>first|simp[e_,n_,s_]|simp[s_]|skip)
 refine AW.loopG (lit:=λ_=>false) (λx:Nat×Nat×List Int=>⟨42,pat [(0,.own 0 V 0 l.length 1),(1,.fn g []),(5,I x.1),(6,I x.2.1)],[.cells V (x.2.2.map I)]⟩) (λx=>l.length -x.2.1) (λx=>Zem p l x.2.2 x.1 x.2.1) (j0,j0+1,l) ?_ ?_ ?_
 ·exact Wk.at _ rfl (by simp[e1,hw0]) (by simp)
 ·exact .start hj0 e2 e3
 rintro⟨i,j,m⟩ hd A hA
 simp only at hd hA
 have hml:=hd.len
 by_cases hj:j<l.length
 case neg=>
  obtain⟨d1,d2,d3⟩:=hd.done hj
  have s_:=An @hj (@hml)
  try simp[s_]
  repeat' ((first|((first|refine Tp ?_|refine Tn ?_|refine T2 ?_ ?_)<;>intro h_ e_ n_)|rw[Ip]|rw[In]|rw[Fz]|rw[Gz]|fail)<;>first|simp[e_,n_,s_]|simp[s_]|skip)
  exact⟨_,Wk.prefix 0 V i rfl rfl,by simp[d2],by
   have:(putAt (m.map I) i (List.replicate (l.length -i) (I 0))).take i=(m.take i).map I:=by
    rw[List.map_take]
    unfold putAt
    rw[List.append_assoc,List.take_left' (by simp;omega)]
   rw[d1] at this
   simpa using this⟩
 have hmj:=hd.get hj
 have hx:=hp l[j] (List.getElem_mem hj)
 have hw:IntKind.i64.wrap ((j:Int)+1)=((j+1:Nat):Int):=by rw[Zf (by omega) (by omega)];omega
 have hi:=hd.lt
 have hwi:IntKind.i64.wrap ((i:Int)+1)=((i+1:Nat):Int):=by rw[Zf (by omega) (by omega)];omega
 cases hpp:p l[j] with
 |true=>
  rw[hpp] at hx
  have s_:=An @hj (An @hml (An @hw (@hmj)))
  have q1_:=λs w=>hA (i,j+1,m) s w (hd.skip hj hpp) (by simp only;omega)
  have p1_:=hx
  exact WW
 |false=>
  rw[hpp] at hx
  have him:i<m.length:=by omega
  have hil:i<l.length:=by omega
  have s_:=An @hj (An @hml (An @hw (An @hwi (An @hmj (An @him (@hil))))))
  try simp[s_]
  repeat' ((first|((first|refine Tp ?_|refine Tn ?_|refine T2 ?_ ?_)<;>intro h_ e_ n_)|(exact hA (i+1,j+1,m.set i l[j]) _ (Wk.cutAt _ rfl (by simp) (by simp) (by simp[-List.map_set]) (by simp)) (hd.keep hj hpp) (by simp only;omega))|refine Pg hx ?_|rw[Ip]|rw[In]|rw[Fz]|rw[Gz]|fail)<;>first|simp[e_,n_,s_]|simp[s_]|skip)
theorem ZwZ (m:Nat) (hm:m<=5000000):XCall Tryz.prog 227 [.sl true 0 [],I m] [] (.own 0 0 0 0 1) [.cells 0 []]:=by
 have hw:IntKind.i64.wrap (m:Int)=m:=Zf (by omega) (by omega)
 by_cases h0:m=0
 ·subst h0
  refine XCall.mkG (λs (_:Unit)=>s) (λ_=>false) Tryz.func227 rfl rfl rfl (Ent.mk Tryz.func227 (by kernel_rfl) rfl) (by simp) (by simp) (by simp) (by simp) (by simp) λhfit=> ?_
  refine⟨WkE.one _ _,λ_=> ?_⟩
  have s_:=An (@Tryz.f227.eq_1) (@hw)
  try simp[s_]
  repeat' ((first|((first|refine Tp ?_|refine Tn ?_|refine T2 ?_ ?_)<;>intro h_ e_ n_)|rw[Ip]|rw[In]|rw[Fz]|rw[Gz]|fail)<;>first|simp[e_,n_,s_]|simp[s_]|skip)
  exact⟨_,Wk.ownNil 4 1 (by simp),by simp⟩
 ·refine XCall.mkG (λs (_:Unit)=>s) (λ_=>false) Tryz.func227 rfl rfl rfl (Ent.mk Tryz.func227 (by kernel_rfl) rfl) (by simp) (by simp) (by simp) (by simp) (by simp) λhfit=> ?_
  refine⟨WkE.one _ _,λ_=> ?_⟩
  have h1:0<m:=by omega
  have hx:m<=maxLen:=by simp only[maxLen];omega
  have s_:=An (@Tryz.f227.eq_1) (An @hw (An @h0 (An @h1 (@hx))))
  try simp[s_]
  repeat' ((first|((first|refine Tp ?_|refine Tn ?_|refine T2 ?_ ?_)<;>intro h_ e_ n_)|rw[Ip]|rw[In]|rw[Fz]|rw[Gz]|fail)<;>first|simp[e_,n_,s_]|simp[s_]|skip)
  exact⟨_,Wk.prefix 0 0 0 rfl rfl,by simp⟩
def looksV (f:FSR) (c:Zi):Nat:=if c.kind=15 then 0 else(ZaO f c).length -2
theorem Zux (f:FSR) (c:Zi) (h:Zg f):XCall Tryz.prog 235 [encF f,encC c] [] (.own 2 (looksV f c) 0 (looksS f c).length 1) [.cells 0 f.enc,.cells 0 c.enc,.cells (looksV f c) ((looksS f c).map I)]:=by
 by_cases k:c.kind=15
 ·have h1:=ZfZ 0 [0] (by decide)
  have e:numsS [0]=[0]:=rfl
  rw[e] at h1
  have e2:looksS f c=[0]:=by unfold looksS;rw[if_pos k]
  have ev:looksV f c=0:=by unfold looksV;rw[if_pos k]
  rw[e2,ev]
  refine XCall.mk' (λt=>t==56) Tryz.func235 rfl rfl rfl (Ent.mk Tryz.func235 (by kernel_rfl) rfl) (by simp) (by simp) (by simp) (by simp) (by simp) λhfit=> ?_
  simp[Tryz.f235,k]
  refine AInv.heap [2] h1 (by simp) (by simp) ?_
  simp
 have ev:looksV f c=(ZaO f c).length -2:=by unfold looksV;rw[if_neg k]
 rw[ZwL f c k,ev]
 have hlen:=h.len
 have htot:=Zrk f c
 refine XCall.mk' (λt=>t==56) Tryz.func235 rfl rfl rfl (Ent.mk Tryz.func235 (by kernel_rfl) rfl) (by simp) (by simp) (by simp) (by simp) (by simp) λhfit=> ?_
 simp[Tryz.f235,k]
 refine AW.loopG (lit:=λt=>t==56) (λx:Nat×List Int×Nat=>⟨66,pat [(2,.ptr 0 0 0),(3,.ptr 1 0 0),(5,.own 2 x.2.2 0 x.2.1.length 1),(28,.own 3 0 0 2 1),(29,I 2),(30,I x.1)],[.cells 0 f.enc,.cells 0 c.enc,.cells x.2.2 (x.2.1.map I),.cells 0 [I c.ino,I c.to_]]⟩) (λx=>2 -x.1)
  (λx=>x.1<=2/\x.2.1++([c.ino,c.to_].drop x.1).flatMap (Zcr f c)=ZaO f c/\x.2.2+2=x.2.1.length) (0,[c.ino,c.to_],0) ?_ ?_ ?_
 ·exact Wa
 ·exact⟨by simp,by simp[ZaO],by simp⟩
 rintro⟨i,acc,ver⟩ ⟨g1,g2,g4⟩ A hA
 simp only at g1 g2 g4 hA
 by_cases hi:i<2
 case neg=>
  have:i=2:=by omega
  subst this
  simp only[List.drop_succ_cons,List.drop_nil,List.flatMap_nil,List.append_nil,List.drop_zero] at g2
  rw[<-g2] at htot
  have h1:=ZfZ ver acc (by omega)
  have ev2:ver=(ZaO f c).length -2:=by rw[<-g2];omega
  rw[g2] at h1
  rw[ev2] at h1⊢
  subst g2
  clear ev2 ev
  simp
  refine AInv.heap [2] h1 (by simp) (by simp) ?_
  simp
 have hi2:i=0\/i=1:=by omega
 rcases hi2 with rfl|rfl
 ·have g3:acc++[c.name,c.name2].flatMap (ZX f c.ino)++Zcr f c c.to_=ZaO f c:=by simpa[Zcr] using g2
  have hrow:=h.row c.ino
  have h1:=find_ok f c.ino (by omega)
  have hN:∀s,Zd Tryz.prog 263 [encL EntryR.enc (findB f.l c.ino).1.l,S s] (.tup [I (findE (findB f.l c.ino).1.l s).1,B (findE (findB f.l c.ino).1.l s).2]):=λs=>ZgG (findB f.l c.ino).1.l s hrow.rise (by have:=hrow.len;omega)
  try simp
  repeat' ((first|((first|refine Tp ?_|refine Tn ?_|refine T2 ?_ ?_)<;>intro h_ e_ n_)|refine Pg h1 ?_|rw[Ip]|rw[In]|rw[Fz]|rw[Gz]|fail)<;>first|simp[e_,n_]|simp|skip)
  refine AW.loopG (lit:=λt=>t==56) (λx:Nat×List Int×Nat=>⟨66,pat [(2,.ptr 0 0 0),(3,.ptr 1 0 0),(5,.own 2 x.2.2 0 x.2.1.length 1),(8,.ptr 4 0 0),(28,.own 3 0 0 2 1),(29,I 2),(30,I 0),(44,.sl true 2 [S c.name,S c.name2]),(45,I 2),(46,I x.1)],[.cells 0 f.enc,.cells 0 c.enc,.cells x.2.2 (x.2.1.map I),.cells 0 [I c.ino,I c.to_],.cells 0 (findB f.l c.ino).1.enc]⟩) (λx=>2 -x.1)
   (λx=>x.1<=2/\x.2.1++([c.name,c.name2].drop x.1).flatMap (ZX f c.ino)++Zcr f c c.to_=ZaO f c/\x.2.2+2=x.2.1.length) (0,acc,ver) ?_ ?_ ?_
  ·exact Wa
  ·exact⟨by simp,by simpa using g3,g4⟩
  rintro⟨j,acc2,ver2⟩ ⟨k1,k2,k4⟩ A2 hA2
  simp only at k1 k2 k4 hA2
  by_cases hj:j<2
  case neg=>
   have:j=2:=by omega
   subst this
   have k3:acc2++([c.ino,c.to_].drop (0+1)).flatMap (Zcr f c)=ZaO f c:=by simpa using k2
   have q1_:=λs w=>hA (0+1,acc2,ver2) s w ⟨by simp,k3,k4⟩ (by simp)
   exact WW
  have ha2:acc2.length<=6:=by
   rw[<-k2] at htot
   simp only[List.length_append] at htot
   omega
  have hm:acc2.length+1<=maxLen:=by simp only[maxLen];omega
  have hj2:j=0\/j=1:=by omega
  rcases hj2 with rfl|rfl
  ·have q:=hN c.name
   simp only[List.drop_zero,List.drop_succ_cons,List.flatMap_cons,List.flatMap_nil,List.append_nil] at k2
   cases hf:(findE (findB f.l c.ino).1.l c.name).2 with
   |false=>
    rw[hf] at q
    have k3:acc2++([c.name,c.name2].drop (0+1)).flatMap (ZX f c.ino)++Zcr f c c.to_=ZaO f c:=by
     have e:ZX f c.ino c.name=[]:=by simp[ZX,hf]
     rw[e] at k2
     simpa using k2
    have s_:=hm
    have q1_:=λs w=>hA2 (0+1,acc2,ver2) s w ⟨by simp,k3,k4⟩ (by simp)
    have p1_:=q
    exact WW
   |true=>
    rw[hf] at q
    have k3:(acc2++[(findE (findB f.l c.ino).1.l c.name).1])++([c.name,c.name2].drop (0+1)).flatMap (ZX f c.ino)++Zcr f c c.to_=ZaO f c:=by
     have e:ZX f c.ino c.name=[(findE (findB f.l c.ino).1.l c.name).1]:=by simp[ZX,hf]
     rw[e] at k2
     simpa using k2
    generalize(findE (findB f.l c.ino).1.l c.name).1=v at*
    have s_:=An @hm ((show acc2.length+1<=17592186044416 by omega))
    have q1_:=λs w=>hA2 (0+1,acc2++[v],ver2+1) s w ⟨by simp,k3,by simp only[List.length_append,List.length_cons,List.length_nil];omega⟩ (by simp)
    have p1_:=q
    exact WW
  ·have q:=hN c.name2
   simp only[List.drop_zero,List.drop_succ_cons,List.flatMap_cons,List.flatMap_nil,List.append_nil] at k2
   cases hf:(findE (findB f.l c.ino).1.l c.name2).2 with
   |false=>
    rw[hf] at q
    have k3:acc2++([c.name,c.name2].drop (1+1)).flatMap (ZX f c.ino)++Zcr f c c.to_=ZaO f c:=by
     have e:ZX f c.ino c.name2=[]:=by simp[ZX,hf]
     rw[e] at k2
     simpa using k2
    have s_:=hm
    have q1_:=λs w=>hA2 (1+1,acc2,ver2) s w ⟨by simp,k3,k4⟩ (by simp)
    have p1_:=q
    exact WW
   |true=>
    rw[hf] at q
    have k3:(acc2++[(findE (findB f.l c.ino).1.l c.name2).1])++([c.name,c.name2].drop (1+1)).flatMap (ZX f c.ino)++Zcr f c c.to_=ZaO f c:=by
     have e:ZX f c.ino c.name2=[(findE (findB f.l c.ino).1.l c.name2).1]:=by simp[ZX,hf]
     rw[e] at k2
     simpa using k2
    generalize(findE (findB f.l c.ino).1.l c.name2).1=v at*
    have s_:=An @hm ((show acc2.length+1<=17592186044416 by omega))
    have q1_:=λs w=>hA2 (1+1,acc2++[v],ver2+1) s w ⟨by simp,k3,by simp only[List.length_append,List.length_cons,List.length_nil];omega⟩ (by simp)
    have p1_:=q
    exact WW
 ·have g3:acc++[c.name,c.name2].flatMap (ZX f c.to_)=ZaO f c:=by simpa[Zcr] using g2
  have hrow:=h.row c.to_
  have h1:=find_ok f c.to_ (by omega)
  have hN:∀s,Zd Tryz.prog 263 [encL EntryR.enc (findB f.l c.to_).1.l,S s] (.tup [I (findE (findB f.l c.to_).1.l s).1,B (findE (findB f.l c.to_).1.l s).2]):=λs=>ZgG (findB f.l c.to_).1.l s hrow.rise (by have:=hrow.len;omega)
  try simp
  repeat' ((first|((first|refine Tp ?_|refine Tn ?_|refine T2 ?_ ?_)<;>intro h_ e_ n_)|refine Pg h1 ?_|rw[Ip]|rw[In]|rw[Fz]|rw[Gz]|fail)<;>first|simp[e_,n_]|simp|skip)
  refine AW.loopG (lit:=λt=>t==56) (λx:Nat×List Int×Nat=>⟨66,pat [(2,.ptr 0 0 0),(3,.ptr 1 0 0),(5,.own 2 x.2.2 0 x.2.1.length 1),(8,.ptr 4 0 0),(28,.own 3 0 0 2 1),(29,I 2),(30,I 1),(44,.sl true 2 [S c.name,S c.name2]),(45,I 2),(46,I x.1)],[.cells 0 f.enc,.cells 0 c.enc,.cells x.2.2 (x.2.1.map I),.cells 0 [I c.ino,I c.to_],.cells 0 (findB f.l c.to_).1.enc]⟩) (λx=>2 -x.1)
   (λx=>x.1<=2/\x.2.1++([c.name,c.name2].drop x.1).flatMap (ZX f c.to_)=ZaO f c/\x.2.2+2=x.2.1.length) (0,acc,ver) ?_ ?_ ?_
  ·exact Wa
  ·exact⟨by simp,by simpa using g3,g4⟩
  rintro⟨j,acc2,ver2⟩ ⟨k1,k2,k4⟩ A2 hA2
  simp only at k1 k2 k4 hA2
  by_cases hj:j<2
  case neg=>
   have:j=2:=by omega
   subst this
   have k3:acc2++([c.ino,c.to_].drop (1+1)).flatMap (Zcr f c)=ZaO f c:=by simpa using k2
   have q1_:=λs w=>hA (1+1,acc2,ver2) s w ⟨by simp,k3,k4⟩ (by simp)
   exact WW
  have ha2:acc2.length<=6:=by
   rw[<-k2] at htot
   simp only[List.length_append] at htot
   omega
  have hm:acc2.length+1<=maxLen:=by simp only[maxLen];omega
  have hj2:j=0\/j=1:=by omega
  rcases hj2 with rfl|rfl
  ·have q:=hN c.name
   simp only[List.drop_zero,List.drop_succ_cons,List.flatMap_cons,List.flatMap_nil,List.append_nil] at k2
   cases hf:(findE (findB f.l c.to_).1.l c.name).2 with
   |false=>
    rw[hf] at q
    have k3:acc2++([c.name,c.name2].drop (0+1)).flatMap (ZX f c.to_)=ZaO f c:=by
     have e:ZX f c.to_ c.name=[]:=by simp[ZX,hf]
     rw[e] at k2
     simpa using k2
    have s_:=hm
    have q1_:=λs w=>hA2 (0+1,acc2,ver2) s w ⟨by simp,k3,k4⟩ (by simp)
    have p1_:=q
    exact WW
   |true=>
    rw[hf] at q
    have k3:(acc2++[(findE (findB f.l c.to_).1.l c.name).1])++([c.name,c.name2].drop (0+1)).flatMap (ZX f c.to_)=ZaO f c:=by
     have e:ZX f c.to_ c.name=[(findE (findB f.l c.to_).1.l c.name).1]:=by simp[ZX,hf]
     rw[e] at k2
     simpa using k2
    generalize(findE (findB f.l c.to_).1.l c.name).1=v at*
    have s_:=An @hm ((show acc2.length+1<=17592186044416 by omega))
    have q1_:=λs w=>hA2 (0+1,acc2++[v],ver2+1) s w ⟨by simp,k3,by simp only[List.length_append,List.length_cons,List.length_nil];omega⟩ (by simp)
    have p1_:=q
    exact WW
  ·have q:=hN c.name2
   simp only[List.drop_zero,List.drop_succ_cons,List.flatMap_cons,List.flatMap_nil,List.append_nil] at k2
   cases hf:(findE (findB f.l c.to_).1.l c.name2).2 with
   |false=>
    rw[hf] at q
    have k3:acc2++([c.name,c.name2].drop (1+1)).flatMap (ZX f c.to_)=ZaO f c:=by
     have e:ZX f c.to_ c.name2=[]:=by simp[ZX,hf]
     rw[e] at k2
     simpa using k2
    have s_:=hm
    have q1_:=λs w=>hA2 (1+1,acc2,ver2) s w ⟨by simp,k3,k4⟩ (by simp)
    have p1_:=q
    exact WW
   |true=>
    rw[hf] at q
    have k3:(acc2++[(findE (findB f.l c.to_).1.l c.name2).1])++([c.name,c.name2].drop (1+1)).flatMap (ZX f c.to_)=ZaO f c:=by
     have e:ZX f c.to_ c.name2=[(findE (findB f.l c.to_).1.l c.name2).1]:=by simp[ZX,hf]
     rw[e] at k2
     simpa using k2
    generalize(findE (findB f.l c.to_).1.l c.name2).1=v at*
    have s_:=An @hm ((show acc2.length+1<=17592186044416 by omega))
    have q1_:=λs w=>hA2 (1+1,acc2++[v],ver2+1) s w ⟨by simp,k3,by simp only[List.length_append,List.length_cons,List.length_nil];omega⟩ (by simp)
    have p1_:=q
    exact WW
theorem ZrC (a b:List Int) (t:Bool) (ha:a.length<=2000000) (hb:b.length<=2000000):XCall Tryz.prog 197 [.sl t 2 [enc1 I a,enc1 I b]] [] (.own 0 2 0 (a++b).length 1) [.cells 2 ((a++b).map I)]:=by
 have hg:=ZwZ (a.length+b.length) (by omega)
 have hw1:IntKind.i64.wrap (a.length:Int)=a.length:=Zf (by omega) (by omega)
 have hw2:IntKind.i64.wrap ((a.length:Int)+b.length)=((a.length+b.length:Nat):Int):=by rw[Zf (by omega) (by omega)];omega
 refine XCall.mk' (λ_=>false) Tryz.func197 rfl rfl rfl (Ent.mk Tryz.func197 (by kernel_rfl) rfl) (by simp) (by simp) (by simp) (by simp) (by simp) λhfit=> ?_
 simp[Tryz.f197]
 refine AW.loopG (lit:=λ_=>false) (λi:Nat=>⟨36,pat [(0,.sl t 2 [enc1 I a,enc1 I b]),(3,I (if i=0 then 0 else if i=1 then a.length else a.length+b.length:Nat)),(9,.sl t 2 [enc1 I a,enc1 I b]),(10,I 2),(11,I i)],[]⟩) (λi=>2 -i) (λi=>i<=2) 0 ?_ ?_ ?_
 ·exact Wa
 ·simp
 rintro i g1 A hA
 have hi:i=0\/i=1\/i=2:=by omega
 rcases hi with rfl|rfl|rfl
 ·have s_:=hw1
  have q1_:=λs w=>hA 1 s w (by simp) (by simp)
  exact WW
 ·have s_:=hw2
  have q1_:=λs w=>hA 2 s w (by simp) (by simp)
  exact WW
 ·try simp
  repeat' ((first|((first|refine Tp ?_|refine Tn ?_|refine T2 ?_ ?_)<;>intro h_ e_ n_)|(refine AInv.fresh [] hg (by simp) (by simp) ?_;simp)|rw[Ip]|rw[In]|rw[Fz]|rw[Gz]|fail)<;>first|simp[e_,n_]|simp|skip)
  refine AW.loopG (lit:=λ_=>false) (λx:Nat×List Int=>⟨36,pat [(6,.own 0 x.1 0 x.2.length 1),(25,.sl t 2 [enc1 I a,enc1 I b]),(26,I 2),(27,I x.1)],[.cells x.1 (x.2.map I)]⟩) (λx=>2 -x.1) (λx=>x.1<=2/\x.2=if x.1=0 then[] else if x.1=1 then a else a++b) (0,[]) ?_ ?_ ?_
  ·exact Wa
  ·simp
  rintro⟨j,acc⟩ ⟨k1,k2⟩ A2 hA2
  simp only at k1 k2 hA2
  have hj:j=0\/j=1\/j=2:=by omega
  rcases hj with rfl|rfl|rfl
  ·have k2:acc=[]:=k2
   subst k2
   have hx:a.length<=maxLen:=by simp only[maxLen];omega
   have s_:=hx
   have q1_:=λs w=>hA2 (1,a) s w ⟨by simp,by simp⟩ (by simp)
   exact WW
  ·have k2:acc=a:=k2
   subst k2
   have hx:acc.length+b.length<=maxLen:=by simp only[maxLen];omega
   have s_:=hx
   have q1_:=λs w=>hA2 (2,acc++b) s w ⟨by simp,by simp⟩ (by simp)
   exact WW
  ·have k2:acc=a++b:=k2
   subst k2
   exact WW
theorem Zob {h:Za} {f ver m:Nat} {a b:List AV} (ha:a.all neat=true) (hl:a.length=m):Zgi h (f+1) ver 0 m 1 (some (.cells ver (a++b)))=some (.sl false m a):=by
 simp only[Zgi,true_and,Nat.zero_add,Nat.zero_mul,List.drop_zero,Nat.mul_one]
 rw[if_pos (by simp;omega)]
 split
 ·rename_i h0
  have:a=[]:=List.eq_nil_of_length_eq_zero (by omega)
  rw[this,h0]
 ·rw[List.take_left' hl,ZbA ha];rfl
theorem Zmp (a b:List Int) (ha:a.length<=2000000) (hb:b.length<=2000000):Zd Tryz.prog 161 [enc1 I a,enc1 I b] (enc1 I (numsS (a++b))):=by
 have h0:=ZrC a b true ha hb
 have h1:=Zpn 2 (a++b) (by rw[List.length_append];omega)
 have hsl:(sortI (a++b)).length=(a++b).length:=List.length_mergeSort _
 have h2:=ZhZ 2 (sortI (a++b)) (by rw[hsl,List.length_append];omega)
 rw[show Lib.compact (sortI (a++b))=numsS (a++b) from Zdw (a++b),hsl] at h2
 generalize sortI (a++b)=z at*
 have hq:=Zfo (a++b)
 generalize numsS (a++b)=q at*
 generalize a++b=l at*
 refine Pm Tryz.func161 λhfit=> ?_
 simp[Tryz.f161]
 refine AInv.fresh [] h0 (by simp) (by simp) ?_
 simp
 refine AInv.heap [0] h1 (by simp) (by simp) ?_
 simp
 refine AInv.heap [0] h2 (by simp) (by simp) ?_
 simp
 rw[Zob (by simp) (by simp)]
 simp[Function.comp_def]
theorem less_ok (a b:Int):Zd Tryz.prog 255 [I a,I b] (B (decide (a<b))):=by
 have hn:∀x,Zd Tryz.prog 160 [I x] (B false):=λx=>by
  refine Pm Tryz.func160 λhfit=> ?_
  simp[Tryz.f160]
 refine Pm Tryz.func255 λhfit=> ?_
 simp[Tryz.f255]
 have p1_:=hn a
 have p2_:=hn b
 exact WW
theorem nan_ok (x:Int):Zd Tryz.prog 297 [I x] (B false):=by
 refine Pm Tryz.func297 λhfit=> ?_
 simp[Tryz.f297]
abbrev atI (l:List Int) (i:Nat):Int:=l.getD i 0
theorem bsI_ok (l:List Int) (k:Int) (hl:l.length<=1000000):Zd Tryz.prog 240 [enc1 I l,I k] (.tup [I (bsGo (atI l) k 0 l.length),B (decide (bsGo (atI l) k 0 l.length<l.length)&&decide (atI l (bsGo (atI l) k 0 l.length)=k))]):=by
 refine Pm Tryz.func240 λhfit=> ?_
 simp at hfit
 simp[Tryz.f240]
 refine AW.loopG (lit:=λ_=>false) (λx:Nat×Nat=>⟨54,pat [(0,enc1 I l),(1,I k),(6,I l.length),(7,I x.1),(8,I x.2)],[]⟩) (λx=>x.2 -x.1) (λx=>x.1<=x.2/\x.2<=l.length/\bsGo (atI l) k x.1 x.2=bsGo (atI l) k 0 l.length) (0,l.length) ?_ ?_ ?_
 ·exact Wk.at _ rfl rfl (by simp)
 ·simp
 rintro⟨i,j⟩ ⟨h1,h2,h3⟩ A hA
 simp only at h1 h2 h3
 have hat:∀m (h:m<l.length),atI l m=l[m]:=λm h=>by simp[atI,List.getD_eq_getElem?_getD,h]
 by_cases h:i<j
 case neg=>
  have hij:i=j:=by omega
  subst hij
  rw[Zdo h] at h3
  by_cases hi:i<l.length
  ·have e1:=hat i hi
   have hN:=nan_ok l[i]
   by_cases q:l[i]=k
   ·have s_:=An @h (An @hi (An (Eq.symm (h3)) (An @e1 (@q))))
    have p1_:=hN
    exact WW
   ·have s_:=An @h (An @hi (An (Eq.symm (h3)) (An @e1 (@q))))
    have p1_:=hN
    exact WW
  ·have s_:=An @h (An @hi (Eq.symm (h3)))
   exact WW
 rw[Zdn h] at h3
 have hm:(i+j)/2<l.length:=by omega
 have e1:=hat _ hm
 have w1:IntKind.i64.wrap ((i:Int)+j)=(i:Int)+j:=Zf (by omega) (by omega)
 have w2:((i:Int)+j)%18446744073709551616=(i:Int)+j:=by omega
 have w3:((i:Int)+j).fdiv 2=(((i+j)/2:Nat):Int):=by rw[Int.fdiv_eq_ediv_of_nonneg _ (by omega)];omega
 have w4:IntKind.i64.wrap (((i+j)/2:Nat):Int)=(((i+j)/2:Nat):Int):=Zf (by omega) (by omega)
 generalize hmm:(i+j)/2=m at*
 have w5:IntKind.i64.wrap ((m:Int)+1)=((m+1:Nat):Int):=by rw[Zf (by omega) (by omega)];omega
 have hL:=less_ok l[m] k
 have hk:atI l m<k\/¬atI l m<k:=Classical.em _
 rcases hk with hk|hk
 ·rw[if_pos hk] at h3
  rw[e1] at hk
  have s_:=An @h (An @w1 (An @w2 (An @w3 (An @w4 (An @w5 (An @hm (@hk)))))))
  have q1_:=λs w=>hA (m+1,j) s w ⟨by simp only;omega,h2,h3⟩ (by simp only;omega)
  have p1_:=hL
  exact WW
 ·rw[if_neg hk] at h3
  rw[e1] at hk
  have s_:=An @h (An @w1 (An @w2 (An @w3 (An @w4 (An @w5 (An @hm (@hk)))))))
  have q1_:=λs w=>hA (i,m) s w ⟨by simp only;omega,by simp only;omega,h3⟩ (by simp only;omega)
  have p1_:=hL
  exact WW
theorem Zxa (l:List Int) (k:Int) (hr:Zaj l=true) (hl:l.length<=1000000):∃i,Zd Tryz.prog 240 [enc1 I l,I k] (.tup [I i,B (decide (k∈l))]):=by
 have h1:=bsI_ok l k hl
 have hat:∀m (h:m<l.length),atI l m=l[m]:=λm h=>by simp[atI,List.getD_eq_getElem?_getD,h]
 rw[Zfj idI hr hat k] at h1
 have e:(decide (placeS idI l k<l.length)&&decide (atI l (placeS idI l k)=k))=decide (k∈l):=by
  cases hf:Zaf idI l k with
  |some x=>
   obtain⟨hp,e⟩:=Zam idI hr hf
   obtain⟨m1,m2⟩:=ZA idI hf
   have m2:x=k:=m2
   subst m2
   rw[hat _ hp,e]
   simp[hp,m1]
  |none=>
   have hk:¬k∈l:=λhk=>(ZaS idI).1 hf k hk rfl
   by_cases hp:placeS idI l k<l.length
   ·have:=ZcH idI hr hf hp
    rw[hat _ hp]
    have:¬l[placeS idI l k]=k:=this
    simp[this,hk]
   ·simp[hp,hk]
 rw[e] at h1
 exact⟨_,h1⟩
theorem Zuy (n:Int):Zd Tryz.prog 236 [I n] (B (decide (n<1))):=by
 refine Pm Tryz.func236 λhfit=> ?_
 simp[Tryz.f236]
theorem Zxb (f:FSR) (c:Zi) (h:Zg f):Zd Tryz.prog 206 [encF f,encC c] (enc1 I (touchS f c)):=by
 have h0:=Zux f c h
 have hr:=(Zbf f c).1
 have hlen:=ZlN f c
 have ht:touchS f c=numsS ((looksS f c).filter (λn=> !decide (n<1))++if touchK c=true then[0] else[]):=rfl
 generalize looksV f c=V at*
 generalize touchS f c=t at*
 generalize looksS f c=L at*
 have h1:=delI_ok V L 236 (λn=>decide (n<1)) (λx _=>Zuy x) (by omega)
 have hfl:=List.length_filter_le (λn:Int=> !decide (n<1)) L
 have hrf:Zaj (L.filter λn=> !decide (n<1))=true:=ZZ idI hr _
 generalize(L.filter λn=> !decide (n<1))=q at*
 cases hk:touchK c with
 |true=>
  rw[hk,if_pos rfl] at ht
  have h2:=Zmp q [0] (by omega) (by simp)
  simp only[touchK,Bool.or_eq_true,decide_eq_true_eq] at hk
  rw[<-ht] at h2
  refine Pm Tryz.func206 λhfit=> ?_
  simp[Tryz.f206]
  refine AInv.fresh [] h0 (by simp) (by simp) ?_
  simp
  refine AInv.fresh [4] h1 (by simp) (by simp) ?_
  simp
  have s_:= @Zi.enc.eq_1
  try simp[s_]
  repeat' ((first|((first|refine Tp ?_|refine Tn ?_|refine T2 ?_ ?_)<;>intro h_ e_ n_)|refine Gg [4] h2 ?_|rw[Ip]|rw[In]|rw[Fz]|rw[Gz]|fail)<;>first|simp[e_,n_,s_]|simp[s_]|skip)
 |false=>
  rw[hk,if_neg (by simp),List.append_nil,Zqn hrf] at ht
  simp only[touchK,Bool.or_eq_false_iff,decide_eq_false_iff_not] at hk
  subst ht
  refine Pm Tryz.func206 λhfit=> ?_
  simp[Tryz.f206]
  refine AInv.fresh [] h0 (by simp) (by simp) ?_
  simp
  refine AInv.fresh [4] h1 (by simp) (by simp) ?_
  simp
  have s_:= @Zi.enc.eq_1
  exact WW
theorem ZrD (a b:List NodeR):Zd Tryz.prog 169 [encL NodeR.enc a,encL NodeR.enc b,.fn 132 []] (B (decide (a=b))):=by
 refine Pm Tryz.func169 λhfit=> ?_
 simp at hfit
 simp[Tryz.f169]
 by_cases hl:a.length=b.length
 case neg=>
  have:¬a=b:=λe=>hl (by rw[e])
  simp[hl,this]
 simp[hl]
 refine AW.loopG (lit:=λ_=>false) (λi:Nat=>⟨32,pat [(0,encL NodeR.enc a),(1,encL NodeR.enc b),(2,.fn 132 []),(15,encL NodeR.enc a),(16,I b.length),(17,I i)],[]⟩) (λi=>b.length -i) (λi=>i<=b.length/\a.take i=b.take i) 0 ?_ ?_ ?_
 ·exact Wk.at _ rfl (by simp[hl]) (by simp)
 ·simp
 rintro i ⟨hi,ht⟩ A hA
 by_cases h:i<b.length
 case neg=>
  have:=ZbV ht (by omega) (by omega)
  have s_:=An @h ((eq_true this))
  exact WW
 have ha:i<a.length:=by omega
 have hw:=Zh ha hfit.1.1
 have hN:=Zph a[i] b[i]
 by_cases h2:a[i]=b[i]
 ·rw[decide_eq_true h2] at hN
  have ht:=take_step ht ha h h2
  have s_:=An @h (An @ha (@hw))
  have q1_:=λs w=>hA (i+1) s w ⟨by omega,ht⟩ (by omega)
  have p1_:=hN
  exact WW
 ·have h3:¬a=b:=λe=>by subst e;exact h2 rfl
  rw[decide_eq_false h2] at hN
  have s_:=An @h (An @ha (@h3))
  have p1_:=hN
  exact WW
theorem same_ok (f g:FSR):Zd Tryz.prog 129 [encF f,encF g] (B (decide (f=g))):=by
 have h1:=ZrD f.l g.l
 have e:decide (f=g)=(decide (f.next=g.next)&&decide (f.l=g.l)):=by
  cases f;cases g;rw[Bool.eq_iff_iff];simp[and_comm]
 rw[e]
 generalize decide (f.l=g.l)=x at*
 by_cases q:f.next=g.next
 ·refine Pm Tryz.func129 λhfit=> ?_
  simp[Tryz.f129]
  have s_:=An @q (@FSR.enc.eq_1)
  exact WW
 ·refine Pm Tryz.func129 λhfit=> ?_
  simp[Tryz.f129]
  have s_:=An @q (@FSR.enc.eq_1)
  exact WW
theorem Zxc (s:StoreR) (hl:s.l.length<=2000000):Zd Tryz.prog 177 [.agg s.enc] (.agg (beginS s).enc):=by
 have h1:=view_ok s s.stamp hl
 unfold beginS
 generalize viewS s s.stamp=f at*
 refine Pm Tryz.func177 λhfit=> ?_
 simp[Tryz.f177]
 have s_:=An @StoreR.enc.eq_1 (An @TxnR.enc.eq_1 (@FSR.enc.eq_1))
 exact WW
theorem idle_ok (t:TxnR):Zd Tryz.prog 208 [.agg t.enc] (B (decide (t.was=t.now))):=by
 have h1:=same_ok t.was t.now
 refine Pm Tryz.func208 λhfit=> ?_
 simp[Tryz.f208]
 have s_:=An @TxnR.enc.eq_1 (@FSR.enc.eq_1)
 exact WW
theorem txn_eq (a b:TxnR):a=b↔a.stamp=b.stamp/\a.looks=b.looks/\a.was=b.was/\a.now=b.now:=by
 cases a;cases b;simp only[TxnR.mk.injEq];constructor
 ·rintro⟨h1,h2,h3,h4⟩;exact⟨h1,h4,h2,h3⟩
 ·rintro⟨h1,h2,h3,h4⟩;exact⟨h1,h3,h4,h2⟩
theorem Zuz (a b:TxnR):Zd Tryz.prog 59 [.agg a.enc,.agg b.enc] (B (decide (a=b))):=by
 have h1:=ZwN a.looks b.looks
 have h2:=Zjs a.was b.was
 have h3:=Zjs a.now b.now
 have e:decide (a=b)=(decide (a.stamp=b.stamp)&&(decide (a.looks=b.looks)&&(decide (a.was=b.was)&&decide (a.now=b.now)))):=by
  rw[Bool.eq_iff_iff];simp only[Bool.and_eq_true,decide_eq_true_eq];exact txn_eq a b
 rw[e]
 generalize decide (a.looks=b.looks)=x1 at*
 generalize decide (a.was=b.was)=x2 at*
 generalize decide (a.now=b.now)=x3 at*
 by_cases q:a.stamp=b.stamp
 ·refine Pm Tryz.func59 λhfit=> ?_
  simp[Tryz.f59]
  have s_:=An @q (An @TxnR.enc.eq_1 (@FSR.enc.eq_1))
  exact WW
 ·refine Pm Tryz.func59 λhfit=> ?_
  simp[Tryz.f59]
  have s_:=An @q (An @TxnR.enc.eq_1 (@FSR.enc.eq_1))
  exact WW
theorem ZjB (t:TxnR):Zd Tryz.prog 39 [.agg t.enc] (B (rightTx t)):=by
 have h3:=ZcZ t.was
 have h4:=ZcZ t.now
 have hbad:¬(Zaj t.looks=true/\∀n∈t.looks,0<=n)->rightTx t=false:=λh=>by unfold rightTx;rw[decide_eq_false h];rfl
 have hgood:(Zaj t.looks=true/\∀n∈t.looks,0<=n)->rightTx t=(rightF t.was&&(rightF t.now&&(decide (t.was.next<=t.now.next)&&decide (1<=t.stamp)))):=λh=>by unfold rightTx;rw[decide_eq_true h];rfl
 generalize rightTx t=b at*
 generalize rightF t.was=x1 at*
 generalize rightF t.now=x2 at*
 obtain⟨L,hL⟩:∃L,t.looks=L:=⟨_,rfl⟩
 rw[hL] at hbad hgood
 refine Pm Tryz.func39 λhfit=> ?_
 have d1_:=D0 4 24 [] []
 simp[TxnR.enc,hL,FSR.enc] at hfit
 have hl:=hfit.2.2
 have hm:=hl
 simp only[maxLen] at hm
 simp[Tryz.f39,TxnR.enc,FSR.enc,hL]
 refine AW.loopG (lit:=λ_=>false) (λi:Nat=>⟨61,pat [(1,.ptr 0 0 0),(3,I i)],[.cells 0 [I t.stamp,encL NodeR.enc t.was.l,I t.was.next,encL NodeR.enc t.now.l,I t.now.next,enc1 I L]]⟩) (λi=>L.length -i) (λi=>i<=L.length/\∀(j:Nat) (h:j<L.length),j<i->0<=L[j]/\∀p,L[j -1]? =some p->0<j->p<L[j]) 0 ?_ ?_ ?_
 ·exact Wa
 ·exact⟨by simp,λj h hj=>by omega⟩
 rintro i ⟨g1,g2⟩ A hA
 by_cases hi:i<L.length
 case neg=>
  have e:=hgood ⟨(ZC idI L).2 (Zif (f:=idI) λj h=>by
    have:=(g2 (j+1) h (by omega)).2 L[j] (by simp) (by omega)
    simpa using this),λn hn=>by
    obtain⟨j,hj,rfl⟩:=List.getElem_of_mem hn
    exact(g2 j hj (by omega)).1⟩
  clear hgood hbad g2
  subst e
  by_cases q1:t.was.next<=t.now.next
  ·by_cases q2:1<=t.stamp
   ·have s_:=An @hi (An @q1 (An @q2 (@FSR.enc.eq_1)))
    exact WW
   ·have s_:=An @hi (An @q1 (An @q2 (@FSR.enc.eq_1)))
    exact WW
  ·have s_:=An @hi (An @q1 (@FSR.enc.eq_1))
   exact WW
 have hwi:=Zh hi hl
 have hbad':¬(0<=L[i]/\∀p,L[i -1]? =some p->0<i->p<L[i])->b=false:=λhn=>hbad λh=>hn ⟨h.2 _ (List.getElem_mem hi),λp hp h0=>by
  obtain⟨h1,rfl⟩:=List.getElem?_eq_some_iff.1 hp
  exact Zag idI h.1 (i -1) i h1 hi (by omega)⟩
 have hgo:(0<=L[i]/\∀p,L[i -1]? =some p->0<i->p<L[i])->∀(j:Nat) (h:j<L.length),j<i+1->0<=L[j]/\∀p,L[j -1]? =some p->0<j->p<L[j]:=λhn j h hj=>by
  rcases Nat.lt_or_ge j i with g|g
  ·exact g2 j h g
  ·have:j=i:=by omega
   subst this;exact hn
 have hi1:i -1<L.length:=by omega
 have hp1:L[i -1]? =some L[i -1]:=List.getElem?_eq_getElem hi1
 have hwm:0<i->IntKind.i64.wrap ((i:Int) -1)=((i -1:Nat):Int):=λhp=>by rw[Zf (by omega) (by omega)];omega
 clear g2 hbad hgood
 generalize hck:L[i -1]=p at*
 generalize hci:L[i]=v at*
 by_cases q2:v<0
 ·rw[hbad' λh=>by have:=h.1;omega]
  have s_:=An @hi (An @hci (@q2))
  exact WW
 by_cases q5:0<i
 ·have hwm:=hwm q5
  by_cases q6:v<=p
  ·rw[hbad' λh=>by have:=h.2 p hp1 q5;omega]
   have s_:=An @hi (An @hci (An @hck (An @q2 (An @q5 (An @q6 (An @hwm (@hi1)))))))
   exact WW
  ·have hgo:=hgo ⟨by omega,λp' e h0=>by rw[hp1] at e;cases e;omega⟩
   have s_:=An @hi (An @hci (An @hck (An @q2 (An @q5 (An @q6 (An @hwm (An @hwi (@hi1))))))))
   have q1_:=λs w=>hA (i+1) s w ⟨hi,hgo⟩ (by omega)
   exact WW
 ·have hgo:=hgo ⟨by omega,λp' e h0=>by omega⟩
  have s_:=An @hi (An @hci (An @q2 (An @q5 (@hwi))))
  have q1_:=λs w=>hA (i+1) s w ⟨hi,hgo⟩ (by omega)
  exact WW
abbrev tTup (x:TxnR×ReplyR):AV:= .tup [.agg x.1.enc,encR x.2]
theorem ZmY (t:TxnR) (c:Zi) (h:Zg t.now) (T:ZI t.now) (hn:t.now.next<4611686018427387904) (hl:t.looks.length<=1000000) (hc:c.wf):Zd Tryz.prog 178 [.agg t.enc,encC c] (tTup (stepS t c)):=by
 have h1:=Zxb t.now c h
 have hlen:(touchS t.now c).length<=7:=ZlQ t.now c
 have h2:=Zmp t.looks (touchS t.now c) (by omega) (by omega)
 have h3:=do_ok t.now c h hn hc (calm_of h T c)
 unfold stepS
 generalize doS t.now c=X at*
 generalize numsS (t.looks++touchS t.now c)=q at*
 generalize touchS t.now c=k at*
 refine Pm Tryz.func178 λhfit=> ?_
 have d1_:=D0 1 8 [] []
 have d2_:=D0 4 4 [] []
 simp[Tryz.f178]
 have s_:=An @TxnR.enc.eq_1 (An @FSR.enc.eq_1 (@ReplyR.enc.eq_1))
 have e1_:=D0 4 4 [2,3] []
 exact WW
theorem ZuA (s:StoreR) (st:Int):(sinceS s st).length<=s.l.length+1:=by
 unfold sinceS Zbp
 have:=List.length_filter_le (Zcp st) s.l
 split<;>simp<;>omega
noncomputable def Zmq (s:StoreR):Bool:=fewStore s&&(storeB s&&(decide (s.stamp<1152921504606846976)&&(Go.Cx.fewS (viewS s s.stamp)&&(rightF (viewS s s.stamp)&&decide ((viewS s s.stamp).next<1152921504606846976)))))
theorem Zxd (s:StoreR) (hb:Zcb s):Zd Tryz.prog 34 [.agg s.enc] (B (Zmq s)):=by
 have h1:=Zus s hb
 have h2:=Zig s
 have h3:=ZgH s s.stamp hb
 have h4:=ZtR (viewS s s.stamp)
 have h5:=ZcZ (viewS s s.stamp)
 unfold Zmq
 generalize viewS s s.stamp=f at*
 generalize fewStore s=b1 at*
 generalize storeB s=b2 at*
 generalize Go.Cx.fewS f=b3 at*
 generalize rightF f=b4 at*
 by_cases q1:s.stamp<1152921504606846976
 ·by_cases q2:f.next<1152921504606846976
  ·refine Pm Tryz.func34 λhfit=> ?_
   simp[Tryz.f34]
   have s_:=An @q1 (An @q2 (An @StoreR.enc.eq_1 (@FSR.enc.eq_1)))
   exact WW
  ·refine Pm Tryz.func34 λhfit=> ?_
   simp[Tryz.f34]
   have s_:=An @q1 (An @q2 (An @StoreR.enc.eq_1 (@FSR.enc.eq_1)))
   exact WW
 ·refine Pm Tryz.func34 λhfit=> ?_
  simp[Tryz.f34]
  have s_:=An @q1 (An @StoreR.enc.eq_1 (@FSR.enc.eq_1))
  exact WW
def Zoc (t:TxnR):Bool:=Go.Cx.fewS t.was&&(Go.Cx.fewS t.now&&(decide (t.looks.length<=300)&&(decide (t.now.next<1152921504606846976)&&rightTx t)))
theorem Zxe (t:TxnR):Zd Tryz.prog 35 [.agg t.enc] (B (Zoc t)):=by
 have h1:=ZtR t.was
 have h2:=ZtR t.now
 have h3:=ZjB t
 unfold Zoc
 generalize Go.Cx.fewS t.was=b1 at*
 generalize Go.Cx.fewS t.now=b2 at*
 generalize rightTx t=b3 at*
 by_cases q1:t.looks.length<=300
 ·by_cases q2:t.now.next<1152921504606846976
  ·refine Pm Tryz.func35 λhfit=> ?_
   simp[Tryz.f35]
   have s_:=An @q1 (An @q2 (An @TxnR.enc.eq_1 (@FSR.enc.eq_1)))
   exact WW
  ·refine Pm Tryz.func35 λhfit=> ?_
   simp[Tryz.f35]
   have s_:=An @q1 (An @q2 (An @TxnR.enc.eq_1 (@FSR.enc.eq_1)))
   exact WW
 ·refine Pm Tryz.func35 λhfit=> ?_
  simp[Tryz.f35]
  have s_:=An @q1 (An @TxnR.enc.eq_1 (@FSR.enc.eq_1))
  exact WW
abbrev cTup (x:StoreR×Int):AV:= .tup [.agg x.1.enc,I x.2]
@[simp] theorem setT0_enc (k:TxnR):setMany [I 0,.sl true 0 [],I 0,.sl true 0 [],I 0,.sl true 0 []] 0 k.enc=k.enc:=rfl
theorem Zmr (f k:StoreR):setMany f.enc 0 k.enc=k.enc:=rfl
theorem ZuB (s:StoreR) (t:TxnR) (hP:Zu s) (hb:Zap 100000 s) (hs:s.stamp<9223372036854775807) (T:TxnP t) (h2:Zd Tryz.prog 209 [.agg s.enc,.agg t.enc] (B (ZaZ s t))):Zd Tryz.prog 179 [.agg s.enc,.agg t.enc] (cTup (commitS s t)):=by
 have h1:=idle_ok t
 have hw:=T.wrows.len
 have hnw:=T.nrows.len
 have h3:=Zrm t.was t.now (by omega) (by omega)
 have hcl:=(Zah T.wrows T.nrows).1
 have h4:=Zrt s (changesS t.was t.now) t.now.next 100000 (hP.mid hb.l hb.vers) (by omega) hs (by have:=hP.stamp;omega) hP.some (by have:=hb.nexts;omega)
 unfold commitS
 by_cases q:t.was=t.now
 ·rw[decide_eq_true q] at h1
  rw[if_pos q]
  refine Pm Tryz.func179 λhfit=> ?_
  have d1_:=D0 5 10 [] []
  simp[Tryz.f179]
  have s_:=Zmr
  exact WW
 rw[decide_eq_false q] at h1
 rw[if_neg q]
 cases hc:ZaZ s t with
 |true=>
  rw[hc] at h2
  rw[if_pos rfl]
  refine Pm Tryz.func179 λhfit=> ?_
  have d1_:=D0 5 10 [] []
  simp[Tryz.f179]
  have s_:=Zmr
  exact WW
 |false=>
  rw[hc] at h2
  rw[if_neg (by simp)]
  generalize changesS t.was t.now=C at*
  generalize installS s C t.now.next=X at*
  refine Pm Tryz.func179 λhfit=> ?_
  have d1_:=D0 5 10 [] []
  simp[Tryz.f179]
  have s_:=An @TxnR.enc.eq_1 (An @FSR.enc.eq_1 (@StoreR.enc.eq_1))
  exact WW
end Go.Proofs.YtgpkaoombhobmaaGreat
namespace Go.Proofs.YtgpkaoombhobmaaGreat
open Go.RowKit Go.Shelf
attribute [local go_sem] Oper.semAt_some
open Go.Cx in
theorem ZuC {s:StoreR} {t:TxnR} (hP:Zu s) (hb:Zcb s) {n:Nat} {Z:Nat->Prop} {κ:Nat->Slot} {w W:World} {v0 v1:Value} (r:Rel Z κ [] w) (hr:Rs Z w κ [.agg s.enc] [.agg #[v0,v1,.int .i64 s.stamp]]) (hB:Below w.heap.size w W) (B5:Nat) (h5:w.heap.size<=B5) (h5':B5<W.heap.size):
  CallsIn Fence.wide n Tryz.prog 296 #[.agg #[v0,v1,.int .i64 s.stamp],.int .i64 t.stamp] W (λe W'=>∃A cap,e= .returned (.slice A (sinceS s t.stamp).length cap)/\
   (∀(j:Nat) (hj:j<(sinceS s t.stamp).length),∃b off,A=some ⟨b,off,none⟩/\b≠B5/\W'.cell? ⟨b,off+j,none⟩=some (.int .i64 (sinceS s t.stamp)[j]))/\Below W.heap.size W W'):=by
 have hr2:Rs Z w κ [.agg s.enc,I t.stamp] [.agg #[v0,v1,.int .i64 s.stamp],.int .i64 t.stamp]:=by
  cases hr with
  |cons a b=>exact .cons a (.cons (.val rfl) .nil)
 refine((ZwQ s t.stamp hP hb).raw r hr2 hB).mono ?_
 rintro e W' ⟨c,Z',κ',rfl,hc,hz,hb'⟩
 rcases nums_inv hc with⟨h0,A,cap,rfl⟩|⟨b,off,cap,rfl,hzb,hat⟩
 ·exact⟨A,cap,by rw[h0];rfl,λj hj=>by rw[h0] at hj;simp at hj,hb'⟩
 ·refine⟨_,cap,rfl,λj hj=>⟨b,off,rfl,λe=> ?_,hat j hj⟩,hb'⟩
  subst e
  rcases hz b hzb with h|h
  ·have:=r.zlt b h;omega
  ·omega
open Go.Cx in
set_option maxRecDepth 100000 in
set_option maxHeartbeats 2000000 in
theorem Zms {s:StoreR} {t:TxnR} (hP:Zu s) (hb:Zcb s) (hl:(sinceS s t.stamp).length<=2000000) (n:Nat) (hn:1<=n) {Z:Nat->Prop} {κ:Nat->Slot} {w0 w:World} {v0 v1:Value} (r:Rel Z κ [] w0) (hr:Rs Z w0 κ [.agg s.enc] [.agg #[v0,v1,.int .i64 s.stamp]]) (hB:Below w0.heap.size w0 w)
  (Bs Bt B5:Nat) (hBs:Bs<w.heap.size) (hBt:Bt<w.heap.size) (h5:w0.heap.size<=B5) (h5':B5<w.heap.size)
  (hc0:w.cell? ⟨Bs,0,none⟩=some v0) (hc1:w.cell? ⟨Bs,1,none⟩=some v1) (hc2:w.cell? ⟨Bs,2,none⟩=some (.int .i64 s.stamp)) (hct:w.cell? ⟨Bt,0,none⟩=some (.int .i64 t.stamp)):
  SeqStopsK Fence.wide n Tryz.prog 295 #[.pointer (some ⟨Bs,0,none⟩),.pointer (some ⟨Bt,0,none⟩)] (λx:Int=> #[Value.int .i64 x]) (Zeo B5) (λys=>ys=sinceS s t.stamp) (λpre=>pre<+:sinceS s t.stamp) (sinceS s t.stamp).length w:=λl J Jx W hW hJ _ hY h0=>by
 have hc0':=(hW.cell (p:=⟨Bs,0,none⟩) hBs).trans hc0
 have hc1':=(hW.cell (p:=⟨Bs,1,none⟩) hBs).trans hc1
 have hc2':=(hW.cell (p:=⟨Bs,2,none⟩) hBs).trans hc2
 have hct':=(hW.cell (p:=⟨Bt,0,none⟩) hBt).trans hct
 have hBW:Below w0.heap.size w0 W:=hB.trans (hW.mono hB.size)
 have hS:=ZuC (t:=t) hP hb (n:=n -1) r hr hBW B5 h5 (Nat.lt_of_lt_of_le h5' hW.size)
 generalize sinceS s t.stamp=L at*
 have hf:Fence.wide.fn 296:=trivial
 refine callsIn_of_wp Tryz.func295 rfl trivial ?_ rfl
 simp only[Tryz.ntmps295,List.size_toArray,List.length_cons,List.length_nil,Nat.reduceAdd,Nat.reduceSub,Array.replicate_succ,Array.replicate_zero,List.push_toArray,List.append_toArray,List.nil_append,List.cons_append]
 gi_wp2_with (gi_at_call 296;refine hS.mono ?_;rintro e W1 ⟨A,cap,rfl,hA,hb1⟩)
 have hJ1:J [] W1:=hJ [] W W1 none h0 ⟨hb1.os,hb1.tape,hb1.output,hb1.size,λk hk _=>hb1.block k hk⟩ (λr e=>by cases e)
 gi_loopw [11] (λi wr=>∃k:Nat,k<=L.length/\i= .int .i64 k/\J (L.take k) wr/\Zeo B5 W1 wr) (λi _=>L.length -(intOf i).toNat)
 case atStart=>exact⟨0,Nat.zero_le _,rfl,hJ1,Zeo.refl _ _⟩
 case round=>
  obtain⟨k,hk,rfl,hJs,hK⟩:=hrel
  by_cases hlt:k<L.length
  ·obtain⟨b,off,rfl,hbne,hcell⟩:=hA k hlt
   have hcx:=hK.cell hbne hcell
   obtain⟨fn,tmps,assign,body,hy,hR⟩:=hY _ L[k] _ hJs (by rw[List.length_take];omega)
   gi_wp2
   refine hR.mono ?_
   rintro e W3 (⟨rfl,hJ3,hk3⟩|⟨rfl,hJx3⟩)
   ·gi_wp2
    go_roundw
    case rel=>exact⟨k+1,by omega,by simp,by rw[List.take_succ_eq_append_getElem hlt];exact hJ3,hK.trans hk3⟩
    case measure=>simp[intOf];omega
   ·gi_wp2
    refine bodyPost_ret (results_none rfl _ _ _) rfl ?_
    exact⟨⟨_,rfl⟩,.inr ⟨_,by rw[<-List.take_succ_eq_append_getElem hlt];exact List.take_prefix _ _,hJx3⟩⟩
  ·obtain rfl:k=L.length:=by omega
   gi_wp2
   go_end0
   exact⟨⟨_,rfl⟩,.inl ⟨_,rfl,by rwa[List.take_length] at hJs⟩⟩
set_option maxHeartbeats 1000000 in
theorem later_in (n:Nat) (v0 v1 v2 u0 u1 u2 u3 u4 u5:Value) (w:World):
  CallsIn Fence.wide n Tryz.prog 239 #[.agg #[v0,v1,v2],.agg #[u0,u1,u2,u3,u4,u5]] w λe w'=>e= .returned (.func (.func 295) #[] #[.pointer (some ⟨w.heap.size,0,none⟩),.pointer (some ⟨w.heap.size+1,0,none⟩)])/\w'=(w.alloc (.cells #[v0,v1,v2] 25)).alloc (.cells #[u0,u1,u2,u3,u4,u5] 58):=by
 refine callsIn_of_wp Tryz.func239 rfl trivial ?_ rfl
 simp only[Tryz.ntmps239,List.size_toArray,List.length_cons,List.length_nil,Nat.reduceAdd,Nat.reduceSub,Array.replicate_succ,Array.replicate_zero,List.push_toArray,List.append_toArray,List.nil_append,List.cons_append]
 gi_wp2
 go_ret
 exact⟨rfl,rfl⟩
theorem Zby {β:Type} (k:Nat) (o:Obj) (ho:o.isCells=true):Own (fun(_:β) W=>W.heap[k]? =some o):=λs X Y row h hg hrow=>by
 obtain⟨_,_,_,_,g5⟩:=hg
 show Y.heap[k]? =some o
 rw[g5 k (Array.getElem?_eq_some_iff.1 h).1 (λe=>by
  obtain⟨o',ho',hc⟩:=hrow k e.symm
  rw[show X.heap[k]? =some o from h] at ho';cases ho';rw[ho] at hc;cases hc)]
 exact h
theorem Zmt {β:Type} (B:Nat) (p:β->Prop):OwnFrom B (fun(x:β) (_:World)=>p x):=λ_ _ _ _ h _ _=>h
theorem Zei {W:World} {k:Nat} {o:Obj} (h:W.heap[k]? =some o) (o':Obj):(W.alloc o').heap[k]? =some o:=by
 obtain⟨_,_,_,_,g5⟩:=World.grownBy_alloc W o' none
 rw[g5 k (Array.getElem?_eq_some_iff.1 h).1 (by simp)]
 exact h
theorem ZcM {W:World} {k i:Nat} {cs:Array Value} {t:TypeId} {fr:Nat×Nat} {v:Value} (h:W.heap[k]? =some (.cells cs t fr)) (hv:cs[i]? =some v):W.cell? ⟨k,i,none⟩=some v:=by
 simp[World.cell?,h,hv]
open Go.Cx in
theorem ZrE {t:TxnR} (hri:Zaj t.looks=true) (hk:t.looks.length<=1000000) {n:Nat} {Z:Nat->Prop} {κ:Nat->Slot} {w W:World} {u5:Value} (x:Int) (r:Rel Z κ [] w) (ht:Rs Z w κ [enc1 I t.looks] [u5]) (hB:Below w.heap.size w W):
  CallsIn Fence.wide n Tryz.prog 240 #[u5,.int .i64 x] W (λe W'=>∃i,e= .returned (.tuple #[.int .i64 i,.bool (decide (x∈t.looks))])/\Below W.heap.size W W'):=by
 obtain⟨i,hf⟩:=Zxa t.looks x hri hk
 have hr2:Rs Z w κ [enc1 I t.looks,I x] [u5,.int .i64 x]:=by
  cases ht with
  |cons a b=>exact .cons a (.cons (.val rfl) .nil)
 refine(hf.raw r hr2 hB).mono ?_
 rintro e W' ⟨c,Z',κ',rfl,hc,hz,hb'⟩
 cases hc with
 |tup h=>
  cases h with
  |cons a h=>
   cases h with
   |cons b h=>
    cases h
    cases a with
    |val _=>cases b with
     |val _=>exact⟨i,rfl,hb'⟩
open Go.Cx in
set_option maxRecDepth 100000 in
set_option maxHeartbeats 2000000 in
theorem Zxf {s:StoreR} {t:TxnR} (hP:Zu s) (hb:Zcb s) (hl:(sinceS s t.stamp).length<=2000000) (hri:Zaj t.looks=true) (hk:t.looks.length<=1000000) (n:Nat) (hn:3<=n) {Z:Nat->Prop} {κ:Nat->Slot} {w:World} {v0 v1 u1 u2 u3 u4 u5:Value} (r:Rel Z κ [] w)
  (hs:Rs Z w κ [.agg s.enc] [.agg #[v0,v1,.int .i64 s.stamp]]) (ht:Rs Z w κ [enc1 I t.looks] [u5]):
  CallsIn Fence.wide n Tryz.prog 209 #[.agg #[v0,v1,.int .i64 s.stamp],.agg #[.int .i64 t.stamp,u1,u2,u3,u4,u5]] w λe W'=>e= .returned (.bool (ZaZ s t))/\Below w.heap.size w W':=by
 have h1:1<=n:=by omega
 have hf:Fence.wide.fn 239:=trivial
 have hf2:Fence.wide.fn 240:=trivial
 refine callsIn_of_wp_marks Tryz.func209 rfl trivial ?_ rfl
 simp only[Tryz.ntmps209,List.size_toArray,List.length_cons,List.length_nil,Nat.reduceAdd,Nat.reduceSub,Array.replicate_succ,Array.replicate_zero,List.push_toArray,List.append_toArray,List.nil_append,List.cons_append]
 gi_wp2
 refine wpIn_wide.2 (wp_scope_straight ((wpIn_wide (n:=n)).1 ?_))
 gi_wp2
 refine wpIn_label ?_
 gi_wp2_with (gi_at_call 239;refine(later_in (n -1) _ _ _ _ _ _ _ _ _ _).mono ?_;rintro e w' ⟨rfl,rfl⟩)
 have b0:Below w.heap.size w (((((w.alloc (.cells #[v0,v1,.int .i64 s.stamp] 25)).alloc (.cells #[.int .i64 t.stamp,u1,u2,u3,u4,u5] 58)).alloc (.cells #[.bool false] 4)).alloc (.cells #[v0,v1,.int .i64 s.stamp] 25)).alloc (.cells #[.int .i64 t.stamp,u1,u2,u3,u4,u5] 58)):=by
  refine(((((Below.refl _ w).alloc (Nat.le_refl _) _).alloc ?_ _).alloc ?_ _).alloc ?_ _).alloc ?_ _<;>simp<;>omega
 have c1:=World.alloc_heap_new (w.alloc (.cells #[v0,v1,.int .i64 s.stamp] 25)) (.cells #[.int .i64 t.stamp,u1,u2,u3,u4,u5] 58)
 have c2:=World.alloc_heap_new ((w.alloc (.cells #[v0,v1,.int .i64 s.stamp] 25)).alloc (.cells #[.int .i64 t.stamp,u1,u2,u3,u4,u5] 58)) (.cells #[.bool false] 4)
 have c3:=World.alloc_heap_new (((w.alloc (.cells #[v0,v1,.int .i64 s.stamp] 25)).alloc (.cells #[.int .i64 t.stamp,u1,u2,u3,u4,u5] 58)).alloc (.cells #[.bool false] 4)) (.cells #[v0,v1,.int .i64 s.stamp] 25)
 have c4:=World.alloc_heap_new ((((w.alloc (.cells #[v0,v1,.int .i64 s.stamp] 25)).alloc (.cells #[.int .i64 t.stamp,u1,u2,u3,u4,u5] 58)).alloc (.cells #[.bool false] 4)).alloc (.cells #[v0,v1,.int .i64 s.stamp] 25)) (.cells #[.int .i64 t.stamp,u1,u2,u3,u4,u5] 58)
 have c1:=Zei (Zei (Zei c1 (.cells #[.bool false] 4)) (.cells #[v0,v1,.int .i64 s.stamp] 25)) (.cells #[.int .i64 t.stamp,u1,u2,u3,u4,u5] 58)
 have c2:=Zei (Zei c2 (.cells #[v0,v1,.int .i64 s.stamp] 25)) (.cells #[.int .i64 t.stamp,u1,u2,u3,u4,u5] 58)
 have c3:=Zei c3 (.cells #[.int .i64 t.stamp,u1,u2,u3,u4,u5] 58)
 simp only[World.size_alloc] at c1 c2 c3 c4
 generalize hwr:(((((w.alloc (.cells #[v0,v1,.int .i64 s.stamp] 25)).alloc (.cells #[.int .i64 t.stamp,u1,u2,u3,u4,u5] 58)).alloc (.cells #[.bool false] 4)).alloc (.cells #[v0,v1,.int .i64 s.stamp] 25)).alloc (.cells #[.int .i64 t.stamp,u1,u2,u3,u4,u5] 58))=wr at*
 have z4:=(Array.getElem?_eq_some_iff.1 c4).1
 have hseq:=Zms hP hb hl (n -1) (by omega) r hs b0 (w.heap.size+1+1+1) (w.heap.size+1+1+1+1) (w.heap.size+1+1) (by omega) z4 (by omega) (by omega) (ZcM c3 rfl) (ZcM c3 rfl) (ZcM c3 rfl) (ZcM c4 rfl)
 refine wpIn_rangeFunc_ownG rfl h1 (gf:=295) (lb:= #[.pointer (some ⟨w.heap.size+1+1+1,0,none⟩),.pointer (some ⟨w.heap.size+1+1+1+1,0,none⟩)]) rfl trivial (enters_of Tryz.func295 (by kernel_rfl) rfl)
  hseq (λh k=>Zeo.trans h k) (λW l o o' _ h hc _=>Zeo.put W l o o' h hc) (Below.refl _ _) (λ_=>rfl)
  (λpre W=>(W.heap[w.heap.size+1+1]? =some (.cells #[.bool false] 4 (0,0))/\W.heap[w.heap.size+1]? =some (.cells #[.int .i64 t.stamp,u1,u2,u3,u4,u5] 58 (0,0)))/\Below w.heap.size w W/\(∀x∈pre,¬x∈t.looks))
  (λc pre W=>(W.heap[w.heap.size+1+1]? =some (.cells #[.bool true] 4 (0,0))/\Below w.heap.size w W)/\c= .exit 0/\∃x∈pre,x∈t.looks)
  (OwnFrom.and (OwnFrom.and ((Zby _ _ rfl).from _) ((Zby _ _ rfl).from _)) (OwnFrom.and (ownFrom_below (Nat.le_refl _) (by omega)) (Zmt _ _)))
  (λc=>OwnFrom.and (OwnFrom.and ((Zby _ _ rfl).from _) (ownFrom_below (Nat.le_refl _) (by omega))) (Zmt _ _))
  ⟨⟨c2,c1⟩,b0,by simp⟩
  (λx=>{tmps:= #[.agg #[v0,v1,.int .i64 s.stamp],.agg #[.int .i64 t.stamp,u1,u2,u3,u4,u5],.pointer (some ⟨w.heap.size,0,none⟩),.pointer (some ⟨w.heap.size+1,0,none⟩),.bool false,.pointer (some ⟨w.heap.size+1+1,0,none⟩),.int .i64 x,.agg #[v0,v1,.int .i64 s.stamp],.agg #[.int .i64 t.stamp,u1,u2,u3,u4,u5],.func (.func 295) #[] #[.pointer (some ⟨w.heap.size+1+1+1,0,none⟩),.pointer (some ⟨w.heap.size+1+1+1+1,0,none⟩)],.int .i64 x,undef,undef,undef,undef,undef,undef,undef,undef,undef],defers:=[]}) ?assign ?body ?done ?stop
 case assign=>
  intro l x W K hK
  gi_wp2
  exact hK
 case body=>
  rintro l pre x W ⟨⟨hbx,htx⟩,hB,hno⟩ hlt
  have hcx:=ZcM (i:=5) htx rfl
  have hbxl:=(Array.getElem?_eq_some_iff.1 hbx).1
  have hn3:1<=n -1 -1:=by omega
  have hf3:(Fence.wide.inRound l).fn 240:=trivial
  gi_wp2
  refine(CallsIn.inRound l (ZrE hri hk x r ht hB)).mono ?_
  rintro e W1 ⟨i,rfl,hb1⟩
  have hbx1:Boxed W1 (w.heap.size+1+1) 4 (.bool false):=(hb1.block _ hbxl).trans hbx
  have hcb:=hbx1.cell
  have hfb:=hbx1.frozen
  obtain⟨g1,g2,g3,g4,g5⟩:=grownBy_setCell' W1 (w.heap.size+1+1) (.bool (decide (x∈t.looks)))
  have hkeep:∀(k:Nat),k<W.heap.size->k≠w.heap.size+1+1->(W1.setCell ⟨w.heap.size+1+1,0,none⟩ (.bool (decide (x∈t.looks)))).heap[k]? =W.heap[k]? :=λk hk hne=>by
   rw[g5 k (Nat.lt_of_lt_of_le hk hb1.size) (λe=>hne (by injection e)),hb1.block k hk]
  have hsz:W.heap.size<=(W1.setCell ⟨w.heap.size+1+1,0,none⟩ (.bool (decide (x∈t.looks)))).heap.size:=Nat.le_trans hb1.size g4
  have hkf:KeepsFrom wr.heap.size W (W1.setCell ⟨w.heap.size+1+1,0,none⟩ (.bool (decide (x∈t.looks)))):=⟨hsz,λk o _ ho hc=>by
   rw[hkeep k (Array.getElem?_eq_some_iff.1 ho).1 (λe=>by subst e;rw[hbx] at ho;cases ho;cases hc)];exact ho⟩
  have hkc:Zeo (w.heap.size+1+1) W (W1.setCell ⟨w.heap.size+1+1,0,none⟩ (.bool (decide (x∈t.looks)))):=⟨g1.trans hb1.os,g2.trans hb1.tape,g3.trans hb1.output,hsz,λk o hne ho _=>by
   rw[hkeep k (Array.getElem?_eq_some_iff.1 ho).1 hne];exact ho⟩
  have hbel:Below w.heap.size w (W1.setCell ⟨w.heap.size+1+1,0,none⟩ (.bool (decide (x∈t.looks)))):=⟨hkc.os.trans hB.os,hkc.tape.trans hB.tape,hkc.output.trans hB.output,Nat.le_trans hB.size hsz,λk hk=>by
   rw[hkeep k (Nat.lt_of_lt_of_le hk hB.size) (by omega),hB.block k hk]⟩
  have htx2:=(hkeep (w.heap.size+1) (Array.getElem?_eq_some_iff.1 htx).1 (by omega)).trans htx
  have hbt:Boxed _ _ _ _:=hbx1.set (.bool (decide (x∈t.looks)))
  have hct:=hbt.cell
  clear g1 g2 g3 g4 g5 hkeep hsz
  by_cases q:x∈t.looks
  ·rw[decide_eq_true q] at*
   gi_wp2
   exact⟨hkf,⟨hbt,hbel⟩,rfl,x,by simp,q⟩
  ·rw[decide_eq_false q] at*
   gi_wp2
   exact⟨hkf,hkc,⟨hbt,htx2⟩,hbel,λy hy=>(List.mem_append.1 hy).elim (hno y) (λh=>by rw[List.mem_singleton.1 h];exact q)⟩
 case done=>
  rintro D ys W hD rfl ⟨⟨hbx,htx⟩,hB,hno⟩ hK
  have hcb:=(show Boxed W _ _ _ from hbx).cell
  have e:ZaZ s t=false:=by
   unfold ZaZ
   rw[List.any_eq_false]
   intro x hx;simpa using hno x hx
  gi_wp2
  refine⟨by simp,.inl ⟨_,_,rfl,run_takeDeferred hK,?_⟩⟩
  rw[e]
  exact⟨_,results_tmp rfl _ _ _,rfl,hB.trans (belowK_b (w:=w) (Nat.le_refl _) W D _ _ (by omega) hK rfl rfl)⟩
 case stop=>
  rintro D c pre W hD hpre ⟨⟨hbx,hB⟩,rfl,hx⟩ hK
  have hcb:=(show Boxed W _ _ _ from hbx).cell
  have e:ZaZ s t=true:=by
   unfold ZaZ
   rw[List.any_eq_true]
   obtain⟨x,hx,hx2⟩:=hx
   exact⟨x,hpre.subset hx,by simpa using hx2⟩
  gi_wp2
  refine⟨by simp,.inl ⟨_,_,rfl,run_takeDeferred hK,?_⟩⟩
  rw[e]
  exact⟨_,results_tmp rfl _ _ _,rfl,hB.trans (belowK_b (w:=w) (Nat.le_refl _) W D _ _ (by omega) hK rfl rfl)⟩
open Go.Cx in
theorem Zxg (s:StoreR) (t:TxnR) (hP:Zu s) (hb:Zcb s) (hri:Zaj t.looks=true) (hk:t.looks.length<=1000000):Zd Tryz.prog 209 [.agg s.enc,.agg t.enc] (B (ZaZ s t)):=by
 refine⟨by simp,by simp,Ent.mk Tryz.func209 (by kernel_rfl) rfl,λZ κ w cargs r hr=> ?_⟩
 have hl:(sinceS s t.stamp).length<=2000000:=by have:=ZuA s t.stamp;have:=hb.l;omega
 cases hr with
 |cons h1 h2=>
 cases h2 with
 |cons h2 h3=>
 cases h3
 cases h1 with
 |agg h1=>
 cases h2 with
 |agg h2=>
 have h1':=h1
 have h2':=h2
 simp only[StoreR.enc] at h1'
 simp only[TxnR.enc,FSR.enc,List.cons_append,List.nil_append] at h2'
 cases h1' with
 |cons a0 h1'=>
 cases h1' with
 |cons a1 h1'=>
 cases h1' with
 |cons a2 h1'=>
 cases h1'
 cases a2 with
 |val _=>
 cases h2' with
 |cons c0 h2'=>
 cases c0 with
 |val _=>
 cases h2' with
 |cons c1 h2'=>
 cases h2' with
 |cons c2 h2'=>
 cases h2' with
 |cons c3 h2'=>
 cases h2' with
 |cons c4 h2'=>
 cases h2' with
 |cons c5 h2'=>
 cases h2'
 refine(callsIn_wide.1 (Zxf hP hb hl hri hk 3 (by omega) r (.cons (.agg h1) .nil) (.cons c5 .nil))).mono ?_
 rintro e W' ⟨rfl,hB⟩
 exact⟨_,_,Z,κ,_,⟨rfl,rfl⟩,rfl,r.later hB,.val rfl,Ext.of_below hB,.refl _ _⟩
end Go.Proofs.YtgpkaoombhobmaaGreat
namespace Go.Proofs.YtgpkaoombhobmaaGreat
open Go.Cx Tab
set_option maxHeartbeats 400000
set_option maxRecDepth 40000
abbrev hTup (x:HostR×ReplyR):AV:= .tup [.agg x.1.enc,encR x.2]
theorem setO_t (o:OpenR) (t:TxnR):setMany o.enc 4 t.enc=OpenR.enc {o with t:=t}:=rfl
theorem setO_last (o:OpenR) (r:ReplyR):setMany o.enc 10 r.enc=OpenR.enc {o with last:=r}:=rfl
theorem setO_n (o:OpenR) (n:Int):o.enc.set 3 (I n)=OpenR.enc {o with n:=n}:=rfl
theorem setO_until (o:OpenR) (n:Int):o.enc.set 16 (I n)=OpenR.enc {o with until_:=n}:=rfl
theorem setH_enc (f k:HostR):setMany f.enc 0 k.enc=k.enc:=rfl
theorem ZtH (h:HostR) (m:MsgR) (hr:Zn OpenR.client h.opens=true) (hl:h.opens.length<=100000) (hs:h.s.l.length<=2000000) (hw:IntKind.i64.wrap (h.now+h.lease)=h.now+h.lease):Zd Tryz.prog 148 [.agg h.enc,.agg m.enc] (hTup (beginH h m)):=by
 have h1:=ZgF h m.client hr (by omega)
 have h2:=Zfx h m hr (by omega)
 have h3:=ZE 12
 have h3b:=ZE 20
 have h4:=Zxc h.s hs
 have h5:=Zpf h (openS h m) hr hl
 have eo:AV.agg (openS h m).enc= .agg [I m.client,I m.epoch,I m.seq,I 0,I (beginS h.s).stamp,encL NodeR.enc (beginS h.s).was.l,I (beginS h.s).was.next,encL NodeR.enc (beginS h.s).now.l,I (beginS h.s).now.next,enc1 I (beginS h.s).looks,I 0,I 0,I 0,I 0,S .empty,.sl false 0 [],I (h.now+h.lease)]:=rfl
 unfold beginH
 generalize openS h m=u at*
 generalize beginS h.s=b at*
 generalize withO h u=k at*
 rw[eo] at h5
 cases hx:ZcK h m.client with
 |none=>
  rw[hx] at h1
  rw[ZfW hx] at h2
  simp only[oTup,Option.getD_none,Option.isSome_none] at h1
  refine Pm Tryz.func148 λhfit=> ?_
  have d1_:=D0 4 7 [] []
  have d2_:=D0 6 2 [] []
  have d3_:=D0 8 2 [] []
  have d4_:=D0 9 23 [] []
  simp[Tryz.f148]
  have s_:=An @hw (An @repA.eq_1 (An @TxnR.enc.eq_1 (An @FSR.enc.eq_1 (@ReplyR.enc.eq_1))))
  have e1_:=D0 4 7 [2,3] []
  have e2_:=D0 6 4 [2,3] []
  have e3_:=D0 8 4 [2,3] []
  have e4_:=D0 9 23 [2,3] []
  exact WW
 |some o=>
  rw[hx] at h1
  rw[ZcL hx] at h2
  simp only[oTup,Option.getD_some,Option.isSome_some] at h1
  simp only at h2⊢
  generalize isO o m=is at*
  generalize lateO h o m=lt at*
  by_cases q1:m.epoch<=o.epoch
  all_goals
   refine Pm Tryz.func148 λhfit=> ?_
   have d1_:=D0 4 7 [] []
   have d2_:=D0 6 2 [] []
   have d3_:=D0 8 2 [] []
   have d4_:=D0 9 23 [] []
   simp[Tryz.f148]
   have s_:=An @q1 (An @hw (An @repA.eq_1 (An @TxnR.enc.eq_1 (An @FSR.enc.eq_1 (@ReplyR.enc.eq_1)))))
   have e1_:=D0 4 7 [2,3] []
   have e2_:=D0 6 4 [2,3] []
   have e3_:=D0 8 4 [2,3] []
   have e4_:=D0 9 23 [2,3] []
   have p1_:=h3b
   exact WW
theorem ZtI (h:HostR) (m:MsgR) (hr:Zn OpenR.client h.opens=true) (hl:h.opens.length<=100000):Zd Tryz.prog 37 [.agg h.enc,.agg m.enc] (I (mayCallS h m)):=by
 have h2:=Zfx h m hr (by omega)
 unfold mayCallS
 cases hx:ZcK h m.client with
 |none=>
  rw[ZfW hx] at h2
  refine Pm Tryz.func37 λhfit=> ?_
  simp[Tryz.f37]
  exact WW
 |some o=>
  rw[ZcL hx] at h2
  simp only at h2⊢
  generalize isO o m=is at*
  generalize lateO h o m=lt at*
  refine Pm Tryz.func37 λhfit=> ?_
  simp[Tryz.f37]
  exact WW
structure _root_.Go.Cx.Fit (o:OpenR):Prop where
 t:TxnP o.t
 next:o.t.now.next<4611686018427387904
 looks:o.t.looks.length<=900000
theorem Zwl (h:HostR) (m:MsgR) (hr:Zn OpenR.client h.opens=true) (hl:h.opens.length<=100000) (hf:∀o∈h.opens,Fit o) (hm:m.c.wf) (hw:IntKind.i64.wrap (h.now+h.lease)=h.now+h.lease):Zd Tryz.prog 149 [.agg h.enc,.agg m.enc] (hTup (callS h m)):=by
 have h2:=Zfx h m hr (by omega)
 have h3:=ZtI h m hr hl
 unfold callS
 by_cases q:mayCallS h m=0
 case neg=>
  have h4:=ZE (mayCallS h m)
  rw[if_pos q]
  generalize mayCallS h m=e at*
  generalize ownMsg h m=u at*
  refine Pm Tryz.func149 λhfit=> ?_
  have d1_:=D0 4 3 [] []
  have d2_:=D0 6 5 [] []
  have d3_:=D0 8 11 [] []
  have d4_:=D0 9 7 [] []
  simp[Tryz.f149]
  have s_:=q
  have e1_:=D0 4 5 [2,3] []
  have e2_:=D0 6 5 [2,3] []
  have e3_:=D0 8 11 [4] []
  have e4_:=D0 9 7 [2,3] []
  exact WW
 rw[if_neg (by simpa using q)]
 rw[q] at h3
 obtain⟨o,ho,oi,ol,_⟩:=Zpb q
 rw[ho]
 rw[ZcL ho,oi,ol] at h2
 simp only
 by_cases k:m.n=o.n
 ·rw[if_pos k]
  refine Pm Tryz.func149 λhfit=> ?_
  have d1_:=D0 4 3 [] []
  have d2_:=D0 6 5 [] []
  have d3_:=D0 8 11 [] []
  have d4_:=D0 9 7 [] []
  simp[Tryz.f149]
  have s_:=k
  have e1_:=D0 4 5 [2,3] []
  have e2_:=D0 6 5 [2,3] []
  have e3_:=D0 8 11 [4] []
  have e4_:=D0 9 7 [2,3] []
  exact WW
 rw[if_neg k]
 have F:=hf o (ZA OpenR.client ho).1
 have h5:=ZmY o.t m.c F.t.nrows F.t.ntree F.next (by have:=F.looks;omega) hm
 have h6:=Zpf h (ZqN h o m) hr hl
 unfold ZqN at h6⊢
 generalize stepS o.t m.c=X at*
 generalize hK:withO h _=K at*
 refine Pm Tryz.func149 λhfit=> ?_
 have d1_:=D0 4 3 [] []
 have d2_:=D0 6 5 [] []
 have d3_:=D0 8 11 [] []
 have d4_:=D0 9 7 [] []
 simp[Tryz.f149]
 have s_:=An @k (An @hw (An @setO_t (An @setO_last (An @setO_n (@setO_until)))))
 have e1_:=D0 4 5 [2,3] []
 have e2_:=D0 6 5 [2,3] []
 have e3_:=D0 8 11 [4] []
 have e4_:=D0 9 7 [2,3] []
 exact WW
theorem ZnI (o:OpenR) (m:MsgR):Zd Tryz.prog 181 [.agg o.enc,.fp m.enc] (B (decide (o.client=m.client))):=by
 refine Pm Tryz.func181 λhfit=> ?_
 simp[Tryz.f181]
theorem try_not {h:HostR} {m:MsgR} (hn:¬(m.kind=3/\(ownMsg h m).2.1=true/\(ownMsg h m).2.2=false/\(ownMsg h m).1.n=m.n)):tryS h m=(h.s,false):=by
 unfold tryS
 split
 ·rfl
 ·rename_i o ho
  rw[if_neg]
  rintro⟨h1,h2,h3,h4,_⟩
  rw[ZcL ho] at hn
  exact hn ⟨h1,h2,by simp[h2,h3],h4⟩
theorem try_yes {h:HostR} {m:MsgR} (hn:m.kind=3/\(ownMsg h m).2.1=true/\(ownMsg h m).2.2=false/\(ownMsg h m).1.n=m.n):ZcK h m.client=some (ownMsg h m).1/\tryS h m=if(commitS h.s (ownMsg h m).1.t).2=0 then((commitS h.s (ownMsg h m).1.t).1,true) else(h.s,false):=by
 unfold tryS
 obtain⟨h1,h2,h3,h4⟩:=hn
 cases hx:ZcK h m.client with
 |none=>rw[ZfW hx] at h2;cases h2
 |some o=>
  rw[ZcL hx] at h2 h3 h4⊢
  simp only at h2 h3 h4⊢
  have h3':lateO h o m=false:=by rw[h2] at h3;simpa using h3
  refine⟨by first|trivial|rfl,?_⟩
  by_cases z:(commitS h.s o.t).2=0
  ·rw[if_pos ⟨h1,h2,h3',h4,z⟩,if_pos z]
  ·rw[if_neg (λg=>z g.2.2.2.2),if_neg z]
theorem ZqT (h:HostR) (m:MsgR) (hr:Zn OpenR.client h.opens=true) (hl:h.opens.length<=100000) (hf:∀o∈h.opens,Fit o) (hP:Zu h.s) (hb:Zap 90000 h.s) (hs:h.s.stamp<4611686018427387904) (hR:Zar h.rows):Zd Tryz.prog 150 [.agg h.enc,.agg m.enc] (hTup (decideH h m)):=by
 have h2:=Zfx h m hr (by omega)
 have h3:=ZE 20
 have h4:=ZE 16
 have h5:=ZE 15
 have hdel:=ZhV h.opens 181 [.ptr 1 0 0] [.fp m.enc] [.cells 0 m.enc] (λx=>decide (x.client=m.client)) (by simp) (by simp) (by simp) (λfu b0 tl=>by simp) (λx _=>ZnI x m) (by omega)
 have hcl:=Zfw h.opens (by omega)
 by_cases hc:m.kind=3/\(ownMsg h m).2.1=true/\(ownMsg h m).2.2=false/\(ownMsg h m).1.n=m.n
 ·obtain⟨ho,ht⟩:=try_yes hc
  have F:=hf _ (ZA OpenR.client ho).1
  have h6:=ZuB h.s (ownMsg h m).1.t hP (hb.mono (by omega)) (by omega) F.t (Zxg h.s _ hP (hb.b (by omega)) F.t.rise (by have:=F.looks;omega))
  unfold decideH Zbr
  rw[ht]
  obtain⟨c1,c2,c3,c4⟩:=hc
  have c5:¬m.kind=5:=by omega
  rw[if_neg (λg=>c5 g.1),c2]
  generalize ownMsg h m=u at*
  obtain⟨o,is,late⟩:=u
  simp only at c2 c3 c4 h6 F ho⊢
  subst c2 c3
  clear ho ht F
  by_cases z:(commitS h.s o.t).2=0
  ·rw[if_pos z]
   have h7:=Zii h.rows m.client m.epoch m.seq true hR
   have h8:=ZE (decideS h.rows m.client m.epoch m.seq true).2.2
   generalize commitS h.s o.t=C at*
   generalize decideS h.rows m.client m.epoch m.seq true=D at*
   refine Pm Tryz.func150 λhfit=> ?_
   have d1_:=D0 3 2 [] []
   have d2_:=D0 13 3 [] []
   have d3_:=D0 20 2 [] []
   have d4_:=D0 21 2 [] []
   simp[Tryz.f150]
   have s_:=An @c1 (An @c4 (An @z (An @encH7 (An @StoreR.enc.eq_1 (An @rep0.eq_1 (@ReplyR.enc.eq_1))))))
   have e1_:=D0 3 4 [2,3] []
   have e2_:=D0 13 5 [2,3] []
   have e3_:=D0 20 4 [2,3] []
   have e4_:=D0 21 4 [2,3] []
   have f1_:=F0 [] hcl
   have f2_:=F0 [7,1] hdel
   exact WW
  ·rw[if_neg z]
   have h7:=Zii h.rows m.client m.epoch m.seq false hR
   have h8:=ZE (decideS h.rows m.client m.epoch m.seq false).2.2
   generalize commitS h.s o.t=C at*
   generalize decideS h.rows m.client m.epoch m.seq false=D at*
   refine Pm Tryz.func150 λhfit=> ?_
   have d1_:=D0 3 2 [] []
   have d2_:=D0 13 3 [] []
   have d3_:=D0 20 2 [] []
   have d4_:=D0 21 2 [] []
   simp[Tryz.f150]
   have s_:=An @c1 (An @c4 (An @z (@encH7)))
   have e1_:=D0 3 4 [2,3] []
   have e2_:=D0 13 5 [2,3] []
   have e3_:=D0 20 4 [2,3] []
   have e4_:=D0 21 4 [2,3] []
   have f1_:=F0 [] hcl
   have f2_:=F0 [7,1] hdel
   exact WW
 ·unfold decideH Zbr
  rw[try_not hc]
  have h7:=Zii h.rows m.client m.epoch m.seq false hR
  have h8:=ZE (decideS h.rows m.client m.epoch m.seq false).2.2
  generalize decideS h.rows m.client m.epoch m.seq false=D at*
  generalize ownMsg h m=u at*
  obtain⟨o,is,late⟩:=u
  simp only at hc h2⊢
  by_cases hx:m.kind=3/\is=true/\late=false
  ·obtain⟨c1,c2,c3⟩:=hx
   subst c2 c3
   have c4:¬o.n=m.n:=λg=>hc ⟨c1,rfl,rfl,g⟩
   refine Pm Tryz.func150 λhfit=> ?_
   have d1_:=D0 3 2 [] []
   have d2_:=D0 13 3 [] []
   have d3_:=D0 20 2 [] []
   have d4_:=D0 21 2 [] []
   simp[Tryz.f150]
   have s_:=An @c1 (An @c4 (@encH7))
   have e1_:=D0 3 4 [2,3] []
   have e2_:=D0 13 5 [2,3] []
   have e3_:=D0 20 4 [2,3] []
   have e4_:=D0 21 4 [2,3] []
   have f1_:=F0 [] hcl
   have f2_:=F0 [6,1] hdel
   exact WW
  have hk:m.kind=3\/m.kind=5\/(¬m.kind=3/\¬m.kind=5):=by omega
  rcases hk with c1|c1|c1<;>cases is<;>cases late<;>first|(exfalso;exact hx ⟨c1,rfl,rfl⟩)|skip
  all_goals
   refine Pm Tryz.func150 λhfit=> ?_
   simp[Tryz.f150]
   have s_:=An @c1 (@encH7)
   try simp[s_]
   repeat' ((first|((first|refine Tp ?_|refine Tn ?_|refine T2 ?_ ?_)<;>intro h_ e_ n_)|(refine AInv.fresh [] hcl (by simp) (by simp) ?_;simp)|(refine AInv.fresh [6,1] hdel (by simp) (by simp) ?_;simp)|refine Pg h2 ?_|refine Pg h3 ?_|refine Pg h4 ?_|refine Pg h7 ?_|refine Pg h8 ?_|refine Pg h5 ?_|refine Dg 3 4 [2,3] [] ?_|refine Dg 13 5 [2,3] [] ?_|refine Dg 20 4 [2,3] [] ?_|refine Dg 21 4 [2,3] [] ?_|rw[Ip]|rw[In]|rw[Fz]|rw[Gz]|fail)<;>first|simp[e_,n_,s_]|simp[s_]|skip)
abbrev waysM:AV:= .fmap [I 1,I 2,I 3,I 4,I 5] [.fn 148 [],.fn 149 [],.fn 150 [],.fn 150 [],.fn 150 []]
theorem ways_ok:Zd Tryz.prog 79 [] waysM:=by
 refine Pm Tryz.func79 λhfit=> ?_
 simp[Tryz.f79]
structure _root_.Go.Cx.FitH (h:HostR):Prop where
 rise:Zn OpenR.client h.opens=true
 few:h.opens.length<=100000
 opens:∀o∈h.opens,Fit o
 store:Zu h.s
 vers:Zap 90000 h.s
 stamp:h.s.stamp<4611686018427387904
 rows:Zar h.rows
 lease:IntKind.i64.wrap (h.now+h.lease)=h.now+h.lease
theorem ZtJ (h:HostR) (m:MsgR) (F:FitH h) (hm:m.c.wf):Zd Tryz.prog 38 [.agg h.enc,.agg m.enc] (hTup (answerS h m)):=by
 have h0:=ways_ok
 have h1:=Zuw h.rows m.client m.epoch m.seq F.rows
 have h2:=Zuv h.rows m.client m.epoch m.seq F.rows
 have h3:=ZtH h m F.rise F.few (by have:=F.vers.l;omega) F.lease
 have h4:=Zwl h m F.rise F.few F.opens hm F.lease
 have h5:=ZqT h m F.rise F.few F.opens F.store F.vers F.stamp F.rows
 unfold answerS
 by_cases k6:m.kind=6
 ·have h6:=ZE (forgetS h.rows m.client m.epoch m.seq).2
  rw[if_pos k6]
  clear h2 h3 h4 h5 h0
  generalize forgetS h.rows m.client m.epoch m.seq=X at*
  refine Pm Tryz.func38 λhfit=> ?_
  have d1_:=D0 4 3 [] []
  have d2_:=D0 6 9 [] []
  have d3_:=D0 8 3 [] []
  have d4_:=D0 10 2 [] []
  have d5_:=D0 14 2 [] []
  have d6_:=D0 17 2 [] []
  simp[Tryz.f38]
  have s_:=An @k6 (@encH7)
  have e1_:=D0 4 5 [2,3] []
  have e2_:=D0 8 5 [2,3] []
  have e3_:=D0 10 4 [2,3] []
  have e4_:=D0 14 4 [2,3] []
  have e5_:=D0 17 4 [2,3] []
  exact WW
 rw[if_neg k6]
 clear h1
 have h6:=ZE (askS h.rows m.client m.epoch m.seq).2
 have h7:=ZE 1
 have h8:=ZE 7
 have h9:=ZE 15
 generalize askS h.rows m.client m.epoch m.seq=X at*
 obtain⟨y,e⟩:=X
 simp only at h2 h6⊢
 generalize beginH h m=b1 at*
 generalize callS h m=b2 at*
 generalize decideH h m=b3 at*
 have hk0:m.kind=1\/m.kind=2\/m.kind=3\/m.kind=4\/m.kind=5\/(¬m.kind=1/\¬m.kind=2/\¬m.kind=3/\¬m.kind=4/\¬m.kind=5/\(m.kind<1\/5<m.kind)):=by omega
 have hk:m.kind=1\/m.kind=2\/m.kind=3\/m.kind=4\/m.kind=5\/((m.kind==1)=false/\(m.kind==2)=false/\(m.kind==3)=false/\(m.kind==4)=false/\(m.kind==5)=false/\(m.kind<1\/5<m.kind)):=by
  simpa only[beq_eq_false_iff_ne,ne_eq] using hk0
 have he:(e=0)\/(e=6)\/(¬e=0/\¬e=6):=by omega
 rcases hk with c|c|c|c|c|c<;>rcases he with a|a|a<;>cases y
 all_goals
  refine Pm Tryz.func38 λhfit=> ?_
  have d1_:=D0 4 3 [] []
  have d2_:=D0 6 9 [] []
  have d3_:=D0 8 3 [] []
  have d4_:=D0 10 2 [] []
  have d5_:=D0 14 2 [] []
  have d6_:=D0 17 2 [] []
  simp[Tryz.f38]
  have s_:=An @k6 (An @c (An @a (An @rep0.eq_1 (@ReplyR.enc.eq_1))))
  have e1_:=D0 4 5 [2,3] []
  have e2_:=D0 8 5 [2,3] []
  have e3_:=D0 10 4 [2,3] []
  have e4_:=D0 14 4 [2,3] []
  have e5_:=D0 17 4 [2,3] []
  exact WW
theorem Zfy (h:HostR) (m:MsgR) (F:FitH h) (hm:m.c.wf):Zd Tryz.prog 11 [.agg h.enc,.agg m.enc] (.tup [.agg (ZeI h m).1.enc,.agg (ZeI h m).2.enc]):=by
 have h1:=Zuv h.rows m.client m.epoch m.seq F.rows
 have h2:=ZtI h m F.rise F.few
 have h3:=ZtJ h m F hm
 unfold ZeI nS
 generalize answerS h m=A at*
 generalize mayCallS h m=e at*
 generalize askS h.rows m.client m.epoch m.seq=X at*
 by_cases c:m.kind=2<;>by_cases a:X.2=6<;>by_cases b:e=0
 all_goals
  refine Pm Tryz.func11 λhfit=> ?_
  have d1_:=D0 6 14 [] []
  simp[Tryz.f11]
  have s_:=An @c (An @a (An @b (An @setH_enc (An @RspR.enc.eq_1 (@ReplyR.enc.eq_1)))))
  have e1_:=D0 6 14 [2,3] []
  exact WW
theorem Zwm (l:List Int) (g:FuncId) (cap:List AV) (p:Int->Bool) (hcap:cap.all neat=true) (hp:∀x∈l,Zd Tryz.prog g (I x::cap) (B (p x))) (hl:l.length<=1000000):Zd Tryz.prog 196 [enc1 I l,.fn g cap] (I (idxS p l)):=by
 refine Zd.mk (λ_=>false) Tryz.func196 rfl rfl rfl (Ent.mk Tryz.func196 (by kernel_rfl) rfl) (by simp[hcap]) (by simp) λhfit=> ?_
 simp at hfit
 simp[Tryz.f196]
 refine AW.loopG (lit:=λ_=>false) (λi:Nat=>⟨19,pat [(0,enc1 I l),(1,.fn g cap),(7,I l.length),(8,I i)],[]⟩) (λi=>l.length -i) (λi=>i<=l.length/\ZaM p i (l.drop i)=idxS p l) 0 ?_ ?_ ?_
 ·exact Wk.at _ rfl rfl (by simp)
 ·simp[idxS]
 rintro i ⟨h1,h2⟩ A hA
 by_cases hi:i<l.length
 case neg=>
  rw[ZbX hi] at h2
  have s_:=An @hi (Eq.symm (h2))
  exact WW
 rw[ZcG hi] at h2
 have hw:=Zh hi hfit.1
 have hpi:=hp l[i] (List.getElem_mem hi)
 cases hpp:p l[i] with
 |true=>
  rw[hpp] at hpi
  simp only[hpp,if_true] at h2
  have s_:=An @hi (An (Eq.symm (h2)) (@hpp))
  have p1_:=hpi
  exact WW
 |false=>
  rw[hpp] at hpi
  simp only[hpp,Bool.false_eq_true,if_false] at h2
  have s_:=An @hi (An @hw (@hpp))
  have q1_:=λs w=>hA (i+1) s w ⟨by omega,h2⟩ (by omega)
  have p1_:=hpi
  exact WW
theorem Zpg (l:List Int) (g:FuncId) (cap:List AV) (p:Int->Bool) (hcap:cap.all neat=true) (hp:∀x∈l,Zd Tryz.prog g (I x::cap) (B (p x))) (hl:l.length<=1000000):Zd Tryz.prog 157 [enc1 I l,.fn g cap] (B (l.any p)):=by
 have h1:=Zwm l g cap p hcap hp hl
 rw[show l.any p=decide (0<=idxS p l) from any_idx p l]
 generalize idxS p l=q at*
 refine Zd.mk (λ_=>false) Tryz.func157 rfl rfl rfl (Ent.mk Tryz.func157 (by kernel_rfl) rfl) (by simp[hcap]) (by simp) λhfit=> ?_
 simp[Tryz.f157]
 exact WW
theorem ZtK (l:List VerR) (i:Nat) (st:Int):Zd Tryz.prog 159 [I st,.fp [encL VerR.enc l],.fp [.fn 102 []],.fp [I i]] (B (decide (atS VerR.stamp l st=(i:Int)))):=by
 have h1:=atV_ok l st
 refine Pm Tryz.func159 λhfit=> ?_
 have d1_:=D0 1 7 [] []
 simp[Tryz.f159]
 exact WW
theorem Zwn (l:List VerR) (sts:List Int) (hs:sts.length<=1000000) (hl:l.length<=2000000):Zd Tryz.prog 101 [encL VerR.enc l,enc1 I sts,.fn 102 []] (encL VerR.enc (Zdd VerR.stamp l sts 0 l)):=by
 refine Pm Tryz.func101 λhfit=> ?_
 simp[Tryz.f101]
 try simp
 repeat' ((first|((first|refine Tp ?_|refine Tn ?_|refine T2 ?_ ?_)<;>intro h_ e_ n_)|rw[Ip]|rw[In]|rw[Fz]|rw[Gz]|fail)<;>first|simp[e_,n_]|simp|skip)
 refine AW.loopG (lit:=λ_=>false) (λx:Nat×List VerR=>⟨26,pat [(1,enc1 I sts),(3,.ptr 0 0 0),(5,.ptr 1 0 0),(7,.own 2 x.2.length 0 x.2.length 7),(10,encL VerR.enc l),(11,I l.length),(12,I x.1)],[.cells 0 [encL VerR.enc l],.cells 0 [.fn 102 []],.cells x.2.length (x.2.flatMap VerR.enc)]⟩) (λx=>l.length -x.1)
  (λx=>x.1<=l.length/\x.2.length<=x.1/\x.2++Zdd VerR.stamp l sts x.1 (l.drop x.1)=Zdd VerR.stamp l sts 0 l) (0,[]) ?_ ?_ ?_
 ·exact Wk.trans (Wk.ownNil 7 7 (by simp)) Wa
 ·exact⟨Nat.zero_le _,by simp,by simp⟩
 rintro⟨i,acc⟩ ⟨g1,g2,g3⟩ A hA
 simp only at g1 g2 g3 hA
 by_cases hi:i<l.length
 case neg=>
  rw[List.drop_eq_nil_of_le (by omega)] at g3
  simp only[Zdd,List.append_nil] at g3
  subst g3
  have s_:=hi
  exact WW
 rw[List.drop_eq_getElem_cons hi] at g3
 have hwi:=Zh hi (by simp only[maxLen];omega)
 have hm:acc.length+1<=maxLen:=by simp only[maxLen];omega
 have hc:=Zpg sts 159 [.fp [encL VerR.enc l],.fp [.fn 102 []],.fp [I i]] (λst=>decide (atS VerR.stamp l st=(i:Int))) (by simp) (λst _=>ZtK l i st) hs
 have hal:(acc++[l[i]]).length=acc.length+1:=by simp
 cases hb:sts.any (λst=>decide (atS VerR.stamp l st=(i:Int))) with
 |true=>
  rw[hb] at hc
  rw[Zdd,if_pos hb] at g3
  have s_:=An @hi (An @hwi (@hm))
  try simp[s_]
  repeat' ((first|((first|refine Tp ?_|refine Tn ?_|refine T2 ?_ ?_)<;>intro h_ e_ n_)|(exact hA (i+1,acc++[l[i]]) _ Wc ⟨hi,by simp only[hal];omega,by simpa using g3⟩ (by simp only;omega))|refine Lg hc ?_|refine Sg hc ?_|rw[Ip]|rw[In]|rw[Fz]|rw[Gz]|fail)<;>first|simp[e_,n_,s_]|simp[s_]|skip)
 |false=>
  rw[hb] at hc
  rw[Zdd,if_neg (by rw[hb];simp)] at g3
  have s_:=An @hi (An @hwi (@hm))
  try simp[s_]
  repeat' ((first|((first|refine Tp ?_|refine Tn ?_|refine T2 ?_ ?_)<;>intro h_ e_ n_)|(exact hA (i+1,acc) _ Wc ⟨hi,by simp only;omega,g3⟩ (by simp only;omega))|refine Lg hc ?_|refine Sg hc ?_|rw[Ip]|rw[In]|rw[Fz]|rw[Gz]|fail)<;>first|simp[e_,n_,s_]|simp[s_]|skip)
theorem ZtL (l:List CountR) (i:Nat) (st:Int):Zd Tryz.prog 158 [I st,.fp [encL CountR.enc l],.fp [.fn 100 []],.fp [I i]] (B (decide (atS CountR.stamp l st=(i:Int)))):=by
 have h1:=atC_ok l st
 refine Pm Tryz.func158 λhfit=> ?_
 have d1_:=D0 1 7 [] []
 simp[Tryz.f158]
 exact WW
theorem Zwo (l:List CountR) (sts:List Int) (hs:sts.length<=1000000) (hl:l.length<=2000000):Zd Tryz.prog 99 [encL CountR.enc l,enc1 I sts,.fn 100 []] (encL CountR.enc (Zdd CountR.stamp l sts 0 l)):=by
 refine Pm Tryz.func99 λhfit=> ?_
 simp[Tryz.f99]
 try simp
 repeat' ((first|((first|refine Tp ?_|refine Tn ?_|refine T2 ?_ ?_)<;>intro h_ e_ n_)|rw[Ip]|rw[In]|rw[Fz]|rw[Gz]|fail)<;>first|simp[e_,n_]|simp|skip)
 refine AW.loopG (lit:=λ_=>false) (λx:Nat×List CountR=>⟨26,pat [(1,enc1 I sts),(3,.ptr 0 0 0),(5,.ptr 1 0 0),(7,.own 2 x.2.length 0 x.2.length 2),(10,encL CountR.enc l),(11,I l.length),(12,I x.1)],[.cells 0 [encL CountR.enc l],.cells 0 [.fn 100 []],.cells x.2.length (x.2.flatMap CountR.enc)]⟩) (λx=>l.length -x.1)
  (λx=>x.1<=l.length/\x.2.length<=x.1/\x.2++Zdd CountR.stamp l sts x.1 (l.drop x.1)=Zdd CountR.stamp l sts 0 l) (0,[]) ?_ ?_ ?_
 ·exact Wk.trans (Wk.ownNil 7 2 (by simp)) Wa
 ·exact⟨Nat.zero_le _,by simp,by simp⟩
 rintro⟨i,acc⟩ ⟨g1,g2,g3⟩ A hA
 simp only at g1 g2 g3 hA
 by_cases hi:i<l.length
 case neg=>
  rw[List.drop_eq_nil_of_le (by omega)] at g3
  simp only[Zdd,List.append_nil] at g3
  subst g3
  have s_:=hi
  exact WW
 rw[List.drop_eq_getElem_cons hi] at g3
 have hwi:=Zh hi (by simp only[maxLen];omega)
 have hm:acc.length+1<=maxLen:=by simp only[maxLen];omega
 have hc:=Zpg sts 158 [.fp [encL CountR.enc l],.fp [.fn 100 []],.fp [I i]] (λst=>decide (atS CountR.stamp l st=(i:Int))) (by simp) (λst _=>ZtL l i st) hs
 have hal:(acc++[l[i]]).length=acc.length+1:=by simp
 cases hb:sts.any (λst=>decide (atS CountR.stamp l st=(i:Int))) with
 |true=>
  rw[hb] at hc
  rw[Zdd,if_pos hb] at g3
  have s_:=An @hi (An @hwi (@hm))
  try simp[s_]
  repeat' ((first|((first|refine Tp ?_|refine Tn ?_|refine T2 ?_ ?_)<;>intro h_ e_ n_)|(exact hA (i+1,acc++[l[i]]) _ Wc ⟨hi,by simp only[hal];omega,by simpa using g3⟩ (by simp only;omega))|refine Lg hc ?_|refine Sg hc ?_|rw[Ip]|rw[In]|rw[Fz]|rw[Gz]|fail)<;>first|simp[e_,n_,s_]|simp[s_]|skip)
 |false=>
  rw[hb] at hc
  rw[Zdd,if_neg (by rw[hb];simp)] at g3
  have s_:=An @hi (An @hwi (@hm))
  try simp[s_]
  repeat' ((first|((first|refine Tp ?_|refine Tn ?_|refine T2 ?_ ?_)<;>intro h_ e_ n_)|(exact hA (i+1,acc) _ Wc ⟨hi,by simp only;omega,g3⟩ (by simp only;omega))|refine Lg hc ?_|refine Sg hc ?_|rw[Ip]|rw[In]|rw[Fz]|rw[Gz]|fail)<;>first|simp[e_,n_,s_]|simp[s_]|skip)
def fewT:Int->List RowR->Bool
 |n,[]=>decide (n<=400)
 |n,x::l=>if n<=400 then fewT (IntKind.i64.wrap (n+x.l.length)) l else false
theorem ZwW {l:List RowR} {n:Int} {i:Nat} (h:¬i<l.length):fewT n (l.drop i)=decide (n<=400):=by
 rw[List.drop_eq_nil_of_le (by omega),fewT]
theorem fewT_at {l:List RowR} {n:Int} {i:Nat} (h:i<l.length):fewT n (l.drop i)=if n<=400 then fewT (IntKind.i64.wrap (n+l[i].l.length)) (l.drop (i+1)) else false:=by
 rw[List.drop_eq_getElem_cons h,fewT]
theorem ZwX (l:List RowR):Zd Tryz.prog 26 [encL RowR.enc l] (B (fewT l.length l)):=by
 refine Pm Tryz.func26 λhfit=> ?_
 simp at hfit
 have hll:=hfit.1
 simp only[maxLen] at hll
 simp[Tryz.f26]
 refine AW.loopG (lit:=λ_=>false) (λx:Nat×Int=>⟨27,pat [(0,encL RowR.enc l),(3,I x.2),(4,I x.1)],[]⟩) (λx=>l.length -x.1) (λx=>x.1<=l.length/\fewT x.2 (l.drop x.1)=fewT l.length l) (0,(l.length:Int)) ?_ ?_ ?_
 ·exact Wa
 ·simp
 rintro⟨i,n⟩ ⟨h1,h2⟩ A hA
 simp only at h1 h2
 by_cases hi:i<l.length
 case neg=>
  rw[ZwW hi] at h2
  have s_:=An @hi (Eq.symm (h2))
  exact WW
 rw[fewT_at hi] at h2
 by_cases hn:n<=400
 case neg=>
  rw[if_neg hn] at h2
  have s_:=An @hi (An @hn (Eq.symm (h2)))
  exact WW
 rw[if_pos hn] at h2
 have hw2:=Zh hi hfit.1
 have s_:=An @hi (An @hn (An @RowR.enc.eq_1 (@hw2)))
 try simp[s_]
 repeat' ((first|((first|refine Tp ?_|refine Tn ?_|refine T2 ?_ ?_)<;>intro h_ e_ n_)|(exact hA (i+1,IntKind.i64.wrap (n+l[i].l.length)) _ Wa ⟨by simp only;omega,h2⟩ (by simp only;omega))|rw[Ip]|rw[In]|rw[Fz]|rw[Gz]|fail)<;>first|simp[e_,n_,s_]|simp[s_]|skip)
noncomputable def rightT (l:List RowR):Bool:= @decide (Zar l) (Classical.propDecidable _)
theorem ZjA (l:List RowR):rightT l=true↔Zar l:=by simp[rightT]
theorem ZdG {l:List RowR} (h:¬Zar l):rightT l=false:=by simp[rightT,h]
theorem ZdH {α:Type} (key:α->Int):∀{l:List α},(∀i (h:i+1<l.length),key l[i]<key l[i+1])->Zn key l=true
 |[],_=>rfl
 |[_],_=>rfl
 |a::b::l,h=>by
  simp only[Zn,Bool.and_eq_true,decide_eq_true_eq]
  refine⟨by have:=h 0 (by simp);simpa using this,ZdH key λi hi=> ?_⟩
  have:=h (i+1) (by simpa using hi)
  simpa using this
def _root_.Go.Cx.DecisionR.vals (c:DecisionR):List Value:=[.int .i64 c.seq,.bool c.yes]
abbrev decK:List TypeDesc:=[.int .i64,.bool]
theorem _root_.Go.Cx.DecisionR.kinds (c:DecisionR):ZbW decK c.vals:= .cons rfl (.cons rfl .nil)
theorem _root_.Go.Cx.DecisionR.vals_eq (a b:DecisionR):a.vals=b.vals↔a=b:=by
 cases a;cases b;simp[DecisionR.vals]
@[simp] theorem dec_neq {P:Program} {t:TypeId} (ox oy:Operand) (ht:Zik P t=some decK) (hg:tagg P t=some true) (a b:DecisionR):abin P .neq t ox oy (.agg a.enc) (.agg b.enc)=some (.val (.bool (!decide (a=b)))):=by
 have:=(ZmF ht hg a.kinds b.kinds ox oy).2
 have e:decide (a.vals=b.vals)=decide (a=b):=by rw[decide_eq_decide];exact DecisionR.vals_eq a b
 rw[e] at this;exact this
theorem ZrA (l:List RowR) (R:Zar l):Zd Tryz.prog 43 [encL RowR.enc l,encL RowR.enc l] (B true):=by
 refine Pm Tryz.func43 λhfit=> ?_
 have d1_:=D0 6 52 [] []
 have d2_:=D0 11 17 [] []
 simp at hfit
 simp[Tryz.f43]
 refine AW.loopG (lit:=λ_=>false) (λi:Nat=>⟨97,pat [(0,encL RowR.enc l),(1,encL RowR.enc l),(5,I i)],[]⟩) (λi=>l.length -i) (λi=>i<=l.length) 0 ?_ ?_ ?_
 ·exact Wa
 ·simp
 rintro i h1 A hA
 by_cases hi:i<l.length
 case neg=>
  have s_:=hi
  exact WW
 have hw2:=Zh hi hfit.1
 have hlen:=(R.ok _ (List.getElem_mem hi)).len
 have s_:=An @hi (@RowR.enc.eq_1)
 try simp[s_]
 repeat' ((first|((first|refine Tp ?_|refine Tn ?_|refine T2 ?_ ?_)<;>intro h_ e_ n_)|refine Dg 6 52 [] [] ?_|refine Dg 11 17 [] [] ?_|rw[Ip]|rw[In]|rw[Fz]|rw[Gz]|fail)<;>first|simp[e_,n_,s_]|simp[s_]|skip)
 refine AW.loopG (lit:=λ_=>false) (λj:Nat=>⟨97,pat [(0,encL RowR.enc l),(1,encL RowR.enc l),(5,I i),(6,I j)],[]⟩) (λj=>l[i].l.length -j) (λj=>j<=l[i].l.length) 0 ?_ ?_ ?_
 ·exact Wa
 ·simp
 rintro j h2 A2 hA2
 by_cases hj:j<l[i].l.length
 case neg=>
  have s_:=An @hi (An @hj (An @hw2 (@RowR.enc.eq_1)))
  have q1_:=λs w=>hA (i+1) s w hi (by omega)
  exact WW
 have hw3:=Zh hj (by simp only[maxLen];omega)
 have s_:=An @hi (An @hj (An @hw3 (An @RowR.enc.eq_1 (@decK.eq_1))))
 have q1_:=λs w=>hA2 (j+1) s w hj (by omega)
 exact WW
theorem ZnZ (l:List RowR):Zd Tryz.prog 41 [encL RowR.enc l] (B (rightT l)):=by
 refine Pm Tryz.func41 λhfit=> ?_
 have d1_:=D0 7 34 [] []
 have d2_:=D0 12 29 [] []
 simp at hfit
 simp[Tryz.f41]
 by_cases hl:64<l.length
 ·have hf:rightT l=false:=ZdG λR=>by have:=R.len;omega
  have s_:=An @hl (@hf)
  exact WW
 have s_:=hl
 try simp[s_]
 repeat' ((first|((first|refine Tp ?_|refine Tn ?_|refine T2 ?_ ?_)<;>intro h_ e_ n_)|refine Dg 7 34 [] [] ?_|refine Dg 12 29 [] [] ?_|rw[Ip]|rw[In]|rw[Fz]|rw[Gz]|fail)<;>first|simp[e_,n_,s_]|simp[s_]|skip)
 refine AW.loopG (lit:=λ_=>false) (λi:Nat=>⟨89,pat [(0,encL RowR.enc l),(3,I i)],[]⟩) (λi=>l.length -i) (λi=>i<=l.length/\(∀k (h:k<l.length),k<i->Zhr l[k])/\(∀k (h:k+1<l.length),k+1<i->l[k].client<l[k+1].client)) 0 ?_ ?_ ?_
 ·exact Wa
 ·exact⟨by simp,λk _ h=>by omega,λk _ h=>by omega⟩
 rintro i ⟨h1,h2,h3⟩ A hA
 by_cases hi:i<l.length
 case neg=>
  have hf:rightT l=true:=(ZjA l).2 ⟨by omega,ZdH _ λk h=>h3 k h (by omega),λr hr=>by obtain⟨k,hk,rfl⟩:=List.getElem_of_mem hr;exact h2 k hk (by omega)⟩
  have s_:=An @hi (@hf)
  exact WW
 have hw2:=Zh hi hfit.1
 have bad:¬Zhr l[i]->rightT l=false:=λh=>ZdG λR=>h (R.ok _ (List.getElem_mem hi))
 by_cases c1:l[i].client<0
 ·have hf:=bad λo=>by have:=o.client;omega
  have s_:=An @hi (An @RowR.enc.eq_1 (An @c1 (@hf)))
  exact WW
 by_cases c2:l[i].epoch<1
 ·have hf:=bad λo=>by have:=o.epoch;omega
  have s_:=An @hi (An @RowR.enc.eq_1 (An @c1 (An @c2 (@hf))))
  exact WW
 by_cases c3:l[i].done<0
 ·have hf:=bad λo=>by have:=o.done;omega
  have s_:=An @hi (An @RowR.enc.eq_1 (An @c1 (An @c2 (An @c3 (@hf)))))
  exact WW
 by_cases c4:256<l[i].l.length
 ·have hf:=bad λo=>by have:=o.len;omega
  have s_:=An @hi (An @RowR.enc.eq_1 (An @c1 (An @c2 (An @c3 (An @c4 (@hf))))))
  exact WW
 cases i with
 |zero=>
  have s_:=An @hi (An @hw2 (An @RowR.enc.eq_1 (An @c1 (An @c2 (An @c3 (@c4))))))
  try simp[s_]
  repeat' ((first|((first|refine Tp ?_|refine Tn ?_|refine T2 ?_ ?_)<;>intro h_ e_ n_)|refine Dg 7 34 [] [] ?_|refine Dg 12 29 [] [] ?_|rw[Ip]|rw[In]|rw[Fz]|rw[Gz]|fail)<;>first|simp[e_,n_,s_]|simp[s_]|skip)
  refine AW.loopG (lit:=λ_=>false) (λj:Nat=>⟨89,pat [(0,encL RowR.enc l),(3,I ((0:Nat):Int)),(4,.ptr 0 0 0),(5,I j)],[.cells 0 [I l[0].client,I l[0].epoch,I l[0].done,encL DecisionR.enc l[0].l]]⟩) (λj=>l[0].l.length -j) (λj=>j<=l[0].l.length/\(∀k (h:k<l[0].l.length),k<j->l[0].done<l[0].l[k].seq)/\(∀k (h:k+1<l[0].l.length),k+1<j->l[0].l[k].seq<l[0].l[k+1].seq)) 0 ?_ ?_ ?_
  ·exact Wa
  ·exact⟨by simp,λk _ h=>by omega,λk _ h=>by omega⟩
  rintro j ⟨g1,g2,g3⟩ A2 hA2
  by_cases hj:j<l[0].l.length
  case neg=>
   have hok:Zhr l[0]:=⟨by omega,by omega,by omega,by omega,ZdH _ λk h=>g3 k h (by omega),λd hd=>by obtain⟨k,hk,rfl⟩:=List.getElem_of_mem hd;exact g2 k hk (by omega)⟩
   have s_:=An @hi (An @hj (@hw2))
   have q1_:=λs w=>hA (1) s w ⟨hi,λk h q=>by rcases Nat.lt_or_ge k 0 with q2|q2;(·exact h2 k h q2);(obtain rfl:k=0:=(by omega);exact hok),λk h q=>by omega⟩ (by omega)
   exact WW
  have hjw:=Zh hj (by simp only[maxLen];omega)
  by_cases d1:l[0].l[j].seq<=l[0].done
  ·have hf:=bad λo=>by have:=o.above _ (List.getElem_mem hj);omega
   have s_:=An @hi (An @hj (An @d1 (An @hf (@DecisionR.enc.eq_1))))
   exact WW
  cases j with
  |zero=>
   have s_:=An @hi (An @hj (An @d1 (An @hjw (@DecisionR.enc.eq_1))))
   have q1_:=λs w=>hA2 1 s w ⟨hj,λk h q=>by obtain rfl:k=0:=(by omega);omega,λk h q=>by omega⟩ (by omega)
   exact WW
  |succ j=>
   have hj0:j<l[0].l.length:=by omega
   have hj3:IntKind.i64.wrap ((j:Int)+1 -1)=(j:Int):=by rw[IntKind.wrap_i64];omega
   have hj4:IntKind.i64.wrap (j:Int)=(j:Int):=by rw[IntKind.wrap_i64];omega
   have hj5:IntKind.i64.wrap ((j:Int)+1+1)=(j:Int)+2:=by rw[IntKind.wrap_i64];omega
   by_cases d2:l[0].l[j+1].seq<=l[0].l[j].seq
   ·have hf:=bad λo=>by have:=Zag _ o.rise j (j+1) hj0 hj (by omega);omega
    have s_:=An @hi (An @hj (An @hj0 (An @hj3 (An @hj4 (An @d1 (An @d2 (An @hf (@DecisionR.enc.eq_1))))))))
    exact WW
   ·have s_:=An @hi (An @hj (An @hj0 (An @hj3 (An @hj4 (An @hj5 (An @d1 (An @d2 (@DecisionR.enc.eq_1))))))))
    have q1_:=λs w=>hA2 (j+2) s w ⟨hj,λk h q=>by rcases Nat.lt_or_ge k (j+1) with q2|q2;(·exact g2 k h q2);(obtain rfl:k=j+1:=(by omega);omega),λk h q=>by rcases Nat.lt_or_ge (k+1) (j+1) with q2|q2;(·exact g3 k h q2);(obtain rfl:k=j:=(by omega);omega)⟩ (by omega)
    exact WW
 |succ i=>
  have hi0:i<l.length:=by omega
  have hi3:IntKind.i64.wrap ((i:Int)+1 -1)=(i:Int):=by rw[IntKind.wrap_i64];omega
  have hi4:IntKind.i64.wrap (i:Int)=(i:Int):=by rw[IntKind.wrap_i64];omega
  have hw2:IntKind.i64.wrap ((i:Int)+1+1)=(i:Int)+2:=by rw[IntKind.wrap_i64];omega
  by_cases c5:l[i+1].client<=l[i].client
  ·have hf:rightT l=false:=ZdG λR=>by have:=Zag _ R.rise i (i+1) hi0 hi (by omega);omega
   have s_:=An @hi (An @hi0 (An @hi3 (An @hi4 (An @RowR.enc.eq_1 (An @c1 (An @c2 (An @c3 (An @c4 (An @c5 (@hf))))))))))
   exact WW
  have s_:=An @hi (An @hw2 (An @RowR.enc.eq_1 (An @c1 (An @c2 (An @c3 (An @c4 (An @c5 (An @hi0 (An @hi3 (@hi4))))))))))
  try simp[s_]
  repeat' ((first|((first|refine Tp ?_|refine Tn ?_|refine T2 ?_ ?_)<;>intro h_ e_ n_)|refine Dg 7 34 [] [] ?_|refine Dg 12 29 [] [] ?_|rw[Ip]|rw[In]|rw[Fz]|rw[Gz]|fail)<;>first|simp[e_,n_,s_]|simp[s_]|skip)
  refine AW.loopG (lit:=λ_=>false) (λj:Nat=>⟨89,pat [(0,encL RowR.enc l),(3,I ((i+1:Nat):Int)),(4,.ptr 0 0 0),(5,I j)],[.cells 0 [I l[i+1].client,I l[i+1].epoch,I l[i+1].done,encL DecisionR.enc l[i+1].l]]⟩) (λj=>l[i+1].l.length -j) (λj=>j<=l[i+1].l.length/\(∀k (h:k<l[i+1].l.length),k<j->l[i+1].done<l[i+1].l[k].seq)/\(∀k (h:k+1<l[i+1].l.length),k+1<j->l[i+1].l[k].seq<l[i+1].l[k+1].seq)) 0 ?_ ?_ ?_
  ·exact Wa
  ·exact⟨by simp,λk _ h=>by omega,λk _ h=>by omega⟩
  rintro j ⟨g1,g2,g3⟩ A2 hA2
  by_cases hj:j<l[i+1].l.length
  case neg=>
   have hok:Zhr l[i+1]:=⟨by omega,by omega,by omega,by omega,ZdH _ λk h=>g3 k h (by omega),λd hd=>by obtain⟨k,hk,rfl⟩:=List.getElem_of_mem hd;exact g2 k hk (by omega)⟩
   have s_:=An @hi (An @hj (@hw2))
   have q1_:=λs w=>hA (i+2) s w ⟨hi,λk h q=>by rcases Nat.lt_or_ge k (i+1) with q2|q2;(·exact h2 k h q2);(obtain rfl:k=i+1:=(by omega);exact hok),λk h q=>by rcases Nat.lt_or_ge (k+1) (i+1) with q2|q2;(·exact h3 k h q2);(obtain rfl:k=i:=(by omega);omega)⟩ (by omega)
   exact WW
  have hjw:=Zh hj (by simp only[maxLen];omega)
  by_cases d1:l[i+1].l[j].seq<=l[i+1].done
  ·have hf:=bad λo=>by have:=o.above _ (List.getElem_mem hj);omega
   have s_:=An @hi (An @hj (An @d1 (An @hf (@DecisionR.enc.eq_1))))
   exact WW
  cases j with
  |zero=>
   have s_:=An @hi (An @hj (An @d1 (An @hjw (@DecisionR.enc.eq_1))))
   have q1_:=λs w=>hA2 1 s w ⟨hj,λk h q=>by obtain rfl:k=0:=(by omega);omega,λk h q=>by omega⟩ (by omega)
   exact WW
  |succ j=>
   have hj0:j<l[i+1].l.length:=by omega
   have hj3:IntKind.i64.wrap ((j:Int)+1 -1)=(j:Int):=by rw[IntKind.wrap_i64];omega
   have hj4:IntKind.i64.wrap (j:Int)=(j:Int):=by rw[IntKind.wrap_i64];omega
   have hj5:IntKind.i64.wrap ((j:Int)+1+1)=(j:Int)+2:=by rw[IntKind.wrap_i64];omega
   by_cases d2:l[i+1].l[j+1].seq<=l[i+1].l[j].seq
   ·have hf:=bad λo=>by have:=Zag _ o.rise j (j+1) hj0 hj (by omega);omega
    have s_:=An @hi (An @hj (An @hj0 (An @hj3 (An @hj4 (An @d1 (An @d2 (An @hf (@DecisionR.enc.eq_1))))))))
    exact WW
   ·have s_:=An @hi (An @hj (An @hj0 (An @hj3 (An @hj4 (An @hj5 (An @d1 (An @d2 (@DecisionR.enc.eq_1))))))))
    have q1_:=λs w=>hA2 (j+2) s w ⟨hj,λk h q=>by rcases Nat.lt_or_ge k (j+1) with q2|q2;(·exact g2 k h q2);(obtain rfl:k=j+1:=(by omega);omega),λk h q=>by rcases Nat.lt_or_ge (k+1) (j+1) with q2|q2;(·exact g3 k h q2);(obtain rfl:k=j:=(by omega);omega)⟩ (by omega)
    exact WW
theorem Zmo {α:Type} {a b:List α} (hl:a.length=b.length) (h:∀k (h1:k<a.length) (h2:k<b.length),a[k]=b[k]):a=b:=List.ext_getElem hl h
theorem ZrB (a b:List RowR) (R:Zar a) (hne:¬a=b):Zd Tryz.prog 43 [encL RowR.enc a,encL RowR.enc b] (B false):=by
 refine Pm Tryz.func43 λhfit=> ?_
 have d1_:=D0 6 52 [] []
 have d2_:=D0 11 17 [] []
 simp at hfit
 simp[Tryz.f43]
 by_cases hl:a.length=b.length
 case neg=>
  have s_:=hl
  exact WW
 have s_:=hl
 try simp[s_]
 repeat' ((first|((first|refine Tp ?_|refine Tn ?_|refine T2 ?_ ?_)<;>intro h_ e_ n_)|refine Dg 6 52 [] [] ?_|refine Dg 11 17 [] [] ?_|rw[Ip]|rw[In]|rw[Fz]|rw[Gz]|fail)<;>first|simp[e_,n_,s_]|simp[s_]|skip)
 refine AW.loopG (lit:=λ_=>false) (λi:Nat=>⟨97,pat [(0,encL RowR.enc a),(1,encL RowR.enc b),(5,I i)],[]⟩) (λi=>b.length -i) (λi=>i<=b.length/\∀k (h1:k<a.length) (h2:k<b.length),k<i->a[k]=b[k]) 0 ?_ ?_ ?_
 ·exact Wk.at _ rfl (by simp[hl]) (by simp)
 ·exact⟨by simp,λk _ _ h=>by omega⟩
 rintro i ⟨h1,h2⟩ A hA
 by_cases hi:i<b.length
 case neg=>exact absurd (Zmo hl λk q1 q2=>h2 k q1 q2 (by omega)) hne
 have hi2:i<a.length:=by omega
 have hw2:=Zh hi (hl▸hfit.1.1)
 have hlen:=(R.ok _ (List.getElem_mem hi2)).len
 by_cases c1:a[i].client=b[i].client
 case neg=>
  have s_:=An @hi (An @hi2 (An @hl (An @RowR.enc.eq_1 (@c1))))
  exact WW
 by_cases c2:a[i].epoch=b[i].epoch
 case neg=>
  have s_:=An @hi (An @hi2 (An @hl (An @RowR.enc.eq_1 (An @c1 (@c2)))))
  exact WW
 by_cases c3:a[i].done=b[i].done
 case neg=>
  have s_:=An @hi (An @hi2 (An @hl (An @RowR.enc.eq_1 (An @c1 (An @c2 (@c3))))))
  exact WW
 by_cases c4:a[i].l.length=b[i].l.length
 case neg=>
  have s_:=An @hi (An @hi2 (An @hl (An @RowR.enc.eq_1 (An @c1 (An @c2 (An @c3 (@c4)))))))
  exact WW
 have s_:=An @hi (An @hi2 (An @hl (An @RowR.enc.eq_1 (An @c1 (An @c2 (An @c3 (@c4)))))))
 try simp[s_]
 repeat' ((first|((first|refine Tp ?_|refine Tn ?_|refine T2 ?_ ?_)<;>intro h_ e_ n_)|refine Dg 6 52 [] [] ?_|refine Dg 11 17 [] [] ?_|rw[Ip]|rw[In]|rw[Fz]|rw[Gz]|fail)<;>first|simp[e_,n_,s_]|simp[s_]|skip)
 refine AW.loopG (lit:=λ_=>false) (λj:Nat=>⟨97,pat [(0,encL RowR.enc a),(1,encL RowR.enc b),(5,I i),(6,I j)],[]⟩) (λj=>b[i].l.length -j) (λj=>j<=b[i].l.length/\∀k (h1:k<a[i].l.length) (h2:k<b[i].l.length),k<j->a[i].l[k]=b[i].l[k]) 0 ?_ ?_ ?_
 ·exact Wk.at _ rfl (by simp[hl]) (by simp)
 ·exact⟨by simp,λk _ _ h=>by omega⟩
 rintro j ⟨g1,g2⟩ A2 hA2
 by_cases hj:j<b[i].l.length
 case neg=>
  have he:a[i]=b[i]:=(RowR.eq_iff _ _).2 ⟨c1,c2,c3,Zmo c4 λk q1 q2=>g2 k q1 q2 (by omega)⟩
  have s_:=An @hi (An @hi2 (An @hj (An @hl (An @hw2 (An @c4 (@RowR.enc.eq_1))))))
  try simp[s_]
  repeat' ((first|((first|refine Tp ?_|refine Tn ?_|refine T2 ?_ ?_)<;>intro h_ e_ n_)|(exact hA (i+1) _ (Wk.at _ rfl (by simp[hl]) (by simp)) ⟨hi,λk q1 q2 q=>by rcases Nat.lt_or_ge k i with q3|q3;(·exact h2 k q1 q2 q3);(obtain rfl:k=i:=(by omega);exact he)⟩ (by omega))|refine Dg 6 52 [] [] ?_|refine Dg 11 17 [] [] ?_|rw[Ip]|rw[In]|rw[Fz]|rw[Gz]|fail)<;>first|simp[e_,n_,s_]|simp[s_]|skip)
 have hj2:j<a[i].l.length:=by omega
 have hw3:=Zh hj (by simp only[maxLen];omega)
 by_cases hs:a[i].l[j]=b[i].l[j]
 ·have s_:=An @hi (An @hi2 (An @hj (An @hj2 (An @hl (An @hw3 (An @hs (An @c4 (An @RowR.enc.eq_1 (@decK.eq_1)))))))))
  try simp[s_]
  repeat' ((first|((first|refine Tp ?_|refine Tn ?_|refine T2 ?_ ?_)<;>intro h_ e_ n_)|(exact hA2 (j+1) _ (Wk.at _ rfl (by simp[hl]) (by simp)) ⟨hj,λk q1 q2 q=>by rcases Nat.lt_or_ge k j with q3|q3;(·exact g2 k q1 q2 q3);(obtain rfl:k=j:=(by omega);exact hs)⟩ (by omega))|refine Dg 6 52 [] [] ?_|refine Dg 11 17 [] [] ?_|rw[Ip]|rw[In]|rw[Fz]|rw[Gz]|fail)<;>first|simp[e_,n_,s_]|simp[s_]|skip)
 ·have s_:=An @hi (An @hi2 (An @hj (An @hj2 (An @hl (An @hs (An @c4 (An @RowR.enc.eq_1 (@decK.eq_1))))))))
  exact WW
theorem Zoa (a b:List RowR) (R:Zar a):Zd Tryz.prog 43 [encL RowR.enc a,encL RowR.enc b] (B (decide (a=b))):=by
 by_cases h:a=b
 ·subst h;simpa using ZrA a R
 ·rw[decide_eq_false h];exact ZrB a b R h
theorem open_eq (x y:OpenR):decide (x=y)=(decide (x.t=y.t)&&(decide (x.last=y.last)&&(decide (x.client=y.client)&&(decide (x.epoch=y.epoch)&&(decide (x.seq=y.seq)&&(decide (x.n=y.n)&&decide (x.until_=y.until_))))))):=by
 rw[Bool.eq_iff_iff];simp only[Bool.and_eq_true,decide_eq_true_eq]
 cases x;cases y;simp only[OpenR.mk.injEq]
 constructor
 ·rintro⟨h1,h2,h3,h4,h5,h6,h7⟩;exact⟨h5,h6,h1,h2,h3,h4,h7⟩
 ·rintro⟨h5,h6,h1,h2,h3,h4,h7⟩;exact⟨h1,h2,h3,h4,h5,h6,h7⟩
theorem ZhW (x y:OpenR):Zd Tryz.prog 24 [.agg x.enc,.agg y.enc] (B (decide (x=y))):=by
 have h1:=Zuz x.t y.t
 have h2:=ZwJ x.last y.last
 rw[open_eq]
 generalize decide (x.t=y.t)=b1 at*
 generalize decide (x.last=y.last)=b2 at*
 refine Pm Tryz.func24 λhfit=> ?_
 simp[Tryz.f24]
 exact WW
theorem host_eq (a b:HostR):(a=b)↔(a.s=b.s/\a.rows=b.rows/\a.now=b.now/\a.lease=b.lease/\a.opens=b.opens):=by
 cases a;cases b;simp only[HostR.mk.injEq]
 constructor
 ·rintro⟨h1,h2,h3,h4,h5⟩;exact⟨h1,h2,h4,h5,h3⟩
 ·rintro⟨h1,h2,h4,h5,h3⟩;exact⟨h1,h2,h3,h4,h5⟩
theorem ZqU (a b:HostR) (hR:Zar a.rows):Zd Tryz.prog 13 [.agg a.enc,.agg b.enc] (B (decide (a=b))):=by
 have h1:=Zru a.s b.s
 have h2:=Zoa a.rows b.rows hR
 have ha:=host_eq a b
 by_cases q:a.s=b.s/\a.rows=b.rows/\a.now=b.now/\a.lease=b.lease/\a.opens.length=b.opens.length
 case neg=>
  have hne:¬a=b:=λe=>q (by subst e;exact⟨rfl,rfl,rfl,rfl,rfl⟩)
  have hq:((a.s=b.s)=False)\/((a.s=b.s)=True/\(a.rows=b.rows)=False)\/((a.s=b.s)=True/\(a.rows=b.rows)=True/\(a.now=b.now)=False)\/((a.s=b.s)=True/\(a.rows=b.rows)=True/\(a.now=b.now)=True/\(a.lease=b.lease)=False)\/((a.s=b.s)=True/\(a.rows=b.rows)=True/\(a.now=b.now)=True/\(a.lease=b.lease)=True/\(a.opens.length=b.opens.length)=False):=by
   simp only[eq_iff_iff,iff_true,iff_false]
   by_cases c1:a.s=b.s
   ·by_cases c2:a.rows=b.rows
    ·by_cases c3:a.now=b.now
     ·by_cases c4:a.lease=b.lease
      ·exact .inr (.inr (.inr (.inr ⟨c1,c2,c3,c4,λc5=>q ⟨c1,c2,c3,c4,c5⟩⟩)))
      ·exact .inr (.inr (.inr (.inl ⟨c1,c2,c3,c4⟩)))
     ·exact .inr (.inr (.inl ⟨c1,c2,c3⟩))
    ·exact .inr (.inl ⟨c1,c2⟩)
   ·exact .inl c1
  rw[decide_eq_false hne]
  clear ha hne q
  rcases hq with c|c|c|c|c
  all_goals
   refine Pm Tryz.func13 λhfit=> ?_
   have d1_:=D0 8 12 [] []
   simp[Tryz.f13]
   have s_:=c
   exact WW
 obtain⟨c1,c2,c3,c4,c5⟩:=q
 have e:decide (a=b)=decide (a.opens=b.opens):=by
  rw[decide_eq_decide,ha]
  exact⟨λg=>g.2.2.2.2,λg=>⟨c1,c2,c3,c4,g⟩⟩
 rw[e]
 clear e ha
 have d1:=eq_true c1
 have d2:=eq_true c2
 have d3:=eq_true c3
 have d4:=eq_true c4
 have d5:=eq_true c5
 refine Pm Tryz.func13 λhfit=> ?_
 have d1_:=D0 8 12 [] []
 simp[HostR.enc] at hfit
 simp[Tryz.f13]
 have s_:=An @d1 (An @d2 (An @d3 (An @d4 (@c5))))
 try simp[s_]
 repeat' ((first|((first|refine Tp ?_|refine Tn ?_|refine T2 ?_ ?_)<;>intro h_ e_ n_)|refine Pg h1 ?_|refine Pg h2 ?_|refine Dg 8 12 [] [] ?_|rw[Ip]|rw[In]|rw[Fz]|rw[Gz]|fail)<;>first|simp[e_,n_,s_]|simp[s_]|skip)
 refine AW.loopG (lit:=λ_=>false) (λi:Nat=>⟨68,pat [(2,.ptr 0 0 0),(3,.ptr 1 0 0),(7,I i)],[.cells 0 a.enc,.cells 0 b.enc]⟩) (λi=>b.opens.length -i) (λi=>i<=b.opens.length/\a.opens.take i=b.opens.take i) 0 ?_ ?_ ?_
 ·exact Wa
 ·simp
 rintro i ⟨hi,ht⟩ A hA
 by_cases h:i<b.opens.length
 case neg=>
  have:=ZbV ht (by omega) (by omega)
  have g:¬i<a.opens.length:=by omega
  have s_:=An @g ((eq_true this))
  exact WW
 have hia:i<a.opens.length:=by omega
 have hw:=Zh h (by have:=hfit.2;omega)
 have hk:=ZhW a.opens[i] b.opens[i]
 by_cases z:a.opens[i]=b.opens[i]
 ·rw[decide_eq_true z] at hk
  have s_:=An @h (An @hia (@hw))
  have q1_:=λs w=>hA (i+1) s w ⟨by omega,take_step ht hia h z⟩ (by omega)
  have p1_:=hk
  exact WW
 ·rw[decide_eq_false z] at hk
  have hne:¬a.opens=b.opens:=λe=>z (by simp only[e])
  have s_:=An @h (An @hia (An @hw ((eq_false hne))))
  have p1_:=hk
  exact WW
end Go.Proofs.YtgpkaoombhobmaaGreat
