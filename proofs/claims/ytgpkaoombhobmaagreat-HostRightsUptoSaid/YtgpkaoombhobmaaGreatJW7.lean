import Derived.Test.YtgpkaoombhobmaaGreatJW6
import Derived.Test.YtgpkaoombhobmaaGreatJP1
import Derived.RangeFuncBox
import Derived.RangeFuncLeaves
import Derived.Shelf.Abstract
import Derived.WalkKit
import Derived.OwnWalkIn
import Derived.TacticsInMore
import Derived.LoopNIn
import Derived.LoopIn
import Derived.Maps.AppendAt
import Derived.Scope
import Derived.RangeFuncCalls
import Derived.Test.YtgpkaoombhobmaaGreatJP2
set_option linter.unusedVariables false
set_option linter.unusedSimpArgs false
namespace Go.Proofs.YtgpkaoombhobmaaGreat
open Go.Cx Tab
set_option maxHeartbeats 400000
set_option maxRecDepth 40000
theorem eqI_ok (a b:List Int):Zb Tryz.prog 128 [enc1 I a,enc1 I b] (B (decide (a=b))):=by
 refine Pm Tryz.func128 λhfit=> ?_
 have d1_:=D0 6 9 [] []
 simp at hfit
 simp[Tryz.f128]
 by_cases hl:a.length=b.length
 case neg=>
  have:¬a=b:=λe=>hl (by rw[e])
  simp[hl,this]
 simp[hl]
 refine AW.loopG (lit:=λ_=>false) (λi:Nat=>⟨26,pat [(0,enc1 I a),(1,enc1 I b),(12,I b.length),(13,I i)],[]⟩) (λi=>b.length -i) (λi=>i<=b.length/\a.take i=b.take i) 0 ?_ ?_ ?_
 ·exact Wk.at _ rfl (by simp[hl]) (by simp)
 ·simp
 rintro i ⟨hi,ht⟩ A hA
 by_cases h:i<b.length
 case neg=>
  have:=Zam ht (by omega) (by omega)
  have s_:=An @h ((eq_true this))
  exact WW
 have ha:i<a.length:=by omega
 have hw:=Zg ha hfit.1
 by_cases h2:a[i]=b[i]
 ·have s_:=An @h (An @ha (An @h2 (@hw)))
  have q1_:=λs w=>hA (i+1) s w ⟨by omega,take_step ht ha h h2⟩ (by omega)
  exact WW
 ·have h3:¬a=b:=λe=>by subst e;exact h2 rfl
  have s_:=An @h (An @ha (An @h2 (@h3)))
  exact WW
theorem Zyv (l:List Int) (g:FuncId) (p:Int->Bool) (hp:∀x∈l,Zb Tryz.prog g [I x] (B (p x))) (hl:l.length<=1000000):Zb Tryz.prog 196 [enc1 I l,.fn g []] (I (idxS p l)):=by
 refine Pm Tryz.func196 λhfit=> ?_
 simp at hfit
 simp[Tryz.f196]
 refine AW.loopG (lit:=λ_=>false) (λi:Nat=>⟨19,pat [(0,enc1 I l),(1,.fn g []),(7,I l.length),(8,I i)],[]⟩) (λi=>l.length -i) (λi=>i<=l.length/\Zan p i (l.drop i)=idxS p l) 0 ?_ ?_ ?_
 ·exact Wk.at _ rfl rfl (by simp)
 ·simp[idxS]
 rintro i ⟨h1,h2⟩ A hA
 by_cases hi:i<l.length
 case neg=>
  rw[ZaP hi] at h2
  have s_:=An @hi (Eq.symm (h2))
  exact WW
 rw[Zbi hi] at h2
 have hw:=Zg hi (by simp only[maxLen];omega)
 have hpi:=hp l[i] (List.getElem_mem hi)
 cases hpp:p l[i] with
 |true=>
  rw[hpp] at hpi
  simp only[hpp,if_true] at h2
  have s_:=An @hi (An (Eq.symm (h2)) (@hpp))
  have p1_:=hpi
  exact WW
 |false=>
  rw[hpp] at hpi
  simp only[hpp,Bool.false_eq_true,if_false] at h2
  have s_:=An @hi (An @hw (@hpp))
  have q1_:=λs w=>hA (i+1) s w ⟨by omega,h2⟩ (by omega)
  have p1_:=hpi
  exact WW
theorem delI_ok (V:Nat) (l:List Int) (g:FuncId) (p:Int->Bool) (hp:∀x∈l,Zb Tryz.prog g [I x] (B (p x))) (hl:l.length<=1000000):XCall Tryz.prog 234 [.own 0 V 0 l.length 1,.fn g []] [.cells V (l.map I)] (.own 0 V 0 (l.filter λx=> !p x).length 1) [.cells V ((l.filter λx=> !p x).map I)]:=by
 refine XCall.mkG (λs (_:Unit)=>s) (λ_=>false) Tryz.func234 rfl rfl rfl (Ent.mk Tryz.func234 (by kernel_rfl) rfl) (by simp) (by simp) (by simp) (by simp) (by simp) λhfit=> ?_
 refine⟨WkE.one _ _,λ_=> ?_⟩
 have hix:=Zyv l g p hp hl
 by_cases h0:idxS p l= -1
 ·obtain⟨e1,_⟩:=ZcK h0
  simp[Tryz.f234]
  have s_:=h0
  try simp[s_]
  repeat' ((first|((first|refine Tp ?_|refine Tn ?_|refine T2 ?_ ?_)<;>intro h_ e_ n_)|refine Lg hix ?_|rw[Ip]|rw[In]|rw[Fz]|rw[Gz]|fail)<;>first|simp[e_,n_,s_]|simp[s_]|skip)
  exact⟨_,Wk.refl _ _,by simp[e1]⟩
 obtain⟨j0,hj0,e1,e2,e3⟩:=ZcL h0
 have hw0:IntKind.i64.wrap ((j0:Int)+1)=(j0:Int)+1:=Zh (by omega) (by omega)
 have hn0:¬((j0:Int)= -1):=by omega
 rw[e1] at hix
 simp[Tryz.f234]
 have s_:=An @e1 (An @hw0 (@hn0))
 try simp[s_]
 repeat' ((first|((first|refine Tp ?_|refine Tn ?_|refine T2 ?_ ?_)<;>intro h_ e_ n_)|refine Lg hix ?_|rw[Ip]|rw[In]|rw[Fz]|rw[Gz]|fail)<;>first|simp[e_,n_,s_]|simp[s_]|skip)
 refine AW.loopG (lit:=λ_=>false) (λx:Nat×Nat×List Int=>⟨42,pat [(0,.own 0 V 0 l.length 1),(1,.fn g []),(5,I x.1),(6,I x.2.1)],[.cells V (x.2.2.map I)]⟩) (λx=>l.length -x.2.1) (λx=>Zer p l x.2.2 x.1 x.2.1) (j0,j0+1,l) ?_ ?_ ?_
 ·exact Wk.at _ rfl (by simp[e1,hw0]) (by simp)
 ·exact .start hj0 e2 e3
 rintro⟨i,j,m⟩ hd A hA
 simp only at hd hA
 have hml:=hd.len
 by_cases hj:j<l.length
 case neg=>
  obtain⟨d1,d2,d3⟩:=hd.done hj
  have s_:=An @hj (@hml)
  try simp[s_]
  repeat' ((first|((first|refine Tp ?_|refine Tn ?_|refine T2 ?_ ?_)<;>intro h_ e_ n_)|rw[Ip]|rw[In]|rw[Fz]|rw[Gz]|fail)<;>first|simp[e_,n_,s_]|simp[s_]|skip)
  exact⟨_,Wk.prefix 0 V i rfl rfl,by simp[d2],by
   have:(putAt (m.map I) i (List.replicate (l.length -i) (I 0))).take i=(m.take i).map I:=by
    rw[List.map_take]
    unfold putAt
    rw[List.append_assoc,List.take_left' (by simp;omega)]
   rw[d1] at this
   simpa using this⟩
 have hmj:=hd.get hj
 have hx:=hp l[j] (List.getElem_mem hj)
 have hw:IntKind.i64.wrap ((j:Int)+1)=((j+1:Nat):Int):=by rw[Zh (by omega) (by omega)];omega
 have hi:=hd.lt
 have hwi:IntKind.i64.wrap ((i:Int)+1)=((i+1:Nat):Int):=by rw[Zh (by omega) (by omega)];omega
 cases hpp:p l[j] with
 |true=>
  rw[hpp] at hx
  have s_:=An @hj (An @hml (An @hw (@hmj)))
  have q1_:=λs w=>hA (i,j+1,m) s w (hd.skip hj hpp) (by simp only;omega)
  have p1_:=hx
  exact WW
 |false=>
  rw[hpp] at hx
  have him:i<m.length:=by omega
  have hil:i<l.length:=by omega
  have s_:=An @hj (An @hml (An @hw (An @hwi (An @hmj (An @him (@hil))))))
  try simp[s_]
  repeat' ((first|((first|refine Tp ?_|refine Tn ?_|refine T2 ?_ ?_)<;>intro h_ e_ n_)|(exact hA (i+1,j+1,m.set i l[j]) _ (Wk.cutAt _ rfl (by simp) (by simp) (by simp[-List.map_set]) (by simp)) (hd.keep hj hpp) (by simp only;omega))|refine Pg hx ?_|rw[Ip]|rw[In]|rw[Fz]|rw[Gz]|fail)<;>first|simp[e_,n_,s_]|simp[s_]|skip)
theorem Zyw (m:Nat) (hm:m<=5000000):XCall Tryz.prog 227 [.sl true 0 [],I m] [] (.own 0 0 0 0 1) [.cells 0 []]:=by
 have hw:IntKind.i64.wrap (m:Int)=m:=Zh (by omega) (by omega)
 by_cases h0:m=0
 ·subst h0
  refine XCall.mkG (λs (_:Unit)=>s) (λ_=>false) Tryz.func227 rfl rfl rfl (Ent.mk Tryz.func227 (by kernel_rfl) rfl) (by simp) (by simp) (by simp) (by simp) (by simp) λhfit=> ?_
  refine⟨WkE.one _ _,λ_=> ?_⟩
  have s_:=An (@Tryz.f227.eq_1) (@hw)
  try simp[s_]
  repeat' ((first|((first|refine Tp ?_|refine Tn ?_|refine T2 ?_ ?_)<;>intro h_ e_ n_)|rw[Ip]|rw[In]|rw[Fz]|rw[Gz]|fail)<;>first|simp[e_,n_,s_]|simp[s_]|skip)
  exact⟨_,Wk.ownNil 4 1 (by simp),by simp⟩
 ·refine XCall.mkG (λs (_:Unit)=>s) (λ_=>false) Tryz.func227 rfl rfl rfl (Ent.mk Tryz.func227 (by kernel_rfl) rfl) (by simp) (by simp) (by simp) (by simp) (by simp) λhfit=> ?_
  refine⟨WkE.one _ _,λ_=> ?_⟩
  have h1:0<m:=by omega
  have hx:m<=maxLen:=by simp only[maxLen];omega
  have s_:=An (@Tryz.f227.eq_1) (An @hw (An @h0 (An @h1 (@hx))))
  try simp[s_]
  repeat' ((first|((first|refine Tp ?_|refine Tn ?_|refine T2 ?_ ?_)<;>intro h_ e_ n_)|rw[Ip]|rw[In]|rw[Fz]|rw[Gz]|fail)<;>first|simp[e_,n_,s_]|simp[s_]|skip)
  exact⟨_,Wk.prefix 0 0 0 rfl rfl,by simp⟩
def looksV (f:FSR) (c:Zj):Nat:=if c.kind=15 then 0 else(ZaR f c).length -2
theorem ZvI (f:FSR) (c:Zj) (h:Zi f):XCall Tryz.prog 235 [encF f,encC c] [] (.own 2 (looksV f c) 0 (looksS f c).length 1) [.cells 0 f.enc,.cells 0 c.enc,.cells (looksV f c) ((looksS f c).map I)]:=by
 by_cases k:c.kind=15
 ·have h1:=Zgg 0 [0] (by decide)
  have e:numsS [0]=[0]:=rfl
  rw[e] at h1
  have e2:looksS f c=[0]:=by unfold looksS;rw[if_pos k]
  have ev:looksV f c=0:=by unfold looksV;rw[if_pos k]
  rw[e2,ev]
  refine XCall.mk' (λt=>t==56) Tryz.func235 rfl rfl rfl (Ent.mk Tryz.func235 (by kernel_rfl) rfl) (by simp) (by simp) (by simp) (by simp) (by simp) λhfit=> ?_
  simp[Tryz.f235,k]
  refine AInv.heap [2] h1 (by simp) (by simp) ?_
  simp
 have ev:looksV f c=(ZaR f c).length -2:=by unfold looksV;rw[if_neg k]
 rw[Zyi f c k,ev]
 have hlen:=h.len
 have htot:=Zsg f c
 refine XCall.mk' (λt=>t==56) Tryz.func235 rfl rfl rfl (Ent.mk Tryz.func235 (by kernel_rfl) rfl) (by simp) (by simp) (by simp) (by simp) (by simp) λhfit=> ?_
 simp[Tryz.f235,k]
 refine AW.loopG (lit:=λt=>t==56) (λx:Nat×List Int×Nat=>⟨66,pat [(2,.ptr 0 0 0),(3,.ptr 1 0 0),(5,.own 2 x.2.2 0 x.2.1.length 1),(28,.own 3 0 0 2 1),(29,I 2),(30,I x.1)],[.cells 0 f.enc,.cells 0 c.enc,.cells x.2.2 (x.2.1.map I),.cells 0 [I c.ino,I c.to_]]⟩) (λx=>2 -x.1)
  (λx=>x.1<=2/\x.2.1++([c.ino,c.to_].drop x.1).flatMap (Zcx f c)=ZaR f c/\x.2.2+2=x.2.1.length) (0,[c.ino,c.to_],0) ?_ ?_ ?_
 ·exact Wa
 ·exact⟨by simp,by simp[ZaR],by simp⟩
 rintro⟨i,acc,ver⟩ ⟨g1,g2,g4⟩ A hA
 simp only at g1 g2 g4 hA
 by_cases hi:i<2
 case neg=>
  have:i=2:=by omega
  subst this
  simp only[List.drop_succ_cons,List.drop_nil,List.flatMap_nil,List.append_nil,List.drop_zero] at g2
  rw[<-g2] at htot
  have h1:=Zgg ver acc (by omega)
  have ev2:ver=(ZaR f c).length -2:=by rw[<-g2];omega
  rw[g2] at h1
  rw[ev2] at h1⊢
  subst g2
  clear ev2 ev
  simp
  refine AInv.heap [2] h1 (by simp) (by simp) ?_
  simp
 have hi2:i=0\/i=1:=by omega
 rcases hi2 with rfl|rfl
 ·have g3:acc++[c.name,c.name2].flatMap (ZZ f c.ino)++Zcx f c c.to_=ZaR f c:=by simpa[Zcx] using g2
  have hrow:=h.row c.ino
  have h1:=find_ok f c.ino (by omega)
  have hN:∀s,Zb Tryz.prog 263 [encL EntryR.enc (findB f.l c.ino).1.l,S s] (.tup [I (findE (findB f.l c.ino).1.l s).1,B (findE (findB f.l c.ino).1.l s).2]):=λs=>ZgN (findB f.l c.ino).1.l s hrow.rise (by have:=hrow.len;omega)
  try simp
  repeat' ((first|((first|refine Tp ?_|refine Tn ?_|refine T2 ?_ ?_)<;>intro h_ e_ n_)|refine Pg h1 ?_|rw[Ip]|rw[In]|rw[Fz]|rw[Gz]|fail)<;>first|simp[e_,n_]|simp|skip)
  refine AW.loopG (lit:=λt=>t==56) (λx:Nat×List Int×Nat=>⟨66,pat [(2,.ptr 0 0 0),(3,.ptr 1 0 0),(5,.own 2 x.2.2 0 x.2.1.length 1),(8,.ptr 4 0 0),(28,.own 3 0 0 2 1),(29,I 2),(30,I 0),(44,.sl true 2 [S c.name,S c.name2]),(45,I 2),(46,I x.1)],[.cells 0 f.enc,.cells 0 c.enc,.cells x.2.2 (x.2.1.map I),.cells 0 [I c.ino,I c.to_],.cells 0 (findB f.l c.ino).1.enc]⟩) (λx=>2 -x.1)
   (λx=>x.1<=2/\x.2.1++([c.name,c.name2].drop x.1).flatMap (ZZ f c.ino)++Zcx f c c.to_=ZaR f c/\x.2.2+2=x.2.1.length) (0,acc,ver) ?_ ?_ ?_
  ·exact Wa
  ·exact⟨by simp,by simpa using g3,g4⟩
  rintro⟨j,acc2,ver2⟩ ⟨k1,k2,k4⟩ A2 hA2
  simp only at k1 k2 k4 hA2
  by_cases hj:j<2
  case neg=>
   have:j=2:=by omega
   subst this
   have k3:acc2++([c.ino,c.to_].drop (0+1)).flatMap (Zcx f c)=ZaR f c:=by simpa using k2
   have q1_:=λs w=>hA (0+1,acc2,ver2) s w ⟨by simp,k3,k4⟩ (by simp)
   exact WW
  have ha2:acc2.length<=6:=by
   rw[<-k2] at htot
   simp only[List.length_append] at htot
   omega
  have hm:acc2.length+1<=maxLen:=by simp only[maxLen];omega
  have hj2:j=0\/j=1:=by omega
  rcases hj2 with rfl|rfl
  ·have q:=hN c.name
   simp only[List.drop_zero,List.drop_succ_cons,List.flatMap_cons,List.flatMap_nil,List.append_nil] at k2
   cases hf:(findE (findB f.l c.ino).1.l c.name).2 with
   |false=>
    rw[hf] at q
    have k3:acc2++([c.name,c.name2].drop (0+1)).flatMap (ZZ f c.ino)++Zcx f c c.to_=ZaR f c:=by
     have e:ZZ f c.ino c.name=[]:=by simp[ZZ,hf]
     rw[e] at k2
     simpa using k2
    have s_:=hm
    have q1_:=λs w=>hA2 (0+1,acc2,ver2) s w ⟨by simp,k3,k4⟩ (by simp)
    have p1_:=q
    exact WW
   |true=>
    rw[hf] at q
    have k3:(acc2++[(findE (findB f.l c.ino).1.l c.name).1])++([c.name,c.name2].drop (0+1)).flatMap (ZZ f c.ino)++Zcx f c c.to_=ZaR f c:=by
     have e:ZZ f c.ino c.name=[(findE (findB f.l c.ino).1.l c.name).1]:=by simp[ZZ,hf]
     rw[e] at k2
     simpa using k2
    generalize(findE (findB f.l c.ino).1.l c.name).1=v at*
    have s_:=An @hm ((show acc2.length+1<=17592186044416 by omega))
    have q1_:=λs w=>hA2 (0+1,acc2++[v],ver2+1) s w ⟨by simp,k3,by simp only[List.length_append,List.length_cons,List.length_nil];omega⟩ (by simp)
    have p1_:=q
    exact WW
  ·have q:=hN c.name2
   simp only[List.drop_zero,List.drop_succ_cons,List.flatMap_cons,List.flatMap_nil,List.append_nil] at k2
   cases hf:(findE (findB f.l c.ino).1.l c.name2).2 with
   |false=>
    rw[hf] at q
    have k3:acc2++([c.name,c.name2].drop (1+1)).flatMap (ZZ f c.ino)++Zcx f c c.to_=ZaR f c:=by
     have e:ZZ f c.ino c.name2=[]:=by simp[ZZ,hf]
     rw[e] at k2
     simpa using k2
    have s_:=hm
    have q1_:=λs w=>hA2 (1+1,acc2,ver2) s w ⟨by simp,k3,k4⟩ (by simp)
    have p1_:=q
    exact WW
   |true=>
    rw[hf] at q
    have k3:(acc2++[(findE (findB f.l c.ino).1.l c.name2).1])++([c.name,c.name2].drop (1+1)).flatMap (ZZ f c.ino)++Zcx f c c.to_=ZaR f c:=by
     have e:ZZ f c.ino c.name2=[(findE (findB f.l c.ino).1.l c.name2).1]:=by simp[ZZ,hf]
     rw[e] at k2
     simpa using k2
    generalize(findE (findB f.l c.ino).1.l c.name2).1=v at*
    have s_:=An @hm ((show acc2.length+1<=17592186044416 by omega))
    have q1_:=λs w=>hA2 (1+1,acc2++[v],ver2+1) s w ⟨by simp,k3,by simp only[List.length_append,List.length_cons,List.length_nil];omega⟩ (by simp)
    have p1_:=q
    exact WW
 ·have g3:acc++[c.name,c.name2].flatMap (ZZ f c.to_)=ZaR f c:=by simpa[Zcx] using g2
  have hrow:=h.row c.to_
  have h1:=find_ok f c.to_ (by omega)
  have hN:∀s,Zb Tryz.prog 263 [encL EntryR.enc (findB f.l c.to_).1.l,S s] (.tup [I (findE (findB f.l c.to_).1.l s).1,B (findE (findB f.l c.to_).1.l s).2]):=λs=>ZgN (findB f.l c.to_).1.l s hrow.rise (by have:=hrow.len;omega)
  try simp
  repeat' ((first|((first|refine Tp ?_|refine Tn ?_|refine T2 ?_ ?_)<;>intro h_ e_ n_)|refine Pg h1 ?_|rw[Ip]|rw[In]|rw[Fz]|rw[Gz]|fail)<;>first|simp[e_,n_]|simp|skip)
  refine AW.loopG (lit:=λt=>t==56) (λx:Nat×List Int×Nat=>⟨66,pat [(2,.ptr 0 0 0),(3,.ptr 1 0 0),(5,.own 2 x.2.2 0 x.2.1.length 1),(8,.ptr 4 0 0),(28,.own 3 0 0 2 1),(29,I 2),(30,I 1),(44,.sl true 2 [S c.name,S c.name2]),(45,I 2),(46,I x.1)],[.cells 0 f.enc,.cells 0 c.enc,.cells x.2.2 (x.2.1.map I),.cells 0 [I c.ino,I c.to_],.cells 0 (findB f.l c.to_).1.enc]⟩) (λx=>2 -x.1)
   (λx=>x.1<=2/\x.2.1++([c.name,c.name2].drop x.1).flatMap (ZZ f c.to_)=ZaR f c/\x.2.2+2=x.2.1.length) (0,acc,ver) ?_ ?_ ?_
  ·exact Wa
  ·exact⟨by simp,by simpa using g3,g4⟩
  rintro⟨j,acc2,ver2⟩ ⟨k1,k2,k4⟩ A2 hA2
  simp only at k1 k2 k4 hA2
  by_cases hj:j<2
  case neg=>
   have:j=2:=by omega
   subst this
   have k3:acc2++([c.ino,c.to_].drop (1+1)).flatMap (Zcx f c)=ZaR f c:=by simpa using k2
   have q1_:=λs w=>hA (1+1,acc2,ver2) s w ⟨by simp,k3,k4⟩ (by simp)
   exact WW
  have ha2:acc2.length<=6:=by
   rw[<-k2] at htot
   simp only[List.length_append] at htot
   omega
  have hm:acc2.length+1<=maxLen:=by simp only[maxLen];omega
  have hj2:j=0\/j=1:=by omega
  rcases hj2 with rfl|rfl
  ·have q:=hN c.name
   simp only[List.drop_zero,List.drop_succ_cons,List.flatMap_cons,List.flatMap_nil,List.append_nil] at k2
   cases hf:(findE (findB f.l c.to_).1.l c.name).2 with
   |false=>
    rw[hf] at q
    have k3:acc2++([c.name,c.name2].drop (0+1)).flatMap (ZZ f c.to_)=ZaR f c:=by
     have e:ZZ f c.to_ c.name=[]:=by simp[ZZ,hf]
     rw[e] at k2
     simpa using k2
    have s_:=hm
    have q1_:=λs w=>hA2 (0+1,acc2,ver2) s w ⟨by simp,k3,k4⟩ (by simp)
    have p1_:=q
    exact WW
   |true=>
    rw[hf] at q
    have k3:(acc2++[(findE (findB f.l c.to_).1.l c.name).1])++([c.name,c.name2].drop (0+1)).flatMap (ZZ f c.to_)=ZaR f c:=by
     have e:ZZ f c.to_ c.name=[(findE (findB f.l c.to_).1.l c.name).1]:=by simp[ZZ,hf]
     rw[e] at k2
     simpa using k2
    generalize(findE (findB f.l c.to_).1.l c.name).1=v at*
    have s_:=An @hm ((show acc2.length+1<=17592186044416 by omega))
    have q1_:=λs w=>hA2 (0+1,acc2++[v],ver2+1) s w ⟨by simp,k3,by simp only[List.length_append,List.length_cons,List.length_nil];omega⟩ (by simp)
    have p1_:=q
    exact WW
  ·have q:=hN c.name2
   simp only[List.drop_zero,List.drop_succ_cons,List.flatMap_cons,List.flatMap_nil,List.append_nil] at k2
   cases hf:(findE (findB f.l c.to_).1.l c.name2).2 with
   |false=>
    rw[hf] at q
    have k3:acc2++([c.name,c.name2].drop (1+1)).flatMap (ZZ f c.to_)=ZaR f c:=by
     have e:ZZ f c.to_ c.name2=[]:=by simp[ZZ,hf]
     rw[e] at k2
     simpa using k2
    have s_:=hm
    have q1_:=λs w=>hA2 (1+1,acc2,ver2) s w ⟨by simp,k3,k4⟩ (by simp)
    have p1_:=q
    exact WW
   |true=>
    rw[hf] at q
    have k3:(acc2++[(findE (findB f.l c.to_).1.l c.name2).1])++([c.name,c.name2].drop (1+1)).flatMap (ZZ f c.to_)=ZaR f c:=by
     have e:ZZ f c.to_ c.name2=[(findE (findB f.l c.to_).1.l c.name2).1]:=by simp[ZZ,hf]
     rw[e] at k2
     simpa using k2
    generalize(findE (findB f.l c.to_).1.l c.name2).1=v at*
    have s_:=An @hm ((show acc2.length+1<=17592186044416 by omega))
    have q1_:=λs w=>hA2 (1+1,acc2++[v],ver2+1) s w ⟨by simp,k3,by simp only[List.length_append,List.length_cons,List.length_nil];omega⟩ (by simp)
    have p1_:=q
    exact WW
theorem ZsA (a b:List Int) (t:Bool) (ha:a.length<=2000000) (hb:b.length<=2000000):XCall Tryz.prog 197 [.sl t 2 [enc1 I a,enc1 I b]] [] (.own 0 2 0 (a++b).length 1) [.cells 2 ((a++b).map I)]:=by
 have hg:=Zyw (a.length+b.length) (by omega)
 have hw1:IntKind.i64.wrap (a.length:Int)=a.length:=Zh (by omega) (by omega)
 have hw2:IntKind.i64.wrap ((a.length:Int)+b.length)=((a.length+b.length:Nat):Int):=by rw[Zh (by omega) (by omega)];omega
 refine XCall.mk' (λ_=>false) Tryz.func197 rfl rfl rfl (Ent.mk Tryz.func197 (by kernel_rfl) rfl) (by simp) (by simp) (by simp) (by simp) (by simp) λhfit=> ?_
 simp[Tryz.f197]
 refine AW.loopG (lit:=λ_=>false) (λi:Nat=>⟨36,pat [(0,.sl t 2 [enc1 I a,enc1 I b]),(3,I (if i=0 then 0 else if i=1 then a.length else a.length+b.length:Nat)),(9,.sl t 2 [enc1 I a,enc1 I b]),(10,I 2),(11,I i)],[]⟩) (λi=>2 -i) (λi=>i<=2) 0 ?_ ?_ ?_
 ·exact Wa
 ·simp
 rintro i g1 A hA
 have hi:i=0\/i=1\/i=2:=by omega
 rcases hi with rfl|rfl|rfl
 ·have s_:=hw1
  have q1_:=λs w=>hA 1 s w (by simp) (by simp)
  exact WW
 ·have s_:=hw2
  have q1_:=λs w=>hA 2 s w (by simp) (by simp)
  exact WW
 ·try simp
  repeat' ((first|((first|refine Tp ?_|refine Tn ?_|refine T2 ?_ ?_)<;>intro h_ e_ n_)|(refine AInv.fresh [] hg (by simp) (by simp) ?_;simp)|rw[Ip]|rw[In]|rw[Fz]|rw[Gz]|fail)<;>first|simp[e_,n_]|simp|skip)
  refine AW.loopG (lit:=λ_=>false) (λx:Nat×List Int=>⟨36,pat [(6,.own 0 x.1 0 x.2.length 1),(25,.sl t 2 [enc1 I a,enc1 I b]),(26,I 2),(27,I x.1)],[.cells x.1 (x.2.map I)]⟩) (λx=>2 -x.1) (λx=>x.1<=2/\x.2=if x.1=0 then[] else if x.1=1 then a else a++b) (0,[]) ?_ ?_ ?_
  ·exact Wa
  ·simp
  rintro⟨j,acc⟩ ⟨k1,k2⟩ A2 hA2
  simp only at k1 k2 hA2
  have hj:j=0\/j=1\/j=2:=by omega
  rcases hj with rfl|rfl|rfl
  ·have k2:acc=[]:=k2
   subst k2
   have hx:a.length<=maxLen:=by simp only[maxLen];omega
   have s_:=hx
   have q1_:=λs w=>hA2 (1,a) s w ⟨by simp,by simp⟩ (by simp)
   exact WW
  ·have k2:acc=a:=k2
   subst k2
   have hx:acc.length+b.length<=maxLen:=by simp only[maxLen];omega
   have s_:=hx
   have q1_:=λs w=>hA2 (2,acc++b) s w ⟨by simp,by simp⟩ (by simp)
   exact WW
  ·have k2:acc=a++b:=k2
   subst k2
   exact WW
theorem Zoj {h:Za} {f ver m:Nat} {a b:List AV} (ha:a.all neat=true) (hl:a.length=m):Zgo h (f+1) ver 0 m 1 (some (.cells ver (a++b)))=some (.sl false m a):=by
 simp only[Zgo,true_and,Nat.zero_add,Nat.zero_mul,List.drop_zero,Nat.mul_one]
 rw[if_pos (by simp;omega)]
 split
 ·rename_i h0
  have:a=[]:=List.eq_nil_of_length_eq_zero (by omega)
  rw[this,h0]
 ·rw[List.take_left' hl,ZbG ha];rfl
theorem Zip (a b:List Int) (ha:a.length<=2000000) (hb:b.length<=2000000):Zb Tryz.prog 161 [enc1 I a,enc1 I b] (enc1 I (numsS (a++b))):=by
 have h0:=ZsA a b true ha hb
 have h1:=ZpL 2 (a++b) (by rw[List.length_append];omega)
 have hsl:(sortI (a++b)).length=(a++b).length:=List.length_mergeSort _
 have h2:=Zif 2 (sortI (a++b)) (by rw[hsl,List.length_append];omega)
 rw[show Lib.compact (sortI (a++b))=numsS (a++b) from Zdz (a++b),hsl] at h2
 generalize sortI (a++b)=z at*
 have hq:=Zfu (a++b)
 generalize numsS (a++b)=q at*
 generalize a++b=l at*
 refine Pm Tryz.func161 λhfit=> ?_
 simp[Tryz.f161]
 refine AInv.fresh [] h0 (by simp) (by simp) ?_
 simp
 refine AInv.heap [0] h1 (by simp) (by simp) ?_
 simp
 refine AInv.heap [0] h2 (by simp) (by simp) ?_
 simp
 rw[Zoj (by simp) (by simp)]
 simp[Function.comp_def]
theorem less_ok (a b:Int):Zb Tryz.prog 255 [I a,I b] (B (decide (a<b))):=by
 have hn:∀x,Zb Tryz.prog 160 [I x] (B false):=λx=>by
  refine Pm Tryz.func160 λhfit=> ?_
  simp[Tryz.f160]
 refine Pm Tryz.func255 λhfit=> ?_
 simp[Tryz.f255]
 have p1_:=hn a
 have p2_:=hn b
 exact WW
theorem nan_ok (x:Int):Zb Tryz.prog 297 [I x] (B false):=by
 refine Pm Tryz.func297 λhfit=> ?_
 simp[Tryz.f297]
abbrev atI (l:List Int) (i:Nat):Int:=l.getD i 0
theorem bsI_ok (l:List Int) (k:Int) (hl:l.length<=1000000):Zb Tryz.prog 240 [enc1 I l,I k] (.tup [I (bsGo (atI l) k 0 l.length),B (decide (bsGo (atI l) k 0 l.length<l.length)&&decide (atI l (bsGo (atI l) k 0 l.length)=k))]):=by
 refine Pm Tryz.func240 λhfit=> ?_
 simp at hfit
 simp[Tryz.f240]
 refine AW.loopG (lit:=λ_=>false) (λx:Nat×Nat=>⟨54,pat [(0,enc1 I l),(1,I k),(6,I l.length),(7,I x.1),(8,I x.2)],[]⟩) (λx=>x.2 -x.1) (λx=>x.1<=x.2/\x.2<=l.length/\bsGo (atI l) k x.1 x.2=bsGo (atI l) k 0 l.length) (0,l.length) ?_ ?_ ?_
 ·exact Wk.at _ rfl rfl (by simp)
 ·simp
 rintro⟨i,j⟩ ⟨h1,h2,h3⟩ A hA
 simp only at h1 h2 h3
 have hat:∀m (h:m<l.length),atI l m=l[m]:=λm h=>by simp[atI,List.getD_eq_getElem?_getD,h]
 by_cases h:i<j
 case neg=>
  have hij:i=j:=by omega
  subst hij
  rw[Zdw h] at h3
  by_cases hi:i<l.length
  ·have e1:=hat i hi
   have hN:=nan_ok l[i]
   by_cases q:l[i]=k
   ·have s_:=An @h (An @hi (An (Eq.symm (h3)) (An @e1 (@q))))
    have p1_:=hN
    exact WW
   ·have s_:=An @h (An @hi (An (Eq.symm (h3)) (An @e1 (@q))))
    have p1_:=hN
    exact WW
  ·have s_:=An @h (An @hi (Eq.symm (h3)))
   exact WW
 rw[Zdv h] at h3
 have hm:(i+j)/2<l.length:=by omega
 have e1:=hat _ hm
 have w1:IntKind.i64.wrap ((i:Int)+j)=(i:Int)+j:=Zh (by omega) (by omega)
 have w2:((i:Int)+j)%18446744073709551616=(i:Int)+j:=by omega
 have w3:((i:Int)+j).fdiv 2=(((i+j)/2:Nat):Int):=by rw[Int.fdiv_eq_ediv_of_nonneg _ (by omega)];omega
 have w4:IntKind.i64.wrap (((i+j)/2:Nat):Int)=(((i+j)/2:Nat):Int):=Zh (by omega) (by omega)
 generalize hmm:(i+j)/2=m at*
 have w5:IntKind.i64.wrap ((m:Int)+1)=((m+1:Nat):Int):=by rw[Zh (by omega) (by omega)];omega
 have hL:=less_ok l[m] k
 have hk:atI l m<k\/¬atI l m<k:=Classical.em _
 rcases hk with hk|hk
 ·rw[if_pos hk] at h3
  rw[e1] at hk
  have s_:=An @h (An @w1 (An @w2 (An @w3 (An @w4 (An @w5 (An @hm (@hk)))))))
  have q1_:=λs w=>hA (m+1,j) s w ⟨by simp only;omega,h2,h3⟩ (by simp only;omega)
  have p1_:=hL
  exact WW
 ·rw[if_neg hk] at h3
  rw[e1] at hk
  have s_:=An @h (An @w1 (An @w2 (An @w3 (An @w4 (An @w5 (An @hm (@hk)))))))
  have q1_:=λs w=>hA (i,m) s w ⟨by simp only;omega,by simp only;omega,h3⟩ (by simp only;omega)
  have p1_:=hL
  exact WW
theorem Zyx (l:List Int) (k:Int) (hr:Zat l=true) (hl:l.length<=1000000):∃i,Zb Tryz.prog 240 [enc1 I l,I k] (.tup [I i,B (decide (k∈l))]):=by
 have h1:=bsI_ok l k hl
 have hat:∀m (h:m<l.length),atI l m=l[m]:=λm h=>by simp[atI,List.getD_eq_getElem?_getD,h]
 rw[Zfo idI hr hat k] at h1
 have e:(decide (placeS idI l k<l.length)&&decide (atI l (placeS idI l k)=k))=decide (k∈l):=by
  cases hf:Zak idI l k with
  |some x=>
   obtain⟨hp,e⟩:=Zao idI hr hf
   obtain⟨m1,m2⟩:=ZC idI hf
   have m2:x=k:=m2
   subst m2
   rw[hat _ hp,e]
   simp[hp,m1]
  |none=>
   have hk:¬k∈l:=λhk=>(ZbX idI).1 hf k hk rfl
   by_cases hp:placeS idI l k<l.length
   ·have:=ZcN idI hr hf hp
    rw[hat _ hp]
    have:¬l[placeS idI l k]=k:=this
    simp[this,hk]
   ·simp[hp,hk]
 rw[e] at h1
 exact⟨_,h1⟩
theorem ZvJ (n:Int):Zb Tryz.prog 236 [I n] (B (decide (n<1))):=by
 refine Pm Tryz.func236 λhfit=> ?_
 simp[Tryz.f236]
theorem Zyy (f:FSR) (c:Zj) (h:Zi f):Zb Tryz.prog 206 [encF f,encC c] (enc1 I (touchS f c)):=by
 have h0:=ZvI f c h
 have hr:=(Zbk f c).1
 have hlen:=ZlW f c
 have ht:touchS f c=numsS ((looksS f c).filter (λn=> !decide (n<1))++if touchK c=true then[0] else[]):=rfl
 generalize looksV f c=V at*
 generalize touchS f c=t at*
 generalize looksS f c=L at*
 have h1:=delI_ok V L 236 (λn=>decide (n<1)) (λx _=>ZvJ x) (by omega)
 have hfl:=List.length_filter_le (λn:Int=> !decide (n<1)) L
 have hrf:Zat (L.filter λn=> !decide (n<1))=true:=Zar idI hr _
 generalize(L.filter λn=> !decide (n<1))=q at*
 cases hk:touchK c with
 |true=>
  rw[hk,if_pos rfl] at ht
  have h2:=Zip q [0] (by omega) (by simp)
  simp only[touchK,Bool.or_eq_true,decide_eq_true_eq] at hk
  rw[<-ht] at h2
  refine Pm Tryz.func206 λhfit=> ?_
  simp[Tryz.f206]
  refine AInv.fresh [] h0 (by simp) (by simp) ?_
  simp
  refine AInv.fresh [4] h1 (by simp) (by simp) ?_
  simp
  have s_:= @Zj.enc.eq_1
  try simp[s_]
  repeat' ((first|((first|refine Tp ?_|refine Tn ?_|refine T2 ?_ ?_)<;>intro h_ e_ n_)|refine Gg [4] h2 ?_|rw[Ip]|rw[In]|rw[Fz]|rw[Gz]|fail)<;>first|simp[e_,n_,s_]|simp[s_]|skip)
 |false=>
  rw[hk,if_neg (by simp),List.append_nil,Zjc hrf] at ht
  simp only[touchK,Bool.or_eq_false_iff,decide_eq_false_iff_not] at hk
  subst ht
  refine Pm Tryz.func206 λhfit=> ?_
  simp[Tryz.f206]
  refine AInv.fresh [] h0 (by simp) (by simp) ?_
  simp
  refine AInv.fresh [4] h1 (by simp) (by simp) ?_
  simp
  have s_:= @Zj.enc.eq_1
  exact WW
theorem ZsB (a b:List NodeR):Zb Tryz.prog 169 [encL NodeR.enc a,encL NodeR.enc b,.fn 132 []] (B (decide (a=b))):=by
 refine Pm Tryz.func169 λhfit=> ?_
 simp at hfit
 simp[Tryz.f169]
 by_cases hl:a.length=b.length
 case neg=>
  have:¬a=b:=λe=>hl (by rw[e])
  simp[hl,this]
 simp[hl]
 refine AW.loopG (lit:=λ_=>false) (λi:Nat=>⟨32,pat [(0,encL NodeR.enc a),(1,encL NodeR.enc b),(2,.fn 132 []),(15,encL NodeR.enc a),(16,I b.length),(17,I i)],[]⟩) (λi=>b.length -i) (λi=>i<=b.length/\a.take i=b.take i) 0 ?_ ?_ ?_
 ·exact Wk.at _ rfl (by simp[hl]) (by simp)
 ·simp
 rintro i ⟨hi,ht⟩ A hA
 by_cases h:i<b.length
 case neg=>
  have:=Zam ht (by omega) (by omega)
  have s_:=An @h ((eq_true this))
  exact WW
 have ha:i<a.length:=by omega
 have hw:=Zg ha hfit.1.1
 have hN:=ZgM a[i] b[i]
 by_cases h2:a[i]=b[i]
 ·rw[decide_eq_true h2] at hN
  have ht:=take_step ht ha h h2
  have s_:=An @h (An @ha (@hw))
  have q1_:=λs w=>hA (i+1) s w ⟨by omega,ht⟩ (by omega)
  have p1_:=hN
  exact WW
 ·have h3:¬a=b:=λe=>by subst e;exact h2 rfl
  rw[decide_eq_false h2] at hN
  have s_:=An @h (An @ha (@h3))
  have p1_:=hN
  exact WW
theorem Zok (f g:FSR):Zb Tryz.prog 129 [encF f,encF g] (B (decide (f=g))):=by
 have h1:=ZsB f.l g.l
 have e:decide (f=g)=(decide (f.next=g.next)&&decide (f.l=g.l)):=by
  cases f;cases g;rw[Bool.eq_iff_iff];simp[and_comm]
 rw[e]
 generalize decide (f.l=g.l)=x at*
 by_cases q:f.next=g.next
 ·refine Pm Tryz.func129 λhfit=> ?_
  simp[Tryz.f129]
  have s_:=An @q (@FSR.enc.eq_1)
  exact WW
 ·refine Pm Tryz.func129 λhfit=> ?_
  simp[Tryz.f129]
  have s_:=An @q (@FSR.enc.eq_1)
  exact WW
theorem Zyz (s:StoreR) (hl:s.l.length<=2000000):Zb Tryz.prog 177 [.agg s.enc] (.agg (beginS s).enc):=by
 have h1:=Zvx s s.stamp hl
 unfold beginS
 generalize viewS s s.stamp=f at*
 refine Pm Tryz.func177 λhfit=> ?_
 simp[Tryz.f177]
 have s_:=An @StoreR.enc.eq_1 (An @TxnR.enc.eq_1 (@FSR.enc.eq_1))
 exact WW
theorem idle_ok (t:TxnR):Zb Tryz.prog 208 [.agg t.enc] (B (decide (t.was=t.now))):=by
 have h1:=Zok t.was t.now
 refine Pm Tryz.func208 λhfit=> ?_
 simp[Tryz.f208]
 have s_:=An @TxnR.enc.eq_1 (@FSR.enc.eq_1)
 exact WW
theorem txn_eq (a b:TxnR):a=b↔a.stamp=b.stamp/\a.looks=b.looks/\a.was=b.was/\a.now=b.now:=by
 cases a;cases b;simp only[TxnR.mk.injEq];constructor
 ·rintro⟨h1,h2,h3,h4⟩;exact⟨h1,h4,h2,h3⟩
 ·rintro⟨h1,h2,h3,h4⟩;exact⟨h1,h3,h4,h2⟩
theorem ZyA (a b:TxnR):Zb Tryz.prog 68 [.agg a.enc,.agg b.enc] (B (decide (a=b))):=by
 have h1:=eqI_ok a.looks b.looks
 have h2:=Zok a.was b.was
 have h3:=Zok a.now b.now
 have e:decide (a=b)=(decide (a.stamp=b.stamp)&&(decide (a.looks=b.looks)&&(decide (a.was=b.was)&&decide (a.now=b.now)))):=by
  rw[Bool.eq_iff_iff];simp only[Bool.and_eq_true,decide_eq_true_eq];exact txn_eq a b
 rw[e]
 generalize decide (a.looks=b.looks)=x1 at*
 generalize decide (a.was=b.was)=x2 at*
 generalize decide (a.now=b.now)=x3 at*
 by_cases q:a.stamp=b.stamp
 ·refine Pm Tryz.func68 λhfit=> ?_
  simp[Tryz.f68]
  have s_:=An @q (An @TxnR.enc.eq_1 (@FSR.enc.eq_1))
  exact WW
 ·refine Pm Tryz.func68 λhfit=> ?_
  simp[Tryz.f68]
  have s_:=An @q (An @TxnR.enc.eq_1 (@FSR.enc.eq_1))
  exact WW
theorem ZvK (a b:TxnR):Zb Tryz.prog 59 [.agg a.enc,.agg b.enc] (B (decide (a=b))):=by
 have h1:=Zyk a.looks b.looks
 have h2:=ZjA a.was b.was
 have h3:=ZjA a.now b.now
 have e:decide (a=b)=(decide (a.stamp=b.stamp)&&(decide (a.looks=b.looks)&&(decide (a.was=b.was)&&decide (a.now=b.now)))):=by
  rw[Bool.eq_iff_iff];simp only[Bool.and_eq_true,decide_eq_true_eq];exact txn_eq a b
 rw[e]
 generalize decide (a.looks=b.looks)=x1 at*
 generalize decide (a.was=b.was)=x2 at*
 generalize decide (a.now=b.now)=x3 at*
 by_cases q:a.stamp=b.stamp
 ·refine Pm Tryz.func59 λhfit=> ?_
  simp[Tryz.f59]
  have s_:=An @q (An @TxnR.enc.eq_1 (@FSR.enc.eq_1))
  exact WW
 ·refine Pm Tryz.func59 λhfit=> ?_
  simp[Tryz.f59]
  have s_:=An @q (An @TxnR.enc.eq_1 (@FSR.enc.eq_1))
  exact WW
theorem ZjJ {x:Int} {l:List Int} (h:Zat (x::l)=true):(∀n∈x::l,0<=n)↔0<=x:=by
 constructor
 ·intro g;exact g x (by simp)
 ·intro g n hn
  rcases List.mem_cons.1 hn with rfl|hn
  ·exact g
  ·have:=(ZbU idI h).2 n hn
   have:x<n:=this
   omega
theorem ZvL (t:TxnR) (hl:t.looks.length<=2000000):Zb Tryz.prog 109 [.agg t.enc] (B (rightTx t)):=by
 have h1:=Zip t.looks [] hl (by simp)
 rw[List.append_nil] at h1
 have h2:=eqI_ok t.looks (numsS t.looks)
 have h3:=ZkA t.was
 have h4:=ZkA t.now
 unfold rightTx
 generalize rightF t.was=x1 at*
 generalize rightF t.now=x2 at*
 by_cases r:Zat t.looks=true
 case neg=>
  have e:¬t.looks=numsS t.looks:=λe=>r (by rw[e];exact(Zae _).1)
  rw[decide_eq_false e] at h2
  rw[decide_eq_false λh=>r h.1]
  by_cases q1:t.was.next<=t.now.next
  ·by_cases q2:1<=t.stamp
   ·refine Pm Tryz.func109 λhfit=> ?_
    have d1_:=D0 1 20 [] []
    simp[Tryz.f109]
    have s_:=An @TxnR.enc.eq_1 (An @FSR.enc.eq_1 (An @q1 (@q2)))
    exact WW
   ·refine Pm Tryz.func109 λhfit=> ?_
    have d1_:=D0 1 20 [] []
    simp[Tryz.f109]
    have s_:=An @TxnR.enc.eq_1 (An @FSR.enc.eq_1 (An @q1 (@q2)))
    exact WW
  ·refine Pm Tryz.func109 λhfit=> ?_
   have d1_:=D0 1 20 [] []
   simp[Tryz.f109]
   have s_:=An @TxnR.enc.eq_1 (An @FSR.enc.eq_1 (@q1))
   exact WW
 rw[Zjc r] at h1 h2
 rw[decide_eq_true rfl] at h2
 generalize hq:t.looks=L at*
 cases L with
 |nil=>
  rw[decide_eq_true ⟨r,by simp⟩]
  by_cases q1:t.was.next<=t.now.next
  ·by_cases q2:1<=t.stamp
   ·refine Pm Tryz.func109 λhfit=> ?_
    have d1_:=D0 1 20 [] []
    simp[Tryz.f109]
    have s_:=An @hq (An @TxnR.enc.eq_1 (An @FSR.enc.eq_1 (An @q1 (@q2))))
    exact WW
   ·refine Pm Tryz.func109 λhfit=> ?_
    have d1_:=D0 1 20 [] []
    simp[Tryz.f109]
    have s_:=An @hq (An @TxnR.enc.eq_1 (An @FSR.enc.eq_1 (An @q1 (@q2))))
    exact WW
  ·refine Pm Tryz.func109 λhfit=> ?_
   have d1_:=D0 1 20 [] []
   simp[Tryz.f109]
   have s_:=An @hq (An @TxnR.enc.eq_1 (An @FSR.enc.eq_1 (@q1)))
   exact WW
 |cons x L=>
  have hx:decide (Zat (x::L)=true/\∀n∈x::L,0<=n)=decide (0<=x):=by
   rw[decide_eq_decide];exact⟨λh=>(ZjJ r).1 h.2,λh=>⟨r,(ZjJ r).2 h⟩⟩
  rw[hx]
  clear hx
  by_cases q0:0<=x
  ·by_cases q1:t.was.next<=t.now.next
   ·by_cases q2:1<=t.stamp
    ·refine Pm Tryz.func109 λhfit=> ?_
     have d1_:=D0 1 20 [] []
     simp[Tryz.f109]
     have s_:=An @hq (An @TxnR.enc.eq_1 (An @FSR.enc.eq_1 (An @q0 (An @q1 (@q2)))))
     exact WW
    ·refine Pm Tryz.func109 λhfit=> ?_
     have d1_:=D0 1 20 [] []
     simp[Tryz.f109]
     have s_:=An @hq (An @TxnR.enc.eq_1 (An @FSR.enc.eq_1 (An @q0 (An @q1 (@q2)))))
     exact WW
   ·refine Pm Tryz.func109 λhfit=> ?_
    have d1_:=D0 1 20 [] []
    simp[Tryz.f109]
    have s_:=An @hq (An @TxnR.enc.eq_1 (An @FSR.enc.eq_1 (An @q0 (@q1))))
    exact WW
  ·by_cases q1:t.was.next<=t.now.next
   ·by_cases q2:1<=t.stamp
    ·refine Pm Tryz.func109 λhfit=> ?_
     have d1_:=D0 1 20 [] []
     simp[Tryz.f109]
     have s_:=An @hq (An @TxnR.enc.eq_1 (An @FSR.enc.eq_1 (An @q0 (An @q1 (@q2)))))
     exact WW
    ·refine Pm Tryz.func109 λhfit=> ?_
     have d1_:=D0 1 20 [] []
     simp[Tryz.f109]
     have s_:=An @hq (An @TxnR.enc.eq_1 (An @FSR.enc.eq_1 (An @q0 (An @q1 (@q2)))))
     exact WW
   ·refine Pm Tryz.func109 λhfit=> ?_
    have d1_:=D0 1 20 [] []
    simp[Tryz.f109]
    have s_:=An @hq (An @TxnR.enc.eq_1 (An @FSR.enc.eq_1 (An @q0 (@q1))))
    exact WW
theorem ZjK (t:TxnR):Zb Tryz.prog 39 [.agg t.enc] (B (rightTx t)):=by
 have h3:=Zdg t.was
 have h4:=Zdg t.now
 have hbad:¬(Zat t.looks=true/\∀n∈t.looks,0<=n)->rightTx t=false:=λh=>by unfold rightTx;rw[decide_eq_false h];rfl
 have hgood:(Zat t.looks=true/\∀n∈t.looks,0<=n)->rightTx t=(rightF t.was&&(rightF t.now&&(decide (t.was.next<=t.now.next)&&decide (1<=t.stamp)))):=λh=>by unfold rightTx;rw[decide_eq_true h];rfl
 generalize rightTx t=b at*
 generalize rightF t.was=x1 at*
 generalize rightF t.now=x2 at*
 obtain⟨L,hL⟩:∃L,t.looks=L:=⟨_,rfl⟩
 rw[hL] at hbad hgood
 refine Pm Tryz.func39 λhfit=> ?_
 have d1_:=D0 4 24 [] []
 simp[TxnR.enc,hL,FSR.enc] at hfit
 have hl:=hfit.2.2
 have hm:=hl
 simp only[maxLen] at hm
 simp[Tryz.f39,TxnR.enc,FSR.enc,hL]
 refine AW.loopG (lit:=λ_=>false) (λi:Nat=>⟨61,pat [(1,.ptr 0 0 0),(3,I i)],[.cells 0 [I t.stamp,encL NodeR.enc t.was.l,I t.was.next,encL NodeR.enc t.now.l,I t.now.next,enc1 I L]]⟩) (λi=>L.length -i) (λi=>i<=L.length/\∀(j:Nat) (h:j<L.length),j<i->0<=L[j]/\∀p,L[j -1]? =some p->0<j->p<L[j]) 0 ?_ ?_ ?_
 ·exact Wa
 ·exact⟨by simp,λj h hj=>by omega⟩
 rintro i ⟨g1,g2⟩ A hA
 by_cases hi:i<L.length
 case neg=>
  have e:=hgood ⟨(Zu idI L).2 (Zil (f:=idI) λj h=>by
    have:=(g2 (j+1) h (by omega)).2 L[j] (by simp) (by omega)
    simpa using this),λn hn=>by
    obtain⟨j,hj,rfl⟩:=List.getElem_of_mem hn
    exact(g2 j hj (by omega)).1⟩
  clear hgood hbad g2
  subst e
  by_cases q1:t.was.next<=t.now.next
  ·by_cases q2:1<=t.stamp
   ·have s_:=An @hi (An @q1 (An @q2 (@FSR.enc.eq_1)))
    exact WW
   ·have s_:=An @hi (An @q1 (An @q2 (@FSR.enc.eq_1)))
    exact WW
  ·have s_:=An @hi (An @q1 (@FSR.enc.eq_1))
   exact WW
 have hwi:=Zg hi hl
 have hbad':¬(0<=L[i]/\∀p,L[i -1]? =some p->0<i->p<L[i])->b=false:=λhn=>hbad λh=>hn ⟨h.2 _ (List.getElem_mem hi),λp hp h0=>by
  obtain⟨h1,rfl⟩:=List.getElem?_eq_some_iff.1 hp
  exact ZJ idI h.1 (i -1) i h1 hi (by omega)⟩
 have hgo:(0<=L[i]/\∀p,L[i -1]? =some p->0<i->p<L[i])->∀(j:Nat) (h:j<L.length),j<i+1->0<=L[j]/\∀p,L[j -1]? =some p->0<j->p<L[j]:=λhn j h hj=>by
  rcases Nat.lt_or_ge j i with g|g
  ·exact g2 j h g
  ·have:j=i:=by omega
   subst this;exact hn
 have hi1:i -1<L.length:=by omega
 have hp1:L[i -1]? =some L[i -1]:=List.getElem?_eq_getElem hi1
 have hwm:0<i->IntKind.i64.wrap ((i:Int) -1)=((i -1:Nat):Int):=λhp=>by rw[Zh (by omega) (by omega)];omega
 clear g2 hbad hgood
 generalize hck:L[i -1]=p at*
 generalize hci:L[i]=v at*
 by_cases q2:v<0
 ·rw[hbad' λh=>by have:=h.1;omega]
  have s_:=An @hi (An @hci (@q2))
  exact WW
 by_cases q5:0<i
 ·have hwm:=hwm q5
  by_cases q6:v<=p
  ·rw[hbad' λh=>by have:=h.2 p hp1 q5;omega]
   have s_:=An @hi (An @hci (An @hck (An @q2 (An @q5 (An @q6 (An @hwm (@hi1)))))))
   exact WW
  ·have hgo:=hgo ⟨by omega,λp' e h0=>by rw[hp1] at e;cases e;omega⟩
   have s_:=An @hi (An @hci (An @hck (An @q2 (An @q5 (An @q6 (An @hwm (An @hwi (@hi1))))))))
   have q1_:=λs w=>hA (i+1) s w ⟨hi,hgo⟩ (by omega)
   exact WW
 ·have hgo:=hgo ⟨by omega,λp' e h0=>by omega⟩
  have s_:=An @hi (An @hci (An @q2 (An @q5 (@hwi))))
  have q1_:=λs w=>hA (i+1) s w ⟨hi,hgo⟩ (by omega)
  exact WW
abbrev tTup (x:TxnR×ReplyR):AV:= .tup [.agg x.1.enc,encR x.2]
theorem Znj (t:TxnR) (c:Zj) (h:Zi t.now) (T:ZK t.now) (hn:t.now.next<4611686018427387904) (hl:t.looks.length<=1000000) (hc:c.wf):Zb Tryz.prog 178 [.agg t.enc,encC c] (tTup (stepS t c)):=by
 have h1:=Zyy t.now c h
 have hlen:(touchS t.now c).length<=7:=ZlZ t.now c
 have h2:=Zip t.looks (touchS t.now c) (by omega) (by omega)
 have h3:=do_ok t.now c h hn hc (calm_of h T c)
 unfold stepS
 generalize doS t.now c=X at*
 generalize numsS (t.looks++touchS t.now c)=q at*
 generalize touchS t.now c=k at*
 refine Pm Tryz.func178 λhfit=> ?_
 have d1_:=D0 1 8 [] []
 have d2_:=D0 4 4 [] []
 simp[Tryz.f178]
 have s_:=An @TxnR.enc.eq_1 (An @FSR.enc.eq_1 (@ReplyR.enc.eq_1))
 have e1_:=D0 4 4 [2,3] []
 exact WW
theorem ZvM (s:StoreR) (st:Int):(sinceS s st).length<=s.l.length+1:=by
 unfold sinceS Zbu
 have:=List.length_filter_le (Zcw st) s.l
 split<;>simp<;>omega
noncomputable def Zmv (s:StoreR):Bool:=fewStore s&&(storeB s&&(decide (s.stamp<1152921504606846976)&&(Go.Cx.fewS (viewS s s.stamp)&&(rightF (viewS s s.stamp)&&decide ((viewS s s.stamp).next<1152921504606846976)))))
theorem ZyB (s:StoreR) (hb:ZbM s):Zb Tryz.prog 34 [.agg s.enc] (B (Zmv s)):=by
 have h1:=Zmu s hb
 have h2:=Zim s
 have h3:=ZpS s s.stamp hb
 have h4:=Zmk (viewS s s.stamp)
 have h5:=Zdg (viewS s s.stamp)
 unfold Zmv
 generalize viewS s s.stamp=f at*
 generalize fewStore s=b1 at*
 generalize storeB s=b2 at*
 generalize Go.Cx.fewS f=b3 at*
 generalize rightF f=b4 at*
 by_cases q1:s.stamp<1152921504606846976
 ·by_cases q2:f.next<1152921504606846976
  ·refine Pm Tryz.func34 λhfit=> ?_
   simp[Tryz.f34]
   have s_:=An @q1 (An @q2 (An @StoreR.enc.eq_1 (@FSR.enc.eq_1)))
   exact WW
  ·refine Pm Tryz.func34 λhfit=> ?_
   simp[Tryz.f34]
   have s_:=An @q1 (An @q2 (An @StoreR.enc.eq_1 (@FSR.enc.eq_1)))
   exact WW
 ·refine Pm Tryz.func34 λhfit=> ?_
  simp[Tryz.f34]
  have s_:=An @q1 (An @StoreR.enc.eq_1 (@FSR.enc.eq_1))
  exact WW
def Zol (t:TxnR):Bool:=Go.Cx.fewS t.was&&(Go.Cx.fewS t.now&&(decide (t.looks.length<=300)&&(decide (t.now.next<1152921504606846976)&&rightTx t)))
theorem ZyC (t:TxnR):Zb Tryz.prog 35 [.agg t.enc] (B (Zol t)):=by
 have h1:=Zmk t.was
 have h2:=Zmk t.now
 have h3:=ZjK t
 unfold Zol
 generalize Go.Cx.fewS t.was=b1 at*
 generalize Go.Cx.fewS t.now=b2 at*
 generalize rightTx t=b3 at*
 by_cases q1:t.looks.length<=300
 ·by_cases q2:t.now.next<1152921504606846976
  ·refine Pm Tryz.func35 λhfit=> ?_
   simp[Tryz.f35]
   have s_:=An @q1 (An @q2 (An @TxnR.enc.eq_1 (@FSR.enc.eq_1)))
   exact WW
  ·refine Pm Tryz.func35 λhfit=> ?_
   simp[Tryz.f35]
   have s_:=An @q1 (An @q2 (An @TxnR.enc.eq_1 (@FSR.enc.eq_1)))
   exact WW
 ·refine Pm Tryz.func35 λhfit=> ?_
  simp[Tryz.f35]
  have s_:=An @q1 (An @TxnR.enc.eq_1 (@FSR.enc.eq_1))
  exact WW
abbrev cTup (x:StoreR×Int):AV:= .tup [.agg x.1.enc,I x.2]
@[simp] theorem setT0_enc (k:TxnR):setMany [I 0,.sl true 0 [],I 0,.sl true 0 [],I 0,.sl true 0 []] 0 k.enc=k.enc:=rfl
theorem Zmw (f k:StoreR):setMany f.enc 0 k.enc=k.enc:=rfl
theorem ZvN (s:StoreR) (t:TxnR) (hP:ZD s) (hb:ZaL 100000 s) (hs:s.stamp<9223372036854775807) (T:TxnP t) (h2:Zb Tryz.prog 209 [.agg s.enc,.agg t.enc] (B (Zbd s t))):Zb Tryz.prog 179 [.agg s.enc,.agg t.enc] (cTup (commitS s t)):=by
 have h1:=idle_ok t
 have hw:=T.wrows.len
 have hnw:=T.nrows.len
 have h3:=Zsi t.was t.now (by omega) (by omega)
 have hcl:=(Zah T.wrows T.nrows).1
 have h4:=Zsp s (changesS t.was t.now) t.now.next 100000 (hP.mid hb.l hb.vers) (by omega) hs (by have:=hP.stamp;omega) hP.some (by have:=hb.nexts;omega)
 unfold commitS
 by_cases q:t.was=t.now
 ·rw[decide_eq_true q] at h1
  rw[if_pos q]
  refine Pm Tryz.func179 λhfit=> ?_
  have d1_:=D0 5 10 [] []
  simp[Tryz.f179]
  have s_:=Zmw
  exact WW
 rw[decide_eq_false q] at h1
 rw[if_neg q]
 cases hc:Zbd s t with
 |true=>
  rw[hc] at h2
  rw[if_pos rfl]
  refine Pm Tryz.func179 λhfit=> ?_
  have d1_:=D0 5 10 [] []
  simp[Tryz.f179]
  have s_:=Zmw
  exact WW
 |false=>
  rw[hc] at h2
  rw[if_neg (by simp)]
  generalize changesS t.was t.now=C at*
  generalize installS s C t.now.next=X at*
  refine Pm Tryz.func179 λhfit=> ?_
  have d1_:=D0 5 10 [] []
  simp[Tryz.f179]
  have s_:=An @TxnR.enc.eq_1 (An @FSR.enc.eq_1 (@StoreR.enc.eq_1))
  exact WW
end Go.Proofs.YtgpkaoombhobmaaGreat
namespace Go.Proofs.YtgpkaoombhobmaaGreat
open Go.RowKit Go.Shelf
attribute [local go_sem] Oper.semAt_some
open Go.Cx in
theorem ZvO {s:StoreR} {t:TxnR} (hP:ZD s) (hb:ZbM s) {n:Nat} {Z:Nat->Prop} {κ:Nat->Slot} {w W:World} {v0 v1:Value} (r:Rel Z κ [] w) (hr:Rs Z w κ [.agg s.enc] [.agg #[v0,v1,.int .i64 s.stamp]]) (hB:Below w.heap.size w W) (B5:Nat) (h5:w.heap.size<=B5) (h5':B5<W.heap.size):
  CallsIn Fence.wide n Tryz.prog 296 #[.agg #[v0,v1,.int .i64 s.stamp],.int .i64 t.stamp] W (λe W'=>∃A cap,e= .returned (.slice A (sinceS s t.stamp).length cap)/\
   (∀(j:Nat) (hj:j<(sinceS s t.stamp).length),∃b off,A=some ⟨b,off,none⟩/\b≠B5/\W'.cell? ⟨b,off+j,none⟩=some (.int .i64 (sinceS s t.stamp)[j]))/\Below W.heap.size W W'):=by
 have hr2:Rs Z w κ [.agg s.enc,I t.stamp] [.agg #[v0,v1,.int .i64 s.stamp],.int .i64 t.stamp]:=by
  cases hr with
  |cons a b=>exact .cons a (.cons (.val rfl) .nil)
 refine((Zyl s t.stamp hP hb).raw r hr2 hB).mono ?_
 rintro e W' ⟨c,Z',κ',rfl,hc,hz,hb'⟩
 rcases nums_inv hc with⟨h0,A,cap,rfl⟩|⟨b,off,cap,rfl,hzb,hat⟩
 ·exact⟨A,cap,by rw[h0];rfl,λj hj=>by rw[h0] at hj;simp at hj,hb'⟩
 ·refine⟨_,cap,rfl,λj hj=>⟨b,off,rfl,λe=> ?_,hat j hj⟩,hb'⟩
  subst e
  rcases hz b hzb with h|h
  ·have:=r.zlt b h;omega
  ·omega
open Go.Cx in
set_option maxRecDepth 100000 in
set_option maxHeartbeats 2000000 in
theorem Zmx {s:StoreR} {t:TxnR} (hP:ZD s) (hb:ZbM s) (hl:(sinceS s t.stamp).length<=2000000) (n:Nat) (hn:1<=n) {Z:Nat->Prop} {κ:Nat->Slot} {w0 w:World} {v0 v1:Value} (r:Rel Z κ [] w0) (hr:Rs Z w0 κ [.agg s.enc] [.agg #[v0,v1,.int .i64 s.stamp]]) (hB:Below w0.heap.size w0 w)
  (Bs Bt B5:Nat) (hBs:Bs<w.heap.size) (hBt:Bt<w.heap.size) (h5:w0.heap.size<=B5) (h5':B5<w.heap.size)
  (hc0:w.cell? ⟨Bs,0,none⟩=some v0) (hc1:w.cell? ⟨Bs,1,none⟩=some v1) (hc2:w.cell? ⟨Bs,2,none⟩=some (.int .i64 s.stamp)) (hct:w.cell? ⟨Bt,0,none⟩=some (.int .i64 t.stamp)):
  SeqStopsK Fence.wide n Tryz.prog 295 #[.pointer (some ⟨Bs,0,none⟩),.pointer (some ⟨Bt,0,none⟩)] (λx:Int=> #[Value.int .i64 x]) (Zet B5) (λys=>ys=sinceS s t.stamp) (λpre=>pre<+:sinceS s t.stamp) (sinceS s t.stamp).length w:=λl J Jx W hW hJ _ hY h0=>by
 have hc0':=(hW.cell (p:=⟨Bs,0,none⟩) hBs).trans hc0
 have hc1':=(hW.cell (p:=⟨Bs,1,none⟩) hBs).trans hc1
 have hc2':=(hW.cell (p:=⟨Bs,2,none⟩) hBs).trans hc2
 have hct':=(hW.cell (p:=⟨Bt,0,none⟩) hBt).trans hct
 have hBW:Below w0.heap.size w0 W:=hB.trans (hW.mono hB.size)
 have hS:=ZvO (t:=t) hP hb (n:=n -1) r hr hBW B5 h5 (Nat.lt_of_lt_of_le h5' hW.size)
 generalize sinceS s t.stamp=L at*
 have hf:Fence.wide.fn 296:=trivial
 refine callsIn_of_wp Tryz.func295 rfl trivial ?_ rfl
 simp only[Tryz.ntmps295,List.size_toArray,List.length_cons,List.length_nil,Nat.reduceAdd,Nat.reduceSub,Array.replicate_succ,Array.replicate_zero,List.push_toArray,List.append_toArray,List.nil_append,List.cons_append]
 gi_wp2_with (gi_at_call 296;refine hS.mono ?_;rintro e W1 ⟨A,cap,rfl,hA,hb1⟩)
 have hJ1:J [] W1:=hJ [] W W1 none h0 ⟨hb1.os,hb1.tape,hb1.output,hb1.size,λk hk _=>hb1.block k hk⟩ (λr e=>by cases e)
 gi_loopw [11] (λi wr=>∃k:Nat,k<=L.length/\i= .int .i64 k/\J (L.take k) wr/\Zet B5 W1 wr) (λi _=>L.length -(intOf i).toNat)
 case atStart=>exact⟨0,Nat.zero_le _,rfl,hJ1,Zet.refl _ _⟩
 case round=>
  obtain⟨k,hk,rfl,hJs,hK⟩:=hrel
  by_cases hlt:k<L.length
  ·obtain⟨b,off,rfl,hbne,hcell⟩:=hA k hlt
   have hcx:=hK.cell hbne hcell
   obtain⟨fn,tmps,assign,body,hy,hR⟩:=hY _ L[k] _ hJs (by rw[List.length_take];omega)
   gi_wp2
   refine hR.mono ?_
   rintro e W3 (⟨rfl,hJ3,hk3⟩|⟨rfl,hJx3⟩)
   ·gi_wp2
    go_roundw
    case rel=>exact⟨k+1,by omega,by simp,by rw[List.take_succ_eq_append_getElem hlt];exact hJ3,hK.trans hk3⟩
    case measure=>simp[intOf];omega
   ·gi_wp2
    refine bodyPost_ret (results_none rfl _ _ _) rfl ?_
    exact⟨⟨_,rfl⟩,.inr ⟨_,by rw[<-List.take_succ_eq_append_getElem hlt];exact List.take_prefix _ _,hJx3⟩⟩
  ·obtain rfl:k=L.length:=by omega
   gi_wp2
   go_end0
   exact⟨⟨_,rfl⟩,.inl ⟨_,rfl,by rwa[List.take_length] at hJs⟩⟩
set_option maxHeartbeats 1000000 in
theorem later_in (n:Nat) (v0 v1 v2 u0 u1 u2 u3 u4 u5:Value) (w:World):
  CallsIn Fence.wide n Tryz.prog 239 #[.agg #[v0,v1,v2],.agg #[u0,u1,u2,u3,u4,u5]] w λe w'=>e= .returned (.func (.func 295) #[] #[.pointer (some ⟨w.heap.size,0,none⟩),.pointer (some ⟨w.heap.size+1,0,none⟩)])/\w'=(w.alloc (.cells #[v0,v1,v2] 25)).alloc (.cells #[u0,u1,u2,u3,u4,u5] 58):=by
 refine callsIn_of_wp Tryz.func239 rfl trivial ?_ rfl
 simp only[Tryz.ntmps239,List.size_toArray,List.length_cons,List.length_nil,Nat.reduceAdd,Nat.reduceSub,Array.replicate_succ,Array.replicate_zero,List.push_toArray,List.append_toArray,List.nil_append,List.cons_append]
 gi_wp2
 go_ret
 exact⟨rfl,rfl⟩
theorem ZbE {β:Type} (k:Nat) (o:Obj) (ho:o.isCells=true):Own (fun(_:β) W=>W.heap[k]? =some o):=λs X Y row h hg hrow=>by
 obtain⟨_,_,_,_,g5⟩:=hg
 show Y.heap[k]? =some o
 rw[g5 k (Array.getElem?_eq_some_iff.1 h).1 (λe=>by
  obtain⟨o',ho',hc⟩:=hrow k e.symm
  rw[show X.heap[k]? =some o from h] at ho';cases ho';rw[ho] at hc;cases hc)]
 exact h
theorem Zmy {β:Type} (B:Nat) (p:β->Prop):OwnFrom B (fun(x:β) (_:World)=>p x):=λ_ _ _ _ h _ _=>h
theorem Zen {W:World} {k:Nat} {o:Obj} (h:W.heap[k]? =some o) (o':Obj):(W.alloc o').heap[k]? =some o:=by
 obtain⟨_,_,_,_,g5⟩:=World.grownBy_alloc W o' none
 rw[g5 k (Array.getElem?_eq_some_iff.1 h).1 (by simp)]
 exact h
theorem ZcS {W:World} {k i:Nat} {cs:Array Value} {t:TypeId} {fr:Nat×Nat} {v:Value} (h:W.heap[k]? =some (.cells cs t fr)) (hv:cs[i]? =some v):W.cell? ⟨k,i,none⟩=some v:=by
 simp[World.cell?,h,hv]
open Go.Cx in
theorem ZsC {t:TxnR} (hri:Zat t.looks=true) (hk:t.looks.length<=1000000) {n:Nat} {Z:Nat->Prop} {κ:Nat->Slot} {w W:World} {u5:Value} (x:Int) (r:Rel Z κ [] w) (ht:Rs Z w κ [enc1 I t.looks] [u5]) (hB:Below w.heap.size w W):
  CallsIn Fence.wide n Tryz.prog 240 #[u5,.int .i64 x] W (λe W'=>∃i,e= .returned (.tuple #[.int .i64 i,.bool (decide (x∈t.looks))])/\Below W.heap.size W W'):=by
 obtain⟨i,hf⟩:=Zyx t.looks x hri hk
 have hr2:Rs Z w κ [enc1 I t.looks,I x] [u5,.int .i64 x]:=by
  cases ht with
  |cons a b=>exact .cons a (.cons (.val rfl) .nil)
 refine(hf.raw r hr2 hB).mono ?_
 rintro e W' ⟨c,Z',κ',rfl,hc,hz,hb'⟩
 cases hc with
 |tup h=>
  cases h with
  |cons a h=>
   cases h with
   |cons b h=>
    cases h
    cases a with
    |val _=>cases b with
     |val _=>exact⟨i,rfl,hb'⟩
open Go.Cx in
set_option maxRecDepth 100000 in
set_option maxHeartbeats 2000000 in
theorem ZyD {s:StoreR} {t:TxnR} (hP:ZD s) (hb:ZbM s) (hl:(sinceS s t.stamp).length<=2000000) (hri:Zat t.looks=true) (hk:t.looks.length<=1000000) (n:Nat) (hn:3<=n) {Z:Nat->Prop} {κ:Nat->Slot} {w:World} {v0 v1 u1 u2 u3 u4 u5:Value} (r:Rel Z κ [] w)
  (hs:Rs Z w κ [.agg s.enc] [.agg #[v0,v1,.int .i64 s.stamp]]) (ht:Rs Z w κ [enc1 I t.looks] [u5]):
  CallsIn Fence.wide n Tryz.prog 209 #[.agg #[v0,v1,.int .i64 s.stamp],.agg #[.int .i64 t.stamp,u1,u2,u3,u4,u5]] w λe W'=>e= .returned (.bool (Zbd s t))/\Below w.heap.size w W':=by
 have h1:1<=n:=by omega
 have hf:Fence.wide.fn 239:=trivial
 have hf2:Fence.wide.fn 240:=trivial
 refine callsIn_of_wp_marks Tryz.func209 rfl trivial ?_ rfl
 simp only[Tryz.ntmps209,List.size_toArray,List.length_cons,List.length_nil,Nat.reduceAdd,Nat.reduceSub,Array.replicate_succ,Array.replicate_zero,List.push_toArray,List.append_toArray,List.nil_append,List.cons_append]
 gi_wp2
 refine wpIn_wide.2 (wp_scope_straight ((wpIn_wide (n:=n)).1 ?_))
 gi_wp2
 refine wpIn_label ?_
 gi_wp2_with (gi_at_call 239;refine(later_in (n -1) _ _ _ _ _ _ _ _ _ _).mono ?_;rintro e w' ⟨rfl,rfl⟩)
 have b0:Below w.heap.size w (((((w.alloc (.cells #[v0,v1,.int .i64 s.stamp] 25)).alloc (.cells #[.int .i64 t.stamp,u1,u2,u3,u4,u5] 58)).alloc (.cells #[.bool false] 4)).alloc (.cells #[v0,v1,.int .i64 s.stamp] 25)).alloc (.cells #[.int .i64 t.stamp,u1,u2,u3,u4,u5] 58)):=by
  refine(((((Below.refl _ w).alloc (Nat.le_refl _) _).alloc ?_ _).alloc ?_ _).alloc ?_ _).alloc ?_ _<;>simp<;>omega
 have c1:=World.alloc_heap_new (w.alloc (.cells #[v0,v1,.int .i64 s.stamp] 25)) (.cells #[.int .i64 t.stamp,u1,u2,u3,u4,u5] 58)
 have c2:=World.alloc_heap_new ((w.alloc (.cells #[v0,v1,.int .i64 s.stamp] 25)).alloc (.cells #[.int .i64 t.stamp,u1,u2,u3,u4,u5] 58)) (.cells #[.bool false] 4)
 have c3:=World.alloc_heap_new (((w.alloc (.cells #[v0,v1,.int .i64 s.stamp] 25)).alloc (.cells #[.int .i64 t.stamp,u1,u2,u3,u4,u5] 58)).alloc (.cells #[.bool false] 4)) (.cells #[v0,v1,.int .i64 s.stamp] 25)
 have c4:=World.alloc_heap_new ((((w.alloc (.cells #[v0,v1,.int .i64 s.stamp] 25)).alloc (.cells #[.int .i64 t.stamp,u1,u2,u3,u4,u5] 58)).alloc (.cells #[.bool false] 4)).alloc (.cells #[v0,v1,.int .i64 s.stamp] 25)) (.cells #[.int .i64 t.stamp,u1,u2,u3,u4,u5] 58)
 have c1:=Zen (Zen (Zen c1 (.cells #[.bool false] 4)) (.cells #[v0,v1,.int .i64 s.stamp] 25)) (.cells #[.int .i64 t.stamp,u1,u2,u3,u4,u5] 58)
 have c2:=Zen (Zen c2 (.cells #[v0,v1,.int .i64 s.stamp] 25)) (.cells #[.int .i64 t.stamp,u1,u2,u3,u4,u5] 58)
 have c3:=Zen c3 (.cells #[.int .i64 t.stamp,u1,u2,u3,u4,u5] 58)
 simp only[World.size_alloc] at c1 c2 c3 c4
 generalize hwr:(((((w.alloc (.cells #[v0,v1,.int .i64 s.stamp] 25)).alloc (.cells #[.int .i64 t.stamp,u1,u2,u3,u4,u5] 58)).alloc (.cells #[.bool false] 4)).alloc (.cells #[v0,v1,.int .i64 s.stamp] 25)).alloc (.cells #[.int .i64 t.stamp,u1,u2,u3,u4,u5] 58))=wr at*
 have z4:=(Array.getElem?_eq_some_iff.1 c4).1
 have hseq:=Zmx hP hb hl (n -1) (by omega) r hs b0 (w.heap.size+1+1+1) (w.heap.size+1+1+1+1) (w.heap.size+1+1) (by omega) z4 (by omega) (by omega) (ZcS c3 rfl) (ZcS c3 rfl) (ZcS c3 rfl) (ZcS c4 rfl)
 refine wpIn_rangeFunc_ownG rfl h1 (gf:=295) (lb:= #[.pointer (some ⟨w.heap.size+1+1+1,0,none⟩),.pointer (some ⟨w.heap.size+1+1+1+1,0,none⟩)]) rfl trivial (enters_of Tryz.func295 (by kernel_rfl) rfl)
  hseq (λh k=>Zet.trans h k) (λW l o o' _ h hc _=>Zet.put W l o o' h hc) (Below.refl _ _) (λ_=>rfl)
  (λpre W=>(W.heap[w.heap.size+1+1]? =some (.cells #[.bool false] 4 (0,0))/\W.heap[w.heap.size+1]? =some (.cells #[.int .i64 t.stamp,u1,u2,u3,u4,u5] 58 (0,0)))/\Below w.heap.size w W/\(∀x∈pre,¬x∈t.looks))
  (λc pre W=>(W.heap[w.heap.size+1+1]? =some (.cells #[.bool true] 4 (0,0))/\Below w.heap.size w W)/\c= .exit 0/\∃x∈pre,x∈t.looks)
  (OwnFrom.and (OwnFrom.and ((ZbE _ _ rfl).from _) ((ZbE _ _ rfl).from _)) (OwnFrom.and (ownFrom_below (Nat.le_refl _) (by omega)) (Zmy _ _)))
  (λc=>OwnFrom.and (OwnFrom.and ((ZbE _ _ rfl).from _) (ownFrom_below (Nat.le_refl _) (by omega))) (Zmy _ _))
  ⟨⟨c2,c1⟩,b0,by simp⟩
  (λx=>{tmps:= #[.agg #[v0,v1,.int .i64 s.stamp],.agg #[.int .i64 t.stamp,u1,u2,u3,u4,u5],.pointer (some ⟨w.heap.size,0,none⟩),.pointer (some ⟨w.heap.size+1,0,none⟩),.bool false,.pointer (some ⟨w.heap.size+1+1,0,none⟩),.int .i64 x,.agg #[v0,v1,.int .i64 s.stamp],.agg #[.int .i64 t.stamp,u1,u2,u3,u4,u5],.func (.func 295) #[] #[.pointer (some ⟨w.heap.size+1+1+1,0,none⟩),.pointer (some ⟨w.heap.size+1+1+1+1,0,none⟩)],.int .i64 x,undef,undef,undef,undef,undef,undef,undef,undef,undef],defers:=[]}) ?assign ?body ?done ?stop
 case assign=>
  intro l x W K hK
  gi_wp2
  exact hK
 case body=>
  rintro l pre x W ⟨⟨hbx,htx⟩,hB,hno⟩ hlt
  have hcx:=ZcS (i:=5) htx rfl
  have hbxl:=(Array.getElem?_eq_some_iff.1 hbx).1
  have hn3:1<=n -1 -1:=by omega
  have hf3:(Fence.wide.inRound l).fn 240:=trivial
  gi_wp2
  refine(CallsIn.inRound l (ZsC hri hk x r ht hB)).mono ?_
  rintro e W1 ⟨i,rfl,hb1⟩
  have hbx1:Boxed W1 (w.heap.size+1+1) 4 (.bool false):=(hb1.block _ hbxl).trans hbx
  have hcb:=hbx1.cell
  have hfb:=hbx1.frozen
  obtain⟨g1,g2,g3,g4,g5⟩:=grownBy_setCell' W1 (w.heap.size+1+1) (.bool (decide (x∈t.looks)))
  have hkeep:∀(k:Nat),k<W.heap.size->k≠w.heap.size+1+1->(W1.setCell ⟨w.heap.size+1+1,0,none⟩ (.bool (decide (x∈t.looks)))).heap[k]? =W.heap[k]? :=λk hk hne=>by
   rw[g5 k (Nat.lt_of_lt_of_le hk hb1.size) (λe=>hne (by injection e)),hb1.block k hk]
  have hsz:W.heap.size<=(W1.setCell ⟨w.heap.size+1+1,0,none⟩ (.bool (decide (x∈t.looks)))).heap.size:=Nat.le_trans hb1.size g4
  have hkf:KeepsFrom wr.heap.size W (W1.setCell ⟨w.heap.size+1+1,0,none⟩ (.bool (decide (x∈t.looks)))):=⟨hsz,λk o _ ho hc=>by
   rw[hkeep k (Array.getElem?_eq_some_iff.1 ho).1 (λe=>by subst e;rw[hbx] at ho;cases ho;cases hc)];exact ho⟩
  have hkc:Zet (w.heap.size+1+1) W (W1.setCell ⟨w.heap.size+1+1,0,none⟩ (.bool (decide (x∈t.looks)))):=⟨g1.trans hb1.os,g2.trans hb1.tape,g3.trans hb1.output,hsz,λk o hne ho _=>by
   rw[hkeep k (Array.getElem?_eq_some_iff.1 ho).1 hne];exact ho⟩
  have hbel:Below w.heap.size w (W1.setCell ⟨w.heap.size+1+1,0,none⟩ (.bool (decide (x∈t.looks)))):=⟨hkc.os.trans hB.os,hkc.tape.trans hB.tape,hkc.output.trans hB.output,Nat.le_trans hB.size hsz,λk hk=>by
   rw[hkeep k (Nat.lt_of_lt_of_le hk hB.size) (by omega),hB.block k hk]⟩
  have htx2:=(hkeep (w.heap.size+1) (Array.getElem?_eq_some_iff.1 htx).1 (by omega)).trans htx
  have hbt:Boxed _ _ _ _:=hbx1.set (.bool (decide (x∈t.looks)))
  have hct:=hbt.cell
  clear g1 g2 g3 g4 g5 hkeep hsz
  by_cases q:x∈t.looks
  ·rw[decide_eq_true q] at*
   gi_wp2
   exact⟨hkf,⟨hbt,hbel⟩,rfl,x,by simp,q⟩
  ·rw[decide_eq_false q] at*
   gi_wp2
   exact⟨hkf,hkc,⟨hbt,htx2⟩,hbel,λy hy=>(List.mem_append.1 hy).elim (hno y) (λh=>by rw[List.mem_singleton.1 h];exact q)⟩
 case done=>
  rintro D ys W hD rfl ⟨⟨hbx,htx⟩,hB,hno⟩ hK
  have hcb:=(show Boxed W _ _ _ from hbx).cell
  have e:Zbd s t=false:=by
   unfold Zbd
   rw[List.any_eq_false]
   intro x hx;simpa using hno x hx
  gi_wp2
  refine⟨by simp,.inl ⟨_,_,rfl,run_takeDeferred hK,?_⟩⟩
  rw[e]
  exact⟨_,results_tmp rfl _ _ _,rfl,hB.trans (belowK_b (w:=w) (Nat.le_refl _) W D _ _ (by omega) hK rfl rfl)⟩
 case stop=>
  rintro D c pre W hD hpre ⟨⟨hbx,hB⟩,rfl,hx⟩ hK
  have hcb:=(show Boxed W _ _ _ from hbx).cell
  have e:Zbd s t=true:=by
   unfold Zbd
   rw[List.any_eq_true]
   obtain⟨x,hx,hx2⟩:=hx
   exact⟨x,hpre.subset hx,by simpa using hx2⟩
  gi_wp2
  refine⟨by simp,.inl ⟨_,_,rfl,run_takeDeferred hK,?_⟩⟩
  rw[e]
  exact⟨_,results_tmp rfl _ _ _,rfl,hB.trans (belowK_b (w:=w) (Nat.le_refl _) W D _ _ (by omega) hK rfl rfl)⟩
open Go.Cx in
theorem ZyE (s:StoreR) (t:TxnR) (hP:ZD s) (hb:ZbM s) (hri:Zat t.looks=true) (hk:t.looks.length<=1000000):Zb Tryz.prog 209 [.agg s.enc,.agg t.enc] (B (Zbd s t)):=by
 refine⟨by simp,by simp,Ent.mk Tryz.func209 (by kernel_rfl) rfl,λZ κ w cargs r hr=> ?_⟩
 have hl:(sinceS s t.stamp).length<=2000000:=by have:=ZvM s t.stamp;have:=hb.l;omega
 cases hr with
 |cons h1 h2=>
 cases h2 with
 |cons h2 h3=>
 cases h3
 cases h1 with
 |agg h1=>
 cases h2 with
 |agg h2=>
 have h1':=h1
 have h2':=h2
 simp only[StoreR.enc] at h1'
 simp only[TxnR.enc,FSR.enc,List.cons_append,List.nil_append] at h2'
 cases h1' with
 |cons a0 h1'=>
 cases h1' with
 |cons a1 h1'=>
 cases h1' with
 |cons a2 h1'=>
 cases h1'
 cases a2 with
 |val _=>
 cases h2' with
 |cons c0 h2'=>
 cases c0 with
 |val _=>
 cases h2' with
 |cons c1 h2'=>
 cases h2' with
 |cons c2 h2'=>
 cases h2' with
 |cons c3 h2'=>
 cases h2' with
 |cons c4 h2'=>
 cases h2' with
 |cons c5 h2'=>
 cases h2'
 refine(callsIn_wide.1 (ZyD hP hb hl hri hk 3 (by omega) r (.cons (.agg h1) .nil) (.cons c5 .nil))).mono ?_
 rintro e W' ⟨rfl,hB⟩
 exact⟨_,_,Z,κ,_,⟨rfl,rfl⟩,rfl,r.later hB,.val rfl,Ext.of_below hB,.refl _ _⟩
end Go.Proofs.YtgpkaoombhobmaaGreat
