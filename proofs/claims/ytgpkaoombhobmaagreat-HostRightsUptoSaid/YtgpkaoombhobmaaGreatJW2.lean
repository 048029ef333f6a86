import Derived.Test.YtgpkaoombhobmaaGreatChecked
import Derived.Test.YtgpkaoombhobmaaGreatJTab
import Derived.Test.YtgpkaoombhobmaaGreatJBe
import Derived.Test.YtgpkaoombhobmaaGreatJBd
import Derived.Test.YtgpkaoombhobmaaGreatJShelf
import Derived.Test.YtgpkaoombhobmaaGreatJP1
import Derived.Test.YtgpkaoombhobmaaGreatJW1
set_option linter.unusedVariables false
set_option linter.unusedSimpArgs false
namespace Go.Proofs.YtgpkaoombhobmaaGreat
open Go.Cx Tab
set_option maxHeartbeats 400000
set_option maxRecDepth 40000
theorem Zoa (n:RowR):Zb Tryz.prog 126 [.agg n.enc] (I n.client):=by
 refine Pm Tryz.func126 λhfit=> ?_
 simp[Tryz.f126,RowR.enc]
abbrev byR:AV:= .fn 172 [.fp [.fn 126 []]]
theorem ZeQ (n:RowR) (k:Int):Zb Tryz.prog 172 [.agg n.enc,I k,.fp [.fn 126 []]] (I (Lib.compareInt n.client k)):=by
 refine Pm Tryz.func172 λhfit=> ?_
 simp[Tryz.f172,RowR.enc]
 have s_:= @RowR.enc.eq_1
 have p1_:=Zoa n
 have p2_:=Zej n.client k
 exact WW
abbrev atR (l:List RowR) (i:Nat):Int:=(l.getD i .zero).client
theorem Zob (l:List RowR) (k:Int) (hl:l.length<=1000000):Zb Tryz.prog 171 [encL RowR.enc l,I k,byR] (.tup [I (bsGo (atR l) k 0 l.length),B (decide (bsGo (atR l) k 0 l.length<l.length)&&decide (atR l (bsGo (atR l) k 0 l.length)=k))]):=by
 refine Pm Tryz.func171 λhfit=> ?_
 simp at hfit
 simp[Tryz.f171]
 refine AW.loopG (lit:=λ_=>false) (λx:Nat×Nat=>⟨49,pat [(0,encL RowR.enc l),(1,I k),(2,byR),(8,I l.length),(9,I x.1),(10,I x.2)],[]⟩) (λx=>x.2 -x.1) (λx=>x.1<=x.2/\x.2<=l.length/\bsGo (atR l) k x.1 x.2=bsGo (atR l) k 0 l.length) (0,l.length) ?_ ?_ ?_
 ·exact Wk.at _ rfl rfl (by simp)
 ·simp
 rintro⟨i,j⟩ ⟨h1,h2,h3⟩ A hA
 simp only at h1 h2 h3
 have hat:∀m (h:m<l.length),atR l m=(l[m]).client:=λm h=>by simp[atR,List.getD_eq_getElem?_getD,h]
 by_cases h:i<j
 case neg=>
  have hij:i=j:=by omega
  subst hij
  rw[Zdw h] at h3
  by_cases hi:i<l.length
  ·have e1:=hat i hi
   have s_:=An @h (An @hi (An (Eq.symm (h3)) (An @cmp_eq (An @RowR.enc.eq_1 (@e1)))))
   have p1_:=ZeQ l[i] k
   exact WW
  ·have s_:=An @h (An @hi (Eq.symm (h3)))
   exact WW
 rw[Zdv h] at h3
 have hm:(i+j)/2<l.length:=by omega
 have e1:=hat _ hm
 have w1:IntKind.i64.wrap ((i:Int)+j)=(i:Int)+j:=Zh (by omega) (by omega)
 have w2:((i:Int)+j)%18446744073709551616=(i:Int)+j:=by omega
 have w3:((i:Int)+j).fdiv 2=(((i+j)/2:Nat):Int):=by rw[Int.fdiv_eq_ediv_of_nonneg _ (by omega)];omega
 have w4:IntKind.i64.wrap (((i+j)/2:Nat):Int)=(((i+j)/2:Nat):Int):=Zh (by omega) (by omega)
 generalize hmm:(i+j)/2=m at*
 have w5:IntKind.i64.wrap ((m:Int)+1)=((m+1:Nat):Int):=by rw[Zh (by omega) (by omega)];omega
 have hk:atR l m<k\/¬atR l m<k:=Classical.em _
 rcases hk with hk|hk
 ·rw[if_pos hk] at h3
  rw[e1] at hk
  have s_:=An @h (An @w1 (An @w2 (An @w3 (An @w4 (An @w5 (An @hm (An @cmp_lt (An @RowR.enc.eq_1 (@hk)))))))))
  have q1_:=λs w=>hA (m+1,j) s w ⟨by simp only;omega,h2,h3⟩ (by simp only;omega)
  have p1_:=ZeQ l[m] k
  exact WW
 ·rw[if_neg hk] at h3
  rw[e1] at hk
  have s_:=An @h (An @w1 (An @w2 (An @w3 (An @w4 (An @w5 (An @hm (An @cmp_lt (An @RowR.enc.eq_1 (@hk)))))))))
  have q1_:=λs w=>hA (i,m) s w ⟨by simp only;omega,by simp only;omega,h3⟩ (by simp only;omega)
  have p1_:=ZeQ l[m] k
  exact WW
theorem Zyp (l:List RowR) (k:Int) (hr:Zo RowR.client l=true) (hl:l.length<=1000000):Zb Tryz.prog 140 [encL RowR.enc l,I k,.fn 126 []] (.tup [I (placeS RowR.client l k),B (Zak RowR.client l k).isSome]):=by
 have h1:=Zob l k hl
 have hat:∀m (h:m<l.length),atR l m=(l[m]).client:=λm h=>by simp[atR,List.getD_eq_getElem?_getD,h]
 rw[Zfo RowR.client hr hat k] at h1
 have e:(decide (placeS RowR.client l k<l.length)&&decide (atR l (placeS RowR.client l k)=k))=(Zak RowR.client l k).isSome:=by
  cases hf:Zak RowR.client l k with
  |some x=>
   obtain⟨hp,e⟩:=Zao RowR.client hr hf
   rw[hat _ hp,e]
   simp[hp,(ZC RowR.client hf).2]
  |none=>
   by_cases hp:placeS RowR.client l k<l.length
   ·have:=ZcN RowR.client hr hf hp
    rw[hat _ hp]
    simp[this]
   ·simp[hp]
 rw[e] at h1
 refine Pm Tryz.func140 λhfit=> ?_
 simp[Tryz.f140]
 exact WW
theorem cloneR_ok (l:List RowR) (hl:l.length<=1000000):XCall Tryz.prog 173 [encL RowR.enc l] [] (.own 0 0 0 l.length 4) [.cells 0 (l.flatMap RowR.enc)]:=by
 refine XCall.mkE 4 (λ_=>false) Tryz.func173 rfl rfl rfl (Ent.mk Tryz.func173 (by kernel_rfl) rfl) (by simp) (by simp) (by simp) (by simp) (by simp) λhfit=> ?_
 simp at hfit
 simp[Tryz.f173]
 rw[if_pos (by simp only[maxLen];omega)]
 simp
 intro h0
 subst h0
 simp
theorem Zoc (n:DecisionR):Zb Tryz.prog 75 [.agg n.enc] (I n.seq):=by
 refine Pm Tryz.func75 λhfit=> ?_
 simp[Tryz.f75,DecisionR.enc]
abbrev byD:AV:= .fn 142 [.fp [.fn 75 []]]
theorem ZeR (n:DecisionR) (k:Int):Zb Tryz.prog 142 [.agg n.enc,I k,.fp [.fn 75 []]] (I (Lib.compareInt n.seq k)):=by
 refine Pm Tryz.func142 λhfit=> ?_
 simp[Tryz.f142,DecisionR.enc]
 have s_:= @DecisionR.enc.eq_1
 have p1_:=Zoc n
 have p2_:=Zej n.seq k
 exact WW
abbrev atD (l:List DecisionR) (i:Nat):Int:=(l.getD i .zero).seq
theorem Zod (l:List DecisionR) (k:Int) (hl:l.length<=1000000):Zb Tryz.prog 141 [encL DecisionR.enc l,I k,byD] (.tup [I (bsGo (atD l) k 0 l.length),B (decide (bsGo (atD l) k 0 l.length<l.length)&&decide (atD l (bsGo (atD l) k 0 l.length)=k))]):=by
 refine Pm Tryz.func141 λhfit=> ?_
 simp at hfit
 simp[Tryz.f141]
 refine AW.loopG (lit:=λ_=>false) (λx:Nat×Nat=>⟨49,pat [(0,encL DecisionR.enc l),(1,I k),(2,byD),(8,I l.length),(9,I x.1),(10,I x.2)],[]⟩) (λx=>x.2 -x.1) (λx=>x.1<=x.2/\x.2<=l.length/\bsGo (atD l) k x.1 x.2=bsGo (atD l) k 0 l.length) (0,l.length) ?_ ?_ ?_
 ·exact Wk.at _ rfl rfl (by simp)
 ·simp
 rintro⟨i,j⟩ ⟨h1,h2,h3⟩ A hA
 simp only at h1 h2 h3
 have hat:∀m (h:m<l.length),atD l m=(l[m]).seq:=λm h=>by simp[atD,List.getD_eq_getElem?_getD,h]
 by_cases h:i<j
 case neg=>
  have hij:i=j:=by omega
  subst hij
  rw[Zdw h] at h3
  by_cases hi:i<l.length
  ·have e1:=hat i hi
   have s_:=An @h (An @hi (An (Eq.symm (h3)) (An @cmp_eq (An @DecisionR.enc.eq_1 (@e1)))))
   have p1_:=ZeR l[i] k
   exact WW
  ·have s_:=An @h (An @hi (Eq.symm (h3)))
   exact WW
 rw[Zdv h] at h3
 have hm:(i+j)/2<l.length:=by omega
 have e1:=hat _ hm
 have w1:IntKind.i64.wrap ((i:Int)+j)=(i:Int)+j:=Zh (by omega) (by omega)
 have w2:((i:Int)+j)%18446744073709551616=(i:Int)+j:=by omega
 have w3:((i:Int)+j).fdiv 2=(((i+j)/2:Nat):Int):=by rw[Int.fdiv_eq_ediv_of_nonneg _ (by omega)];omega
 have w4:IntKind.i64.wrap (((i+j)/2:Nat):Int)=(((i+j)/2:Nat):Int):=Zh (by omega) (by omega)
 generalize hmm:(i+j)/2=m at*
 have w5:IntKind.i64.wrap ((m:Int)+1)=((m+1:Nat):Int):=by rw[Zh (by omega) (by omega)];omega
 have hk:atD l m<k\/¬atD l m<k:=Classical.em _
 rcases hk with hk|hk
 ·rw[if_pos hk] at h3
  rw[e1] at hk
  have s_:=An @h (An @w1 (An @w2 (An @w3 (An @w4 (An @w5 (An @hm (An @cmp_lt (An @DecisionR.enc.eq_1 (@hk)))))))))
  have q1_:=λs w=>hA (m+1,j) s w ⟨by simp only;omega,h2,h3⟩ (by simp only;omega)
  have p1_:=ZeR l[m] k
  exact WW
 ·rw[if_neg hk] at h3
  rw[e1] at hk
  have s_:=An @h (An @w1 (An @w2 (An @w3 (An @w4 (An @w5 (An @hm (An @cmp_lt (An @DecisionR.enc.eq_1 (@hk)))))))))
  have q1_:=λs w=>hA (i,m) s w ⟨by simp only;omega,by simp only;omega,h3⟩ (by simp only;omega)
  have p1_:=ZeR l[m] k
  exact WW
theorem ZpU (l:List DecisionR) (k:Int) (hr:Zo DecisionR.seq l=true) (hl:l.length<=1000000):Zb Tryz.prog 74 [encL DecisionR.enc l,I k,.fn 75 []] (.tup [I (placeS DecisionR.seq l k),B (Zak DecisionR.seq l k).isSome]):=by
 have h1:=Zod l k hl
 have hat:∀m (h:m<l.length),atD l m=(l[m]).seq:=λm h=>by simp[atD,List.getD_eq_getElem?_getD,h]
 rw[Zfo DecisionR.seq hr hat k] at h1
 have e:(decide (placeS DecisionR.seq l k<l.length)&&decide (atD l (placeS DecisionR.seq l k)=k))=(Zak DecisionR.seq l k).isSome:=by
  cases hf:Zak DecisionR.seq l k with
  |some x=>
   obtain⟨hp,e⟩:=Zao DecisionR.seq hr hf
   rw[hat _ hp,e]
   simp[hp,(ZC DecisionR.seq hf).2]
  |none=>
   by_cases hp:placeS DecisionR.seq l k<l.length
   ·have:=ZcN DecisionR.seq hr hf hp
    rw[hat _ hp]
    simp[this]
   ·simp[hp]
 rw[e] at h1
 refine Pm Tryz.func74 λhfit=> ?_
 simp[Tryz.f74]
 exact WW
theorem cloneD_ok (l:List DecisionR) (hl:l.length<=1000000):XCall Tryz.prog 146 [encL DecisionR.enc l] [] (.own 0 0 0 l.length 2) [.cells 0 (l.flatMap DecisionR.enc)]:=by
 refine XCall.mkE 2 (λ_=>false) Tryz.func146 rfl rfl rfl (Ent.mk Tryz.func146 (by kernel_rfl) rfl) (by simp) (by simp) (by simp) (by simp) (by simp) λhfit=> ?_
 simp at hfit
 simp[Tryz.f146]
 rw[if_pos (by simp only[maxLen];omega)]
 simp
 intro h0
 subst h0
 simp
theorem Zsr (l:List RowR) (i:Nat) (x:RowR) (hi:i<=l.length) (hl:l.length<=1000000):XCall Tryz.prog 174 [.own 0 0 0 l.length 4,I i,.sl true 1 x.enc] [.cells 0 (l.flatMap RowR.enc)] (.own 0 1 0 (l.length+1) 4) [.cells 1 ((insL l i x).flatMap RowR.enc)]:=by
 by_cases hi2:i=l.length
 case pos=>
  subst hi2
  refine XCall.mkG (λs (_:Unit)=>s) (λ_=>false) Tryz.func174 rfl rfl rfl (Ent.mk Tryz.func174 (by kernel_rfl) rfl) (by simp) (by simp) (by simp) (by simp) (by simp) λhfit=> ?_
  refine⟨WkE.one _ _,λ_=> ?_⟩
  simp[Tryz.f174]
  rw[if_pos (by simp only[maxLen];omega)]
  simp
  exact⟨_,Wk.refl _ _,by simp[ZdV]⟩
 have hi3:i<l.length:=by omega
 have hcp:∀cap,l.length<=cap->(l.length*4+(cap*4 -l.length*4))/4=cap:=λcap h=>by omega
 have hw1:IntKind.i64.wrap ((l.length:Int)+1)=((l.length+1:Nat):Int):=by rw[Zh (by omega) (by omega)];omega
 have hw2:IntKind.i64.wrap ((i:Int)+1)=((i+1:Nat):Int):=by rw[Zh (by omega) (by omega)];omega
 have hw3:IntKind.i64.wrap ((l.length:Int)+1 -i)=((l.length+1 -i:Nat):Int):=by rw[Zh (by omega) (by omega)];omega
 have hw4:((i:Int)+((l.length+1 -i:Nat):Int)).toNat=l.length+1:=by omega
 have hm1:min 1 (l.length+1 -i)=1:=by omega
 have hm2:∀cap,l.length<=cap->min (i*4) (l.length*4+(cap*4 -l.length*4))=i*4:=λcap h=>by omega
 have hov:∀(lb:Nat) (h:Za) (y:ABlk) (Q:AV->Za->Prop),h[0]? =some y->(blkCells y).map (·.1)=some 0->Q (B false) h->AInv Tryz.prog (.fn 203 []) [.sl true 1 x.enc,.own 0 0 (i+1) lb 4] h Q:=λlb h y Q hy hv hq=>
  Zbz Tryz.func203 (by kernel_rfl) rfl (by kernel_rfl) rfl rfl (by kernel_rfl) (k:=4) (by kernel_rfl) true 1 _ _ 0 0 (i+1) lb hy hv (by omega) Q hq
 refine XCall.mkG (λs (cap:{cap:Nat//l.length<=cap/\cap<=maxLen})=>Zcl s 0 0 4 (l.flatMap RowR.enc) cap.1) (λ_=>false) Tryz.func174 rfl rfl rfl (Ent.mk Tryz.func174 (by kernel_rfl) rfl) (by simp) (by simp) (by simp) (by simp) (by simp) λhfit=> ?_
 refine⟨WkE.full (t:=0) (by simp) (by simp) (by omega) (by simp),?_⟩
 rintro⟨cap,hc1,hc2⟩
 have hcp1:=hcp cap hc1
 have hm3:=hm2 cap hc1
 have hi4:¬i=l.length:=by omega
 have hle:i<=l.length:=by omega
 generalize hA:List.replicate (cap*4 -l.length*4) AV.any=A
 have hAl:A.length=cap*4 -l.length*4:=by rw[<-hA];simp
 have hLl:(l.flatMap RowR.enc).length=l.length*4:=ZoN l
 have hta:(l.flatMap RowR.enc++A).take (i*4)=(l.flatMap RowR.enc).take (i*4):=List.take_append_of_le_length (by rw[hLl];omega)
 have hdr:(l.flatMap RowR.enc).drop (i*4)=(l.drop i).flatMap RowR.enc:=ZqB l i
 have hq0:(l.flatMap RowR.enc++A).drop (i*4)=(l.drop i).flatMap RowR.enc++A:=by rw[List.drop_append_of_le_length (by rw[hLl];omega),hdr]
 have hdl:((l.drop i).flatMap RowR.enc).length=l.length*4 -i*4:=by rw[ZoN,List.length_drop];omega
 by_cases hr:l.length+1<=cap
 ·have hm4:min (l.length+1 -i) (l.length -i)=l.length -i:=by omega
  have hm5:min ((l.length+1 -i)*4) ((l.length -i)*4+(cap*4 -l.length*4))=(l.length+1 -i)*4:=by omega
  have hm6:min ((l.length+1 -i)*4) (l.length*4+(cap*4 -l.length*4) -i*4)=(l.length+1 -i)*4:=by omega
  have hq1:List.take ((l.length -i)*4) (List.take ((l.length+1 -i)*4) ((l.drop i).flatMap RowR.enc++A))=(l.drop i).flatMap RowR.enc:=by
   rw[List.take_take,Nat.min_eq_left (by omega),List.take_left' (by rw[hdl];omega)]
  have hq2:(putAt (l.flatMap RowR.enc++A) ((i+1)*4) ((l.drop i).flatMap RowR.enc)).length=cap*4:=by
   rw[ZE (by rw[List.length_append,hLl,hAl,hdl];omega),List.length_append,hLl,hAl];omega
  have hq3:(putAt (putAt (l.flatMap RowR.enc++A) ((i+1)*4) ((l.drop i).flatMap RowR.enc)) (i*4) x.enc).take ((l.length+1)*4)=(insL l i x).flatMap RowR.enc:=by
   have:=ZdT (L:=l.flatMap RowR.enc) (A:=A) (X:=x.enc) (a:=i*4) (k:=4) hLl (by omega) rfl (by rw[hAl];omega)
   rw[ZoR,hq0,List.take_left' (by rw[hdl])] at this
   rw[show(i+1)*4=i*4+4 by omega,show(l.length+1)*4=l.length*4+4 by omega]
   exact this
  have hone:∀y∈(l.drop i).flatMap RowR.enc,Zy y=true:=List.all_eq_true.1 (ZoM _)
  simp[Tryz.f174,Zcl,hA]
  have s_:=An @hcp1 (An @hw1 (An @hw2 (An @hw3 (An @hw4 (An @hm1 (An @hm3 (An @hm4 (An @hq0 (An @hq1 (An @hq2 (An @hi3 (An @hi4 (An @hle (@hr))))))))))))))
  try simp[s_]
  repeat' ((first|((first|refine Tp ?_|refine Tn ?_|refine T2 ?_ ?_)<;>intro h_ e_ n_)|(refine hov _ _ _ _ rfl rfl ?_;simp)|(refine optBif ⟨rfl,by rw[List.length_append,hLl,hAl];omega,by rw[List.length_take,List.length_append,hdl,hAl];omega,by rw[hm4,hq1];exact hone⟩ ?_;simp)|refine Dg 11 9 [] [] ?_|refine Dg 15 9 [] [] ?_|rw[Ip]|rw[In]|rw[Fz]|rw[Gz]|fail)<;>first|simp[e_,n_,s_]|simp[s_]|skip)
  exact⟨_,Wk.trans (Wk.prefix 0 0 ((l.length+1)*4) rfl rfl) (Wk.bump 6 0 0 0 (l.length+1) 4 (by simp) rfl),by simp[hq3]⟩
 ·have hm5:min ((l.length -i)*4) ((l.length -i)*4+(cap*4 -l.length*4))=(l.length -i)*4:=by omega
  have hq1:List.take ((l.length -i)*4) (List.take ((l.length -i)*4) ((l.drop i).flatMap RowR.enc++A))=(l.drop i).flatMap RowR.enc:=by
   rw[List.take_take,Nat.min_self,List.take_left' (by rw[hdl];omega)]
  have hq4:List.take ((l.length -i)*4) ((l.drop i).flatMap RowR.enc)=(l.drop i).flatMap RowR.enc:=List.take_of_length_le (by rw[hdl];omega)
  have hone:∀y∈(l.drop i).flatMap RowR.enc,Zy y=true:=List.all_eq_true.1 (ZoM _)
  simp[Tryz.f174,Zcl,hA]
  generalize hZ:(List.replicate (l.length+1 -i) [AV.val (Value.int IntKind.i64 0),AV.val (Value.int IntKind.i64 0),AV.val (Value.int IntKind.i64 0),AV.sl true 0 []]).flatten=Z
  have hZl:Z.length=(l.length+1 -i)*4:=by rw[<-hZ];simp
  have hta':((l.flatMap RowR.enc).take (i*4)).length=i*4:=by rw[List.length_take,hLl];omega
  have hq2:(putAt ((l.flatMap RowR.enc).take (i*4)++Z) (i*4) x.enc).length=(l.length+1)*4:=by
   rw[ZE (by rw[List.length_append,hta',hZl,ZtO];omega),List.length_append,hta',hZl];omega
  have hq3:putAt (putAt ((l.flatMap RowR.enc).take (i*4)++Z) (i*4) x.enc) ((i+1)*4) ((l.drop i).flatMap RowR.enc)=(insL l i x).flatMap RowR.enc:=by
   have:=ZdU (L:=l.flatMap RowR.enc) (A:=A) (X:=x.enc) (Z:=Z) (a:=i*4) (k:=4) hLl (by omega) rfl (by rw[hZl];omega)
   rw[ZoR,hta,hq0,List.take_left' (by rw[hdl])] at this
   rw[show(i+1)*4=i*4+4 by omega]
   exact this
  have s_:=An @hcp1 (An @hw1 (An @hw2 (An @hw3 (An @hw4 (An @hm1 (An @hm3 (An @hq0 (An @hq1 (An @hq4 (An @hta (An @hZ (An @hi3 (An @hi4 (An @hle (@hr)))))))))))))))
  try simp[s_]
  repeat' ((first|((first|refine Tp ?_|refine Tn ?_|refine T2 ?_ ?_)<;>intro h_ e_ n_)|(refine optBif ⟨by rw[hq2];omega,hone⟩ ?_;simp)|refine Dg 11 9 [] [] ?_|refine Dg 15 9 [] [] ?_|rw[Ip]|rw[In]|rw[Fz]|rw[Gz]|fail)<;>first|simp[e_,n_,s_]|simp[s_]|skip)
  exact⟨_,Wk.move 6 0 1 0 0 (l.length+1) 4 (by decide) (by simp;omega) rfl rfl rfl,by simp[hq3]⟩
theorem Zss (l:List DecisionR) (i:Nat) (x:DecisionR) (hi:i<=l.length) (hl:l.length<=1000000):XCall Tryz.prog 213 [.own 0 0 0 l.length 2,I i,.sl true 1 x.enc] [.cells 0 (l.flatMap DecisionR.enc)] (.own 0 1 0 (l.length+1) 2) [.cells 1 ((insL l i x).flatMap DecisionR.enc)]:=by
 by_cases hi2:i=l.length
 case pos=>
  subst hi2
  refine XCall.mkG (λs (_:Unit)=>s) (λ_=>false) Tryz.func213 rfl rfl rfl (Ent.mk Tryz.func213 (by kernel_rfl) rfl) (by simp) (by simp) (by simp) (by simp) (by simp) λhfit=> ?_
  refine⟨WkE.one _ _,λ_=> ?_⟩
  simp[Tryz.f213]
  rw[if_pos (by simp only[maxLen];omega)]
  simp
  exact⟨_,Wk.refl _ _,by simp[ZdV]⟩
 have hi3:i<l.length:=by omega
 have hcp:∀cap,l.length<=cap->(l.length*2+(cap*2 -l.length*2))/2=cap:=λcap h=>by omega
 have hw1:IntKind.i64.wrap ((l.length:Int)+1)=((l.length+1:Nat):Int):=by rw[Zh (by omega) (by omega)];omega
 have hw2:IntKind.i64.wrap ((i:Int)+1)=((i+1:Nat):Int):=by rw[Zh (by omega) (by omega)];omega
 have hw3:IntKind.i64.wrap ((l.length:Int)+1 -i)=((l.length+1 -i:Nat):Int):=by rw[Zh (by omega) (by omega)];omega
 have hw4:((i:Int)+((l.length+1 -i:Nat):Int)).toNat=l.length+1:=by omega
 have hm1:min 1 (l.length+1 -i)=1:=by omega
 have hm2:∀cap,l.length<=cap->min (i*2) (l.length*2+(cap*2 -l.length*2))=i*2:=λcap h=>by omega
 have hov:∀(lb:Nat) (h:Za) (y:ABlk) (Q:AV->Za->Prop),h[0]? =some y->(blkCells y).map (·.1)=some 0->Q (B false) h->AInv Tryz.prog (.fn 244 []) [.sl true 1 x.enc,.own 0 0 (i+1) lb 2] h Q:=λlb h y Q hy hv hq=>
  Zbz Tryz.func244 (by kernel_rfl) rfl (by kernel_rfl) rfl rfl (by kernel_rfl) (k:=2) (by kernel_rfl) true 1 _ _ 0 0 (i+1) lb hy hv (by omega) Q hq
 refine XCall.mkG (λs (cap:{cap:Nat//l.length<=cap/\cap<=maxLen})=>Zcl s 0 0 2 (l.flatMap DecisionR.enc) cap.1) (λ_=>false) Tryz.func213 rfl rfl rfl (Ent.mk Tryz.func213 (by kernel_rfl) rfl) (by simp) (by simp) (by simp) (by simp) (by simp) λhfit=> ?_
 refine⟨WkE.full (t:=0) (by simp) (by simp) (by omega) (by simp),?_⟩
 rintro⟨cap,hc1,hc2⟩
 have hcp1:=hcp cap hc1
 have hm3:=hm2 cap hc1
 have hi4:¬i=l.length:=by omega
 have hle:i<=l.length:=by omega
 generalize hA:List.replicate (cap*2 -l.length*2) AV.any=A
 have hAl:A.length=cap*2 -l.length*2:=by rw[<-hA];simp
 have hLl:(l.flatMap DecisionR.enc).length=l.length*2:=Zfl l
 have hta:(l.flatMap DecisionR.enc++A).take (i*2)=(l.flatMap DecisionR.enc).take (i*2):=List.take_append_of_le_length (by rw[hLl];omega)
 have hdr:(l.flatMap DecisionR.enc).drop (i*2)=(l.drop i).flatMap DecisionR.enc:=Zhs l i
 have hq0:(l.flatMap DecisionR.enc++A).drop (i*2)=(l.drop i).flatMap DecisionR.enc++A:=by rw[List.drop_append_of_le_length (by rw[hLl];omega),hdr]
 have hdl:((l.drop i).flatMap DecisionR.enc).length=l.length*2 -i*2:=by rw[Zfl,List.length_drop];omega
 by_cases hr:l.length+1<=cap
 ·have hm4:min (l.length+1 -i) (l.length -i)=l.length -i:=by omega
  have hm5:min ((l.length+1 -i)*2) ((l.length -i)*2+(cap*2 -l.length*2))=(l.length+1 -i)*2:=by omega
  have hm6:min ((l.length+1 -i)*2) (l.length*2+(cap*2 -l.length*2) -i*2)=(l.length+1 -i)*2:=by omega
  have hq1:List.take ((l.length -i)*2) (List.take ((l.length+1 -i)*2) ((l.drop i).flatMap DecisionR.enc++A))=(l.drop i).flatMap DecisionR.enc:=by
   rw[List.take_take,Nat.min_eq_left (by omega),List.take_left' (by rw[hdl];omega)]
  have hq2:(putAt (l.flatMap DecisionR.enc++A) ((i+1)*2) ((l.drop i).flatMap DecisionR.enc)).length=cap*2:=by
   rw[ZE (by rw[List.length_append,hLl,hAl,hdl];omega),List.length_append,hLl,hAl];omega
  have hq3:(putAt (putAt (l.flatMap DecisionR.enc++A) ((i+1)*2) ((l.drop i).flatMap DecisionR.enc)) (i*2) x.enc).take ((l.length+1)*2)=(insL l i x).flatMap DecisionR.enc:=by
   have:=ZdT (L:=l.flatMap DecisionR.enc) (A:=A) (X:=x.enc) (a:=i*2) (k:=2) hLl (by omega) rfl (by rw[hAl];omega)
   rw[Zfm,hq0,List.take_left' (by rw[hdl])] at this
   rw[show(i+1)*2=i*2+2 by omega,show(l.length+1)*2=l.length*2+2 by omega]
   exact this
  have hone:∀y∈(l.drop i).flatMap DecisionR.enc,Zy y=true:=List.all_eq_true.1 (Zfk _)
  simp[Tryz.f213,Zcl,hA]
  have s_:=An @hcp1 (An @hw1 (An @hw2 (An @hw3 (An @hw4 (An @hm1 (An @hm3 (An @hm4 (An @hq0 (An @hq1 (An @hq2 (An @hi3 (An @hi4 (An @hle (@hr))))))))))))))
  try simp[s_]
  repeat' ((first|((first|refine Tp ?_|refine Tn ?_|refine T2 ?_ ?_)<;>intro h_ e_ n_)|(refine hov _ _ _ _ rfl rfl ?_;simp)|(refine optBif ⟨rfl,by rw[List.length_append,hLl,hAl];omega,by rw[List.length_take,List.length_append,hdl,hAl];omega,by rw[hm4,hq1];exact hone⟩ ?_;simp)|refine Dg 11 9 [] [] ?_|refine Dg 15 9 [] [] ?_|rw[Ip]|rw[In]|rw[Fz]|rw[Gz]|fail)<;>first|simp[e_,n_,s_]|simp[s_]|skip)
  exact⟨_,Wk.trans (Wk.prefix 0 0 ((l.length+1)*2) rfl rfl) (Wk.bump 6 0 0 0 (l.length+1) 2 (by simp) rfl),by simp[hq3]⟩
 ·have hm5:min ((l.length -i)*2) ((l.length -i)*2+(cap*2 -l.length*2))=(l.length -i)*2:=by omega
  have hq1:List.take ((l.length -i)*2) (List.take ((l.length -i)*2) ((l.drop i).flatMap DecisionR.enc++A))=(l.drop i).flatMap DecisionR.enc:=by
   rw[List.take_take,Nat.min_self,List.take_left' (by rw[hdl];omega)]
  have hq4:List.take ((l.length -i)*2) ((l.drop i).flatMap DecisionR.enc)=(l.drop i).flatMap DecisionR.enc:=List.take_of_length_le (by rw[hdl];omega)
  have hone:∀y∈(l.drop i).flatMap DecisionR.enc,Zy y=true:=List.all_eq_true.1 (Zfk _)
  simp[Tryz.f213,Zcl,hA]
  generalize hZ:(List.replicate (l.length+1 -i) [AV.val (Value.int IntKind.i64 0),AV.val (Value.bool false)]).flatten=Z
  have hZl:Z.length=(l.length+1 -i)*2:=by rw[<-hZ];simp
  have hta':((l.flatMap DecisionR.enc).take (i*2)).length=i*2:=by rw[List.length_take,hLl];omega
  have hq2:(putAt ((l.flatMap DecisionR.enc).take (i*2)++Z) (i*2) x.enc).length=(l.length+1)*2:=by
   rw[ZE (by rw[List.length_append,hta',hZl,Zit];omega),List.length_append,hta',hZl];omega
  have hq3:putAt (putAt ((l.flatMap DecisionR.enc).take (i*2)++Z) (i*2) x.enc) ((i+1)*2) ((l.drop i).flatMap DecisionR.enc)=(insL l i x).flatMap DecisionR.enc:=by
   have:=ZdU (L:=l.flatMap DecisionR.enc) (A:=A) (X:=x.enc) (Z:=Z) (a:=i*2) (k:=2) hLl (by omega) rfl (by rw[hZl];omega)
   rw[Zfm,hta,hq0,List.take_left' (by rw[hdl])] at this
   rw[show(i+1)*2=i*2+2 by omega]
   exact this
  have s_:=An @hcp1 (An @hw1 (An @hw2 (An @hw3 (An @hw4 (An @hm1 (An @hm3 (An @hq0 (An @hq1 (An @hq4 (An @hta (An @hZ (An @hi3 (An @hi4 (An @hle (@hr)))))))))))))))
  try simp[s_]
  repeat' ((first|((first|refine Tp ?_|refine Tn ?_|refine T2 ?_ ?_)<;>intro h_ e_ n_)|(refine optBif ⟨by rw[hq2];omega,hone⟩ ?_;simp)|refine Dg 11 9 [] [] ?_|refine Dg 15 9 [] [] ?_|rw[Ip]|rw[In]|rw[Fz]|rw[Gz]|fail)<;>first|simp[e_,n_,s_]|simp[s_]|skip)
  exact⟨_,Wk.move 6 0 1 0 0 (l.length+1) 2 (by decide) (by simp;omega) rfl rfl rfl,by simp[hq3]⟩
theorem Zst (l:List DecisionR) (g:FuncId) (cap:List AV) (p:DecisionR->Bool) (hcap:cap.all neat=true) (hp:∀x∈l,Zb Tryz.prog g (.agg x.enc::cap) (B (p x))) (hl:l.length<=1000000):Zb Tryz.prog 175 [encL DecisionR.enc l,.fn g cap] (I (idxS p l)):=by
 refine Zb.mk (λ_=>false) Tryz.func175 rfl rfl rfl (Ent.mk Tryz.func175 (by kernel_rfl) rfl) (by simp[hcap]) (by simp) λhfit=> ?_
 simp at hfit
 simp[Tryz.f175]
 refine AW.loopG (lit:=λ_=>false) (λi:Nat=>⟨19,pat [(0,encL DecisionR.enc l),(1,.fn g cap),(7,I l.length),(8,I i)],[]⟩) (λi=>l.length -i) (λi=>i<=l.length/\Zan p i (l.drop i)=idxS p l) 0 ?_ ?_ ?_
 ·exact Wk.at _ rfl rfl (by simp)
 ·simp[idxS]
 rintro i ⟨h1,h2⟩ A hA
 by_cases hi:i<l.length
 case neg=>
  rw[ZaP hi] at h2
  have s_:=An @hi (Eq.symm (h2))
  exact WW
 rw[Zbi hi] at h2
 have hw:=Zg hi hfit.1.1
 have hpi:=hp l[i] (List.getElem_mem hi)
 cases hpp:p l[i] with
 |true=>
  rw[hpp] at hpi
  simp only[hpp,if_true] at h2
  have s_:=An @hi (An (Eq.symm (h2)) (@hpp))
  have p1_:=hpi
  exact WW
 |false=>
  rw[hpp] at hpi
  simp only[hpp,Bool.false_eq_true,if_false] at h2
  have s_:=An @hi (An @hw (@hpp))
  try simp[s_]
  repeat' ((first|((first|refine Tp ?_|refine Tn ?_|refine T2 ?_ ?_)<;>intro h_ e_ n_)|(exact hA (i+1) _ Wa ⟨by omega,h2⟩ (by omega))|refine Pg hpi ?_|refine Dg 11 9 [] [] ?_|refine Dg 15 9 [] [] ?_|rw[Ip]|rw[In]|rw[Fz]|rw[Gz]|fail)<;>first|simp[e_,n_,s_]|simp[s_]|skip)
theorem Zoe (l:List DecisionR) (g:FuncId) (cap cap':List AV) (hc:Za) (p:DecisionR->Bool) (hcap:cap'.all neat=true) (hcr:cap.all (refsLt (hc.length+1))=true) (hhc:hc.all (ABlk.refsLt (hc.length+1))=true) (hfr:∀(f:Nat) (b0:ABlk) (tl:Za),frzs (b0::(hc++tl)) 0 (f+3) cap=some cap')
  (hp:∀x∈l,Zb Tryz.prog g (.agg x.enc::cap') (B (p x))) (hl:l.length<=1000000):XCall Tryz.prog 145 [.own 0 0 0 l.length 2,.fn g cap] (.cells 0 (l.flatMap DecisionR.enc)::hc) (.own 0 0 0 (l.filter λx=> !p x).length 2) (.cells 0 ((l.filter λx=> !p x).flatMap DecisionR.enc)::hc):=by
 refine XCall.mkG (λs (_:Unit)=>s) (λ_=>false) Tryz.func145 rfl rfl rfl (Ent.mk Tryz.func145 (by kernel_rfl) rfl) (by simp;simpa using hcr) (by simp;simpa using hhc) (by simp) (by simp) (by simp;simpa using hhc) λhfit=> ?_
 refine⟨WkE.one _ _,λ_=> ?_⟩
 have hix:=Zst l g cap' p hcap hp hl
 have hfz:∀(v:AV) (b0:ABlk) (tl:Za),neat v=true->(([v]++cap).mapM (frz (b0::(hc++tl)) 0 12))=some (v::cap'):=λv b0 tl hv=>by
  have h2:cap.mapM (frz (b0::(hc++tl)) 0 12)=some cap':=hfr 9 b0 tl
  rw[List.singleton_append,List.mapM_cons,Zcp _ _ _ hv,h2];rfl
 have hlend:∀{Q:AV->Za->Prop},Q (I (idxS p l)) (.cells 0 (l.flatMap DecisionR.enc)::hc)->AInv Tryz.prog (.fn 175 []) [.own 0 0 0 l.length 2,.fn g cap] (.cells 0 (l.flatMap DecisionR.enc)::hc) Q:=λhq=>
  AInv.lend hix rfl (by
   have:=hfr 8 (.cells 0 (l.flatMap DecisionR.enc)) []
   rw[List.append_nil] at this
   rw[List.append_nil,List.mapM_cons,List.mapM_cons,List.mapM_nil,ZmP,List.getElem?_cons_zero,Zav (by simp) (by simp),Zto,this]
   rfl) hq
 have hzs:∀x:DecisionR,setMany [AV.val (Value.int IntKind.i64 0),AV.val (Value.bool false)] 0 x.enc=x.enc:=λ_=>rfl
 by_cases h0:idxS p l= -1
 ·obtain⟨e1,_⟩:=ZcK h0
  simp[Tryz.f145]
  have s_:=h0
  try simp[s_]
  repeat' ((first|((first|refine Tp ?_|refine Tn ?_|refine T2 ?_ ?_)<;>intro h_ e_ n_)|(refine hlend ?_;simp[h0])|refine Dg 11 9 [] [] ?_|refine Dg 15 9 [] [] ?_|rw[Ip]|rw[In]|rw[Fz]|rw[Gz]|fail)<;>first|simp[e_,n_,s_]|simp[s_]|skip)
  exact⟨_,Wk.refl _ _,by simp[e1]⟩
 obtain⟨j0,hj0,e1,e2,e3⟩:=ZcL h0
 have hw0:IntKind.i64.wrap ((j0:Int)+1)=(j0:Int)+1:=Zh (by omega) (by omega)
 have hn0:¬((j0:Int)= -1):=by omega
 simp[Tryz.f145]
 have s_:=An @e1 (An @hw0 (@hn0))
 try simp[s_]
 repeat' ((first|((first|refine Tp ?_|refine Tn ?_|refine T2 ?_ ?_)<;>intro h_ e_ n_)|(refine hlend ?_;simp[e1,hw0,hn0])|refine Dg 11 9 [] [] ?_|refine Dg 15 9 [] [] ?_|rw[Ip]|rw[In]|rw[Fz]|rw[Gz]|fail)<;>first|simp[e_,n_,s_]|simp[s_]|skip)
 refine AW.loopG (lit:=λ_=>false) (λx:Nat×Nat×List DecisionR=>⟨42,pat [(0,.own 0 0 0 l.length 2),(1,.fn g cap),(5,I x.1),(6,I x.2.1)],.cells 0 (x.2.2.flatMap DecisionR.enc)::hc⟩) (λx=>l.length -x.2.1) (λx=>Zer p l x.2.2 x.1 x.2.1) (j0,j0+1,l) ?_ ?_ ?_
 ·exact Wk.at _ rfl rfl (by simp)
 ·exact .start hj0 e2 e3
 rintro⟨i,j,m⟩ hd A hA
 simp only at hd hA
 have hml:=hd.len
 by_cases hj:j<l.length
 case neg=>
  obtain⟨d1,d2,d3⟩:=hd.done hj
  have s_:=An @hj (@hml)
  try simp[s_]
  repeat' ((first|((first|refine Tp ?_|refine Tn ?_|refine T2 ?_ ?_)<;>intro h_ e_ n_)|refine Dg 11 9 [] [] ?_|refine Dg 15 9 [] [] ?_|rw[Ip]|rw[In]|rw[Fz]|rw[Gz]|fail)<;>first|simp[e_,n_,s_]|simp[s_]|skip)
  exact⟨_,Wk.prefix 0 0 (i*2) rfl rfl,by simp[d2],by
   have:(putAt (m.flatMap DecisionR.enc) (i*2) (zeros [AV.val (Value.int IntKind.i64 0),AV.val (Value.bool false)] (l.length -i))).take (i*2)=(m.take i).flatMap DecisionR.enc:=by
    rw[<-Zhr]
    unfold putAt
    rw[List.append_assoc,List.take_left' (by simp;omega)]
   simp only[zeros] at this
   simp[this,d1]⟩
 have hmj:=hd.get hj
 have hx:=hp l[j] (List.getElem_mem hj)
 have hw:IntKind.i64.wrap ((j:Int)+1)=((j+1:Nat):Int):=by rw[Zh (by omega) (by omega)];omega
 have hi:=hd.lt
 have hwi:IntKind.i64.wrap ((i:Int)+1)=((i+1:Nat):Int):=by rw[Zh (by omega) (by omega)];omega
 cases hpp:p l[j] with
 |true=>
  rw[hpp] at hx
  have hlx:∀(b0:ABlk) (tl:Za) {Q:AV->Za->Prop},Q (B true) (b0::(hc++tl))->AInv Tryz.prog (.fn g cap) [.agg l[j].enc] (b0::(hc++tl)) Q:=λb0 tl Q hq=>AInv.lend hx rfl (hfz _ b0 tl (by simp)) hq
  have s_:=An @hj (An @hml (An @hzs (An @hw (@hmj))))
  try simp[s_]
  repeat' ((first|((first|refine Tp ?_|refine Tn ?_|refine T2 ?_ ?_)<;>intro h_ e_ n_)|(refine hlx _ _ ?_;simp[hw])|(exact hA (i,j+1,m) _ (Wk.cutAt _ rfl (by simp) (by simp) (by simp;simpa using hhc) (by simp;simpa using hcr)) (hd.skip hj hpp) (by simp only;omega))|refine Dg 11 9 [] [] ?_|refine Dg 15 9 [] [] ?_|rw[Ip]|rw[In]|rw[Fz]|rw[Gz]|fail)<;>first|simp[e_,n_,s_]|simp[s_]|skip)
 |false=>
  rw[hpp] at hx
  have hlx:∀(b0:ABlk) (tl:Za) {Q:AV->Za->Prop},Q (B false) (b0::(hc++tl))->AInv Tryz.prog (.fn g cap) [.agg l[j].enc] (b0::(hc++tl)) Q:=λb0 tl Q hq=>AInv.lend hx rfl (hfz _ b0 tl (by simp)) hq
  have him:i<m.length:=by omega
  have hil:i<l.length:=by omega
  have s_:=An @hj (An @hml (An @hzs (An @hw (An @hwi (An @hmj (An @him (@hil)))))))
  try simp[s_]
  repeat' ((first|((first|refine Tp ?_|refine Tn ?_|refine T2 ?_ ?_)<;>intro h_ e_ n_)|(refine hlx _ _ ?_;simp[hw,hwi,hmj,him,hil])|(exact hA (i+1,j+1,m.set i l[j]) _ (Wk.cutAt _ rfl (by simp) (by simp) (by simp;simpa using hhc) (by simp;simpa using hcr)) (hd.keep hj hpp) (by simp only;omega))|refine Dg 11 9 [] [] ?_|refine Dg 15 9 [] [] ?_|rw[Ip]|rw[In]|rw[Fz]|rw[Gz]|fail)<;>first|simp[e_,n_,s_]|simp[s_]|skip)
theorem ZvA (l:List RowR) (c e n:Int) (h:badS c e n=true):Zb Tryz.prog 73 [encL RowR.enc l,I c,I e,I n] (.tup [.agg RowR.zero.enc,I 0,I 1]):=by
 simp only[badS,Bool.or_eq_true,decide_eq_true_eq] at h
 refine Pm Tryz.func73 λhfit=> ?_
 simp[Tryz.f73]
 by_cases h1:c<0
 ·have s_:=An @h1 (An @RowR.enc.eq_1 (@RowR.zero.eq_1))
  exact WW
 by_cases h2:e<1
 ·have s_:=An @h1 (An @h2 (An @RowR.enc.eq_1 (@RowR.zero.eq_1)))
  exact WW
 have h3:n<1:=by omega
 have s_:=An @h1 (An @h2 (An @h3 (An @RowR.enc.eq_1 (@RowR.zero.eq_1))))
 exact WW
theorem ZvB (l:List RowR) (c e n:Int) (h:badS c e n=false) (hr:Zo RowR.client l=true) (hl:l.length<=1000000):Zb Tryz.prog 73 [encL RowR.enc l,I c,I e,I n] (.tup [.agg (rowS l c e n).enc,I (placeS RowR.client l c),I (whyS l c e n)]):=by
 obtain⟨h1,h2,h3⟩:=ZdY h
 have hf:=Zyp l c hr hl
 simp only[rowS,whyS,h]
 cases hx:Zak RowR.client l c with
 |none=>
  rw[hx] at hf
  simp only[Option.isSome_none] at hf
  refine Pm Tryz.func73 λhfit=> ?_
  simp[Tryz.f73]
  have s_:=An @h1 (An @h2 (An @h3 (@RowR.enc.eq_1)))
  have p1_:=hf
  exact WW
 |some r=>
  rw[hx] at hf
  simp only[Option.isSome_some] at hf
  obtain⟨hp,hpx⟩:=Zao RowR.client hr hx
  generalize placeS RowR.client l c=q at*
  subst hpx
  refine Pm Tryz.func73 λhfit=> ?_
  simp[Tryz.f73]
  by_cases h4:l[q].epoch<e
  ·have h5:¬l[q].epoch=e:=by omega
   have s_:=An @h1 (An @h2 (An @h3 (An @h4 (An @h5 (An @hp (@RowR.enc.eq_1))))))
   have p1_:=hf
   exact WW
  by_cases h5:e<l[q].epoch
  ·have h6:¬l[q].epoch=e:=by omega
   have s_:=An @h1 (An @h2 (An @h3 (An @h4 (An @h5 (An @h6 (An @hp (@RowR.enc.eq_1)))))))
   have p1_:=hf
   exact WW
  have h6:l[q].epoch=e:=by omega
  have h7:¬e<e:=by omega
  have s_:=An @h1 (An @h2 (An @h3 (An @h6 (An @h7 (An @hp (@RowR.enc.eq_1))))))
  have p1_:=hf
  exact WW
theorem Zin {l:List RowR} (R:Zas l) (c e n:Int):Zo DecisionR.seq (rowS l c e n).l=true/\(rowS l c e n).l.length<=256:=by
 unfold rowS
 split
 ·exact⟨rfl,by simp[RowR.zero]⟩
 ·split
  ·exact⟨rfl,by simp⟩
  ·rename_i r hr
   split
   ·have:=R.ok r (ZC _ hr).1
    exact⟨this.rise,this.len⟩
   ·exact⟨rfl,by simp⟩
theorem ZvC (l:List RowR) (c e n:Int) (R:Zas l):Zb Tryz.prog 36 [encL RowR.enc l,I c,I e,I n] (.tup [B (askS l c e n).1,I (askS l c e n).2]):=by
 have hl:=R.len
 cases hb:badS c e n with
 |true=>
  have h1:=ZvA l c e n hb
  have hw:whyS l c e n=1:=by simp[whyS,hb]
  have hs:askS l c e n=(false,1):=by simp[askS,hw]
  refine Pm Tryz.func36 λhfit=> ?_
  simp[Tryz.f36,hs]
  have s_:=An @RowR.zero.eq_1 (@RowR.enc.eq_1)
  exact WW
 |false=>
  have h1:=ZvB l c e n hb R.rise (by omega)
  obtain⟨r1,r2⟩:=Zin R c e n
  generalize hrw:rowS l c e n=r at*
  generalize hwy:whyS l c e n=y at*
  generalize placeS RowR.client l c=q at*
  by_cases h2:y=0
  case neg=>
   have hs:askS l c e n=(false,y):=by simp[askS,hwy,h2]
   refine Pm Tryz.func36 λhfit=> ?_
   simp[Tryz.f36,hs]
   have s_:=An @h2 (@RowR.enc.eq_1)
   exact WW
  by_cases h3:n<=r.done
  ·have hs:askS l c e n=(false,18):=by simp[askS,hwy,h2,hrw,h3]
   refine Pm Tryz.func36 λhfit=> ?_
   simp[Tryz.f36,hs]
   have s_:=An @h2 (An @h3 (@RowR.enc.eq_1))
   exact WW
  have hf:=ZpU r.l n r1 (by omega)
  cases hx:Zak DecisionR.seq r.l n with
  |none=>
   have hs:askS l c e n=(false,6):=by simp[askS,hwy,h2,hrw,h3,hx]
   rw[hx] at hf
   simp only[Option.isSome_none] at hf
   refine Pm Tryz.func36 λhfit=> ?_
   simp[Tryz.f36,hs]
   have s_:=An @h2 (An @h3 (@RowR.enc.eq_1))
   have p1_:=hf
   exact WW
  |some d=>
   have hs:askS l c e n=(d.yes,0):=by simp[askS,hwy,h2,hrw,h3,hx]
   rw[hx] at hf
   simp only[Option.isSome_some] at hf
   obtain⟨hp,hpx⟩:=Zao DecisionR.seq r1 hx
   generalize placeS DecisionR.seq r.l n=k at*
   refine Pm Tryz.func36 λhfit=> ?_
   simp[Tryz.f36,hs]
   have s_:=An @h2 (An @h3 (An @hp (An @hpx (An @RowR.enc.eq_1 (@DecisionR.enc.eq_1)))))
   have p1_:=hf
   exact WW
theorem cli_at {l:List RowR} {i:Nat} (hi:i<l.length) (h:i*4<(l.flatMap RowR.enc).length):(l.flatMap RowR.enc)[i*4]=I l[i].client:=by
 have h1:=congrArg (λx=>x[0]?) (Znd hi)
 simp only[List.getElem?_take,List.getElem?_drop] at h1
 rw[List.getElem_eq_iff]
 simpa[RowR.enc] using h1
theorem ZpV (l:List RowR) (i:Nat) (r r':RowR) (g:FuncId) (cap:List AV) (hcap:cap.all neat=true) (hp:Zb Tryz.prog g (.agg r.enc::cap) (.agg r'.enc)) (hi:i<l.length) (hk:l[i].client=r.client) (hl:l.length<=100000):Zb Tryz.prog 143 [encL RowR.enc l,I i,.agg r.enc,.fn g cap] (encL RowR.enc (l.set i r')):=by
 refine Zb.mk (λ_=>false) Tryz.func143 rfl rfl rfl (Ent.mk Tryz.func143 (by kernel_rfl) rfl) (by simp[hcap]) (by simp) λhfit=> ?_
 have hc:=cli_at hi
 simp[Tryz.f143]
 have s_:=An @hi (An @hk (@hc))
 try simp[s_]
 repeat' ((first|((first|refine Tp ?_|refine Tn ?_|refine T2 ?_ ?_)<;>intro h_ e_ n_)|(refine AInv.fresh [] (cloneR_ok l (by omega)) (by simp) (by simp) ?_;simp[hi,hk])|refine Pg hp ?_|refine Dg 2 14 [] [] ?_|rw[Ip]|rw[In]|rw[Fz]|rw[Gz]|fail)<;>first|simp[e_,n_,s_]|simp[s_]|skip)
theorem Zyq (l:List RowR) (i:Nat) (r r':RowR) (g:FuncId) (cap:List AV) (hcap:cap.all neat=true) (hp:Zb Tryz.prog g (.agg r.enc::cap) (.agg r'.enc)) (hi:i<=l.length) (hk:∀h:i<l.length,l[i].client≠r.client) (hl:l.length<=100000):Zb Tryz.prog 143 [encL RowR.enc l,I i,.agg r.enc,.fn g cap] (encL RowR.enc (insL l i r')):=by
 refine Zb.mk (λ_=>false) Tryz.func143 rfl rfl rfl (Ent.mk Tryz.func143 (by kernel_rfl) rfl) (by simp[hcap]) (by simp) λhfit=> ?_
 have hins:=Zsr l i r' hi (by omega)
 simp[Tryz.f143]
 by_cases h:i<l.length
 ·have hc:=cli_at h
  have hk:=hk h
  have s_:=An @h (An @hk (@hc))
  try simp[s_]
  repeat' ((first|((first|refine Tp ?_|refine Tn ?_|refine T2 ?_ ?_)<;>intro h_ e_ n_)|(refine AInv.fresh [] (cloneR_ok l (by omega)) (by simp) (by simp) ?_;simp[h,hk])|(refine AInv.fresh [1] hins (by simp) (by simp) ?_;simp[h,hk])|refine Pg hp ?_|refine Dg 2 14 [] [] ?_|rw[Ip]|rw[In]|rw[Fz]|rw[Gz]|fail)<;>first|simp[e_,n_,s_]|simp[s_]|skip)
 ·have s_:=h
  try simp[s_]
  repeat' ((first|((first|refine Tp ?_|refine Tn ?_|refine T2 ?_ ?_)<;>intro h_ e_ n_)|(refine AInv.fresh [] (cloneR_ok l (by omega)) (by simp) (by simp) ?_;simp[h])|(refine AInv.fresh [1] hins (by simp) (by simp) ?_;simp[h])|refine Pg hp ?_|refine Dg 2 14 [] [] ?_|rw[Ip]|rw[In]|rw[Fz]|rw[Gz]|fail)<;>first|simp[e_,n_,s_]|simp[s_]|skip)
theorem Zsu (r:RowR) (n:Int) (yes:Bool) (hr:Zo DecisionR.seq r.l=true) (hx:Zak DecisionR.seq r.l n=none) (hl:r.l.length<=100000):Zb Tryz.prog 212 [.agg r.enc,.fp [I n],.fp [B yes]] (.agg (decR r n yes).enc):=by
 have hf:=ZpU r.l n hr (by omega)
 have hpl:=ZcI DecisionR.seq r.l n
 have hpi:=Zkm DecisionR.seq hr (x:=⟨n,yes⟩) ((ZbX _).1 hx)
 have hins:=Zss r.l (placeS DecisionR.seq r.l n) ⟨n,yes⟩ hpl (by omega)
 rw[show DecisionR.enc ⟨n,yes⟩=[I n,B yes] from rfl] at hins
 simp only at hpi
 unfold decR
 rw[<-hpi]
 generalize placeS DecisionR.seq r.l n=q at*
 refine Pm Tryz.func212 λhfit=> ?_
 simp[Tryz.f212]
 have s_:=An @RowR.enc.eq_1 (@DecisionR.enc.eq_1)
 try simp[s_]
 repeat' ((first|((first|refine Tp ?_|refine Tn ?_|refine T2 ?_ ?_)<;>intro h_ e_ n_)|(refine ADcall.fresh [] (cloneD_ok r.l (by omega)) (by simp) (by simp) ?_;simp)|(refine ADcall.fresh [2] hins (by simp) (by simp) ?_;simp)|refine Pg hf ?_|refine Dg 2 10 [] [(1,.e),(2,.e),(4,.t),(5,.t),(8,.e)] ?_|rw[Ip]|rw[In]|rw[Fz]|rw[Gz]|fail)<;>first|simp[e_,n_,s_]|simp[s_]|skip)
theorem Zio (l:List RowR) (c e n:Int) (yes:Bool) (R:Zas l):Zb Tryz.prog 180 [encL RowR.enc l,I c,I e,I n,B yes] (.tup [encL RowR.enc (decideS l c e n yes).1,B (decideS l c e n yes).2.1,I (decideS l c e n yes).2.2]):=by
 have hl:=R.len
 have h1:=ZvC l c e n R
 by_cases h6:(askS l c e n).2=6
 case neg=>
  have hs:decideS l c e n yes=(l,(askS l c e n).1,(askS l c e n).2):=by simp[decideS,h6]
  refine Pm Tryz.func180 λhfit=> ?_
  have d1_:=D0 8 9 [] []
  simp[Tryz.f180,hs]
  have s_:=h6
  exact WW
 rw[h6] at h1
 obtain⟨hb,hn⟩:=Zkn h6
 have h2:=ZvB l c e n hb R.rise (by omega)
 obtain⟨r1,r2⟩:=Zin R c e n
 obtain⟨k1,k2⟩:=ZgH l hb
 have h3:=Zsu (rowS l c e n) n yes r1 hn (by omega)
 have hkey:RowR.client (decR (rowS l c e n) n yes)=c:=k1
 have hgive:∀v:AV,neat v=true->True:=λ_ _=>trivial
 cases hx:Zak RowR.client l c with
 |none=>
  have hpl:=ZcI RowR.client l c
  have hpn:∀h:placeS RowR.client l c<l.length,l[placeS RowR.client l c].client≠c:=λh=>ZcN RowR.client R.rise hx h
  have hpi:=Zkm RowR.client R.rise (x:=decR (rowS l c e n) n yes) (by rw[hkey];exact(ZbX _).1 hx)
  rw[hkey] at hpi
  by_cases hrm:ZaW l c e n=true
  ·have hs:decideS l c e n yes=(l,false,12):=by simp[decideS,h6,hrm]
   simp only[ZaW,hx,Bool.or_eq_true,Bool.and_eq_true,decide_eq_true_eq,true_and] at hrm
   generalize rowS l c e n=r at*
   generalize placeS RowR.client l c=q at*
   by_cases hq:q<l.length
   ·have hq2:=hpn hq
    by_cases hr1:64<=l.length
    ·refine Pm Tryz.func180 λhfit=> ?_
     have d1_:=D0 8 9 [] []
     simp[Tryz.f180,hs]
     have s_:=An @hq (An @hq2 (@hr1))
     exact WW
    ·have hr2:256<=r.l.length:=by omega
     refine Pm Tryz.func180 λhfit=> ?_
     have d1_:=D0 8 9 [] []
     simp[Tryz.f180,hs]
     have s_:=An @hq (An @hq2 (An @hr1 (@hr2)))
     exact WW
   ·by_cases hr1:64<=l.length
    ·refine Pm Tryz.func180 λhfit=> ?_
     have d1_:=D0 8 9 [] []
     simp[Tryz.f180,hs]
     have s_:=An @hq (@hr1)
     exact WW
    ·have hr2:256<=r.l.length:=by omega
     refine Pm Tryz.func180 λhfit=> ?_
     have d1_:=D0 8 9 [] []
     simp[Tryz.f180,hs]
     have s_:=An @hq (An @hr1 (@hr2))
     exact WW
  ·have hs:decideS l c e n yes=(insL l (placeS RowR.client l c) (decR (rowS l c e n) n yes),yes,0):=by rw[hpi];simp[decideS,h6,hrm]
   simp only[ZaW,hx,Bool.or_eq_true,Bool.and_eq_true,decide_eq_true_eq,true_and,not_or] at hrm
   obtain⟨hr1,hr2⟩:=hrm
   have h4:=Zyq l (placeS RowR.client l c) (rowS l c e n) (decR (rowS l c e n) n yes) 212 [.fp [I n],.fp [B yes]] (by simp) h3 hpl (by rw[k1];exact hpn) (by omega)
   generalize decR (rowS l c e n) n yes=r' at*
   generalize rowS l c e n=r at*
   generalize placeS RowR.client l c=q at*
   by_cases hq:q<l.length
   ·have hq2:=hpn hq
    refine Pm Tryz.func180 λhfit=> ?_
    simp[Tryz.f180,hs]
    have s_:=An @hq (An @hq2 (An @hr1 (@hr2)))
    try simp[s_]
    repeat' ((first|((first|refine Tp ?_|refine Tn ?_|refine T2 ?_ ?_)<;>intro h_ e_ n_)|(refine AW.wkZ (WkZ.freeze [0] 8 (.fp [I n]) (by simp)) ?_;refine AW.wkZ (WkZ.freeze [1] 9 (.fp [B yes]) (by simp)) ?_;simp;refine Dg 8 9 [] [(5,.t)] ?_;simp)|refine Pg h1 ?_|refine Pg h2 ?_|refine Pg h4 ?_|refine Dg 8 9 [] [] ?_|rw[Ip]|rw[In]|rw[Fz]|rw[Gz]|fail)<;>first|simp[e_,n_,s_]|simp[s_]|skip)
   ·refine Pm Tryz.func180 λhfit=> ?_
    simp[Tryz.f180,hs]
    have s_:=An @hq (An @hr1 (@hr2))
    try simp[s_]
    repeat' ((first|((first|refine Tp ?_|refine Tn ?_|refine T2 ?_ ?_)<;>intro h_ e_ n_)|(refine AW.wkZ (WkZ.freeze [0] 8 (.fp [I n]) (by simp)) ?_;refine AW.wkZ (WkZ.freeze [1] 9 (.fp [B yes]) (by simp)) ?_;simp;refine Dg 8 9 [] [(5,.t)] ?_;simp)|refine Pg h1 ?_|refine Pg h2 ?_|refine Pg h4 ?_|refine Dg 8 9 [] [] ?_|rw[Ip]|rw[In]|rw[Fz]|rw[Gz]|fail)<;>first|simp[e_,n_,s_]|simp[s_]|skip)
 |some r0=>
  obtain⟨hq,hqx⟩:=Zao RowR.client R.rise hx
  have hq2:l[placeS RowR.client l c].client=c:=by rw[hqx];exact(ZC _ hx).2
  have hpi:=Zkl RowR.client R.rise (x:=decR (rowS l c e n) n yes) hq (by rw[hkey];exact hq2)
  by_cases hrm:ZaW l c e n=true
  ·have hs:decideS l c e n yes=(l,false,12):=by simp[decideS,h6,hrm]
   simp only[ZaW,hx,Bool.or_eq_true,Bool.and_eq_true,decide_eq_true_eq,reduceCtorEq,false_and,false_or] at hrm
   generalize rowS l c e n=r at*
   generalize placeS RowR.client l c=q at*
   refine Pm Tryz.func180 λhfit=> ?_
   have d1_:=D0 8 9 [] []
   simp[Tryz.f180,hs]
   have s_:=An @hq (An @hq2 (@hrm))
   exact WW
  ·have hs:decideS l c e n yes=(l.set (placeS RowR.client l c) (decR (rowS l c e n) n yes),yes,0):=by rw[hpi];simp[decideS,h6,hrm]
   simp only[ZaW,hx,Bool.or_eq_true,Bool.and_eq_true,decide_eq_true_eq,reduceCtorEq,false_and,false_or] at hrm
   have h4:=ZpV l (placeS RowR.client l c) (rowS l c e n) (decR (rowS l c e n) n yes) 212 [.fp [I n],.fp [B yes]] (by simp) h3 hq (by rw[k1];exact hq2) (by omega)
   generalize decR (rowS l c e n) n yes=r' at*
   generalize rowS l c e n=r at*
   generalize placeS RowR.client l c=q at*
   refine Pm Tryz.func180 λhfit=> ?_
   simp[Tryz.f180,hs]
   have s_:=An @hq (An @hq2 (@hrm))
   try simp[s_]
   repeat' ((first|((first|refine Tp ?_|refine Tn ?_|refine T2 ?_ ?_)<;>intro h_ e_ n_)|(refine AW.wkZ (WkZ.freeze [0] 8 (.fp [I n]) (by simp)) ?_;refine AW.wkZ (WkZ.freeze [1] 9 (.fp [B yes]) (by simp)) ?_;simp;refine Dg 8 9 [] [(5,.t)] ?_;simp)|refine Pg h1 ?_|refine Pg h2 ?_|refine Pg h4 ?_|refine Dg 8 9 [] [] ?_|rw[Ip]|rw[In]|rw[Fz]|rw[Gz]|fail)<;>first|simp[e_,n_,s_]|simp[s_]|skip)
theorem Zof (d:DecisionR) (c e m:Int) (l:List DecisionR):Zb Tryz.prog 147 [.agg d.enc,.fp [I c,I e,I m,encL DecisionR.enc l]] (B (decide (d.seq<=m))):=by
 refine Pm Tryz.func147 λhfit=> ?_
 simp[Tryz.f147,DecisionR.enc]
theorem Zsv (r:RowR) (d:Int) (hl:r.l.length<=100000):Zb Tryz.prog 144 [.agg r.enc,.fp [I d]] (.agg (forR r d).enc):=by
 obtain⟨c,e,dn,l⟩:=r
 simp only at hl
 have hdel:=Zoe l 147 [.ptr 1 0 0] [.fp [I c,I e,I (max dn d),encL DecisionR.enc l]] [.cells 0 [I c,I e,I (max dn d),encL DecisionR.enc l]] (λx=>decide (x.seq<=max dn d)) (by simp) (by simp) (by simp) (λfu b0 tl=>by simp) (λx _=>Zof x c e (max dn d) l) (by omega)
 unfold forR
 refine Pm Tryz.func144 λhfit=> ?_
 simp[Tryz.f144,RowR.enc]
 refine AInv.fresh [] (cloneD_ok l (by omega)) (by simp) (by simp) ?_
 simp
 refine AInv.fresh [2,0] hdel (by simp) (by simp) ?_
 simp
 rw[Zav (by simp) (by simp)]
 simp
theorem ZvD (l:List RowR) (c e n:Int) (R:Zas l):Zb Tryz.prog 77 [encL RowR.enc l,I c,I e,I n] (.tup [encL RowR.enc (forgetS l c e n).1,I (forgetS l c e n).2]):=by
 have hl:=R.len
 cases hb:badS c e n with
 |true=>
  have h1:=ZvA l c e n hb
  have hw:whyS l c e n=1:=by simp[whyS,hb]
  have hs:forgetS l c e n=(l,1):=by simp[forgetS,hw]
  refine Pm Tryz.func77 λhfit=> ?_
  simp[Tryz.f77,hs]
  exact WW
 |false=>
  have h1:=ZvB l c e n hb R.rise (by omega)
  by_cases hw:whyS l c e n=0
  case neg=>
   have hs:forgetS l c e n=(l,whyS l c e n):=by simp[forgetS,hw]
   generalize whyS l c e n=y at*
   refine Pm Tryz.func77 λhfit=> ?_
   simp[Tryz.f77,hs]
   have s_:=hw
   exact WW
  obtain⟨r1,r2⟩:=Zin R c e n
  obtain⟨k1,k2⟩:=ZgH l hb
  have h3:=Zsv (rowS l c e n) n (by omega)
  have hkey:RowR.client (forR (rowS l c e n) n)=c:=k1
  cases hx:Zak RowR.client l c with
  |none=>simp[whyS,hb,hx] at hw
  |some r0=>
   obtain⟨hq,hqx⟩:=Zao RowR.client R.rise hx
   have hq2:l[placeS RowR.client l c].client=c:=by rw[hqx];exact(ZC _ hx).2
   have hpi:=Zkl RowR.client R.rise (x:=forR (rowS l c e n) n) hq (by rw[hkey];exact hq2)
   have hs:forgetS l c e n=(l.set (placeS RowR.client l c) (forR (rowS l c e n) n),0):=by rw[hpi];simp[forgetS,hw]
   have h4:=ZpV l (placeS RowR.client l c) (rowS l c e n) (forR (rowS l c e n) n) 144 [.fp [I n]] (by simp) h3 hq (by rw[k1];exact hq2) (by omega)
   rw[hw] at h1
   generalize forR (rowS l c e n) n=r' at*
   generalize rowS l c e n=r at*
   generalize placeS RowR.client l c=q at*
   refine Zb.mkW Tryz.func77 rfl rfl rfl (Ent.mk Tryz.func77 (by kernel_rfl) rfl) (by simp) (by simp) λhfit=> ?_
   refine AW.seqA (lit:=λ_=>false) ?_
   simp
   refine AW.wkZ (WkZ.freeze [0] 7 (.fp [I n]) (by simp)) ?_
   refine Zck (lit:=λ_=>false) _ _ _ ?_
   simp[hs]
   exact WW
def fewT:Int->List RowR->Bool
 |n,[]=>decide (n<=400)
 |n,x::l=>if n<=400 then fewT (IntKind.i64.wrap (n+x.l.length)) l else false
theorem Zyr {l:List RowR} {n:Int} {i:Nat} (h:¬i<l.length):fewT n (l.drop i)=decide (n<=400):=by
 rw[List.drop_eq_nil_of_le (by omega),fewT]
theorem fewT_at {l:List RowR} {n:Int} {i:Nat} (h:i<l.length):fewT n (l.drop i)=if n<=400 then fewT (IntKind.i64.wrap (n+l[i].l.length)) (l.drop (i+1)) else false:=by
 rw[List.drop_eq_getElem_cons h,fewT]
theorem ZpW (l:List RowR):Zb Tryz.prog 26 [encL RowR.enc l] (B (fewT l.length l)):=by
 refine Pm Tryz.func26 λhfit=> ?_
 simp at hfit
 have hll:=hfit.1
 simp only[maxLen] at hll
 simp[Tryz.f26]
 refine AW.loopG (lit:=λ_=>false) (λx:Nat×Int=>⟨27,pat [(0,encL RowR.enc l),(3,I x.2),(4,I x.1)],[]⟩) (λx=>l.length -x.1) (λx=>x.1<=l.length/\fewT x.2 (l.drop x.1)=fewT l.length l) (0,(l.length:Int)) ?_ ?_ ?_
 ·exact Wa
 ·simp
 rintro⟨i,n⟩ ⟨h1,h2⟩ A hA
 simp only at h1 h2
 by_cases hi:i<l.length
 case neg=>
  rw[Zyr hi] at h2
  have s_:=An @hi (Eq.symm (h2))
  exact WW
 rw[fewT_at hi] at h2
 by_cases hn:n<=400
 case neg=>
  rw[if_neg hn] at h2
  have s_:=An @hi (An @hn (Eq.symm (h2)))
  exact WW
 rw[if_pos hn] at h2
 have hw2:=Zg hi hfit.1
 have s_:=An @hi (An @hn (An @RowR.enc.eq_1 (@hw2)))
 try simp[s_]
 repeat' ((first|((first|refine Tp ?_|refine Tn ?_|refine T2 ?_ ?_)<;>intro h_ e_ n_)|(exact hA (i+1,IntKind.i64.wrap (n+l[i].l.length)) _ Wa ⟨by simp only;omega,h2⟩ (by simp only;omega))|rw[Ip]|rw[In]|rw[Fz]|rw[Gz]|fail)<;>first|simp[e_,n_,s_]|simp[s_]|skip)
noncomputable def rightT (l:List RowR):Bool:= @decide (Zas l) (Classical.propDecidable _)
theorem Zem (l:List RowR):rightT l=true↔Zas l:=by simp[rightT]
theorem Zbm {l:List RowR} (h:¬Zas l):rightT l=false:=by simp[rightT,h]
theorem ZaS {α:Type} (key:α->Int):∀{l:List α},(∀i (h:i+1<l.length),key l[i]<key l[i+1])->Zo key l=true
 |[],_=>rfl
 |[_],_=>rfl
 |a::b::l,h=>by
  simp only[Zo,Bool.and_eq_true,decide_eq_true_eq]
  refine⟨by have:=h 0 (by simp);simpa using this,ZaS key λi hi=> ?_⟩
  have:=h (i+1) (by simpa using hi)
  simpa using this
def _root_.Go.Cx.DecisionR.vals (c:DecisionR):List Value:=[.int .i64 c.seq,.bool c.yes]
abbrev decK:List TypeDesc:=[.int .i64,.bool]
theorem _root_.Go.Cx.DecisionR.kinds (c:DecisionR):Zcc decK c.vals:= .cons rfl (.cons rfl .nil)
theorem _root_.Go.Cx.DecisionR.vals_eq (a b:DecisionR):a.vals=b.vals↔a=b:=by
 cases a;cases b;simp[DecisionR.vals]
@[simp] theorem dec_neq {P:Program} {t:TypeId} (ox oy:Operand) (ht:Zir P t=some decK) (hg:tagg P t=some true) (a b:DecisionR):abin P .neq t ox oy (.agg a.enc) (.agg b.enc)=some (.val (.bool (!decide (a=b)))):=by
 have:=(ZmQ ht hg a.kinds b.kinds ox oy).2
 have e:decide (a.vals=b.vals)=decide (a=b):=by rw[decide_eq_decide];exact DecisionR.vals_eq a b
 rw[e] at this;exact this
theorem Zsw (l:List RowR) (R:Zas l):Zb Tryz.prog 43 [encL RowR.enc l,encL RowR.enc l] (B true):=by
 refine Pm Tryz.func43 λhfit=> ?_
 have d1_:=D0 6 52 [] []
 have d2_:=D0 11 17 [] []
 simp at hfit
 simp[Tryz.f43]
 refine AW.loopG (lit:=λ_=>false) (λi:Nat=>⟨97,pat [(0,encL RowR.enc l),(1,encL RowR.enc l),(5,I i)],[]⟩) (λi=>l.length -i) (λi=>i<=l.length) 0 ?_ ?_ ?_
 ·exact Wa
 ·simp
 rintro i h1 A hA
 by_cases hi:i<l.length
 case neg=>
  have s_:=hi
  exact WW
 have hw2:=Zg hi hfit.1
 have hlen:=(R.ok _ (List.getElem_mem hi)).len
 have s_:=An @hi (@RowR.enc.eq_1)
 try simp[s_]
 repeat' ((first|((first|refine Tp ?_|refine Tn ?_|refine T2 ?_ ?_)<;>intro h_ e_ n_)|refine Dg 6 52 [] [] ?_|refine Dg 11 17 [] [] ?_|rw[Ip]|rw[In]|rw[Fz]|rw[Gz]|fail)<;>first|simp[e_,n_,s_]|simp[s_]|skip)
 refine AW.loopG (lit:=λ_=>false) (λj:Nat=>⟨97,pat [(0,encL RowR.enc l),(1,encL RowR.enc l),(5,I i),(6,I j)],[]⟩) (λj=>l[i].l.length -j) (λj=>j<=l[i].l.length) 0 ?_ ?_ ?_
 ·exact Wa
 ·simp
 rintro j h2 A2 hA2
 by_cases hj:j<l[i].l.length
 case neg=>
  have s_:=An @hi (An @hj (An @hw2 (@RowR.enc.eq_1)))
  have q1_:=λs w=>hA (i+1) s w hi (by omega)
  exact WW
 have hw3:=Zg hj (by simp only[maxLen];omega)
 have s_:=An @hi (An @hj (An @hw3 (An @RowR.enc.eq_1 (@decK.eq_1))))
 have q1_:=λs w=>hA2 (j+1) s w hj (by omega)
 exact WW
theorem Zog (l:List RowR):Zb Tryz.prog 41 [encL RowR.enc l] (B (rightT l)):=by
 refine Pm Tryz.func41 λhfit=> ?_
 have d1_:=D0 7 34 [] []
 have d2_:=D0 12 29 [] []
 simp at hfit
 simp[Tryz.f41]
 by_cases hl:64<l.length
 ·have hf:rightT l=false:=Zbm λR=>by have:=R.len;omega
  have s_:=An @hl (@hf)
  exact WW
 have s_:=hl
 try simp[s_]
 repeat' ((first|((first|refine Tp ?_|refine Tn ?_|refine T2 ?_ ?_)<;>intro h_ e_ n_)|refine Dg 7 34 [] [] ?_|refine Dg 12 29 [] [] ?_|rw[Ip]|rw[In]|rw[Fz]|rw[Gz]|fail)<;>first|simp[e_,n_,s_]|simp[s_]|skip)
 refine AW.loopG (lit:=λ_=>false) (λi:Nat=>⟨89,pat [(0,encL RowR.enc l),(3,I i)],[]⟩) (λi=>l.length -i) (λi=>i<=l.length/\(∀k (h:k<l.length),k<i->ZgA l[k])/\(∀k (h:k+1<l.length),k+1<i->l[k].client<l[k+1].client)) 0 ?_ ?_ ?_
 ·exact Wa
 ·exact⟨by simp,λk _ h=>by omega,λk _ h=>by omega⟩
 rintro i ⟨h1,h2,h3⟩ A hA
 by_cases hi:i<l.length
 case neg=>
  have hf:rightT l=true:=(Zem l).2 ⟨by omega,ZaS _ λk h=>h3 k h (by omega),λr hr=>by obtain⟨k,hk,rfl⟩:=List.getElem_of_mem hr;exact h2 k hk (by omega)⟩
  have s_:=An @hi (@hf)
  exact WW
 have hw2:=Zg hi hfit.1
 have bad:¬ZgA l[i]->rightT l=false:=λh=>Zbm λR=>h (R.ok _ (List.getElem_mem hi))
 by_cases c1:l[i].client<0
 ·have hf:=bad λo=>by have:=o.client;omega
  have s_:=An @hi (An @RowR.enc.eq_1 (An @c1 (@hf)))
  exact WW
 by_cases c2:l[i].epoch<1
 ·have hf:=bad λo=>by have:=o.epoch;omega
  have s_:=An @hi (An @RowR.enc.eq_1 (An @c1 (An @c2 (@hf))))
  exact WW
 by_cases c3:l[i].done<0
 ·have hf:=bad λo=>by have:=o.done;omega
  have s_:=An @hi (An @RowR.enc.eq_1 (An @c1 (An @c2 (An @c3 (@hf)))))
  exact WW
 by_cases c4:256<l[i].l.length
 ·have hf:=bad λo=>by have:=o.len;omega
  have s_:=An @hi (An @RowR.enc.eq_1 (An @c1 (An @c2 (An @c3 (An @c4 (@hf))))))
  exact WW
 cases i with
 |zero=>
  have s_:=An @hi (An @hw2 (An @RowR.enc.eq_1 (An @c1 (An @c2 (An @c3 (@c4))))))
  try simp[s_]
  repeat' ((first|((first|refine Tp ?_|refine Tn ?_|refine T2 ?_ ?_)<;>intro h_ e_ n_)|refine Dg 7 34 [] [] ?_|refine Dg 12 29 [] [] ?_|rw[Ip]|rw[In]|rw[Fz]|rw[Gz]|fail)<;>first|simp[e_,n_,s_]|simp[s_]|skip)
  refine AW.loopG (lit:=λ_=>false) (λj:Nat=>⟨89,pat [(0,encL RowR.enc l),(3,I ((0:Nat):Int)),(4,.ptr 0 0 0),(5,I j)],[.cells 0 [I l[0].client,I l[0].epoch,I l[0].done,encL DecisionR.enc l[0].l]]⟩) (λj=>l[0].l.length -j) (λj=>j<=l[0].l.length/\(∀k (h:k<l[0].l.length),k<j->l[0].done<l[0].l[k].seq)/\(∀k (h:k+1<l[0].l.length),k+1<j->l[0].l[k].seq<l[0].l[k+1].seq)) 0 ?_ ?_ ?_
  ·exact Wa
  ·exact⟨by simp,λk _ h=>by omega,λk _ h=>by omega⟩
  rintro j ⟨g1,g2,g3⟩ A2 hA2
  by_cases hj:j<l[0].l.length
  case neg=>
   have hok:ZgA l[0]:=⟨by omega,by omega,by omega,by omega,ZaS _ λk h=>g3 k h (by omega),λd hd=>by obtain⟨k,hk,rfl⟩:=List.getElem_of_mem hd;exact g2 k hk (by omega)⟩
   have s_:=An @hi (An @hj (@hw2))
   have q1_:=λs w=>hA (1) s w ⟨hi,λk h q=>by rcases Nat.lt_or_ge k 0 with q2|q2;(·exact h2 k h q2);(obtain rfl:k=0:=(by omega);exact hok),λk h q=>by omega⟩ (by omega)
   exact WW
  have hjw:=Zg hj (by simp only[maxLen];omega)
  by_cases d1:l[0].l[j].seq<=l[0].done
  ·have hf:=bad λo=>by have:=o.above _ (List.getElem_mem hj);omega
   have s_:=An @hi (An @hj (An @d1 (An @hf (@DecisionR.enc.eq_1))))
   exact WW
  cases j with
  |zero=>
   have s_:=An @hi (An @hj (An @d1 (An @hjw (@DecisionR.enc.eq_1))))
   have q1_:=λs w=>hA2 1 s w ⟨hj,λk h q=>by obtain rfl:k=0:=(by omega);omega,λk h q=>by omega⟩ (by omega)
   exact WW
  |succ j=>
   have hj0:j<l[0].l.length:=by omega
   have hj3:IntKind.i64.wrap ((j:Int)+1 -1)=(j:Int):=by rw[IntKind.wrap_i64];omega
   have hj4:IntKind.i64.wrap (j:Int)=(j:Int):=by rw[IntKind.wrap_i64];omega
   have hj5:IntKind.i64.wrap ((j:Int)+1+1)=(j:Int)+2:=by rw[IntKind.wrap_i64];omega
   by_cases d2:l[0].l[j+1].seq<=l[0].l[j].seq
   ·have hf:=bad λo=>by have:=ZJ _ o.rise j (j+1) hj0 hj (by omega);omega
    have s_:=An @hi (An @hj (An @hj0 (An @hj3 (An @hj4 (An @d1 (An @d2 (An @hf (@DecisionR.enc.eq_1))))))))
    exact WW
   ·have s_:=An @hi (An @hj (An @hj0 (An @hj3 (An @hj4 (An @hj5 (An @d1 (An @d2 (@DecisionR.enc.eq_1))))))))
    have q1_:=λs w=>hA2 (j+2) s w ⟨hj,λk h q=>by rcases Nat.lt_or_ge k (j+1) with q2|q2;(·exact g2 k h q2);(obtain rfl:k=j+1:=(by omega);omega),λk h q=>by rcases Nat.lt_or_ge (k+1) (j+1) with q2|q2;(·exact g3 k h q2);(obtain rfl:k=j:=(by omega);omega)⟩ (by omega)
    exact WW
 |succ i=>
  have hi0:i<l.length:=by omega
  have hi3:IntKind.i64.wrap ((i:Int)+1 -1)=(i:Int):=by rw[IntKind.wrap_i64];omega
  have hi4:IntKind.i64.wrap (i:Int)=(i:Int):=by rw[IntKind.wrap_i64];omega
  have hw2:IntKind.i64.wrap ((i:Int)+1+1)=(i:Int)+2:=by rw[IntKind.wrap_i64];omega
  by_cases c5:l[i+1].client<=l[i].client
  ·have hf:rightT l=false:=Zbm λR=>by have:=ZJ _ R.rise i (i+1) hi0 hi (by omega);omega
   have s_:=An @hi (An @hi0 (An @hi3 (An @hi4 (An @RowR.enc.eq_1 (An @c1 (An @c2 (An @c3 (An @c4 (An @c5 (@hf))))))))))
   exact WW
  have s_:=An @hi (An @hw2 (An @RowR.enc.eq_1 (An @c1 (An @c2 (An @c3 (An @c4 (An @c5 (An @hi0 (An @hi3 (@hi4))))))))))
  try simp[s_]
  repeat' ((first|((first|refine Tp ?_|refine Tn ?_|refine T2 ?_ ?_)<;>intro h_ e_ n_)|refine Dg 7 34 [] [] ?_|refine Dg 12 29 [] [] ?_|rw[Ip]|rw[In]|rw[Fz]|rw[Gz]|fail)<;>first|simp[e_,n_,s_]|simp[s_]|skip)
  refine AW.loopG (lit:=λ_=>false) (λj:Nat=>⟨89,pat [(0,encL RowR.enc l),(3,I ((i+1:Nat):Int)),(4,.ptr 0 0 0),(5,I j)],[.cells 0 [I l[i+1].client,I l[i+1].epoch,I l[i+1].done,encL DecisionR.enc l[i+1].l]]⟩) (λj=>l[i+1].l.length -j) (λj=>j<=l[i+1].l.length/\(∀k (h:k<l[i+1].l.length),k<j->l[i+1].done<l[i+1].l[k].seq)/\(∀k (h:k+1<l[i+1].l.length),k+1<j->l[i+1].l[k].seq<l[i+1].l[k+1].seq)) 0 ?_ ?_ ?_
  ·exact Wa
  ·exact⟨by simp,λk _ h=>by omega,λk _ h=>by omega⟩
  rintro j ⟨g1,g2,g3⟩ A2 hA2
  by_cases hj:j<l[i+1].l.length
  case neg=>
   have hok:ZgA l[i+1]:=⟨by omega,by omega,by omega,by omega,ZaS _ λk h=>g3 k h (by omega),λd hd=>by obtain⟨k,hk,rfl⟩:=List.getElem_of_mem hd;exact g2 k hk (by omega)⟩
   have s_:=An @hi (An @hj (@hw2))
   have q1_:=λs w=>hA (i+2) s w ⟨hi,λk h q=>by rcases Nat.lt_or_ge k (i+1) with q2|q2;(·exact h2 k h q2);(obtain rfl:k=i+1:=(by omega);exact hok),λk h q=>by rcases Nat.lt_or_ge (k+1) (i+1) with q2|q2;(·exact h3 k h q2);(obtain rfl:k=i:=(by omega);omega)⟩ (by omega)
   exact WW
  have hjw:=Zg hj (by simp only[maxLen];omega)
  by_cases d1:l[i+1].l[j].seq<=l[i+1].done
  ·have hf:=bad λo=>by have:=o.above _ (List.getElem_mem hj);omega
   have s_:=An @hi (An @hj (An @d1 (An @hf (@DecisionR.enc.eq_1))))
   exact WW
  cases j with
  |zero=>
   have s_:=An @hi (An @hj (An @d1 (An @hjw (@DecisionR.enc.eq_1))))
   have q1_:=λs w=>hA2 1 s w ⟨hj,λk h q=>by obtain rfl:k=0:=(by omega);omega,λk h q=>by omega⟩ (by omega)
   exact WW
  |succ j=>
   have hj0:j<l[i+1].l.length:=by omega
   have hj3:IntKind.i64.wrap ((j:Int)+1 -1)=(j:Int):=by rw[IntKind.wrap_i64];omega
   have hj4:IntKind.i64.wrap (j:Int)=(j:Int):=by rw[IntKind.wrap_i64];omega
   have hj5:IntKind.i64.wrap ((j:Int)+1+1)=(j:Int)+2:=by rw[IntKind.wrap_i64];omega
   by_cases d2:l[i+1].l[j+1].seq<=l[i+1].l[j].seq
   ·have hf:=bad λo=>by have:=ZJ _ o.rise j (j+1) hj0 hj (by omega);omega
    have s_:=An @hi (An @hj (An @hj0 (An @hj3 (An @hj4 (An @d1 (An @d2 (An @hf (@DecisionR.enc.eq_1))))))))
    exact WW
   ·have s_:=An @hi (An @hj (An @hj0 (An @hj3 (An @hj4 (An @hj5 (An @d1 (An @d2 (@DecisionR.enc.eq_1))))))))
    have q1_:=λs w=>hA2 (j+2) s w ⟨hj,λk h q=>by rcases Nat.lt_or_ge k (j+1) with q2|q2;(·exact g2 k h q2);(obtain rfl:k=j+1:=(by omega);omega),λk h q=>by rcases Nat.lt_or_ge (k+1) (j+1) with q2|q2;(·exact g3 k h q2);(obtain rfl:k=j:=(by omega);omega)⟩ (by omega)
    exact WW
def riseT {α:Type} (key:α->Int) (least:Int) (l:List α):Bool:=decide (Zo key l=true/\∀x∈l,least<key x)
theorem ZdK {α:Type} (key:α->Int) (least:Int) (l:List α):riseT key least l=true↔Zo key l=true/\∀x∈l,least<key x:=by simp[riseT]
theorem Zdi {α:Type} {key:α->Int} {least:Int} {l:List α} (h:¬(Zo key l=true/\∀x∈l,least<key x)):riseT key least l=false:=decide_eq_false h
theorem Zys (l:List RowR) (least:Int):Zb Tryz.prog 125 [encL RowR.enc l,I least,.fn 126 []] (B (riseT RowR.client least l)):=by
 refine Pm Tryz.func125 λhfit=> ?_
 have d1_:=D0 4 22 [] []
 simp at hfit
 simp[Tryz.f125]
 refine AW.loopG (lit:=λ_=>false) (λi:Nat=>⟨39,pat [(0,encL RowR.enc l),(1,I least),(2,.fn 126 []),(9,encL RowR.enc l),(10,I l.length),(11,I i)],[]⟩) (λi=>l.length -i) (λi=>i<=l.length/\(∀k (h:k<l.length),k<i->least<l[k].client)/\(∀k (h:k+1<l.length),k+1<i->l[k].client<l[k+1].client)) 0 ?_ ?_ ?_
 ·exact Wa
 ·exact⟨by simp,λk _ h=>by omega,λk _ h=>by omega⟩
 rintro i ⟨h1,h2,h3⟩ A hA
 by_cases hi:i<l.length
 case neg=>
  have hf:riseT RowR.client least l=true:=(ZdK _ _ _).2 ⟨ZaS _ λk h=>h3 k h (by omega),λr hr=>by obtain⟨k,hk,rfl⟩:=List.getElem_of_mem hr;exact h2 k hk (by omega)⟩
  have s_:=An @hi (@hf)
  exact WW
 have hw2:=Zg hi hfit.1
 have hk:=Zoa l[i]
 by_cases c1:l[i].client<=least
 ·have hf:riseT RowR.client least l=false:=Zdi λq=>by have:=q.2 _ (List.getElem_mem hi);omega
  have s_:=An @hi (An @c1 (@hf))
  have p1_:=hk
  exact WW
 cases i with
 |zero=>
  have s_:=An @hi (An @c1 (@hw2))
  have q1_:=λs w=>hA 1 s w ⟨hi,λk h q=>by obtain rfl:k=0:=(by omega);omega,λk h q=>by omega⟩ (by omega)
  have p1_:=hk
  exact WW
 |succ i=>
  have hi0:i<l.length:=by omega
  have hi3:IntKind.i64.wrap ((i:Int)+1 -1)=(i:Int):=by rw[show(i:Int)+1 -1=i by omega];exact Zh (by omega) (by have:=ZN hfit.1;omega)
  have hi4:IntKind.i64.wrap (i:Int)=(i:Int):=Zh (by omega) (by have:=ZN hfit.1;omega)
  have hi5:IntKind.i64.wrap ((i:Int)+1+1)=(i:Int)+2:=by rw[Zh (by omega) (by have:=ZN hfit.1;omega)];omega
  have hk0:=Zoa l[i]
  by_cases c2:l[i+1].client<=l[i].client
  ·have hf:riseT RowR.client least l=false:=Zdi λq=>by have:=ZJ _ q.1 i (i+1) hi0 hi (by omega);omega
   have s_:=An @hi (An @hi0 (An @hi3 (An @hi4 (An @c1 (An @c2 (@hf))))))
   have p1_:=hk
   have p2_:=hk0
   exact WW
  ·have s_:=An @hi (An @hi0 (An @hi3 (An @hi4 (An @hi5 (An @c1 (@c2))))))
   have q1_:=λs w=>hA (i+2) s w ⟨hi,λk h q=>by rcases Nat.lt_or_ge k (i+1) with q2|q2;(·exact h2 k h q2);(obtain rfl:k=i+1:=(by omega);omega),λk h q=>by rcases Nat.lt_or_ge (k+1) (i+1) with q2|q2;(·exact h3 k h q2);(obtain rfl:k=i:=(by omega);omega)⟩ (by omega)
   have p1_:=hk
   have p2_:=hk0
   exact WW
theorem Zyt (l:List DecisionR) (least:Int):Zb Tryz.prog 124 [encL DecisionR.enc l,I least,.fn 75 []] (B (riseT DecisionR.seq least l)):=by
 refine Pm Tryz.func124 λhfit=> ?_
 have d1_:=D0 4 22 [] []
 simp at hfit
 simp[Tryz.f124]
 refine AW.loopG (lit:=λ_=>false) (λi:Nat=>⟨39,pat [(0,encL DecisionR.enc l),(1,I least),(2,.fn 75 []),(9,encL DecisionR.enc l),(10,I l.length),(11,I i)],[]⟩) (λi=>l.length -i) (λi=>i<=l.length/\(∀k (h:k<l.length),k<i->least<l[k].seq)/\(∀k (h:k+1<l.length),k+1<i->l[k].seq<l[k+1].seq)) 0 ?_ ?_ ?_
 ·exact Wa
 ·exact⟨by simp,λk _ h=>by omega,λk _ h=>by omega⟩
 rintro i ⟨h1,h2,h3⟩ A hA
 by_cases hi:i<l.length
 case neg=>
  have hf:riseT DecisionR.seq least l=true:=(ZdK _ _ _).2 ⟨ZaS _ λk h=>h3 k h (by omega),λr hr=>by obtain⟨k,hk,rfl⟩:=List.getElem_of_mem hr;exact h2 k hk (by omega)⟩
  have s_:=An @hi (@hf)
  exact WW
 have hw2:=Zg hi hfit.1
 have hk:=Zoc l[i]
 by_cases c1:l[i].seq<=least
 ·have hf:riseT DecisionR.seq least l=false:=Zdi λq=>by have:=q.2 _ (List.getElem_mem hi);omega
  have s_:=An @hi (An @c1 (@hf))
  have p1_:=hk
  exact WW
 cases i with
 |zero=>
  have s_:=An @hi (An @c1 (@hw2))
  have q1_:=λs w=>hA 1 s w ⟨hi,λk h q=>by obtain rfl:k=0:=(by omega);omega,λk h q=>by omega⟩ (by omega)
  have p1_:=hk
  exact WW
 |succ i=>
  have hi0:i<l.length:=by omega
  have hi3:IntKind.i64.wrap ((i:Int)+1 -1)=(i:Int):=by rw[show(i:Int)+1 -1=i by omega];exact Zh (by omega) (by have:=ZN hfit.1;omega)
  have hi4:IntKind.i64.wrap (i:Int)=(i:Int):=Zh (by omega) (by have:=ZN hfit.1;omega)
  have hi5:IntKind.i64.wrap ((i:Int)+1+1)=(i:Int)+2:=by rw[Zh (by omega) (by have:=ZN hfit.1;omega)];omega
  have hk0:=Zoc l[i]
  by_cases c2:l[i+1].seq<=l[i].seq
  ·have hf:riseT DecisionR.seq least l=false:=Zdi λq=>by have:=ZJ _ q.1 i (i+1) hi0 hi (by omega);omega
   have s_:=An @hi (An @hi0 (An @hi3 (An @hi4 (An @c1 (An @c2 (@hf))))))
   have p1_:=hk
   have p2_:=hk0
   exact WW
  ·have s_:=An @hi (An @hi0 (An @hi3 (An @hi4 (An @hi5 (An @c1 (@c2))))))
   have q1_:=λs w=>hA (i+2) s w ⟨hi,λk h q=>by rcases Nat.lt_or_ge k (i+1) with q2|q2;(·exact h2 k h q2);(obtain rfl:k=i+1:=(by omega);omega),λk h q=>by rcases Nat.lt_or_ge (k+1) (i+1) with q2|q2;(·exact h3 k h q2);(obtain rfl:k=i:=(by omega);omega)⟩ (by omega)
   have p1_:=hk
   have p2_:=hk0
   exact WW
def badT (r:RowR):Bool:=decide (r.epoch<1)||(decide (r.done<0)||(decide (256<r.l.length)|| !riseT DecisionR.seq r.done r.l))
theorem ZvE (r:RowR):Zb Tryz.prog 123 [.agg r.enc] (B (badT r)):=by
 have h1:=Zyt r.l r.done
 unfold badT
 generalize riseT DecisionR.seq r.done r.l=b at*
 refine Pm Tryz.func123 λhfit=> ?_
 simp[Tryz.f123]
 have s_:= @RowR.enc.eq_1
 exact WW
theorem Zsx (l:List RowR) (g:FuncId) (cap:List AV) (p:RowR->Bool) (hcap:cap.all neat=true) (hp:∀x∈l,Zb Tryz.prog g (.agg x.enc::cap) (B (p x))) (hl:l.length<=1000000):Zb Tryz.prog 168 [encL RowR.enc l,.fn g cap] (I (idxS p l)):=by
 refine Zb.mk (λ_=>false) Tryz.func168 rfl rfl rfl (Ent.mk Tryz.func168 (by kernel_rfl) rfl) (by simp[hcap]) (by simp) λhfit=> ?_
 simp at hfit
 simp[Tryz.f168]
 refine AW.loopG (lit:=λ_=>false) (λi:Nat=>⟨19,pat [(0,encL RowR.enc l),(1,.fn g cap),(7,I l.length),(8,I i)],[]⟩) (λi=>l.length -i) (λi=>i<=l.length/\Zan p i (l.drop i)=idxS p l) 0 ?_ ?_ ?_
 ·exact Wk.at _ rfl rfl (by simp)
 ·simp[idxS]
 rintro i ⟨h1,h2⟩ A hA
 by_cases hi:i<l.length
 case neg=>
  rw[ZaP hi] at h2
  have s_:=An @hi (Eq.symm (h2))
  exact WW
 rw[Zbi hi] at h2
 have hw:=Zg hi hfit.1.1
 have hpi:=hp l[i] (List.getElem_mem hi)
 cases hpp:p l[i] with
 |true=>
  rw[hpp] at hpi
  simp only[hpp,if_true] at h2
  have s_:=An @hi (An (Eq.symm (h2)) (@hpp))
  have p1_:=hpi
  exact WW
 |false=>
  rw[hpp] at hpi
  simp only[hpp,Bool.false_eq_true,if_false] at h2
  have s_:=An @hi (An @hw (@hpp))
  try simp[s_]
  repeat' ((first|((first|refine Tp ?_|refine Tn ?_|refine T2 ?_ ?_)<;>intro h_ e_ n_)|(exact hA (i+1) _ Wa ⟨by omega,h2⟩ (by omega))|refine Pg hpi ?_|rw[Ip]|rw[In]|rw[Fz]|rw[Gz]|fail)<;>first|simp[e_,n_,s_]|simp[s_]|skip)
theorem Zoh (l:List RowR) (hl:l.length<=1000000):Zb Tryz.prog 127 [encL RowR.enc l,.fn 123 []] (B (decide (0<=idxS badT l))):=by
 have h1:=Zsx l 123 [] badT (by simp) (λx _=>ZvE x) hl
 refine Pm Tryz.func127 λhfit=> ?_
 simp[Tryz.f127]
 exact WW
theorem ZpX (r:RowR):badT r=false/\0<=r.client↔ZgA r:=by
 simp only[badT,Bool.or_eq_false_iff,decide_eq_false_iff_not,Bool.not_eq_false',ZdK]
 constructor
 ·rintro⟨⟨h1,h2,h3,h4,h5⟩,h6⟩
  exact⟨h6,by omega,by omega,by omega,h4,h5⟩
 ·intro h
  exact⟨⟨by have:=h.epoch;omega,by have:=h.done;omega,by have:=h.len;omega,h.rise,h.above⟩,h.client⟩
theorem Zsy (l:List RowR):Zb Tryz.prog 65 [encL RowR.enc l] (B (rightT l)):=by
 by_cases hl:l.length<=64
 case neg=>
  have hf:rightT l=false:=Zbm λR=>hl R.len
  refine Pm Tryz.func65 λhfit=> ?_
  simp[Tryz.f65]
  have s_:=An @hl (@hf)
  exact WW
 have h1:=Zys l (-1)
 cases hr:riseT RowR.client (-1) l with
 |false=>
  have hf:rightT l=false:=Zbm λR=>by
   have:=(ZdK RowR.client (-1) l).2 ⟨R.rise,λx hx=>by have:=(R.ok x hx).client;omega⟩
   rw[hr] at this;cases this
  rw[hr] at h1
  refine Pm Tryz.func65 λhfit=> ?_
  simp[Tryz.f65]
  have s_:=An @hl (@hf)
  exact WW
 |true=>
  rw[hr] at h1
  have h2:=Zoh l (by omega)
  obtain⟨r1,r2⟩:=(ZdK _ _ _).1 hr
  have hf:rightT l= !decide (0<=idxS badT l):=by
   by_cases hb:idxS badT l= -1
   ·have:=(ZcK hb).2
    rw[hb,(Zem l).2 ⟨hl,r1,λr hr=>(ZpX r).1 ⟨this r hr,by have:=r2 r hr;omega⟩⟩]
    rfl
   ·obtain⟨j,hj,e1,e2,_⟩:=ZcL hb
    rw[e1,Zbm λR=>by have:=((ZpX _).2 (R.ok _ (List.getElem_mem hj))).1;rw[e2] at this;cases this]
    simp
  rw[hf]
  generalize decide (0<=idxS badT l)=b at*
  refine Pm Tryz.func65 λhfit=> ?_
  simp[Tryz.f65]
  have s_:=hl
  exact WW
theorem ZfI {α:Type} {a b:List α} (hl:a.length=b.length) (h:∀k (h1:k<a.length) (h2:k<b.length),a[k]=b[k]):a=b:=List.ext_getElem hl h
theorem Zsz (a b:List RowR) (R:Zas a) (hne:¬a=b):Zb Tryz.prog 43 [encL RowR.enc a,encL RowR.enc b] (B false):=by
 refine Pm Tryz.func43 λhfit=> ?_
 have d1_:=D0 6 52 [] []
 have d2_:=D0 11 17 [] []
 simp at hfit
 simp[Tryz.f43]
 by_cases hl:a.length=b.length
 case neg=>
  have s_:=hl
  exact WW
 have s_:=hl
 try simp[s_]
 repeat' ((first|((first|refine Tp ?_|refine Tn ?_|refine T2 ?_ ?_)<;>intro h_ e_ n_)|refine Dg 6 52 [] [] ?_|refine Dg 11 17 [] [] ?_|rw[Ip]|rw[In]|rw[Fz]|rw[Gz]|fail)<;>first|simp[e_,n_,s_]|simp[s_]|skip)
 refine AW.loopG (lit:=λ_=>false) (λi:Nat=>⟨97,pat [(0,encL RowR.enc a),(1,encL RowR.enc b),(5,I i)],[]⟩) (λi=>b.length -i) (λi=>i<=b.length/\∀k (h1:k<a.length) (h2:k<b.length),k<i->a[k]=b[k]) 0 ?_ ?_ ?_
 ·exact Wk.at _ rfl (by simp[hl]) (by simp)
 ·exact⟨by simp,λk _ _ h=>by omega⟩
 rintro i ⟨h1,h2⟩ A hA
 by_cases hi:i<b.length
 case neg=>exact absurd (ZfI hl λk q1 q2=>h2 k q1 q2 (by omega)) hne
 have hi2:i<a.length:=by omega
 have hw2:=Zg hi (hl▸hfit.1.1)
 have hlen:=(R.ok _ (List.getElem_mem hi2)).len
 by_cases c1:a[i].client=b[i].client
 case neg=>
  have s_:=An @hi (An @hi2 (An @hl (An @RowR.enc.eq_1 (@c1))))
  exact WW
 by_cases c2:a[i].epoch=b[i].epoch
 case neg=>
  have s_:=An @hi (An @hi2 (An @hl (An @RowR.enc.eq_1 (An @c1 (@c2)))))
  exact WW
 by_cases c3:a[i].done=b[i].done
 case neg=>
  have s_:=An @hi (An @hi2 (An @hl (An @RowR.enc.eq_1 (An @c1 (An @c2 (@c3))))))
  exact WW
 by_cases c4:a[i].l.length=b[i].l.length
 case neg=>
  have s_:=An @hi (An @hi2 (An @hl (An @RowR.enc.eq_1 (An @c1 (An @c2 (An @c3 (@c4)))))))
  exact WW
 have s_:=An @hi (An @hi2 (An @hl (An @RowR.enc.eq_1 (An @c1 (An @c2 (An @c3 (@c4)))))))
 try simp[s_]
 repeat' ((first|((first|refine Tp ?_|refine Tn ?_|refine T2 ?_ ?_)<;>intro h_ e_ n_)|refine Dg 6 52 [] [] ?_|refine Dg 11 17 [] [] ?_|rw[Ip]|rw[In]|rw[Fz]|rw[Gz]|fail)<;>first|simp[e_,n_,s_]|simp[s_]|skip)
 refine AW.loopG (lit:=λ_=>false) (λj:Nat=>⟨97,pat [(0,encL RowR.enc a),(1,encL RowR.enc b),(5,I i),(6,I j)],[]⟩) (λj=>b[i].l.length -j) (λj=>j<=b[i].l.length/\∀k (h1:k<a[i].l.length) (h2:k<b[i].l.length),k<j->a[i].l[k]=b[i].l[k]) 0 ?_ ?_ ?_
 ·exact Wk.at _ rfl (by simp[hl]) (by simp)
 ·exact⟨by simp,λk _ _ h=>by omega⟩
 rintro j ⟨g1,g2⟩ A2 hA2
 by_cases hj:j<b[i].l.length
 case neg=>
  have he:a[i]=b[i]:=(RowR.eq_iff _ _).2 ⟨c1,c2,c3,ZfI c4 λk q1 q2=>g2 k q1 q2 (by omega)⟩
  have s_:=An @hi (An @hi2 (An @hj (An @hl (An @hw2 (An @c4 (@RowR.enc.eq_1))))))
  try simp[s_]
  repeat' ((first|((first|refine Tp ?_|refine Tn ?_|refine T2 ?_ ?_)<;>intro h_ e_ n_)|(exact hA (i+1) _ (Wk.at _ rfl (by simp[hl]) (by simp)) ⟨hi,λk q1 q2 q=>by rcases Nat.lt_or_ge k i with q3|q3;(·exact h2 k q1 q2 q3);(obtain rfl:k=i:=(by omega);exact he)⟩ (by omega))|refine Dg 6 52 [] [] ?_|refine Dg 11 17 [] [] ?_|rw[Ip]|rw[In]|rw[Fz]|rw[Gz]|fail)<;>first|simp[e_,n_,s_]|simp[s_]|skip)
 have hj2:j<a[i].l.length:=by omega
 have hw3:=Zg hj (by simp only[maxLen];omega)
 by_cases hs:a[i].l[j]=b[i].l[j]
 ·have s_:=An @hi (An @hi2 (An @hj (An @hj2 (An @hl (An @hw3 (An @hs (An @c4 (An @RowR.enc.eq_1 (@decK.eq_1)))))))))
  try simp[s_]
  repeat' ((first|((first|refine Tp ?_|refine Tn ?_|refine T2 ?_ ?_)<;>intro h_ e_ n_)|(exact hA2 (j+1) _ (Wk.at _ rfl (by simp[hl]) (by simp)) ⟨hj,λk q1 q2 q=>by rcases Nat.lt_or_ge k j with q3|q3;(·exact g2 k q1 q2 q3);(obtain rfl:k=j:=(by omega);exact hs)⟩ (by omega))|refine Dg 6 52 [] [] ?_|refine Dg 11 17 [] [] ?_|rw[Ip]|rw[In]|rw[Fz]|rw[Gz]|fail)<;>first|simp[e_,n_,s_]|simp[s_]|skip)
 ·have s_:=An @hi (An @hi2 (An @hj (An @hj2 (An @hl (An @hs (An @c4 (An @RowR.enc.eq_1 (@decK.eq_1))))))))
  exact WW
theorem ZvF (a b:List DecisionR):Zb Tryz.prog 139 [encL DecisionR.enc a,encL DecisionR.enc b] (B (decide (a=b))):=by
 refine Pm Tryz.func139 λhfit=> ?_
 have d1_:=D0 6 9 [] []
 simp at hfit
 simp[Tryz.f139]
 by_cases hl:a.length=b.length
 case neg=>
  have hne:¬a=b:=λe=>hl (by rw[e])
  have s_:=An @hl (@hne)
  exact WW
 have s_:=hl
 try simp[s_]
 repeat' ((first|((first|refine Tp ?_|refine Tn ?_|refine T2 ?_ ?_)<;>intro h_ e_ n_)|refine Dg 6 9 [] [] ?_|rw[Ip]|rw[In]|rw[Fz]|rw[Gz]|fail)<;>first|simp[e_,n_,s_]|simp[s_]|skip)
 refine AW.loopG (lit:=λ_=>false) (λi:Nat=>⟨26,pat [(0,encL DecisionR.enc a),(1,encL DecisionR.enc b),(12,I b.length),(13,I i)],[]⟩) (λi=>b.length -i) (λi=>i<=b.length/\∀k (h1:k<a.length) (h2:k<b.length),k<i->a[k]=b[k]) 0 ?_ ?_ ?_
 ·exact Wk.at _ rfl (by simp[hl]) (by simp)
 ·exact⟨by simp,λk _ _ h=>by omega⟩
 rintro i ⟨h1,h2⟩ A hA
 by_cases hi:i<b.length
 case neg=>
  have he:a=b:=ZfI hl λk q1 q2=>h2 k q1 q2 (by omega)
  subst he
  have s_:=hi
  exact WW
 have hi2:i<a.length:=by omega
 have hw2:=Zg hi (hl▸hfit.1.1)
 by_cases hs:a[i]=b[i]
 ·have s_:=An @hi (An @hi2 (An @hl (An @hw2 (An @hs (@decK.eq_1)))))
  try simp[s_]
  repeat' ((first|((first|refine Tp ?_|refine Tn ?_|refine T2 ?_ ?_)<;>intro h_ e_ n_)|(exact hA (i+1) _ (Wk.at _ rfl (by simp[hl]) (by simp)) ⟨hi,λk q1 q2 q=>by rcases Nat.lt_or_ge k i with q3|q3;(·exact h2 k q1 q2 q3);(obtain rfl:k=i:=(by omega);exact hs)⟩ (by omega))|refine Dg 6 9 [] [] ?_|rw[Ip]|rw[In]|rw[Fz]|rw[Gz]|fail)<;>first|simp[e_,n_,s_]|simp[s_]|skip)
 ·have hne:¬a=b:=λe=>hs (by subst e;rfl)
  have s_:=An @hi (An @hi2 (An @hl (An @hs (An @hne (@decK.eq_1)))))
  exact WW
theorem Zyu (r s:RowR):Zb Tryz.prog 138 [.agg r.enc,.agg s.enc] (B (decide (r=s))):=by
 have h1:=ZvF r.l s.l
 have he:decide (r=s)=(decide (r.client=s.client)&&(decide (r.epoch=s.epoch)&&(decide (r.done=s.done)&&decide (r.l=s.l)))):=by
  rw[Bool.eq_iff_iff];simp[RowR.eq_iff]
 rw[he]
 generalize decide (r.l=s.l)=b at*
 refine Pm Tryz.func138 λhfit=> ?_
 simp[Tryz.f138]
 have s_:= @RowR.enc.eq_1
 exact WW
theorem ZvG (a b:List RowR):Zb Tryz.prog 137 [encL RowR.enc a,encL RowR.enc b,.fn 138 []] (B (decide (a=b))):=by
 refine Pm Tryz.func137 λhfit=> ?_
 simp at hfit
 simp[Tryz.f137]
 by_cases hl:a.length=b.length
 case neg=>
  have hne:¬a=b:=λe=>hl (by rw[e])
  have s_:=An @hl (@hne)
  exact WW
 have s_:=hl
 try simp[s_]
 repeat' ((first|((first|refine Tp ?_|refine Tn ?_|refine T2 ?_ ?_)<;>intro h_ e_ n_)|rw[Ip]|rw[In]|rw[Fz]|rw[Gz]|fail)<;>first|simp[e_,n_,s_]|simp[s_]|skip)
 refine AW.loopG (lit:=λ_=>false) (λi:Nat=>⟨32,pat [(0,encL RowR.enc a),(1,encL RowR.enc b),(2,.fn 138 []),(15,encL RowR.enc a),(16,I b.length),(17,I i)],[]⟩) (λi=>b.length -i) (λi=>i<=b.length/\∀k (h1:k<a.length) (h2:k<b.length),k<i->a[k]=b[k]) 0 ?_ ?_ ?_
 ·exact Wk.at _ rfl (by simp[hl]) (by simp)
 ·exact⟨by simp,λk _ _ h=>by omega⟩
 rintro i ⟨h1,h2⟩ A hA
 by_cases hi:i<b.length
 case neg=>
  have he:a=b:=ZfI hl λk q1 q2=>h2 k q1 q2 (by omega)
  subst he
  have s_:=hi
  exact WW
 have hi2:i<a.length:=by omega
 have hw2:=Zg hi (hl▸hfit.1.1)
 have hk:=Zyu a[i] b[i]
 by_cases hs:a[i]=b[i]
 ·rw[decide_eq_true hs] at hk
  have s_:=An @hi (An @hi2 (An @hl (@hw2)))
  try simp[s_]
  repeat' ((first|((first|refine Tp ?_|refine Tn ?_|refine T2 ?_ ?_)<;>intro h_ e_ n_)|(exact hA (i+1) _ (Wk.cutAt _ rfl (by simp[hl]) (by simp[hl]) (by simp[hl]) (by simp[hl])) ⟨hi,λk q1 q2 q=>by rcases Nat.lt_or_ge k i with q3|q3;(·exact h2 k q1 q2 q3);(obtain rfl:k=i:=(by omega);exact hs)⟩ (by omega))|refine Pg hk ?_|rw[Ip]|rw[In]|rw[Fz]|rw[Gz]|fail)<;>first|simp[e_,n_,s_]|simp[s_]|skip)
 ·have hne:¬a=b:=λe=>hs (by subst e;rfl)
  rw[decide_eq_false hs] at hk
  have s_:=An @hi (An @hi2 (An @hl (@hne)))
  have p1_:=hk
  exact WW
theorem ZvH (a b:List RowR):Zb Tryz.prog 71 [encL RowR.enc a,encL RowR.enc b] (B (decide (a=b))):=by
 have h1:=ZvG a b
 generalize decide (a=b)=t at*
 refine Pm Tryz.func71 λhfit=> ?_
 simp[Tryz.f71]
 exact WW
theorem Zoi (a b:List RowR) (R:Zas a):Zb Tryz.prog 43 [encL RowR.enc a,encL RowR.enc b] (B (decide (a=b))):=by
 by_cases h:a=b
 ·subst h;simpa using Zsw a R
 ·rw[decide_eq_false h];exact Zsz a b R h
end Go.Proofs.YtgpkaoombhobmaaGreat
