import Derived.Test.YtgpkaoombhobmaaGreatChecked
import Derived.Test.YtgpkaoombhobmaaGreatKTab
import Derived.Test.YtgpkaoombhobmaaGreatKBe
import Derived.Test.YtgpkaoombhobmaaGreatKBd
import Derived.Test.YtgpkaoombhobmaaGreatKShelf
import Derived.Test.YtgpkaoombhobmaaGreatKP1
import Derived.Test.YtgpkaoombhobmaaGreatKW1
set_option linter.unusedVariables false
set_option linter.unusedSimpArgs false
namespace Go.Proofs.YtgpkaoombhobmaaGreat
open Go.Cx Tab
set_option maxHeartbeats 400000
set_option maxRecDepth 40000
theorem keyR_ok (n:RowR):Zd Tryz.prog 126 [.agg n.enc] (I n.client):=by
 refine Pm Tryz.func126 λhfit=> ?_
 simp[Tryz.f126,RowR.enc]
abbrev byR:AV:= .fn 172 [.fp [.fn 126 []]]
theorem ZeP (n:RowR) (k:Int):Zd Tryz.prog 172 [.agg n.enc,I k,.fp [.fn 126 []]] (I (Lib.compareInt n.client k)):=by
 refine Pm Tryz.func172 λhfit=> ?_
 simp[Tryz.f172,RowR.enc]
 have s_:= @RowR.enc.eq_1
 have p1_:=keyR_ok n
 have p2_:=Zeo n.client k
 exact WW
abbrev atR (l:List RowR) (i:Nat):Int:=(l.getD i .zero).client
theorem ZnU (l:List RowR) (k:Int) (hl:l.length<=1000000):Zd Tryz.prog 171 [encL RowR.enc l,I k,byR] (.tup [I (bsGo (atR l) k 0 l.length),B (decide (bsGo (atR l) k 0 l.length<l.length)&&decide (atR l (bsGo (atR l) k 0 l.length)=k))]):=by
 refine Pm Tryz.func171 λhfit=> ?_
 simp at hfit
 simp[Tryz.f171]
 refine AW.loopG (lit:=λ_=>false) (λx:Nat×Nat=>⟨49,pat [(0,encL RowR.enc l),(1,I k),(2,byR),(8,I l.length),(9,I x.1),(10,I x.2)],[]⟩) (λx=>x.2 -x.1) (λx=>x.1<=x.2/\x.2<=l.length/\bsGo (atR l) k x.1 x.2=bsGo (atR l) k 0 l.length) (0,l.length) ?_ ?_ ?_
 ·exact Wk.at _ rfl rfl (by simp)
 ·simp
 rintro⟨i,j⟩ ⟨h1,h2,h3⟩ A hA
 simp only at h1 h2 h3
 have hat:∀m (h:m<l.length),atR l m=(l[m]).client:=λm h=>by simp[atR,List.getD_eq_getElem?_getD,h]
 by_cases h:i<j
 case neg=>
  have hij:i=j:=by omega
  subst hij
  rw[ZdB h] at h3
  by_cases hi:i<l.length
  ·have e1:=hat i hi
   have s_:=An @h (An @hi (An (Eq.symm (h3)) (An @cmp_eq (An @RowR.enc.eq_1 (@e1)))))
   have p1_:=ZeP l[i] k
   exact WW
  ·have s_:=An @h (An @hi (Eq.symm (h3)))
   exact WW
 rw[ZdA h] at h3
 have hm:(i+j)/2<l.length:=by omega
 have e1:=hat _ hm
 have w1:IntKind.i64.wrap ((i:Int)+j)=(i:Int)+j:=Zg (by omega) (by omega)
 have w2:((i:Int)+j)%18446744073709551616=(i:Int)+j:=by omega
 have w3:((i:Int)+j).fdiv 2=(((i+j)/2:Nat):Int):=by rw[Int.fdiv_eq_ediv_of_nonneg _ (by omega)];omega
 have w4:IntKind.i64.wrap (((i+j)/2:Nat):Int)=(((i+j)/2:Nat):Int):=Zg (by omega) (by omega)
 generalize hmm:(i+j)/2=m at*
 have w5:IntKind.i64.wrap ((m:Int)+1)=((m+1:Nat):Int):=by rw[Zg (by omega) (by omega)];omega
 have hk:atR l m<k\/¬atR l m<k:=Classical.em _
 rcases hk with hk|hk
 ·rw[if_pos hk] at h3
  rw[e1] at hk
  have s_:=An @h (An @w1 (An @w2 (An @w3 (An @w4 (An @w5 (An @hm (An @cmp_lt (An @RowR.enc.eq_1 (@hk)))))))))
  have q1_:=λs w=>hA (m+1,j) s w ⟨by simp only;omega,h2,h3⟩ (by simp only;omega)
  have p1_:=ZeP l[m] k
  exact WW
 ·rw[if_neg hk] at h3
  rw[e1] at hk
  have s_:=An @h (An @w1 (An @w2 (An @w3 (An @w4 (An @w5 (An @hm (An @cmp_lt (An @RowR.enc.eq_1 (@hk)))))))))
  have q1_:=λs w=>hA (i,m) s w ⟨by simp only;omega,by simp only;omega,h3⟩ (by simp only;omega)
  have p1_:=ZeP l[m] k
  exact WW
theorem Zxa (l:List RowR) (k:Int) (hr:Zo RowR.client l=true) (hl:l.length<=1000000):Zd Tryz.prog 140 [encL RowR.enc l,I k,.fn 126 []] (.tup [I (placeS RowR.client l k),B (ZZ RowR.client l k).isSome]):=by
 have h1:=ZnU l k hl
 have hat:∀m (h:m<l.length),atR l m=(l[m]).client:=λm h=>by simp[atR,List.getD_eq_getElem?_getD,h]
 rw[Zfl RowR.client hr hat k] at h1
 have e:(decide (placeS RowR.client l k<l.length)&&decide (atR l (placeS RowR.client l k)=k))=(ZZ RowR.client l k).isSome:=by
  cases hf:ZZ RowR.client l k with
  |some x=>
   obtain⟨hp,e⟩:=Zav RowR.client hr hf
   rw[hat _ hp,e]
   simp[hp,(Zn RowR.client hf).2]
  |none=>
   by_cases hp:placeS RowR.client l k<l.length
   ·have:=ZcN RowR.client hr hf hp
    rw[hat _ hp]
    simp[this]
   ·simp[hp]
 rw[e] at h1
 refine Pm Tryz.func140 λhfit=> ?_
 simp[Tryz.f140]
 exact WW
theorem cloneR_ok (l:List RowR) (hl:l.length<=1000000):XCall Tryz.prog 173 [encL RowR.enc l] [] (.own 0 0 0 l.length 4) [.cells 0 (l.flatMap RowR.enc)]:=by
 refine XCall.mkE 4 (λ_=>false) Tryz.func173 rfl rfl rfl (Ent.mk Tryz.func173 (by kernel_rfl) rfl) (by simp) (by simp) (by simp) (by simp) (by simp) λhfit=> ?_
 simp at hfit
 simp[Tryz.f173]
 rw[if_pos (by simp only[maxLen];omega)]
 simp
 intro h0
 subst h0
 simp
theorem keyD_ok (n:DecisionR):Zd Tryz.prog 75 [.agg n.enc] (I n.seq):=by
 refine Pm Tryz.func75 λhfit=> ?_
 simp[Tryz.f75,DecisionR.enc]
abbrev byD:AV:= .fn 142 [.fp [.fn 75 []]]
theorem ZeQ (n:DecisionR) (k:Int):Zd Tryz.prog 142 [.agg n.enc,I k,.fp [.fn 75 []]] (I (Lib.compareInt n.seq k)):=by
 refine Pm Tryz.func142 λhfit=> ?_
 simp[Tryz.f142,DecisionR.enc]
 have s_:= @DecisionR.enc.eq_1
 have p1_:=keyD_ok n
 have p2_:=Zeo n.seq k
 exact WW
abbrev atD (l:List DecisionR) (i:Nat):Int:=(l.getD i .zero).seq
theorem ZnV (l:List DecisionR) (k:Int) (hl:l.length<=1000000):Zd Tryz.prog 141 [encL DecisionR.enc l,I k,byD] (.tup [I (bsGo (atD l) k 0 l.length),B (decide (bsGo (atD l) k 0 l.length<l.length)&&decide (atD l (bsGo (atD l) k 0 l.length)=k))]):=by
 refine Pm Tryz.func141 λhfit=> ?_
 simp at hfit
 simp[Tryz.f141]
 refine AW.loopG (lit:=λ_=>false) (λx:Nat×Nat=>⟨49,pat [(0,encL DecisionR.enc l),(1,I k),(2,byD),(8,I l.length),(9,I x.1),(10,I x.2)],[]⟩) (λx=>x.2 -x.1) (λx=>x.1<=x.2/\x.2<=l.length/\bsGo (atD l) k x.1 x.2=bsGo (atD l) k 0 l.length) (0,l.length) ?_ ?_ ?_
 ·exact Wk.at _ rfl rfl (by simp)
 ·simp
 rintro⟨i,j⟩ ⟨h1,h2,h3⟩ A hA
 simp only at h1 h2 h3
 have hat:∀m (h:m<l.length),atD l m=(l[m]).seq:=λm h=>by simp[atD,List.getD_eq_getElem?_getD,h]
 by_cases h:i<j
 case neg=>
  have hij:i=j:=by omega
  subst hij
  rw[ZdB h] at h3
  by_cases hi:i<l.length
  ·have e1:=hat i hi
   have s_:=An @h (An @hi (An (Eq.symm (h3)) (An @cmp_eq (An @DecisionR.enc.eq_1 (@e1)))))
   have p1_:=ZeQ l[i] k
   exact WW
  ·have s_:=An @h (An @hi (Eq.symm (h3)))
   exact WW
 rw[ZdA h] at h3
 have hm:(i+j)/2<l.length:=by omega
 have e1:=hat _ hm
 have w1:IntKind.i64.wrap ((i:Int)+j)=(i:Int)+j:=Zg (by omega) (by omega)
 have w2:((i:Int)+j)%18446744073709551616=(i:Int)+j:=by omega
 have w3:((i:Int)+j).fdiv 2=(((i+j)/2:Nat):Int):=by rw[Int.fdiv_eq_ediv_of_nonneg _ (by omega)];omega
 have w4:IntKind.i64.wrap (((i+j)/2:Nat):Int)=(((i+j)/2:Nat):Int):=Zg (by omega) (by omega)
 generalize hmm:(i+j)/2=m at*
 have w5:IntKind.i64.wrap ((m:Int)+1)=((m+1:Nat):Int):=by rw[Zg (by omega) (by omega)];omega
 have hk:atD l m<k\/¬atD l m<k:=Classical.em _
 rcases hk with hk|hk
 ·rw[if_pos hk] at h3
  rw[e1] at hk
  have s_:=An @h (An @w1 (An @w2 (An @w3 (An @w4 (An @w5 (An @hm (An @cmp_lt (An @DecisionR.enc.eq_1 (@hk)))))))))
  have q1_:=λs w=>hA (m+1,j) s w ⟨by simp only;omega,h2,h3⟩ (by simp only;omega)
  have p1_:=ZeQ l[m] k
  exact WW
 ·rw[if_neg hk] at h3
  rw[e1] at hk
  have s_:=An @h (An @w1 (An @w2 (An @w3 (An @w4 (An @w5 (An @hm (An @cmp_lt (An @DecisionR.enc.eq_1 (@hk)))))))))
  have q1_:=λs w=>hA (i,m) s w ⟨by simp only;omega,by simp only;omega,h3⟩ (by simp only;omega)
  have p1_:=ZeQ l[m] k
  exact WW
theorem Zps (l:List DecisionR) (k:Int) (hr:Zo DecisionR.seq l=true) (hl:l.length<=1000000):Zd Tryz.prog 74 [encL DecisionR.enc l,I k,.fn 75 []] (.tup [I (placeS DecisionR.seq l k),B (ZZ DecisionR.seq l k).isSome]):=by
 have h1:=ZnV l k hl
 have hat:∀m (h:m<l.length),atD l m=(l[m]).seq:=λm h=>by simp[atD,List.getD_eq_getElem?_getD,h]
 rw[Zfl DecisionR.seq hr hat k] at h1
 have e:(decide (placeS DecisionR.seq l k<l.length)&&decide (atD l (placeS DecisionR.seq l k)=k))=(ZZ DecisionR.seq l k).isSome:=by
  cases hf:ZZ DecisionR.seq l k with
  |some x=>
   obtain⟨hp,e⟩:=Zav DecisionR.seq hr hf
   rw[hat _ hp,e]
   simp[hp,(Zn DecisionR.seq hf).2]
  |none=>
   by_cases hp:placeS DecisionR.seq l k<l.length
   ·have:=ZcN DecisionR.seq hr hf hp
    rw[hat _ hp]
    simp[this]
   ·simp[hp]
 rw[e] at h1
 refine Pm Tryz.func74 λhfit=> ?_
 simp[Tryz.f74]
 exact WW
theorem cloneD_ok (l:List DecisionR) (hl:l.length<=1000000):XCall Tryz.prog 146 [encL DecisionR.enc l] [] (.own 0 0 0 l.length 2) [.cells 0 (l.flatMap DecisionR.enc)]:=by
 refine XCall.mkE 2 (λ_=>false) Tryz.func146 rfl rfl rfl (Ent.mk Tryz.func146 (by kernel_rfl) rfl) (by simp) (by simp) (by simp) (by simp) (by simp) λhfit=> ?_
 simp at hfit
 simp[Tryz.f146]
 rw[if_pos (by simp only[maxLen];omega)]
 simp
 intro h0
 subst h0
 simp
theorem Zrr (l:List RowR) (i:Nat) (x:RowR) (hi:i<=l.length) (hl:l.length<=1000000):XCall Tryz.prog 174 [.own 0 0 0 l.length 4,I i,.sl true 1 x.enc] [.cells 0 (l.flatMap RowR.enc)] (.own 0 1 0 (l.length+1) 4) [.cells 1 ((insL l i x).flatMap RowR.enc)]:=by
 by_cases hi2:i=l.length
 case pos=>
  subst hi2
  refine XCall.mkG (λs (_:Unit)=>s) (λ_=>false) Tryz.func174 rfl rfl rfl (Ent.mk Tryz.func174 (by kernel_rfl) rfl) (by simp) (by simp) (by simp) (by simp) (by simp) λhfit=> ?_
  refine⟨WkE.one _ _,λ_=> ?_⟩
  simp[Tryz.f174]
  rw[if_pos (by simp only[maxLen];omega)]
  simp
  exact⟨_,Wk.refl _ _,by simp[Zed]⟩
 have hi3:i<l.length:=by omega
 have hcp:∀cap,l.length<=cap->(l.length*4+(cap*4 -l.length*4))/4=cap:=λcap h=>by omega
 have hw1:IntKind.i64.wrap ((l.length:Int)+1)=((l.length+1:Nat):Int):=by rw[Zg (by omega) (by omega)];omega
 have hw2:IntKind.i64.wrap ((i:Int)+1)=((i+1:Nat):Int):=by rw[Zg (by omega) (by omega)];omega
 have hw3:IntKind.i64.wrap ((l.length:Int)+1 -i)=((l.length+1 -i:Nat):Int):=by rw[Zg (by omega) (by omega)];omega
 have hw4:((i:Int)+((l.length+1 -i:Nat):Int)).toNat=l.length+1:=by omega
 have hm1:min 1 (l.length+1 -i)=1:=by omega
 have hm2:∀cap,l.length<=cap->min (i*4) (l.length*4+(cap*4 -l.length*4))=i*4:=λcap h=>by omega
 have hov:∀(lb:Nat) (h:Za) (y:ABlk) (Q:AV->Za->Prop),h[0]? =some y->(blkCells y).map (·.1)=some 0->Q (B false) h->AInv Tryz.prog (.fn 203 []) [.sl true 1 x.enc,.own 0 0 (i+1) lb 4] h Q:=λlb h y Q hy hv hq=>
  ZbA Tryz.func203 (by kernel_rfl) rfl (by kernel_rfl) rfl rfl (by kernel_rfl) (k:=4) (by kernel_rfl) true 1 _ _ 0 0 (i+1) lb hy hv (by omega) Q hq
 refine XCall.mkG (λs (cap:{cap:Nat//l.length<=cap/\cap<=maxLen})=>Zcl s 0 0 4 (l.flatMap RowR.enc) cap.1) (λ_=>false) Tryz.func174 rfl rfl rfl (Ent.mk Tryz.func174 (by kernel_rfl) rfl) (by simp) (by simp) (by simp) (by simp) (by simp) λhfit=> ?_
 refine⟨WkE.full (t:=0) (by simp) (by simp) (by omega) (by simp),?_⟩
 rintro⟨cap,hc1,hc2⟩
 have hcp1:=hcp cap hc1
 have hm3:=hm2 cap hc1
 have hi4:¬i=l.length:=by omega
 have hle:i<=l.length:=by omega
 generalize hA:List.replicate (cap*4 -l.length*4) AV.any=A
 have hAl:A.length=cap*4 -l.length*4:=by rw[<-hA];simp
 have hLl:(l.flatMap RowR.enc).length=l.length*4:=Zoz l
 have hta:(l.flatMap RowR.enc++A).take (i*4)=(l.flatMap RowR.enc).take (i*4):=List.take_append_of_le_length (by rw[hLl];omega)
 have hdr:(l.flatMap RowR.enc).drop (i*4)=(l.drop i).flatMap RowR.enc:=ZpY l i
 have hq0:(l.flatMap RowR.enc++A).drop (i*4)=(l.drop i).flatMap RowR.enc++A:=by rw[List.drop_append_of_le_length (by rw[hLl];omega),hdr]
 have hdl:((l.drop i).flatMap RowR.enc).length=l.length*4 -i*4:=by rw[Zoz,List.length_drop];omega
 by_cases hr:l.length+1<=cap
 ·have hm4:min (l.length+1 -i) (l.length -i)=l.length -i:=by omega
  have hm5:min ((l.length+1 -i)*4) ((l.length -i)*4+(cap*4 -l.length*4))=(l.length+1 -i)*4:=by omega
  have hm6:min ((l.length+1 -i)*4) (l.length*4+(cap*4 -l.length*4) -i*4)=(l.length+1 -i)*4:=by omega
  have hq1:List.take ((l.length -i)*4) (List.take ((l.length+1 -i)*4) ((l.drop i).flatMap RowR.enc++A))=(l.drop i).flatMap RowR.enc:=by
   rw[List.take_take,Nat.min_eq_left (by omega),List.take_left' (by rw[hdl];omega)]
  have hq2:(putAt (l.flatMap RowR.enc++A) ((i+1)*4) ((l.drop i).flatMap RowR.enc)).length=cap*4:=by
   rw[ZD (by rw[List.length_append,hLl,hAl,hdl];omega),List.length_append,hLl,hAl];omega
  have hq3:(putAt (putAt (l.flatMap RowR.enc++A) ((i+1)*4) ((l.drop i).flatMap RowR.enc)) (i*4) x.enc).take ((l.length+1)*4)=(insL l i x).flatMap RowR.enc:=by
   have:=Zeb (L:=l.flatMap RowR.enc) (A:=A) (X:=x.enc) (a:=i*4) (k:=4) hLl (by omega) rfl (by rw[hAl];omega)
   rw[ZoD,hq0,List.take_left' (by rw[hdl])] at this
   rw[show(i+1)*4=i*4+4 by omega,show(l.length+1)*4=l.length*4+4 by omega]
   exact this
  have hone:∀y∈(l.drop i).flatMap RowR.enc,Zy y=true:=List.all_eq_true.1 (Zoy _)
  simp[Tryz.f174,Zcl,hA]
  have s_:=An @hcp1 (An @hw1 (An @hw2 (An @hw3 (An @hw4 (An @hm1 (An @hm3 (An @hm4 (An @hq0 (An @hq1 (An @hq2 (An @hi3 (An @hi4 (An @hle (@hr))))))))))))))
  try simp[s_]
  repeat' ((first|((first|refine Tp ?_|refine Tn ?_|refine T2 ?_ ?_)<;>intro h_ e_ n_)|(refine hov _ _ _ _ rfl rfl ?_;simp)|(refine optBif ⟨rfl,by rw[List.length_append,hLl,hAl];omega,by rw[List.length_take,List.length_append,hdl,hAl];omega,by rw[hm4,hq1];exact hone⟩ ?_;simp)|refine Dg 11 9 [] [] ?_|refine Dg 15 9 [] [] ?_|rw[Ip]|rw[In]|rw[Fz]|rw[Gz]|fail)<;>first|simp[e_,n_,s_]|simp[s_]|skip)
  exact⟨_,Wk.trans (Wk.prefix 0 0 ((l.length+1)*4) rfl rfl) (Wk.bump 6 0 0 0 (l.length+1) 4 (by simp) rfl),by simp[hq3]⟩
 ·have hm5:min ((l.length -i)*4) ((l.length -i)*4+(cap*4 -l.length*4))=(l.length -i)*4:=by omega
  have hq1:List.take ((l.length -i)*4) (List.take ((l.length -i)*4) ((l.drop i).flatMap RowR.enc++A))=(l.drop i).flatMap RowR.enc:=by
   rw[List.take_take,Nat.min_self,List.take_left' (by rw[hdl];omega)]
  have hq4:List.take ((l.length -i)*4) ((l.drop i).flatMap RowR.enc)=(l.drop i).flatMap RowR.enc:=List.take_of_length_le (by rw[hdl];omega)
  have hone:∀y∈(l.drop i).flatMap RowR.enc,Zy y=true:=List.all_eq_true.1 (Zoy _)
  simp[Tryz.f174,Zcl,hA]
  generalize hZ:(List.replicate (l.length+1 -i) [AV.val (Value.int IntKind.i64 0),AV.val (Value.int IntKind.i64 0),AV.val (Value.int IntKind.i64 0),AV.sl true 0 []]).flatten=Z
  have hZl:Z.length=(l.length+1 -i)*4:=by rw[<-hZ];simp
  have hta':((l.flatMap RowR.enc).take (i*4)).length=i*4:=by rw[List.length_take,hLl];omega
  have hq2:(putAt ((l.flatMap RowR.enc).take (i*4)++Z) (i*4) x.enc).length=(l.length+1)*4:=by
   rw[ZD (by rw[List.length_append,hta',hZl,ZsT];omega),List.length_append,hta',hZl];omega
  have hq3:putAt (putAt ((l.flatMap RowR.enc).take (i*4)++Z) (i*4) x.enc) ((i+1)*4) ((l.drop i).flatMap RowR.enc)=(insL l i x).flatMap RowR.enc:=by
   have:=Zec (L:=l.flatMap RowR.enc) (A:=A) (X:=x.enc) (Z:=Z) (a:=i*4) (k:=4) hLl (by omega) rfl (by rw[hZl];omega)
   rw[ZoD,hta,hq0,List.take_left' (by rw[hdl])] at this
   rw[show(i+1)*4=i*4+4 by omega]
   exact this
  have s_:=An @hcp1 (An @hw1 (An @hw2 (An @hw3 (An @hw4 (An @hm1 (An @hm3 (An @hq0 (An @hq1 (An @hq4 (An @hta (An @hZ (An @hi3 (An @hi4 (An @hle (@hr)))))))))))))))
  try simp[s_]
  repeat' ((first|((first|refine Tp ?_|refine Tn ?_|refine T2 ?_ ?_)<;>intro h_ e_ n_)|(refine optBif ⟨by rw[hq2];omega,hone⟩ ?_;simp)|refine Dg 11 9 [] [] ?_|refine Dg 15 9 [] [] ?_|rw[Ip]|rw[In]|rw[Fz]|rw[Gz]|fail)<;>first|simp[e_,n_,s_]|simp[s_]|skip)
  exact⟨_,Wk.move 6 0 1 0 0 (l.length+1) 4 (by decide) (by simp;omega) rfl rfl rfl,by simp[hq3]⟩
theorem Zrs (l:List DecisionR) (i:Nat) (x:DecisionR) (hi:i<=l.length) (hl:l.length<=1000000):XCall Tryz.prog 213 [.own 0 0 0 l.length 2,I i,.sl true 1 x.enc] [.cells 0 (l.flatMap DecisionR.enc)] (.own 0 1 0 (l.length+1) 2) [.cells 1 ((insL l i x).flatMap DecisionR.enc)]:=by
 by_cases hi2:i=l.length
 case pos=>
  subst hi2
  refine XCall.mkG (λs (_:Unit)=>s) (λ_=>false) Tryz.func213 rfl rfl rfl (Ent.mk Tryz.func213 (by kernel_rfl) rfl) (by simp) (by simp) (by simp) (by simp) (by simp) λhfit=> ?_
  refine⟨WkE.one _ _,λ_=> ?_⟩
  simp[Tryz.f213]
  rw[if_pos (by simp only[maxLen];omega)]
  simp
  exact⟨_,Wk.refl _ _,by simp[Zed]⟩
 have hi3:i<l.length:=by omega
 have hcp:∀cap,l.length<=cap->(l.length*2+(cap*2 -l.length*2))/2=cap:=λcap h=>by omega
 have hw1:IntKind.i64.wrap ((l.length:Int)+1)=((l.length+1:Nat):Int):=by rw[Zg (by omega) (by omega)];omega
 have hw2:IntKind.i64.wrap ((i:Int)+1)=((i+1:Nat):Int):=by rw[Zg (by omega) (by omega)];omega
 have hw3:IntKind.i64.wrap ((l.length:Int)+1 -i)=((l.length+1 -i:Nat):Int):=by rw[Zg (by omega) (by omega)];omega
 have hw4:((i:Int)+((l.length+1 -i:Nat):Int)).toNat=l.length+1:=by omega
 have hm1:min 1 (l.length+1 -i)=1:=by omega
 have hm2:∀cap,l.length<=cap->min (i*2) (l.length*2+(cap*2 -l.length*2))=i*2:=λcap h=>by omega
 have hov:∀(lb:Nat) (h:Za) (y:ABlk) (Q:AV->Za->Prop),h[0]? =some y->(blkCells y).map (·.1)=some 0->Q (B false) h->AInv Tryz.prog (.fn 244 []) [.sl true 1 x.enc,.own 0 0 (i+1) lb 2] h Q:=λlb h y Q hy hv hq=>
  ZbA Tryz.func244 (by kernel_rfl) rfl (by kernel_rfl) rfl rfl (by kernel_rfl) (k:=2) (by kernel_rfl) true 1 _ _ 0 0 (i+1) lb hy hv (by omega) Q hq
 refine XCall.mkG (λs (cap:{cap:Nat//l.length<=cap/\cap<=maxLen})=>Zcl s 0 0 2 (l.flatMap DecisionR.enc) cap.1) (λ_=>false) Tryz.func213 rfl rfl rfl (Ent.mk Tryz.func213 (by kernel_rfl) rfl) (by simp) (by simp) (by simp) (by simp) (by simp) λhfit=> ?_
 refine⟨WkE.full (t:=0) (by simp) (by simp) (by omega) (by simp),?_⟩
 rintro⟨cap,hc1,hc2⟩
 have hcp1:=hcp cap hc1
 have hm3:=hm2 cap hc1
 have hi4:¬i=l.length:=by omega
 have hle:i<=l.length:=by omega
 generalize hA:List.replicate (cap*2 -l.length*2) AV.any=A
 have hAl:A.length=cap*2 -l.length*2:=by rw[<-hA];simp
 have hLl:(l.flatMap DecisionR.enc).length=l.length*2:=Zfi l
 have hta:(l.flatMap DecisionR.enc++A).take (i*2)=(l.flatMap DecisionR.enc).take (i*2):=List.take_append_of_le_length (by rw[hLl];omega)
 have hdr:(l.flatMap DecisionR.enc).drop (i*2)=(l.drop i).flatMap DecisionR.enc:=Zcd l i
 have hq0:(l.flatMap DecisionR.enc++A).drop (i*2)=(l.drop i).flatMap DecisionR.enc++A:=by rw[List.drop_append_of_le_length (by rw[hLl];omega),hdr]
 have hdl:((l.drop i).flatMap DecisionR.enc).length=l.length*2 -i*2:=by rw[Zfi,List.length_drop];omega
 by_cases hr:l.length+1<=cap
 ·have hm4:min (l.length+1 -i) (l.length -i)=l.length -i:=by omega
  have hm5:min ((l.length+1 -i)*2) ((l.length -i)*2+(cap*2 -l.length*2))=(l.length+1 -i)*2:=by omega
  have hm6:min ((l.length+1 -i)*2) (l.length*2+(cap*2 -l.length*2) -i*2)=(l.length+1 -i)*2:=by omega
  have hq1:List.take ((l.length -i)*2) (List.take ((l.length+1 -i)*2) ((l.drop i).flatMap DecisionR.enc++A))=(l.drop i).flatMap DecisionR.enc:=by
   rw[List.take_take,Nat.min_eq_left (by omega),List.take_left' (by rw[hdl];omega)]
  have hq2:(putAt (l.flatMap DecisionR.enc++A) ((i+1)*2) ((l.drop i).flatMap DecisionR.enc)).length=cap*2:=by
   rw[ZD (by rw[List.length_append,hLl,hAl,hdl];omega),List.length_append,hLl,hAl];omega
  have hq3:(putAt (putAt (l.flatMap DecisionR.enc++A) ((i+1)*2) ((l.drop i).flatMap DecisionR.enc)) (i*2) x.enc).take ((l.length+1)*2)=(insL l i x).flatMap DecisionR.enc:=by
   have:=Zeb (L:=l.flatMap DecisionR.enc) (A:=A) (X:=x.enc) (a:=i*2) (k:=2) hLl (by omega) rfl (by rw[hAl];omega)
   rw[Zfj,hq0,List.take_left' (by rw[hdl])] at this
   rw[show(i+1)*2=i*2+2 by omega,show(l.length+1)*2=l.length*2+2 by omega]
   exact this
  have hone:∀y∈(l.drop i).flatMap DecisionR.enc,Zy y=true:=List.all_eq_true.1 (ZbS _)
  simp[Tryz.f213,Zcl,hA]
  have s_:=An @hcp1 (An @hw1 (An @hw2 (An @hw3 (An @hw4 (An @hm1 (An @hm3 (An @hm4 (An @hq0 (An @hq1 (An @hq2 (An @hi3 (An @hi4 (An @hle (@hr))))))))))))))
  try simp[s_]
  repeat' ((first|((first|refine Tp ?_|refine Tn ?_|refine T2 ?_ ?_)<;>intro h_ e_ n_)|(refine hov _ _ _ _ rfl rfl ?_;simp)|(refine optBif ⟨rfl,by rw[List.length_append,hLl,hAl];omega,by rw[List.length_take,List.length_append,hdl,hAl];omega,by rw[hm4,hq1];exact hone⟩ ?_;simp)|refine Dg 11 9 [] [] ?_|refine Dg 15 9 [] [] ?_|rw[Ip]|rw[In]|rw[Fz]|rw[Gz]|fail)<;>first|simp[e_,n_,s_]|simp[s_]|skip)
  exact⟨_,Wk.trans (Wk.prefix 0 0 ((l.length+1)*2) rfl rfl) (Wk.bump 6 0 0 0 (l.length+1) 2 (by simp) rfl),by simp[hq3]⟩
 ·have hm5:min ((l.length -i)*2) ((l.length -i)*2+(cap*2 -l.length*2))=(l.length -i)*2:=by omega
  have hq1:List.take ((l.length -i)*2) (List.take ((l.length -i)*2) ((l.drop i).flatMap DecisionR.enc++A))=(l.drop i).flatMap DecisionR.enc:=by
   rw[List.take_take,Nat.min_self,List.take_left' (by rw[hdl];omega)]
  have hq4:List.take ((l.length -i)*2) ((l.drop i).flatMap DecisionR.enc)=(l.drop i).flatMap DecisionR.enc:=List.take_of_length_le (by rw[hdl];omega)
  have hone:∀y∈(l.drop i).flatMap DecisionR.enc,Zy y=true:=List.all_eq_true.1 (ZbS _)
  simp[Tryz.f213,Zcl,hA]
  generalize hZ:(List.replicate (l.length+1 -i) [AV.val (Value.int IntKind.i64 0),AV.val (Value.bool false)]).flatten=Z
  have hZl:Z.length=(l.length+1 -i)*2:=by rw[<-hZ];simp
  have hta':((l.flatMap DecisionR.enc).take (i*2)).length=i*2:=by rw[List.length_take,hLl];omega
  have hq2:(putAt ((l.flatMap DecisionR.enc).take (i*2)++Z) (i*2) x.enc).length=(l.length+1)*2:=by
   rw[ZD (by rw[List.length_append,hta',hZl,Zix];omega),List.length_append,hta',hZl];omega
  have hq3:putAt (putAt ((l.flatMap DecisionR.enc).take (i*2)++Z) (i*2) x.enc) ((i+1)*2) ((l.drop i).flatMap DecisionR.enc)=(insL l i x).flatMap DecisionR.enc:=by
   have:=Zec (L:=l.flatMap DecisionR.enc) (A:=A) (X:=x.enc) (Z:=Z) (a:=i*2) (k:=2) hLl (by omega) rfl (by rw[hZl];omega)
   rw[Zfj,hta,hq0,List.take_left' (by rw[hdl])] at this
   rw[show(i+1)*2=i*2+2 by omega]
   exact this
  have s_:=An @hcp1 (An @hw1 (An @hw2 (An @hw3 (An @hw4 (An @hm1 (An @hm3 (An @hq0 (An @hq1 (An @hq4 (An @hta (An @hZ (An @hi3 (An @hi4 (An @hle (@hr)))))))))))))))
  try simp[s_]
  repeat' ((first|((first|refine Tp ?_|refine Tn ?_|refine T2 ?_ ?_)<;>intro h_ e_ n_)|(refine optBif ⟨by rw[hq2];omega,hone⟩ ?_;simp)|refine Dg 11 9 [] [] ?_|refine Dg 15 9 [] [] ?_|rw[Ip]|rw[In]|rw[Fz]|rw[Gz]|fail)<;>first|simp[e_,n_,s_]|simp[s_]|skip)
  exact⟨_,Wk.move 6 0 1 0 0 (l.length+1) 2 (by decide) (by simp;omega) rfl rfl rfl,by simp[hq3]⟩
theorem Zrt (l:List DecisionR) (g:FuncId) (cap:List AV) (p:DecisionR->Bool) (hcap:cap.all neat=true) (hp:∀x∈l,Zd Tryz.prog g (.agg x.enc::cap) (B (p x))) (hl:l.length<=1000000):Zd Tryz.prog 175 [encL DecisionR.enc l,.fn g cap] (I (idxS p l)):=by
 refine Zd.mk (λ_=>false) Tryz.func175 rfl rfl rfl (Ent.mk Tryz.func175 (by kernel_rfl) rfl) (by simp[hcap]) (by simp) λhfit=> ?_
 simp at hfit
 simp[Tryz.f175]
 refine AW.loopG (lit:=λ_=>false) (λi:Nat=>⟨19,pat [(0,encL DecisionR.enc l),(1,.fn g cap),(7,I l.length),(8,I i)],[]⟩) (λi=>l.length -i) (λi=>i<=l.length/\ZaR p i (l.drop i)=idxS p l) 0 ?_ ?_ ?_
 ·exact Wk.at _ rfl rfl (by simp)
 ·simp[idxS]
 rintro i ⟨h1,h2⟩ A hA
 by_cases hi:i<l.length
 case neg=>
  rw[Zce hi] at h2
  have s_:=An @hi (Eq.symm (h2))
  exact WW
 rw[ZcM hi] at h2
 have hw:=Zf hi hfit.1.1
 have hpi:=hp l[i] (List.getElem_mem hi)
 cases hpp:p l[i] with
 |true=>
  rw[hpp] at hpi
  simp only[hpp,if_true] at h2
  have s_:=An @hi (An (Eq.symm (h2)) (@hpp))
  have p1_:=hpi
  exact WW
 |false=>
  rw[hpp] at hpi
  simp only[hpp,Bool.false_eq_true,if_false] at h2
  have s_:=An @hi (An @hw (@hpp))
  try simp[s_]
  repeat' ((first|((first|refine Tp ?_|refine Tn ?_|refine T2 ?_ ?_)<;>intro h_ e_ n_)|(exact hA (i+1) _ Wa ⟨by omega,h2⟩ (by omega))|refine Pg hpi ?_|refine Dg 11 9 [] [] ?_|refine Dg 15 9 [] [] ?_|rw[Ip]|rw[In]|rw[Fz]|rw[Gz]|fail)<;>first|simp[e_,n_,s_]|simp[s_]|skip)
theorem ZnW (l:List DecisionR) (g:FuncId) (cap cap':List AV) (hc:Za) (p:DecisionR->Bool) (hcap:cap'.all neat=true) (hcr:cap.all (refsLt (hc.length+1))=true) (hhc:hc.all (ABlk.refsLt (hc.length+1))=true) (hfr:∀(f:Nat) (b0:ABlk) (tl:Za),frzs (b0::(hc++tl)) 0 (f+3) cap=some cap')
  (hp:∀x∈l,Zd Tryz.prog g (.agg x.enc::cap') (B (p x))) (hl:l.length<=1000000):XCall Tryz.prog 145 [.own 0 0 0 l.length 2,.fn g cap] (.cells 0 (l.flatMap DecisionR.enc)::hc) (.own 0 0 0 (l.filter λx=> !p x).length 2) (.cells 0 ((l.filter λx=> !p x).flatMap DecisionR.enc)::hc):=by
 refine XCall.mkG (λs (_:Unit)=>s) (λ_=>false) Tryz.func145 rfl rfl rfl (Ent.mk Tryz.func145 (by kernel_rfl) rfl) (by simp;simpa using hcr) (by simp;simpa using hhc) (by simp) (by simp) (by simp;simpa using hhc) λhfit=> ?_
 refine⟨WkE.one _ _,λ_=> ?_⟩
 have hix:=Zrt l g cap' p hcap hp hl
 have hfz:∀(v:AV) (b0:ABlk) (tl:Za),neat v=true->(([v]++cap).mapM (frz (b0::(hc++tl)) 0 12))=some (v::cap'):=λv b0 tl hv=>by
  have h2:cap.mapM (frz (b0::(hc++tl)) 0 12)=some cap':=hfr 9 b0 tl
  rw[List.singleton_append,List.mapM_cons,ZbR _ _ _ hv,h2];rfl
 have hlend:∀{Q:AV->Za->Prop},Q (I (idxS p l)) (.cells 0 (l.flatMap DecisionR.enc)::hc)->AInv Tryz.prog (.fn 175 []) [.own 0 0 0 l.length 2,.fn g cap] (.cells 0 (l.flatMap DecisionR.enc)::hc) Q:=λhq=>
  AInv.lend hix rfl (by
   have:=hfr 8 (.cells 0 (l.flatMap DecisionR.enc)) []
   rw[List.append_nil] at this
   rw[List.append_nil,List.mapM_cons,List.mapM_cons,List.mapM_nil,ZmI,List.getElem?_cons_zero,Zae (by simp) (by simp),Zsp,this]
   rfl) hq
 have hzs:∀x:DecisionR,setMany [AV.val (Value.int IntKind.i64 0),AV.val (Value.bool false)] 0 x.enc=x.enc:=λ_=>rfl
 by_cases h0:idxS p l= -1
 ·obtain⟨e1,_⟩:=Zfm h0
  simp[Tryz.f145]
  have s_:=h0
  try simp[s_]
  repeat' ((first|((first|refine Tp ?_|refine Tn ?_|refine T2 ?_ ?_)<;>intro h_ e_ n_)|(refine hlend ?_;simp[h0])|refine Dg 11 9 [] [] ?_|refine Dg 15 9 [] [] ?_|rw[Ip]|rw[In]|rw[Fz]|rw[Gz]|fail)<;>first|simp[e_,n_,s_]|simp[s_]|skip)
  exact⟨_,Wk.refl _ _,by simp[e1]⟩
 obtain⟨j0,hj0,e1,e2,e3⟩:=Zfn h0
 have hw0:IntKind.i64.wrap ((j0:Int)+1)=(j0:Int)+1:=Zg (by omega) (by omega)
 have hn0:¬((j0:Int)= -1):=by omega
 simp[Tryz.f145]
 have s_:=An @e1 (An @hw0 (@hn0))
 try simp[s_]
 repeat' ((first|((first|refine Tp ?_|refine Tn ?_|refine T2 ?_ ?_)<;>intro h_ e_ n_)|(refine hlend ?_;simp[e1,hw0,hn0])|refine Dg 11 9 [] [] ?_|refine Dg 15 9 [] [] ?_|rw[Ip]|rw[In]|rw[Fz]|rw[Gz]|fail)<;>first|simp[e_,n_,s_]|simp[s_]|skip)
 refine AW.loopG (lit:=λ_=>false) (λx:Nat×Nat×List DecisionR=>⟨42,pat [(0,.own 0 0 0 l.length 2),(1,.fn g cap),(5,I x.1),(6,I x.2.1)],.cells 0 (x.2.2.flatMap DecisionR.enc)::hc⟩) (λx=>l.length -x.2.1) (λx=>Zet p l x.2.2 x.1 x.2.1) (j0,j0+1,l) ?_ ?_ ?_
 ·exact Wk.at _ rfl rfl (by simp)
 ·exact .start hj0 e2 e3
 rintro⟨i,j,m⟩ hd A hA
 simp only at hd hA
 have hml:=hd.len
 by_cases hj:j<l.length
 case neg=>
  obtain⟨d1,d2,d3⟩:=hd.done hj
  have s_:=An @hj (@hml)
  try simp[s_]
  repeat' ((first|((first|refine Tp ?_|refine Tn ?_|refine T2 ?_ ?_)<;>intro h_ e_ n_)|refine Dg 11 9 [] [] ?_|refine Dg 15 9 [] [] ?_|rw[Ip]|rw[In]|rw[Fz]|rw[Gz]|fail)<;>first|simp[e_,n_,s_]|simp[s_]|skip)
  exact⟨_,Wk.prefix 0 0 (i*2) rfl rfl,by simp[d2],by
   have:(putAt (m.flatMap DecisionR.enc) (i*2) (zeros [AV.val (Value.int IntKind.i64 0),AV.val (Value.bool false)] (l.length -i))).take (i*2)=(m.take i).flatMap DecisionR.enc:=by
    rw[<-Zht]
    unfold putAt
    rw[List.append_assoc,List.take_left' (by simp;omega)]
   simp only[zeros] at this
   simp[this,d1]⟩
 have hmj:=hd.get hj
 have hx:=hp l[j] (List.getElem_mem hj)
 have hw:IntKind.i64.wrap ((j:Int)+1)=((j+1:Nat):Int):=by rw[Zg (by omega) (by omega)];omega
 have hi:=hd.lt
 have hwi:IntKind.i64.wrap ((i:Int)+1)=((i+1:Nat):Int):=by rw[Zg (by omega) (by omega)];omega
 cases hpp:p l[j] with
 |true=>
  rw[hpp] at hx
  have hlx:∀(b0:ABlk) (tl:Za) {Q:AV->Za->Prop},Q (B true) (b0::(hc++tl))->AInv Tryz.prog (.fn g cap) [.agg l[j].enc] (b0::(hc++tl)) Q:=λb0 tl Q hq=>AInv.lend hx rfl (hfz _ b0 tl (by simp)) hq
  have s_:=An @hj (An @hml (An @hzs (An @hw (@hmj))))
  try simp[s_]
  repeat' ((first|((first|refine Tp ?_|refine Tn ?_|refine T2 ?_ ?_)<;>intro h_ e_ n_)|(refine hlx _ _ ?_;simp[hw])|(exact hA (i,j+1,m) _ (Wk.cutAt _ rfl (by simp) (by simp) (by simp;simpa using hhc) (by simp;simpa using hcr)) (hd.skip hj hpp) (by simp only;omega))|refine Dg 11 9 [] [] ?_|refine Dg 15 9 [] [] ?_|rw[Ip]|rw[In]|rw[Fz]|rw[Gz]|fail)<;>first|simp[e_,n_,s_]|simp[s_]|skip)
 |false=>
  rw[hpp] at hx
  have hlx:∀(b0:ABlk) (tl:Za) {Q:AV->Za->Prop},Q (B false) (b0::(hc++tl))->AInv Tryz.prog (.fn g cap) [.agg l[j].enc] (b0::(hc++tl)) Q:=λb0 tl Q hq=>AInv.lend hx rfl (hfz _ b0 tl (by simp)) hq
  have him:i<m.length:=by omega
  have hil:i<l.length:=by omega
  have s_:=An @hj (An @hml (An @hzs (An @hw (An @hwi (An @hmj (An @him (@hil)))))))
  try simp[s_]
  repeat' ((first|((first|refine Tp ?_|refine Tn ?_|refine T2 ?_ ?_)<;>intro h_ e_ n_)|(refine hlx _ _ ?_;simp[hw,hwi,hmj,him,hil])|(exact hA (i+1,j+1,m.set i l[j]) _ (Wk.cutAt _ rfl (by simp) (by simp) (by simp;simpa using hhc) (by simp;simpa using hcr)) (hd.keep hj hpp) (by simp only;omega))|refine Dg 11 9 [] [] ?_|refine Dg 15 9 [] [] ?_|rw[Ip]|rw[In]|rw[Fz]|rw[Gz]|fail)<;>first|simp[e_,n_,s_]|simp[s_]|skip)
theorem Zuz (l:List RowR) (c e n:Int) (h:badS c e n=true):Zd Tryz.prog 73 [encL RowR.enc l,I c,I e,I n] (.tup [.agg RowR.zero.enc,I 0,I 1]):=by
 simp only[badS,Bool.or_eq_true,decide_eq_true_eq] at h
 refine Pm Tryz.func73 λhfit=> ?_
 simp[Tryz.f73]
 by_cases h1:c<0
 ·have s_:=An @h1 (An @RowR.enc.eq_1 (@RowR.zero.eq_1))
  exact WW
 by_cases h2:e<1
 ·have s_:=An @h1 (An @h2 (An @RowR.enc.eq_1 (@RowR.zero.eq_1)))
  exact WW
 have h3:n<1:=by omega
 have s_:=An @h1 (An @h2 (An @h3 (An @RowR.enc.eq_1 (@RowR.zero.eq_1))))
 exact WW
theorem ZuA (l:List RowR) (c e n:Int) (h:badS c e n=false) (hr:Zo RowR.client l=true) (hl:l.length<=1000000):Zd Tryz.prog 73 [encL RowR.enc l,I c,I e,I n] (.tup [.agg (rowS l c e n).enc,I (placeS RowR.client l c),I (whyS l c e n)]):=by
 obtain⟨h1,h2,h3⟩:=ZcO h
 have hf:=Zxa l c hr hl
 simp only[rowS,whyS,h]
 cases hx:ZZ RowR.client l c with
 |none=>
  rw[hx] at hf
  simp only[Option.isSome_none] at hf
  refine Pm Tryz.func73 λhfit=> ?_
  simp[Tryz.f73]
  have s_:=An @h1 (An @h2 (An @h3 (@RowR.enc.eq_1)))
  have p1_:=hf
  exact WW
 |some r=>
  rw[hx] at hf
  simp only[Option.isSome_some] at hf
  obtain⟨hp,hpx⟩:=Zav RowR.client hr hx
  generalize placeS RowR.client l c=q at*
  subst hpx
  refine Pm Tryz.func73 λhfit=> ?_
  simp[Tryz.f73]
  by_cases h4:l[q].epoch<e
  ·have h5:¬l[q].epoch=e:=by omega
   have s_:=An @h1 (An @h2 (An @h3 (An @h4 (An @h5 (An @hp (@RowR.enc.eq_1))))))
   have p1_:=hf
   exact WW
  by_cases h5:e<l[q].epoch
  ·have h6:¬l[q].epoch=e:=by omega
   have s_:=An @h1 (An @h2 (An @h3 (An @h4 (An @h5 (An @h6 (An @hp (@RowR.enc.eq_1)))))))
   have p1_:=hf
   exact WW
  have h6:l[q].epoch=e:=by omega
  have h7:¬e<e:=by omega
  have s_:=An @h1 (An @h2 (An @h3 (An @h6 (An @h7 (An @hp (@RowR.enc.eq_1))))))
  have p1_:=hf
  exact WW
theorem Zit {l:List RowR} (R:Zay l) (c e n:Int):Zo DecisionR.seq (rowS l c e n).l=true/\(rowS l c e n).l.length<=256:=by
 unfold rowS
 split
 ·exact⟨rfl,by simp[RowR.zero]⟩
 ·split
  ·exact⟨rfl,by simp⟩
  ·rename_i r hr
   split
   ·have:=R.ok r (Zn _ hr).1
    exact⟨this.rise,this.len⟩
   ·exact⟨rfl,by simp⟩
theorem ZuB (l:List RowR) (c e n:Int) (R:Zay l):Zd Tryz.prog 36 [encL RowR.enc l,I c,I e,I n] (.tup [B (askS l c e n).1,I (askS l c e n).2]):=by
 have hl:=R.len
 cases hb:badS c e n with
 |true=>
  have h1:=Zuz l c e n hb
  have hw:whyS l c e n=1:=by simp[whyS,hb]
  have hs:askS l c e n=(false,1):=by simp[askS,hw]
  refine Pm Tryz.func36 λhfit=> ?_
  simp[Tryz.f36,hs]
  have s_:=An @RowR.zero.eq_1 (@RowR.enc.eq_1)
  exact WW
 |false=>
  have h1:=ZuA l c e n hb R.rise (by omega)
  obtain⟨r1,r2⟩:=Zit R c e n
  generalize hrw:rowS l c e n=r at*
  generalize hwy:whyS l c e n=y at*
  generalize placeS RowR.client l c=q at*
  by_cases h2:y=0
  case neg=>
   have hs:askS l c e n=(false,y):=by simp[askS,hwy,h2]
   refine Pm Tryz.func36 λhfit=> ?_
   simp[Tryz.f36,hs]
   have s_:=An @h2 (@RowR.enc.eq_1)
   exact WW
  by_cases h3:n<=r.done
  ·have hs:askS l c e n=(false,18):=by simp[askS,hwy,h2,hrw,h3]
   refine Pm Tryz.func36 λhfit=> ?_
   simp[Tryz.f36,hs]
   have s_:=An @h2 (An @h3 (@RowR.enc.eq_1))
   exact WW
  have hf:=Zps r.l n r1 (by omega)
  cases hx:ZZ DecisionR.seq r.l n with
  |none=>
   have hs:askS l c e n=(false,6):=by simp[askS,hwy,h2,hrw,h3,hx]
   rw[hx] at hf
   simp only[Option.isSome_none] at hf
   refine Pm Tryz.func36 λhfit=> ?_
   simp[Tryz.f36,hs]
   have s_:=An @h2 (An @h3 (@RowR.enc.eq_1))
   have p1_:=hf
   exact WW
  |some d=>
   have hs:askS l c e n=(d.yes,0):=by simp[askS,hwy,h2,hrw,h3,hx]
   rw[hx] at hf
   simp only[Option.isSome_some] at hf
   obtain⟨hp,hpx⟩:=Zav DecisionR.seq r1 hx
   generalize placeS DecisionR.seq r.l n=k at*
   refine Pm Tryz.func36 λhfit=> ?_
   simp[Tryz.f36,hs]
   have s_:=An @h2 (An @h3 (An @hp (An @hpx (An @RowR.enc.eq_1 (@DecisionR.enc.eq_1)))))
   have p1_:=hf
   exact WW
theorem Zms {l:List RowR} {i:Nat} (hi:i<l.length) (h:i*4<(l.flatMap RowR.enc).length):(l.flatMap RowR.enc)[i*4]=I l[i].client:=by
 have h1:=congrArg (λx=>x[0]?) (ZmV hi)
 simp only[List.getElem?_take,List.getElem?_drop] at h1
 rw[List.getElem_eq_iff]
 simpa[RowR.enc] using h1
theorem Zpt (l:List RowR) (i:Nat) (r r':RowR) (g:FuncId) (cap:List AV) (hcap:cap.all neat=true) (hp:Zd Tryz.prog g (.agg r.enc::cap) (.agg r'.enc)) (hi:i<l.length) (hk:l[i].client=r.client) (hl:l.length<=100000):Zd Tryz.prog 143 [encL RowR.enc l,I i,.agg r.enc,.fn g cap] (encL RowR.enc (l.set i r')):=by
 refine Zd.mk (λ_=>false) Tryz.func143 rfl rfl rfl (Ent.mk Tryz.func143 (by kernel_rfl) rfl) (by simp[hcap]) (by simp) λhfit=> ?_
 have hc:=Zms hi
 simp[Tryz.f143]
 have s_:=An @hi (An @hk (@hc))
 try simp[s_]
 repeat' ((first|((first|refine Tp ?_|refine Tn ?_|refine T2 ?_ ?_)<;>intro h_ e_ n_)|(refine AInv.fresh [] (cloneR_ok l (by omega)) (by simp) (by simp) ?_;simp[hi,hk])|refine Pg hp ?_|refine Dg 2 14 [] [] ?_|rw[Ip]|rw[In]|rw[Fz]|rw[Gz]|fail)<;>first|simp[e_,n_,s_]|simp[s_]|skip)
theorem Zxb (l:List RowR) (i:Nat) (r r':RowR) (g:FuncId) (cap:List AV) (hcap:cap.all neat=true) (hp:Zd Tryz.prog g (.agg r.enc::cap) (.agg r'.enc)) (hi:i<=l.length) (hk:∀h:i<l.length,l[i].client≠r.client) (hl:l.length<=100000):Zd Tryz.prog 143 [encL RowR.enc l,I i,.agg r.enc,.fn g cap] (encL RowR.enc (insL l i r')):=by
 refine Zd.mk (λ_=>false) Tryz.func143 rfl rfl rfl (Ent.mk Tryz.func143 (by kernel_rfl) rfl) (by simp[hcap]) (by simp) λhfit=> ?_
 have hins:=Zrr l i r' hi (by omega)
 simp[Tryz.f143]
 by_cases h:i<l.length
 ·have hc:=Zms h
  have hk:=hk h
  have s_:=An @h (An @hk (@hc))
  try simp[s_]
  repeat' ((first|((first|refine Tp ?_|refine Tn ?_|refine T2 ?_ ?_)<;>intro h_ e_ n_)|(refine AInv.fresh [] (cloneR_ok l (by omega)) (by simp) (by simp) ?_;simp[h,hk])|(refine AInv.fresh [1] hins (by simp) (by simp) ?_;simp[h,hk])|refine Pg hp ?_|refine Dg 2 14 [] [] ?_|rw[Ip]|rw[In]|rw[Fz]|rw[Gz]|fail)<;>first|simp[e_,n_,s_]|simp[s_]|skip)
 ·have s_:=h
  try simp[s_]
  repeat' ((first|((first|refine Tp ?_|refine Tn ?_|refine T2 ?_ ?_)<;>intro h_ e_ n_)|(refine AInv.fresh [] (cloneR_ok l (by omega)) (by simp) (by simp) ?_;simp[h])|(refine AInv.fresh [1] hins (by simp) (by simp) ?_;simp[h])|refine Pg hp ?_|refine Dg 2 14 [] [] ?_|rw[Ip]|rw[In]|rw[Fz]|rw[Gz]|fail)<;>first|simp[e_,n_,s_]|simp[s_]|skip)
theorem Zru (r:RowR) (n:Int) (yes:Bool) (hr:Zo DecisionR.seq r.l=true) (hx:ZZ DecisionR.seq r.l n=none) (hl:r.l.length<=100000):Zd Tryz.prog 212 [.agg r.enc,.fp [I n],.fp [B yes]] (.agg (decR r n yes).enc):=by
 have hf:=Zps r.l n hr (by omega)
 have hpl:=ZcK DecisionR.seq r.l n
 have hpi:=Zko DecisionR.seq hr (x:=⟨n,yes⟩) ((ZaY _).1 hx)
 have hins:=Zrs r.l (placeS DecisionR.seq r.l n) ⟨n,yes⟩ hpl (by omega)
 rw[show DecisionR.enc ⟨n,yes⟩=[I n,B yes] from rfl] at hins
 simp only at hpi
 unfold decR
 rw[<-hpi]
 generalize placeS DecisionR.seq r.l n=q at*
 refine Pm Tryz.func212 λhfit=> ?_
 simp[Tryz.f212]
 have s_:=An @RowR.enc.eq_1 (@DecisionR.enc.eq_1)
 try simp[s_]
 repeat' ((first|((first|refine Tp ?_|refine Tn ?_|refine T2 ?_ ?_)<;>intro h_ e_ n_)|(refine ADcall.fresh [] (cloneD_ok r.l (by omega)) (by simp) (by simp) ?_;simp)|(refine ADcall.fresh [2] hins (by simp) (by simp) ?_;simp)|refine Pg hf ?_|refine Dg 2 10 [] [(1,.e),(2,.e),(4,.t),(5,.t),(8,.e)] ?_|rw[Ip]|rw[In]|rw[Fz]|rw[Gz]|fail)<;>first|simp[e_,n_,s_]|simp[s_]|skip)
theorem Ziu (l:List RowR) (c e n:Int) (yes:Bool) (R:Zay l):Zd Tryz.prog 180 [encL RowR.enc l,I c,I e,I n,B yes] (.tup [encL RowR.enc (decideS l c e n yes).1,B (decideS l c e n yes).2.1,I (decideS l c e n yes).2.2]):=by
 have hl:=R.len
 have h1:=ZuB l c e n R
 by_cases h6:(askS l c e n).2=6
 case neg=>
  have hs:decideS l c e n yes=(l,(askS l c e n).1,(askS l c e n).2):=by simp[decideS,h6]
  refine Pm Tryz.func180 λhfit=> ?_
  have d1_:=D0 8 9 [] []
  simp[Tryz.f180,hs]
  have s_:=h6
  exact WW
 rw[h6] at h1
 obtain⟨hb,hn⟩:=Zhz h6
 have h2:=ZuA l c e n hb R.rise (by omega)
 obtain⟨r1,r2⟩:=Zit R c e n
 obtain⟨k1,k2⟩:=ZgI l hb
 have h3:=Zru (rowS l c e n) n yes r1 hn (by omega)
 have hkey:RowR.client (decR (rowS l c e n) n yes)=c:=k1
 have hgive:∀v:AV,neat v=true->True:=λ_ _=>trivial
 cases hx:ZZ RowR.client l c with
 |none=>
  have hpl:=ZcK RowR.client l c
  have hpn:∀h:placeS RowR.client l c<l.length,l[placeS RowR.client l c].client≠c:=λh=>ZcN RowR.client R.rise hx h
  have hpi:=Zko RowR.client R.rise (x:=decR (rowS l c e n) n yes) (by rw[hkey];exact(ZaY _).1 hx)
  rw[hkey] at hpi
  by_cases hrm:ZP l c e n=true
  ·have hs:decideS l c e n yes=(l,false,12):=by simp[decideS,h6,hrm]
   simp only[ZP,hx,Bool.or_eq_true,Bool.and_eq_true,decide_eq_true_eq,true_and] at hrm
   generalize rowS l c e n=r at*
   generalize placeS RowR.client l c=q at*
   by_cases hq:q<l.length
   ·have hq2:=hpn hq
    by_cases hr1:64<=l.length
    ·refine Pm Tryz.func180 λhfit=> ?_
     have d1_:=D0 8 9 [] []
     simp[Tryz.f180,hs]
     have s_:=An @hq (An @hq2 (@hr1))
     exact WW
    ·have hr2:256<=r.l.length:=by omega
     refine Pm Tryz.func180 λhfit=> ?_
     have d1_:=D0 8 9 [] []
     simp[Tryz.f180,hs]
     have s_:=An @hq (An @hq2 (An @hr1 (@hr2)))
     exact WW
   ·by_cases hr1:64<=l.length
    ·refine Pm Tryz.func180 λhfit=> ?_
     have d1_:=D0 8 9 [] []
     simp[Tryz.f180,hs]
     have s_:=An @hq (@hr1)
     exact WW
    ·have hr2:256<=r.l.length:=by omega
     refine Pm Tryz.func180 λhfit=> ?_
     have d1_:=D0 8 9 [] []
     simp[Tryz.f180,hs]
     have s_:=An @hq (An @hr1 (@hr2))
     exact WW
  ·have hs:decideS l c e n yes=(insL l (placeS RowR.client l c) (decR (rowS l c e n) n yes),yes,0):=by rw[hpi];simp[decideS,h6,hrm]
   simp only[ZP,hx,Bool.or_eq_true,Bool.and_eq_true,decide_eq_true_eq,true_and,not_or] at hrm
   obtain⟨hr1,hr2⟩:=hrm
   have h4:=Zxb l (placeS RowR.client l c) (rowS l c e n) (decR (rowS l c e n) n yes) 212 [.fp [I n],.fp [B yes]] (by simp) h3 hpl (by rw[k1];exact hpn) (by omega)
   generalize decR (rowS l c e n) n yes=r' at*
   generalize rowS l c e n=r at*
   generalize placeS RowR.client l c=q at*
   by_cases hq:q<l.length
   ·have hq2:=hpn hq
    refine Pm Tryz.func180 λhfit=> ?_
    simp[Tryz.f180,hs]
    have s_:=An @hq (An @hq2 (An @hr1 (@hr2)))
    try simp[s_]
    repeat' ((first|((first|refine Tp ?_|refine Tn ?_|refine T2 ?_ ?_)<;>intro h_ e_ n_)|(refine AW.wkZ (WkZ.freeze [0] 8 (.fp [I n]) (by simp)) ?_;refine AW.wkZ (WkZ.freeze [1] 9 (.fp [B yes]) (by simp)) ?_;simp;refine Dg 8 9 [] [(5,.t)] ?_;simp)|refine Pg h1 ?_|refine Pg h2 ?_|refine Pg h4 ?_|refine Dg 8 9 [] [] ?_|rw[Ip]|rw[In]|rw[Fz]|rw[Gz]|fail)<;>first|simp[e_,n_,s_]|simp[s_]|skip)
   ·refine Pm Tryz.func180 λhfit=> ?_
    simp[Tryz.f180,hs]
    have s_:=An @hq (An @hr1 (@hr2))
    try simp[s_]
    repeat' ((first|((first|refine Tp ?_|refine Tn ?_|refine T2 ?_ ?_)<;>intro h_ e_ n_)|(refine AW.wkZ (WkZ.freeze [0] 8 (.fp [I n]) (by simp)) ?_;refine AW.wkZ (WkZ.freeze [1] 9 (.fp [B yes]) (by simp)) ?_;simp;refine Dg 8 9 [] [(5,.t)] ?_;simp)|refine Pg h1 ?_|refine Pg h2 ?_|refine Pg h4 ?_|refine Dg 8 9 [] [] ?_|rw[Ip]|rw[In]|rw[Fz]|rw[Gz]|fail)<;>first|simp[e_,n_,s_]|simp[s_]|skip)
 |some r0=>
  obtain⟨hq,hqx⟩:=Zav RowR.client R.rise hx
  have hq2:l[placeS RowR.client l c].client=c:=by rw[hqx];exact(Zn _ hx).2
  have hpi:=Zkn RowR.client R.rise (x:=decR (rowS l c e n) n yes) hq (by rw[hkey];exact hq2)
  by_cases hrm:ZP l c e n=true
  ·have hs:decideS l c e n yes=(l,false,12):=by simp[decideS,h6,hrm]
   simp only[ZP,hx,Bool.or_eq_true,Bool.and_eq_true,decide_eq_true_eq,reduceCtorEq,false_and,false_or] at hrm
   generalize rowS l c e n=r at*
   generalize placeS RowR.client l c=q at*
   refine Pm Tryz.func180 λhfit=> ?_
   have d1_:=D0 8 9 [] []
   simp[Tryz.f180,hs]
   have s_:=An @hq (An @hq2 (@hrm))
   exact WW
  ·have hs:decideS l c e n yes=(l.set (placeS RowR.client l c) (decR (rowS l c e n) n yes),yes,0):=by rw[hpi];simp[decideS,h6,hrm]
   simp only[ZP,hx,Bool.or_eq_true,Bool.and_eq_true,decide_eq_true_eq,reduceCtorEq,false_and,false_or] at hrm
   have h4:=Zpt l (placeS RowR.client l c) (rowS l c e n) (decR (rowS l c e n) n yes) 212 [.fp [I n],.fp [B yes]] (by simp) h3 hq (by rw[k1];exact hq2) (by omega)
   generalize decR (rowS l c e n) n yes=r' at*
   generalize rowS l c e n=r at*
   generalize placeS RowR.client l c=q at*
   refine Pm Tryz.func180 λhfit=> ?_
   simp[Tryz.f180,hs]
   have s_:=An @hq (An @hq2 (@hrm))
   try simp[s_]
   repeat' ((first|((first|refine Tp ?_|refine Tn ?_|refine T2 ?_ ?_)<;>intro h_ e_ n_)|(refine AW.wkZ (WkZ.freeze [0] 8 (.fp [I n]) (by simp)) ?_;refine AW.wkZ (WkZ.freeze [1] 9 (.fp [B yes]) (by simp)) ?_;simp;refine Dg 8 9 [] [(5,.t)] ?_;simp)|refine Pg h1 ?_|refine Pg h2 ?_|refine Pg h4 ?_|refine Dg 8 9 [] [] ?_|rw[Ip]|rw[In]|rw[Fz]|rw[Gz]|fail)<;>first|simp[e_,n_,s_]|simp[s_]|skip)
theorem ZnX (d:DecisionR) (c e m:Int) (l:List DecisionR):Zd Tryz.prog 147 [.agg d.enc,.fp [I c,I e,I m,encL DecisionR.enc l]] (B (decide (d.seq<=m))):=by
 refine Pm Tryz.func147 λhfit=> ?_
 simp[Tryz.f147,DecisionR.enc]
theorem Zrv (r:RowR) (d:Int) (hl:r.l.length<=100000):Zd Tryz.prog 144 [.agg r.enc,.fp [I d]] (.agg (forR r d).enc):=by
 obtain⟨c,e,dn,l⟩:=r
 simp only at hl
 have hdel:=ZnW l 147 [.ptr 1 0 0] [.fp [I c,I e,I (max dn d),encL DecisionR.enc l]] [.cells 0 [I c,I e,I (max dn d),encL DecisionR.enc l]] (λx=>decide (x.seq<=max dn d)) (by simp) (by simp) (by simp) (λfu b0 tl=>by simp) (λx _=>ZnX x c e (max dn d) l) (by omega)
 unfold forR
 refine Pm Tryz.func144 λhfit=> ?_
 simp[Tryz.f144,RowR.enc]
 refine AInv.fresh [] (cloneD_ok l (by omega)) (by simp) (by simp) ?_
 simp
 refine AInv.fresh [2,0] hdel (by simp) (by simp) ?_
 simp
 rw[Zae (by simp) (by simp)]
 simp
theorem ZuC (l:List RowR) (c e n:Int) (R:Zay l):Zd Tryz.prog 77 [encL RowR.enc l,I c,I e,I n] (.tup [encL RowR.enc (forgetS l c e n).1,I (forgetS l c e n).2]):=by
 have hl:=R.len
 cases hb:badS c e n with
 |true=>
  have h1:=Zuz l c e n hb
  have hw:whyS l c e n=1:=by simp[whyS,hb]
  have hs:forgetS l c e n=(l,1):=by simp[forgetS,hw]
  refine Pm Tryz.func77 λhfit=> ?_
  simp[Tryz.f77,hs]
  exact WW
 |false=>
  have h1:=ZuA l c e n hb R.rise (by omega)
  by_cases hw:whyS l c e n=0
  case neg=>
   have hs:forgetS l c e n=(l,whyS l c e n):=by simp[forgetS,hw]
   generalize whyS l c e n=y at*
   refine Pm Tryz.func77 λhfit=> ?_
   simp[Tryz.f77,hs]
   have s_:=hw
   exact WW
  obtain⟨r1,r2⟩:=Zit R c e n
  obtain⟨k1,k2⟩:=ZgI l hb
  have h3:=Zrv (rowS l c e n) n (by omega)
  have hkey:RowR.client (forR (rowS l c e n) n)=c:=k1
  cases hx:ZZ RowR.client l c with
  |none=>simp[whyS,hb,hx] at hw
  |some r0=>
   obtain⟨hq,hqx⟩:=Zav RowR.client R.rise hx
   have hq2:l[placeS RowR.client l c].client=c:=by rw[hqx];exact(Zn _ hx).2
   have hpi:=Zkn RowR.client R.rise (x:=forR (rowS l c e n) n) hq (by rw[hkey];exact hq2)
   have hs:forgetS l c e n=(l.set (placeS RowR.client l c) (forR (rowS l c e n) n),0):=by rw[hpi];simp[forgetS,hw]
   have h4:=Zpt l (placeS RowR.client l c) (rowS l c e n) (forR (rowS l c e n) n) 144 [.fp [I n]] (by simp) h3 hq (by rw[k1];exact hq2) (by omega)
   rw[hw] at h1
   generalize forR (rowS l c e n) n=r' at*
   generalize rowS l c e n=r at*
   generalize placeS RowR.client l c=q at*
   refine Zd.mkW Tryz.func77 rfl rfl rfl (Ent.mk Tryz.func77 (by kernel_rfl) rfl) (by simp) (by simp) λhfit=> ?_
   refine AW.seqA (lit:=λ_=>false) ?_
   simp
   refine AW.wkZ (WkZ.freeze [0] 7 (.fp [I n]) (by simp)) ?_
   refine Zbx (lit:=λ_=>false) _ _ _ ?_
   simp[hs]
   exact WW
def fewT:Int->List RowR->Bool
 |n,[]=>decide (n<=400)
 |n,x::l=>if n<=400 then fewT (IntKind.i64.wrap (n+x.l.length)) l else false
theorem Zxc {l:List RowR} {n:Int} {i:Nat} (h:¬i<l.length):fewT n (l.drop i)=decide (n<=400):=by
 rw[List.drop_eq_nil_of_le (by omega),fewT]
theorem fewT_at {l:List RowR} {n:Int} {i:Nat} (h:i<l.length):fewT n (l.drop i)=if n<=400 then fewT (IntKind.i64.wrap (n+l[i].l.length)) (l.drop (i+1)) else false:=by
 rw[List.drop_eq_getElem_cons h,fewT]
theorem Zxd (l:List RowR):Zd Tryz.prog 26 [encL RowR.enc l] (B (fewT l.length l)):=by
 refine Pm Tryz.func26 λhfit=> ?_
 simp at hfit
 have hll:=hfit.1
 simp only[maxLen] at hll
 simp[Tryz.f26]
 refine AW.loopG (lit:=λ_=>false) (λx:Nat×Int=>⟨27,pat [(0,encL RowR.enc l),(3,I x.2),(4,I x.1)],[]⟩) (λx=>l.length -x.1) (λx=>x.1<=l.length/\fewT x.2 (l.drop x.1)=fewT l.length l) (0,(l.length:Int)) ?_ ?_ ?_
 ·exact Wa
 ·simp
 rintro⟨i,n⟩ ⟨h1,h2⟩ A hA
 simp only at h1 h2
 by_cases hi:i<l.length
 case neg=>
  rw[Zxc hi] at h2
  have s_:=An @hi (Eq.symm (h2))
  exact WW
 rw[fewT_at hi] at h2
 by_cases hn:n<=400
 case neg=>
  rw[if_neg hn] at h2
  have s_:=An @hi (An @hn (Eq.symm (h2)))
  exact WW
 rw[if_pos hn] at h2
 have hw2:=Zf hi hfit.1
 have s_:=An @hi (An @hn (An @RowR.enc.eq_1 (@hw2)))
 try simp[s_]
 repeat' ((first|((first|refine Tp ?_|refine Tn ?_|refine T2 ?_ ?_)<;>intro h_ e_ n_)|(exact hA (i+1,IntKind.i64.wrap (n+l[i].l.length)) _ Wa ⟨by simp only;omega,h2⟩ (by simp only;omega))|rw[Ip]|rw[In]|rw[Fz]|rw[Gz]|fail)<;>first|simp[e_,n_,s_]|simp[s_]|skip)
noncomputable def rightT (l:List RowR):Bool:= @decide (Zay l) (Classical.propDecidable _)
theorem ZjL (l:List RowR):rightT l=true↔Zay l:=by simp[rightT]
theorem ZdR {l:List RowR} (h:¬Zay l):rightT l=false:=by simp[rightT,h]
theorem ZdS {α:Type} (key:α->Int):∀{l:List α},(∀i (h:i+1<l.length),key l[i]<key l[i+1])->Zo key l=true
 |[],_=>rfl
 |[_],_=>rfl
 |a::b::l,h=>by
  simp only[Zo,Bool.and_eq_true,decide_eq_true_eq]
  refine⟨by have:=h 0 (by simp);simpa using this,ZdS key λi hi=> ?_⟩
  have:=h (i+1) (by simpa using hi)
  simpa using this
theorem ZnY (l:List RowR):Zd Tryz.prog 41 [encL RowR.enc l] (B (rightT l)):=by
 refine Pm Tryz.func41 λhfit=> ?_
 have d1_:=D0 7 34 [] []
 have d2_:=D0 12 29 [] []
 simp at hfit
 simp[Tryz.f41]
 by_cases hl:64<l.length
 ·have hf:rightT l=false:=ZdR λR=>by have:=R.len;omega
  have s_:=An @hl (@hf)
  exact WW
 have s_:=hl
 try simp[s_]
 repeat' ((first|((first|refine Tp ?_|refine Tn ?_|refine T2 ?_ ?_)<;>intro h_ e_ n_)|refine Dg 7 34 [] [] ?_|refine Dg 12 29 [] [] ?_|rw[Ip]|rw[In]|rw[Fz]|rw[Gz]|fail)<;>first|simp[e_,n_,s_]|simp[s_]|skip)
 refine AW.loopG (lit:=λ_=>false) (λi:Nat=>⟨89,pat [(0,encL RowR.enc l),(3,I i)],[]⟩) (λi=>l.length -i) (λi=>i<=l.length/\(∀k (h:k<l.length),k<i->Zhy l[k])/\(∀k (h:k+1<l.length),k+1<i->l[k].client<l[k+1].client)) 0 ?_ ?_ ?_
 ·exact Wa
 ·exact⟨by simp,λk _ h=>by omega,λk _ h=>by omega⟩
 rintro i ⟨h1,h2,h3⟩ A hA
 by_cases hi:i<l.length
 case neg=>
  have hf:rightT l=true:=(ZjL l).2 ⟨by omega,ZdS _ λk h=>h3 k h (by omega),λr hr=>by obtain⟨k,hk,rfl⟩:=List.getElem_of_mem hr;exact h2 k hk (by omega)⟩
  have s_:=An @hi (@hf)
  exact WW
 have hw2:=Zf hi hfit.1
 have bad:¬Zhy l[i]->rightT l=false:=λh=>ZdR λR=>h (R.ok _ (List.getElem_mem hi))
 by_cases c1:l[i].client<0
 ·have hf:=bad λo=>by have:=o.client;omega
  have s_:=An @hi (An @RowR.enc.eq_1 (An @c1 (@hf)))
  exact WW
 by_cases c2:l[i].epoch<1
 ·have hf:=bad λo=>by have:=o.epoch;omega
  have s_:=An @hi (An @RowR.enc.eq_1 (An @c1 (An @c2 (@hf))))
  exact WW
 by_cases c3:l[i].done<0
 ·have hf:=bad λo=>by have:=o.done;omega
  have s_:=An @hi (An @RowR.enc.eq_1 (An @c1 (An @c2 (An @c3 (@hf)))))
  exact WW
 by_cases c4:256<l[i].l.length
 ·have hf:=bad λo=>by have:=o.len;omega
  have s_:=An @hi (An @RowR.enc.eq_1 (An @c1 (An @c2 (An @c3 (An @c4 (@hf))))))
  exact WW
 cases i with
 |zero=>
  have s_:=An @hi (An @hw2 (An @RowR.enc.eq_1 (An @c1 (An @c2 (An @c3 (@c4))))))
  try simp[s_]
  repeat' ((first|((first|refine Tp ?_|refine Tn ?_|refine T2 ?_ ?_)<;>intro h_ e_ n_)|refine Dg 7 34 [] [] ?_|refine Dg 12 29 [] [] ?_|rw[Ip]|rw[In]|rw[Fz]|rw[Gz]|fail)<;>first|simp[e_,n_,s_]|simp[s_]|skip)
  refine AW.loopG (lit:=λ_=>false) (λj:Nat=>⟨89,pat [(0,encL RowR.enc l),(3,I ((0:Nat):Int)),(4,.ptr 0 0 0),(5,I j)],[.cells 0 [I l[0].client,I l[0].epoch,I l[0].done,encL DecisionR.enc l[0].l]]⟩) (λj=>l[0].l.length -j) (λj=>j<=l[0].l.length/\(∀k (h:k<l[0].l.length),k<j->l[0].done<l[0].l[k].seq)/\(∀k (h:k+1<l[0].l.length),k+1<j->l[0].l[k].seq<l[0].l[k+1].seq)) 0 ?_ ?_ ?_
  ·exact Wa
  ·exact⟨by simp,λk _ h=>by omega,λk _ h=>by omega⟩
  rintro j ⟨g1,g2,g3⟩ A2 hA2
  by_cases hj:j<l[0].l.length
  case neg=>
   have hok:Zhy l[0]:=⟨by omega,by omega,by omega,by omega,ZdS _ λk h=>g3 k h (by omega),λd hd=>by obtain⟨k,hk,rfl⟩:=List.getElem_of_mem hd;exact g2 k hk (by omega)⟩
   have s_:=An @hi (An @hj (@hw2))
   have q1_:=λs w=>hA (1) s w ⟨hi,λk h q=>by rcases Nat.lt_or_ge k 0 with q2|q2;(·exact h2 k h q2);(obtain rfl:k=0:=(by omega);exact hok),λk h q=>by omega⟩ (by omega)
   exact WW
  have hjw:=Zf hj (by simp only[maxLen];omega)
  by_cases d1:l[0].l[j].seq<=l[0].done
  ·have hf:=bad λo=>by have:=o.above _ (List.getElem_mem hj);omega
   have s_:=An @hi (An @hj (An @d1 (An @hf (@DecisionR.enc.eq_1))))
   exact WW
  cases j with
  |zero=>
   have s_:=An @hi (An @hj (An @d1 (An @hjw (@DecisionR.enc.eq_1))))
   have q1_:=λs w=>hA2 1 s w ⟨hj,λk h q=>by obtain rfl:k=0:=(by omega);omega,λk h q=>by omega⟩ (by omega)
   exact WW
  |succ j=>
   have hj0:j<l[0].l.length:=by omega
   have hj3:IntKind.i64.wrap ((j:Int)+1 -1)=(j:Int):=by rw[IntKind.wrap_i64];omega
   have hj4:IntKind.i64.wrap (j:Int)=(j:Int):=by rw[IntKind.wrap_i64];omega
   have hj5:IntKind.i64.wrap ((j:Int)+1+1)=(j:Int)+2:=by rw[IntKind.wrap_i64];omega
   by_cases d2:l[0].l[j+1].seq<=l[0].l[j].seq
   ·have hf:=bad λo=>by have:=Zak _ o.rise j (j+1) hj0 hj (by omega);omega
    have s_:=An @hi (An @hj (An @hj0 (An @hj3 (An @hj4 (An @d1 (An @d2 (An @hf (@DecisionR.enc.eq_1))))))))
    exact WW
   ·have s_:=An @hi (An @hj (An @hj0 (An @hj3 (An @hj4 (An @hj5 (An @d1 (An @d2 (@DecisionR.enc.eq_1))))))))
    have q1_:=λs w=>hA2 (j+2) s w ⟨hj,λk h q=>by rcases Nat.lt_or_ge k (j+1) with q2|q2;(·exact g2 k h q2);(obtain rfl:k=j+1:=(by omega);omega),λk h q=>by rcases Nat.lt_or_ge (k+1) (j+1) with q2|q2;(·exact g3 k h q2);(obtain rfl:k=j:=(by omega);omega)⟩ (by omega)
    exact WW
 |succ i=>
  have hi0:i<l.length:=by omega
  have hi3:IntKind.i64.wrap ((i:Int)+1 -1)=(i:Int):=by rw[IntKind.wrap_i64];omega
  have hi4:IntKind.i64.wrap (i:Int)=(i:Int):=by rw[IntKind.wrap_i64];omega
  have hw2:IntKind.i64.wrap ((i:Int)+1+1)=(i:Int)+2:=by rw[IntKind.wrap_i64];omega
  by_cases c5:l[i+1].client<=l[i].client
  ·have hf:rightT l=false:=ZdR λR=>by have:=Zak _ R.rise i (i+1) hi0 hi (by omega);omega
   have s_:=An @hi (An @hi0 (An @hi3 (An @hi4 (An @RowR.enc.eq_1 (An @c1 (An @c2 (An @c3 (An @c4 (An @c5 (@hf))))))))))
   exact WW
  have s_:=An @hi (An @hw2 (An @RowR.enc.eq_1 (An @c1 (An @c2 (An @c3 (An @c4 (An @c5 (An @hi0 (An @hi3 (@hi4))))))))))
  try simp[s_]
  repeat' ((first|((first|refine Tp ?_|refine Tn ?_|refine T2 ?_ ?_)<;>intro h_ e_ n_)|refine Dg 7 34 [] [] ?_|refine Dg 12 29 [] [] ?_|rw[Ip]|rw[In]|rw[Fz]|rw[Gz]|fail)<;>first|simp[e_,n_,s_]|simp[s_]|skip)
  refine AW.loopG (lit:=λ_=>false) (λj:Nat=>⟨89,pat [(0,encL RowR.enc l),(3,I ((i+1:Nat):Int)),(4,.ptr 0 0 0),(5,I j)],[.cells 0 [I l[i+1].client,I l[i+1].epoch,I l[i+1].done,encL DecisionR.enc l[i+1].l]]⟩) (λj=>l[i+1].l.length -j) (λj=>j<=l[i+1].l.length/\(∀k (h:k<l[i+1].l.length),k<j->l[i+1].done<l[i+1].l[k].seq)/\(∀k (h:k+1<l[i+1].l.length),k+1<j->l[i+1].l[k].seq<l[i+1].l[k+1].seq)) 0 ?_ ?_ ?_
  ·exact Wa
  ·exact⟨by simp,λk _ h=>by omega,λk _ h=>by omega⟩
  rintro j ⟨g1,g2,g3⟩ A2 hA2
  by_cases hj:j<l[i+1].l.length
  case neg=>
   have hok:Zhy l[i+1]:=⟨by omega,by omega,by omega,by omega,ZdS _ λk h=>g3 k h (by omega),λd hd=>by obtain⟨k,hk,rfl⟩:=List.getElem_of_mem hd;exact g2 k hk (by omega)⟩
   have s_:=An @hi (An @hj (@hw2))
   have q1_:=λs w=>hA (i+2) s w ⟨hi,λk h q=>by rcases Nat.lt_or_ge k (i+1) with q2|q2;(·exact h2 k h q2);(obtain rfl:k=i+1:=(by omega);exact hok),λk h q=>by rcases Nat.lt_or_ge (k+1) (i+1) with q2|q2;(·exact h3 k h q2);(obtain rfl:k=i:=(by omega);omega)⟩ (by omega)
   exact WW
  have hjw:=Zf hj (by simp only[maxLen];omega)
  by_cases d1:l[i+1].l[j].seq<=l[i+1].done
  ·have hf:=bad λo=>by have:=o.above _ (List.getElem_mem hj);omega
   have s_:=An @hi (An @hj (An @d1 (An @hf (@DecisionR.enc.eq_1))))
   exact WW
  cases j with
  |zero=>
   have s_:=An @hi (An @hj (An @d1 (An @hjw (@DecisionR.enc.eq_1))))
   have q1_:=λs w=>hA2 1 s w ⟨hj,λk h q=>by obtain rfl:k=0:=(by omega);omega,λk h q=>by omega⟩ (by omega)
   exact WW
  |succ j=>
   have hj0:j<l[i+1].l.length:=by omega
   have hj3:IntKind.i64.wrap ((j:Int)+1 -1)=(j:Int):=by rw[IntKind.wrap_i64];omega
   have hj4:IntKind.i64.wrap (j:Int)=(j:Int):=by rw[IntKind.wrap_i64];omega
   have hj5:IntKind.i64.wrap ((j:Int)+1+1)=(j:Int)+2:=by rw[IntKind.wrap_i64];omega
   by_cases d2:l[i+1].l[j+1].seq<=l[i+1].l[j].seq
   ·have hf:=bad λo=>by have:=Zak _ o.rise j (j+1) hj0 hj (by omega);omega
    have s_:=An @hi (An @hj (An @hj0 (An @hj3 (An @hj4 (An @d1 (An @d2 (An @hf (@DecisionR.enc.eq_1))))))))
    exact WW
   ·have s_:=An @hi (An @hj (An @hj0 (An @hj3 (An @hj4 (An @hj5 (An @d1 (An @d2 (@DecisionR.enc.eq_1))))))))
    have q1_:=λs w=>hA2 (j+2) s w ⟨hj,λk h q=>by rcases Nat.lt_or_ge k (j+1) with q2|q2;(·exact g2 k h q2);(obtain rfl:k=j+1:=(by omega);omega),λk h q=>by rcases Nat.lt_or_ge (k+1) (j+1) with q2|q2;(·exact g3 k h q2);(obtain rfl:k=j:=(by omega);omega)⟩ (by omega)
    exact WW
abbrev isC (c:Int) (r:RowR):Bool:=decide (r.client=c)
theorem ZfG (l:List RowR) (c:Int):Zd Tryz.prog 88 [encL RowR.enc l,I c] (I (idxS (isC c) l)):=by
 refine Pm Tryz.func88 λhfit=> ?_
 simp at hfit
 simp[Tryz.f88]
 refine AW.loopG (lit:=λ_=>false) (λi:Nat=>⟨20,pat [(0,encL RowR.enc l),(1,I c),(5,I i)],[]⟩) (λi=>l.length -i) (λi=>i<=l.length/\ZaR (isC c) i (l.drop i)=idxS (isC c) l) 0 ?_ ?_ ?_
 ·exact Wa
 ·simp[idxS]
 rintro i ⟨h1,h2⟩ A hA
 by_cases hi:i<l.length
 case neg=>
  rw[Zce hi] at h2
  have s_:=An @hi (Eq.symm (h2))
  exact WW
 rw[ZcM hi] at h2
 have hw:=Zf hi hfit.1
 by_cases hc:l[i].client=c
 ·rw[if_pos (by simp[isC,hc])] at h2
  have s_:=An @hi (An @hc (An (Eq.symm (h2)) (@RowR.enc.eq_1)))
  exact WW
 ·rw[if_neg (by simp[isC,hc])] at h2
  have s_:=An @hi (An @hc (An @hw (@RowR.enc.eq_1)))
  have q1_:=λs w=>hA (i+1) s w ⟨hi,h2⟩ (by omega)
  exact WW
theorem Zgw {l:List RowR} {c:Int} (hf:ZZ RowR.client l c=none):idxS (isC c) l= -1:=by
 rcases idxFrom_spec (p:=isC c) l 0 with⟨h,_⟩|⟨j,hj,_,h,_⟩
 ·exact h
 ·exact absurd (by simpa[isC] using h) ((ZaY _).1 hf _ (List.getElem_mem hj))
theorem Zcx {l:List RowR} (hr:Zo RowR.client l=true) {c:Int} {r:RowR} (hf:ZZ RowR.client l c=some r):∃j,∃hj:j<l.length,idxS (isC c) l=(j:Int)/\l[j]=r:=by
 rcases idxFrom_spec (p:=isC c) l 0 with⟨_,h⟩|⟨j,hj,h1,h,_⟩
 ·have:=h _ (Zn _ hf).1
  have h2:=(Zn _ hf).2
  simp[isC] at this
  exact absurd h2 this
 ·refine⟨j,hj,by simpa[idxS] using h1,?_⟩
  refine ZdE RowR.client hr (List.getElem_mem hj) (Zn _ hf).1 ?_
  rw[(Zn _ hf).2]
  simpa[isC] using h
theorem why_ok (l:List RowR) (c e n:Int) (hr:Zo RowR.client l=true):Zd Tryz.prog 87 [encL RowR.enc l,I c,I e,I n] (I (whyS l c e n)):=by
 cases hb:badS c e n with
 |true=>
  simp only[whyS,hb,if_true]
  simp only[badS,Bool.or_eq_true,decide_eq_true_eq] at hb
  refine Pm Tryz.func87 λhfit=> ?_
  simp[Tryz.f87]
  by_cases h1:c<0
  ·have s_:=h1
   exact WW
  by_cases h2:e<1
  ·have s_:=An @h1 (@h2)
   exact WW
  have h3:n<1:=by omega
  have s_:=An @h1 (An @h2 (@h3))
  exact WW
 |false=>
  obtain⟨h1,h2,h3⟩:=ZcO hb
  have hp:=ZfG l c
  simp only[whyS,hb]
  cases hf:ZZ RowR.client l c with
  |none=>
   rw[Zgw hf] at hp
   refine Pm Tryz.func87 λhfit=> ?_
   simp[Tryz.f87]
   have s_:=An @h1 (An @h2 (@h3))
   have p1_:=hp
   exact WW
  |some r=>
   obtain⟨j,hj,e1,e2⟩:=Zcx hr hf
   rw[e1] at hp
   subst e2
   refine Pm Tryz.func87 λhfit=> ?_
   simp[Tryz.f87]
   by_cases h4:l[j].epoch<e
   ·have h5:¬e<l[j].epoch:=by omega
    have s_:=An @h1 (An @h2 (An @h3 (An @h4 (An @h5 (An @hj (@RowR.enc.eq_1))))))
    have p1_:=hp
    exact WW
   by_cases h5:e<l[j].epoch
   ·have s_:=An @h1 (An @h2 (An @h3 (An @h4 (An @h5 (An @hj (@RowR.enc.eq_1))))))
    have p1_:=hp
    exact WW
   ·have s_:=An @h1 (An @h2 (An @h3 (An @h4 (An @h5 (An @hj (@RowR.enc.eq_1))))))
    have p1_:=hp
    exact WW
theorem Zgk (l:List RowR) (c e n:Int) (R:Zay l):Zd Tryz.prog 46 [encL RowR.enc l,I c,I e,I n] (.tup [B (askS l c e n).1,I (askS l c e n).2]):=by
 have h1:=why_ok l c e n R.rise
 by_cases hw:whyS l c e n=0
 case neg=>
  rw[ask_why hw]
  generalize whyS l c e n=y at*
  refine Pm Tryz.func46 λhfit=> ?_
  simp[Tryz.f46]
  have s_:=hw
  exact WW
 rw[hw] at h1
 obtain⟨hb,r,hf,he,hr⟩:=Zkp hw
 have hok:=R.ok r (Zn _ hf).1
 have hp:=ZfG l c
 obtain⟨j,hj,e1,e2⟩:=Zcx R.rise hf
 rw[e1] at hp
 rw[ask_of hw hr]
 have hlen:=hok.len
 have hrise:=hok.rise
 have hx:=e2
 by_cases hd:n<=r.done
 ·rw[ZsY,if_pos hd]
  subst e2
  refine Pm Tryz.func46 λhfit=> ?_
  simp[Tryz.f46]
  have s_:=An @hj (An @hd (@RowR.enc.eq_1))
  have p1_:=hp
  exact WW
 rw[ZsY,if_neg hd]
 have hq:∀(i:Nat) (hi:i<r.l.length),r.l[i].seq=n->ZZ DecisionR.seq r.l n=some r.l[i]:=λi hi q=>(ZlD DecisionR.seq hrise n _).2 ⟨List.getElem_mem hi,q⟩
 have hq2:(∀(i:Nat) (hi:i<r.l.length),r.l[i].seq≠n)->ZZ DecisionR.seq r.l n=none:=λq=>(ZaY _).2 λx hx=>by obtain⟨k,hk,rfl⟩:=List.getElem_of_mem hx;exact q k hk
 subst e2
 refine Pm Tryz.func46 λhfit=> ?_
 simp[Tryz.f46]
 have s_:=An @hj (An @hd (@RowR.enc.eq_1))
 try simp[s_]
 repeat' ((first|((first|refine Tp ?_|refine Tn ?_|refine T2 ?_ ?_)<;>intro h_ e_ n_)|refine Pg h1 ?_|refine Pg hp ?_|rw[Ip]|rw[In]|rw[Fz]|rw[Gz]|fail)<;>first|simp[e_,n_,s_]|simp[s_]|skip)
 refine AW.loopG (lit:=λ_=>false) (λi:Nat=>⟨52,pat [(3,I n),(11,.ptr 0 0 0),(12,I i)],[.cells 0 [I l[j].client,I l[j].epoch,I l[j].done,encL DecisionR.enc l[j].l]]⟩) (λi=>l[j].l.length -i) (λi=>i<=l[j].l.length/\∀k (h:k<l[j].l.length),k<i->l[j].l[k].seq≠n) 0 ?_ ?_ ?_
 ·exact Wa
 ·exact⟨by simp,λk _ h=>by omega⟩
 rintro i ⟨g1,g2⟩ A hA
 by_cases hi:i<l[j].l.length
 case neg=>
  have hn:=hq2 λk hk=>g2 k hk (by omega)
  have s_:=An @hi (@hn)
  exact WW
 have hwi:=Zf hi (by simp only[maxLen];omega)
 by_cases hs:l[j].l[i].seq=n
 ·have hn:=hq i hi hs
  have s_:=An @hi (An @hs (An @hn (@DecisionR.enc.eq_1)))
  exact WW
 ·have s_:=An @hi (An @hs (An @hwi (@DecisionR.enc.eq_1)))
  have q1_:=λs w=>hA (i+1) s w ⟨hi,λk h q=>by rcases Nat.lt_or_ge k i with q2|q2;(·exact g2 k h q2);(obtain rfl:k=i:=(by omega);exact hs)⟩ (by omega)
  exact WW
theorem ZeR {α:Type} {key:α->Int} (k:Int):∀{l:List α},Zo key l=true->(l.dropWhile (λx=>decide (key x<k))).filter (λx=> !decide (key x=k))=l.dropWhile (λx=>decide (key x<=k))
 |[],_=>rfl
 |a::l,h=>by
  obtain⟨h1,h2⟩:=ZaG key h
  have hall:∀c:Int,c<=key a->∀x∈l,¬key x<=c:=λc hc x hx=>by have:=h2 x hx;omega
  by_cases c1:key a<k
  ·rw[List.dropWhile_cons_of_pos (by simpa using c1),List.dropWhile_cons_of_pos (by simp;omega)]
   exact ZeR k h1
  ·rw[List.dropWhile_cons_of_neg (by simpa using c1)]
   have hl:k<=key a->l.filter (λx=> !decide (key x=k))=l:=λhk=>List.filter_eq_self.2 λx hx=>by have:=hall k hk x hx;simp;omega
   have hd:k<=key a->l.dropWhile (λx=>decide (key x<=k))=l:=λhk=>by
    cases l with
    |nil=>rfl
    |cons b l=>exact List.dropWhile_cons_of_neg (by have:=hall k hk b (by simp);simpa using this)
   by_cases c2:key a=k
   ·rw[List.filter_cons_of_neg (by simp[c2]),List.dropWhile_cons_of_pos (by simp[c2]),hl (by omega),hd (by omega)]
   ·rw[List.filter_cons_of_pos (by simp[c2]),List.dropWhile_cons_of_neg (by simp;omega),hl (by omega)]
theorem ZfH (l:List RowR) (r:RowR) (hr:Zo RowR.client l=true) (hl:l.length<=1000000):Zd Tryz.prog 152 [encL RowR.enc l,.agg r.enc] (encL RowR.enc (putS RowR.client l r)):=by
 unfold putS
 rw[<-ZeR r.client hr]
 refine Pm Tryz.func152 λhfit=> ?_
 have d1_:=D0 3 14 [] []
 have d2_:=D0 8 8 [] []
 simp[Tryz.f152]
 refine AW.loopG (lit:=λ_=>false) (λi:Nat=>⟨56,pat [(0,encL RowR.enc l),(3,.ptr 0 0 0),(5,.own 1 i 0 i 4),(6,I i)],[.cells 0 r.enc,.cells i ((l.take i).flatMap RowR.enc)]⟩) (λi=>l.length -i)
  (λi=>i<=l.length/\l.take i++(l.drop i).takeWhile (λx=>decide (x.client<r.client))=l.takeWhile (λx=>decide (x.client<r.client))/\(l.drop i).dropWhile (λx=>decide (x.client<r.client))=l.dropWhile (λx=>decide (x.client<r.client))) 0 ?_ ?_ ?_
 ·exact Wk.trans (Wk.ownNil 5 4 (by simp)) Wa
 ·exact⟨by simp,by simp,by simp⟩
 rintro i ⟨g1,g2,g3⟩ A hA
 have hli:(l.take i).length=i:=by simp;omega
 by_cases hi:i<l.length
 case neg=>
  rw[List.drop_eq_nil_of_le (by omega),List.takeWhile_nil,List.append_nil] at g2
  rw[<-g3,<-g2]
  rw[show(l.drop i).dropWhile (λx=>decide (x.client<r.client))=l.drop i by rw[List.drop_eq_nil_of_le (by omega)];rfl]
  have s_:=An @hi (@hli)
  try simp[s_]
  repeat' ((first|((first|refine Tp ?_|refine Tn ?_|refine T2 ?_ ?_)<;>intro h_ e_ n_)|refine Dg 3 14 [] [] ?_|refine Dg 8 8 [] [] ?_|rw[Ip]|rw[In]|rw[Fz]|rw[Gz]|fail)<;>first|simp[e_,n_,s_]|simp[s_]|skip)
  refine AW.loopG (lit:=λ_=>false) (λx:Nat×List RowR=>⟨56,pat [(0,encL RowR.enc l),(3,.ptr 0 0 0),(5,.own 1 x.2.length 0 x.2.length 4),(6,I x.1)],[.cells 0 r.enc,.cells x.2.length (x.2.flatMap RowR.enc)]⟩) (λx=>l.length -x.1)
   (λx=>x.1<=l.length/\x.2.length<=x.1+1/\x.2++(l.drop x.1).filter (λx=> !decide (x.client=r.client))=l.take i++(r::(l.drop i).filter (λx=> !decide (x.client=r.client)))) (i,l.take i++[r]) ?_ ?_ ?_
  ·exact Wk.cutAt _ rfl (by simp[hli]) (by simp[hli]) (by simp[hli]) (by simp[hli])
  ·exact⟨g1,by simp[hli],by simp⟩
  rintro⟨j,acc⟩ ⟨k1,k2,k3⟩ A2 hA2
  simp only at k1 k2 k3 hA2
  by_cases hj:j<l.length
  case neg=>
   rw[List.drop_eq_nil_of_le (by omega),List.filter_nil,List.append_nil] at k3
   rw[<-k3]
   have s_:=hj
   exact WW
  rw[List.drop_eq_getElem_cons hj,List.filter_cons] at k3
  have hwj:=Zf hj (by simp only[maxLen];omega)
  have hcj:=Zms hj
  by_cases hk:l[j].client=r.client
  ·rw[if_neg (by simp[hk])] at k3
   have s_:=An @hj (An @hwj (An @hcj (@hk)))
   have q1_:=λs w=>hA2 (j+1,acc) s w ⟨hj,by simp only;omega,k3⟩ (by simp only;omega)
   exact WW
  ·rw[if_pos (by simp[hk])] at k3
   have k5:(acc++[l[j]]).length=acc.length+1:=by simp
   have s_:=An @hj (An @hwj (An @hcj (@hk)))
   try simp[s_]
   repeat' ((first|((first|refine Tp ?_|refine Tn ?_|refine T2 ?_ ?_)<;>intro h_ e_ n_)|(exact hA2 (j+1,acc++[l[j]]) _ Wc ⟨hj,by simp only[k5];omega,by simpa using k3⟩ (by simp only;omega))|refine Dg 3 14 [] [] ?_|refine Dg 8 8 [] [] ?_|rw[Ip]|rw[In]|rw[Fz]|rw[Gz]|fail)<;>first|simp[e_,n_,s_]|simp[s_]|skip)
 have hd:=List.drop_eq_getElem_cons hi
 have hc:=Zms hi
 by_cases hp:l[i].client<r.client
 case neg=>
  have hd1:(l.drop i).dropWhile (λx=>decide (x.client<r.client))=l.drop i:=by rw[hd,List.dropWhile_cons_of_neg (by simpa using hp)]
  rw[hd,List.takeWhile_cons_of_neg (by simpa using hp),List.append_nil] at g2
  rw[hd1] at g3
  rw[<-g3,<-g2]
  have s_:=An @hi (An @hp (An @hc (@hli)))
  try simp[s_]
  repeat' ((first|((first|refine Tp ?_|refine Tn ?_|refine T2 ?_ ?_)<;>intro h_ e_ n_)|refine Dg 3 14 [] [] ?_|refine Dg 8 8 [] [] ?_|rw[Ip]|rw[In]|rw[Fz]|rw[Gz]|fail)<;>first|simp[e_,n_,s_]|simp[s_]|skip)
  refine AW.loopG (lit:=λ_=>false) (λx:Nat×List RowR=>⟨56,pat [(0,encL RowR.enc l),(3,.ptr 0 0 0),(5,.own 1 x.2.length 0 x.2.length 4),(6,I x.1)],[.cells 0 r.enc,.cells x.2.length (x.2.flatMap RowR.enc)]⟩) (λx=>l.length -x.1)
   (λx=>x.1<=l.length/\x.2.length<=x.1+1/\x.2++(l.drop x.1).filter (λx=> !decide (x.client=r.client))=l.take i++(r::(l.drop i).filter (λx=> !decide (x.client=r.client)))) (i,l.take i++[r]) ?_ ?_ ?_
  ·exact Wk.cutAt _ rfl (by simp[hli]) (by simp[hli]) (by simp[hli]) (by simp[hli])
  ·exact⟨g1,by simp[hli],by simp⟩
  rintro⟨j,acc⟩ ⟨k1,k2,k3⟩ A2 hA2
  simp only at k1 k2 k3 hA2
  by_cases hj:j<l.length
  case neg=>
   rw[List.drop_eq_nil_of_le (by omega),List.filter_nil,List.append_nil] at k3
   rw[<-k3]
   have s_:=hj
   exact WW
  rw[List.drop_eq_getElem_cons hj,List.filter_cons] at k3
  have hwj:=Zf hj (by simp only[maxLen];omega)
  have hcj:=Zms hj
  by_cases hk:l[j].client=r.client
  ·rw[if_neg (by simp[hk])] at k3
   have s_:=An @hj (An @hwj (An @hcj (@hk)))
   have q1_:=λs w=>hA2 (j+1,acc) s w ⟨hj,by simp only;omega,k3⟩ (by simp only;omega)
   exact WW
  ·rw[if_pos (by simp[hk])] at k3
   have k5:(acc++[l[j]]).length=acc.length+1:=by simp
   have s_:=An @hj (An @hwj (An @hcj (@hk)))
   try simp[s_]
   repeat' ((first|((first|refine Tp ?_|refine Tn ?_|refine T2 ?_ ?_)<;>intro h_ e_ n_)|(exact hA2 (j+1,acc++[l[j]]) _ Wc ⟨hj,by simp only[k5];omega,by simpa using k3⟩ (by simp only;omega))|refine Dg 3 14 [] [] ?_|refine Dg 8 8 [] [] ?_|rw[Ip]|rw[In]|rw[Fz]|rw[Gz]|fail)<;>first|simp[e_,n_,s_]|simp[s_]|skip)
 rw[hd,List.takeWhile_cons_of_pos (by simpa using hp)] at g2
 rw[hd,List.dropWhile_cons_of_pos (by simpa using hp)] at g3
 have hwi:=Zf hi (by simp only[maxLen];omega)
 have htk:l.take (i+1)=l.take i++[l[i]]:=by simp
 have hfm:(l.take (i+1)).flatMap RowR.enc=(l.take i).flatMap RowR.enc++l[i].enc:=by rw[htk,List.flatMap_append];simp
 have s_:=An @hi (An @hwi (An @hp (An @hc (@hli))))
 try simp[s_]
 repeat' ((first|((first|refine Tp ?_|refine Tn ?_|refine T2 ?_ ?_)<;>intro h_ e_ n_)|(exact hA (i+1) _ (Wk.cutAt _ rfl (by simp[hli,hfm]) (by simp[hli,hfm]) (by simp[hli,hfm]) (by simp[hli,hfm])) ⟨hi,by rw[htk,List.append_assoc];exact g2,g3⟩ (by omega))|refine Dg 3 14 [] [] ?_|refine Dg 8 8 [] [] ?_|rw[Ip]|rw[In]|rw[Fz]|rw[Gz]|fail)<;>first|simp[e_,n_,s_]|simp[s_]|skip)
theorem Zrw (l:List RowR) (c e n:Int) (R:Zay l):Zd Tryz.prog 89 [encL RowR.enc l,I c,I e,I n] (.tup [encL RowR.enc (forgetS l c e n).1,I (forgetS l c e n).2]):=by
 have hl:=R.len
 have h1:=why_ok l c e n R.rise
 by_cases hw:whyS l c e n=0
 case neg=>
  have hs:forgetS l c e n=(l,whyS l c e n):=by simp[forgetS,hw]
  rw[hs]
  generalize whyS l c e n=y at*
  refine Pm Tryz.func89 λhfit=> ?_
  have d1_:=D0 11 9 [] []
  have d2_:=D0 12 10 [] []
  simp[Tryz.f89]
  have s_:=hw
  exact WW
 rw[ZhA hw]
 rw[hw] at h1
 obtain⟨hb,r,hf,he,hr⟩:=Zkp hw
 have hok:=R.ok r (Zn _ hf).1
 have hkc:=(Zn _ hf).2
 have hp:=ZfG l c
 obtain⟨j,hj,e1,e2⟩:=Zcx R.rise hf
 rw[e1] at hp
 rw[hr]
 have hlen:=hok.len
 have hput:=ZfH l (forR r n) R.rise (by omega)
 generalize putS RowR.client l (forR r n)=p at*
 unfold forR at hput
 rw[hkc,he] at hput
 simp only[RowR.enc] at hput
 obtain⟨M,hM⟩:∃M,M=max r.done n:=⟨_,rfl⟩
 rw[<-hM] at hput
 subst e2
 refine Zd.mkW Tryz.func89 rfl rfl rfl (Ent.mk Tryz.func89 (by kernel_rfl) rfl) (by simp) (by simp) λhfit=> ?_
 have d1_:=D0 11 9 [] []
 have d2_:=D0 12 10 [] []
 by_cases hd:l[j].done<n
 ·have hMn:n=M:=by omega
  have s_:=An @hj (An @hd (@RowR.enc.eq_1))
  try simp[s_]
  repeat' ((first|((first|refine Tp ?_|refine Tn ?_|refine T2 ?_ ?_)<;>intro h_ e_ n_)|(refine AW.seqA (lit:=λ_=>false) ?_;simp[hj,hd,RowR.enc])|refine Pg h1 ?_|refine Pg hp ?_|refine Dg 11 9 [] [] ?_|refine Dg 12 10 [] [] ?_|rw[Ip]|rw[In]|rw[Fz]|rw[Gz]|fail)<;>first|simp[e_,n_,s_]|simp[s_]|skip)
  refine AW.loopG (lit:=λ_=>false) (λx:Nat×List DecisionR=>⟨69,pat [(0,encL RowR.enc l),(11,.ptr 0 0 0),(12,.ptr 1 0 0),(13,I x.1)],[.cells 0 [I l[j].client,I l[j].epoch,I l[j].done,encL DecisionR.enc l[j].l],.cells 0 [I c,I e,I M,.own 2 x.2.length 0 x.2.length 2],.cells x.2.length (x.2.flatMap DecisionR.enc)]⟩) (λx=>l[j].l.length -x.1)
   (λx=>x.1<=l[j].l.length/\x.2.length<=x.1/\x.2++(l[j].l.drop x.1).filter (λx=> !decide (x.seq<=M))=l[j].l.filter (λx=> !decide (x.seq<=M))) (0,[]) ?_ ?_ ?_
  ·exact Wk.trans (Wk.ownNilCell 1 0 3 2 rfl rfl) (Wk.at _ rfl (by simp[hMn]) (by simp[hMn]))
  ·exact⟨by simp,by simp,by simp⟩
  rintro⟨i,acc⟩ ⟨g1,g2,g3⟩ A hA
  simp only at g1 g2 g3 hA
  by_cases hi:i<l[j].l.length
  case neg=>
   rw[List.drop_eq_nil_of_le (by omega),List.filter_nil,List.append_nil] at g3
   rw[<-g3] at hput
   have s_:=hi
   try simp[s_]
   repeat' ((first|((first|refine Tp ?_|refine Tn ?_|refine T2 ?_ ?_)<;>intro h_ e_ n_)|refine Dg 11 9 [] [] ?_|refine Dg 12 10 [] [] ?_|rw[Ip]|rw[In]|rw[Fz]|rw[Gz]|fail)<;>first|simp[e_,n_,s_]|simp[s_]|skip)
   refine AW.wkZ (WkZ.freeze [1,2] 12 (.fp [I c,I e,I M,encL DecisionR.enc acc]) (by simp;rw[Zau (by simp) (by simp)];simp)) ?_
   refine Zbx (lit:=λ_=>false) _ _ _ ?_
   simp
   have p1_:=hput
   exact WW
  rw[List.drop_eq_getElem_cons hi,List.filter_cons] at g3
  have hwi:=Zf hi (by simp only[maxLen];omega)
  by_cases hk:l[j].l[i].seq<=M
  ·rw[if_neg (by simp[hk])] at g3
   have s_:=An @hi (An @hwi (An @hk (@DecisionR.enc.eq_1)))
   have q1_:=λs w=>hA (i+1,acc) s w ⟨hi,by simp only;omega,g3⟩ (by simp only;omega)
   exact WW
  ·rw[if_pos (by simp[hk])] at g3
   have g5:(acc++[l[j].l[i]]).length=acc.length+1:=by simp
   have s_:=An @hi (An @hwi (@hk))
   try simp[s_]
   repeat' ((first|((first|refine Tp ?_|refine Tn ?_|refine T2 ?_ ?_)<;>intro h_ e_ n_)|(exact hA (i+1,acc++[l[j].l[i]]) _ Wc ⟨hi,by simp only[g5];omega,by simpa using g3⟩ (by simp only;omega))|refine Dg 11 9 [] [] ?_|refine Dg 12 10 [] [] ?_|rw[Ip]|rw[In]|rw[Fz]|rw[Gz]|fail)<;>first|simp[e_,n_,s_]|simp[s_]|skip)
 ·have hMn:l[j].done=M:=by omega
  have s_:=An @hj (An @hd (@RowR.enc.eq_1))
  try simp[s_]
  repeat' ((first|((first|refine Tp ?_|refine Tn ?_|refine T2 ?_ ?_)<;>intro h_ e_ n_)|(refine AW.seqA (lit:=λ_=>false) ?_;simp[hj,hd,RowR.enc])|refine Pg h1 ?_|refine Pg hp ?_|refine Dg 11 9 [] [] ?_|refine Dg 12 10 [] [] ?_|rw[Ip]|rw[In]|rw[Fz]|rw[Gz]|fail)<;>first|simp[e_,n_,s_]|simp[s_]|skip)
  refine AW.loopG (lit:=λ_=>false) (λx:Nat×List DecisionR=>⟨69,pat [(0,encL RowR.enc l),(11,.ptr 0 0 0),(12,.ptr 1 0 0),(13,I x.1)],[.cells 0 [I l[j].client,I l[j].epoch,I l[j].done,encL DecisionR.enc l[j].l],.cells 0 [I c,I e,I M,.own 2 x.2.length 0 x.2.length 2],.cells x.2.length (x.2.flatMap DecisionR.enc)]⟩) (λx=>l[j].l.length -x.1)
   (λx=>x.1<=l[j].l.length/\x.2.length<=x.1/\x.2++(l[j].l.drop x.1).filter (λx=> !decide (x.seq<=M))=l[j].l.filter (λx=> !decide (x.seq<=M))) (0,[]) ?_ ?_ ?_
  ·exact Wk.trans (Wk.ownNilCell 1 0 3 2 rfl rfl) (Wk.at _ rfl (by simp[hMn]) (by simp[hMn]))
  ·exact⟨by simp,by simp,by simp⟩
  rintro⟨i,acc⟩ ⟨g1,g2,g3⟩ A hA
  simp only at g1 g2 g3 hA
  by_cases hi:i<l[j].l.length
  case neg=>
   rw[List.drop_eq_nil_of_le (by omega),List.filter_nil,List.append_nil] at g3
   rw[<-g3] at hput
   have s_:=hi
   try simp[s_]
   repeat' ((first|((first|refine Tp ?_|refine Tn ?_|refine T2 ?_ ?_)<;>intro h_ e_ n_)|refine Dg 11 9 [] [] ?_|refine Dg 12 10 [] [] ?_|rw[Ip]|rw[In]|rw[Fz]|rw[Gz]|fail)<;>first|simp[e_,n_,s_]|simp[s_]|skip)
   refine AW.wkZ (WkZ.freeze [1,2] 12 (.fp [I c,I e,I M,encL DecisionR.enc acc]) (by simp;rw[Zau (by simp) (by simp)];simp)) ?_
   refine Zbx (lit:=λ_=>false) _ _ _ ?_
   simp
   have p1_:=hput
   exact WW
  rw[List.drop_eq_getElem_cons hi,List.filter_cons] at g3
  have hwi:=Zf hi (by simp only[maxLen];omega)
  by_cases hk:l[j].l[i].seq<=M
  ·rw[if_neg (by simp[hk])] at g3
   have s_:=An @hi (An @hwi (An @hk (@DecisionR.enc.eq_1)))
   have q1_:=λs w=>hA (i+1,acc) s w ⟨hi,by simp only;omega,g3⟩ (by simp only;omega)
   exact WW
  ·rw[if_pos (by simp[hk])] at g3
   have g5:(acc++[l[j].l[i]]).length=acc.length+1:=by simp
   have s_:=An @hi (An @hwi (@hk))
   try simp[s_]
   repeat' ((first|((first|refine Tp ?_|refine Tn ?_|refine T2 ?_ ?_)<;>intro h_ e_ n_)|(exact hA (i+1,acc++[l[j].l[i]]) _ Wc ⟨hi,by simp only[g5];omega,by simpa using g3⟩ (by simp only;omega))|refine Dg 11 9 [] [] ?_|refine Dg 12 10 [] [] ?_|rw[Ip]|rw[In]|rw[Fz]|rw[Gz]|fail)<;>first|simp[e_,n_,s_]|simp[s_]|skip)
theorem seq_at {l:List DecisionR} {i:Nat} (hi:i<l.length) (h:i*2<(l.flatMap DecisionR.enc).length):(l.flatMap DecisionR.enc)[i*2]=I l[i].seq:=by
 have h1:=congrArg (λx=>x[0]?) (Zdz hi)
 simp only[List.getElem?_take,List.getElem?_drop] at h1
 rw[List.getElem_eq_iff]
 simpa[DecisionR.enc] using h1
theorem Zgl (l:List RowR) (c e n:Int) (yes:Bool) (R:Zay l):Zd Tryz.prog 95 [encL RowR.enc l,I c,I e,I n,B yes] (.tup [encL RowR.enc (decideS l c e n yes).1,B (decideS l c e n yes).2.1,I (decideS l c e n yes).2.2]):=by
 have hl:=R.len
 have h1:=Zgk l c e n R
 by_cases h6:(askS l c e n).2=6
 case neg=>
  have hs:decideS l c e n yes=(l,(askS l c e n).1,(askS l c e n).2):=by simp[decideS,h6]
  rw[hs]
  generalize askS l c e n=a at*
  refine Pm Tryz.func95 λhfit=> ?_
  simp[Tryz.f95]
  have s_:=h6
  exact WW
 have h6':=h6
 rw[h6] at h1
 generalize(askS l c e n).1=a1 at h1
 obtain⟨hb,hn⟩:=Zhz h6'
 have hp:=ZfG l c
 cases hx:ZZ RowR.client l c with
 |none=>
  rw[Zgw hx] at hp
  have hrow:rowS l c e n=⟨c,e,0,[]⟩:=by unfold rowS;rw[if_neg (by simp[hb]),hx]
  by_cases hr1:64<=l.length
  ·have hs:decideS l c e n yes=(l,false,12):=by simp[decideS,h6',ZP,hx,hr1]
   rw[hs]
   refine Pm Tryz.func95 λhfit=> ?_
   simp[Tryz.f95]
   have s_:=hr1
   have p1_:=hp
   exact WW
  have hs:decideS l c e n yes=(putS RowR.client l ⟨c,e,0,[⟨n,yes⟩]⟩,yes,0):=by
   have:ZP l c e n=false:=by simp[ZP,hx,hr1,hrow]
   simp[decideS,h6',this,hrow,decR,putS]
  rw[hs]
  have hput:=ZfH l ⟨c,e,0,[⟨n,yes⟩]⟩ R.rise (by omega)
  generalize putS RowR.client l ⟨c,e,0,[⟨n,yes⟩]⟩=p at*
  simp only[RowR.enc] at hput
  refine Zd.mkW Tryz.func95 rfl rfl rfl (Ent.mk Tryz.func95 (by kernel_rfl) rfl) (by simp) (by simp) λhfit=> ?_
  have s_:=An @hr1 (@RowR.enc.eq_1)
  try simp[s_]
  repeat' ((first|((first|refine Tp ?_|refine Tn ?_|refine T2 ?_ ?_)<;>intro h_ e_ n_)|(refine AW.seqA (lit:=λ_=>false) ?_;simp[hr1,RowR.enc])|refine Pg h1 ?_|refine Pg hp ?_|rw[Ip]|rw[In]|rw[Fz]|rw[Gz]|fail)<;>first|simp[e_,n_,s_]|simp[s_]|skip)
  refine AW.loopG (lit:=λ_=>false) (λj:Nat=>⟨109,pat [(0,encL RowR.enc l),(3,I n),(4,B yes),(16,.ptr 0 0 0),(17,.own 1 0 0 0 2),(18,I 0)],[.cells 0 [I c,I e,I 0,.sl true 0 []],.cells 0 []]⟩) (λj=>0)
   (λj=>True) 0 ?_ ?_ ?_
  ·exact Wk.trans (Wk.ownNil 17 2 (by simp)) Wa
  ·trivial
  rintro j _ A hA
  try simp
  repeat' ((first|((first|refine Tp ?_|refine Tn ?_|refine T2 ?_ ?_)<;>intro h_ e_ n_)|rw[Ip]|rw[In]|rw[Fz]|rw[Gz]|fail)<;>first|simp[e_,n_]|simp|skip)
  refine AW.seqA (lit:=λ_=>false) ?_
  try simp
  repeat' ((first|((first|refine Tp ?_|refine Tn ?_|refine T2 ?_ ?_)<;>intro h_ e_ n_)|rw[Ip]|rw[In]|rw[Fz]|rw[Gz]|fail)<;>first|simp[e_,n_]|simp|skip)
  refine AW.seqA (lit:=λ_=>false) ?_
  try simp
  repeat' ((first|((first|refine Tp ?_|refine Tn ?_|refine T2 ?_ ?_)<;>intro h_ e_ n_)|rw[Ip]|rw[In]|rw[Fz]|rw[Gz]|fail)<;>first|simp[e_,n_]|simp|skip)
  have en:encL DecisionR.enc [⟨n,yes⟩]= .sl false 1 [I n,B yes]:=rfl
  rw[en] at hput
  refine AW.wkZ (WkZ.freeze [0,1] 16 (.fp [I c,I e,I 0,.sl false 1 [I n,B yes]]) (by simp;rw[Zau (by simp) (by simp)];simp)) ?_
  refine Zbx (lit:=λ_=>false) _ _ _ ?_
  simp
  have p1_:=hput
  exact WW
 |some r=>
  obtain⟨q,hq,e1,e2⟩:=Zcx R.rise hx
  rw[e1] at hp
  by_cases he:r.epoch=e
  case neg=>
   have hrow:rowS l c e n=⟨c,e,0,[]⟩:=by unfold rowS;rw[if_neg (by simp[hb]),hx];simp[he]
   have hs:decideS l c e n yes=(putS RowR.client l ⟨c,e,0,[⟨n,yes⟩]⟩,yes,0):=by
    have:ZP l c e n=false:=by simp[ZP,hx,hrow]
    simp[decideS,h6',this,hrow,decR,putS]
   rw[hs]
   subst e2
   have hput:=ZfH l ⟨c,e,0,[⟨n,yes⟩]⟩ R.rise (by omega)
   generalize putS RowR.client l ⟨c,e,0,[⟨n,yes⟩]⟩=p at*
   simp only[RowR.enc] at hput
   refine Zd.mkW Tryz.func95 rfl rfl rfl (Ent.mk Tryz.func95 (by kernel_rfl) rfl) (by simp) (by simp) λhfit=> ?_
   have s_:=An @hq (An @he (@RowR.enc.eq_1))
   try simp[s_]
   repeat' ((first|((first|refine Tp ?_|refine Tn ?_|refine T2 ?_ ?_)<;>intro h_ e_ n_)|(refine AW.seqA (lit:=λ_=>false) ?_;simp[hq,he,RowR.enc])|refine Pg h1 ?_|refine Pg hp ?_|rw[Ip]|rw[In]|rw[Fz]|rw[Gz]|fail)<;>first|simp[e_,n_,s_]|simp[s_]|skip)
   refine AW.loopG (lit:=λ_=>false) (λj:Nat=>⟨109,pat [(0,encL RowR.enc l),(3,I n),(4,B yes),(16,.ptr 0 0 0),(17,.own 1 0 0 0 2),(18,I 0)],[.cells 0 [I c,I e,I 0,.sl true 0 []],.cells 0 []]⟩) (λj=>0)
    (λj=>True) 0 ?_ ?_ ?_
   ·exact Wk.trans (Wk.ownNil 17 2 (by simp)) Wa
   ·trivial
   rintro j _ A hA
   try simp
   repeat' ((first|((first|refine Tp ?_|refine Tn ?_|refine T2 ?_ ?_)<;>intro h_ e_ n_)|rw[Ip]|rw[In]|rw[Fz]|rw[Gz]|fail)<;>first|simp[e_,n_]|simp|skip)
   refine AW.seqA (lit:=λ_=>false) ?_
   try simp
   repeat' ((first|((first|refine Tp ?_|refine Tn ?_|refine T2 ?_ ?_)<;>intro h_ e_ n_)|rw[Ip]|rw[In]|rw[Fz]|rw[Gz]|fail)<;>first|simp[e_,n_]|simp|skip)
   refine AW.seqA (lit:=λ_=>false) ?_
   try simp
   repeat' ((first|((first|refine Tp ?_|refine Tn ?_|refine T2 ?_ ?_)<;>intro h_ e_ n_)|rw[Ip]|rw[In]|rw[Fz]|rw[Gz]|fail)<;>first|simp[e_,n_]|simp|skip)
   have en:encL DecisionR.enc [⟨n,yes⟩]= .sl false 1 [I n,B yes]:=rfl
   rw[en] at hput
   refine AW.wkZ (WkZ.freeze [0,1] 16 (.fp [I c,I e,I 0,.sl false 1 [I n,B yes]]) (by simp;rw[Zau (by simp) (by simp)];simp)) ?_
   refine Zbx (lit:=λ_=>false) _ _ _ ?_
   simp
   have p1_:=hput
   exact WW
  have hrow:rowS l c e n=r:=by unfold rowS;rw[if_neg (by simp[hb]),hx];simp[he]
  rw[hrow] at hn
  have hok:=R.ok r (Zn _ hx).1
  have hkc:=(Zn _ hx).2
  have hlen:=hok.len
  by_cases hr2:256<=r.l.length
  ·have hs:decideS l c e n yes=(l,false,12):=by simp[decideS,h6',ZP,hrow,hr2]
   rw[hs]
   subst e2
   refine Pm Tryz.func95 λhfit=> ?_
   simp[Tryz.f95]
   have s_:=An @hr2 (An @hq (An @he (@RowR.enc.eq_1)))
   have p1_:=hp
   exact WW
  have hs:decideS l c e n yes=(putS RowR.client l (decR r n yes),yes,0):=by
   have:ZP l c e n=false:=by simp[ZP,hx,hrow,hr2]
   simp[decideS,h6',this,hrow]
  rw[hs]
  have hput:=ZfH l (decR r n yes) R.rise (by omega)
  generalize putS RowR.client l (decR r n yes)=p at*
  have hD:putS DecisionR.seq r.l ⟨n,yes⟩=r.l.takeWhile (λx=>decide (x.seq<n))++(⟨n,yes⟩::r.l.dropWhile (λx=>decide (x.seq<n))):=by
   unfold putS
   rw[<-ZeR n hok.rise,List.filter_eq_self.2]
   intro x hx
   have:=(ZaY _).1 hn x ((List.dropWhile_sublist _).subset hx)
   simpa using this
  unfold decR at hput
  rw[hD,hkc,he] at hput
  simp only[RowR.enc] at hput
  have hmm:∀j,j<=r.l.length->j+1+(r.l.length -j)=r.l.length+1:=λj h=>by omega
  subst e2
  refine Zd.mkW Tryz.func95 rfl rfl rfl (Ent.mk Tryz.func95 (by kernel_rfl) rfl) (by simp) (by simp) λhfit=> ?_
  have s_:=An @hq (An @he (An @hkc (An @hr2 (@RowR.enc.eq_1))))
  try simp[s_]
  repeat' ((first|((first|refine Tp ?_|refine Tn ?_|refine T2 ?_ ?_)<;>intro h_ e_ n_)|(refine AW.seqA (lit:=λ_=>false) ?_;simp[hq,he,hkc,hr2,RowR.enc])|refine Pg h1 ?_|refine Pg hp ?_|rw[Ip]|rw[In]|rw[Fz]|rw[Gz]|fail)<;>first|simp[e_,n_,s_]|simp[s_]|skip)
  refine AW.loopG (lit:=λ_=>false) (λj:Nat=>⟨109,pat [(0,encL RowR.enc l),(3,I n),(4,B yes),(16,.ptr 0 0 0),(17,.own 1 j 0 j 2),(18,I j)],[.cells 0 [I c,I e,I l[q].done,encL DecisionR.enc l[q].l],.cells j ((l[q].l.take j).flatMap DecisionR.enc)]⟩) (λj=>l[q].l.length -j)
   (λj=>j<=l[q].l.length/\l[q].l.take j++(l[q].l.drop j).takeWhile (λx=>decide (x.seq<n))=l[q].l.takeWhile (λx=>decide (x.seq<n))/\(l[q].l.drop j).dropWhile (λx=>decide (x.seq<n))=l[q].l.dropWhile (λx=>decide (x.seq<n))) 0 ?_ ?_ ?_
  ·exact Wk.trans (Wk.ownNil 17 2 (by simp)) (Wk.at _ rfl (by simp[hkc,he]) (by simp[hkc,he]))
  ·exact⟨by simp,by simp,by simp⟩
  rintro j ⟨g1,g2,g3⟩ A hA
  have hlj:(l[q].l.take j).length=j:=by simp;omega
  have hm2:=hmm j g1
  by_cases hj:j<l[q].l.length
  case neg=>
   have hdn:l[q].l.drop j=[]:=List.drop_eq_nil_of_le (by omega)
   rw[hdn,List.takeWhile_nil,List.append_nil] at g2
   rw[<-g3,<-g2,show(l[q].l.drop j).dropWhile (λx=>decide (x.seq<n))=l[q].l.drop j by rw[hdn];rfl] at hput
   have hdd:=Zcd l[q].l j
   have htl:List.take ((l[q].l.length -j)*2) ((l[q].l.drop j).flatMap DecisionR.enc)=(l[q].l.drop j).flatMap DecisionR.enc:=List.take_of_length_le (by simp)
   have hone:∀x∈(l[q].l.drop j).flatMap DecisionR.enc,Zy x=true:=List.all_eq_true.1 (ZbS _)
   have s_:=An @hj (@hlj)
   try simp[s_]
   repeat' ((first|((first|refine Tp ?_|refine Tn ?_|refine T2 ?_ ?_)<;>intro h_ e_ n_)|rw[Ip]|rw[In]|rw[Fz]|rw[Gz]|fail)<;>first|simp[e_,n_,s_]|simp[s_]|skip)
   refine AW.seqA (lit:=λ_=>false) ?_
   have s_:=hlj
   try simp[s_]
   repeat' ((first|((first|refine Tp ?_|refine Tn ?_|refine T2 ?_ ?_)<;>intro h_ e_ n_)|rw[Ip]|rw[In]|rw[Fz]|rw[Gz]|fail)<;>first|simp[e_,n_,s_]|simp[s_]|skip)
   refine AW.seqA (lit:=λ_=>false) ?_
   have s_:=An @hlj (An @hdd (An @hm2 (@htl)))
   try simp[s_]
   repeat' ((first|((first|refine Tp ?_|refine Tn ?_|refine T2 ?_ ?_)<;>intro h_ e_ n_)|rw[Ip]|rw[In]|rw[Fz]|rw[Gz]|fail)<;>first|simp[e_,n_,s_]|simp[s_]|skip)
   refine AW.wkZ (WkZ.freeze [0,1] 16 (.fp [I c,I e,I l[q].done,encL DecisionR.enc (l[q].l.take j++⟨n,yes⟩::l[q].l.drop j)]) (by simp;rw[Zau (by simp) (by simp[hlj];omega)];simp[DecisionR.enc,hm2,hlj];omega)) ?_
   refine Zbx (lit:=λ_=>false) _ _ _ ?_
   simp
   have p1_:=hput
   exact WW
  have hdj:=List.drop_eq_getElem_cons hj
  by_cases hs2:l[q].l[j].seq<n
  case neg=>
   have hd1:(l[q].l.drop j).dropWhile (λx=>decide (x.seq<n))=l[q].l.drop j:=by rw[hdj,List.dropWhile_cons_of_neg (by simpa using hs2)]
   rw[hdj,List.takeWhile_cons_of_neg (by simpa using hs2),List.append_nil] at g2
   rw[hd1] at g3
   rw[<-g3,<-g2] at hput
   have hdd:=Zcd l[q].l j
   have htl:List.take ((l[q].l.length -j)*2) ((l[q].l.drop j).flatMap DecisionR.enc)=(l[q].l.drop j).flatMap DecisionR.enc:=List.take_of_length_le (by simp)
   have hone:∀x∈(l[q].l.drop j).flatMap DecisionR.enc,Zy x=true:=List.all_eq_true.1 (ZbS _)
   have s_:=An @hj (An @hs2 (An @hlj (@DecisionR.enc.eq_1)))
   try simp[s_]
   repeat' ((first|((first|refine Tp ?_|refine Tn ?_|refine T2 ?_ ?_)<;>intro h_ e_ n_)|rw[Ip]|rw[In]|rw[Fz]|rw[Gz]|fail)<;>first|simp[e_,n_,s_]|simp[s_]|skip)
   refine AW.seqA (lit:=λ_=>false) ?_
   have s_:=hlj
   try simp[s_]
   repeat' ((first|((first|refine Tp ?_|refine Tn ?_|refine T2 ?_ ?_)<;>intro h_ e_ n_)|rw[Ip]|rw[In]|rw[Fz]|rw[Gz]|fail)<;>first|simp[e_,n_,s_]|simp[s_]|skip)
   refine AW.seqA (lit:=λ_=>false) ?_
   have s_:=An @hlj (An @hdd (An @hm2 (@htl)))
   try simp[s_]
   repeat' ((first|((first|refine Tp ?_|refine Tn ?_|refine T2 ?_ ?_)<;>intro h_ e_ n_)|rw[Ip]|rw[In]|rw[Fz]|rw[Gz]|fail)<;>first|simp[e_,n_,s_]|simp[s_]|skip)
   refine AW.wkZ (WkZ.freeze [0,1] 16 (.fp [I c,I e,I l[q].done,encL DecisionR.enc (l[q].l.take j++⟨n,yes⟩::l[q].l.drop j)]) (by simp;rw[Zau (by simp) (by simp[hlj];omega)];simp[DecisionR.enc,hm2,hlj];omega)) ?_
   refine Zbx (lit:=λ_=>false) _ _ _ ?_
   simp
   have p1_:=hput
   exact WW
  rw[hdj,List.takeWhile_cons_of_pos (by simpa using hs2)] at g2
  rw[hdj,List.dropWhile_cons_of_pos (by simpa using hs2)] at g3
  have hwj:=Zf hj (by simp only[maxLen];omega)
  have htk:l[q].l.take (j+1)=l[q].l.take j++[l[q].l[j]]:=by simp
  have hfm:(l[q].l.take (j+1)).flatMap DecisionR.enc=(l[q].l.take j).flatMap DecisionR.enc++l[q].l[j].enc:=by rw[htk,List.flatMap_append];simp
  have hsq:=seq_at hj
  have s_:=An @hj (An @hwj (An @hs2 (An @hlj (@hsq))))
  try simp[s_]
  repeat' ((first|((first|refine Tp ?_|refine Tn ?_|refine T2 ?_ ?_)<;>intro h_ e_ n_)|(exact hA (j+1) _ (Wk.cutAt _ rfl (by simp[hlj,hfm]) (by simp[hlj,hfm]) (by simp[hlj,hfm]) (by simp[hlj,hfm])) ⟨hj,by rw[htk,List.append_assoc];exact g2,g3⟩ (by omega))|rw[Ip]|rw[In]|rw[Fz]|rw[Gz]|fail)<;>first|simp[e_,n_,s_]|simp[s_]|skip)
end Go.Proofs.YtgpkaoombhobmaaGreat
