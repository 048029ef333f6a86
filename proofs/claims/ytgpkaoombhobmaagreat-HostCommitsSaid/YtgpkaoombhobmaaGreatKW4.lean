import Derived.Test.YtgpkaoombhobmaaGreatKW3
import Derived.Test.YtgpkaoombhobmaaGreatKP2
import Derived.Test.YtgpkaoombhobmaaGreatKW8
import Derived.Test.YtgpkaoombhobmaaGreatKP1
import Derived.Test.YtgpkaoombhobmaaGreatKW7
import Derived.Test.YtgpkaoombhobmaaGreatRows
import Derived.JoinedCond
set_option linter.unusedVariables false
set_option linter.unusedSimpArgs false
namespace Go.Proofs.YtgpkaoombhobmaaGreat
open Go.Cx Tab
set_option maxHeartbeats 400000
set_option maxRecDepth 40000
theorem keyO_ok (n:OpenR):Zd Tryz.prog 58 [.agg n.enc] (I n.client):=by
 refine Pm Tryz.func58 λhfit=> ?_
 simp[Tryz.f58,OpenR.enc]
abbrev byO:AV:= .fn 104 [.fp [.fn 58 []]]
theorem ZeK (n:OpenR) (k:Int):Zd Tryz.prog 104 [.agg n.enc,I k,.fp [.fn 58 []]] (I (Lib.compareInt n.client k)):=by
 refine Pm Tryz.func104 λhfit=> ?_
 simp[Tryz.f104,OpenR.enc]
 have s_:= @OpenR.enc.eq_1
 have p1_:=keyO_ok n
 have p2_:=Zeo n.client k
 exact WW
abbrev atO (l:List OpenR) (i:Nat):Int:=(l.getD i .zero).client
theorem ZnD (l:List OpenR) (k:Int) (hl:l.length<=1000000):Zd Tryz.prog 103 [encL OpenR.enc l,I k,byO] (.tup [I (bsGo (atO l) k 0 l.length),B (decide (bsGo (atO l) k 0 l.length<l.length)&&decide (atO l (bsGo (atO l) k 0 l.length)=k))]):=by
 refine Pm Tryz.func103 λhfit=> ?_
 simp at hfit
 simp[Tryz.f103]
 refine AW.loopG (lit:=λ_=>false) (λx:Nat×Nat=>⟨49,pat [(0,encL OpenR.enc l),(1,I k),(2,byO),(8,I l.length),(9,I x.1),(10,I x.2)],[]⟩) (λx=>x.2 -x.1) (λx=>x.1<=x.2/\x.2<=l.length/\bsGo (atO l) k x.1 x.2=bsGo (atO l) k 0 l.length) (0,l.length) ?_ ?_ ?_
 ·exact Wk.at _ rfl rfl (by simp)
 ·simp
 rintro⟨i,j⟩ ⟨h1,h2,h3⟩ A hA
 simp only at h1 h2 h3
 have hat:∀m (h:m<l.length),atO l m=(l[m]).client:=λm h=>by simp[atO,List.getD_eq_getElem?_getD,h]
 by_cases h:i<j
 case neg=>
  have hij:i=j:=by omega
  subst hij
  rw[ZdB h] at h3
  by_cases hi:i<l.length
  ·have e1:=hat i hi
   have s_:=An @h (An @hi (An (Eq.symm (h3)) (An @cmp_eq (An @OpenR.enc.eq_1 (@e1)))))
   have p1_:=ZeK l[i] k
   exact WW
  ·have s_:=An @h (An @hi (Eq.symm (h3)))
   exact WW
 rw[ZdA h] at h3
 have hm:(i+j)/2<l.length:=by omega
 have e1:=hat _ hm
 have w1:IntKind.i64.wrap ((i:Int)+j)=(i:Int)+j:=Zg (by omega) (by omega)
 have w2:((i:Int)+j)%18446744073709551616=(i:Int)+j:=by omega
 have w3:((i:Int)+j).fdiv 2=(((i+j)/2:Nat):Int):=by rw[Int.fdiv_eq_ediv_of_nonneg _ (by omega)];omega
 have w4:IntKind.i64.wrap (((i+j)/2:Nat):Int)=(((i+j)/2:Nat):Int):=Zg (by omega) (by omega)
 generalize hmm:(i+j)/2=m at*
 have w5:IntKind.i64.wrap ((m:Int)+1)=((m+1:Nat):Int):=by rw[Zg (by omega) (by omega)];omega
 have hk:atO l m<k\/¬atO l m<k:=Classical.em _
 rcases hk with hk|hk
 ·rw[if_pos hk] at h3
  rw[e1] at hk
  have s_:=An @h (An @w1 (An @w2 (An @w3 (An @w4 (An @w5 (An @hm (An @cmp_lt (An @OpenR.enc.eq_1 (@hk)))))))))
  have q1_:=λs w=>hA (m+1,j) s w ⟨by simp only;omega,h2,h3⟩ (by simp only;omega)
  have p1_:=ZeK l[m] k
  exact WW
 ·rw[if_neg hk] at h3
  rw[e1] at hk
  have s_:=An @h (An @w1 (An @w2 (An @w3 (An @w4 (An @w5 (An @hm (An @cmp_lt (An @OpenR.enc.eq_1 (@hk)))))))))
  have q1_:=λs w=>hA (i,m) s w ⟨by simp only;omega,by simp only;omega,h3⟩ (by simp only;omega)
  have p1_:=ZeK l[m] k
  exact WW
theorem ZoW (l:List OpenR) (k:Int) (hr:Zo OpenR.client l=true) (hl:l.length<=1000000):Zd Tryz.prog 57 [encL OpenR.enc l,I k,.fn 58 []] (.tup [I (placeS OpenR.client l k),B (ZZ OpenR.client l k).isSome]):=by
 have h1:=ZnD l k hl
 have hat:∀m (h:m<l.length),atO l m=(l[m]).client:=λm h=>by simp[atO,List.getD_eq_getElem?_getD,h]
 rw[Zfl OpenR.client hr hat k] at h1
 have e:(decide (placeS OpenR.client l k<l.length)&&decide (atO l (placeS OpenR.client l k)=k))=(ZZ OpenR.client l k).isSome:=by
  cases hf:ZZ OpenR.client l k with
  |some x=>
   obtain⟨hp,e⟩:=Zav OpenR.client hr hf
   rw[hat _ hp,e]
   simp[hp,(Zn OpenR.client hf).2]
  |none=>
   by_cases hp:placeS OpenR.client l k<l.length
   ·have:=ZcN OpenR.client hr hf hp
    rw[hat _ hp]
    simp[this]
   ·simp[hp]
 rw[e] at h1
 refine Pm Tryz.func57 λhfit=> ?_
 simp[Tryz.f57]
 exact WW
theorem Zii (l:List OpenR) (hl:l.length<=1000000):XCall Tryz.prog 54 [encL OpenR.enc l] [] (.own 0 0 0 l.length 17) [.cells 0 (l.flatMap OpenR.enc)]:=by
 refine XCall.mkE 17 (λ_=>false) Tryz.func54 rfl rfl rfl (Ent.mk Tryz.func54 (by kernel_rfl) rfl) (by simp) (by simp) (by simp) (by simp) (by simp) λhfit=> ?_
 simp at hfit
 simp[Tryz.f54]
 rw[if_pos (by simp only[maxLen];omega)]
 simp
 intro h0
 subst h0
 simp
theorem ZqO (l:List OpenR) (i:Nat) (x:OpenR) (hi:i<=l.length) (hl:l.length<=1000000):XCall Tryz.prog 205 [.own 0 0 0 l.length 17,I i,.sl true 1 x.enc] [.cells 0 (l.flatMap OpenR.enc)] (.own 0 1 0 (l.length+1) 17) [.cells 1 ((insL l i x).flatMap OpenR.enc)]:=by
 by_cases hi2:i=l.length
 case pos=>
  subst hi2
  refine XCall.mkG (λs (_:Unit)=>s) (λ_=>false) Tryz.func205 rfl rfl rfl (Ent.mk Tryz.func205 (by kernel_rfl) rfl) (by simp) (by simp) (by simp) (by simp) (by simp) λhfit=> ?_
  refine⟨WkE.one _ _,λ_=> ?_⟩
  simp[Tryz.f205]
  rw[if_pos (by simp only[maxLen];omega)]
  simp
  exact⟨_,Wk.refl _ _,by simp[Zed]⟩
 have hi3:i<l.length:=by omega
 have hcp:∀cap,l.length<=cap->(l.length*17+(cap*17 -l.length*17))/17=cap:=λcap h=>by omega
 have hw1:IntKind.i64.wrap ((l.length:Int)+1)=((l.length+1:Nat):Int):=by rw[Zg (by omega) (by omega)];omega
 have hw2:IntKind.i64.wrap ((i:Int)+1)=((i+1:Nat):Int):=by rw[Zg (by omega) (by omega)];omega
 have hw3:IntKind.i64.wrap ((l.length:Int)+1 -i)=((l.length+1 -i:Nat):Int):=by rw[Zg (by omega) (by omega)];omega
 have hw4:((i:Int)+((l.length+1 -i:Nat):Int)).toNat=l.length+1:=by omega
 have hm1:min 1 (l.length+1 -i)=1:=by omega
 have hm2:∀cap,l.length<=cap->min (i*17) (l.length*17+(cap*17 -l.length*17))=i*17:=λcap h=>by omega
 have hov:∀(lb:Nat) (h:Za) (y:ABlk) (Q:AV->Za->Prop),h[0]? =some y->(blkCells y).map (·.1)=some 0->Q (B false) h->AInv Tryz.prog (.fn 232 []) [.sl true 1 x.enc,.own 0 0 (i+1) lb 17] h Q:=λlb h y Q hy hv hq=>
  ZbA Tryz.func232 (by kernel_rfl) rfl (by kernel_rfl) rfl rfl (by kernel_rfl) (k:=17) (by kernel_rfl) true 1 _ _ 0 0 (i+1) lb hy hv (by omega) Q hq
 refine XCall.mkG (λs (cap:{cap:Nat//l.length<=cap/\cap<=maxLen})=>Zcl s 0 0 17 (l.flatMap OpenR.enc) cap.1) (λ_=>false) Tryz.func205 rfl rfl rfl (Ent.mk Tryz.func205 (by kernel_rfl) rfl) (by simp) (by simp) (by simp) (by simp) (by simp) λhfit=> ?_
 refine⟨WkE.full (t:=0) (by simp) (by simp) (by omega) (by simp),?_⟩
 rintro⟨cap,hc1,hc2⟩
 have hcp1:=hcp cap hc1
 have hm3:=hm2 cap hc1
 have hi4:¬i=l.length:=by omega
 have hle:i<=l.length:=by omega
 generalize hA:List.replicate (cap*17 -l.length*17) AV.any=A
 have hAl:A.length=cap*17 -l.length*17:=by rw[<-hA];simp
 have hLl:(l.flatMap OpenR.enc).length=l.length*17:=Zlq l
 have hta:(l.flatMap OpenR.enc++A).take (i*17)=(l.flatMap OpenR.enc).take (i*17):=List.take_append_of_le_length (by rw[hLl];omega)
 have hdr:(l.flatMap OpenR.enc).drop (i*17)=(l.drop i).flatMap OpenR.enc:=ZmX l i
 have hq0:(l.flatMap OpenR.enc++A).drop (i*17)=(l.drop i).flatMap OpenR.enc++A:=by rw[List.drop_append_of_le_length (by rw[hLl];omega),hdr]
 have hdl:((l.drop i).flatMap OpenR.enc).length=l.length*17 -i*17:=by rw[Zlq,List.length_drop];omega
 by_cases hr:l.length+1<=cap
 ·have hm4:min (l.length+1 -i) (l.length -i)=l.length -i:=by omega
  have hm5:min ((l.length+1 -i)*17) ((l.length -i)*17+(cap*17 -l.length*17))=(l.length+1 -i)*17:=by omega
  have hm6:min ((l.length+1 -i)*17) (l.length*17+(cap*17 -l.length*17) -i*17)=(l.length+1 -i)*17:=by omega
  have hq1:List.take ((l.length -i)*17) (List.take ((l.length+1 -i)*17) ((l.drop i).flatMap OpenR.enc++A))=(l.drop i).flatMap OpenR.enc:=by
   rw[List.take_take,Nat.min_eq_left (by omega),List.take_left' (by rw[hdl];omega)]
  have hq2:(putAt (l.flatMap OpenR.enc++A) ((i+1)*17) ((l.drop i).flatMap OpenR.enc)).length=cap*17:=by
   rw[ZD (by rw[List.length_append,hLl,hAl,hdl];omega),List.length_append,hLl,hAl];omega
  have hq3:(putAt (putAt (l.flatMap OpenR.enc++A) ((i+1)*17) ((l.drop i).flatMap OpenR.enc)) (i*17) x.enc).take ((l.length+1)*17)=(insL l i x).flatMap OpenR.enc:=by
   have:=Zeb (L:=l.flatMap OpenR.enc) (A:=A) (X:=x.enc) (a:=i*17) (k:=17) hLl (by omega) rfl (by rw[hAl];omega)
   rw[Zlu,hq0,List.take_left' (by rw[hdl])] at this
   rw[show(i+1)*17=i*17+17 by omega,show(l.length+1)*17=l.length*17+17 by omega]
   exact this
  have hone:∀y∈(l.drop i).flatMap OpenR.enc,Zy y=true:=List.all_eq_true.1 (Zhu _)
  simp[Tryz.f205,Zcl,hA]
  have s_:=An @hcp1 (An @hw1 (An @hw2 (An @hw3 (An @hw4 (An @hm1 (An @hm3 (An @hm4 (An @hq0 (An @hq1 (An @hq2 (An @hi3 (An @hi4 (An @hle (@hr))))))))))))))
  try simp[s_]
  repeat' ((first|((first|refine Tp ?_|refine Tn ?_|refine T2 ?_ ?_)<;>intro h_ e_ n_)|(refine hov _ _ _ _ rfl rfl ?_;simp)|(refine optBif ⟨rfl,by rw[List.length_append,hLl,hAl];omega,by rw[List.length_take,List.length_append,hdl,hAl];omega,by rw[hm4,hq1];exact hone⟩ ?_;simp)|refine Dg 11 9 [] [] ?_|refine Dg 15 9 [] [] ?_|rw[Ip]|rw[In]|rw[Fz]|rw[Gz]|fail)<;>first|simp[e_,n_,s_]|simp[s_]|skip)
  exact⟨_,Wk.trans (Wk.prefix 0 0 ((l.length+1)*17) rfl rfl) (Wk.bump 6 0 0 0 (l.length+1) 17 (by simp) rfl),by simp[hq3]⟩
 ·have hm5:min ((l.length -i)*17) ((l.length -i)*17+(cap*17 -l.length*17))=(l.length -i)*17:=by omega
  have hq1:List.take ((l.length -i)*17) (List.take ((l.length -i)*17) ((l.drop i).flatMap OpenR.enc++A))=(l.drop i).flatMap OpenR.enc:=by
   rw[List.take_take,Nat.min_self,List.take_left' (by rw[hdl];omega)]
  have hq4:List.take ((l.length -i)*17) ((l.drop i).flatMap OpenR.enc)=(l.drop i).flatMap OpenR.enc:=List.take_of_length_le (by rw[hdl];omega)
  have hone:∀y∈(l.drop i).flatMap OpenR.enc,Zy y=true:=List.all_eq_true.1 (Zhu _)
  simp[Tryz.f205,Zcl,hA]
  generalize hZ:(List.replicate (l.length+1 -i) [AV.val (Value.int IntKind.i64 0),AV.val (Value.int IntKind.i64 0),AV.val (Value.int IntKind.i64 0),AV.val (Value.int IntKind.i64 0),AV.val (Value.int IntKind.i64 0),AV.sl true 0 [],AV.val (Value.int IntKind.i64 0),AV.sl true 0 [],AV.val (Value.int IntKind.i64 0),AV.sl true 0 [],AV.val (Value.int IntKind.i64 0),AV.val (Value.int IntKind.i64 0),AV.val (Value.int IntKind.i64 0),AV.val (Value.int IntKind.i64 0),AV.val (Value.string ByteArray.empty),AV.sl true 0 [],AV.val (Value.int IntKind.i64 0)]).flatten=Z
  have hZl:Z.length=(l.length+1 -i)*17:=by rw[<-hZ];simp
  have hta':((l.flatMap OpenR.enc).take (i*17)).length=i*17:=by rw[List.length_take,hLl];omega
  have hq2:(putAt ((l.flatMap OpenR.enc).take (i*17)++Z) (i*17) x.enc).length=(l.length+1)*17:=by
   rw[ZD (by rw[List.length_append,hta',hZl,ZpZ];omega),List.length_append,hta',hZl];omega
  have hq3:putAt (putAt ((l.flatMap OpenR.enc).take (i*17)++Z) (i*17) x.enc) ((i+1)*17) ((l.drop i).flatMap OpenR.enc)=(insL l i x).flatMap OpenR.enc:=by
   have:=Zec (L:=l.flatMap OpenR.enc) (A:=A) (X:=x.enc) (Z:=Z) (a:=i*17) (k:=17) hLl (by omega) rfl (by rw[hZl];omega)
   rw[Zlu,hta,hq0,List.take_left' (by rw[hdl])] at this
   rw[show(i+1)*17=i*17+17 by omega]
   exact this
  have s_:=An @hcp1 (An @hw1 (An @hw2 (An @hw3 (An @hw4 (An @hm1 (An @hm3 (An @hq0 (An @hq1 (An @hq4 (An @hta (An @hZ (An @hi3 (An @hi4 (An @hle (@hr)))))))))))))))
  try simp[s_]
  repeat' ((first|((first|refine Tp ?_|refine Tn ?_|refine T2 ?_ ?_)<;>intro h_ e_ n_)|(refine optBif ⟨by rw[hq2];omega,hone⟩ ?_;simp)|refine Dg 11 9 [] [] ?_|refine Dg 15 9 [] [] ?_|rw[Ip]|rw[In]|rw[Fz]|rw[Gz]|fail)<;>first|simp[e_,n_,s_]|simp[s_]|skip)
  exact⟨_,Wk.move 6 0 1 0 0 (l.length+1) 17 (by decide) (by simp;omega) rfl rfl rfl,by simp[hq3]⟩
theorem ZqP (l:List OpenR) (g:FuncId) (cap:List AV) (p:OpenR->Bool) (hcap:cap.all neat=true) (hp:∀x∈l,Zd Tryz.prog g (.agg x.enc::cap) (B (p x))) (hl:l.length<=1000000):Zd Tryz.prog 98 [encL OpenR.enc l,.fn g cap] (I (idxS p l)):=by
 refine Zd.mk (λ_=>false) Tryz.func98 rfl rfl rfl (Ent.mk Tryz.func98 (by kernel_rfl) rfl) (by simp[hcap]) (by simp) λhfit=> ?_
 simp at hfit
 simp[Tryz.f98]
 refine AW.loopG (lit:=λ_=>false) (λi:Nat=>⟨19,pat [(0,encL OpenR.enc l),(1,.fn g cap),(7,I l.length),(8,I i)],[]⟩) (λi=>l.length -i) (λi=>i<=l.length/\ZaR p i (l.drop i)=idxS p l) 0 ?_ ?_ ?_
 ·exact Wk.at _ rfl rfl (by simp)
 ·simp[idxS]
 rintro i ⟨h1,h2⟩ A hA
 by_cases hi:i<l.length
 case neg=>
  rw[Zce hi] at h2
  have s_:=An @hi (Eq.symm (h2))
  exact WW
 rw[ZcM hi] at h2
 have hw:=Zf hi hfit.1.1
 have hpi:=hp l[i] (List.getElem_mem hi)
 cases hpp:p l[i] with
 |true=>
  rw[hpp] at hpi
  simp only[hpp,if_true] at h2
  have s_:=An @hi (An (Eq.symm (h2)) (@hpp))
  have p1_:=hpi
  exact WW
 |false=>
  rw[hpp] at hpi
  simp only[hpp,Bool.false_eq_true,if_false] at h2
  have s_:=An @hi (An @hw (@hpp))
  have q1_:=λs w=>hA (i+1) s w ⟨by omega,h2⟩ (by omega)
  have p1_:=hpi
  exact WW
theorem ZnE (l:List OpenR) (g:FuncId) (cap cap':List AV) (hc:Za) (p:OpenR->Bool) (hcap:cap'.all neat=true) (hcr:cap.all (refsLt (hc.length+1))=true) (hhc:hc.all (ABlk.refsLt (hc.length+1))=true) (hfr:∀(f:Nat) (b0:ABlk) (tl:Za),frzs (b0::(hc++tl)) 0 (f+3) cap=some cap')
  (hp:∀x∈l,Zd Tryz.prog g (.agg x.enc::cap') (B (p x))) (hl:l.length<=1000000):XCall Tryz.prog 53 [.own 0 0 0 l.length 17,.fn g cap] (.cells 0 (l.flatMap OpenR.enc)::hc) (.own 0 0 0 (l.filter λx=> !p x).length 17) (.cells 0 ((l.filter λx=> !p x).flatMap OpenR.enc)::hc):=by
 refine XCall.mkG (λs (_:Unit)=>s) (λ_=>false) Tryz.func53 rfl rfl rfl (Ent.mk Tryz.func53 (by kernel_rfl) rfl) (by simp;simpa using hcr) (by simp;simpa using hhc) (by simp) (by simp) (by simp;simpa using hhc) λhfit=> ?_
 refine⟨WkE.one _ _,λ_=> ?_⟩
 have hix:=ZqP l g cap' p hcap hp hl
 have hfz:∀(v:AV) (b0:ABlk) (tl:Za),neat v=true->(([v]++cap).mapM (frz (b0::(hc++tl)) 0 12))=some (v::cap'):=λv b0 tl hv=>by
  have h2:cap.mapM (frz (b0::(hc++tl)) 0 12)=some cap':=hfr 9 b0 tl
  rw[List.singleton_append,List.mapM_cons,ZbR _ _ _ hv,h2];rfl
 have hlend:∀{Q:AV->Za->Prop},Q (I (idxS p l)) (.cells 0 (l.flatMap OpenR.enc)::hc)->AInv Tryz.prog (.fn 98 []) [.own 0 0 0 l.length 17,.fn g cap] (.cells 0 (l.flatMap OpenR.enc)::hc) Q:=λhq=>
  AInv.lend hix rfl (by
   have:=hfr 8 (.cells 0 (l.flatMap OpenR.enc)) []
   rw[List.append_nil] at this
   rw[List.append_nil,List.mapM_cons,List.mapM_cons,List.mapM_nil,ZmI,List.getElem?_cons_zero,Zae (by simp) (by simp),Zsp,this]
   rfl) hq
 have hzs:∀x:OpenR,setMany [AV.val (Value.int IntKind.i64 0),AV.val (Value.int IntKind.i64 0),AV.val (Value.int IntKind.i64 0),AV.val (Value.int IntKind.i64 0),AV.val (Value.int IntKind.i64 0),AV.sl true 0 [],AV.val (Value.int IntKind.i64 0),AV.sl true 0 [],AV.val (Value.int IntKind.i64 0),AV.sl true 0 [],AV.val (Value.int IntKind.i64 0),AV.val (Value.int IntKind.i64 0),AV.val (Value.int IntKind.i64 0),AV.val (Value.int IntKind.i64 0),AV.val (Value.string ByteArray.empty),AV.sl true 0 [],AV.val (Value.int IntKind.i64 0)] 0 x.enc=x.enc:=λ_=>rfl
 by_cases h0:idxS p l= -1
 ·obtain⟨e1,_⟩:=Zfm h0
  simp[Tryz.f53]
  have s_:=h0
  try simp[s_]
  repeat' ((first|((first|refine Tp ?_|refine Tn ?_|refine T2 ?_ ?_)<;>intro h_ e_ n_)|(refine hlend ?_;simp[h0])|refine Dg 11 9 [] [] ?_|refine Dg 15 9 [] [] ?_|rw[Ip]|rw[In]|rw[Fz]|rw[Gz]|fail)<;>first|simp[e_,n_,s_]|simp[s_]|skip)
  exact⟨_,Wk.refl _ _,by simp[e1]⟩
 obtain⟨j0,hj0,e1,e2,e3⟩:=Zfn h0
 have hw0:IntKind.i64.wrap ((j0:Int)+1)=(j0:Int)+1:=Zg (by omega) (by omega)
 have hn0:¬((j0:Int)= -1):=by omega
 simp[Tryz.f53]
 have s_:=An @e1 (An @hw0 (@hn0))
 try simp[s_]
 repeat' ((first|((first|refine Tp ?_|refine Tn ?_|refine T2 ?_ ?_)<;>intro h_ e_ n_)|(refine hlend ?_;simp[e1,hw0,hn0])|refine Dg 11 9 [] [] ?_|refine Dg 15 9 [] [] ?_|rw[Ip]|rw[In]|rw[Fz]|rw[Gz]|fail)<;>first|simp[e_,n_,s_]|simp[s_]|skip)
 refine AW.loopG (lit:=λ_=>false) (λx:Nat×Nat×List OpenR=>⟨42,pat [(0,.own 0 0 0 l.length 17),(1,.fn g cap),(5,I x.1),(6,I x.2.1)],.cells 0 (x.2.2.flatMap OpenR.enc)::hc⟩) (λx=>l.length -x.2.1) (λx=>Zet p l x.2.2 x.1 x.2.1) (j0,j0+1,l) ?_ ?_ ?_
 ·exact Wk.at _ rfl rfl (by simp)
 ·exact .start hj0 e2 e3
 rintro⟨i,j,m⟩ hd A hA
 simp only at hd hA
 have hml:=hd.len
 by_cases hj:j<l.length
 case neg=>
  obtain⟨d1,d2,d3⟩:=hd.done hj
  have s_:=An @hj (@hml)
  try simp[s_]
  repeat' ((first|((first|refine Tp ?_|refine Tn ?_|refine T2 ?_ ?_)<;>intro h_ e_ n_)|refine Dg 11 9 [] [] ?_|refine Dg 15 9 [] [] ?_|rw[Ip]|rw[In]|rw[Fz]|rw[Gz]|fail)<;>first|simp[e_,n_,s_]|simp[s_]|skip)
  exact⟨_,Wk.prefix 0 0 (i*17) rfl rfl,by simp[d2],by
   have:(putAt (m.flatMap OpenR.enc) (i*17) (zeros [AV.val (Value.int IntKind.i64 0),AV.val (Value.int IntKind.i64 0),AV.val (Value.int IntKind.i64 0),AV.val (Value.int IntKind.i64 0),AV.val (Value.int IntKind.i64 0),AV.sl true 0 [],AV.val (Value.int IntKind.i64 0),AV.sl true 0 [],AV.val (Value.int IntKind.i64 0),AV.sl true 0 [],AV.val (Value.int IntKind.i64 0),AV.val (Value.int IntKind.i64 0),AV.val (Value.int IntKind.i64 0),AV.val (Value.int IntKind.i64 0),AV.val (Value.string ByteArray.empty),AV.sl true 0 [],AV.val (Value.int IntKind.i64 0)] (l.length -i))).take (i*17)=(m.take i).flatMap OpenR.enc:=by
    rw[<-ZmW]
    unfold putAt
    rw[List.append_assoc,List.take_left' (by simp;omega)]
   simp only[zeros] at this
   simp[this,d1]⟩
 have hmj:=hd.get hj
 have hx:=hp l[j] (List.getElem_mem hj)
 have hw:IntKind.i64.wrap ((j:Int)+1)=((j+1:Nat):Int):=by rw[Zg (by omega) (by omega)];omega
 have hi:=hd.lt
 have hwi:IntKind.i64.wrap ((i:Int)+1)=((i+1:Nat):Int):=by rw[Zg (by omega) (by omega)];omega
 cases hpp:p l[j] with
 |true=>
  rw[hpp] at hx
  have hlx:∀(b0:ABlk) (tl:Za) {Q:AV->Za->Prop},Q (B true) (b0::(hc++tl))->AInv Tryz.prog (.fn g cap) [.agg l[j].enc] (b0::(hc++tl)) Q:=λb0 tl Q hq=>AInv.lend hx rfl (hfz _ b0 tl (by simp)) hq
  have s_:=An @hj (An @hml (An @hzs (An @hw (@hmj))))
  try simp[s_]
  repeat' ((first|((first|refine Tp ?_|refine Tn ?_|refine T2 ?_ ?_)<;>intro h_ e_ n_)|(refine hlx _ _ ?_;simp[hw])|(exact hA (i,j+1,m) _ (Wk.cutAt _ rfl (by simp) (by simp) (by simp;simpa using hhc) (by simp;simpa using hcr)) (hd.skip hj hpp) (by simp only;omega))|refine Dg 11 9 [] [] ?_|refine Dg 15 9 [] [] ?_|rw[Ip]|rw[In]|rw[Fz]|rw[Gz]|fail)<;>first|simp[e_,n_,s_]|simp[s_]|skip)
 |false=>
  rw[hpp] at hx
  have hlx:∀(b0:ABlk) (tl:Za) {Q:AV->Za->Prop},Q (B false) (b0::(hc++tl))->AInv Tryz.prog (.fn g cap) [.agg l[j].enc] (b0::(hc++tl)) Q:=λb0 tl Q hq=>AInv.lend hx rfl (hfz _ b0 tl (by simp)) hq
  have him:i<m.length:=by omega
  have hil:i<l.length:=by omega
  have s_:=An @hj (An @hml (An @hzs (An @hw (An @hwi (An @hmj (An @him (@hil)))))))
  try simp[s_]
  repeat' ((first|((first|refine Tp ?_|refine Tn ?_|refine T2 ?_ ?_)<;>intro h_ e_ n_)|(refine hlx _ _ ?_;simp[hw,hwi,hmj,him,hil])|(exact hA (i+1,j+1,m.set i l[j]) _ (Wk.cutAt _ rfl (by simp) (by simp) (by simp;simpa using hhc) (by simp;simpa using hcr)) (hd.keep hj hpp) (by simp only;omega))|refine Dg 11 9 [] [] ?_|refine Dg 15 9 [] [] ?_|rw[Ip]|rw[In]|rw[Fz]|rw[Gz]|fail)<;>first|simp[e_,n_,s_]|simp[s_]|skip)
theorem encH7 (h:Zk):h.enc=[encL ChainR.enc h.s.l,encL CountR.enc h.s.nexts,I h.s.stamp,encL RowR.enc h.rows,encL OpenR.enc h.opens,I h.now,I h.lease]:=rfl
theorem zeroO:OpenR.zero.enc=[I 0,I 0,I 0,I 0,I 0,.sl false 0 [],I 0,.sl false 0 [],I 0,.sl false 0 [],I 0,I 0,I 0,I 0,S .empty,.sl false 0 [],I 0]:=rfl
@[simp] theorem zsetO (c:OpenR):setMany [AV.val (Value.int IntKind.i64 0),AV.val (Value.int IntKind.i64 0),AV.val (Value.int IntKind.i64 0),AV.val (Value.int IntKind.i64 0),AV.val (Value.int IntKind.i64 0),AV.sl true 0 [],AV.val (Value.int IntKind.i64 0),AV.sl true 0 [],AV.val (Value.int IntKind.i64 0),AV.sl true 0 [],AV.val (Value.int IntKind.i64 0),AV.val (Value.int IntKind.i64 0),AV.val (Value.int IntKind.i64 0),AV.val (Value.int IntKind.i64 0),AV.val (Value.string ByteArray.empty),AV.sl true 0 [],AV.val (Value.int IntKind.i64 0)] 0 c.enc=c.enc:=rfl
theorem ZE (e:Int):Zd Tryz.prog 78 [I e] (.agg (errR e).enc):=by
 refine Pm Tryz.func78 λhfit=> ?_
 simp[Tryz.f78]
 have s_:=An @errR.eq_1 (@ReplyR.enc.eq_1)
 exact WW
abbrev oTup (o:Option OpenR):AV:= .tup [.agg (o.getD .zero).enc,B o.isSome]
theorem ZoX (h:Zk) (c:Int) (hr:Zo OpenR.client h.opens=true) (hl:h.opens.length<=1000000):Zd Tryz.prog 23 [.agg h.enc,I c] (oTup (findO h c)):=by
 have h1:=ZoW h.opens c hr hl
 show Zd _ _ _ (oTup (ZZ OpenR.client h.opens c))
 cases hx:ZZ OpenR.client h.opens c with
 |none=>
  rw[hx] at h1
  simp only[Option.isSome_none] at h1
  generalize placeS OpenR.client h.opens c=q at*
  refine Pm Tryz.func23 λhfit=> ?_
  simp[Tryz.f23]
  have s_:=zeroO
  exact WW
 |some o=>
  rw[hx] at h1
  simp only[Option.isSome_some] at h1
  obtain⟨hp,hpx⟩:=Zav OpenR.client hr hx
  generalize placeS OpenR.client h.opens c=q at*
  refine Pm Tryz.func23 λhfit=> ?_
  simp[Tryz.f23]
  have s_:=An @hp (@hpx)
  exact WW
theorem ZoY (h:Zk) (o:OpenR) (hr:Zo OpenR.client h.opens=true) (hl:h.opens.length<=100000):Zd Tryz.prog 176 [.agg h.enc,.agg o.enc] (.agg (withO h o).enc):=by
 have h1:=ZoW h.opens o.client hr (by omega)
 have hpl:=ZcK OpenR.client h.opens o.client
 show Zd _ _ _ (.agg (Zk.enc {h with opens:=putS OpenR.client h.opens o}))
 cases hx:ZZ OpenR.client h.opens o.client with
 |none=>
  rw[hx] at h1
  simp only[Option.isSome_none] at h1
  have hins:=ZqO h.opens (placeS OpenR.client h.opens o.client) o hpl (by omega)
  rw[<-Zko OpenR.client hr ((ZaY _).1 hx)]
  generalize placeS OpenR.client h.opens o.client=q at*
  refine Pm Tryz.func176 λhfit=> ?_
  simp[Tryz.f176]
  have s_:=encH7
  have f1_:=F0 [] (Zii h.opens (by omega))
  have f2_:=F0 [3] hins
  exact WW
 |some r=>
  rw[hx] at h1
  simp only[Option.isSome_some] at h1
  obtain⟨hp,hpx⟩:=Zav OpenR.client hr hx
  rw[<-Zkn OpenR.client hr hp (by rw[hpx];exact(Zn _ hx).2)]
  generalize placeS OpenR.client h.opens o.client=q at*
  refine Pm Tryz.func176 λhfit=> ?_
  simp[Tryz.f176]
  have s_:=An @hp (@encH7)
  have f1_:=F0 [] (Zii h.opens (by omega))
  exact WW
theorem setO_enc (f k:OpenR):setMany f.enc 0 k.enc=k.enc:=by
 have:=Zqb (l:=[f]) (i:=0) (by simp) k
 simpa using this
abbrev uTup (u:OpenR×Bool×Bool):AV:= .tup [.agg u.1.enc,B u.2.1,B u.2.2]
theorem Zfw (h:Zk) (m:MsgR) (hr:Zo OpenR.client h.opens=true) (hl:h.opens.length<=1000000):Zd Tryz.prog 76 [.agg h.enc,.agg m.enc] (uTup (ownMsg h m)):=by
 have h1:=ZoX h m.client hr hl
 unfold ownMsg
 cases hx:findO h m.client with
 |none=>
  rw[hx] at h1
  simp only[oTup,Option.getD_none,Option.isSome_none] at h1
  refine Pm Tryz.func76 λhfit=> ?_
  simp[Tryz.f76]
  have s_:=zeroO
  exact WW
 |some o=>
  rw[hx] at h1
  simp only[oTup,Option.getD_some,Option.isSome_some] at h1
  refine Pm Tryz.func76 λhfit=> ?_
  simp[Tryz.f76]
  have s_:=An @isO.eq_1 (An @lateO.eq_1 (@setO_enc))
  exact WW
abbrev hTup (x:Zk×ReplyR):AV:= .tup [.agg x.1.enc,encR x.2]
theorem setO_t (o:OpenR) (t:TxnR):setMany o.enc 4 t.enc=OpenR.enc {o with t:=t}:=rfl
theorem setO_last (o:OpenR) (r:ReplyR):setMany o.enc 10 r.enc=OpenR.enc {o with last:=r}:=rfl
theorem setO_n (o:OpenR) (n:Int):o.enc.set 3 (I n)=OpenR.enc {o with n:=n}:=rfl
theorem setO_until (o:OpenR) (n:Int):o.enc.set 16 (I n)=OpenR.enc {o with until_:=n}:=rfl
theorem setH_enc (f k:Zk):setMany f.enc 0 k.enc=k.enc:=rfl
theorem ZtG (h:Zk) (m:MsgR) (hr:Zo OpenR.client h.opens=true) (hl:h.opens.length<=100000) (hs:h.s.l.length<=2000000) (hw:IntKind.i64.wrap (h.now+h.lease)=h.now+h.lease):Zd Tryz.prog 148 [.agg h.enc,.agg m.enc] (hTup (beginH h m)):=by
 have h1:=ZoX h m.client hr (by omega)
 have h2:=Zfw h m hr (by omega)
 have h3:=ZE 12
 have h3b:=ZE 20
 have h4:=Zxi h.s hs
 have h5:=ZoY h (openS h m) hr hl
 have eo:AV.agg (openS h m).enc= .agg [I m.client,I m.epoch,I m.seq,I 0,I (beginS h.s).stamp,encL NodeR.enc (beginS h.s).was.l,I (beginS h.s).was.next,encL NodeR.enc (beginS h.s).now.l,I (beginS h.s).now.next,enc1 I (beginS h.s).looks,I 0,I 0,I 0,I 0,S .empty,.sl false 0 [],I (h.now+h.lease)]:=rfl
 unfold beginH
 generalize openS h m=u at*
 generalize beginS h.s=b at*
 generalize withO h u=k at*
 rw[eo] at h5
 cases hx:findO h m.client with
 |none=>
  rw[hx] at h1
  rw[Zen hx] at h2
  simp only[oTup,Option.getD_none,Option.isSome_none] at h1
  refine Pm Tryz.func148 λhfit=> ?_
  have d1_:=D0 4 7 [] []
  have d2_:=D0 6 2 [] []
  have d3_:=D0 8 2 [] []
  have d4_:=D0 9 23 [] []
  simp[Tryz.f148]
  have s_:=An @hw (An @repA.eq_1 (An @TxnR.enc.eq_1 (An @FSR.enc.eq_1 (@ReplyR.enc.eq_1))))
  have e1_:=D0 4 7 [2,3] []
  have e2_:=D0 6 4 [2,3] []
  have e3_:=D0 8 4 [2,3] []
  have e4_:=D0 9 23 [2,3] []
  exact WW
 |some o=>
  rw[hx] at h1
  rw[ZbE hx] at h2
  simp only[oTup,Option.getD_some,Option.isSome_some] at h1
  simp only at h2⊢
  generalize isO o m=is at*
  generalize lateO h o m=lt at*
  by_cases q1:m.epoch<=o.epoch
  all_goals
   refine Pm Tryz.func148 λhfit=> ?_
   have d1_:=D0 4 7 [] []
   have d2_:=D0 6 2 [] []
   have d3_:=D0 8 2 [] []
   have d4_:=D0 9 23 [] []
   simp[Tryz.f148]
   have s_:=An @q1 (An @hw (An @repA.eq_1 (An @TxnR.enc.eq_1 (An @FSR.enc.eq_1 (@ReplyR.enc.eq_1)))))
   have e1_:=D0 4 7 [2,3] []
   have e2_:=D0 6 4 [2,3] []
   have e3_:=D0 8 4 [2,3] []
   have e4_:=D0 9 23 [2,3] []
   have p1_:=h3b
   exact WW
theorem ZtH (h:Zk) (m:MsgR) (hr:Zo OpenR.client h.opens=true) (hl:h.opens.length<=100000):Zd Tryz.prog 37 [.agg h.enc,.agg m.enc] (I (mayCallS h m)):=by
 have h2:=Zfw h m hr (by omega)
 unfold mayCallS
 cases hx:findO h m.client with
 |none=>
  rw[Zen hx] at h2
  refine Pm Tryz.func37 λhfit=> ?_
  simp[Tryz.f37]
  exact WW
 |some o=>
  rw[ZbE hx] at h2
  simp only at h2⊢
  generalize isO o m=is at*
  generalize lateO h o m=lt at*
  refine Pm Tryz.func37 λhfit=> ?_
  simp[Tryz.f37]
  exact WW
structure _root_.Go.Cx.Fit (o:OpenR):Prop where
 t:TxnP o.t
 next:o.t.now.next<4611686018427387904
 looks:o.t.looks.length<=900000
theorem Zwq (h:Zk) (m:MsgR) (hr:Zo OpenR.client h.opens=true) (hl:h.opens.length<=100000) (hf:∀o∈h.opens,Fit o) (hm:m.c.wf) (hw:IntKind.i64.wrap (h.now+h.lease)=h.now+h.lease):Zd Tryz.prog 149 [.agg h.enc,.agg m.enc] (hTup (callS h m)):=by
 have h2:=Zfw h m hr (by omega)
 have h3:=ZtH h m hr hl
 unfold callS
 by_cases q:mayCallS h m=0
 case neg=>
  have h4:=ZE (mayCallS h m)
  rw[if_pos q]
  generalize mayCallS h m=e at*
  generalize ownMsg h m=u at*
  refine Pm Tryz.func149 λhfit=> ?_
  have d1_:=D0 4 3 [] []
  have d2_:=D0 6 5 [] []
  have d3_:=D0 8 11 [] []
  have d4_:=D0 9 7 [] []
  simp[Tryz.f149]
  have s_:=q
  have e1_:=D0 4 5 [2,3] []
  have e2_:=D0 6 5 [2,3] []
  have e3_:=D0 8 11 [4] []
  have e4_:=D0 9 7 [2,3] []
  exact WW
 rw[if_neg (by simpa using q)]
 rw[q] at h3
 obtain⟨o,ho,oi,ol,_⟩:=ZoV q
 rw[ho]
 rw[ZbE ho,oi,ol] at h2
 simp only
 by_cases k:m.n=o.n
 ·rw[if_pos k]
  refine Pm Tryz.func149 λhfit=> ?_
  have d1_:=D0 4 3 [] []
  have d2_:=D0 6 5 [] []
  have d3_:=D0 8 11 [] []
  have d4_:=D0 9 7 [] []
  simp[Tryz.f149]
  have s_:=k
  have e1_:=D0 4 5 [2,3] []
  have e2_:=D0 6 5 [2,3] []
  have e3_:=D0 8 11 [4] []
  have e4_:=D0 9 7 [2,3] []
  exact WW
 rw[if_neg k]
 have F:=hf o (Zn OpenR.client ho).1
 have h5:=Znc o.t m.c F.t.nrows F.t.ntree F.next (by have:=F.looks;omega) hm
 have h6:=ZoY h (Zme h o m) hr hl
 unfold Zme at h6⊢
 generalize stepS o.t m.c=X at*
 generalize hK:withO h _=K at*
 refine Pm Tryz.func149 λhfit=> ?_
 have d1_:=D0 4 3 [] []
 have d2_:=D0 6 5 [] []
 have d3_:=D0 8 11 [] []
 have d4_:=D0 9 7 [] []
 simp[Tryz.f149]
 have s_:=An @k (An @hw (An @setO_t (An @setO_last (An @setO_n (@setO_until)))))
 have e1_:=D0 4 5 [2,3] []
 have e2_:=D0 6 5 [2,3] []
 have e3_:=D0 8 11 [4] []
 have e4_:=D0 9 7 [2,3] []
 exact WW
theorem ZnF (o:OpenR) (m:MsgR):Zd Tryz.prog 181 [.agg o.enc,.fp m.enc] (B (decide (o.client=m.client))):=by
 refine Pm Tryz.func181 λhfit=> ?_
 simp[Tryz.f181]
theorem ZtI {h:Zk} {m:MsgR} (hn:¬(m.kind=3/\(ownMsg h m).2.1=true/\(ownMsg h m).2.2=false/\(ownMsg h m).1.n=m.n)):tryS h m=(h.s,false):=by
 unfold tryS
 split
 ·rfl
 ·rename_i o ho
  rw[if_neg]
  rintro⟨h1,h2,h3,h4,_⟩
  rw[ZbE ho] at hn
  exact hn ⟨h1,h2,by simp[h2,h3],h4⟩
theorem ZtJ {h:Zk} {m:MsgR} (hn:m.kind=3/\(ownMsg h m).2.1=true/\(ownMsg h m).2.2=false/\(ownMsg h m).1.n=m.n):findO h m.client=some (ownMsg h m).1/\tryS h m=if(commitS h.s (ownMsg h m).1.t).2=0 then((commitS h.s (ownMsg h m).1.t).1,true) else(h.s,false):=by
 unfold tryS
 obtain⟨h1,h2,h3,h4⟩:=hn
 cases hx:findO h m.client with
 |none=>rw[Zen hx] at h2;cases h2
 |some o=>
  rw[ZbE hx] at h2 h3 h4⊢
  simp only at h2 h3 h4⊢
  have h3':lateO h o m=false:=by rw[h2] at h3;simpa using h3
  refine⟨by first|trivial|rfl,?_⟩
  by_cases z:(commitS h.s o.t).2=0
  ·rw[if_pos ⟨h1,h2,h3',h4,z⟩,if_pos z]
  ·rw[if_neg (λg=>z g.2.2.2.2),if_neg z]
theorem ZqQ (h:Zk) (m:MsgR) (hr:Zo OpenR.client h.opens=true) (hl:h.opens.length<=100000) (hf:∀o∈h.opens,Fit o) (hP:ZJ h.s) (hb:ZaD 90000 h.s) (hs:h.s.stamp<4611686018427387904) (hR:Zay h.rows):Zd Tryz.prog 150 [.agg h.enc,.agg m.enc] (hTup (decideH h m)):=by
 have h2:=Zfw h m hr (by omega)
 have h3:=ZE 20
 have h4:=ZE 16
 have h5:=ZE 15
 have hdel:=ZnE h.opens 181 [.ptr 1 0 0] [.fp m.enc] [.cells 0 m.enc] (λx=>decide (x.client=m.client)) (by simp) (by simp) (by simp) (λfu b0 tl=>by simp) (λx _=>ZnF x m) (by omega)
 have hcl:=Zii h.opens (by omega)
 by_cases hc:m.kind=3/\(ownMsg h m).2.1=true/\(ownMsg h m).2.2=false/\(ownMsg h m).1.n=m.n
 ·obtain⟨ho,ht⟩:=ZtJ hc
  have F:=hf _ (Zn OpenR.client ho).1
  have h6:=ZuI h.s (ownMsg h m).1.t hP (hb.mono (by omega)) (by omega) F.t (Zxn h.s _ hP (hb.b (by omega)) F.t.rise (by have:=F.looks;omega))
  unfold decideH ZaT
  rw[ht]
  obtain⟨c1,c2,c3,c4⟩:=hc
  have c5:¬m.kind=5:=by omega
  rw[if_neg (λg=>c5 g.1),c2]
  generalize ownMsg h m=u at*
  obtain⟨o,is,late⟩:=u
  simp only at c2 c3 c4 h6 F ho⊢
  subst c2 c3
  clear ho ht F
  by_cases z:(commitS h.s o.t).2=0
  ·rw[if_pos z]
   have h7:=Ziu h.rows m.client m.epoch m.seq true hR
   have h8:=ZE (decideS h.rows m.client m.epoch m.seq true).2.2
   generalize commitS h.s o.t=C at*
   generalize decideS h.rows m.client m.epoch m.seq true=D at*
   refine Pm Tryz.func150 λhfit=> ?_
   have d1_:=D0 3 2 [] []
   have d2_:=D0 13 3 [] []
   have d3_:=D0 20 2 [] []
   have d4_:=D0 21 2 [] []
   simp[Tryz.f150]
   have s_:=An @c1 (An @c4 (An @z (An @encH7 (An @StoreR.enc.eq_1 (An @rep0.eq_1 (@ReplyR.enc.eq_1))))))
   have e1_:=D0 3 4 [2,3] []
   have e2_:=D0 13 5 [2,3] []
   have e3_:=D0 20 4 [2,3] []
   have e4_:=D0 21 4 [2,3] []
   have f1_:=F0 [] hcl
   have f2_:=F0 [7,1] hdel
   exact WW
  ·rw[if_neg z]
   have h7:=Ziu h.rows m.client m.epoch m.seq false hR
   have h8:=ZE (decideS h.rows m.client m.epoch m.seq false).2.2
   generalize commitS h.s o.t=C at*
   generalize decideS h.rows m.client m.epoch m.seq false=D at*
   refine Pm Tryz.func150 λhfit=> ?_
   have d1_:=D0 3 2 [] []
   have d2_:=D0 13 3 [] []
   have d3_:=D0 20 2 [] []
   have d4_:=D0 21 2 [] []
   simp[Tryz.f150]
   have s_:=An @c1 (An @c4 (An @z (@encH7)))
   have e1_:=D0 3 4 [2,3] []
   have e2_:=D0 13 5 [2,3] []
   have e3_:=D0 20 4 [2,3] []
   have e4_:=D0 21 4 [2,3] []
   have f1_:=F0 [] hcl
   have f2_:=F0 [7,1] hdel
   exact WW
 ·unfold decideH ZaT
  rw[ZtI hc]
  have h7:=Ziu h.rows m.client m.epoch m.seq false hR
  have h8:=ZE (decideS h.rows m.client m.epoch m.seq false).2.2
  generalize decideS h.rows m.client m.epoch m.seq false=D at*
  generalize ownMsg h m=u at*
  obtain⟨o,is,late⟩:=u
  simp only at hc h2⊢
  by_cases hx:m.kind=3/\is=true/\late=false
  ·obtain⟨c1,c2,c3⟩:=hx
   subst c2 c3
   have c4:¬o.n=m.n:=λg=>hc ⟨c1,rfl,rfl,g⟩
   refine Pm Tryz.func150 λhfit=> ?_
   have d1_:=D0 3 2 [] []
   have d2_:=D0 13 3 [] []
   have d3_:=D0 20 2 [] []
   have d4_:=D0 21 2 [] []
   simp[Tryz.f150]
   have s_:=An @c1 (An @c4 (@encH7))
   have e1_:=D0 3 4 [2,3] []
   have e2_:=D0 13 5 [2,3] []
   have e3_:=D0 20 4 [2,3] []
   have e4_:=D0 21 4 [2,3] []
   have f1_:=F0 [] hcl
   have f2_:=F0 [6,1] hdel
   exact WW
  have hk:m.kind=3\/m.kind=5\/(¬m.kind=3/\¬m.kind=5):=by omega
  rcases hk with c1|c1|c1<;>cases is<;>cases late<;>first|(exfalso;exact hx ⟨c1,rfl,rfl⟩)|skip
  all_goals
   refine Pm Tryz.func150 λhfit=> ?_
   simp[Tryz.f150]
   have s_:=An @c1 (@encH7)
   try simp[s_]
   repeat' ((first|((first|refine Tp ?_|refine Tn ?_|refine T2 ?_ ?_)<;>intro h_ e_ n_)|(refine AInv.fresh [] hcl (by simp) (by simp) ?_;simp)|(refine AInv.fresh [6,1] hdel (by simp) (by simp) ?_;simp)|refine Pg h2 ?_|refine Pg h3 ?_|refine Pg h4 ?_|refine Pg h7 ?_|refine Pg h8 ?_|refine Pg h5 ?_|refine Dg 3 4 [2,3] [] ?_|refine Dg 13 5 [2,3] [] ?_|refine Dg 20 4 [2,3] [] ?_|refine Dg 21 4 [2,3] [] ?_|rw[Ip]|rw[In]|rw[Fz]|rw[Gz]|fail)<;>first|simp[e_,n_,s_]|simp[s_]|skip)
abbrev waysM:AV:= .fmap [I 1,I 2,I 3,I 4,I 5] [.fn 148 [],.fn 149 [],.fn 150 [],.fn 150 [],.fn 150 []]
theorem ways_ok:Zd Tryz.prog 79 [] waysM:=by
 refine Pm Tryz.func79 λhfit=> ?_
 simp[Tryz.f79]
structure _root_.Go.Cx.FitH (h:Zk):Prop where
 rise:Zo OpenR.client h.opens=true
 few:h.opens.length<=100000
 opens:∀o∈h.opens,Fit o
 store:ZJ h.s
 vers:ZaD 90000 h.s
 stamp:h.s.stamp<4611686018427387904
 rows:Zay h.rows
 lease:IntKind.i64.wrap (h.now+h.lease)=h.now+h.lease
theorem ZtK (h:Zk) (m:MsgR) (F:FitH h) (hm:m.c.wf):Zd Tryz.prog 38 [.agg h.enc,.agg m.enc] (hTup (answerS h m)):=by
 have h0:=ways_ok
 have h1:=ZuC h.rows m.client m.epoch m.seq F.rows
 have h2:=ZuB h.rows m.client m.epoch m.seq F.rows
 have h3:=ZtG h m F.rise F.few (by have:=F.vers.l;omega) F.lease
 have h4:=Zwq h m F.rise F.few F.opens hm F.lease
 have h5:=ZqQ h m F.rise F.few F.opens F.store F.vers F.stamp F.rows
 unfold answerS
 by_cases k6:m.kind=6
 ·have h6:=ZE (forgetS h.rows m.client m.epoch m.seq).2
  rw[if_pos k6]
  clear h2 h3 h4 h5 h0
  generalize forgetS h.rows m.client m.epoch m.seq=X at*
  refine Pm Tryz.func38 λhfit=> ?_
  have d1_:=D0 4 3 [] []
  have d2_:=D0 6 9 [] []
  have d3_:=D0 8 3 [] []
  have d4_:=D0 10 2 [] []
  have d5_:=D0 14 2 [] []
  have d6_:=D0 17 2 [] []
  simp[Tryz.f38]
  have s_:=An @k6 (@encH7)
  have e1_:=D0 4 5 [2,3] []
  have e2_:=D0 8 5 [2,3] []
  have e3_:=D0 10 4 [2,3] []
  have e4_:=D0 14 4 [2,3] []
  have e5_:=D0 17 4 [2,3] []
  exact WW
 rw[if_neg k6]
 clear h1
 have h6:=ZE (askS h.rows m.client m.epoch m.seq).2
 have h7:=ZE 1
 have h8:=ZE 7
 have h9:=ZE 15
 generalize askS h.rows m.client m.epoch m.seq=X at*
 obtain⟨y,e⟩:=X
 simp only at h2 h6⊢
 generalize beginH h m=b1 at*
 generalize callS h m=b2 at*
 generalize decideH h m=b3 at*
 have hk0:m.kind=1\/m.kind=2\/m.kind=3\/m.kind=4\/m.kind=5\/(¬m.kind=1/\¬m.kind=2/\¬m.kind=3/\¬m.kind=4/\¬m.kind=5/\(m.kind<1\/5<m.kind)):=by omega
 have hk:m.kind=1\/m.kind=2\/m.kind=3\/m.kind=4\/m.kind=5\/((m.kind==1)=false/\(m.kind==2)=false/\(m.kind==3)=false/\(m.kind==4)=false/\(m.kind==5)=false/\(m.kind<1\/5<m.kind)):=by
  simpa only[beq_eq_false_iff_ne,ne_eq] using hk0
 have he:(e=0)\/(e=6)\/(¬e=0/\¬e=6):=by omega
 rcases hk with c|c|c|c|c|c<;>rcases he with a|a|a<;>cases y
 all_goals
  refine Pm Tryz.func38 λhfit=> ?_
  have d1_:=D0 4 3 [] []
  have d2_:=D0 6 9 [] []
  have d3_:=D0 8 3 [] []
  have d4_:=D0 10 2 [] []
  have d5_:=D0 14 2 [] []
  have d6_:=D0 17 2 [] []
  simp[Tryz.f38]
  have s_:=An @k6 (An @c (An @a (An @rep0.eq_1 (@ReplyR.enc.eq_1))))
  have e1_:=D0 4 5 [2,3] []
  have e2_:=D0 8 5 [2,3] []
  have e3_:=D0 10 4 [2,3] []
  have e4_:=D0 14 4 [2,3] []
  have e5_:=D0 17 4 [2,3] []
  exact WW
theorem ZdO (h:Zk) (m:MsgR) (F:FitH h) (hm:m.c.wf):Zd Tryz.prog 11 [.agg h.enc,.agg m.enc] (.tup [.agg (handleS h m).1.enc,.agg (handleS h m).2.enc]):=by
 have h1:=ZuB h.rows m.client m.epoch m.seq F.rows
 have h2:=ZtH h m F.rise F.few
 have h3:=ZtK h m F hm
 unfold handleS nS
 generalize answerS h m=A at*
 generalize mayCallS h m=e at*
 generalize askS h.rows m.client m.epoch m.seq=X at*
 by_cases c:m.kind=2<;>by_cases a:X.2=6<;>by_cases b:e=0
 all_goals
  refine Pm Tryz.func11 λhfit=> ?_
  have d1_:=D0 6 14 [] []
  simp[Tryz.f11]
  have s_:=An @c (An @a (An @b (An @setH_enc (An @RspR.enc.eq_1 (@ReplyR.enc.eq_1)))))
  have e1_:=D0 6 14 [2,3] []
  exact WW
noncomputable def ZiC (h:Zk):Bool:= @decide (ZkA h) (Classical.propDecidable _)
theorem Zmh {h:Zk}:ZiC h=true↔ZkA h:=by simp[ZiC]
theorem ZnG {h:Zk} (n:¬ZkA h):ZiC h=false:=by simp[ZiC,n]
structure _root_.Go.Cx.OpenQ (h:Zk) (i:Nat) (o:OpenR):Prop where
 p:OpenP h o
 prev:∀q,h.opens[i -1]? =some q->0<i->q.client<o.client
theorem ZnH (h:Zk) (hb:Zcu h.s):Zd Tryz.prog 12 [.agg h.enc] (B (ZiC h)):=by
 have h1:=Zis h.s
 have h2:=ZnY h.rows
 have h3:=ZfF h.s h.s.stamp hb
 have h4:=Zdi (viewS h.s h.s.stamp)
 have hbad:∀(P:ZkA h->False),ZiC h=false:=λP=>ZnG P
 have hend:(∀(j:Nat) (hj:j<h.opens.length),OpenQ h j h.opens[j])->h.opens.length<=64->0<=h.now->1<=h.lease->ZiC h=(storeB h.s&&(rightT h.rows&&rightF (viewS h.s h.s.stamp))):=λg g1 g2 g3=>by
  have hr:Zo OpenR.client h.opens=true:=ZdS OpenR.client λj hj=>by
   have:=(g (j+1) hj).prev h.opens[j] (by simp) (by omega)
   exact this
  have ho:∀o∈h.opens,OpenP h o:=λo ho=>by
   obtain⟨j,hj,rfl⟩:=List.getElem_of_mem ho
   exact(g j hj).p
  rw[Bool.eq_iff_iff,Zmh]
  simp only[Bool.and_eq_true,ZjK,ZjL,ZhM]
  constructor
  ·intro H;exact⟨H.store,H.rows,H.vrows,H.vtree.right H.vrows⟩
  ·rintro⟨a,b,c,d⟩
   exact⟨a,c,Zdl.tree c d,b,g1,hr,ho,g2,g3⟩
 have hstep:∀(i:Nat) (hi:i<h.opens.length),¬OpenQ h i h.opens[i]->ZiC h=false:=λi hi n=>hbad λH=>n ⟨H.open_ _ (List.getElem_mem hi),λq hq h0=>by
  obtain⟨h1,rfl⟩:=List.getElem?_eq_some_iff.1 hq
  exact Zak OpenR.client H.rise (i -1) i h1 hi (by omega)⟩
 by_cases q:h.opens.length<=64/\0<=h.now/\1<=h.lease
 case neg=>
  rw[hbad λH=>q ⟨H.few,H.now,H.lease⟩]
  clear hbad hend hstep
  have hq:(64<h.opens.length)\/(¬64<h.opens.length/\h.now<0)\/(¬64<h.opens.length/\¬h.now<0/\h.lease<1):=by omega
  rcases hq with c|c|c
  all_goals
   refine Pm Tryz.func12 λhfit=> ?_
   have d1_:=D0 8 47 [] []
   simp[Tryz.f12]
   have s_:=c
   exact WW
 obtain⟨q1,q2,q3⟩:=q
 generalize hB:ZiC h=b at*
 refine Pm Tryz.func12 λhfit=> ?_
 have d1_:=D0 8 47 [] []
 simp[Tryz.f12]
 have c1:¬64<h.opens.length:=by omega
 have c2:¬h.now<0:=by omega
 have c3:¬h.lease<1:=by omega
 have s_:=An @c1 (An @c2 (@c3))
 try simp[s_]
 repeat' ((first|((first|refine Tp ?_|refine Tn ?_|refine T2 ?_ ?_)<;>intro h_ e_ n_)|refine Dg 8 47 [] [] ?_|rw[Ip]|rw[In]|rw[Fz]|rw[Gz]|fail)<;>first|simp[e_,n_,s_]|simp[s_]|skip)
 refine AW.loopG (lit:=λ_=>false) (λi:Nat=>⟨103,pat [(1,.ptr 0 0 0),(3,I i)],[.cells 0 h.enc]⟩) (λi=>h.opens.length -i) (λi=>i<=h.opens.length/\∀(j:Nat) (hj:j<h.opens.length),j<i->OpenQ h j h.opens[j]) 0 ?_ ?_ ?_
 ·exact Wa
 ·exact⟨by simp,λj hj g=>by omega⟩
 rintro i ⟨g1,g2⟩ A hA
 by_cases hi:i<h.opens.length
 case neg=>
  rw[hend (λj hj=>g2 j hj (by omega)) q1 q2 q3]
  clear hend hstep hbad g2 hA
  generalize storeB h.s=x1 at*
  generalize rightT h.rows=x2 at*
  generalize rightF (viewS h.s h.s.stamp)=x3 at*
  generalize viewS h.s h.s.stamp=v at*
  have s_:=hi
  exact WW
 have hwi:=Zf hi (by simp only[maxLen];omega)
 have hst:=hstep i hi
 have h5:=ZjM h.opens[i].t
 have hi1:i -1<h.opens.length:=by omega
 have hwm:0<i->IntKind.i64.wrap ((i:Int) -1)=((i -1:Nat):Int):=λhp=>by rw[Zg (by omega) (by omega)];omega
 have hnext:OpenQ h i h.opens[i]->∀(j:Nat) (hj:j<h.opens.length),j<i+1->OpenQ h j h.opens[j]:=λn j hj hji=>by
  rcases Nat.lt_or_ge j i with g|g
  ·exact g2 j hj g
  ·have:j=i:=by omega
   subst this;exact n
 cases hx:rightTx h.opens[i].t with
 |false=>
  rw[hx] at h5
  have e:=hst λn=>by have:=(ZhY _).2 n.p.t;rw[hx] at this;cases this
  subst e
  clear hend hstep hbad g2 hA hst hnext
  have s_:=hi
  exact WW
 |true=>
 rw[hx] at h5
 have hT:=(ZhY _).1 hx
 have hgood:0<=h.opens[i].client->1<=h.opens[i].epoch->1<=h.opens[i].seq->0<=h.opens[i].n->h.opens[i].t.stamp<=h.s.stamp->(i=0\/h.opens[i -1].client<h.opens[i].client)->OpenQ h i h.opens[i]:=λa1 a2 a3 a4 a5 a6=>⟨⟨a1,a2,a3,a4,hT,a5⟩,λq hq h0=>by
  obtain⟨_,rfl⟩:=List.getElem?_eq_some_iff.1 hq
  exact a6.resolve_left (by omega)⟩
 have hbad2:(h.opens[i].client<0\/h.opens[i].epoch<1\/h.opens[i].seq<1\/h.opens[i].n<0\/h.s.stamp<h.opens[i].t.stamp\/(0<i/\h.opens[i].client<=h.opens[i -1].client))->b=false:=λa=>hst λn=>by
  have c1:=n.p.client;have c2:=n.p.epoch;have c3:=n.p.seq;have c4:=n.p.n;have c5:=n.p.stamp
  rcases Nat.eq_zero_or_pos i with z|z
  ·omega
  ·have:=n.prev h.opens[i -1] (List.getElem?_eq_getElem hi1) z
   omega
 clear hend hstep hbad hst
 rcases Nat.eq_zero_or_pos i with z|z
 ·have z':¬0<i:=by omega
  have s_:=An @hi (An @hwi (@z'))
  try simp[s_]
  repeat' ((first|((first|refine Tp ?_|refine Tn ?_|refine T2 ?_ ?_)<;>intro h_ e_ n_)|(rw[hbad2 (by omega)])|(exact hA (i+1) _ Wc ⟨by omega,hnext (hgood (by omega) (by omega) (by omega) (by omega) (by omega) (.inl z))⟩ (by omega))|refine Pg h5 ?_|refine Dg 8 47 [] [] ?_|rw[Ip]|rw[In]|rw[Fz]|rw[Gz]|fail)<;>first|simp[e_,n_,s_]|simp[s_]|skip)
 ·have hwm:=hwm z
  have s_:=An @hi (An @hwi (An @z (An @hwm (@hi1))))
  try simp[s_]
  repeat' ((first|((first|refine Tp ?_|refine Tn ?_|refine T2 ?_ ?_)<;>intro h_ e_ n_)|(rw[hbad2 (by omega)])|(exact hA (i+1) _ Wc ⟨by omega,hnext (hgood (by omega) (by omega) (by omega) (by omega) (by omega) (.inr (by omega)))⟩ (by omega))|refine Pg h5 ?_|refine Dg 8 47 [] [] ?_|rw[Ip]|rw[In]|rw[Fz]|rw[Gz]|fail)<;>first|simp[e_,n_,s_]|simp[s_]|skip)
structure _root_.Go.Cx.GoodHP (h:Zk) (gs:Bool) (ft:Bool):Prop where
 store:gs=true
 rows:ft=true
 few:h.opens.length<=8
 now:h.now<1152921504606846976
 lease:h.lease<1152921504606846976
 opens:∀o∈h.opens,ZrB o.t=true/\o.last.names.length<=300
 host:ZkA h
noncomputable def goodH (h:Zk):Bool:= @decide (GoodHP h (Zoa h.s) (fewT h.rows.length h.rows)) (Classical.propDecidable _)
theorem ZtL {h:Zk}:goodH h=true↔GoodHP h (Zoa h.s) (fewT h.rows.length h.rows):=by simp[goodH]
theorem ZqR (h:Zk) (hb:Zcu h.s):Zd Tryz.prog 9 [.agg h.enc] (B (goodH h)):=by
 have h1:=Zxk h.s hb
 have h2:=Zxd h.rows
 have h3:=ZnH h hb
 have hbad:∀(P:GoodHP h (Zoa h.s) (fewT h.rows.length h.rows)->False),goodH h=false:=λP=>by simp[goodH];exact P
 have hend:Zoa h.s=true->fewT h.rows.length h.rows=true->h.opens.length<=8->h.now<1152921504606846976->h.lease<1152921504606846976->(∀o∈h.opens,ZrB o.t=true/\o.last.names.length<=300)->goodH h=ZiC h:=λa1 a2 a3 a4 a5 a6=>by
  rw[Bool.eq_iff_iff,Zmh,ZtL]
  exact⟨λg=>g.host,λg=>⟨a1,a2,a3,a4,a5,a6,g⟩⟩
 generalize goodH h=b at*
 generalize hg:Zoa h.s=gs at*
 generalize hf:fewT h.rows.length h.rows=ft at*
 by_cases q:gs=true/\ft=true/\h.opens.length<=8/\h.now<1152921504606846976/\h.lease<1152921504606846976
 case neg=>
  rw[hbad λG=>q ⟨G.store,G.rows,G.few,G.now,G.lease⟩]
  clear hbad hend
  have hq:(gs=false)\/(gs=true/\ft=false)\/(gs=true/\ft=true/\8<h.opens.length)\/(gs=true/\ft=true/\¬8<h.opens.length/\1152921504606846976<=h.now)\/(gs=true/\ft=true/\¬8<h.opens.length/\¬1152921504606846976<=h.now/\1152921504606846976<=h.lease):=by
   cases gs with
   |false=>exact .inl rfl
   |true=>
    cases ft with
    |false=>exact .inr (.inl ⟨rfl,rfl⟩)
    |true=>
     simp only[true_and] at q
     simp only[true_and]
     omega
  rcases hq with c|c|c|c|c
  all_goals
   refine Pm Tryz.func9 λhfit=> ?_
   simp[Tryz.f9]
   have s_:=c
   exact WW
 obtain⟨q1,q2,q3,q4,q5⟩:=q
 subst q1 q2
 have c1:¬8<h.opens.length:=by omega
 have c2:¬1152921504606846976<=h.now:=by omega
 have c3:¬1152921504606846976<=h.lease:=by omega
 refine Pm Tryz.func9 λhfit=> ?_
 simp[Tryz.f9]
 have s_:=An @c1 (An @c2 (@c3))
 try simp[s_]
 repeat' ((first|((first|refine Tp ?_|refine Tn ?_|refine T2 ?_ ?_)<;>intro h_ e_ n_)|refine Pg h1 ?_|refine Pg h2 ?_|rw[Ip]|rw[In]|rw[Fz]|rw[Gz]|fail)<;>first|simp[e_,n_,s_]|simp[s_]|skip)
 refine AW.loopG (lit:=λ_=>false) (λi:Nat=>⟨58,pat [(1,.ptr 0 0 0),(3,I i)],[.cells 0 h.enc]⟩) (λi=>h.opens.length -i) (λi=>i<=h.opens.length/\∀(j:Nat) (hj:j<h.opens.length),j<i->ZrB h.opens[j].t=true/\h.opens[j].last.names.length<=300) 0 ?_ ?_ ?_
 ·exact Wa
 ·exact⟨by simp,λj hj g=>by omega⟩
 rintro i ⟨g1,g2⟩ A hA
 by_cases hi:i<h.opens.length
 case neg=>
  rw[hend rfl rfl q3 q4 q5 λo ho=>by
   obtain⟨j,hj,rfl⟩:=List.getElem_of_mem ho
   exact g2 j hj (by omega)]
  have s_:=hi
  exact WW
 have hwi:=Zf hi (by simp only[maxLen];omega)
 have h5:=Zxl h.opens[i].t
 cases hx:ZrB h.opens[i].t with
 |false=>
  rw[hx] at h5
  have e:=hbad λG=>by have:=(G.opens _ (List.getElem_mem hi)).1;rw[hx] at this;cases this
  subst e
  have s_:=hi
  exact WW
 |true=>
 rw[hx] at h5
 by_cases z:300<h.opens[i].last.names.length
 ·have e:=hbad λG=>by have:=(G.opens _ (List.getElem_mem hi)).2;omega
  subst e
  have s_:=An @hi (@z)
  exact WW
 ·have s_:=An @hi (An @hwi (@z))
  have q1_:=λs w=>hA (i+1) s w ⟨by omega,λj hj hji=>by rcases Nat.lt_or_ge j i with g|g;(·exact g2 j hj g);(obtain rfl:j=i:=(by omega));exact⟨hx,by omega⟩⟩ (by omega)
  exact WW
end Go.Proofs.YtgpkaoombhobmaaGreat
namespace Go.Proofs.YtgpkaoombhobmaaGreat
open Go.Cx Tab
set_option maxHeartbeats 4000000
set_option maxRecDepth 40000
end Go.Proofs.YtgpkaoombhobmaaGreat
namespace Go.Proofs.YtgpkaoombhobmaaGreat
open Go.Cx Tab
set_option maxHeartbeats 400000
set_option maxRecDepth 40000
theorem tnew_ok:Zd Tryz.prog 108 [] (encF newF):=by
 refine Pm Tryz.func108 λhfit=> ?_
 simp[Tryz.f108]
 have s_:=An @newF.eq_1 (An @FSR.enc.eq_1 (@NodeR.enc.eq_1))
 exact WW
theorem snew_ok:Zd Tryz.prog 60 [] (.agg sto0.enc):=by
 have h:=tnew_ok
 refine Pm Tryz.func60 λhfit=> ?_
 have d1_:=D0 2 13 [] []
 simp[Tryz.f60]
 have s_:=An @newF.eq_1 (An @FSR.enc.eq_1 (An @sto0.eq_1 (An @StoreR.enc.eq_1 (An @NodeR.enc.eq_1 (An @ChainR.enc.eq_1 (An @VerR.enc.eq_1 (@CountR.enc.eq_1)))))))
 have e1_:=D0 2 14 [0] []
 have p1_:=h
 exact WW
theorem hnew_ok (l:Int) (hl:1<=l):Zd Tryz.prog 28 [I l] (.tup [.agg (⟨sto0,[],[],0,l⟩:Zk).enc,I 0]):=by
 have h:=snew_ok
 have c:¬l<1:=by omega
 generalize sto0=s at*
 refine Pm Tryz.func28 λhfit=> ?_
 simp[Tryz.f28]
 have s_:=An @c (An @encH7 (@StoreR.enc.eq_1))
 have p1_:=h
 exact WW
theorem ZoZ {h:Zk} (H:ZkA h) {B:Nat} {N:Int} (X:Near h B N) (hB:B<=80000) (hN:N<=2305843009213693952) (hn:h.now<=1152921504606846976) (hl:h.lease<=9223372036854775807 -h.now):FitH h:=
 ⟨H.rise,by have:=H.few;omega,λo ho=>⟨(H.open_ o ho).t,by have:=(X.opens o ho).1;omega,by have:=(X.opens o ho).2;omega⟩,H.store,X.vers.mono (by omega),by have:=X.stamp;omega,H.rows,Zg (by have:=H.now;have:=H.lease;omega) (by omega)⟩
theorem ZbY {h:Zk} {i:Nat} (A:Zbw h i):Near h (10+513*i) (2+i):=⟨A.few,by have:=A.stamp;omega,A.next,λo ho=>⟨(A.open_ o ho).next,by have:=(A.open_ o ho).looks;omega⟩⟩
theorem ZqT:Zd Tryz.prog 8 [] (B true):=by
 have hwf:cA.wf:=by unfold CallR.wf cA;simp only[inI];exact⟨⟨by decide,by decide⟩,⟨by decide,by decide⟩,⟨by decide,by decide⟩,⟨by decide,by decide⟩,⟨by decide,by decide⟩,by decide,by decide,by decide⟩
 have hwz:CallR.wf ⟨0,0,0,0,0,.empty,.empty,.empty⟩:=by unfold CallR.wf;simp only[inI];exact⟨⟨by decide,by decide⟩,⟨by decide,by decide⟩,⟨by decide,by decide⟩,⟨by decide,by decide⟩,⟨by decide,by decide⟩,by decide,by decide,by decide⟩
 obtain⟨a0,a1,a2,a3⟩:=alive_x
 have lease:∀{h:Zk} {i:Nat} (A:Zbw h i),h.lease=5->i<=3->FitH h:=λA hl hi=>ZoZ A.host (ZbY A) (by omega) (by omega) (by rw[A.now];omega) (by rw[A.now,hl];decide)
 have l1:xh1.1.lease=5:=(ZcW a0.host (ZbY a0) xm1).2.2
 have l2:xh2.1.lease=5:=((ZcW a1.host (ZbY a1) xm2).2.2).trans l1
 have l3:xh3.1.lease=5:=((ZcW a2.host (ZbY a2) xm3).2.2).trans l2
 have h0:=hnew_ok 5 (by decide)
 have h1:Zd Tryz.prog 11 [.agg xh0.enc,.agg xm1.enc] (.tup [.agg xh1.1.enc,.agg xh1.2.enc]):=ZdO xh0 xm1 (lease a0 rfl (by omega)) hwz
 have h2:Zd Tryz.prog 11 [.agg xh1.1.enc,.agg xm2.enc] (.tup [.agg xh2.1.enc,.agg xh2.2.enc]):=ZdO xh1.1 xm2 (lease a1 l1 (by omega)) hwf
 have h3:Zd Tryz.prog 11 [.agg xh2.1.enc,.agg xm3.enc] (.tup [.agg xh3.1.enc,.agg xh3.2.enc]):=ZdO xh2.1 xm3 (lease a2 l2 (by omega)) hwf
 have h4:Zd Tryz.prog 11 [.agg xh3.1.enc,.agg xm4.enc] (.tup [.agg xh4.1.enc,.agg xh4.2.enc]):=ZdO xh3.1 xm4 (lease a3 l3 (by omega)) hwf
 obtain⟨t1,t2,t3,t4,t5,t6⟩:=xh_told
 have e2:(⟨#[97]⟩:ByteArray)=T [97]:=rfl
 have em1:xm1.enc=[I 1,I 1,I 1,I 1,I 0,I 0,I 0,I 0,I 0,I 0,I 0,S .empty,S .empty,S .empty]:=rfl
 have em2:xm2.enc=[I 2,I 1,I 1,I 1,I 1,I 1,I 6,I 1,I 0,I 0,I 0,S (T [97]),S .empty,S .empty]:=rfl
 have em3:xm3.enc=[I 3,I 1,I 1,I 1,I 1,I 1,I 6,I 1,I 0,I 0,I 0,S (T [97]),S .empty,S .empty]:=rfl
 have em4:xm4.enc=[I 5,I 1,I 1,I 1,I 1,I 1,I 6,I 1,I 0,I 0,I 0,S (T [97]),S .empty,S .empty]:=rfl
 rw[em1] at h1
 rw[em2] at h2
 rw[em3] at h3
 rw[em4] at h4
 have ex0:AV.agg (⟨sto0,[],[],0,5⟩:Zk).enc= .agg xh0.enc:=rfl
 rw[ex0] at h0
 clear hwf hwz a0 a1 a2 a3 lease l1 l2 l3 em1 em2 em3 em4 ex0
 generalize xh0=X0 at*
 generalize xh1=X1 at*
 generalize xh2=X2 at*
 generalize xh3=X3 at*
 generalize xh4=X4 at*
 refine Pm Tryz.func8 λhfit=> ?_
 simp[Tryz.f8]
 have s_:=An @t1 (An @t2 (An @t3 (An @t4 (An @t5 (An @t6 (An @e2 (@setH_enc)))))))
 exact WW
end Go.Proofs.YtgpkaoombhobmaaGreat
namespace Go.Proofs.YtgpkaoombhobmaaGreat
open Go.Cx Tab
set_option maxHeartbeats 4000000
set_option maxRecDepth 40000
theorem ZcU (h:Zk) (c:Int) (hl:h.opens.length<=1000000):Zd Tryz.prog 17 [.agg h.enc,I c] (oTup (findO h c)):=by
 obtain⟨F,hF⟩:∃F,findO h c=F:=⟨_,rfl⟩
 rw[hF]
 unfold findO ZZ at hF
 refine Pm Tryz.func17 λhfit=> ?_
 simp[Tryz.f17]
 try simp
 repeat' ((first|((first|refine Tp ?_|refine Tn ?_|refine T2 ?_ ?_)<;>intro h_ e_ n_)|rw[Ip]|rw[In]|rw[Fz]|rw[Gz]|fail)<;>first|simp[e_,n_]|simp|skip)
 refine AW.loopG (lit:=λ_=>false) (λi:Nat=>⟨28,pat [(1,I c),(2,.ptr 0 0 0),(4,.ptr 1 0 0),(5,B false),(6,I i)],[.cells 0 h.enc,.cells 0 [I 0,I 0,I 0,I 0,I 0,.sl true 0 [],I 0,.sl true 0 [],I 0,.sl true 0 [],I 0,I 0,I 0,I 0,S .empty,.sl true 0 [],I 0]]⟩) (λi=>h.opens.length -i) (λi=>i<=h.opens.length/\(h.opens.drop i).find? (λx=>decide (x.client=c))=F) 0 ?_ ?_ ?_
 ·exact Wa
 ·exact⟨by simp,by simpa using hF⟩
 rintro i ⟨g1,g2⟩ A hA
 by_cases hi:i<h.opens.length
 case neg=>
  rw[List.drop_eq_nil_of_le (by omega)] at g2
  simp only[List.find?_nil] at g2
  subst g2
  have s_:=An @hi (@zeroO)
  exact WW
 rw[List.drop_eq_getElem_cons hi,List.find?_cons] at g2
 have hwi:=Zf hi (by simp only[maxLen];omega)
 by_cases q:h.opens[i].client=c
 ·rw[decide_eq_true q] at g2
  simp only at g2
  subst g2
  have s_:=An @hi (@q)
  exact WW
 ·rw[decide_eq_false q] at g2
  simp only at g2
  have s_:=An @hi (An @hwi (@q))
  have q1_:=λs w=>hA (i+1) s w ⟨by omega,g2⟩ (by omega)
  exact WW
def newH (l:Int):Zk×Int:=if l<1 then(⟨⟨[],[],0⟩,[],[],0,0⟩,1) else(⟨sto0,[],[],0,l⟩,0)
theorem Zwr:Zd Tryz.prog 86 [] (encF newF):=by
 refine Pm Tryz.func86 λhfit=> ?_
 simp[Tryz.f86]
 have s_:=An @FSR.enc.eq_1 (An @newF.eq_1 (@NodeR.enc.eq_1))
 exact WW
theorem Zws:Zd Tryz.prog 45 [] (.agg sto0.enc):=by
 have h:=Zwr
 refine Pm Tryz.func45 λhfit=> ?_
 simp[Tryz.f45,sto0,StoreR.enc,ChainR.enc,VerR.enc,CountR.enc,NodeR.enc]
 have s_:=An @newF.eq_1 (An @FSR.enc.eq_1 (An @NodeR.enc.eq_1 (An @ChainR.enc.eq_1 (An @VerR.enc.eq_1 (@CountR.enc.eq_1)))))
 have p1_:=h
 exact WW
theorem ZtM (l:Int):Zd Tryz.prog 15 [I l] (.tup [.agg (newH l).1.enc,I (newH l).2]):=by
 by_cases c:l<1
 ·have e:newH l=(⟨⟨[],[],0⟩,[],[],0,0⟩,1):=if_pos c
  rw[e]
  refine Pm Tryz.func15 λhfit=> ?_
  simp[Tryz.f15]
  have s_:=An @c (An @encH7 (@StoreR.enc.eq_1))
  exact WW
 ·have e:newH l=(⟨sto0,[],[],0,l⟩,0):=if_neg c
  rw[e]
  have h:=Zws
  generalize sto0=s at*
  refine Pm Tryz.func15 λhfit=> ?_
  simp[Tryz.f15]
  have s_:=An @c (An @encH7 (@StoreR.enc.eq_1))
  have p1_:=h
  exact WW
theorem Zfx (l:List OpenR) (c:Int) (hl:l.length<=1000000):Zd Tryz.prog 96 [encL OpenR.enc l,I c] (encL OpenR.enc (l.filter λo=> !decide (o.client=c))):=by
 obtain⟨F,hF⟩:∃F,(l.filter λo=> !decide (o.client=c))=F:=⟨_,rfl⟩
 rw[hF]
 refine Pm Tryz.func96 λhfit=> ?_
 simp[Tryz.f96]
 refine AW.loopG (lit:=λ_=>false) (λx:Nat×List OpenR=>⟨28,pat [(0,encL OpenR.enc l),(1,I c),(5,.own 0 x.2.length 0 x.2.length 17),(6,I x.1)],[.cells x.2.length (x.2.flatMap OpenR.enc)]⟩) (λx=>l.length -x.1) (λx=>x.1<=l.length/\x.2.length<=x.1/\x.2++((l.drop x.1).filter λo=> !decide (o.client=c))=F) (0,[]) ?_ ?_ ?_
 ·exact Wk.trans (Wk.ownNil 5 17 (by simp)) Wa
 ·exact⟨Nat.zero_le _,by simp,by simpa using hF⟩
 rintro⟨i,acc⟩ ⟨g1,g2,g3⟩ A hA
 simp only at g1 g2 g3 hA
 by_cases hi:i<l.length
 case neg=>
  rw[List.drop_eq_nil_of_le (by omega)] at g3
  simp only[List.filter_nil,List.append_nil] at g3
  subst g3
  have s_:=hi
  exact WW
 have hwi:=Zf hi (by simp only[maxLen];omega)
 have hm:acc.length+1<=maxLen:=by simp only[maxLen];omega
 have hal:(acc++[l[i]]).length=acc.length+1:=by simp
 rw[List.drop_eq_getElem_cons hi,List.filter_cons] at g3
 by_cases q:l[i].client=c
 ·simp[q] at g3
  have s_:=An @hi (An @hwi (@q))
  have q1_:=λs w=>hA (i+1,acc) s w ⟨hi,by simp only;omega,by simpa using g3⟩ (by simp only;omega)
  exact WW
 ·simp[q] at g3
  have s_:=An @hi (An @hwi (An @hm (@q)))
  try simp[s_]
  repeat' ((first|((first|refine Tp ?_|refine Tn ?_|refine T2 ?_ ?_)<;>intro h_ e_ n_)|(exact hA (i+1,acc++[l[i]]) _ Wc ⟨hi,by simp only[hal];omega,by simpa using g3⟩ (by simp only;omega))|rw[Ip]|rw[In]|rw[Fz]|rw[Gz]|fail)<;>first|simp[e_,n_,s_]|simp[s_]|skip)
theorem ZjB {α:Type} {key:α->Int} (k:Int):∀{l:List α},Zo key l=true->(l.filter λx=> !decide (key x=k)).takeWhile (λx=>decide (key x<k))=l.takeWhile (λx=>decide (key x<k))/\(l.filter λx=> !decide (key x=k)).dropWhile (λx=>decide (key x<k))=l.dropWhile (λx=>decide (key x<=k))
 |[],_=>⟨rfl,rfl⟩
 |a::l,h=>by
  obtain⟨h1,h2⟩:=ZaG key h
  obtain⟨i1,i2⟩:=ZjB k h1
  by_cases c1:key a<k
  ·have c2:¬key a=k:=by omega
   have c3:key a<=k:=by omega
   simp[List.filter_cons,List.takeWhile_cons,List.dropWhile_cons,c1,c2,c3,i1,i2]
  ·have hl:l.filter (λx=> !decide (key x=k))=l:=List.filter_eq_self.2 λx hx=>by have:=h2 x hx;simp;omega
   rw[hl] at i1 i2
   by_cases c2:key a=k
   ·rw[List.filter_cons_of_neg (by simp[c2]),hl,List.takeWhile_cons_of_neg (by simpa using c1),List.dropWhile_cons_of_pos (by simp;omega)]
    refine⟨?_,i2⟩
    cases l with
    |nil=>rfl
    |cons b l=>exact List.takeWhile_cons_of_neg (by have:=h2 b (by simp);simp;omega)
   ·rw[List.filter_cons_of_pos (by simpa using c2),hl,List.dropWhile_cons_of_neg (by simpa using c1),List.dropWhile_cons_of_neg (by simp;omega)]
    exact⟨rfl,rfl⟩
theorem Zmi (h:Zk) (o:OpenR) (hr:Zo OpenR.client h.opens=true) (hl:h.opens.length<=100000):Zd Tryz.prog 91 [.agg h.enc,.agg o.enc] (.agg (withO h o).enc):=by
 have h1:=Zfx h.opens o.client (by omega)
 obtain⟨p1,p2⟩:=ZjB (key:=OpenR.client) o.client hr
 have hlf:=List.length_filter_le (λx:OpenR=> !decide (x.client=o.client)) h.opens
 have hE:withO h o={h with opens:=(h.opens.filter λx=> !decide (x.client=o.client)).takeWhile (λx=>decide (x.client<o.client))++(o::(h.opens.filter λx=> !decide (x.client=o.client)).dropWhile (λx=>decide (x.client<o.client)))}:=by unfold withO putS;rw[p1,p2]
 rw[hE]
 generalize(h.opens.filter λx=> !decide (x.client=o.client))=L at*
 clear hE p1 p2
 refine Pm Tryz.func91 λhfit=> ?_
 simp[Tryz.f91]
 try simp
 repeat' ((first|((first|refine Tp ?_|refine Tn ?_|refine T2 ?_ ?_)<;>intro h_ e_ n_)|refine Pg h1 ?_|refine Dg 4 14 [] [] ?_|rw[Ip]|rw[In]|rw[Fz]|rw[Gz]|fail)<;>first|simp[e_,n_]|simp|skip)
 refine AW.loopG (lit:=λ_=>false) (λi:Nat=>⟨47,pat [(2,.ptr 0 0 0),(3,.ptr 1 0 0),(4,.ptr 2 0 0),(5,encL OpenR.enc L),(6,.own 3 i 0 i 17),(7,I i)],[.cells 0 h.enc,.cells 0 o.enc,.cells 0 [.sl true 0 [],.sl true 0 [],I 0,.sl true 0 [],.sl true 0 [],I 0,I 0],.cells i ((L.take i).flatMap OpenR.enc)]⟩) (λi=>L.length -i)
  (λi=>i<=L.length/\L.take i++(L.drop i).takeWhile (λx=>decide (x.client<o.client))=L.takeWhile (λx=>decide (x.client<o.client))/\(L.drop i).dropWhile (λx=>decide (x.client<o.client))=L.dropWhile (λx=>decide (x.client<o.client))) 0 ?_ ?_ ?_
 ·exact Wk.trans (Wk.ownNil 6 17 (by simp)) Wa
 ·exact⟨by simp,by simp,by simp⟩
 rintro i ⟨g1,g2,g3⟩ A hA
 have hli:(L.take i).length=i:=by simp;omega
 have hm:i+1<=maxLen:=by simp only[maxLen];omega
 have hdr:List.take ((L.length -i)*17) (List.drop (i*17) (L.flatMap OpenR.enc))=(L.drop i).flatMap OpenR.enc:=by
  have:L.flatMap OpenR.enc=(L.take i).flatMap OpenR.enc++(L.drop i).flatMap OpenR.enc:=by rw[<-List.flatMap_append,List.take_append_drop]
  rw[this,List.drop_left' (by simp[hli]),List.take_of_length_le (by simp)]
 have hmn:min ((L.length -i)*17) (L.length*17 -i*17)=(L.length -i)*17:=by omega
 have hone:∀x∈(L.drop i).flatMap OpenR.enc,Zy x=true:=by have:=Zhu (L.drop i);rwa[List.all_eq_true] at this
 by_cases hi:i<L.length
 case neg=>
  have e:i=L.length:=by omega
  rw[List.drop_eq_nil_of_le (by omega),List.takeWhile_nil,List.append_nil] at g2
  rw[List.drop_eq_nil_of_le (by omega),List.dropWhile_nil] at g3
  rw[<-g3,<-g2]
  subst e
  have s_:=An @hi (An @hli (An @hm (An @encH7 (@StoreR.enc.eq_1))))
  try simp[s_]
  repeat' ((first|((first|refine Tp ?_|refine Tn ?_|refine T2 ?_ ?_)<;>intro h_ e_ n_)|refine Dg 4 14 [] [] ?_|rw[Ip]|rw[In]|rw[Fz]|rw[Gz]|fail)<;>first|simp[e_,n_,s_]|simp[s_]|skip)
 have hd:=List.drop_eq_getElem_cons hi
 by_cases hp:L[i].client<o.client
 case neg=>
  rw[hd,List.takeWhile_cons_of_neg (by simpa using hp),List.append_nil] at g2
  rw[hd,List.dropWhile_cons_of_neg (by simpa using hp),<-hd] at g3
  rw[<-g3,<-g2]
  have s_:=An @hi (An @hp (An @hli (An @hm (An @hdr (An @hmn (An @hone (An @encH7 (@StoreR.enc.eq_1))))))))
  try simp[s_]
  repeat' ((first|((first|refine Tp ?_|refine Tn ?_|refine T2 ?_ ?_)<;>intro h_ e_ n_)|refine Dg 4 14 [] [] ?_|rw[Ip]|rw[In]|rw[Fz]|rw[Gz]|fail)<;>first|simp[e_,n_,s_]|simp[s_]|skip)
  omega
 rw[hd,List.takeWhile_cons_of_pos (by simpa using hp)] at g2
 rw[hd,List.dropWhile_cons_of_pos (by simpa using hp)] at g3
 have hwi:=Zf hi (by simp only[maxLen];omega)
 have htk:L.take (i+1)=L.take i++[L[i]]:=by simp
 have hfm:(L.take (i+1)).flatMap OpenR.enc=(L.take i).flatMap OpenR.enc++L[i].enc:=by rw[htk,List.flatMap_append];simp
 have s_:=An @hi (An @hwi (An @hp (An @hli (@hm))))
 try simp[s_]
 repeat' ((first|((first|refine Tp ?_|refine Tn ?_|refine T2 ?_ ?_)<;>intro h_ e_ n_)|refine Dg 4 14 [] [] ?_|rw[Ip]|rw[In]|rw[Fz]|rw[Gz]|fail)<;>first|simp[e_,n_,s_]|simp[s_]|skip)
 exact hA (i+1) _ (Wk.cutAt _ rfl (by simp[hli,hfm]) (by simp[hli,hfm]) (by simp[hli,hfm]) (by simp[hli,hfm])) ⟨hi,by rw[htk,List.append_assoc];exact g2,g3⟩ (by omega)
theorem Zu (e:Int):Zd Tryz.prog 90 [I e] (.agg (errR e).enc):=by
 refine Pm Tryz.func90 λhfit=> ?_
 simp[Tryz.f90]
 have s_:=An @errR.eq_1 (@ReplyR.enc.eq_1)
 exact WW
theorem ZnI (h:Zk) (m:MsgR) (R:Zay h.rows) (hn:m.kind=6\/(askS h.rows m.client m.epoch m.seq).2≠6\/m.kind<1\/5<m.kind):Zd Tryz.prog 47 [.agg h.enc,.agg m.enc] (hTup (answerS h m)):=by
 unfold answerS
 by_cases k6:m.kind=6
 ·have h1:=Zrw h.rows m.client m.epoch m.seq R
  have h6:=Zu (forgetS h.rows m.client m.epoch m.seq).2
  rw[if_pos k6]
  generalize forgetS h.rows m.client m.epoch m.seq=X at*
  refine Pm Tryz.func47 λhfit=> ?_
  have d1_:=D0 4 3 [] []
  have d2_:=D0 7 3 [] []
  have d3_:=D0 9 2 [] []
  have d4_:=D0 12 2 [] []
  have d5_:=D0 15 2 [] []
  have d6_:=D0 21 7 [] []
  have d7_:=D0 23 2 [] []
  have d8_:=D0 25 2 [] []
  have d9_:=D0 26 23 [] []
  have d10_:=D0 29 2 [] []
  have d11_:=D0 31 2 [] []
  have d12_:=D0 33 5 [] []
  have d13_:=D0 35 2 [] []
  have d14_:=D0 41 6 [] []
  have d15_:=D0 43 2 [] []
  have d16_:=D0 52 3 [] []
  have d17_:=D0 60 2 [] []
  have d18_:=D0 61 2 [] []
  simp[Tryz.f47]
  have s_:=An @k6 (@encH7)
  exact WW
 rw[if_neg k6]
 have h2:=Zgk h.rows m.client m.epoch m.seq R
 have h6:=Zu (askS h.rows m.client m.epoch m.seq).2
 have h7:=Zu 1
 have h8:=Zu 7
 have h9:=Zu 15
 generalize askS h.rows m.client m.epoch m.seq=X at*
 obtain⟨y,e⟩:=X
 simp only at h2 h6 hn⊢
 by_cases a1:e≠0/\e≠6
 ·obtain⟨a2,a3⟩:=a1
  rw[if_pos ⟨a2,a3⟩]
  refine Pm Tryz.func47 λhfit=> ?_
  have d1_:=D0 4 3 [] []
  have d2_:=D0 7 3 [] []
  have d3_:=D0 9 2 [] []
  have d4_:=D0 12 2 [] []
  have d5_:=D0 15 2 [] []
  have d6_:=D0 21 7 [] []
  have d7_:=D0 23 2 [] []
  have d8_:=D0 25 2 [] []
  have d9_:=D0 26 23 [] []
  have d10_:=D0 29 2 [] []
  have d11_:=D0 31 2 [] []
  have d12_:=D0 33 5 [] []
  have d13_:=D0 35 2 [] []
  have d14_:=D0 41 6 [] []
  have d15_:=D0 43 2 [] []
  have d16_:=D0 52 3 [] []
  have d17_:=D0 60 2 [] []
  have d18_:=D0 61 2 [] []
  simp[Tryz.f47]
  have s_:=An @k6 (An @a2 (@a3))
  exact WW
 have he:e=0\/e=6:=by omega
 rw[if_neg a1]
 clear a1
 by_cases k:m.kind<1\/5<m.kind
 ·rw[if_pos k]
  have k':m.kind<1\/(¬m.kind<1/\6<m.kind):=by omega
  rcases he with he|he<;>subst he<;>rcases k' with k'|⟨k',k''⟩
  all_goals
   refine Pm Tryz.func47 λhfit=> ?_
   have d1_:=D0 4 3 [] []
   have d2_:=D0 7 3 [] []
   have d3_:=D0 9 2 [] []
   have d4_:=D0 12 2 [] []
   have d5_:=D0 15 2 [] []
   have d6_:=D0 21 7 [] []
   have d7_:=D0 23 2 [] []
   have d8_:=D0 25 2 [] []
   have d9_:=D0 26 23 [] []
   have d10_:=D0 29 2 [] []
   have d11_:=D0 31 2 [] []
   have d12_:=D0 33 5 [] []
   have d13_:=D0 35 2 [] []
   have d14_:=D0 41 6 [] []
   have d15_:=D0 43 2 [] []
   have d16_:=D0 52 3 [] []
   have d17_:=D0 60 2 [] []
   have d18_:=D0 61 2 [] []
   simp[Tryz.f47]
   have s_:=An @k6 (@k')
   exact WW
 rw[if_neg k]
 have k1:¬m.kind<1:=by omega
 have k2:¬6<m.kind:=by omega
 have e0:e=0:=by omega
 subst e0
 rw[if_pos rfl]
 by_cases k3:m.kind<=2<;>cases y
 all_goals
  refine Pm Tryz.func47 λhfit=> ?_
  have d1_:=D0 4 3 [] []
  have d2_:=D0 7 3 [] []
  have d3_:=D0 9 2 [] []
  have d4_:=D0 12 2 [] []
  have d5_:=D0 15 2 [] []
  have d6_:=D0 21 7 [] []
  have d7_:=D0 23 2 [] []
  have d8_:=D0 25 2 [] []
  have d9_:=D0 26 23 [] []
  have d10_:=D0 29 2 [] []
  have d11_:=D0 31 2 [] []
  have d12_:=D0 33 5 [] []
  have d13_:=D0 35 2 [] []
  have d14_:=D0 41 6 [] []
  have d15_:=D0 43 2 [] []
  have d16_:=D0 52 3 [] []
  have d17_:=D0 60 2 [] []
  have d18_:=D0 61 2 [] []
  simp[Tryz.f47]
  have s_:=An @k6 (An @k1 (An @k2 (An @k3 (An @rep0.eq_1 (@ReplyR.enc.eq_1)))))
  exact WW
theorem ZnJ (h:Zk) (m:MsgR) (F:FitH h) (ha:(askS h.rows m.client m.epoch m.seq).2=6) (k1:m.kind=1):Zd Tryz.prog 47 [.agg h.enc,.agg m.enc] (hTup (beginH h m)):=by
 have h2:=Zgk h.rows m.client m.epoch m.seq F.rows
 rw[ha] at h2
 generalize(askS h.rows m.client m.epoch m.seq).1=y at*
 have h1:=ZcU h m.client (by have:=F.few;omega)
 have h3:=Zu 12
 have h4:=Zu 20
 have h5:=ZuF h.s (F.vers.b (by omega))
 have h6:=Zmi h (openS h m) F.rise F.few
 have hw:=F.lease
 have eo:AV.agg (openS h m).enc= .agg [I m.client,I m.epoch,I m.seq,I 0,I (beginS h.s).stamp,encL NodeR.enc (beginS h.s).was.l,I (beginS h.s).was.next,encL NodeR.enc (beginS h.s).now.l,I (beginS h.s).now.next,enc1 I (beginS h.s).looks,I 0,I 0,I 0,I 0,S .empty,.sl false 0 [],I (h.now+h.lease)]:=rfl
 unfold beginH
 generalize openS h m=u at*
 generalize beginS h.s=b at*
 generalize withO h u=k at*
 rw[eo] at h6
 clear ha F eo
 cases hx:findO h m.client with
 |none=>
  rw[hx] at h1
  simp only[oTup,Option.getD_none,Option.isSome_none] at h1
  refine Pm Tryz.func47 λhfit=> ?_
  have d1_:=D0 4 3 [] []
  have d2_:=D0 7 3 [] []
  have d3_:=D0 9 2 [] []
  have d4_:=D0 12 2 [] []
  have d5_:=D0 15 2 [] []
  have d6_:=D0 21 7 [] []
  have d7_:=D0 23 2 [] []
  have d8_:=D0 25 2 [] []
  have d9_:=D0 26 23 [] []
  have d10_:=D0 29 2 [] []
  have d11_:=D0 31 2 [] []
  have d12_:=D0 33 5 [] []
  have d13_:=D0 35 2 [] []
  have d14_:=D0 41 6 [] []
  have d15_:=D0 43 2 [] []
  have d16_:=D0 52 3 [] []
  have d17_:=D0 60 2 [] []
  have d18_:=D0 61 2 [] []
  simp[Tryz.f47]
  have s_:=An @k1 (An @hw (An @repA.eq_1 (An @zeroO (An @TxnR.enc.eq_1 (An @FSR.enc.eq_1 (@ReplyR.enc.eq_1))))))
  have e1_:=D0 21 7 [2,3] []
  have e2_:=D0 26 23 [2,3] []
  exact WW
 |some o=>
  rw[hx] at h1
  simp only[oTup,Option.getD_some,Option.isSome_some] at h1
  refine Pm Tryz.func47 λhfit=> ?_
  have d1_:=D0 4 3 [] []
  have d2_:=D0 7 3 [] []
  have d3_:=D0 9 2 [] []
  have d4_:=D0 12 2 [] []
  have d5_:=D0 15 2 [] []
  have d6_:=D0 21 7 [] []
  have d7_:=D0 23 2 [] []
  have d8_:=D0 25 2 [] []
  have d9_:=D0 26 23 [] []
  have d10_:=D0 29 2 [] []
  have d11_:=D0 31 2 [] []
  have d12_:=D0 33 5 [] []
  have d13_:=D0 35 2 [] []
  have d14_:=D0 41 6 [] []
  have d15_:=D0 43 2 [] []
  have d16_:=D0 52 3 [] []
  have d17_:=D0 60 2 [] []
  have d18_:=D0 61 2 [] []
  simp[Tryz.f47]
  have s_:=An @k1 (An @hw (An @isO.eq_1 (An @repA.eq_1 (An @setO_enc (An @TxnR.enc.eq_1 (An @FSR.enc.eq_1 (@ReplyR.enc.eq_1)))))))
  have e1_:=D0 21 7 [2,3] []
  have e2_:=D0 26 23 [2,3] []
  exact WW
theorem ZnK (h:Zk) (m:MsgR) (F:FitH h) (hm:m.c.wf) (ha:(askS h.rows m.client m.epoch m.seq).2=6) (k1:m.kind=2):Zd Tryz.prog 47 [.agg h.enc,.agg m.enc] (hTup (callS h m)):=by
 have h2:=Zgk h.rows m.client m.epoch m.seq F.rows
 rw[ha] at h2
 generalize(askS h.rows m.client m.epoch m.seq).1=y at*
 have h1:=ZcU h m.client (by have:=F.few;omega)
 have h3:=Zu 6
 have h4:=Zu 16
 have h5:=Zu 1
 have hw:=F.lease
 unfold callS mayCallS
 cases hx:findO h m.client with
 |none=>
  rw[hx] at h1
  simp only[oTup,Option.getD_none,Option.isSome_none] at h1
  refine Pm Tryz.func47 λhfit=> ?_
  have d1_:=D0 4 3 [] []
  have d2_:=D0 7 3 [] []
  have d3_:=D0 9 2 [] []
  have d4_:=D0 12 2 [] []
  have d5_:=D0 15 2 [] []
  have d6_:=D0 21 7 [] []
  have d7_:=D0 23 2 [] []
  have d8_:=D0 25 2 [] []
  have d9_:=D0 26 23 [] []
  have d10_:=D0 29 2 [] []
  have d11_:=D0 31 2 [] []
  have d12_:=D0 33 5 [] []
  have d13_:=D0 35 2 [] []
  have d14_:=D0 41 6 [] []
  have d15_:=D0 43 2 [] []
  have d16_:=D0 52 3 [] []
  have d17_:=D0 60 2 [] []
  have d18_:=D0 61 2 [] []
  simp[Tryz.f47]
  have s_:=An @k1 (@zeroO)
  exact WW
 |some o=>
  rw[hx] at h1
  simp only[oTup,Option.getD_some,Option.isSome_some] at h1
  have O:=F.opens o (Zn OpenR.client hx).1
  have h6:=Zxj o.t m.c O.t.nrows O.t.ntree O.next O.t.rise O.looks hm
  have h7:=Zmi h (Zme h o m) F.rise F.few
  simp only
  unfold Zme at h7⊢
  generalize stepS o.t m.c=X at*
  generalize hK:withO h _=K at*
  clear hK O F ha
  refine Pm Tryz.func47 λhfit=> ?_
  simp[Tryz.f47]
  have s_:=An @k1 (An @hw (An @isO.eq_1 (An @lateO.eq_1 (An @setO_enc (An @setO_t (An @setO_last (An @setO_n (@setO_until))))))))
  try simp[s_]
  repeat' ((first|((first|refine Tp ?_|refine Tn ?_|refine T2 ?_ ?_)<;>intro h_ e_ n_)|refine Pg h1 ?_|refine Pg h2 ?_|refine Pg h3 ?_|refine Pg h4 ?_|refine Pg h5 ?_|refine Pg h6 ?_|refine Pg h7 ?_|refine Dg 33 5 [2,3] [] ?_|refine Dg 41 6 [2,3] [] ?_|refine Dg 4 3 [] [] ?_|refine Dg 7 3 [] [] ?_|refine Dg 9 2 [] [] ?_|refine Dg 12 2 [] [] ?_|refine Dg 15 2 [] [] ?_|refine Dg 21 7 [] [] ?_|refine Dg 23 2 [] [] ?_|refine Dg 25 2 [] [] ?_|refine Dg 26 23 [] [] ?_|refine Dg 29 2 [] [] ?_|refine Dg 31 2 [] [] ?_|refine Dg 35 2 [] [] ?_|refine Dg 43 2 [] [] ?_|refine Dg 52 3 [] [] ?_|refine Dg 60 2 [] [] ?_|refine Dg 61 2 [] [] ?_|rw[Ip]|rw[In]|rw[Fz]|rw[Gz]|fail)<;>first|simp[e_,n_,s_]|simp[s_]|skip)
theorem ZnL (h:Zk) (m:MsgR) (F:FitH h) (ha:(askS h.rows m.client m.epoch m.seq).2=6) (k1:m.kind=3\/m.kind=4\/m.kind=5):Zd Tryz.prog 47 [.agg h.enc,.agg m.enc] (hTup (decideH h m)):=by
 have h2:=Zgk h.rows m.client m.epoch m.seq F.rows
 rw[ha] at h2
 generalize(askS h.rows m.client m.epoch m.seq).1=y at*
 have h1:=ZcU h m.client (by have:=F.few;omega)
 have h3:=Zu 20
 have h4:=Zu 16
 have h5:=Zu 15
 have h6:=Zfx h.opens m.client (by have:=F.few;omega)
 by_cases hc:m.kind=3/\(ownMsg h m).2.1=true/\(ownMsg h m).2.2=false/\(ownMsg h m).1.n=m.n
 ·obtain⟨ho,ht⟩:=ZtJ hc
  have O:=F.opens _ (Zn OpenR.client ho).1
  have h7:=ZrC h.s (ownMsg h m).1.t F.store (F.vers.mono (by omega)) (by have:=F.stamp;omega) O.t
  unfold decideH ZaT
  rw[ht]
  obtain⟨c1,c2,c3,c4⟩:=hc
  have c5:¬m.kind=5:=by omega
  rw[if_neg (λg=>c5 g.1),c2]
  rw[ho] at h1
  simp only[oTup,Option.getD_some,Option.isSome_some] at h1
  have hu:=ZbE ho
  generalize ownMsg h m=u at*
  obtain⟨o,is,late⟩:=u
  simp only[Prod.mk.injEq,true_and] at c2 c3 c4 h7 h1 hu⊢
  obtain⟨hi,hl⟩:=hu
  rw[c2] at hi
  rw[<-hi,c3] at hl
  subst c2 c3
  replace hi:=hi.symm
  replace hl:=hl.symm
  simp only[isO,Bool.and_eq_true,decide_eq_true_eq] at hi
  obtain⟨i1,i2⟩:=hi
  simp only[Bool.true_and,lateO,Bool.or_eq_false_iff,decide_eq_false_iff_not,c1] at hl
  have l1:=hl.1
  have l2:o.t.stamp=m.stamp:=by simpa using hl.2
  clear ho ht O hl ha
  by_cases z:(commitS h.s o.t).2=0
  ·rw[if_pos z]
   have h8:=Zgl h.rows m.client m.epoch m.seq true F.rows
   have h9:=Zu (decideS h.rows m.client m.epoch m.seq true).2.2
   clear F
   generalize commitS h.s o.t=C at*
   generalize decideS h.rows m.client m.epoch m.seq true=D at*
   refine Pm Tryz.func47 λhfit=> ?_
   have d1_:=D0 4 3 [] []
   have d2_:=D0 7 3 [] []
   have d3_:=D0 9 2 [] []
   have d4_:=D0 12 2 [] []
   have d5_:=D0 15 2 [] []
   have d6_:=D0 21 7 [] []
   have d7_:=D0 23 2 [] []
   have d8_:=D0 25 2 [] []
   have d9_:=D0 26 23 [] []
   have d10_:=D0 29 2 [] []
   have d11_:=D0 31 2 [] []
   have d12_:=D0 33 5 [] []
   have d13_:=D0 35 2 [] []
   have d14_:=D0 41 6 [] []
   have d15_:=D0 43 2 [] []
   have d16_:=D0 52 3 [] []
   have d17_:=D0 60 2 [] []
   have d18_:=D0 61 2 [] []
   simp[Tryz.f47]
   have s_:=An @c1 (An @c4 (An @z (An @i1 (An @i2 (An @l1 (An @l2 (An @setO_enc (An @encH7 (An @StoreR.enc.eq_1 (An @rep0.eq_1 (@ReplyR.enc.eq_1)))))))))))
   exact WW
  ·rw[if_neg z]
   have h8:=Zgl h.rows m.client m.epoch m.seq false F.rows
   have h9:=Zu (decideS h.rows m.client m.epoch m.seq false).2.2
   clear F
   generalize commitS h.s o.t=C at*
   generalize decideS h.rows m.client m.epoch m.seq false=D at*
   refine Pm Tryz.func47 λhfit=> ?_
   have d1_:=D0 4 3 [] []
   have d2_:=D0 7 3 [] []
   have d3_:=D0 9 2 [] []
   have d4_:=D0 12 2 [] []
   have d5_:=D0 15 2 [] []
   have d6_:=D0 21 7 [] []
   have d7_:=D0 23 2 [] []
   have d8_:=D0 25 2 [] []
   have d9_:=D0 26 23 [] []
   have d10_:=D0 29 2 [] []
   have d11_:=D0 31 2 [] []
   have d12_:=D0 33 5 [] []
   have d13_:=D0 35 2 [] []
   have d14_:=D0 41 6 [] []
   have d15_:=D0 43 2 [] []
   have d16_:=D0 52 3 [] []
   have d17_:=D0 60 2 [] []
   have d18_:=D0 61 2 [] []
   simp[Tryz.f47]
   have s_:=An @c1 (An @c4 (An @z (An @i1 (An @i2 (An @l1 (An @l2 (An @setO_enc (An @encH7 (An @StoreR.enc.eq_1 (An @rep0.eq_1 (@ReplyR.enc.eq_1)))))))))))
   exact WW
 ·unfold decideH ZaT
  rw[ZtI hc]
  have h8:=Zgl h.rows m.client m.epoch m.seq false F.rows
  have h9:=Zu (decideS h.rows m.client m.epoch m.seq false).2.2
  clear F ha
  generalize decideS h.rows m.client m.epoch m.seq false=D at*
  cases hx:findO h m.client with
  |none=>
   rw[hx] at h1
   simp only[oTup,Option.getD_none,Option.isSome_none] at h1
   rw[Zen hx]
   simp only
   clear hc
   rcases k1 with k1|k1|k1
   all_goals
    refine Pm Tryz.func47 λhfit=> ?_
    have d1_:=D0 4 3 [] []
    have d2_:=D0 7 3 [] []
    have d3_:=D0 9 2 [] []
    have d4_:=D0 12 2 [] []
    have d5_:=D0 15 2 [] []
    have d6_:=D0 21 7 [] []
    have d7_:=D0 23 2 [] []
    have d8_:=D0 25 2 [] []
    have d9_:=D0 26 23 [] []
    have d10_:=D0 29 2 [] []
    have d11_:=D0 31 2 [] []
    have d12_:=D0 33 5 [] []
    have d13_:=D0 35 2 [] []
    have d14_:=D0 41 6 [] []
    have d15_:=D0 43 2 [] []
    have d16_:=D0 52 3 [] []
    have d17_:=D0 60 2 [] []
    have d18_:=D0 61 2 [] []
    simp[Tryz.f47]
    have s_:=An @k1 (An @zeroO (@encH7))
    exact WW
  |some o=>
   rw[hx] at h1
   simp only[oTup,Option.getD_some,Option.isSome_some] at h1
   rw[ZbE hx] at hc⊢
   simp only at hc⊢
   rcases k1 with k1|k1|k1
   ·have hc':¬(isO o m=true/\(isO o m&&lateO h o m)=false/\o.n=m.n):=λg=>hc ⟨k1,g⟩
    clear hc
    by_cases i1:o.epoch=m.epoch<;>by_cases i2:o.seq=m.seq<;>by_cases l1:o.until_<h.now<;>by_cases l2:o.t.stamp=m.stamp
    all_goals
     simp[isO,lateO,i1,i2,l1,l2,k1] at hc'
     refine Pm Tryz.func47 λhfit=> ?_
     have d1_:=D0 4 3 [] []
     have d2_:=D0 7 3 [] []
     have d3_:=D0 9 2 [] []
     have d4_:=D0 12 2 [] []
     have d5_:=D0 15 2 [] []
     have d6_:=D0 21 7 [] []
     have d7_:=D0 23 2 [] []
     have d8_:=D0 25 2 [] []
     have d9_:=D0 26 23 [] []
     have d10_:=D0 29 2 [] []
     have d11_:=D0 31 2 [] []
     have d12_:=D0 33 5 [] []
     have d13_:=D0 35 2 [] []
     have d14_:=D0 41 6 [] []
     have d15_:=D0 43 2 [] []
     have d16_:=D0 52 3 [] []
     have d17_:=D0 60 2 [] []
     have d18_:=D0 61 2 [] []
     simp[Tryz.f47]
     have s_:=An @k1 (An @i1 (An @i2 (An @l1 (An @l2 (An @isO.eq_1 (An @lateO.eq_1 (An @setO_enc (@encH7))))))))
     exact WW
   all_goals
    clear hc
    refine Pm Tryz.func47 λhfit=> ?_
    have d1_:=D0 4 3 [] []
    have d2_:=D0 7 3 [] []
    have d3_:=D0 9 2 [] []
    have d4_:=D0 12 2 [] []
    have d5_:=D0 15 2 [] []
    have d6_:=D0 21 7 [] []
    have d7_:=D0 23 2 [] []
    have d8_:=D0 25 2 [] []
    have d9_:=D0 26 23 [] []
    have d10_:=D0 29 2 [] []
    have d11_:=D0 31 2 [] []
    have d12_:=D0 33 5 [] []
    have d13_:=D0 35 2 [] []
    have d14_:=D0 41 6 [] []
    have d15_:=D0 43 2 [] []
    have d16_:=D0 52 3 [] []
    have d17_:=D0 60 2 [] []
    have d18_:=D0 61 2 [] []
    simp[Tryz.f47]
    have s_:=An @k1 (An @isO.eq_1 (An @lateO.eq_1 (An @setO_enc (@encH7))))
    exact WW
theorem ZqS (h:Zk) (m:MsgR) (F:FitH h) (hm:m.c.wf):Zd Tryz.prog 47 [.agg h.enc,.agg m.enc] (hTup (answerS h m)):=by
 by_cases hn:m.kind=6\/(askS h.rows m.client m.epoch m.seq).2≠6\/m.kind<1\/5<m.kind
 ·exact ZnI h m F.rows hn
 have ha:(askS h.rows m.client m.epoch m.seq).2=6:=Decidable.byContradiction λg=>hn (.inr (.inl g))
 have e:answerS h m=if m.kind=1 then beginH h m else if m.kind=2 then callS h m else decideH h m:=by
  unfold answerS
  rw[if_neg (by omega),if_neg (by omega),if_neg (by omega),if_neg (by omega)]
 rw[e]
 by_cases k1:m.kind=1
 ·rw[if_pos k1];exact ZnJ h m F ha k1
 rw[if_neg k1]
 by_cases k2:m.kind=2
 ·rw[if_pos k2];exact ZnK h m F hm ha k2
 rw[if_neg k2]
 exact ZnL h m F ha (by omega)
theorem Zmj (h:Zk) (m:MsgR) (F:FitH h) (hm:m.c.wf):Zd Tryz.prog 16 [.agg h.enc,.agg m.enc] (.tup [.agg (handleS h m).1.enc,.agg (handleS h m).2.enc]):=by
 have h1:=Zgk h.rows m.client m.epoch m.seq F.rows
 have h2:=ZcU h m.client (by have:=F.few;omega)
 have h3:=ZqS h m F hm
 unfold handleS nS mayCallS
 generalize answerS h m=A at*
 clear F
 generalize askS h.rows m.client m.epoch m.seq=X at*
 obtain⟨y,e⟩:=X
 simp only at h1⊢
 cases hx:findO h m.client with
 |none=>
  rw[hx] at h2
  simp only[oTup,Option.getD_none,Option.isSome_none] at h2
  by_cases c:m.kind=2
  all_goals
   refine Pm Tryz.func16 λhfit=> ?_
   have d1_:=D0 8 14 [] []
   simp[Tryz.f16]
   have s_:=An @c (An @zeroO (An @setH_enc (An @RspR.enc.eq_1 (@ReplyR.enc.eq_1))))
   have e1_:=D0 8 14 [2,3] []
   exact WW
 |some o=>
  rw[hx] at h2
  simp only[oTup,Option.getD_some,Option.isSome_some] at h2
  by_cases c:m.kind=2<;>by_cases a:e=6
  all_goals
   refine Pm Tryz.func16 λhfit=> ?_
   have d1_:=D0 8 14 [] []
   simp[Tryz.f16]
   have s_:=An @c (An @a (An @isO.eq_1 (An @lateO.eq_1 (An @setO_enc (An @setH_enc (An @RspR.enc.eq_1 (@ReplyR.enc.eq_1)))))))
   have e1_:=D0 8 14 [2,3] []
   exact WW
end Go.Proofs.YtgpkaoombhobmaaGreat
namespace Go.Proofs.YtgpkaoombhobmaaGreat
open Go.Cx Tab Go.ChangeShapes Go.WideShapes
set_option maxHeartbeats 1600000
set_option maxRecDepth 100000
theorem and_tt {a b:Bool} (ha:a=true) (hb:b=true):(a&&b)=true:=by rw[ha,hb];rfl
theorem own:ownKnob Tryz.prog.godebug=none:=by kernel_rfl
theorem laid:laidOutB Tryz.prog=true:=by kernel_rfl
section
variable {W:World}
theorem oCall:Opn Tryz.prog W 31 (λxs=>∃c:CallR,xs=c.enc/\c.wf):=
 (ZiR tst31 ts31 (.cons (ZbO tui3) ts3 (.cons (ZbO tui3) ts3 (.cons (ZbO tui3) ts3 (.cons (ZbO tui3) ts3 (.cons (ZbO tui3) ts3 (.cons (ZfT tus9) ts9 (.cons (ZfT tus9) ts9 (.cons (ZfT tus9) ts9 .nil))))))))).mono λxs h=>by
  obtain⟨_,_,⟨x0,rfl,h0⟩,⟨_,_,⟨x1,rfl,h1⟩,⟨_,_,⟨x2,rfl,h2⟩,⟨_,_,⟨x3,rfl,h3⟩,⟨_,_,⟨x4,rfl,h4⟩,⟨_,_,⟨x5,rfl,h5⟩,⟨_,_,⟨x6,rfl,h6⟩,⟨_,_,⟨x7,rfl,h7⟩,rfl,rfl⟩,rfl⟩,rfl⟩,rfl⟩,rfl⟩,rfl⟩,rfl⟩,rfl⟩:=h
  exact⟨⟨x0,x1,x2,x3,x4,x5,x6,x7⟩,by simp[CallR.enc],h0,h1,h2,h3,h4,h5,h6,h7⟩
theorem oMsg:Opn Tryz.prog W 33 (λxs=>∃c:MsgR,xs=c.enc/\c.wf):=
 (ZiR tst33 ts33 (.cons (ZbO tui3) ts3 (.cons (ZbO tui3) ts3 (.cons (ZbO tui3) ts3 (.cons (ZbO tui3) ts3 (.cons (ZbO tui3) ts3 (.cons (ZbO tui3) ts3 (.cons (oCall) ts31 .nil)))))))).mono λxs h=>by
  obtain⟨_,_,⟨x0,rfl,h0⟩,⟨_,_,⟨x1,rfl,h1⟩,⟨_,_,⟨x2,rfl,h2⟩,⟨_,_,⟨x3,rfl,h3⟩,⟨_,_,⟨x4,rfl,h4⟩,⟨_,_,⟨x5,rfl,h5⟩,⟨_,_,⟨x6,rfl,h6⟩,rfl,rfl⟩,rfl⟩,rfl⟩,rfl⟩,rfl⟩,rfl⟩,rfl⟩:=h
  exact⟨⟨x0,x1,x2,x3,x4,x5,x6⟩,by simp[MsgR.enc],h0,h1,h2,h3,h4,h5,h6⟩
end
section
variable {W:World}
end
end Go.Proofs.YtgpkaoombhobmaaGreat
