import Derived.Test.YtgpkaoombhobmaaGreatJW2
import Derived.Test.YtgpkaoombhobmaaGreatJP2
import Derived.Test.YtgpkaoombhobmaaGreatJW7
import Derived.Test.YtgpkaoombhobmaaGreatJP1
import Derived.Test.YtgpkaoombhobmaaGreatJW6
set_option linter.unusedVariables false
set_option linter.unusedSimpArgs false
namespace Go.Proofs.YtgpkaoombhobmaaGreat
open Go.Cx Tab
set_option maxHeartbeats 400000
set_option maxRecDepth 40000
theorem keyO_ok (n:OpenR):Zb Tryz.prog 58 [.agg n.enc] (I n.client):=by
 refine Pm Tryz.func58 λhfit=> ?_
 simp[Tryz.f58,OpenR.enc]
abbrev byO:AV:= .fn 104 [.fp [.fn 58 []]]
theorem ZeN (n:OpenR) (k:Int):Zb Tryz.prog 104 [.agg n.enc,I k,.fp [.fn 58 []]] (I (Lib.compareInt n.client k)):=by
 refine Pm Tryz.func104 λhfit=> ?_
 simp[Tryz.f104,OpenR.enc]
 have s_:= @OpenR.enc.eq_1
 have p1_:=keyO_ok n
 have p2_:=Zej n.client k
 exact WW
abbrev atO (l:List OpenR) (i:Nat):Int:=(l.getD i .zero).client
theorem ZnL (l:List OpenR) (k:Int) (hl:l.length<=1000000):Zb Tryz.prog 103 [encL OpenR.enc l,I k,byO] (.tup [I (bsGo (atO l) k 0 l.length),B (decide (bsGo (atO l) k 0 l.length<l.length)&&decide (atO l (bsGo (atO l) k 0 l.length)=k))]):=by
 refine Pm Tryz.func103 λhfit=> ?_
 simp at hfit
 simp[Tryz.f103]
 refine AW.loopG (lit:=λ_=>false) (λx:Nat×Nat=>⟨49,pat [(0,encL OpenR.enc l),(1,I k),(2,byO),(8,I l.length),(9,I x.1),(10,I x.2)],[]⟩) (λx=>x.2 -x.1) (λx=>x.1<=x.2/\x.2<=l.length/\bsGo (atO l) k x.1 x.2=bsGo (atO l) k 0 l.length) (0,l.length) ?_ ?_ ?_
 ·exact Wk.at _ rfl rfl (by simp)
 ·simp
 rintro⟨i,j⟩ ⟨h1,h2,h3⟩ A hA
 simp only at h1 h2 h3
 have hat:∀m (h:m<l.length),atO l m=(l[m]).client:=λm h=>by simp[atO,List.getD_eq_getElem?_getD,h]
 by_cases h:i<j
 case neg=>
  have hij:i=j:=by omega
  subst hij
  rw[Zdw h] at h3
  by_cases hi:i<l.length
  ·have e1:=hat i hi
   have s_:=An @h (An @hi (An (Eq.symm (h3)) (An @cmp_eq (An @OpenR.enc.eq_1 (@e1)))))
   have p1_:=ZeN l[i] k
   exact WW
  ·have s_:=An @h (An @hi (Eq.symm (h3)))
   exact WW
 rw[Zdv h] at h3
 have hm:(i+j)/2<l.length:=by omega
 have e1:=hat _ hm
 have w1:IntKind.i64.wrap ((i:Int)+j)=(i:Int)+j:=Zh (by omega) (by omega)
 have w2:((i:Int)+j)%18446744073709551616=(i:Int)+j:=by omega
 have w3:((i:Int)+j).fdiv 2=(((i+j)/2:Nat):Int):=by rw[Int.fdiv_eq_ediv_of_nonneg _ (by omega)];omega
 have w4:IntKind.i64.wrap (((i+j)/2:Nat):Int)=(((i+j)/2:Nat):Int):=Zh (by omega) (by omega)
 generalize hmm:(i+j)/2=m at*
 have w5:IntKind.i64.wrap ((m:Int)+1)=((m+1:Nat):Int):=by rw[Zh (by omega) (by omega)];omega
 have hk:atO l m<k\/¬atO l m<k:=Classical.em _
 rcases hk with hk|hk
 ·rw[if_pos hk] at h3
  rw[e1] at hk
  have s_:=An @h (An @w1 (An @w2 (An @w3 (An @w4 (An @w5 (An @hm (An @cmp_lt (An @OpenR.enc.eq_1 (@hk)))))))))
  have q1_:=λs w=>hA (m+1,j) s w ⟨by simp only;omega,h2,h3⟩ (by simp only;omega)
  have p1_:=ZeN l[m] k
  exact WW
 ·rw[if_neg hk] at h3
  rw[e1] at hk
  have s_:=An @h (An @w1 (An @w2 (An @w3 (An @w4 (An @w5 (An @hm (An @cmp_lt (An @OpenR.enc.eq_1 (@hk)))))))))
  have q1_:=λs w=>hA (i,m) s w ⟨by simp only;omega,by simp only;omega,h3⟩ (by simp only;omega)
  have p1_:=ZeN l[m] k
  exact WW
theorem Zpz (l:List OpenR) (k:Int) (hr:Zo OpenR.client l=true) (hl:l.length<=1000000):Zb Tryz.prog 57 [encL OpenR.enc l,I k,.fn 58 []] (.tup [I (placeS OpenR.client l k),B (Zak OpenR.client l k).isSome]):=by
 have h1:=ZnL l k hl
 have hat:∀m (h:m<l.length),atO l m=(l[m]).client:=λm h=>by simp[atO,List.getD_eq_getElem?_getD,h]
 rw[Zfo OpenR.client hr hat k] at h1
 have e:(decide (placeS OpenR.client l k<l.length)&&decide (atO l (placeS OpenR.client l k)=k))=(Zak OpenR.client l k).isSome:=by
  cases hf:Zak OpenR.client l k with
  |some x=>
   obtain⟨hp,e⟩:=Zao OpenR.client hr hf
   rw[hat _ hp,e]
   simp[hp,(ZC OpenR.client hf).2]
  |none=>
   by_cases hp:placeS OpenR.client l k<l.length
   ·have:=ZcN OpenR.client hr hf hp
    rw[hat _ hp]
    simp[this]
   ·simp[hp]
 rw[e] at h1
 refine Pm Tryz.func57 λhfit=> ?_
 simp[Tryz.f57]
 exact WW
theorem ZfC (l:List OpenR) (hl:l.length<=1000000):XCall Tryz.prog 54 [encL OpenR.enc l] [] (.own 0 0 0 l.length 17) [.cells 0 (l.flatMap OpenR.enc)]:=by
 refine XCall.mkE 17 (λ_=>false) Tryz.func54 rfl rfl rfl (Ent.mk Tryz.func54 (by kernel_rfl) rfl) (by simp) (by simp) (by simp) (by simp) (by simp) λhfit=> ?_
 simp at hfit
 simp[Tryz.f54]
 rw[if_pos (by simp only[maxLen];omega)]
 simp
 intro h0
 subst h0
 simp
theorem ZrH (l:List OpenR) (i:Nat) (x:OpenR) (hi:i<=l.length) (hl:l.length<=1000000):XCall Tryz.prog 205 [.own 0 0 0 l.length 17,I i,.sl true 1 x.enc] [.cells 0 (l.flatMap OpenR.enc)] (.own 0 1 0 (l.length+1) 17) [.cells 1 ((insL l i x).flatMap OpenR.enc)]:=by
 by_cases hi2:i=l.length
 case pos=>
  subst hi2
  refine XCall.mkG (λs (_:Unit)=>s) (λ_=>false) Tryz.func205 rfl rfl rfl (Ent.mk Tryz.func205 (by kernel_rfl) rfl) (by simp) (by simp) (by simp) (by simp) (by simp) λhfit=> ?_
  refine⟨WkE.one _ _,λ_=> ?_⟩
  simp[Tryz.f205]
  rw[if_pos (by simp only[maxLen];omega)]
  simp
  exact⟨_,Wk.refl _ _,by simp[ZdV]⟩
 have hi3:i<l.length:=by omega
 have hcp:∀cap,l.length<=cap->(l.length*17+(cap*17 -l.length*17))/17=cap:=λcap h=>by omega
 have hw1:IntKind.i64.wrap ((l.length:Int)+1)=((l.length+1:Nat):Int):=by rw[Zh (by omega) (by omega)];omega
 have hw2:IntKind.i64.wrap ((i:Int)+1)=((i+1:Nat):Int):=by rw[Zh (by omega) (by omega)];omega
 have hw3:IntKind.i64.wrap ((l.length:Int)+1 -i)=((l.length+1 -i:Nat):Int):=by rw[Zh (by omega) (by omega)];omega
 have hw4:((i:Int)+((l.length+1 -i:Nat):Int)).toNat=l.length+1:=by omega
 have hm1:min 1 (l.length+1 -i)=1:=by omega
 have hm2:∀cap,l.length<=cap->min (i*17) (l.length*17+(cap*17 -l.length*17))=i*17:=λcap h=>by omega
 have hov:∀(lb:Nat) (h:Za) (y:ABlk) (Q:AV->Za->Prop),h[0]? =some y->(blkCells y).map (·.1)=some 0->Q (B false) h->AInv Tryz.prog (.fn 232 []) [.sl true 1 x.enc,.own 0 0 (i+1) lb 17] h Q:=λlb h y Q hy hv hq=>
  Zbz Tryz.func232 (by kernel_rfl) rfl (by kernel_rfl) rfl rfl (by kernel_rfl) (k:=17) (by kernel_rfl) true 1 _ _ 0 0 (i+1) lb hy hv (by omega) Q hq
 refine XCall.mkG (λs (cap:{cap:Nat//l.length<=cap/\cap<=maxLen})=>Zcl s 0 0 17 (l.flatMap OpenR.enc) cap.1) (λ_=>false) Tryz.func205 rfl rfl rfl (Ent.mk Tryz.func205 (by kernel_rfl) rfl) (by simp) (by simp) (by simp) (by simp) (by simp) λhfit=> ?_
 refine⟨WkE.full (t:=0) (by simp) (by simp) (by omega) (by simp),?_⟩
 rintro⟨cap,hc1,hc2⟩
 have hcp1:=hcp cap hc1
 have hm3:=hm2 cap hc1
 have hi4:¬i=l.length:=by omega
 have hle:i<=l.length:=by omega
 generalize hA:List.replicate (cap*17 -l.length*17) AV.any=A
 have hAl:A.length=cap*17 -l.length*17:=by rw[<-hA];simp
 have hLl:(l.flatMap OpenR.enc).length=l.length*17:=Zlq l
 have hta:(l.flatMap OpenR.enc++A).take (i*17)=(l.flatMap OpenR.enc).take (i*17):=List.take_append_of_le_length (by rw[hLl];omega)
 have hdr:(l.flatMap OpenR.enc).drop (i*17)=(l.drop i).flatMap OpenR.enc:=Znf l i
 have hq0:(l.flatMap OpenR.enc++A).drop (i*17)=(l.drop i).flatMap OpenR.enc++A:=by rw[List.drop_append_of_le_length (by rw[hLl];omega),hdr]
 have hdl:((l.drop i).flatMap OpenR.enc).length=l.length*17 -i*17:=by rw[Zlq,List.length_drop];omega
 by_cases hr:l.length+1<=cap
 ·have hm4:min (l.length+1 -i) (l.length -i)=l.length -i:=by omega
  have hm5:min ((l.length+1 -i)*17) ((l.length -i)*17+(cap*17 -l.length*17))=(l.length+1 -i)*17:=by omega
  have hm6:min ((l.length+1 -i)*17) (l.length*17+(cap*17 -l.length*17) -i*17)=(l.length+1 -i)*17:=by omega
  have hq1:List.take ((l.length -i)*17) (List.take ((l.length+1 -i)*17) ((l.drop i).flatMap OpenR.enc++A))=(l.drop i).flatMap OpenR.enc:=by
   rw[List.take_take,Nat.min_eq_left (by omega),List.take_left' (by rw[hdl];omega)]
  have hq2:(putAt (l.flatMap OpenR.enc++A) ((i+1)*17) ((l.drop i).flatMap OpenR.enc)).length=cap*17:=by
   rw[ZE (by rw[List.length_append,hLl,hAl,hdl];omega),List.length_append,hLl,hAl];omega
  have hq3:(putAt (putAt (l.flatMap OpenR.enc++A) ((i+1)*17) ((l.drop i).flatMap OpenR.enc)) (i*17) x.enc).take ((l.length+1)*17)=(insL l i x).flatMap OpenR.enc:=by
   have:=ZdT (L:=l.flatMap OpenR.enc) (A:=A) (X:=x.enc) (a:=i*17) (k:=17) hLl (by omega) rfl (by rw[hAl];omega)
   rw[Zlu,hq0,List.take_left' (by rw[hdl])] at this
   rw[show(i+1)*17=i*17+17 by omega,show(l.length+1)*17=l.length*17+17 by omega]
   exact this
  have hone:∀y∈(l.drop i).flatMap OpenR.enc,Zy y=true:=List.all_eq_true.1 (Zlp _)
  simp[Tryz.f205,Zcl,hA]
  have s_:=An @hcp1 (An @hw1 (An @hw2 (An @hw3 (An @hw4 (An @hm1 (An @hm3 (An @hm4 (An @hq0 (An @hq1 (An @hq2 (An @hi3 (An @hi4 (An @hle (@hr))))))))))))))
  try simp[s_]
  repeat' ((first|((first|refine Tp ?_|refine Tn ?_|refine T2 ?_ ?_)<;>intro h_ e_ n_)|(refine hov _ _ _ _ rfl rfl ?_;simp)|(refine optBif ⟨rfl,by rw[List.length_append,hLl,hAl];omega,by rw[List.length_take,List.length_append,hdl,hAl];omega,by rw[hm4,hq1];exact hone⟩ ?_;simp)|refine Dg 11 9 [] [] ?_|refine Dg 15 9 [] [] ?_|rw[Ip]|rw[In]|rw[Fz]|rw[Gz]|fail)<;>first|simp[e_,n_,s_]|simp[s_]|skip)
  exact⟨_,Wk.trans (Wk.prefix 0 0 ((l.length+1)*17) rfl rfl) (Wk.bump 6 0 0 0 (l.length+1) 17 (by simp) rfl),by simp[hq3]⟩
 ·have hm5:min ((l.length -i)*17) ((l.length -i)*17+(cap*17 -l.length*17))=(l.length -i)*17:=by omega
  have hq1:List.take ((l.length -i)*17) (List.take ((l.length -i)*17) ((l.drop i).flatMap OpenR.enc++A))=(l.drop i).flatMap OpenR.enc:=by
   rw[List.take_take,Nat.min_self,List.take_left' (by rw[hdl];omega)]
  have hq4:List.take ((l.length -i)*17) ((l.drop i).flatMap OpenR.enc)=(l.drop i).flatMap OpenR.enc:=List.take_of_length_le (by rw[hdl];omega)
  have hone:∀y∈(l.drop i).flatMap OpenR.enc,Zy y=true:=List.all_eq_true.1 (Zlp _)
  simp[Tryz.f205,Zcl,hA]
  generalize hZ:(List.replicate (l.length+1 -i) [AV.val (Value.int IntKind.i64 0),AV.val (Value.int IntKind.i64 0),AV.val (Value.int IntKind.i64 0),AV.val (Value.int IntKind.i64 0),AV.val (Value.int IntKind.i64 0),AV.sl true 0 [],AV.val (Value.int IntKind.i64 0),AV.sl true 0 [],AV.val (Value.int IntKind.i64 0),AV.sl true 0 [],AV.val (Value.int IntKind.i64 0),AV.val (Value.int IntKind.i64 0),AV.val (Value.int IntKind.i64 0),AV.val (Value.int IntKind.i64 0),AV.val (Value.string ByteArray.empty),AV.sl true 0 [],AV.val (Value.int IntKind.i64 0)]).flatten=Z
  have hZl:Z.length=(l.length+1 -i)*17:=by rw[<-hZ];simp
  have hta':((l.flatMap OpenR.enc).take (i*17)).length=i*17:=by rw[List.length_take,hLl];omega
  have hq2:(putAt ((l.flatMap OpenR.enc).take (i*17)++Z) (i*17) x.enc).length=(l.length+1)*17:=by
   rw[ZE (by rw[List.length_append,hta',hZl,ZqC];omega),List.length_append,hta',hZl];omega
  have hq3:putAt (putAt ((l.flatMap OpenR.enc).take (i*17)++Z) (i*17) x.enc) ((i+1)*17) ((l.drop i).flatMap OpenR.enc)=(insL l i x).flatMap OpenR.enc:=by
   have:=ZdU (L:=l.flatMap OpenR.enc) (A:=A) (X:=x.enc) (Z:=Z) (a:=i*17) (k:=17) hLl (by omega) rfl (by rw[hZl];omega)
   rw[Zlu,hta,hq0,List.take_left' (by rw[hdl])] at this
   rw[show(i+1)*17=i*17+17 by omega]
   exact this
  have s_:=An @hcp1 (An @hw1 (An @hw2 (An @hw3 (An @hw4 (An @hm1 (An @hm3 (An @hq0 (An @hq1 (An @hq4 (An @hta (An @hZ (An @hi3 (An @hi4 (An @hle (@hr)))))))))))))))
  try simp[s_]
  repeat' ((first|((first|refine Tp ?_|refine Tn ?_|refine T2 ?_ ?_)<;>intro h_ e_ n_)|(refine optBif ⟨by rw[hq2];omega,hone⟩ ?_;simp)|refine Dg 11 9 [] [] ?_|refine Dg 15 9 [] [] ?_|rw[Ip]|rw[In]|rw[Fz]|rw[Gz]|fail)<;>first|simp[e_,n_,s_]|simp[s_]|skip)
  exact⟨_,Wk.move 6 0 1 0 0 (l.length+1) 17 (by decide) (by simp;omega) rfl rfl rfl,by simp[hq3]⟩
theorem ZrI (l:List OpenR) (g:FuncId) (cap:List AV) (p:OpenR->Bool) (hcap:cap.all neat=true) (hp:∀x∈l,Zb Tryz.prog g (.agg x.enc::cap) (B (p x))) (hl:l.length<=1000000):Zb Tryz.prog 98 [encL OpenR.enc l,.fn g cap] (I (idxS p l)):=by
 refine Zb.mk (λ_=>false) Tryz.func98 rfl rfl rfl (Ent.mk Tryz.func98 (by kernel_rfl) rfl) (by simp[hcap]) (by simp) λhfit=> ?_
 simp at hfit
 simp[Tryz.f98]
 refine AW.loopG (lit:=λ_=>false) (λi:Nat=>⟨19,pat [(0,encL OpenR.enc l),(1,.fn g cap),(7,I l.length),(8,I i)],[]⟩) (λi=>l.length -i) (λi=>i<=l.length/\Zan p i (l.drop i)=idxS p l) 0 ?_ ?_ ?_
 ·exact Wk.at _ rfl rfl (by simp)
 ·simp[idxS]
 rintro i ⟨h1,h2⟩ A hA
 by_cases hi:i<l.length
 case neg=>
  rw[ZaP hi] at h2
  have s_:=An @hi (Eq.symm (h2))
  exact WW
 rw[Zbi hi] at h2
 have hw:=Zg hi hfit.1.1
 have hpi:=hp l[i] (List.getElem_mem hi)
 cases hpp:p l[i] with
 |true=>
  rw[hpp] at hpi
  simp only[hpp,if_true] at h2
  have s_:=An @hi (An (Eq.symm (h2)) (@hpp))
  have p1_:=hpi
  exact WW
 |false=>
  rw[hpp] at hpi
  simp only[hpp,Bool.false_eq_true,if_false] at h2
  have s_:=An @hi (An @hw (@hpp))
  have q1_:=λs w=>hA (i+1) s w ⟨by omega,h2⟩ (by omega)
  have p1_:=hpi
  exact WW
theorem ZhX (l:List OpenR) (g:FuncId) (cap cap':List AV) (hc:Za) (p:OpenR->Bool) (hcap:cap'.all neat=true) (hcr:cap.all (refsLt (hc.length+1))=true) (hhc:hc.all (ABlk.refsLt (hc.length+1))=true) (hfr:∀(f:Nat) (b0:ABlk) (tl:Za),frzs (b0::(hc++tl)) 0 (f+3) cap=some cap')
  (hp:∀x∈l,Zb Tryz.prog g (.agg x.enc::cap') (B (p x))) (hl:l.length<=1000000):XCall Tryz.prog 53 [.own 0 0 0 l.length 17,.fn g cap] (.cells 0 (l.flatMap OpenR.enc)::hc) (.own 0 0 0 (l.filter λx=> !p x).length 17) (.cells 0 ((l.filter λx=> !p x).flatMap OpenR.enc)::hc):=by
 refine XCall.mkG (λs (_:Unit)=>s) (λ_=>false) Tryz.func53 rfl rfl rfl (Ent.mk Tryz.func53 (by kernel_rfl) rfl) (by simp;simpa using hcr) (by simp;simpa using hhc) (by simp) (by simp) (by simp;simpa using hhc) λhfit=> ?_
 refine⟨WkE.one _ _,λ_=> ?_⟩
 have hix:=ZrI l g cap' p hcap hp hl
 have hfz:∀(v:AV) (b0:ABlk) (tl:Za),neat v=true->(([v]++cap).mapM (frz (b0::(hc++tl)) 0 12))=some (v::cap'):=λv b0 tl hv=>by
  have h2:cap.mapM (frz (b0::(hc++tl)) 0 12)=some cap':=hfr 9 b0 tl
  rw[List.singleton_append,List.mapM_cons,Zcp _ _ _ hv,h2];rfl
 have hlend:∀{Q:AV->Za->Prop},Q (I (idxS p l)) (.cells 0 (l.flatMap OpenR.enc)::hc)->AInv Tryz.prog (.fn 98 []) [.own 0 0 0 l.length 17,.fn g cap] (.cells 0 (l.flatMap OpenR.enc)::hc) Q:=λhq=>
  AInv.lend hix rfl (by
   have:=hfr 8 (.cells 0 (l.flatMap OpenR.enc)) []
   rw[List.append_nil] at this
   rw[List.append_nil,List.mapM_cons,List.mapM_cons,List.mapM_nil,ZmP,List.getElem?_cons_zero,Zav (by simp) (by simp),Zto,this]
   rfl) hq
 have hzs:∀x:OpenR,setMany [AV.val (Value.int IntKind.i64 0),AV.val (Value.int IntKind.i64 0),AV.val (Value.int IntKind.i64 0),AV.val (Value.int IntKind.i64 0),AV.val (Value.int IntKind.i64 0),AV.sl true 0 [],AV.val (Value.int IntKind.i64 0),AV.sl true 0 [],AV.val (Value.int IntKind.i64 0),AV.sl true 0 [],AV.val (Value.int IntKind.i64 0),AV.val (Value.int IntKind.i64 0),AV.val (Value.int IntKind.i64 0),AV.val (Value.int IntKind.i64 0),AV.val (Value.string ByteArray.empty),AV.sl true 0 [],AV.val (Value.int IntKind.i64 0)] 0 x.enc=x.enc:=λ_=>rfl
 by_cases h0:idxS p l= -1
 ·obtain⟨e1,_⟩:=ZcK h0
  simp[Tryz.f53]
  have s_:=h0
  try simp[s_]
  repeat' ((first|((first|refine Tp ?_|refine Tn ?_|refine T2 ?_ ?_)<;>intro h_ e_ n_)|(refine hlend ?_;simp[h0])|refine Dg 11 9 [] [] ?_|refine Dg 15 9 [] [] ?_|rw[Ip]|rw[In]|rw[Fz]|rw[Gz]|fail)<;>first|simp[e_,n_,s_]|simp[s_]|skip)
  exact⟨_,Wk.refl _ _,by simp[e1]⟩
 obtain⟨j0,hj0,e1,e2,e3⟩:=ZcL h0
 have hw0:IntKind.i64.wrap ((j0:Int)+1)=(j0:Int)+1:=Zh (by omega) (by omega)
 have hn0:¬((j0:Int)= -1):=by omega
 simp[Tryz.f53]
 have s_:=An @e1 (An @hw0 (@hn0))
 try simp[s_]
 repeat' ((first|((first|refine Tp ?_|refine Tn ?_|refine T2 ?_ ?_)<;>intro h_ e_ n_)|(refine hlend ?_;simp[e1,hw0,hn0])|refine Dg 11 9 [] [] ?_|refine Dg 15 9 [] [] ?_|rw[Ip]|rw[In]|rw[Fz]|rw[Gz]|fail)<;>first|simp[e_,n_,s_]|simp[s_]|skip)
 refine AW.loopG (lit:=λ_=>false) (λx:Nat×Nat×List OpenR=>⟨42,pat [(0,.own 0 0 0 l.length 17),(1,.fn g cap),(5,I x.1),(6,I x.2.1)],.cells 0 (x.2.2.flatMap OpenR.enc)::hc⟩) (λx=>l.length -x.2.1) (λx=>Zer p l x.2.2 x.1 x.2.1) (j0,j0+1,l) ?_ ?_ ?_
 ·exact Wk.at _ rfl rfl (by simp)
 ·exact .start hj0 e2 e3
 rintro⟨i,j,m⟩ hd A hA
 simp only at hd hA
 have hml:=hd.len
 by_cases hj:j<l.length
 case neg=>
  obtain⟨d1,d2,d3⟩:=hd.done hj
  have s_:=An @hj (@hml)
  try simp[s_]
  repeat' ((first|((first|refine Tp ?_|refine Tn ?_|refine T2 ?_ ?_)<;>intro h_ e_ n_)|refine Dg 11 9 [] [] ?_|refine Dg 15 9 [] [] ?_|rw[Ip]|rw[In]|rw[Fz]|rw[Gz]|fail)<;>first|simp[e_,n_,s_]|simp[s_]|skip)
  exact⟨_,Wk.prefix 0 0 (i*17) rfl rfl,by simp[d2],by
   have:(putAt (m.flatMap OpenR.enc) (i*17) (zeros [AV.val (Value.int IntKind.i64 0),AV.val (Value.int IntKind.i64 0),AV.val (Value.int IntKind.i64 0),AV.val (Value.int IntKind.i64 0),AV.val (Value.int IntKind.i64 0),AV.sl true 0 [],AV.val (Value.int IntKind.i64 0),AV.sl true 0 [],AV.val (Value.int IntKind.i64 0),AV.sl true 0 [],AV.val (Value.int IntKind.i64 0),AV.val (Value.int IntKind.i64 0),AV.val (Value.int IntKind.i64 0),AV.val (Value.int IntKind.i64 0),AV.val (Value.string ByteArray.empty),AV.sl true 0 [],AV.val (Value.int IntKind.i64 0)] (l.length -i))).take (i*17)=(m.take i).flatMap OpenR.enc:=by
    rw[<-Zne]
    unfold putAt
    rw[List.append_assoc,List.take_left' (by simp;omega)]
   simp only[zeros] at this
   simp[this,d1]⟩
 have hmj:=hd.get hj
 have hx:=hp l[j] (List.getElem_mem hj)
 have hw:IntKind.i64.wrap ((j:Int)+1)=((j+1:Nat):Int):=by rw[Zh (by omega) (by omega)];omega
 have hi:=hd.lt
 have hwi:IntKind.i64.wrap ((i:Int)+1)=((i+1:Nat):Int):=by rw[Zh (by omega) (by omega)];omega
 cases hpp:p l[j] with
 |true=>
  rw[hpp] at hx
  have hlx:∀(b0:ABlk) (tl:Za) {Q:AV->Za->Prop},Q (B true) (b0::(hc++tl))->AInv Tryz.prog (.fn g cap) [.agg l[j].enc] (b0::(hc++tl)) Q:=λb0 tl Q hq=>AInv.lend hx rfl (hfz _ b0 tl (by simp)) hq
  have s_:=An @hj (An @hml (An @hzs (An @hw (@hmj))))
  try simp[s_]
  repeat' ((first|((first|refine Tp ?_|refine Tn ?_|refine T2 ?_ ?_)<;>intro h_ e_ n_)|(refine hlx _ _ ?_;simp[hw])|(exact hA (i,j+1,m) _ (Wk.cutAt _ rfl (by simp) (by simp) (by simp;simpa using hhc) (by simp;simpa using hcr)) (hd.skip hj hpp) (by simp only;omega))|refine Dg 11 9 [] [] ?_|refine Dg 15 9 [] [] ?_|rw[Ip]|rw[In]|rw[Fz]|rw[Gz]|fail)<;>first|simp[e_,n_,s_]|simp[s_]|skip)
 |false=>
  rw[hpp] at hx
  have hlx:∀(b0:ABlk) (tl:Za) {Q:AV->Za->Prop},Q (B false) (b0::(hc++tl))->AInv Tryz.prog (.fn g cap) [.agg l[j].enc] (b0::(hc++tl)) Q:=λb0 tl Q hq=>AInv.lend hx rfl (hfz _ b0 tl (by simp)) hq
  have him:i<m.length:=by omega
  have hil:i<l.length:=by omega
  have s_:=An @hj (An @hml (An @hzs (An @hw (An @hwi (An @hmj (An @him (@hil)))))))
  try simp[s_]
  repeat' ((first|((first|refine Tp ?_|refine Tn ?_|refine T2 ?_ ?_)<;>intro h_ e_ n_)|(refine hlx _ _ ?_;simp[hw,hwi,hmj,him,hil])|(exact hA (i+1,j+1,m.set i l[j]) _ (Wk.cutAt _ rfl (by simp) (by simp) (by simp;simpa using hhc) (by simp;simpa using hcr)) (hd.keep hj hpp) (by simp only;omega))|refine Dg 11 9 [] [] ?_|refine Dg 15 9 [] [] ?_|rw[Ip]|rw[In]|rw[Fz]|rw[Gz]|fail)<;>first|simp[e_,n_,s_]|simp[s_]|skip)
theorem encH7 (h:HostR):h.enc=[encL ChainR.enc h.s.l,encL CountR.enc h.s.nexts,I h.s.stamp,encL RowR.enc h.rows,encL OpenR.enc h.opens,I h.now,I h.lease]:=rfl
theorem zeroO:OpenR.zero.enc=[I 0,I 0,I 0,I 0,I 0,.sl false 0 [],I 0,.sl false 0 [],I 0,.sl false 0 [],I 0,I 0,I 0,I 0,S .empty,.sl false 0 [],I 0]:=rfl
@[simp] theorem zsetO (c:OpenR):setMany [AV.val (Value.int IntKind.i64 0),AV.val (Value.int IntKind.i64 0),AV.val (Value.int IntKind.i64 0),AV.val (Value.int IntKind.i64 0),AV.val (Value.int IntKind.i64 0),AV.sl true 0 [],AV.val (Value.int IntKind.i64 0),AV.sl true 0 [],AV.val (Value.int IntKind.i64 0),AV.sl true 0 [],AV.val (Value.int IntKind.i64 0),AV.val (Value.int IntKind.i64 0),AV.val (Value.int IntKind.i64 0),AV.val (Value.int IntKind.i64 0),AV.val (Value.string ByteArray.empty),AV.sl true 0 [],AV.val (Value.int IntKind.i64 0)] 0 c.enc=c.enc:=rfl
theorem ZF (e:Int):Zb Tryz.prog 78 [I e] (.agg (errR e).enc):=by
 refine Pm Tryz.func78 λhfit=> ?_
 simp[Tryz.f78]
 have s_:=An @errR.eq_1 (@ReplyR.enc.eq_1)
 exact WW
abbrev oTup (o:Option OpenR):AV:= .tup [.agg (o.getD .zero).enc,B o.isSome]
theorem Zky (h:HostR) (c:Int) (hr:Zo OpenR.client h.opens=true) (hl:h.opens.length<=1000000):Zb Tryz.prog 23 [.agg h.enc,I c] (oTup (findO h c)):=by
 have h1:=Zpz h.opens c hr hl
 show Zb _ _ _ (oTup (Zak OpenR.client h.opens c))
 cases hx:Zak OpenR.client h.opens c with
 |none=>
  rw[hx] at h1
  simp only[Option.isSome_none] at h1
  generalize placeS OpenR.client h.opens c=q at*
  refine Pm Tryz.func23 λhfit=> ?_
  simp[Tryz.f23]
  have s_:=zeroO
  exact WW
 |some o=>
  rw[hx] at h1
  simp only[Option.isSome_some] at h1
  obtain⟨hp,hpx⟩:=Zao OpenR.client hr hx
  generalize placeS OpenR.client h.opens c=q at*
  refine Pm Tryz.func23 λhfit=> ?_
  simp[Tryz.f23]
  have s_:=An @hp (@hpx)
  exact WW
theorem ZpA (h:HostR) (o:OpenR) (hr:Zo OpenR.client h.opens=true) (hl:h.opens.length<=100000):Zb Tryz.prog 176 [.agg h.enc,.agg o.enc] (.agg (withO h o).enc):=by
 have h1:=Zpz h.opens o.client hr (by omega)
 have hpl:=ZcI OpenR.client h.opens o.client
 show Zb _ _ _ (.agg (HostR.enc {h with opens:=putS OpenR.client h.opens o}))
 cases hx:Zak OpenR.client h.opens o.client with
 |none=>
  rw[hx] at h1
  simp only[Option.isSome_none] at h1
  have hins:=ZrH h.opens (placeS OpenR.client h.opens o.client) o hpl (by omega)
  rw[<-Zkm OpenR.client hr ((ZbX _).1 hx)]
  generalize placeS OpenR.client h.opens o.client=q at*
  refine Pm Tryz.func176 λhfit=> ?_
  simp[Tryz.f176]
  have s_:=encH7
  have f1_:=F0 [] (ZfC h.opens (by omega))
  have f2_:=F0 [3] hins
  exact WW
 |some r=>
  rw[hx] at h1
  simp only[Option.isSome_some] at h1
  obtain⟨hp,hpx⟩:=Zao OpenR.client hr hx
  rw[<-Zkl OpenR.client hr hp (by rw[hpx];exact(ZC _ hx).2)]
  generalize placeS OpenR.client h.opens o.client=q at*
  refine Pm Tryz.func176 λhfit=> ?_
  simp[Tryz.f176]
  have s_:=An @hp (@encH7)
  have f1_:=F0 [] (ZfC h.opens (by omega))
  exact WW
theorem setO_enc (f k:OpenR):setMany f.enc 0 k.enc=k.enc:=by
 have:=ZqE (l:=[f]) (i:=0) (by simp) k
 simpa using this
abbrev uTup (u:OpenR×Bool×Bool):AV:= .tup [.agg u.1.enc,B u.2.1,B u.2.2]
theorem ZfD (h:HostR) (m:MsgR) (hr:Zo OpenR.client h.opens=true) (hl:h.opens.length<=1000000):Zb Tryz.prog 76 [.agg h.enc,.agg m.enc] (uTup (ownMsg h m)):=by
 have h1:=Zky h m.client hr hl
 unfold ownMsg
 cases hx:findO h m.client with
 |none=>
  rw[hx] at h1
  simp only[oTup,Option.getD_none,Option.isSome_none] at h1
  refine Pm Tryz.func76 λhfit=> ?_
  simp[Tryz.f76]
  have s_:=zeroO
  exact WW
 |some o=>
  rw[hx] at h1
  simp only[oTup,Option.getD_some,Option.isSome_some] at h1
  refine Pm Tryz.func76 λhfit=> ?_
  simp[Tryz.f76]
  have s_:=An @isO.eq_1 (An @lateO.eq_1 (@setO_enc))
  exact WW
abbrev hTup (x:HostR×ReplyR):AV:= .tup [.agg x.1.enc,encR x.2]
theorem setO_t (o:OpenR) (t:TxnR):setMany o.enc 4 t.enc=OpenR.enc {o with t:=t}:=rfl
theorem setO_last (o:OpenR) (r:ReplyR):setMany o.enc 10 r.enc=OpenR.enc {o with last:=r}:=rfl
theorem setO_n (o:OpenR) (n:Int):o.enc.set 3 (I n)=OpenR.enc {o with n:=n}:=rfl
theorem setO_until (o:OpenR) (n:Int):o.enc.set 16 (I n)=OpenR.enc {o with until_:=n}:=rfl
theorem setH_enc (f k:HostR):setMany f.enc 0 k.enc=k.enc:=rfl
theorem ZuD (h:HostR) (m:MsgR) (hr:Zo OpenR.client h.opens=true) (hl:h.opens.length<=100000) (hs:h.s.l.length<=2000000) (hw:IntKind.i64.wrap (h.now+h.lease)=h.now+h.lease):Zb Tryz.prog 148 [.agg h.enc,.agg m.enc] (hTup (beginH h m)):=by
 have h1:=Zky h m.client hr (by omega)
 have h2:=ZfD h m hr (by omega)
 have h3:=ZF 12
 have h3b:=ZF 20
 have h4:=Zyz h.s hs
 have h5:=ZpA h (openS h m) hr hl
 have eo:AV.agg (openS h m).enc= .agg [I m.client,I m.epoch,I m.seq,I 0,I (beginS h.s).stamp,encL NodeR.enc (beginS h.s).was.l,I (beginS h.s).was.next,encL NodeR.enc (beginS h.s).now.l,I (beginS h.s).now.next,enc1 I (beginS h.s).looks,I 0,I 0,I 0,I 0,S .empty,.sl false 0 [],I (h.now+h.lease)]:=rfl
 unfold beginH
 generalize openS h m=u at*
 generalize beginS h.s=b at*
 generalize withO h u=k at*
 rw[eo] at h5
 cases hx:findO h m.client with
 |none=>
  rw[hx] at h1
  rw[Zgd hx] at h2
  simp only[oTup,Option.getD_none,Option.isSome_none] at h1
  refine Pm Tryz.func148 λhfit=> ?_
  have d1_:=D0 4 7 [] []
  have d2_:=D0 6 2 [] []
  have d3_:=D0 8 2 [] []
  have d4_:=D0 9 23 [] []
  simp[Tryz.f148]
  have s_:=An @hw (An @repA.eq_1 (An @TxnR.enc.eq_1 (An @FSR.enc.eq_1 (@ReplyR.enc.eq_1))))
  have e1_:=D0 4 7 [2,3] []
  have e2_:=D0 6 4 [2,3] []
  have e3_:=D0 8 4 [2,3] []
  have e4_:=D0 9 23 [2,3] []
  exact WW
 |some o=>
  rw[hx] at h1
  rw[ZcR hx] at h2
  simp only[oTup,Option.getD_some,Option.isSome_some] at h1
  simp only at h2⊢
  generalize isO o m=is at*
  generalize lateO h o m=lt at*
  by_cases q1:m.epoch<=o.epoch
  all_goals
   refine Pm Tryz.func148 λhfit=> ?_
   have d1_:=D0 4 7 [] []
   have d2_:=D0 6 2 [] []
   have d3_:=D0 8 2 [] []
   have d4_:=D0 9 23 [] []
   simp[Tryz.f148]
   have s_:=An @q1 (An @hw (An @repA.eq_1 (An @TxnR.enc.eq_1 (An @FSR.enc.eq_1 (@ReplyR.enc.eq_1)))))
   have e1_:=D0 4 7 [2,3] []
   have e2_:=D0 6 4 [2,3] []
   have e3_:=D0 8 4 [2,3] []
   have e4_:=D0 9 23 [2,3] []
   have p1_:=h3b
   exact WW
theorem ZuE (h:HostR) (m:MsgR) (hr:Zo OpenR.client h.opens=true) (hl:h.opens.length<=100000):Zb Tryz.prog 37 [.agg h.enc,.agg m.enc] (I (mayCallS h m)):=by
 have h2:=ZfD h m hr (by omega)
 unfold mayCallS
 cases hx:findO h m.client with
 |none=>
  rw[Zgd hx] at h2
  refine Pm Tryz.func37 λhfit=> ?_
  simp[Tryz.f37]
  exact WW
 |some o=>
  rw[ZcR hx] at h2
  simp only at h2⊢
  generalize isO o m=is at*
  generalize lateO h o m=lt at*
  refine Pm Tryz.func37 λhfit=> ?_
  simp[Tryz.f37]
  exact WW
structure _root_.Go.Cx.Fit (o:OpenR):Prop where
 t:TxnP o.t
 next:o.t.now.next<4611686018427387904
 looks:o.t.looks.length<=900000
theorem ZxA (h:HostR) (m:MsgR) (hr:Zo OpenR.client h.opens=true) (hl:h.opens.length<=100000) (hf:∀o∈h.opens,Fit o) (hm:m.c.wf) (hw:IntKind.i64.wrap (h.now+h.lease)=h.now+h.lease):Zb Tryz.prog 149 [.agg h.enc,.agg m.enc] (hTup (callS h m)):=by
 have h2:=ZfD h m hr (by omega)
 have h3:=ZuE h m hr hl
 unfold callS
 by_cases q:mayCallS h m=0
 case neg=>
  have h4:=ZF (mayCallS h m)
  rw[if_pos q]
  generalize mayCallS h m=e at*
  generalize ownMsg h m=u at*
  refine Pm Tryz.func149 λhfit=> ?_
  have d1_:=D0 4 3 [] []
  have d2_:=D0 6 5 [] []
  have d3_:=D0 8 11 [] []
  have d4_:=D0 9 7 [] []
  simp[Tryz.f149]
  have s_:=q
  have e1_:=D0 4 5 [2,3] []
  have e2_:=D0 6 5 [2,3] []
  have e3_:=D0 8 11 [4] []
  have e4_:=D0 9 7 [2,3] []
  exact WW
 rw[if_neg (by simpa using q)]
 rw[q] at h3
 obtain⟨o,ho,oi,ol,_⟩:=Zpw q
 rw[ho]
 rw[ZcR ho,oi,ol] at h2
 simp only
 by_cases k:m.n=o.n
 ·rw[if_pos k]
  refine Pm Tryz.func149 λhfit=> ?_
  have d1_:=D0 4 3 [] []
  have d2_:=D0 6 5 [] []
  have d3_:=D0 8 11 [] []
  have d4_:=D0 9 7 [] []
  simp[Tryz.f149]
  have s_:=k
  have e1_:=D0 4 5 [2,3] []
  have e2_:=D0 6 5 [2,3] []
  have e3_:=D0 8 11 [4] []
  have e4_:=D0 9 7 [2,3] []
  exact WW
 rw[if_neg k]
 have F:=hf o (ZC OpenR.client ho).1
 have h5:=Znj o.t m.c F.t.nrows F.t.ntree F.next (by have:=F.looks;omega) hm
 have h6:=ZpA h (ZrG h o m) hr hl
 unfold ZrG at h6⊢
 generalize stepS o.t m.c=X at*
 generalize hK:withO h _=K at*
 refine Pm Tryz.func149 λhfit=> ?_
 have d1_:=D0 4 3 [] []
 have d2_:=D0 6 5 [] []
 have d3_:=D0 8 11 [] []
 have d4_:=D0 9 7 [] []
 simp[Tryz.f149]
 have s_:=An @k (An @hw (An @setO_t (An @setO_last (An @setO_n (@setO_until)))))
 have e1_:=D0 4 5 [2,3] []
 have e2_:=D0 6 5 [2,3] []
 have e3_:=D0 8 11 [4] []
 have e4_:=D0 9 7 [2,3] []
 exact WW
theorem ZnM (o:OpenR) (m:MsgR):Zb Tryz.prog 181 [.agg o.enc,.fp m.enc] (B (decide (o.client=m.client))):=by
 refine Pm Tryz.func181 λhfit=> ?_
 simp[Tryz.f181]
theorem try_not {h:HostR} {m:MsgR} (hn:¬(m.kind=3/\(ownMsg h m).2.1=true/\(ownMsg h m).2.2=false/\(ownMsg h m).1.n=m.n)):tryS h m=(h.s,false):=by
 unfold tryS
 split
 ·rfl
 ·rename_i o ho
  rw[if_neg]
  rintro⟨h1,h2,h3,h4,_⟩
  rw[ZcR ho] at hn
  exact hn ⟨h1,h2,by simp[h2,h3],h4⟩
theorem try_yes {h:HostR} {m:MsgR} (hn:m.kind=3/\(ownMsg h m).2.1=true/\(ownMsg h m).2.2=false/\(ownMsg h m).1.n=m.n):findO h m.client=some (ownMsg h m).1/\tryS h m=if(commitS h.s (ownMsg h m).1.t).2=0 then((commitS h.s (ownMsg h m).1.t).1,true) else(h.s,false):=by
 unfold tryS
 obtain⟨h1,h2,h3,h4⟩:=hn
 cases hx:findO h m.client with
 |none=>rw[Zgd hx] at h2;cases h2
 |some o=>
  rw[ZcR hx] at h2 h3 h4⊢
  simp only at h2 h3 h4⊢
  have h3':lateO h o m=false:=by rw[h2] at h3;simpa using h3
  refine⟨by first|trivial|rfl,?_⟩
  by_cases z:(commitS h.s o.t).2=0
  ·rw[if_pos ⟨h1,h2,h3',h4,z⟩,if_pos z]
  ·rw[if_neg (λg=>z g.2.2.2.2),if_neg z]
theorem ZrJ (h:HostR) (m:MsgR) (hr:Zo OpenR.client h.opens=true) (hl:h.opens.length<=100000) (hf:∀o∈h.opens,Fit o) (hP:ZD h.s) (hb:ZaL 90000 h.s) (hs:h.s.stamp<4611686018427387904) (hR:Zas h.rows):Zb Tryz.prog 150 [.agg h.enc,.agg m.enc] (hTup (decideH h m)):=by
 have h2:=ZfD h m hr (by omega)
 have h3:=ZF 20
 have h4:=ZF 16
 have h5:=ZF 15
 have hdel:=ZhX h.opens 181 [.ptr 1 0 0] [.fp m.enc] [.cells 0 m.enc] (λx=>decide (x.client=m.client)) (by simp) (by simp) (by simp) (λfu b0 tl=>by simp) (λx _=>ZnM x m) (by omega)
 have hcl:=ZfC h.opens (by omega)
 by_cases hc:m.kind=3/\(ownMsg h m).2.1=true/\(ownMsg h m).2.2=false/\(ownMsg h m).1.n=m.n
 ·obtain⟨ho,ht⟩:=try_yes hc
  have F:=hf _ (ZC OpenR.client ho).1
  have h6:=ZvN h.s (ownMsg h m).1.t hP (hb.mono (by omega)) (by omega) F.t (ZyE h.s _ hP (hb.b (by omega)) F.t.rise (by have:=F.looks;omega))
  unfold decideH Zbw
  rw[ht]
  obtain⟨c1,c2,c3,c4⟩:=hc
  have c5:¬m.kind=5:=by omega
  rw[if_neg (λg=>c5 g.1),c2]
  generalize ownMsg h m=u at*
  obtain⟨o,is,late⟩:=u
  simp only at c2 c3 c4 h6 F ho⊢
  subst c2 c3
  clear ho ht F
  by_cases z:(commitS h.s o.t).2=0
  ·rw[if_pos z]
   have h7:=Zio h.rows m.client m.epoch m.seq true hR
   have h8:=ZF (decideS h.rows m.client m.epoch m.seq true).2.2
   generalize commitS h.s o.t=C at*
   generalize decideS h.rows m.client m.epoch m.seq true=D at*
   refine Pm Tryz.func150 λhfit=> ?_
   have d1_:=D0 3 2 [] []
   have d2_:=D0 13 3 [] []
   have d3_:=D0 20 2 [] []
   have d4_:=D0 21 2 [] []
   simp[Tryz.f150]
   have s_:=An @c1 (An @c4 (An @z (An @encH7 (An @StoreR.enc.eq_1 (An @rep0.eq_1 (@ReplyR.enc.eq_1))))))
   have e1_:=D0 3 4 [2,3] []
   have e2_:=D0 13 5 [2,3] []
   have e3_:=D0 20 4 [2,3] []
   have e4_:=D0 21 4 [2,3] []
   have f1_:=F0 [] hcl
   have f2_:=F0 [7,1] hdel
   exact WW
  ·rw[if_neg z]
   have h7:=Zio h.rows m.client m.epoch m.seq false hR
   have h8:=ZF (decideS h.rows m.client m.epoch m.seq false).2.2
   generalize commitS h.s o.t=C at*
   generalize decideS h.rows m.client m.epoch m.seq false=D at*
   refine Pm Tryz.func150 λhfit=> ?_
   have d1_:=D0 3 2 [] []
   have d2_:=D0 13 3 [] []
   have d3_:=D0 20 2 [] []
   have d4_:=D0 21 2 [] []
   simp[Tryz.f150]
   have s_:=An @c1 (An @c4 (An @z (@encH7)))
   have e1_:=D0 3 4 [2,3] []
   have e2_:=D0 13 5 [2,3] []
   have e3_:=D0 20 4 [2,3] []
   have e4_:=D0 21 4 [2,3] []
   have f1_:=F0 [] hcl
   have f2_:=F0 [7,1] hdel
   exact WW
 ·unfold decideH Zbw
  rw[try_not hc]
  have h7:=Zio h.rows m.client m.epoch m.seq false hR
  have h8:=ZF (decideS h.rows m.client m.epoch m.seq false).2.2
  generalize decideS h.rows m.client m.epoch m.seq false=D at*
  generalize ownMsg h m=u at*
  obtain⟨o,is,late⟩:=u
  simp only at hc h2⊢
  by_cases hx:m.kind=3/\is=true/\late=false
  ·obtain⟨c1,c2,c3⟩:=hx
   subst c2 c3
   have c4:¬o.n=m.n:=λg=>hc ⟨c1,rfl,rfl,g⟩
   refine Pm Tryz.func150 λhfit=> ?_
   have d1_:=D0 3 2 [] []
   have d2_:=D0 13 3 [] []
   have d3_:=D0 20 2 [] []
   have d4_:=D0 21 2 [] []
   simp[Tryz.f150]
   have s_:=An @c1 (An @c4 (@encH7))
   have e1_:=D0 3 4 [2,3] []
   have e2_:=D0 13 5 [2,3] []
   have e3_:=D0 20 4 [2,3] []
   have e4_:=D0 21 4 [2,3] []
   have f1_:=F0 [] hcl
   have f2_:=F0 [6,1] hdel
   exact WW
  have hk:m.kind=3\/m.kind=5\/(¬m.kind=3/\¬m.kind=5):=by omega
  rcases hk with c1|c1|c1<;>cases is<;>cases late<;>first|(exfalso;exact hx ⟨c1,rfl,rfl⟩)|skip
  all_goals
   refine Pm Tryz.func150 λhfit=> ?_
   simp[Tryz.f150]
   have s_:=An @c1 (@encH7)
   try simp[s_]
   repeat' ((first|((first|refine Tp ?_|refine Tn ?_|refine T2 ?_ ?_)<;>intro h_ e_ n_)|(refine AInv.fresh [] hcl (by simp) (by simp) ?_;simp)|(refine AInv.fresh [6,1] hdel (by simp) (by simp) ?_;simp)|refine Pg h2 ?_|refine Pg h3 ?_|refine Pg h4 ?_|refine Pg h7 ?_|refine Pg h8 ?_|refine Pg h5 ?_|refine Dg 3 4 [2,3] [] ?_|refine Dg 13 5 [2,3] [] ?_|refine Dg 20 4 [2,3] [] ?_|refine Dg 21 4 [2,3] [] ?_|rw[Ip]|rw[In]|rw[Fz]|rw[Gz]|fail)<;>first|simp[e_,n_,s_]|simp[s_]|skip)
abbrev waysM:AV:= .fmap [I 1,I 2,I 3,I 4,I 5] [.fn 148 [],.fn 149 [],.fn 150 [],.fn 150 [],.fn 150 []]
theorem ways_ok:Zb Tryz.prog 79 [] waysM:=by
 refine Pm Tryz.func79 λhfit=> ?_
 simp[Tryz.f79]
structure _root_.Go.Cx.FitH (h:HostR):Prop where
 rise:Zo OpenR.client h.opens=true
 few:h.opens.length<=100000
 opens:∀o∈h.opens,Fit o
 store:ZD h.s
 vers:ZaL 90000 h.s
 stamp:h.s.stamp<4611686018427387904
 rows:Zas h.rows
 lease:IntKind.i64.wrap (h.now+h.lease)=h.now+h.lease
theorem ZuF (h:HostR) (m:MsgR) (F:FitH h) (hm:m.c.wf):Zb Tryz.prog 38 [.agg h.enc,.agg m.enc] (hTup (answerS h m)):=by
 have h0:=ways_ok
 have h1:=ZvD h.rows m.client m.epoch m.seq F.rows
 have h2:=ZvC h.rows m.client m.epoch m.seq F.rows
 have h3:=ZuD h m F.rise F.few (by have:=F.vers.l;omega) F.lease
 have h4:=ZxA h m F.rise F.few F.opens hm F.lease
 have h5:=ZrJ h m F.rise F.few F.opens F.store F.vers F.stamp F.rows
 unfold answerS
 by_cases k6:m.kind=6
 ·have h6:=ZF (forgetS h.rows m.client m.epoch m.seq).2
  rw[if_pos k6]
  clear h2 h3 h4 h5 h0
  generalize forgetS h.rows m.client m.epoch m.seq=X at*
  refine Pm Tryz.func38 λhfit=> ?_
  have d1_:=D0 4 3 [] []
  have d2_:=D0 6 9 [] []
  have d3_:=D0 8 3 [] []
  have d4_:=D0 10 2 [] []
  have d5_:=D0 14 2 [] []
  have d6_:=D0 17 2 [] []
  simp[Tryz.f38]
  have s_:=An @k6 (@encH7)
  have e1_:=D0 4 5 [2,3] []
  have e2_:=D0 8 5 [2,3] []
  have e3_:=D0 10 4 [2,3] []
  have e4_:=D0 14 4 [2,3] []
  have e5_:=D0 17 4 [2,3] []
  exact WW
 rw[if_neg k6]
 clear h1
 have h6:=ZF (askS h.rows m.client m.epoch m.seq).2
 have h7:=ZF 1
 have h8:=ZF 7
 have h9:=ZF 15
 generalize askS h.rows m.client m.epoch m.seq=X at*
 obtain⟨y,e⟩:=X
 simp only at h2 h6⊢
 generalize beginH h m=b1 at*
 generalize callS h m=b2 at*
 generalize decideH h m=b3 at*
 have hk0:m.kind=1\/m.kind=2\/m.kind=3\/m.kind=4\/m.kind=5\/(¬m.kind=1/\¬m.kind=2/\¬m.kind=3/\¬m.kind=4/\¬m.kind=5/\(m.kind<1\/5<m.kind)):=by omega
 have hk:m.kind=1\/m.kind=2\/m.kind=3\/m.kind=4\/m.kind=5\/((m.kind==1)=false/\(m.kind==2)=false/\(m.kind==3)=false/\(m.kind==4)=false/\(m.kind==5)=false/\(m.kind<1\/5<m.kind)):=by
  simpa only[beq_eq_false_iff_ne,ne_eq] using hk0
 have he:(e=0)\/(e=6)\/(¬e=0/\¬e=6):=by omega
 rcases hk with c|c|c|c|c|c<;>rcases he with a|a|a<;>cases y
 all_goals
  refine Pm Tryz.func38 λhfit=> ?_
  have d1_:=D0 4 3 [] []
  have d2_:=D0 6 9 [] []
  have d3_:=D0 8 3 [] []
  have d4_:=D0 10 2 [] []
  have d5_:=D0 14 2 [] []
  have d6_:=D0 17 2 [] []
  simp[Tryz.f38]
  have s_:=An @k6 (An @c (An @a (An @rep0.eq_1 (@ReplyR.enc.eq_1))))
  have e1_:=D0 4 5 [2,3] []
  have e2_:=D0 8 5 [2,3] []
  have e3_:=D0 10 4 [2,3] []
  have e4_:=D0 14 4 [2,3] []
  have e5_:=D0 17 4 [2,3] []
  exact WW
theorem ZfE (h:HostR) (m:MsgR) (F:FitH h) (hm:m.c.wf):Zb Tryz.prog 11 [.agg h.enc,.agg m.enc] (.tup [.agg (ZeM h m).1.enc,.agg (ZeM h m).2.enc]):=by
 have h1:=ZvC h.rows m.client m.epoch m.seq F.rows
 have h2:=ZuE h m F.rise F.few
 have h3:=ZuF h m F hm
 unfold ZeM nS
 generalize answerS h m=A at*
 generalize mayCallS h m=e at*
 generalize askS h.rows m.client m.epoch m.seq=X at*
 by_cases c:m.kind=2<;>by_cases a:X.2=6<;>by_cases b:e=0
 all_goals
  refine Pm Tryz.func11 λhfit=> ?_
  have d1_:=D0 6 14 [] []
  simp[Tryz.f11]
  have s_:=An @c (An @a (An @b (An @setH_enc (An @RspR.enc.eq_1 (@ReplyR.enc.eq_1)))))
  have e1_:=D0 6 14 [2,3] []
  exact WW
theorem ZxB (l:List Int) (g:FuncId) (cap:List AV) (p:Int->Bool) (hcap:cap.all neat=true) (hp:∀x∈l,Zb Tryz.prog g (I x::cap) (B (p x))) (hl:l.length<=1000000):Zb Tryz.prog 196 [enc1 I l,.fn g cap] (I (idxS p l)):=by
 refine Zb.mk (λ_=>false) Tryz.func196 rfl rfl rfl (Ent.mk Tryz.func196 (by kernel_rfl) rfl) (by simp[hcap]) (by simp) λhfit=> ?_
 simp at hfit
 simp[Tryz.f196]
 refine AW.loopG (lit:=λ_=>false) (λi:Nat=>⟨19,pat [(0,enc1 I l),(1,.fn g cap),(7,I l.length),(8,I i)],[]⟩) (λi=>l.length -i) (λi=>i<=l.length/\Zan p i (l.drop i)=idxS p l) 0 ?_ ?_ ?_
 ·exact Wk.at _ rfl rfl (by simp)
 ·simp[idxS]
 rintro i ⟨h1,h2⟩ A hA
 by_cases hi:i<l.length
 case neg=>
  rw[ZaP hi] at h2
  have s_:=An @hi (Eq.symm (h2))
  exact WW
 rw[Zbi hi] at h2
 have hw:=Zg hi hfit.1
 have hpi:=hp l[i] (List.getElem_mem hi)
 cases hpp:p l[i] with
 |true=>
  rw[hpp] at hpi
  simp only[hpp,if_true] at h2
  have s_:=An @hi (An (Eq.symm (h2)) (@hpp))
  have p1_:=hpi
  exact WW
 |false=>
  rw[hpp] at hpi
  simp only[hpp,Bool.false_eq_true,if_false] at h2
  have s_:=An @hi (An @hw (@hpp))
  have q1_:=λs w=>hA (i+1) s w ⟨by omega,h2⟩ (by omega)
  have p1_:=hpi
  exact WW
theorem ZpB (l:List Int) (g:FuncId) (cap:List AV) (p:Int->Bool) (hcap:cap.all neat=true) (hp:∀x∈l,Zb Tryz.prog g (I x::cap) (B (p x))) (hl:l.length<=1000000):Zb Tryz.prog 157 [enc1 I l,.fn g cap] (B (l.any p)):=by
 have h1:=ZxB l g cap p hcap hp hl
 rw[show l.any p=decide (0<=idxS p l) from ZmD p l]
 generalize idxS p l=q at*
 refine Zb.mk (λ_=>false) Tryz.func157 rfl rfl rfl (Ent.mk Tryz.func157 (by kernel_rfl) rfl) (by simp[hcap]) (by simp) λhfit=> ?_
 simp[Tryz.f157]
 exact WW
theorem ZuG (l:List VerR) (i:Nat) (st:Int):Zb Tryz.prog 159 [I st,.fp [encL VerR.enc l],.fp [.fn 102 []],.fp [I i]] (B (decide (atS VerR.stamp l st=(i:Int)))):=by
 have h1:=atV_ok l st
 refine Pm Tryz.func159 λhfit=> ?_
 have d1_:=D0 1 7 [] []
 simp[Tryz.f159]
 exact WW
theorem ZxC (l:List VerR) (sts:List Int) (hs:sts.length<=1000000) (hl:l.length<=2000000):Zb Tryz.prog 101 [encL VerR.enc l,enc1 I sts,.fn 102 []] (encL VerR.enc (Zdl VerR.stamp l sts 0 l)):=by
 refine Pm Tryz.func101 λhfit=> ?_
 simp[Tryz.f101]
 try simp
 repeat' ((first|((first|refine Tp ?_|refine Tn ?_|refine T2 ?_ ?_)<;>intro h_ e_ n_)|rw[Ip]|rw[In]|rw[Fz]|rw[Gz]|fail)<;>first|simp[e_,n_]|simp|skip)
 refine AW.loopG (lit:=λ_=>false) (λx:Nat×List VerR=>⟨26,pat [(1,enc1 I sts),(3,.ptr 0 0 0),(5,.ptr 1 0 0),(7,.own 2 x.2.length 0 x.2.length 7),(10,encL VerR.enc l),(11,I l.length),(12,I x.1)],[.cells 0 [encL VerR.enc l],.cells 0 [.fn 102 []],.cells x.2.length (x.2.flatMap VerR.enc)]⟩) (λx=>l.length -x.1)
  (λx=>x.1<=l.length/\x.2.length<=x.1/\x.2++Zdl VerR.stamp l sts x.1 (l.drop x.1)=Zdl VerR.stamp l sts 0 l) (0,[]) ?_ ?_ ?_
 ·exact Wk.trans (Wk.ownNil 7 7 (by simp)) Wa
 ·exact⟨Nat.zero_le _,by simp,by simp⟩
 rintro⟨i,acc⟩ ⟨g1,g2,g3⟩ A hA
 simp only at g1 g2 g3 hA
 by_cases hi:i<l.length
 case neg=>
  rw[List.drop_eq_nil_of_le (by omega)] at g3
  simp only[Zdl,List.append_nil] at g3
  subst g3
  have s_:=hi
  exact WW
 rw[List.drop_eq_getElem_cons hi] at g3
 have hwi:=Zg hi (by simp only[maxLen];omega)
 have hm:acc.length+1<=maxLen:=by simp only[maxLen];omega
 have hc:=ZpB sts 159 [.fp [encL VerR.enc l],.fp [.fn 102 []],.fp [I i]] (λst=>decide (atS VerR.stamp l st=(i:Int))) (by simp) (λst _=>ZuG l i st) hs
 have hal:(acc++[l[i]]).length=acc.length+1:=by simp
 cases hb:sts.any (λst=>decide (atS VerR.stamp l st=(i:Int))) with
 |true=>
  rw[hb] at hc
  rw[Zdl,if_pos hb] at g3
  have s_:=An @hi (An @hwi (@hm))
  try simp[s_]
  repeat' ((first|((first|refine Tp ?_|refine Tn ?_|refine T2 ?_ ?_)<;>intro h_ e_ n_)|(exact hA (i+1,acc++[l[i]]) _ Wc ⟨hi,by simp only[hal];omega,by simpa using g3⟩ (by simp only;omega))|refine Lg hc ?_|refine Sg hc ?_|rw[Ip]|rw[In]|rw[Fz]|rw[Gz]|fail)<;>first|simp[e_,n_,s_]|simp[s_]|skip)
 |false=>
  rw[hb] at hc
  rw[Zdl,if_neg (by rw[hb];simp)] at g3
  have s_:=An @hi (An @hwi (@hm))
  try simp[s_]
  repeat' ((first|((first|refine Tp ?_|refine Tn ?_|refine T2 ?_ ?_)<;>intro h_ e_ n_)|(exact hA (i+1,acc) _ Wc ⟨hi,by simp only;omega,g3⟩ (by simp only;omega))|refine Lg hc ?_|refine Sg hc ?_|rw[Ip]|rw[In]|rw[Fz]|rw[Gz]|fail)<;>first|simp[e_,n_,s_]|simp[s_]|skip)
theorem ZuH (l:List CountR) (i:Nat) (st:Int):Zb Tryz.prog 158 [I st,.fp [encL CountR.enc l],.fp [.fn 100 []],.fp [I i]] (B (decide (atS CountR.stamp l st=(i:Int)))):=by
 have h1:=atC_ok l st
 refine Pm Tryz.func158 λhfit=> ?_
 have d1_:=D0 1 7 [] []
 simp[Tryz.f158]
 exact WW
theorem ZxD (l:List CountR) (sts:List Int) (hs:sts.length<=1000000) (hl:l.length<=2000000):Zb Tryz.prog 99 [encL CountR.enc l,enc1 I sts,.fn 100 []] (encL CountR.enc (Zdl CountR.stamp l sts 0 l)):=by
 refine Pm Tryz.func99 λhfit=> ?_
 simp[Tryz.f99]
 try simp
 repeat' ((first|((first|refine Tp ?_|refine Tn ?_|refine T2 ?_ ?_)<;>intro h_ e_ n_)|rw[Ip]|rw[In]|rw[Fz]|rw[Gz]|fail)<;>first|simp[e_,n_]|simp|skip)
 refine AW.loopG (lit:=λ_=>false) (λx:Nat×List CountR=>⟨26,pat [(1,enc1 I sts),(3,.ptr 0 0 0),(5,.ptr 1 0 0),(7,.own 2 x.2.length 0 x.2.length 2),(10,encL CountR.enc l),(11,I l.length),(12,I x.1)],[.cells 0 [encL CountR.enc l],.cells 0 [.fn 100 []],.cells x.2.length (x.2.flatMap CountR.enc)]⟩) (λx=>l.length -x.1)
  (λx=>x.1<=l.length/\x.2.length<=x.1/\x.2++Zdl CountR.stamp l sts x.1 (l.drop x.1)=Zdl CountR.stamp l sts 0 l) (0,[]) ?_ ?_ ?_
 ·exact Wk.trans (Wk.ownNil 7 2 (by simp)) Wa
 ·exact⟨Nat.zero_le _,by simp,by simp⟩
 rintro⟨i,acc⟩ ⟨g1,g2,g3⟩ A hA
 simp only at g1 g2 g3 hA
 by_cases hi:i<l.length
 case neg=>
  rw[List.drop_eq_nil_of_le (by omega)] at g3
  simp only[Zdl,List.append_nil] at g3
  subst g3
  have s_:=hi
  exact WW
 rw[List.drop_eq_getElem_cons hi] at g3
 have hwi:=Zg hi (by simp only[maxLen];omega)
 have hm:acc.length+1<=maxLen:=by simp only[maxLen];omega
 have hc:=ZpB sts 158 [.fp [encL CountR.enc l],.fp [.fn 100 []],.fp [I i]] (λst=>decide (atS CountR.stamp l st=(i:Int))) (by simp) (λst _=>ZuH l i st) hs
 have hal:(acc++[l[i]]).length=acc.length+1:=by simp
 cases hb:sts.any (λst=>decide (atS CountR.stamp l st=(i:Int))) with
 |true=>
  rw[hb] at hc
  rw[Zdl,if_pos hb] at g3
  have s_:=An @hi (An @hwi (@hm))
  try simp[s_]
  repeat' ((first|((first|refine Tp ?_|refine Tn ?_|refine T2 ?_ ?_)<;>intro h_ e_ n_)|(exact hA (i+1,acc++[l[i]]) _ Wc ⟨hi,by simp only[hal];omega,by simpa using g3⟩ (by simp only;omega))|refine Lg hc ?_|refine Sg hc ?_|rw[Ip]|rw[In]|rw[Fz]|rw[Gz]|fail)<;>first|simp[e_,n_,s_]|simp[s_]|skip)
 |false=>
  rw[hb] at hc
  rw[Zdl,if_neg (by rw[hb];simp)] at g3
  have s_:=An @hi (An @hwi (@hm))
  try simp[s_]
  repeat' ((first|((first|refine Tp ?_|refine Tn ?_|refine T2 ?_ ?_)<;>intro h_ e_ n_)|(exact hA (i+1,acc) _ Wc ⟨hi,by simp only;omega,g3⟩ (by simp only;omega))|refine Lg hc ?_|refine Sg hc ?_|rw[Ip]|rw[In]|rw[Fz]|rw[Gz]|fail)<;>first|simp[e_,n_,s_]|simp[s_]|skip)
theorem open_eq (x y:OpenR):decide (x=y)=(decide (x.t=y.t)&&(decide (x.last=y.last)&&(decide (x.client=y.client)&&(decide (x.epoch=y.epoch)&&(decide (x.seq=y.seq)&&(decide (x.n=y.n)&&decide (x.until_=y.until_))))))):=by
 rw[Bool.eq_iff_iff];simp only[Bool.and_eq_true,decide_eq_true_eq]
 cases x;cases y;simp only[OpenR.mk.injEq]
 constructor
 ·rintro⟨h1,h2,h3,h4,h5,h6,h7⟩;exact⟨h5,h6,h1,h2,h3,h4,h7⟩
 ·rintro⟨h5,h6,h1,h2,h3,h4,h7⟩;exact⟨h1,h2,h3,h4,h5,h6,h7⟩
theorem ZhY (x y:OpenR):Zb Tryz.prog 24 [.agg x.enc,.agg y.enc] (B (decide (x=y))):=by
 have h1:=ZvK x.t y.t
 have h2:=Zyg x.last y.last
 rw[open_eq]
 generalize decide (x.t=y.t)=b1 at*
 generalize decide (x.last=y.last)=b2 at*
 refine Pm Tryz.func24 λhfit=> ?_
 simp[Tryz.f24]
 exact WW
theorem ZuI (a b:HostR):(a=b)↔(a.s=b.s/\a.rows=b.rows/\a.now=b.now/\a.lease=b.lease/\a.opens=b.opens):=by
 cases a;cases b;simp only[HostR.mk.injEq]
 constructor
 ·rintro⟨h1,h2,h3,h4,h5⟩;exact⟨h1,h2,h4,h5,h3⟩
 ·rintro⟨h1,h2,h4,h5,h3⟩;exact⟨h1,h2,h3,h4,h5⟩
theorem Zeh (a b:HostR) (hR:Zas a.rows):Zb Tryz.prog 13 [.agg a.enc,.agg b.enc] (B (decide (a=b))):=by
 have h1:=Zsq a.s b.s
 have h2:=Zoi a.rows b.rows hR
 have ha:=ZuI a b
 by_cases q:a.s=b.s/\a.rows=b.rows/\a.now=b.now/\a.lease=b.lease/\a.opens.length=b.opens.length
 case neg=>
  have hne:¬a=b:=λe=>q (by subst e;exact⟨rfl,rfl,rfl,rfl,rfl⟩)
  have hq:((a.s=b.s)=False)\/((a.s=b.s)=True/\(a.rows=b.rows)=False)\/((a.s=b.s)=True/\(a.rows=b.rows)=True/\(a.now=b.now)=False)\/((a.s=b.s)=True/\(a.rows=b.rows)=True/\(a.now=b.now)=True/\(a.lease=b.lease)=False)\/((a.s=b.s)=True/\(a.rows=b.rows)=True/\(a.now=b.now)=True/\(a.lease=b.lease)=True/\(a.opens.length=b.opens.length)=False):=by
   simp only[eq_iff_iff,iff_true,iff_false]
   by_cases c1:a.s=b.s
   ·by_cases c2:a.rows=b.rows
    ·by_cases c3:a.now=b.now
     ·by_cases c4:a.lease=b.lease
      ·exact .inr (.inr (.inr (.inr ⟨c1,c2,c3,c4,λc5=>q ⟨c1,c2,c3,c4,c5⟩⟩)))
      ·exact .inr (.inr (.inr (.inl ⟨c1,c2,c3,c4⟩)))
     ·exact .inr (.inr (.inl ⟨c1,c2,c3⟩))
    ·exact .inr (.inl ⟨c1,c2⟩)
   ·exact .inl c1
  rw[decide_eq_false hne]
  clear ha hne q
  rcases hq with c|c|c|c|c
  all_goals
   refine Pm Tryz.func13 λhfit=> ?_
   have d1_:=D0 8 12 [] []
   simp[Tryz.f13]
   have s_:=c
   exact WW
 obtain⟨c1,c2,c3,c4,c5⟩:=q
 have e:decide (a=b)=decide (a.opens=b.opens):=by
  rw[decide_eq_decide,ha]
  exact⟨λg=>g.2.2.2.2,λg=>⟨c1,c2,c3,c4,g⟩⟩
 rw[e]
 clear e ha
 have d1:=eq_true c1
 have d2:=eq_true c2
 have d3:=eq_true c3
 have d4:=eq_true c4
 have d5:=eq_true c5
 refine Pm Tryz.func13 λhfit=> ?_
 have d1_:=D0 8 12 [] []
 simp[HostR.enc] at hfit
 simp[Tryz.f13]
 have s_:=An @d1 (An @d2 (An @d3 (An @d4 (@c5))))
 try simp[s_]
 repeat' ((first|((first|refine Tp ?_|refine Tn ?_|refine T2 ?_ ?_)<;>intro h_ e_ n_)|refine Pg h1 ?_|refine Pg h2 ?_|refine Dg 8 12 [] [] ?_|rw[Ip]|rw[In]|rw[Fz]|rw[Gz]|fail)<;>first|simp[e_,n_,s_]|simp[s_]|skip)
 refine AW.loopG (lit:=λ_=>false) (λi:Nat=>⟨68,pat [(2,.ptr 0 0 0),(3,.ptr 1 0 0),(7,I i)],[.cells 0 a.enc,.cells 0 b.enc]⟩) (λi=>b.opens.length -i) (λi=>i<=b.opens.length/\a.opens.take i=b.opens.take i) 0 ?_ ?_ ?_
 ·exact Wa
 ·simp
 rintro i ⟨hi,ht⟩ A hA
 by_cases h:i<b.opens.length
 case neg=>
  have:=Zam ht (by omega) (by omega)
  have g:¬i<a.opens.length:=by omega
  have s_:=An @g ((eq_true this))
  exact WW
 have hia:i<a.opens.length:=by omega
 have hw:=Zg h (by have:=hfit.2;omega)
 have hk:=ZhY a.opens[i] b.opens[i]
 by_cases z:a.opens[i]=b.opens[i]
 ·rw[decide_eq_true z] at hk
  have s_:=An @h (An @hia (@hw))
  have q1_:=λs w=>hA (i+1) s w ⟨by omega,take_step ht hia h z⟩ (by omega)
  have p1_:=hk
  exact WW
 ·rw[decide_eq_false z] at hk
  have hne:¬a.opens=b.opens:=λe=>z (by simp only[e])
  have s_:=An @h (An @hia (An @hw ((eq_false hne))))
  have p1_:=hk
  exact WW
noncomputable def hostB (h:HostR):Bool:= @decide (Ziw h) (Classical.propDecidable _)
theorem ZhZ {h:HostR}:hostB h=true↔Ziw h:=by simp[hostB]
theorem Zia {h:HostR} (n:¬Ziw h):hostB h=false:=by simp[hostB,n]
structure _root_.Go.Cx.OpenQ (h:HostR) (i:Nat) (o:OpenR):Prop where
 p:OpenP h o
 prev:∀q,h.opens[i -1]? =some q->0<i->q.client<o.client
theorem Zib (h:HostR) (hb:ZbM h.s):Zb Tryz.prog 12 [.agg h.enc] (B (hostB h)):=by
 have h1:=Zim h.s
 have h2:=Zog h.rows
 have h3:=ZpS h.s h.s.stamp hb
 have h4:=Zdg (viewS h.s h.s.stamp)
 have hbad:∀(P:Ziw h->False),hostB h=false:=λP=>Zia P
 have hend:(∀(j:Nat) (hj:j<h.opens.length),OpenQ h j h.opens[j])->h.opens.length<=64->0<=h.now->1<=h.lease->hostB h=(storeB h.s&&(rightT h.rows&&rightF (viewS h.s h.s.stamp))):=λg g1 g2 g3=>by
  have hr:Zo OpenR.client h.opens=true:=ZaS OpenR.client λj hj=>by
   have:=(g (j+1) hj).prev h.opens[j] (by simp) (by omega)
   exact this
  have ho:∀o∈h.opens,OpenP h o:=λo ho=>by
   obtain⟨j,hj,rfl⟩:=List.getElem_of_mem ho
   exact(g j hj).p
  rw[Bool.eq_iff_iff,ZhZ]
  simp only[Bool.and_eq_true,Zel,Zem,Zfw]
  constructor
  ·intro H;exact⟨H.store,H.rows,H.vrows,H.vtree.right H.vrows⟩
  ·rintro⟨a,b,c,d⟩
   exact⟨a,c,ZcM.tree c d,b,g1,hr,ho,g2,g3⟩
 have hstep:∀(i:Nat) (hi:i<h.opens.length),¬OpenQ h i h.opens[i]->hostB h=false:=λi hi n=>hbad λH=>n ⟨H.open_ _ (List.getElem_mem hi),λq hq h0=>by
  obtain⟨h1,rfl⟩:=List.getElem?_eq_some_iff.1 hq
  exact ZJ OpenR.client H.rise (i -1) i h1 hi (by omega)⟩
 by_cases q:h.opens.length<=64/\0<=h.now/\1<=h.lease
 case neg=>
  rw[hbad λH=>q ⟨H.few,H.now,H.lease⟩]
  clear hbad hend hstep
  have hq:(64<h.opens.length)\/(¬64<h.opens.length/\h.now<0)\/(¬64<h.opens.length/\¬h.now<0/\h.lease<1):=by omega
  rcases hq with c|c|c
  all_goals
   refine Pm Tryz.func12 λhfit=> ?_
   have d1_:=D0 8 47 [] []
   simp[Tryz.f12]
   have s_:=c
   exact WW
 obtain⟨q1,q2,q3⟩:=q
 generalize hB:hostB h=b at*
 refine Pm Tryz.func12 λhfit=> ?_
 have d1_:=D0 8 47 [] []
 simp[Tryz.f12]
 have c1:¬64<h.opens.length:=by omega
 have c2:¬h.now<0:=by omega
 have c3:¬h.lease<1:=by omega
 have s_:=An @c1 (An @c2 (@c3))
 try simp[s_]
 repeat' ((first|((first|refine Tp ?_|refine Tn ?_|refine T2 ?_ ?_)<;>intro h_ e_ n_)|refine Dg 8 47 [] [] ?_|rw[Ip]|rw[In]|rw[Fz]|rw[Gz]|fail)<;>first|simp[e_,n_,s_]|simp[s_]|skip)
 refine AW.loopG (lit:=λ_=>false) (λi:Nat=>⟨103,pat [(1,.ptr 0 0 0),(3,I i)],[.cells 0 h.enc]⟩) (λi=>h.opens.length -i) (λi=>i<=h.opens.length/\∀(j:Nat) (hj:j<h.opens.length),j<i->OpenQ h j h.opens[j]) 0 ?_ ?_ ?_
 ·exact Wa
 ·exact⟨by simp,λj hj g=>by omega⟩
 rintro i ⟨g1,g2⟩ A hA
 by_cases hi:i<h.opens.length
 case neg=>
  rw[hend (λj hj=>g2 j hj (by omega)) q1 q2 q3]
  clear hend hstep hbad g2 hA
  generalize storeB h.s=x1 at*
  generalize rightT h.rows=x2 at*
  generalize rightF (viewS h.s h.s.stamp)=x3 at*
  generalize viewS h.s h.s.stamp=v at*
  have s_:=hi
  exact WW
 have hwi:=Zg hi (by simp only[maxLen];omega)
 have hst:=hstep i hi
 have h5:=ZjK h.opens[i].t
 have hi1:i -1<h.opens.length:=by omega
 have hwm:0<i->IntKind.i64.wrap ((i:Int) -1)=((i -1:Nat):Int):=λhp=>by rw[Zh (by omega) (by omega)];omega
 have hnext:OpenQ h i h.opens[i]->∀(j:Nat) (hj:j<h.opens.length),j<i+1->OpenQ h j h.opens[j]:=λn j hj hji=>by
  rcases Nat.lt_or_ge j i with g|g
  ·exact g2 j hj g
  ·have:j=i:=by omega
   subst this;exact n
 cases hx:rightTx h.opens[i].t with
 |false=>
  rw[hx] at h5
  have e:=hst λn=>by have:=(ZeI _).2 n.p.t;rw[hx] at this;cases this
  subst e
  clear hend hstep hbad g2 hA hst hnext
  have s_:=hi
  exact WW
 |true=>
 rw[hx] at h5
 have hT:=(ZeI _).1 hx
 have hgood:0<=h.opens[i].client->1<=h.opens[i].epoch->1<=h.opens[i].seq->0<=h.opens[i].n->h.opens[i].t.stamp<=h.s.stamp->(i=0\/h.opens[i -1].client<h.opens[i].client)->OpenQ h i h.opens[i]:=λa1 a2 a3 a4 a5 a6=>⟨⟨a1,a2,a3,a4,hT,a5⟩,λq hq h0=>by
  obtain⟨_,rfl⟩:=List.getElem?_eq_some_iff.1 hq
  exact a6.resolve_left (by omega)⟩
 have hbad2:(h.opens[i].client<0\/h.opens[i].epoch<1\/h.opens[i].seq<1\/h.opens[i].n<0\/h.s.stamp<h.opens[i].t.stamp\/(0<i/\h.opens[i].client<=h.opens[i -1].client))->b=false:=λa=>hst λn=>by
  have c1:=n.p.client;have c2:=n.p.epoch;have c3:=n.p.seq;have c4:=n.p.n;have c5:=n.p.stamp
  rcases Nat.eq_zero_or_pos i with z|z
  ·omega
  ·have:=n.prev h.opens[i -1] (List.getElem?_eq_getElem hi1) z
   omega
 clear hend hstep hbad hst
 rcases Nat.eq_zero_or_pos i with z|z
 ·have z':¬0<i:=by omega
  have s_:=An @hi (An @hwi (@z'))
  try simp[s_]
  repeat' ((first|((first|refine Tp ?_|refine Tn ?_|refine T2 ?_ ?_)<;>intro h_ e_ n_)|(rw[hbad2 (by omega)])|(exact hA (i+1) _ Wc ⟨by omega,hnext (hgood (by omega) (by omega) (by omega) (by omega) (by omega) (.inl z))⟩ (by omega))|refine Pg h5 ?_|refine Dg 8 47 [] [] ?_|rw[Ip]|rw[In]|rw[Fz]|rw[Gz]|fail)<;>first|simp[e_,n_,s_]|simp[s_]|skip)
 ·have hwm:=hwm z
  have s_:=An @hi (An @hwi (An @z (An @hwm (@hi1))))
  try simp[s_]
  repeat' ((first|((first|refine Tp ?_|refine Tn ?_|refine T2 ?_ ?_)<;>intro h_ e_ n_)|(rw[hbad2 (by omega)])|(exact hA (i+1) _ Wc ⟨by omega,hnext (hgood (by omega) (by omega) (by omega) (by omega) (by omega) (.inr (by omega)))⟩ (by omega))|refine Pg h5 ?_|refine Dg 8 47 [] [] ?_|rw[Ip]|rw[In]|rw[Fz]|rw[Gz]|fail)<;>first|simp[e_,n_,s_]|simp[s_]|skip)
structure _root_.Go.Cx.GoodHP (h:HostR) (gs:Bool) (ft:Bool):Prop where
 store:gs=true
 rows:ft=true
 few:h.opens.length<=8
 now:h.now<1152921504606846976
 lease:h.lease<1152921504606846976
 opens:∀o∈h.opens,Zol o.t=true/\o.last.names.length<=300
 host:Ziw h
noncomputable def goodH (h:HostR):Bool:= @decide (GoodHP h (Zmv h.s) (fewT h.rows.length h.rows)) (Classical.propDecidable _)
theorem Zmj {h:HostR}:goodH h=true↔GoodHP h (Zmv h.s) (fewT h.rows.length h.rows):=by simp[goodH]
theorem Zjy (h:HostR) (hb:ZbM h.s):Zb Tryz.prog 9 [.agg h.enc] (B (goodH h)):=by
 have h1:=ZyB h.s hb
 have h2:=ZpW h.rows
 have h3:=Zib h hb
 have hbad:∀(P:GoodHP h (Zmv h.s) (fewT h.rows.length h.rows)->False),goodH h=false:=λP=>by simp[goodH];exact P
 have hend:Zmv h.s=true->fewT h.rows.length h.rows=true->h.opens.length<=8->h.now<1152921504606846976->h.lease<1152921504606846976->(∀o∈h.opens,Zol o.t=true/\o.last.names.length<=300)->goodH h=hostB h:=λa1 a2 a3 a4 a5 a6=>by
  rw[Bool.eq_iff_iff,ZhZ,Zmj]
  exact⟨λg=>g.host,λg=>⟨a1,a2,a3,a4,a5,a6,g⟩⟩
 generalize goodH h=b at*
 generalize hg:Zmv h.s=gs at*
 generalize hf:fewT h.rows.length h.rows=ft at*
 by_cases q:gs=true/\ft=true/\h.opens.length<=8/\h.now<1152921504606846976/\h.lease<1152921504606846976
 case neg=>
  rw[hbad λG=>q ⟨G.store,G.rows,G.few,G.now,G.lease⟩]
  clear hbad hend
  have hq:(gs=false)\/(gs=true/\ft=false)\/(gs=true/\ft=true/\8<h.opens.length)\/(gs=true/\ft=true/\¬8<h.opens.length/\1152921504606846976<=h.now)\/(gs=true/\ft=true/\¬8<h.opens.length/\¬1152921504606846976<=h.now/\1152921504606846976<=h.lease):=by
   cases gs with
   |false=>exact .inl rfl
   |true=>
    cases ft with
    |false=>exact .inr (.inl ⟨rfl,rfl⟩)
    |true=>
     simp only[true_and] at q
     simp only[true_and]
     omega
  rcases hq with c|c|c|c|c
  all_goals
   refine Pm Tryz.func9 λhfit=> ?_
   simp[Tryz.f9]
   have s_:=c
   exact WW
 obtain⟨q1,q2,q3,q4,q5⟩:=q
 subst q1 q2
 have c1:¬8<h.opens.length:=by omega
 have c2:¬1152921504606846976<=h.now:=by omega
 have c3:¬1152921504606846976<=h.lease:=by omega
 refine Pm Tryz.func9 λhfit=> ?_
 simp[Tryz.f9]
 have s_:=An @c1 (An @c2 (@c3))
 try simp[s_]
 repeat' ((first|((first|refine Tp ?_|refine Tn ?_|refine T2 ?_ ?_)<;>intro h_ e_ n_)|refine Pg h1 ?_|refine Pg h2 ?_|rw[Ip]|rw[In]|rw[Fz]|rw[Gz]|fail)<;>first|simp[e_,n_,s_]|simp[s_]|skip)
 refine AW.loopG (lit:=λ_=>false) (λi:Nat=>⟨58,pat [(1,.ptr 0 0 0),(3,I i)],[.cells 0 h.enc]⟩) (λi=>h.opens.length -i) (λi=>i<=h.opens.length/\∀(j:Nat) (hj:j<h.opens.length),j<i->Zol h.opens[j].t=true/\h.opens[j].last.names.length<=300) 0 ?_ ?_ ?_
 ·exact Wa
 ·exact⟨by simp,λj hj g=>by omega⟩
 rintro i ⟨g1,g2⟩ A hA
 by_cases hi:i<h.opens.length
 case neg=>
  rw[hend rfl rfl q3 q4 q5 λo ho=>by
   obtain⟨j,hj,rfl⟩:=List.getElem_of_mem ho
   exact g2 j hj (by omega)]
  have s_:=hi
  exact WW
 have hwi:=Zg hi (by simp only[maxLen];omega)
 have h5:=ZyC h.opens[i].t
 cases hx:Zol h.opens[i].t with
 |false=>
  rw[hx] at h5
  have e:=hbad λG=>by have:=(G.opens _ (List.getElem_mem hi)).1;rw[hx] at this;cases this
  subst e
  have s_:=hi
  exact WW
 |true=>
 rw[hx] at h5
 by_cases z:300<h.opens[i].last.names.length
 ·have e:=hbad λG=>by have:=(G.opens _ (List.getElem_mem hi)).2;omega
  subst e
  have s_:=An @hi (@z)
  exact WW
 ·have s_:=An @hi (An @hwi (@z))
  have q1_:=λs w=>hA (i+1) s w ⟨by omega,λj hj hji=>by rcases Nat.lt_or_ge j i with g|g;(·exact g2 j hj g);(obtain rfl:j=i:=(by omega));exact⟨hx,by omega⟩⟩ (by omega)
  exact WW
end Go.Proofs.YtgpkaoombhobmaaGreat
namespace Go.Proofs.YtgpkaoombhobmaaGreat
open Go.Cx Tab
set_option maxHeartbeats 4000000
set_option maxRecDepth 40000
theorem ZuJ (s:StoreR) (pins:List Int) (hp:pins.length<=100000) (hP:ZD s) (hb:ZbM s):Zb Tryz.prog 56 [.agg s.enc,enc1 I pins] (.agg (sweepS s pins).enc):=by
 have h1:=ZxD s.nexts (pins++[s.stamp]) (by simp;omega) (by have:=hb.nexts;omega)
 have hkc:∀c:ChainR,c∈s.l->Zb Tryz.prog 101 [encL VerR.enc c.l,enc1 I (pins++[s.stamp]),.fn 102 []] (encL VerR.enc (keptS VerR.stamp (pins++[s.stamp]) c.l)):=λc hc=>by
  have:=ZxC c.l (pins++[s.stamp]) (by simp;omega) (by have:=hb.vers c hc;omega)
  rwa[Zom (hP.chain c hc).rise] at this
 rw[Zom hP.nrise] at h1
 have hsl:(sweepS s pins).l=(s.l.map (Zgv (pins++[s.stamp]))).filter λc=> !decide (c.l=[]):=rfl
 have hsn:(sweepS s pins).nexts=keptS CountR.stamp (pins++[s.stamp]) s.nexts:=rfl
 have hss:(sweepS s pins).stamp=s.stamp:=rfl
 generalize sweepS s pins=S' at*
 obtain⟨l',n',st'⟩:=S'
 simp only at hsl hsn hss
 rw[<-hsn] at h1
 clear hsn
 subst hss
 refine Pm Tryz.func56 λhfit=> ?_
 have d1_:=D0 1 11 [] []
 simp[Tryz.f56]
 try simp
 repeat' ((first|((first|refine Tp ?_|refine Tn ?_|refine T2 ?_ ?_)<;>intro h_ e_ n_)|refine Dg 1 11 [] [] ?_|rw[Ip]|rw[In]|rw[Fz]|rw[Gz]|fail)<;>first|simp[e_,n_]|simp|skip)
 refine AW.wkZ (WkZ.freeze [2] 5 (enc1 I (pins++[s.stamp])) (by simp;rw[ZcG (by simp) (by simp)];simp)) ?_
 simp
 try simp
 repeat' ((first|((first|refine Tp ?_|refine Tn ?_|refine T2 ?_ ?_)<;>intro h_ e_ n_)|refine Pg h1 ?_|refine AW.room (Dg 2 9 [3] [(7,.w)] ?_)|refine Dg 1 11 [] [] ?_|rw[Ip]|rw[In]|rw[Fz]|rw[Gz]|fail)<;>first|simp[e_,n_]|simp|skip)
 refine AW.loopG (lit:=λ_=>false) (λx:Nat×List ChainR=>⟨65,pat [(2,.ptr 0 0 0),(4,.ptr 1 0 0),(5,enc1 I (pins++[s.stamp])),(6,.ptr 3 1 0),(27,encL ChainR.enc s.l),(28,I s.l.length),(29,I x.1)],[.cells 0 s.enc,.cells 0 [.sl true 0 [],.sl true 0 [],I 0],.dead,.cells 1 [.own 4 x.2.length 0 x.2.length 2,encL CountR.enc n',I s.stamp],.cells x.2.length (x.2.flatMap ChainR.enc)]⟩) (λx=>s.l.length -x.1) (λx=>x.1<=s.l.length/\x.2.length<=x.1/\x.2++(((s.l.drop x.1).map (Zgv (pins++[s.stamp]))).filter λc=> !decide (c.l=[]))=l') (0,[]) ?_ ?_ ?_
 ·exact Wk.trans (Wk.ownNilCell 3 1 0 2 rfl rfl) Wa
 ·exact⟨Nat.zero_le _,by simp,by simp[hsl]⟩
 rintro⟨i,acc⟩ ⟨g1,g2,g3⟩ A hA
 simp only at g1 g2 g3 hA
 by_cases hi:i<s.l.length
 case neg=>
  rw[List.drop_eq_nil_of_le (by omega)] at g3
  simp only[List.map_nil,List.filter_nil,List.append_nil] at g3
  subst g3
  have s_:=An @hi (@StoreR.enc.eq_1)
  exact WW
 have hl:=hb.l
 have hwi:=Zg hi (by simp only[maxLen];omega)
 have hm:acc.length+1<=maxLen:=by simp only[maxLen];have:=hb.l;omega
 have hal:∀c:ChainR,(acc++[c]).length=acc.length+1:=by simp
 have h2:=hkc s.l[i] (List.getElem_mem hi)
 rw[List.drop_eq_getElem_cons hi,List.map_cons,List.filter_cons] at g3
 have hsw:Zgv (pins++[s.stamp]) s.l[i]=⟨s.l[i].ino,ZdG (keptS VerR.stamp (pins++[s.stamp]) s.l[i].l)⟩:=rfl
 rw[hsw] at g3
 have hkl:(keptS VerR.stamp (pins++[s.stamp]) s.l[i].l).length<=1048576:=Nat.le_trans (Zxz _ _).length_le (hb.vers _ (List.getElem_mem hi))
 generalize keptS VerR.stamp (pins++[s.stamp]) s.l[i].l=K at*
 clear hsw
 have s_:=hi
 try simp[s_]
 repeat' ((first|((first|refine Tp ?_|refine Tn ?_|refine T2 ?_ ?_)<;>intro h_ e_ n_)|refine Pg h2 ?_|refine Dg 1 11 [] [] ?_|rw[Ip]|rw[In]|rw[Fz]|rw[Gz]|fail)<;>first|simp[e_,n_,s_]|simp[s_]|skip)
 refine AW.loopG (lit:=λ_=>false) (λy:List VerR=>⟨65,pat [(2,.ptr 0 0 0),(4,.ptr 1 0 0),(5,enc1 I (pins++[s.stamp])),(6,.ptr 3 1 0),(8,.ptr 5 0 0),(27,encL ChainR.enc s.l),(28,I s.l.length),(29,I i)],[.cells 0 s.enc,.cells 0 [.sl true 0 [],.sl true 0 [],I 0],.dead,.cells 1 [.own 4 acc.length 0 acc.length 2,encL CountR.enc n',I s.stamp],.cells acc.length (acc.flatMap ChainR.enc),.cells 0 [I s.l[i].ino,encL VerR.enc y]]⟩) (λy=>y.length) (λy=>ZdG y=ZdG K/\y.length<=1048576) K ?_ ?_ ?_
 ·exact Wk.at _ rfl (by simp[ChainR.enc]) (by simp)
 ·exact⟨rfl,hkl⟩
 rintro y ⟨k1,k2⟩ B hB
 rcases y with _|⟨v,r⟩
 ·rw[<-k1] at g3
  simp[ZdG] at g3
  have s_:=An @hwi (@hm)
  have q1_:=λs w=>hA (i+1,acc) s w ⟨hi,by simp only;omega,by simpa using g3⟩ (by simp only;omega)
  exact WW
 simp only[List.length_cons] at k2
 by_cases hg:v.gone=true
 ·have k3:ZdG r=ZdG K:=by rw[<-k1];simp[ZdG,hg]
  have e7:(List.flatMap VerR.enc (v::r)).drop 7=r.flatMap VerR.enc:=by rw[List.flatMap_cons];rfl
  have s_:=An @hg (An @hwi (An @hm (An @VerR.enc.eq_1 (@NodeR.enc.eq_1))))
  have q1_:=λs w=>hB r s w ⟨k3,by omega⟩ (by simp)
  exact WW
 ·rw[<-k1] at g3
  simp only[ZdG,List.dropWhile_cons,hg] at g3
  simp at g3
  have e8:(⟨s.l[i].ino,v::r⟩:ChainR).enc=[I s.l[i].ino,encL VerR.enc (v::r)]:=rfl
  have s_:=An @hg (An @hwi (An @hm (An @VerR.enc.eq_1 (@NodeR.enc.eq_1))))
  try simp[s_]
  repeat' ((first|((first|refine Tp ?_|refine Tn ?_|refine T2 ?_ ?_)<;>intro h_ e_ n_)|(exact hA (i+1,acc++[⟨s.l[i].ino,v::r⟩]) _ (Wk.cutAt _ rfl (by simp) (by simp[ChainR.enc,VerR.enc,NodeR.enc]) (by simp) (by simp)) ⟨hi,by simp only[hal];omega,by simpa using g3⟩ (by simp only;omega))|refine Dg 1 11 [] [] ?_|rw[Ip]|rw[In]|rw[Fz]|rw[Gz]|fail)<;>first|simp[e_,n_,s_]|simp[s_]|skip)
theorem ZrK (x:OpenR) (h:HostR):Zb Tryz.prog 55 [.agg x.enc,.fp h.enc] (B (decide (x.until_<h.now))):=by
 refine Pm Tryz.func55 λhfit=> ?_
 simp[Tryz.f55]
 try simp
 repeat' ((first|((first|refine Tp ?_|refine Tn ?_|refine T2 ?_ ?_)<;>intro h_ e_ n_)|rw[Ip]|rw[In]|rw[Fz]|rw[Gz]|fail)<;>first|simp[e_,n_]|simp|skip)
theorem ZuK (h:HostR) (hl:h.opens.length<=100000) (hP:ZD h.s) (hb:ZbM h.s):Zb Tryz.prog 22 [.agg h.enc] (.agg (sweepH h).enc):=by
 have hcl:=ZfC h.opens (by omega)
 have hdel:=ZhX h.opens 55 [.ptr 1 0 0] [.fp h.enc] [.cells 0 h.enc] (λx=>decide (x.until_<h.now)) (by simp) (by simp) (by simp) (λfu b0 tl=>by simp) (λx _=>ZrK x h) (by omega)
 refine Pm Tryz.func22 λhfit=> ?_
 simp[Tryz.f22]
 try simp
 repeat' ((first|((first|refine Tp ?_|refine Tn ?_|refine T2 ?_ ?_)<;>intro h_ e_ n_)|(refine AInv.fresh [] hcl (by simp) (by simp) ?_;simp)|(refine AInv.fresh [2,0] hdel (by simp) (by simp) ?_;simp)|rw[Ip]|rw[In]|rw[Fz]|rw[Gz]|fail)<;>first|simp[e_,n_]|simp|skip)
 have hK:(h.opens.filter λx=> !decide (x.until_<h.now))=staysS h:=rfl
 have h5:=ZuJ h.s ((staysS h).map λo=>o.t.stamp) (by have:=List.length_filter_le (λo:OpenR=> !decide (o.until_<h.now)) h.opens;rw[List.length_map];rw[<-hK];omega) hP hb
 have hsl:(staysS h).length<=100000:=by have:=List.length_filter_le (λo:OpenR=> !decide (o.until_<h.now)) h.opens;rw[<-hK];omega
 have hS:sweepH h={h with opens:=staysS h,s:=sweepS h.s ((staysS h).map λo=>o.t.stamp)}:=rfl
 rw[hS]
 simp only[hK]
 clear hS hK hdel hcl
 generalize staysS h=K at*
 refine AW.loopG (lit:=λ_=>false) (λx:Nat×List Int=>⟨32,pat [(1,.ptr 0 0 0),(2,.ptr 1 0 0),(3,.own 3 x.2.length 0 x.2.length 1),(13,.own 2 0 0 K.length 17),(14,I K.length),(15,I x.1)],[.cells 0 [encL ChainR.enc h.s.l,encL CountR.enc h.s.nexts,I h.s.stamp,encL RowR.enc h.rows,.own 2 0 0 K.length 17,I h.now,I h.lease],.cells 0 [.sl true 0 [],.sl true 0 [],I 0,.sl true 0 [],.sl true 0 [],I 0,I 0],.cells 0 (K.flatMap OpenR.enc),.cells x.2.length (x.2.map I)]⟩) (λx=>K.length -x.1) (λx=>x.1<=K.length/\x.2=(K.take x.1).map (λo=>o.t.stamp)) (0,[]) ?_ ?_ ?_
 ·exact Wk.trans (Wk.ownNil 3 1 (by simp)) (Wk.at _ rfl (by simp[HostR.enc,StoreR.enc]) (by simp))
 ·exact⟨Nat.zero_le _,by simp⟩
 rintro⟨i,acc⟩ ⟨g1,g2⟩ A hA
 simp only at g1 g2 hA
 by_cases hi:i<K.length
 case neg=>
  have e:i=K.length:=by omega
  rw[e,List.take_length] at g2
  rw[<-g2] at h5⊢
  generalize sweepS h.s acc=S' at*
  have s_:=An @hi (An @HostR.enc.eq_1 (@StoreR.enc.eq_1))
  try simp[s_]
  repeat' ((first|((first|refine Tp ?_|refine Tn ?_|refine T2 ?_ ?_)<;>intro h_ e_ n_)|refine Gg [3] h5 ?_|rw[Ip]|rw[In]|rw[Fz]|rw[Gz]|fail)<;>first|simp[e_,n_,s_]|simp[s_]|skip)
 have hwi:=Zg hi (by simp only[maxLen];omega)
 have hal:acc.length=i:=by rw[g2];simp;omega
 have g3:acc++[K[i].t.stamp]=(K.take (i+1)).map (λo=>o.t.stamp):=by rw[List.take_succ_eq_append_getElem hi,List.map_append,g2];rfl
 have hm:acc.length+1<=maxLen:=by simp only[maxLen];omega
 have s_:=An @hi (An @hwi (@hm))
 try simp[s_]
 repeat' ((first|((first|refine Tp ?_|refine Tn ?_|refine T2 ?_ ?_)<;>intro h_ e_ n_)|(exact hA (i+1,acc++[K[i].t.stamp]) _ Wc ⟨hi,g3⟩ (by simp only;omega))|rw[Ip]|rw[In]|rw[Fz]|rw[Gz]|fail)<;>first|simp[e_,n_,s_]|simp[s_]|skip)
structure _root_.Go.Cx.RiseP {α:Type} (f:α->Int) (l:List α) (last:Int):Prop where
 some:l≠[]
 lo:∀x∈l,1<=f x/\f x<=last
 rise:Zo f l=true
noncomputable def riseB {α:Type} (f:α->Int) (l:List α) (last:Int):Bool:= @decide (RiseP f l last) (Classical.propDecidable _)
theorem ZdH {α:Type} {f:α->Int} {l:List α} {last:Int}:riseB f l last=true↔RiseP f l last:=by simp[riseB]
theorem Zic {α:Type} {f:α->Int} {l:List α} {last:Int} (h:¬RiseP f l last):riseB f l last=false:=by simp[riseB,h]
theorem ZxE (l:List VerR) (last:Int):Zb Tryz.prog 110 [encL VerR.enc l,I last,.fn 102 []] (B (riseB VerR.stamp l last)):=by
 have hbad:∀(i:Nat) (hi:i<l.length),(l[i].stamp<1\/last<l[i].stamp\/(0<i/\l[i].stamp<=l[i -1].stamp))->riseB VerR.stamp l last=false:=λi hi a=>Zic λP=>by
  have c1:=P.lo _ (List.getElem_mem hi)
  rcases a with a|a|⟨a,b⟩
  ·omega
  ·omega
  ·have:=ZJ VerR.stamp P.rise (i -1) i (by omega) hi (by omega);omega
 have hend:(∀(j:Nat) (hj:j<l.length),1<=l[j].stamp/\l[j].stamp<=last/\(0<j->l[j -1].stamp<l[j].stamp))->riseB VerR.stamp l last=decide (0<l.length):=λg=>by
  rw[Bool.eq_iff_iff,ZdH,decide_eq_true_eq]
  constructor
  ·intro P;exact List.length_pos_iff.2 P.some
  ·intro h
   refine⟨List.length_pos_iff.1 h,λx hx=> ?_,ZaS VerR.stamp λj hj=> ?_⟩
   ·obtain⟨j,hj,rfl⟩:=List.getElem_of_mem hx
    exact⟨(g j hj).1,(g j hj).2.1⟩
   ·exact(g (j+1) hj).2.2 (by omega)
 generalize riseB VerR.stamp l last=b at*
 refine Pm Tryz.func110 λhfit=> ?_
 have d1_:=D0 4 28 [] []
 simp at hfit
 simp[Tryz.f110]
 refine AW.loopG (lit:=λ_=>false) (λi:Nat=>⟨48,pat [(0,encL VerR.enc l),(1,I last),(2,.fn 102 []),(9,encL VerR.enc l),(10,I l.length),(11,I i)],[]⟩) (λi=>l.length -i) (λi=>i<=l.length/\∀(j:Nat) (hj:j<l.length),j<i->1<=l[j].stamp/\l[j].stamp<=last/\(0<j->l[j -1].stamp<l[j].stamp)) 0 ?_ ?_ ?_
 ·exact Wa
 ·exact⟨by simp,λj hj g=>by omega⟩
 rintro i ⟨g1,g2⟩ A hA
 by_cases hi:i<l.length
 case neg=>
  rw[hend λj hj=>g2 j hj (by omega)]
  by_cases hz:0<l.length
  ·have s_:=An @hi (@hz)
   exact WW
  ·have s_:=An @hi (@hz)
   exact WW
 have hwi:=Zg hi hfit.1
 have hi1:i -1<l.length:=by omega
 have h1:=Zvv l[i]
 have h2:=Zvv l[i -1]
 have hb2:=hbad i hi
 have hwm:0<i->IntKind.i64.wrap ((i:Int) -1)=((i -1:Nat):Int):=λhp=>by rw[Zh (by omega) (by have:=hfit.1;simp only[maxLen] at this;omega)];omega
 have hnext:1<=l[i].stamp->l[i].stamp<=last->(0<i->l[i -1].stamp<l[i].stamp)->∀(j:Nat) (hj:j<l.length),j<i+1->1<=l[j].stamp/\l[j].stamp<=last/\(0<j->l[j -1].stamp<l[j].stamp):=λa1 a2 a3 j hj hji=>by
  rcases Nat.lt_or_ge j i with g|g
  ·exact g2 j hj g
  ·have:j=i:=by omega
   subst this;exact⟨a1,a2,a3⟩
 clear hend hbad g2
 rcases Nat.eq_zero_or_pos i with z|z
 ·have z':¬0<i:=by omega
  have s_:=An @hi (An @hwi (@z'))
  try simp[s_]
  repeat' ((first|((first|refine Tp ?_|refine Tn ?_|refine T2 ?_ ?_)<;>intro h_ e_ n_)|(rw[hb2 (by omega)])|(exact hA (i+1) _ Wc ⟨by omega,hnext (by omega) (by omega) (by omega)⟩ (by omega))|refine Pg h1 ?_|refine Pg h2 ?_|refine Dg 4 28 [] [] ?_|rw[Ip]|rw[In]|rw[Fz]|rw[Gz]|fail)<;>first|simp[e_,n_,s_]|simp[s_]|skip)
 ·have hwm:=hwm z
  have s_:=An @hi (An @hwi (An @z (An @hwm (@hi1))))
  try simp[s_]
  repeat' ((first|((first|refine Tp ?_|refine Tn ?_|refine T2 ?_ ?_)<;>intro h_ e_ n_)|(rw[hb2 (by omega)])|(exact hA (i+1) _ Wc ⟨by omega,hnext (by omega) (by omega) (by omega)⟩ (by omega))|refine Pg h1 ?_|refine Pg h2 ?_|refine Dg 4 28 [] [] ?_|rw[Ip]|rw[In]|rw[Fz]|rw[Gz]|fail)<;>first|simp[e_,n_,s_]|simp[s_]|skip)
theorem ZxF (l:List CountR) (last:Int):Zb Tryz.prog 116 [encL CountR.enc l,I last,.fn 100 []] (B (riseB CountR.stamp l last)):=by
 have hbad:∀(i:Nat) (hi:i<l.length),(l[i].stamp<1\/last<l[i].stamp\/(0<i/\l[i].stamp<=l[i -1].stamp))->riseB CountR.stamp l last=false:=λi hi a=>Zic λP=>by
  have c1:=P.lo _ (List.getElem_mem hi)
  rcases a with a|a|⟨a,b⟩
  ·omega
  ·omega
  ·have:=ZJ CountR.stamp P.rise (i -1) i (by omega) hi (by omega);omega
 have hend:(∀(j:Nat) (hj:j<l.length),1<=l[j].stamp/\l[j].stamp<=last/\(0<j->l[j -1].stamp<l[j].stamp))->riseB CountR.stamp l last=decide (0<l.length):=λg=>by
  rw[Bool.eq_iff_iff,ZdH,decide_eq_true_eq]
  constructor
  ·intro P;exact List.length_pos_iff.2 P.some
  ·intro h
   refine⟨List.length_pos_iff.1 h,λx hx=> ?_,ZaS CountR.stamp λj hj=> ?_⟩
   ·obtain⟨j,hj,rfl⟩:=List.getElem_of_mem hx
    exact⟨(g j hj).1,(g j hj).2.1⟩
   ·exact(g (j+1) hj).2.2 (by omega)
 generalize riseB CountR.stamp l last=b at*
 refine Pm Tryz.func116 λhfit=> ?_
 have d1_:=D0 4 28 [] []
 simp at hfit
 simp[Tryz.f116]
 refine AW.loopG (lit:=λ_=>false) (λi:Nat=>⟨48,pat [(0,encL CountR.enc l),(1,I last),(2,.fn 100 []),(9,encL CountR.enc l),(10,I l.length),(11,I i)],[]⟩) (λi=>l.length -i) (λi=>i<=l.length/\∀(j:Nat) (hj:j<l.length),j<i->1<=l[j].stamp/\l[j].stamp<=last/\(0<j->l[j -1].stamp<l[j].stamp)) 0 ?_ ?_ ?_
 ·exact Wa
 ·exact⟨by simp,λj hj g=>by omega⟩
 rintro i ⟨g1,g2⟩ A hA
 by_cases hi:i<l.length
 case neg=>
  rw[hend λj hj=>g2 j hj (by omega)]
  by_cases hz:0<l.length
  ·have s_:=An @hi (@hz)
   exact WW
  ·have s_:=An @hi (@hz)
   exact WW
 have hwi:=Zg hi hfit.1
 have hi1:i -1<l.length:=by omega
 have h1:=Zvw l[i]
 have h2:=Zvw l[i -1]
 have hb2:=hbad i hi
 have hwm:0<i->IntKind.i64.wrap ((i:Int) -1)=((i -1:Nat):Int):=λhp=>by rw[Zh (by omega) (by have:=hfit.1;simp only[maxLen] at this;omega)];omega
 have hnext:1<=l[i].stamp->l[i].stamp<=last->(0<i->l[i -1].stamp<l[i].stamp)->∀(j:Nat) (hj:j<l.length),j<i+1->1<=l[j].stamp/\l[j].stamp<=last/\(0<j->l[j -1].stamp<l[j].stamp):=λa1 a2 a3 j hj hji=>by
  rcases Nat.lt_or_ge j i with g|g
  ·exact g2 j hj g
  ·have:j=i:=by omega
   subst this;exact⟨a1,a2,a3⟩
 clear hend hbad g2
 rcases Nat.eq_zero_or_pos i with z|z
 ·have z':¬0<i:=by omega
  have s_:=An @hi (An @hwi (@z'))
  try simp[s_]
  repeat' ((first|((first|refine Tp ?_|refine Tn ?_|refine T2 ?_ ?_)<;>intro h_ e_ n_)|(rw[hb2 (by omega)])|(exact hA (i+1) _ Wc ⟨by omega,hnext (by omega) (by omega) (by omega)⟩ (by omega))|refine Pg h1 ?_|refine Pg h2 ?_|refine Dg 4 28 [] [] ?_|rw[Ip]|rw[In]|rw[Fz]|rw[Gz]|fail)<;>first|simp[e_,n_,s_]|simp[s_]|skip)
 ·have hwm:=hwm z
  have s_:=An @hi (An @hwi (An @z (An @hwm (@hi1))))
  try simp[s_]
  repeat' ((first|((first|refine Tp ?_|refine Tn ?_|refine T2 ?_ ?_)<;>intro h_ e_ n_)|(rw[hb2 (by omega)])|(exact hA (i+1) _ Wc ⟨by omega,hnext (by omega) (by omega) (by omega)⟩ (by omega))|refine Pg h1 ?_|refine Pg h2 ?_|refine Dg 4 28 [] [] ?_|rw[Ip]|rw[In]|rw[Fz]|rw[Gz]|fail)<;>first|simp[e_,n_,s_]|simp[s_]|skip)
theorem ZnN (l:List VerR) (g:FuncId) (cap:List AV) (p:VerR->Bool) (hcap:cap.all neat=true) (hp:∀x∈l,Zb Tryz.prog g (.agg x.enc::cap) (B (p x))) (hl:l.length<=1000000):Zb Tryz.prog 162 [encL VerR.enc l,.fn g cap] (I (idxS p l)):=by
 refine Zb.mk (λ_=>false) Tryz.func162 rfl rfl rfl (Ent.mk Tryz.func162 (by kernel_rfl) rfl) (by simp[hcap]) (by simp) λhfit=> ?_
 simp at hfit
 simp[Tryz.f162]
 refine AW.loopG (lit:=λ_=>false) (λi:Nat=>⟨19,pat [(0,encL VerR.enc l),(1,.fn g cap),(7,I l.length),(8,I i)],[]⟩) (λi=>l.length -i) (λi=>i<=l.length/\Zan p i (l.drop i)=idxS p l) 0 ?_ ?_ ?_
 ·exact Wk.at _ rfl rfl (by simp)
 ·simp[idxS]
 rintro i ⟨h1,h2⟩ A hA
 by_cases hi:i<l.length
 case neg=>
  rw[ZaP hi] at h2
  have s_:=An @hi (Eq.symm (h2))
  exact WW
 rw[Zbi hi] at h2
 have hw:=Zg hi hfit.1.1
 have hpi:=hp l[i] (List.getElem_mem hi)
 cases hpp:p l[i] with
 |true=>
  rw[hpp] at hpi
  simp only[hpp,if_true] at h2
  have s_:=An @hi (An (Eq.symm (h2)) (@hpp))
  have p1_:=hpi
  exact WW
 |false=>
  rw[hpp] at hpi
  simp only[hpp,Bool.false_eq_true,if_false] at h2
  have s_:=An @hi (An @hw (@hpp))
  have q1_:=λs w=>hA (i+1) s w ⟨by omega,h2⟩ (by omega)
  have p1_:=hpi
  exact WW
theorem ZuL (l:List VerR) (g:FuncId) (cap:List AV) (p:VerR->Bool) (hcap:cap.all neat=true) (hp:∀x∈l,Zb Tryz.prog g (.agg x.enc::cap) (B (p x))) (hl:l.length<=1000000):Zb Tryz.prog 111 [encL VerR.enc l,.fn g cap] (B (l.any p)):=by
 have h1:=ZnN l g cap p hcap hp hl
 rw[show l.any p=decide (0<=idxS p l) from ZmD p l]
 generalize idxS p l=q at*
 refine Zb.mk (λ_=>false) Tryz.func111 rfl rfl rfl (Ent.mk Tryz.func111 (by kernel_rfl) rfl) (by simp[hcap]) (by simp) λhfit=> ?_
 simp[Tryz.f111]
 exact WW
theorem ZnO (l:List CountR) (g:FuncId) (cap:List AV) (p:CountR->Bool) (hcap:cap.all neat=true) (hp:∀x∈l,Zb Tryz.prog g (.agg x.enc::cap) (B (p x))) (hl:l.length<=1000000):Zb Tryz.prog 164 [encL CountR.enc l,.fn g cap] (I (idxS p l)):=by
 refine Zb.mk (λ_=>false) Tryz.func164 rfl rfl rfl (Ent.mk Tryz.func164 (by kernel_rfl) rfl) (by simp[hcap]) (by simp) λhfit=> ?_
 simp at hfit
 simp[Tryz.f164]
 refine AW.loopG (lit:=λ_=>false) (λi:Nat=>⟨19,pat [(0,encL CountR.enc l),(1,.fn g cap),(7,I l.length),(8,I i)],[]⟩) (λi=>l.length -i) (λi=>i<=l.length/\Zan p i (l.drop i)=idxS p l) 0 ?_ ?_ ?_
 ·exact Wk.at _ rfl rfl (by simp)
 ·simp[idxS]
 rintro i ⟨h1,h2⟩ A hA
 by_cases hi:i<l.length
 case neg=>
  rw[ZaP hi] at h2
  have s_:=An @hi (Eq.symm (h2))
  exact WW
 rw[Zbi hi] at h2
 have hw:=Zg hi hfit.1.1
 have hpi:=hp l[i] (List.getElem_mem hi)
 cases hpp:p l[i] with
 |true=>
  rw[hpp] at hpi
  simp only[hpp,if_true] at h2
  have s_:=An @hi (An (Eq.symm (h2)) (@hpp))
  have p1_:=hpi
  exact WW
 |false=>
  rw[hpp] at hpi
  simp only[hpp,Bool.false_eq_true,if_false] at h2
  have s_:=An @hi (An @hw (@hpp))
  have q1_:=λs w=>hA (i+1) s w ⟨by omega,h2⟩ (by omega)
  have p1_:=hpi
  exact WW
theorem ZuM (l:List CountR) (g:FuncId) (cap:List AV) (p:CountR->Bool) (hcap:cap.all neat=true) (hp:∀x∈l,Zb Tryz.prog g (.agg x.enc::cap) (B (p x))) (hl:l.length<=1000000):Zb Tryz.prog 114 [encL CountR.enc l,.fn g cap] (B (l.any p)):=by
 have h1:=ZnO l g cap p hcap hp hl
 rw[show l.any p=decide (0<=idxS p l) from ZmD p l]
 generalize idxS p l=q at*
 refine Zb.mk (λ_=>false) Tryz.func114 rfl rfl rfl (Ent.mk Tryz.func114 (by kernel_rfl) rfl) (by simp[hcap]) (by simp) λhfit=> ?_
 simp[Tryz.f114]
 exact WW
def verQ (v:VerR) (ino:Int):Bool:=if v.gone=true then decide (v.node= .zero) else decide (v.node.ino=ino)&&nodeOk v.node
theorem ZpC (v:VerR) (ino:Int):verQ v ino=true↔VerP ino v:=by
 unfold verQ
 cases h:v.gone with
 |true=>
  simp only[if_true,decide_eq_true_eq]
  exact⟨λe=>⟨λ_=>e,λg=>by rw[h] at g;cases g⟩,λP=>P.gone h⟩
 |false=>
  simp only[Bool.false_eq_true,if_false,Bool.and_eq_true,decide_eq_true_eq]
  exact⟨λe=>⟨λg=>(by rw[h] at g;cases g),λ_=>⟨e.2,e.1⟩⟩,λP=>⟨(P.node h).2,(P.node h).1⟩⟩
theorem sown_ok (v:VerR) (ino:Int):Zb Tryz.prog 113 [.agg v.enc,I ino] (B (verQ v ino)):=by
 have h1:=ZgM v.node .zero
 have h2:=nright_ok v.node
 unfold verQ
 generalize decide (v.node= .zero)=b1 at*
 generalize nodeOk v.node=b2 at*
 by_cases hg:v.gone=true
 ·rw[if_pos hg]
  refine Pm Tryz.func113 λhfit=> ?_
  simp[Tryz.f113]
  have s_:=An @hg (An @NodeR.enc.eq_1 (@NodeR.zero.eq_1))
  exact WW
 ·rw[if_neg hg]
  by_cases hi:v.node.ino=ino
  all_goals
   refine Pm Tryz.func113 λhfit=> ?_
   simp[Tryz.f113]
   have s_:=An @hg (@hi)
   exact WW
theorem ZrL (v:VerR) (c:ChainR):Zb Tryz.prog 112 [.agg v.enc,.fp c.enc] (B (!verQ v c.ino)):=by
 have h1:=sown_ok v c.ino
 generalize verQ v c.ino=b at*
 refine Pm Tryz.func112 λhfit=> ?_
 simp[Tryz.f112]
 exact WW
theorem ZrM (c:CountR):Zb Tryz.prog 115 [.agg c.enc] (B (decide (c.next<1))):=by
 refine Pm Tryz.func115 λhfit=> ?_
 simp[Tryz.f115]
 try simp
 repeat' ((first|((first|refine Tp ?_|refine Tn ?_|refine T2 ?_ ?_)<;>intro h_ e_ n_)|rw[Ip]|rw[In]|rw[Fz]|rw[Gz]|fail)<;>first|simp[e_,n_]|simp|skip)
structure _root_.Go.Cx.ChainQ (s:StoreR) (j:Nat) (c:ChainR) (V:Bool) (R:Bool):Prop where
 ino:1<=c.ino
 rise:R=true
 ver:V=false
 prev:0<j->∀q,s.l[j -1]? =some q->q.ino<c.ino
theorem ZuN (s:StoreR) (hl:s.l.length<=1000000) (hv:∀c∈s.l,c.l.length<=1000000) (hn:s.nexts.length<=1000000):Zb Tryz.prog 62 [.agg s.enc] (B (storeB s)):=by
 have h1:=ZuM s.nexts 115 [] (λc=>decide (c.next<1)) (by simp) (λx _=>ZrM x) hn
 have h2:=ZxF s.nexts s.stamp
 have hend:(∀(j:Nat) (hj:j<s.l.length),ChainQ s j s.l[j] (s.l[j].l.any λv=> !verQ v s.l[j].ino) (riseB VerR.stamp s.l[j].l s.stamp))->storeB s=(decide (1<=s.stamp)&&(!(s.nexts.any λc=>decide (c.next<1))&&riseB CountR.stamp s.nexts s.stamp)):=λg=>by
  rw[Bool.eq_iff_iff,Zel]
  simp only[Bool.and_eq_true,decide_eq_true_eq,Bool.not_eq_true',ZdH,List.any_eq_false]
  constructor
  ·intro P
   refine⟨P.stamp,λc hc=>by have:=(P.count c hc).2.2;omega,P.some,λc hc=>by have:=P.count c hc;omega,(Zu CountR.stamp _).2 P.nrise⟩
  ·rintro⟨a1,a2,a3⟩
   refine⟨a1,λc hc=> ?_,?_,a3.some,(Zu CountR.stamp _).1 a3.rise,λc hc=> ?_⟩
   ·obtain⟨j,hj,rfl⟩:=List.getElem_of_mem hc
    have Q:=g j hj
    have P:=ZdH.1 Q.rise
    refine⟨Q.ino,P.some,(Zu VerR.stamp _).1 P.rise,P.lo,λv hvm=> ?_⟩
    have:=List.any_eq_false.1 Q.ver v hvm
    rw[<-ZpC]
    simpa using this
   ·refine(Zu ChainR.ino _).1 (ZaS ChainR.ino λj hj=> ?_)
    exact(g (j+1) hj).prev (by omega) _ (List.getElem?_eq_getElem (by omega))
   ·have b1:=a3.lo c hc
    have b2:=a2 c hc
    omega
 have hbad:∀(i:Nat) (hi:i<s.l.length),¬ChainQ s i s.l[i] (s.l[i].l.any λv=> !verQ v s.l[i].ino) (riseB VerR.stamp s.l[i].l s.stamp)->storeB s=false:=λi hi n=>ZbN λP=>n ⟨(P.chain _ (List.getElem_mem hi)).ino,ZdH.2 ⟨(P.chain _ (List.getElem_mem hi)).some,(P.chain _ (List.getElem_mem hi)).lo,(Zu VerR.stamp _).2 (P.chain _ (List.getElem_mem hi)).rise⟩,List.any_eq_false.2 λv hvm=>by rw[(ZpC _ _).2 ((P.chain _ (List.getElem_mem hi)).ver v hvm)];simp,λh0 q hq=>by
  obtain⟨hq1,rfl⟩:=List.getElem?_eq_some_iff.1 hq
  exact ZJ ChainR.ino ((Zu ChainR.ino _).2 P.rise) (i -1) i hq1 hi (by omega)⟩
 generalize storeB s=b at*
 generalize(s.nexts.any λc=>decide (c.next<1))=n1 at*
 generalize riseB CountR.stamp s.nexts s.stamp=n2 at*
 refine Pm Tryz.func62 λhfit=> ?_
 have d1_:=D0 4 27 [] []
 simp[Tryz.f62]
 try simp
 repeat' ((first|((first|refine Tp ?_|refine Tn ?_|refine T2 ?_ ?_)<;>intro h_ e_ n_)|refine Dg 4 27 [] [] ?_|rw[Ip]|rw[In]|rw[Fz]|rw[Gz]|fail)<;>first|simp[e_,n_]|simp|skip)
 refine AW.loopG (lit:=λ_=>false) (λi:Nat=>⟨63,pat [(1,.ptr 0 0 0),(7,encL ChainR.enc s.l),(8,I s.l.length),(9,I i)],[.cells 0 s.enc]⟩) (λi=>s.l.length -i) (λi=>i<=s.l.length/\∀(j:Nat) (hj:j<s.l.length),j<i->ChainQ s j s.l[j] (s.l[j].l.any λv=> !verQ v s.l[j].ino) (riseB VerR.stamp s.l[j].l s.stamp)) 0 ?_ ?_ ?_
 ·exact Wa
 ·exact⟨by simp,λj hj g=>by omega⟩
 rintro i ⟨g1,g2⟩ A hA
 by_cases hi:i<s.l.length
 case neg=>
  rw[hend λj hj=>g2 j hj (by omega)]
  by_cases q:1<=s.stamp<;>cases n1<;>cases n2
  all_goals
   have s_:=An @hi (@q)
   exact WW
 have hwi:=Zg hi (by simp only[maxLen];omega)
 have hi1:i -1<s.l.length:=by omega
 have hwm:0<i->IntKind.i64.wrap ((i:Int) -1)=((i -1:Nat):Int):=λhp=>by rw[Zh (by omega) (by omega)];omega
 have hb2:=hbad i hi
 have h3:=ZxE s.l[i].l s.stamp
 have h4:=ZuL s.l[i].l 112 [.fp s.l[i].enc] (λv=> !verQ v s.l[i].ino) (by simp) (λx _=>ZrL x s.l[i]) (hv _ (List.getElem_mem hi))
 have hnext:ChainQ s i s.l[i] (s.l[i].l.any λv=> !verQ v s.l[i].ino) (riseB VerR.stamp s.l[i].l s.stamp)->∀(j:Nat) (hj:j<s.l.length),j<i+1->ChainQ s j s.l[j] (s.l[j].l.any λv=> !verQ v s.l[j].ino) (riseB VerR.stamp s.l[j].l s.stamp):=λn j hj hji=>by
  rcases Nat.lt_or_ge j i with g|g
  ·exact g2 j hj g
  ·have:j=i:=by omega
   subst this;exact n
 clear hend hbad g2 h1 h2
 generalize(s.l[i].l.any λv=> !verQ v s.l[i].ino)=m1 at*
 generalize riseB VerR.stamp s.l[i].l s.stamp=m2 at*
 by_cases c1:s.l[i].ino<1
 ·rw[hb2 λQ=>by have:=Q.ino;omega]
  have s_:=An @hi (@c1)
  exact WW
 cases m2 with
 |false=>
  rw[hb2 λQ=>by have:=Q.rise;cases this]
  rcases Nat.eq_zero_or_pos i with z|z
  ·have z':¬0<i:=by omega
   have s_:=An @hi (An @c1 (@z'))
   exact WW
  ·have hwm:=hwm z
   have s_:=An @hi (An @c1 (An @z (An @hwm (@hi1))))
   exact WW
 |true=>
 cases m1 with
 |true=>
  rw[hb2 λQ=>by have:=Q.ver;cases this]
  rcases Nat.eq_zero_or_pos i with z|z
  ·have z':¬0<i:=by omega
   have s_:=An @hi (An @c1 (@z'))
   exact WW
  ·have hwm:=hwm z
   have s_:=An @hi (An @c1 (An @z (An @hwm (@hi1))))
   exact WW
 |false=>
 rcases Nat.eq_zero_or_pos i with z|z
 ·have z':¬0<i:=by omega
  have s_:=An @hi (An @hwi (An @c1 (@z')))
  have q1_:=λs w=>hA (i+1) s w ⟨by omega,hnext ⟨by omega,rfl,rfl,λh0=>absurd h0 z'⟩⟩ (by omega)
  exact WW
 ·have hwm:=hwm z
  by_cases c2:s.l[i].ino<=s.l[i -1].ino
  ·rw[hb2 λQ=>by have:=Q.prev z _ (List.getElem?_eq_getElem hi1);omega]
   have s_:=An @hi (An @c1 (An @z (An @hwm (An @hi1 (@c2)))))
   exact WW
  ·have s_:=An @hi (An @hwi (An @c1 (An @z (An @hwm (An @hi1 (@c2))))))
   have q1_:=λs w=>hA (i+1) s w ⟨by omega,hnext ⟨by omega,rfl,rfl,λh0 q hq=>by(obtain⟨_,rfl⟩:=List.getElem?_eq_some_iff.1 hq);omega⟩⟩ (by omega)
   exact WW
def ownB (h:HostR) (o:OpenR):Bool:=decide (0<=o.client)&&(decide (1<=o.epoch)&&(decide (1<=o.seq)&&(decide (0<=o.n)&&(rightTx o.t&&decide (o.t.stamp<=h.s.stamp)))))
theorem ZpD {h:HostR} {o:OpenR}:ownB h o=true↔OpenP h o:=by
 simp only[ownB,Bool.and_eq_true,decide_eq_true_eq,ZeI]
 exact⟨λ⟨a,b,c,d,e,f⟩=>⟨a,b,c,d,e,f⟩,λP=>⟨P.client,P.epoch,P.seq,P.n,P.t,P.stamp⟩⟩
theorem hown_ok (h:HostR) (o:OpenR) (hl:o.t.looks.length<=2000000):Zb Tryz.prog 61 [.agg h.enc,.agg o.enc] (B (ownB h o)):=by
 have h1:=ZvL o.t hl
 unfold ownB
 generalize rightTx o.t=b at*
 refine Pm Tryz.func61 λhfit=> ?_
 simp[Tryz.f61]
 exact WW
theorem ZuO (h:HostR) (hl:h.opens.length<=100000) (hk:∀o∈h.opens,o.t.looks.length<=2000000) (hs:h.s.l.length<=1000000) (hv:∀c∈h.s.l,c.l.length<=1000000) (hn:h.s.nexts.length<=1000000):Zb Tryz.prog 29 [.agg h.enc] (B (hostB h)):=by
 have h1:=ZuN h.s hs hv hn
 have h2:=Zsy h.rows
 have h3:=Zvx h.s h.s.stamp (by omega)
 have h4:=ZkA (viewS h.s h.s.stamp)
 have hend:(∀(j:Nat) (hj:j<h.opens.length),OpenQ h j h.opens[j])->hostB h=(storeB h.s&&(rightF (viewS h.s h.s.stamp)&&(rightT h.rows&&(decide (h.opens.length<=64)&&(decide (0<=h.now)&&decide (1<=h.lease)))))):=λg=>by
  have hr:Zo OpenR.client h.opens=true:=ZaS OpenR.client λj hj=>(g (j+1) hj).prev h.opens[j] (by simp) (by omega)
  have ho:∀o∈h.opens,OpenP h o:=λo ho=>by
   obtain⟨j,hj,rfl⟩:=List.getElem_of_mem ho
   exact(g j hj).p
  rw[Bool.eq_iff_iff,ZhZ]
  simp only[Bool.and_eq_true,Zel,Zem,Zfw,decide_eq_true_eq]
  constructor
  ·intro H;exact⟨H.store,⟨H.vrows,H.vtree.right H.vrows⟩,H.rows,H.few,H.now,H.lease⟩
  ·rintro⟨a,⟨c,d⟩,b,e,f,k⟩
   exact⟨a,c,ZcM.tree c d,b,e,hr,ho,f,k⟩
 have hbad:∀(i:Nat) (hi:i<h.opens.length),¬OpenQ h i h.opens[i]->hostB h=false:=λi hi n=>Zia λH=>n ⟨H.open_ _ (List.getElem_mem hi),λq hq h0=>by
  obtain⟨h1,rfl⟩:=List.getElem?_eq_some_iff.1 hq
  exact ZJ OpenR.client H.rise (i -1) i h1 hi (by omega)⟩
 generalize hostB h=b at*
 generalize viewS h.s h.s.stamp=v at*
 generalize storeB h.s=x1 at*
 generalize rightT h.rows=x2 at*
 generalize rightF v=x3 at*
 refine Pm Tryz.func29 λhfit=> ?_
 have d1_:=D0 4 20 [] []
 simp[Tryz.f29]
 try simp
 repeat' ((first|((first|refine Tp ?_|refine Tn ?_|refine T2 ?_ ?_)<;>intro h_ e_ n_)|refine Dg 4 20 [] [] ?_|rw[Ip]|rw[In]|rw[Fz]|rw[Gz]|fail)<;>first|simp[e_,n_]|simp|skip)
 refine AW.loopG (lit:=λ_=>false) (λi:Nat=>⟨68,pat [(1,.ptr 0 0 0),(6,encL OpenR.enc h.opens),(7,I h.opens.length),(8,I i)],[.cells 0 h.enc]⟩) (λi=>h.opens.length -i) (λi=>i<=h.opens.length/\∀(j:Nat) (hj:j<h.opens.length),j<i->OpenQ h j h.opens[j]) 0 ?_ ?_ ?_
 ·exact Wa
 ·exact⟨by simp,λj hj g=>by omega⟩
 rintro i ⟨g1,g2⟩ A hA
 by_cases hi:i<h.opens.length
 case neg=>
  rw[hend λj hj=>g2 j hj (by omega)]
  cases x1<;>cases x3<;>cases x2
  all_goals
   have s_:=hi
   exact WW
 have hwi:=Zg hi (by simp only[maxLen];omega)
 have hi1:i -1<h.opens.length:=by omega
 have hwm:0<i->IntKind.i64.wrap ((i:Int) -1)=((i -1:Nat):Int):=λhp=>by rw[Zh (by omega) (by omega)];omega
 have h5:=hown_ok h h.opens[i] (hk _ (List.getElem_mem hi))
 have hb2:=hbad i hi
 have hnext:OpenQ h i h.opens[i]->∀(j:Nat) (hj:j<h.opens.length),j<i+1->OpenQ h j h.opens[j]:=λn j hj hji=>by
  rcases Nat.lt_or_ge j i with g|g
  ·exact g2 j hj g
  ·have:j=i:=by omega
   subst this;exact n
 clear hend hbad g2 h1 h2 h3 h4
 cases hx:ownB h h.opens[i] with
 |false=>
  rw[hx] at h5
  rw[hb2 λQ=>by have:=ZpD.2 Q.p;rw[hx] at this;cases this]
  have s_:=hi
  exact WW
 |true=>
 rw[hx] at h5
 have hP:=ZpD.1 hx
 rcases Nat.eq_zero_or_pos i with z|z
 ·have z':¬0<i:=by omega
  have s_:=An @hi (An @hwi (@z'))
  have q1_:=λs w=>hA (i+1) s w ⟨by omega,hnext ⟨hP,λq hq h0=>absurd h0 z'⟩⟩ (by omega)
  exact WW
 ·have hwm:=hwm z
  by_cases c2:h.opens[i].client<=h.opens[i -1].client
  ·rw[hb2 λQ=>by have:=Q.prev _ (List.getElem?_eq_getElem hi1) z;omega]
   have s_:=An @hi (An @z (An @hwm (An @hi1 (@c2))))
   exact WW
  ·have s_:=An @hi (An @hwi (An @z (An @hwm (An @hi1 (@c2)))))
   have q1_:=λs w=>hA (i+1) s w ⟨by omega,hnext ⟨hP,λq hq h0=>by(obtain⟨_,rfl⟩:=List.getElem?_eq_some_iff.1 hq);omega⟩⟩ (by omega)
   exact WW
theorem ZrN (a b:List VerR) (g:FuncId) (cap:List AV) (hcap:cap.all neat=true) (hp:∀x y:VerR,Zb Tryz.prog g (.agg x.enc:: .agg y.enc::cap) (B (decide (x=y)))):Zb Tryz.prog 134 [encL VerR.enc a,encL VerR.enc b,.fn g cap] (B (decide (a=b))):=by
 refine Zb.mk (λ_=>false) Tryz.func134 rfl rfl rfl (Ent.mk Tryz.func134 (by kernel_rfl) rfl) (by simp[hcap]) (by simp) λhfit=> ?_
 simp at hfit
 have hcr:∀x∈cap,refsLt 0 x=true:=λx hx=>ZbH 0 x (List.all_eq_true.1 hcap x hx)
 simp[Tryz.f134]
 by_cases hl:a.length=b.length
 case neg=>
  have:¬a=b:=λe=>hl (by rw[e])
  simp[hl,this]
 simp[hl]
 refine AW.loopG (lit:=λ_=>false) (λi:Nat=>⟨32,pat [(0,encL VerR.enc a),(1,encL VerR.enc b),(2,.fn g cap),(15,encL VerR.enc a),(16,I b.length),(17,I i)],[]⟩) (λi=>b.length -i) (λi=>i<=b.length/\a.take i=b.take i) 0 ?_ ?_ ?_
 ·exact Wk.at _ rfl (by simp[hl]) (by simp)
 ·simp
 rintro i ⟨hi,ht⟩ A hA
 by_cases h:i<b.length
 case neg=>
  have:=Zam ht (by omega) (by omega)
  have s_:=An @h ((eq_true this))
  exact WW
 have ha:i<a.length:=by omega
 have hw:=Zg ha hfit.1.1
 have hN:=hp a[i] b[i]
 by_cases h2:a[i]=b[i]
 ·rw[decide_eq_true h2] at hN
  have ht:=take_step ht ha h h2
  have s_:=An @h (An @ha (@hw))
  try simp[s_]
  repeat' ((first|((first|refine Tp ?_|refine Tn ?_|refine T2 ?_ ?_)<;>intro h_ e_ n_)|(exact hA (i+1) _ (Wk.cutAt _ rfl (by simp) (by simp) (by simp) (by simpa using hcr)) ⟨by omega,ht⟩ (by omega))|refine Pg hN ?_|rw[Ip]|rw[In]|rw[Fz]|rw[Gz]|fail)<;>first|simp[e_,n_,s_]|simp[s_]|skip)
 ·have h3:¬a=b:=λe=>by subst e;exact h2 rfl
  rw[decide_eq_false h2] at hN
  have s_:=An @h (An @ha (@h3))
  have p1_:=hN
  exact WW
theorem ZrO (a b:List ChainR) (g:FuncId) (cap:List AV) (hcap:cap.all neat=true) (hp:∀x y:ChainR,Zb Tryz.prog g (.agg x.enc:: .agg y.enc::cap) (B (decide (x=y)))):Zb Tryz.prog 136 [encL ChainR.enc a,encL ChainR.enc b,.fn g cap] (B (decide (a=b))):=by
 refine Zb.mk (λ_=>false) Tryz.func136 rfl rfl rfl (Ent.mk Tryz.func136 (by kernel_rfl) rfl) (by simp[hcap]) (by simp) λhfit=> ?_
 simp at hfit
 have hcr:∀x∈cap,refsLt 0 x=true:=λx hx=>ZbH 0 x (List.all_eq_true.1 hcap x hx)
 simp[Tryz.f136]
 by_cases hl:a.length=b.length
 case neg=>
  have:¬a=b:=λe=>hl (by rw[e])
  simp[hl,this]
 simp[hl]
 refine AW.loopG (lit:=λ_=>false) (λi:Nat=>⟨32,pat [(0,encL ChainR.enc a),(1,encL ChainR.enc b),(2,.fn g cap),(15,encL ChainR.enc a),(16,I b.length),(17,I i)],[]⟩) (λi=>b.length -i) (λi=>i<=b.length/\a.take i=b.take i) 0 ?_ ?_ ?_
 ·exact Wk.at _ rfl (by simp[hl]) (by simp)
 ·simp
 rintro i ⟨hi,ht⟩ A hA
 by_cases h:i<b.length
 case neg=>
  have:=Zam ht (by omega) (by omega)
  have s_:=An @h ((eq_true this))
  exact WW
 have ha:i<a.length:=by omega
 have hw:=Zg ha hfit.1.1
 have hN:=hp a[i] b[i]
 by_cases h2:a[i]=b[i]
 ·rw[decide_eq_true h2] at hN
  have ht:=take_step ht ha h h2
  have s_:=An @h (An @ha (@hw))
  try simp[s_]
  repeat' ((first|((first|refine Tp ?_|refine Tn ?_|refine T2 ?_ ?_)<;>intro h_ e_ n_)|(exact hA (i+1) _ (Wk.cutAt _ rfl (by simp) (by simp) (by simp) (by simpa using hcr)) ⟨by omega,ht⟩ (by omega))|refine Pg hN ?_|rw[Ip]|rw[In]|rw[Fz]|rw[Gz]|fail)<;>first|simp[e_,n_,s_]|simp[s_]|skip)
 ·have h3:¬a=b:=λe=>by subst e;exact h2 rfl
  rw[decide_eq_false h2] at hN
  have s_:=An @h (An @ha (@h3))
  have p1_:=hN
  exact WW
theorem ZrP (a b:List OpenR) (g:FuncId) (cap:List AV) (hcap:cap.all neat=true) (hp:∀x y:OpenR,Zb Tryz.prog g (.agg x.enc:: .agg y.enc::cap) (B (decide (x=y)))):Zb Tryz.prog 72 [encL OpenR.enc a,encL OpenR.enc b,.fn g cap] (B (decide (a=b))):=by
 refine Zb.mk (λ_=>false) Tryz.func72 rfl rfl rfl (Ent.mk Tryz.func72 (by kernel_rfl) rfl) (by simp[hcap]) (by simp) λhfit=> ?_
 simp at hfit
 have hcr:∀x∈cap,refsLt 0 x=true:=λx hx=>ZbH 0 x (List.all_eq_true.1 hcap x hx)
 simp[Tryz.f72]
 by_cases hl:a.length=b.length
 case neg=>
  have:¬a=b:=λe=>hl (by rw[e])
  simp[hl,this]
 simp[hl]
 refine AW.loopG (lit:=λ_=>false) (λi:Nat=>⟨32,pat [(0,encL OpenR.enc a),(1,encL OpenR.enc b),(2,.fn g cap),(15,encL OpenR.enc a),(16,I b.length),(17,I i)],[]⟩) (λi=>b.length -i) (λi=>i<=b.length/\a.take i=b.take i) 0 ?_ ?_ ?_
 ·exact Wk.at _ rfl (by simp[hl]) (by simp)
 ·simp
 rintro i ⟨hi,ht⟩ A hA
 by_cases h:i<b.length
 case neg=>
  have:=Zam ht (by omega) (by omega)
  have s_:=An @h ((eq_true this))
  exact WW
 have ha:i<a.length:=by omega
 have hw:=Zg ha hfit.1.1
 have hN:=hp a[i] b[i]
 by_cases h2:a[i]=b[i]
 ·rw[decide_eq_true h2] at hN
  have ht:=take_step ht ha h h2
  have s_:=An @h (An @ha (@hw))
  try simp[s_]
  repeat' ((first|((first|refine Tp ?_|refine Tn ?_|refine T2 ?_ ?_)<;>intro h_ e_ n_)|(exact hA (i+1) _ (Wk.cutAt _ rfl (by simp) (by simp) (by simp) (by simpa using hcr)) ⟨by omega,ht⟩ (by omega))|refine Pg hN ?_|rw[Ip]|rw[In]|rw[Fz]|rw[Gz]|fail)<;>first|simp[e_,n_,s_]|simp[s_]|skip)
 ·have h3:¬a=b:=λe=>by subst e;exact h2 rfl
  rw[decide_eq_false h2] at hN
  have s_:=An @h (An @ha (@h3))
  have p1_:=hN
  exact WW
theorem ZuP (a b:List CountR):Zb Tryz.prog 135 [encL CountR.enc a,encL CountR.enc b] (B (decide (a=b))):=by
 refine Pm Tryz.func135 λhfit=> ?_
 have d1_:=D0 6 9 [] []
 simp at hfit
 simp[Tryz.f135]
 by_cases hl:a.length=b.length
 case neg=>
  have hne:¬a=b:=λe=>hl (by rw[e])
  have s_:=An @hl (@hne)
  exact WW
 have s_:=hl
 try simp[s_]
 repeat' ((first|((first|refine Tp ?_|refine Tn ?_|refine T2 ?_ ?_)<;>intro h_ e_ n_)|refine Dg 6 9 [] [] ?_|rw[Ip]|rw[In]|rw[Fz]|rw[Gz]|fail)<;>first|simp[e_,n_,s_]|simp[s_]|skip)
 refine AW.loopG (lit:=λ_=>false) (λi:Nat=>⟨26,pat [(0,encL CountR.enc a),(1,encL CountR.enc b),(12,I b.length),(13,I i)],[]⟩) (λi=>b.length -i) (λi=>i<=b.length/\a.take i=b.take i) 0 ?_ ?_ ?_
 ·exact Wk.at _ rfl (by simp[hl]) (by simp)
 ·simp
 rintro i ⟨h1,ht⟩ A hA
 by_cases hi:i<b.length
 case neg=>
  have he:=Zam ht (by omega) (by omega)
  subst he
  have s_:=hi
  exact WW
 have hi2:i<a.length:=by omega
 have hw2:=Zg hi (hl▸hfit.1.1)
 by_cases hs:a[i]=b[i]
 ·have s_:=An @hi (An @hi2 (An @hl (An @hw2 (@hs))))
  try simp[s_]
  repeat' ((first|((first|refine Tp ?_|refine Tn ?_|refine T2 ?_ ?_)<;>intro h_ e_ n_)|(exact hA (i+1) _ (Wk.at _ rfl (by simp[hl]) (by simp)) ⟨hi,take_step ht hi2 hi hs⟩ (by omega))|refine Dg 6 9 [] [] ?_|rw[Ip]|rw[In]|rw[Fz]|rw[Gz]|fail)<;>first|simp[e_,n_,s_]|simp[s_]|skip)
 ·have hne:¬a=b:=λe=>hs (by subst e;rfl)
  have s_:=An @hi (An @hi2 (An @hl (An @hs (@hne))))
  exact WW
theorem ZuQ (x y:VerR):Zb Tryz.prog 131 [.agg x.enc,.agg y.enc] (B (decide (x=y))):=by
 have h1:=ZgM x.node y.node
 have e:decide (x=y)=(decide (x.stamp=y.stamp)&&(decide (x.gone=y.gone)&&decide (x.node=y.node))):=by
  rw[Bool.eq_iff_iff];simp only[Bool.and_eq_true,decide_eq_true_eq];exact VerR.eq_iff x y
 rw[e]
 generalize decide (x.node=y.node)=b at*
 by_cases q1:x.stamp=y.stamp<;>by_cases q2:x.gone=y.gone
 all_goals
  refine Pm Tryz.func131 λhfit=> ?_
  simp[Tryz.f131]
  have s_:=An @q1 (@q2)
  exact WW
theorem ZuR (x y:ChainR):Zb Tryz.prog 133 [.agg x.enc,.agg y.enc,.fp [.fn 131 []]] (B (decide (x=y))):=by
 have h1:=ZrN x.l y.l 131 [] (by simp) ZuQ
 have e:decide (x=y)=(decide (x.ino=y.ino)&&decide (x.l=y.l)):=by
  cases x;cases y;rw[Bool.eq_iff_iff];simp
 rw[e]
 generalize decide (x.l=y.l)=b at*
 by_cases q1:x.ino=y.ino
 all_goals
  refine Pm Tryz.func133 λhfit=> ?_
  simp[Tryz.f133]
  have s_:=q1
  exact WW
theorem ZxG (x y:StoreR):Zb Tryz.prog 70 [.agg x.enc,.agg y.enc] (B (decide (x=y))):=by
 have h1:=ZuP x.nexts y.nexts
 have h2:=ZrO x.l y.l 133 [.fp [.fn 131 []]] (by simp) ZuR
 have e:decide (x=y)=(decide (x.stamp=y.stamp)&&(decide (x.nexts=y.nexts)&&decide (x.l=y.l))):=by
  cases x;cases y;rw[Bool.eq_iff_iff];simp only[Bool.and_eq_true,decide_eq_true_eq,StoreR.mk.injEq];exact⟨λ⟨a,b,c⟩=>⟨c,b,a⟩,λ⟨c,b,a⟩=>⟨a,b,c⟩⟩
 rw[e]
 generalize decide (x.nexts=y.nexts)=b1 at*
 generalize decide (x.l=y.l)=b2 at*
 by_cases q1:x.stamp=y.stamp<;>cases b1<;>cases b2
 all_goals
  refine Pm Tryz.func70 λhfit=> ?_
  simp[Tryz.f70]
  have s_:=q1
  exact WW
theorem ZuS (x y:OpenR):Zb Tryz.prog 67 [.agg x.enc,.agg y.enc] (B (decide (x=y))):=by
 have h1:=ZyA x.t y.t
 have h2:=Zsf x.last y.last
 have e:decide (x=y)=(decide (x.client=y.client)&&(decide (x.epoch=y.epoch)&&(decide (x.seq=y.seq)&&(decide (x.n=y.n)&&(decide (x.until_=y.until_)&&(decide (x.t=y.t)&&decide (x.last=y.last))))))):=by
  rw[Bool.eq_iff_iff];simp only[Bool.and_eq_true,decide_eq_true_eq]
  cases x;cases y;simp only[OpenR.mk.injEq]
  exact⟨λ⟨a,b,c,d,f,g,h⟩=>⟨a,b,c,d,h,f,g⟩,λ⟨a,b,c,d,h,f,g⟩=>⟨a,b,c,d,f,g,h⟩⟩
 rw[e]
 generalize decide (x.t=y.t)=b1 at*
 generalize decide (x.last=y.last)=b2 at*
 refine Pm Tryz.func67 λhfit=> ?_
 simp[Tryz.f67]
 exact WW
theorem ZxH (x y:HostR):Zb Tryz.prog 33 [.agg x.enc,.agg y.enc] (B (decide (x=y))):=by
 have h1:=ZxG x.s y.s
 have h2:=ZvH x.rows y.rows
 have h3:=ZrP x.opens y.opens 67 [] (by simp) ZuS
 have e:decide (x=y)=(decide (x.now=y.now)&&(decide (x.lease=y.lease)&&(decide (x.s=y.s)&&(decide (x.rows=y.rows)&&decide (x.opens=y.opens))))):=by
  rw[Bool.eq_iff_iff];simp only[Bool.and_eq_true,decide_eq_true_eq]
  rw[ZuI]
  exact⟨λ⟨a,b,c,d,f⟩=>⟨c,d,a,b,f⟩,λ⟨c,d,a,b,f⟩=>⟨a,b,c,d,f⟩⟩
 rw[e]
 generalize decide (x.s=y.s)=b1 at*
 generalize decide (x.rows=y.rows)=b2 at*
 generalize decide (x.opens=y.opens)=b3 at*
 refine Pm Tryz.func33 λhfit=> ?_
 simp[Tryz.f33]
 exact WW
end Go.Proofs.YtgpkaoombhobmaaGreat
namespace Go.Proofs.YtgpkaoombhobmaaGreat
open Go.Cx Tab
set_option maxHeartbeats 400000
set_option maxRecDepth 40000
theorem tnew_ok:Zb Tryz.prog 108 [] (encF newF):=by
 refine Pm Tryz.func108 λhfit=> ?_
 simp[Tryz.f108]
 have s_:=An @newF.eq_1 (An @FSR.enc.eq_1 (@NodeR.enc.eq_1))
 exact WW
theorem snew_ok:Zb Tryz.prog 60 [] (.agg sto0.enc):=by
 have h:=tnew_ok
 refine Pm Tryz.func60 λhfit=> ?_
 have d1_:=D0 2 13 [] []
 simp[Tryz.f60]
 have s_:=An @newF.eq_1 (An @FSR.enc.eq_1 (An @sto0.eq_1 (An @StoreR.enc.eq_1 (An @NodeR.enc.eq_1 (An @ChainR.enc.eq_1 (An @VerR.enc.eq_1 (@CountR.enc.eq_1)))))))
 have e1_:=D0 2 14 [0] []
 have p1_:=h
 exact WW
theorem ZuU (l:Int) (hl:1<=l):Zb Tryz.prog 28 [I l] (.tup [.agg (⟨sto0,[],[],0,l⟩:HostR).enc,I 0]):=by
 have h:=snew_ok
 have c:¬l<1:=by omega
 generalize sto0=s at*
 refine Pm Tryz.func28 λhfit=> ?_
 simp[Tryz.f28]
 have s_:=An @c (An @encH7 (@StoreR.enc.eq_1))
 have p1_:=h
 exact WW
theorem ZxN {h:HostR} (H:Ziw h) {B:Nat} {N:Int} (X:Near h B N) (hB:B<=80000) (hN:N<=2305843009213693952) (hn:h.now<=1152921504606846976) (hl:h.lease<=9223372036854775807 -h.now):FitH h:=
 ⟨H.rise,by have:=H.few;omega,λo ho=>⟨(H.open_ o ho).t,by have:=(X.opens o ho).1;omega,by have:=(X.opens o ho).2;omega⟩,H.store,X.vers.mono (by omega),by have:=X.stamp;omega,H.rows,Zh (by have:=H.now;have:=H.lease;omega) (by omega)⟩
theorem Zei {h:HostR} {i:Nat} (A:Zci h i):Near h (10+513*i) (2+i):=⟨A.few,by have:=A.stamp;omega,A.next,λo ho=>⟨(A.open_ o ho).next,by have:=(A.open_ o ho).looks;omega⟩⟩
theorem ZuV {h:HostR} (G:goodH h=true):Ziw h/\Near h 300 1152921504606846976/\h.now<1152921504606846976/\h.lease<1152921504606846976/\h.opens.length<=8:=by
 have g:=Zmj.1 G
 have g1:=g.store
 simp only[Zmv,Bool.and_eq_true,decide_eq_true_eq] at g1
 obtain⟨a1,a2,a3,a4,a5,a6⟩:=g1
 obtain⟨f1,f2,f3⟩:=ZlX a1
 refine⟨g.host,⟨⟨by omega,by omega,λc hc=>by have:=(f3 c hc).1;omega,λc hc v hv=>by have:=((f3 c hc).2 v hv).2;omega⟩,by omega,by omega,λo ho=> ?_⟩,g.now,g.lease,g.few⟩
 have:=(g.opens o ho).1
 simp only[Zol,Bool.and_eq_true,decide_eq_true_eq] at this
 exact⟨by omega,this.2.2.1⟩
theorem ZrR:Zb Tryz.prog 8 [] (B true):=by
 have hwf:cA.wf:=by unfold Zj.wf cA;simp only[inI];exact⟨⟨by decide,by decide⟩,⟨by decide,by decide⟩,⟨by decide,by decide⟩,⟨by decide,by decide⟩,⟨by decide,by decide⟩,by decide,by decide,by decide⟩
 have hwz:Zj.wf ⟨0,0,0,0,0,.empty,.empty,.empty⟩:=by unfold Zj.wf;simp only[inI];exact⟨⟨by decide,by decide⟩,⟨by decide,by decide⟩,⟨by decide,by decide⟩,⟨by decide,by decide⟩,⟨by decide,by decide⟩,by decide,by decide,by decide⟩
 obtain⟨a0,a1,a2,a3⟩:=alive_x
 have lease:∀{h:HostR} {i:Nat} (A:Zci h i),h.lease=5->i<=3->FitH h:=λA hl hi=>ZxN A.host (Zei A) (by omega) (by omega) (by rw[A.now];omega) (by rw[A.now,hl];decide)
 have l1:xh1.1.lease=5:=(ZeA a0.host (Zei a0) xm1).2.2
 have l2:xh2.1.lease=5:=((ZeA a1.host (Zei a1) xm2).2.2).trans l1
 have l3:xh3.1.lease=5:=((ZeA a2.host (Zei a2) xm3).2.2).trans l2
 have h0:=ZuU 5 (by decide)
 have h1:Zb Tryz.prog 11 [.agg xh0.enc,.agg xm1.enc] (.tup [.agg xh1.1.enc,.agg xh1.2.enc]):=ZfE xh0 xm1 (lease a0 rfl (by omega)) hwz
 have h2:Zb Tryz.prog 11 [.agg xh1.1.enc,.agg xm2.enc] (.tup [.agg xh2.1.enc,.agg xh2.2.enc]):=ZfE xh1.1 xm2 (lease a1 l1 (by omega)) hwf
 have h3:Zb Tryz.prog 11 [.agg xh2.1.enc,.agg xm3.enc] (.tup [.agg xh3.1.enc,.agg xh3.2.enc]):=ZfE xh2.1 xm3 (lease a2 l2 (by omega)) hwf
 have h4:Zb Tryz.prog 11 [.agg xh3.1.enc,.agg xm4.enc] (.tup [.agg xh4.1.enc,.agg xh4.2.enc]):=ZfE xh3.1 xm4 (lease a3 l3 (by omega)) hwf
 obtain⟨t1,t2,t3,t4,t5,t6⟩:=xh_told
 have e2:(⟨#[97]⟩:ByteArray)=T [97]:=rfl
 have em1:xm1.enc=[I 1,I 1,I 1,I 1,I 0,I 0,I 0,I 0,I 0,I 0,I 0,S .empty,S .empty,S .empty]:=rfl
 have em2:xm2.enc=[I 2,I 1,I 1,I 1,I 1,I 1,I 6,I 1,I 0,I 0,I 0,S (T [97]),S .empty,S .empty]:=rfl
 have em3:xm3.enc=[I 3,I 1,I 1,I 1,I 1,I 1,I 6,I 1,I 0,I 0,I 0,S (T [97]),S .empty,S .empty]:=rfl
 have em4:xm4.enc=[I 5,I 1,I 1,I 1,I 1,I 1,I 6,I 1,I 0,I 0,I 0,S (T [97]),S .empty,S .empty]:=rfl
 rw[em1] at h1
 rw[em2] at h2
 rw[em3] at h3
 rw[em4] at h4
 have ex0:AV.agg (⟨sto0,[],[],0,5⟩:HostR).enc= .agg xh0.enc:=rfl
 rw[ex0] at h0
 clear hwf hwz a0 a1 a2 a3 lease l1 l2 l3 em1 em2 em3 em4 ex0
 generalize xh0=X0 at*
 generalize xh1=X1 at*
 generalize xh2=X2 at*
 generalize xh3=X3 at*
 generalize xh4=X4 at*
 refine Pm Tryz.func8 λhfit=> ?_
 simp[Tryz.f8]
 have s_:=An @t1 (An @t2 (An @t3 (An @t4 (An @t5 (An @t6 (An @e2 (@setH_enc)))))))
 exact WW
end Go.Proofs.YtgpkaoombhobmaaGreat
namespace Go.Proofs.YtgpkaoombhobmaaGreat
open Go.Cx Tab
set_option maxHeartbeats 4000000
set_option maxRecDepth 40000
def tickH (h:HostR):HostR:={h with now:=w64 (h.now+1)}
theorem ZxI (h:HostR):Zb Tryz.prog 30 [.agg h.enc] (.agg (tickH h).enc):=by
 refine Pm Tryz.func30 λhfit=> ?_
 simp[Tryz.f30]
 have s_:=An @encH7 (An @tickH.eq_1 (@StoreR.enc.eq_1))
 exact WW
theorem ZxJ (h:HostR):Zb Tryz.prog 31 [.agg h.enc] (.agg (tickH h).enc):=by
 refine Pm Tryz.func31 λhfit=> ?_
 simp[Tryz.f31]
 have s_:=An @encH7 (An @tickH.eq_1 (@StoreR.enc.eq_1))
 exact WW
theorem ZrQ (h:HostR) (c:Int) (hl:h.opens.length<=1000000):Zb Tryz.prog 17 [.agg h.enc,I c] (oTup (findO h c)):=by
 obtain⟨F,hF⟩:∃F,findO h c=F:=⟨_,rfl⟩
 rw[hF]
 unfold findO Zak at hF
 refine Pm Tryz.func17 λhfit=> ?_
 simp[Tryz.f17]
 try simp
 repeat' ((first|((first|refine Tp ?_|refine Tn ?_|refine T2 ?_ ?_)<;>intro h_ e_ n_)|rw[Ip]|rw[In]|rw[Fz]|rw[Gz]|fail)<;>first|simp[e_,n_]|simp|skip)
 refine AW.loopG (lit:=λ_=>false) (λi:Nat=>⟨28,pat [(1,I c),(2,.ptr 0 0 0),(4,.ptr 1 0 0),(5,B false),(6,I i)],[.cells 0 h.enc,.cells 0 [I 0,I 0,I 0,I 0,I 0,.sl true 0 [],I 0,.sl true 0 [],I 0,.sl true 0 [],I 0,I 0,I 0,I 0,S .empty,.sl true 0 [],I 0]]⟩) (λi=>h.opens.length -i) (λi=>i<=h.opens.length/\(h.opens.drop i).find? (λx=>decide (x.client=c))=F) 0 ?_ ?_ ?_
 ·exact Wa
 ·exact⟨by simp,by simpa using hF⟩
 rintro i ⟨g1,g2⟩ A hA
 by_cases hi:i<h.opens.length
 case neg=>
  rw[List.drop_eq_nil_of_le (by omega)] at g2
  simp only[List.find?_nil] at g2
  subst g2
  have s_:=An @hi (@zeroO)
  exact WW
 rw[List.drop_eq_getElem_cons hi,List.find?_cons] at g2
 have hwi:=Zg hi (by simp only[maxLen];omega)
 by_cases q:h.opens[i].client=c
 ·rw[decide_eq_true q] at g2
  simp only at g2
  subst g2
  have s_:=An @hi (@q)
  exact WW
 ·rw[decide_eq_false q] at g2
  simp only at g2
  have s_:=An @hi (An @hwi (@q))
  have q1_:=λs w=>hA (i+1) s w ⟨by omega,g2⟩ (by omega)
  exact WW
def newH (l:Int):HostR×Int:=if l<1 then(⟨⟨[],[],0⟩,[],[],0,0⟩,1) else(⟨sto0,[],[],0,l⟩,0)
theorem ZxK:Zb Tryz.prog 86 [] (encF newF):=by
 refine Pm Tryz.func86 λhfit=> ?_
 simp[Tryz.f86]
 have s_:=An @FSR.enc.eq_1 (An @newF.eq_1 (@NodeR.enc.eq_1))
 exact WW
theorem ZxL:Zb Tryz.prog 45 [] (.agg sto0.enc):=by
 have h:=ZxK
 refine Pm Tryz.func45 λhfit=> ?_
 simp[Tryz.f45,sto0,StoreR.enc,ChainR.enc,VerR.enc,CountR.enc,NodeR.enc]
 have s_:=An @newF.eq_1 (An @FSR.enc.eq_1 (An @NodeR.enc.eq_1 (An @ChainR.enc.eq_1 (An @VerR.enc.eq_1 (@CountR.enc.eq_1)))))
 have p1_:=h
 exact WW
theorem ZxM (l:Int):Zb Tryz.prog 28 [I l] (.tup [.agg (newH l).1.enc,I (newH l).2]):=by
 by_cases c:l<1
 ·have e:newH l=(⟨⟨[],[],0⟩,[],[],0,0⟩,1):=if_pos c
  rw[e]
  refine Pm Tryz.func28 λhfit=> ?_
  simp[Tryz.f28]
  have s_:=An @c (An @encH7 (@StoreR.enc.eq_1))
  exact WW
 ·have e:newH l=(⟨sto0,[],[],0,l⟩,0):=if_neg c
  rw[e]
  exact ZuU l (by omega)
theorem ZuT (l:Int):Zb Tryz.prog 15 [I l] (.tup [.agg (newH l).1.enc,I (newH l).2]):=by
 by_cases c:l<1
 ·have e:newH l=(⟨⟨[],[],0⟩,[],[],0,0⟩,1):=if_pos c
  rw[e]
  refine Pm Tryz.func15 λhfit=> ?_
  simp[Tryz.f15]
  have s_:=An @c (An @encH7 (@StoreR.enc.eq_1))
  exact WW
 ·have e:newH l=(⟨sto0,[],[],0,l⟩,0):=if_neg c
  rw[e]
  have h:=ZxL
  generalize sto0=s at*
  refine Pm Tryz.func15 λhfit=> ?_
  simp[Tryz.f15]
  have s_:=An @c (An @encH7 (@StoreR.enc.eq_1))
  have p1_:=h
  exact WW
end Go.Proofs.YtgpkaoombhobmaaGreat
