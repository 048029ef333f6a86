import Derived.Test.YtgpkaoombhobmaaGreatJW5
import Derived.Test.YtgpkaoombhobmaaGreatJP1
set_option linter.unusedVariables false
set_option linter.unusedSimpArgs false
namespace Go.Proofs.YtgpkaoombhobmaaGreat
open Go.Cx Tab
set_option maxHeartbeats 400000
set_option maxRecDepth 40000
theorem Zvv (v:VerR):Zb Tryz.prog 102 [.agg v.enc] (I v.stamp):=by
 refine Pm Tryz.func102 λhfit=> ?_
 simp[Tryz.f102]
 try simp
 repeat' ((first|((first|refine Tp ?_|refine Tn ?_|refine T2 ?_ ?_)<;>intro h_ e_ n_)|rw[Ip]|rw[In]|rw[Fz]|rw[Gz]|fail)<;>first|simp[e_,n_]|simp|skip)
theorem atV_ok (l:List VerR) (st:Int):Zb Tryz.prog 121 [encL VerR.enc l,I st,.fn 102 []] (I (atS VerR.stamp l st)):=by
 obtain⟨F,hF⟩:∃F,atS VerR.stamp l st=F:=⟨_,rfl⟩
 rw[hF]
 unfold atS at hF
 refine Pm Tryz.func121 λhfit=> ?_
 simp at hfit
 simp[Tryz.f121]
 refine AW.loopG (lit:=λ_=>false) (λx:Nat×Int=>⟨25,pat [(1,I st),(2,.fn 102 []),(7,I x.2),(10,encL VerR.enc l),(11,I l.length),(12,I x.1)],[]⟩) (λx=>l.length -x.1) (λx=>x.1<=l.length/\atGo VerR.stamp st (l.drop x.1) x.1 x.2=F) (0,-1) ?_ ?_ ?_
 ·exact Wa
 ·exact⟨by simp,by simpa using hF⟩
 rintro⟨i,k⟩ ⟨g1,g2⟩ A hA
 simp only at g1 g2 hA
 by_cases hi:i<l.length
 case neg=>
  rw[List.drop_eq_nil_of_le (by omega),atGo] at g2
  rw[<-g2]
  have s_:=hi
  exact WW
 rw[List.drop_eq_getElem_cons hi,atGo] at g2
 have hwi:=Zg hi hfit.1
 have h1:=Zvv l[i]
 by_cases q:l[i].stamp<=st
 ·rw[if_pos q] at g2
  have s_:=An @hi (An @hwi (@q))
  have q1_:=λs w=>hA (i+1,i) s w ⟨hi,g2⟩ (by simp only;omega)
  exact WW
 ·rw[if_neg q] at g2
  have s_:=An @hi (An @hwi (@q))
  have q1_:=λs w=>hA (i+1,k) s w ⟨hi,g2⟩ (by simp only;omega)
  exact WW
theorem Zvw (v:CountR):Zb Tryz.prog 100 [.agg v.enc] (I v.stamp):=by
 refine Pm Tryz.func100 λhfit=> ?_
 simp[Tryz.f100]
 try simp
 repeat' ((first|((first|refine Tp ?_|refine Tn ?_|refine T2 ?_ ?_)<;>intro h_ e_ n_)|rw[Ip]|rw[In]|rw[Fz]|rw[Gz]|fail)<;>first|simp[e_,n_]|simp|skip)
theorem atC_ok (l:List CountR) (st:Int):Zb Tryz.prog 122 [encL CountR.enc l,I st,.fn 100 []] (I (atS CountR.stamp l st)):=by
 obtain⟨F,hF⟩:∃F,atS CountR.stamp l st=F:=⟨_,rfl⟩
 rw[hF]
 unfold atS at hF
 refine Pm Tryz.func122 λhfit=> ?_
 simp at hfit
 simp[Tryz.f122]
 refine AW.loopG (lit:=λ_=>false) (λx:Nat×Int=>⟨25,pat [(1,I st),(2,.fn 100 []),(7,I x.2),(10,encL CountR.enc l),(11,I l.length),(12,I x.1)],[]⟩) (λx=>l.length -x.1) (λx=>x.1<=l.length/\atGo CountR.stamp st (l.drop x.1) x.1 x.2=F) (0,-1) ?_ ?_ ?_
 ·exact Wa
 ·exact⟨by simp,by simpa using hF⟩
 rintro⟨i,k⟩ ⟨g1,g2⟩ A hA
 simp only at g1 g2 hA
 by_cases hi:i<l.length
 case neg=>
  rw[List.drop_eq_nil_of_le (by omega),atGo] at g2
  rw[<-g2]
  have s_:=hi
  exact WW
 rw[List.drop_eq_getElem_cons hi,atGo] at g2
 have hwi:=Zg hi hfit.1
 have h1:=Zvw l[i]
 by_cases q:l[i].stamp<=st
 ·rw[if_pos q] at g2
  have s_:=An @hi (An @hwi (@q))
  have q1_:=λs w=>hA (i+1,i) s w ⟨hi,g2⟩ (by simp only;omega)
  exact WW
 ·rw[if_neg q] at g2
  have s_:=An @hi (An @hwi (@q))
  have q1_:=λs w=>hA (i+1,k) s w ⟨hi,g2⟩ (by simp only;omega)
  exact WW
theorem ZpM (c:ChainR) (st:Int) (hl:c.l.length<=2000000):Zb Tryz.prog 51 [.agg c.enc,I st] (I (atS VerR.stamp c.l st)):=by
 have hu:=Zcv VerR.stamp c.l st
 generalize atS VerR.stamp c.l st=F at*
 obtain⟨ino,l⟩:=c
 simp only at hl hu
 have hw0:IntKind.i64.wrap ((l.length:Int) -1)=(l.length:Int) -1:=Zh (by omega) (by omega)
 refine Pm Tryz.func51 λhfit=> ?_
 simp[Tryz.f51,ChainR.enc,hw0]
 refine AW.loopG (lit:=λ_=>false) (λk:Int=>⟨25,pat [(1,I st),(2,.ptr 0 0 0),(5,I k)],[.cells 0 [I ino,encL VerR.enc l]]⟩) (λk=>(k+1).toNat) (λk=> -1<=k/\k<l.length/\∀(j:Nat) (h:j<l.length),k<j->st<l[j].stamp) ((l.length:Int) -1) ?_ ?_ ?_
 ·exact Wa
 ·exact⟨by omega,by omega,λj h hj=>by omega⟩
 rintro k ⟨g1,g2,g3⟩ A hA
 by_cases h0:0<=k
 case neg=>
  have hk:k= -1:=by omega
  have e:F=k:=hu.uniq _ ⟨g1,g2,g3,λh h0'=>absurd h0' h0⟩
  subst e hk
  exact WW
 obtain⟨j,rfl⟩:=Int.eq_ofNat_of_zero_le h0
 have hj:j<l.length:=by omega
 have hw:IntKind.i64.wrap ((j:Int) -1)=(j:Int) -1:=Zh (by omega) (by omega)
 by_cases q:st<l[j].stamp
 ·have s_:=An @hj (An @q (@hw))
  have q1_:=λs w=>hA ((j:Int) -1) s w ⟨by omega,by omega,λi h hi=>if e:i=j then by subst e;exact q else g3 i h (by omega)⟩ (by omega)
  exact WW
 ·have e:F=(j:Int):=hu.uniq _ ⟨g1,g2,g3,λh h0'=>by simp only[Int.toNat_natCast];omega⟩
  subst e
  have s_:=An @hj (@q)
  exact WW
theorem ZpN (s:StoreR) (st:Int) (hl:s.nexts.length<=2000000):Zb Tryz.prog 52 [.agg s.enc,I st] (I (atS CountR.stamp s.nexts st)):=by
 have hu:=Zcv CountR.stamp s.nexts st
 generalize atS CountR.stamp s.nexts st=F at*
 obtain⟨cs,l,stamp⟩:=s
 simp only at hl hu
 have hw0:IntKind.i64.wrap ((l.length:Int) -1)=(l.length:Int) -1:=Zh (by omega) (by omega)
 refine Pm Tryz.func52 λhfit=> ?_
 simp[Tryz.f52,StoreR.enc,hw0]
 refine AW.loopG (lit:=λ_=>false) (λk:Int=>⟨25,pat [(1,I st),(2,.ptr 0 0 0),(5,I k)],[.cells 0 [encL ChainR.enc cs,encL CountR.enc l,I stamp]]⟩) (λk=>(k+1).toNat) (λk=> -1<=k/\k<l.length/\∀(j:Nat) (h:j<l.length),k<j->st<l[j].stamp) ((l.length:Int) -1) ?_ ?_ ?_
 ·exact Wa
 ·exact⟨by omega,by omega,λj h hj=>by omega⟩
 rintro k ⟨g1,g2,g3⟩ A hA
 by_cases h0:0<=k
 case neg=>
  have hk:k= -1:=by omega
  have e:F=k:=hu.uniq _ ⟨g1,g2,g3,λh h0'=>absurd h0' h0⟩
  subst e hk
  exact WW
 obtain⟨j,rfl⟩:=Int.eq_ofNat_of_zero_le h0
 have hj:j<l.length:=by omega
 have hw:IntKind.i64.wrap ((j:Int) -1)=(j:Int) -1:=Zh (by omega) (by omega)
 by_cases q:st<l[j].stamp
 ·have s_:=An @hj (An @q (@hw))
  have q1_:=λs w=>hA ((j:Int) -1) s w ⟨by omega,by omega,λi h hi=>if e:i=j then by subst e;exact q else g3 i h (by omega)⟩ (by omega)
  exact WW
 ·have e:F=(j:Int):=hu.uniq _ ⟨g1,g2,g3,λh h0'=>by simp only[Int.toNat_natCast];omega⟩
  subst e
  have s_:=An @hj (@q)
  exact WW
theorem ZpO {c:ChainR} {st:Int} (h:atS VerR.stamp c.l st<0):Zag c st=[]:=by
 unfold Zag;rw[(ZfA VerR.stamp st c.l).1 h]
theorem ZpP {c:ChainR} {st:Int} {j:Nat} (h:atS VerR.stamp c.l st=j) (hj:j<c.l.length):Zag c st=if c.l[j].gone=true then[] else[c.l[j].node]:=by
 have:=(ZfA VerR.stamp st c.l).2 (by rw[h];exact hj) (by omega)
 simp only[h,Int.toNat_natCast] at this
 unfold Zag;rw[this]
theorem ZpQ {l:List CountR} {st:Int} (h:atS CountR.stamp l st<0):nextAt l st=1:=by
 unfold nextAt;rw[(ZfA CountR.stamp st l).1 h]
theorem ZpR {l:List CountR} {st:Int} {j:Nat} (h:atS CountR.stamp l st=j) (hj:j<l.length):nextAt l st=l[j].next:=by
 have:=(ZfA CountR.stamp st l).2 (by rw[h];exact hj) (by omega)
 simp only[h,Int.toNat_natCast] at this
 unfold nextAt;rw[this]
theorem Zvx (s:StoreR) (st:Int) (hl:s.l.length<=2000000):Zb Tryz.prog 64 [.agg s.enc,I st] (encF (viewS s st)):=by
 obtain⟨cs,ns,stamp⟩:=s
 simp only at hl
 unfold viewS
 simp only
 obtain⟨F,hF⟩:∃F,(cs.flatMap λc=>Zag c st)=F:=⟨_,rfl⟩
 rw[hF]
 have hC:=atC_ok ns st
 have hu:=Zcv CountR.stamp ns st
 have n1:=ZpQ (l:=ns) (st:=st)
 have n2:=λj=>ZpR (l:=ns) (st:=st) (j:=j)
 generalize atS CountR.stamp ns st=kn at*
 generalize nextAt ns st=nx at*
 refine Pm Tryz.func64 λhfit=> ?_
 have d1_:=D0 7 11 [] []
 simp[Tryz.f64,StoreR.enc]
 refine AW.loopG (lit:=λ_=>false) (λx:Nat×List NodeR=>⟨59,pat [(1,I st),(2,.ptr 0 0 0),(4,.ptr 1 0 0),(5,.ptr 2 0 0),(12,encL ChainR.enc cs),(13,I cs.length),(14,I x.1)],[.cells 0 [encL ChainR.enc cs,encL CountR.enc ns,I stamp],.cells 0 [.sl true 0 [],I 0],.cells 0 [.own 3 x.2.length 0 x.2.length 5,I 1],.cells x.2.length (x.2.flatMap NodeR.enc)]⟩) (λx=>cs.length -x.1)
  (λx=>x.1<=cs.length/\x.2.length<=x.1/\x.2++((cs.drop x.1).flatMap λc=>Zag c st)=F) (0,[]) ?_ ?_ ?_
 ·exact Wk.trans (Wk.ownNilCell 2 0 0 5 rfl rfl) Wa
 ·exact⟨by simp,by simp,by simpa using hF⟩
 rintro⟨i,acc⟩ ⟨g1,g2,g3⟩ A hA
 simp only at g1 g2 g3 hA
 by_cases hi:i<cs.length
 case neg=>
  rw[List.drop_eq_nil_of_le (by omega),List.flatMap_nil,List.append_nil] at g3
  rw[<-g3]
  by_cases h0:0<=kn
  ·obtain⟨j,rfl⟩:=Int.eq_ofNat_of_zero_le h0
   have hj:j<ns.length:=by have:=hu.hi;omega
   have n2:=n2 j rfl hj
   subst n2
   have s_:=An @hi (An @hj (@FSR.enc.eq_1))
   have p1_:=hC
   exact WW
  ·have n1:=n1 (by omega)
   subst n1
   have s_:=An @hi (@FSR.enc.eq_1)
   have p1_:=hC
   exact WW
 rw[List.drop_eq_getElem_cons hi,List.flatMap_cons] at g3
 have hwi:=Zg hi (by simp only[maxLen];omega)
 have hm:acc.length+1<=maxLen:=by simp only[maxLen];omega
 have hm':acc.length+1<=17592186044416:=by omega
 generalize hc:cs[i]=c at*
 have hV:=atV_ok c.l st
 have hv:=Zcv VerR.stamp c.l st
 have v1:=ZpO (c:=c) (st:=st)
 have v2:=λj=>ZpP (c:=c) (st:=st) (j:=j)
 generalize atS VerR.stamp c.l st=kv at*
 by_cases h0:0<=kv
 case neg=>
  rw[v1 (by omega),List.nil_append] at g3
  have s_:=An @hi (An @hwi (An @hc (An @h0 (@ChainR.enc.eq_1))))
  have q1_:=λs w=>hA (i+1,acc) s w ⟨hi,by simp only;omega,g3⟩ (by simp only;omega)
  have p1_:=hV
  exact WW
 obtain⟨j,rfl⟩:=Int.eq_ofNat_of_zero_le h0
 have hj:j<c.l.length:=by have:=hv.hi;omega
 have v2:=v2 j rfl hj
 have hal:(acc++[c.l[j].node]).length=acc.length+1:=by simp
 cases hg:c.l[j].gone with
 |true=>
  rw[v2,if_pos hg,List.nil_append] at g3
  have s_:=An @hi (An @hwi (An @hc (An @hj (An @hg (@ChainR.enc.eq_1)))))
  have q1_:=λs w=>hA (i+1,acc) s w ⟨hi,by simp only;omega,g3⟩ (by simp only;omega)
  have p1_:=hV
  exact WW
 |false=>
  rw[v2,if_neg (by rw[hg];simp)] at g3
  have s_:=An @hi (An @hwi (An @hc (An @hj (An @hg (An @hm (An @hm' (@ChainR.enc.eq_1)))))))
  try simp[s_]
  repeat' ((first|((first|refine Tp ?_|refine Tn ?_|refine T2 ?_ ?_)<;>intro h_ e_ n_)|(exact hA (i+1,acc++[c.l[j].node]) _ Wc ⟨hi,by simp only[hal];omega,by simpa using g3⟩ (by simp only;omega))|refine Pg hV ?_|refine Dg 7 11 [] [] ?_|rw[Ip]|rw[In]|rw[Fz]|rw[Gz]|fail)<;>first|simp[e_,n_,s_]|simp[s_]|skip)
theorem ZpS (s:StoreR) (st:Int) (hb:ZbM s):Zb Tryz.prog 20 [.agg s.enc,I st] (encF (viewS s st)):=by
 have hl:=hb.l
 have hnl:=hb.nexts
 have hcl:=hb.vers
 have hC:=ZpN s st (by omega)
 clear hb
 obtain⟨cs,ns,stamp⟩:=s
 simp only at hl hnl hcl hC
 unfold viewS
 simp only
 obtain⟨F,hF⟩:∃F,(cs.flatMap λc=>Zag c st)=F:=⟨_,rfl⟩
 rw[hF]
 have hu:=Zcv CountR.stamp ns st
 have n1:=ZpQ (l:=ns) (st:=st)
 have n2:=λj=>ZpR (l:=ns) (st:=st) (j:=j)
 generalize atS CountR.stamp ns st=kn at*
 generalize nextAt ns st=nx at*
 refine Pm Tryz.func20 λhfit=> ?_
 have d1_:=D0 7 15 [] []
 simp[Tryz.f20,StoreR.enc]
 refine AW.loopG (lit:=λ_=>false) (λx:Nat×List NodeR=>⟨67,pat [(1,I st),(2,.ptr 0 0 0),(4,.ptr 1 0 0),(5,.ptr 2 0 0),(6,I x.1)],[.cells 0 [encL ChainR.enc cs,encL CountR.enc ns,I stamp],.cells 0 [.sl true 0 [],I 0],.cells 0 [.own 3 x.2.length 0 x.2.length 5,I 1],.cells x.2.length (x.2.flatMap NodeR.enc)]⟩) (λx=>cs.length -x.1)
  (λx=>x.1<=cs.length/\x.2.length<=x.1/\x.2++((cs.drop x.1).flatMap λc=>Zag c st)=F) (0,[]) ?_ ?_ ?_
 ·exact Wk.trans (Wk.ownNilCell 2 0 0 5 rfl rfl) Wa
 ·exact⟨by simp,by simp,by simpa using hF⟩
 rintro⟨i,acc⟩ ⟨g1,g2,g3⟩ A hA
 simp only at g1 g2 g3 hA
 by_cases hi:i<cs.length
 case neg=>
  rw[List.drop_eq_nil_of_le (by omega),List.flatMap_nil,List.append_nil] at g3
  rw[<-g3]
  by_cases h0:0<=kn
  ·obtain⟨j,rfl⟩:=Int.eq_ofNat_of_zero_le h0
   have hj:j<ns.length:=by have:=hu.hi;omega
   have n2:=n2 j rfl hj
   subst n2
   have s_:=An @hi (An @hj (An @FSR.enc.eq_1 (@StoreR.enc.eq_1)))
   have p1_:=hC
   exact WW
  ·have n1:=n1 (by omega)
   subst n1
   have s_:=An @hi (An @FSR.enc.eq_1 (@StoreR.enc.eq_1))
   have p1_:=hC
   exact WW
 rw[List.drop_eq_getElem_cons hi,List.flatMap_cons] at g3
 have hwi:=Zg hi (by simp only[maxLen];omega)
 have hm:acc.length+1<=maxLen:=by simp only[maxLen];omega
 have hm':acc.length+1<=17592186044416:=by omega
 have hV:=ZpM cs[i] st (by have:=hcl _ (List.getElem_mem hi);omega)
 generalize hc:cs[i]=c at*
 have hv:=Zcv VerR.stamp c.l st
 have v1:=ZpO (c:=c) (st:=st)
 have v2:=λj=>ZpP (c:=c) (st:=st) (j:=j)
 generalize atS VerR.stamp c.l st=kv at*
 by_cases h0:0<=kv
 case neg=>
  rw[v1 (by omega),List.nil_append] at g3
  have s_:=An @hi (An @hwi (An @hc (@h0)))
  have q1_:=λs w=>hA (i+1,acc) s w ⟨hi,by simp only;omega,g3⟩ (by simp only;omega)
  have p1_:=hV
  exact WW
 obtain⟨j,rfl⟩:=Int.eq_ofNat_of_zero_le h0
 have hj:j<c.l.length:=by have:=hv.hi;omega
 have v2:=v2 j rfl hj
 have hal:(acc++[c.l[j].node]).length=acc.length+1:=by simp
 cases hg:c.l[j].gone with
 |true=>
  rw[v2,if_pos hg,List.nil_append] at g3
  have s_:=An @hi (An @hwi (An @hc (An @hj (@hg))))
  have q1_:=λs w=>hA (i+1,acc) s w ⟨hi,by simp only;omega,g3⟩ (by simp only;omega)
  have p1_:=hV
  exact WW
 |false=>
  rw[v2,if_neg (by rw[hg];simp)] at g3
  have s_:=An @hi (An @hwi (An @hc (An @hj (An @hg (An @hm (@hm'))))))
  try simp[s_]
  repeat' ((first|((first|refine Tp ?_|refine Tn ?_|refine T2 ?_ ?_)<;>intro h_ e_ n_)|(exact hA (i+1,acc++[c.l[j].node]) _ Wc ⟨hi,by simp only[hal];omega,by simpa using g3⟩ (by simp only;omega))|refine Pg hV ?_|refine Dg 7 15 [] [] ?_|rw[Ip]|rw[In]|rw[Fz]|rw[Gz]|fail)<;>first|simp[e_,n_,s_]|simp[s_]|skip)
theorem Zsk {c:ChainR} {last:Int} (h:Zey last c) (st:Int) (hl:c.l.length -1<c.l.length):Zcw st c=decide (st<c.l[c.l.length -1].stamp):=by
 have hp:=List.pairwise_iff_getElem.1 h.rise
 unfold Zcw
 by_cases q:st<c.l[c.l.length -1].stamp
 ·rw[decide_eq_true q]
  exact List.any_eq_true.2 ⟨_,List.getElem_mem hl,by simpa using q⟩
 ·rw[decide_eq_false q]
  rw[List.any_eq_false]
  intro v hv
  obtain⟨j,hj,rfl⟩:=List.getElem_of_mem hv
  rcases Nat.lt_or_ge j (c.l.length -1) with g|g
  ·have:=hp j (c.l.length -1) hj hl g
   simp;omega
  ·have:j=c.l.length -1:=by omega
   subst this;simpa using q
theorem Zsl {s:StoreR} (h:ZD s) (st:Int) (hl:s.nexts.length -1<s.nexts.length):(s.nexts.any λc=>decide (st<c.stamp))=decide (st<s.nexts[s.nexts.length -1].stamp):=by
 have hp:=List.pairwise_iff_getElem.1 h.nrise
 by_cases q:st<s.nexts[s.nexts.length -1].stamp
 ·rw[decide_eq_true q]
  exact List.any_eq_true.2 ⟨_,List.getElem_mem hl,by simpa using q⟩
 ·rw[decide_eq_false q]
  rw[List.any_eq_false]
  intro v hv
  obtain⟨j,hj,rfl⟩:=List.getElem_of_mem hv
  rcases Nat.lt_or_ge j (s.nexts.length -1) with g|g
  ·have:=hp j (s.nexts.length -1) hj hl g
   simp;omega
  ·have:j=s.nexts.length -1:=by omega
   subst this;simpa using q
theorem Zyl (s:StoreR) (st:Int) (hP:ZD s) (hb:ZbM s):Zb Tryz.prog 296 [.agg s.enc,I st] (enc1 I (sinceS s st)):=by
 have hl:=hb.l
 have hnl:=hb.nexts
 have hcl:=hb.vers
 have hcs:=hP.chain
 have hn0:s.nexts.length -1<s.nexts.length:=by have:=List.length_pos_iff.2 hP.some;omega
 have hnx:=Zsl hP st hn0
 have hwn:IntKind.i64.wrap ((s.nexts.length:Int) -1)=((s.nexts.length -1:Nat):Int):=by rw[Zh (by omega) (by omega)];omega
 unfold sinceS Zbu
 rw[hnx]
 clear hb hnx
 obtain⟨cs,ns,stamp⟩:=s
 clear hP
 simp only at*
 obtain⟨F,hF⟩:∃F,(cs.filter (Zcw st)).map (·.ino)=F:=⟨_,rfl⟩
 rw[hF]
 refine Zb.mk (λt=>t==56) Tryz.func296 rfl rfl rfl (Ent.mk Tryz.func296 (by kernel_rfl) rfl) (by simp) (by simp) λhfit=> ?_
 simp[Tryz.f296,StoreR.enc]
 refine AW.loopG (lit:=λt=>t==56) (λx:Nat×List Int=>⟨51,pat [(1,I st),(2,.ptr 0 0 0),(5,.own 1 x.2.length 0 x.2.length 1),(9,encL ChainR.enc cs),(10,I cs.length),(11,I x.1)],[.cells 0 [encL ChainR.enc cs,encL CountR.enc ns,I stamp],.cells x.2.length (x.2.map I)]⟩) (λx=>cs.length -x.1)
  (λx=>x.1<=cs.length/\x.2.length<=x.1/\x.2++((cs.drop x.1).filter (Zcw st)).map (·.ino)=F) (0,[]) ?_ ?_ ?_
 ·exact Wk.trans (Wk.ownNil 5 1 (by simp)) Wa
 ·exact⟨by simp,by simp,by simpa using hF⟩
 rintro⟨i,acc⟩ ⟨g1,g2,g3⟩ A hA
 simp only at g1 g2 g3 hA
 have hm:acc.length+1<=maxLen:=by simp only[maxLen];omega
 have hm':acc.length+1<=17592186044416:=by omega
 by_cases hi:i<cs.length
 case neg=>
  rw[List.drop_eq_nil_of_le (by omega),List.filter_nil,List.map_nil,List.append_nil] at g3
  subst g3
  have hx:1+acc.length=acc.length+1:=by omega
  have hm2:1+acc.length<=maxLen:=by simp only[maxLen];omega
  have hm3:1+acc.length<=17592186044416:=by omega
  by_cases q1:acc=[]
  ·subst q1
   by_cases q2:st<ns[ns.length -1].stamp
   ·have s_:=An @hi (An @hn0 (An @hwn (@q2)))
    exact WW
   ·have s_:=An @hi (An @hn0 (An @hwn (@q2)))
    exact WW
  ·have q3:0<acc.length:=List.length_pos_iff.2 q1
   have s_:=An @hi (An @q1 (An @q3 (An @hm2 (An @hm3 (@hx)))))
   exact WW
 rw[List.drop_eq_getElem_cons hi] at g3
 have hwi:=Zg hi (by simp only[maxLen];omega)
 have hP:=hcs _ (List.getElem_mem hi)
 have hvl:=hcl _ (List.getElem_mem hi)
 generalize hc:cs[i]=c at*
 have hv0:c.l.length -1<c.l.length:=by have:=List.length_pos_iff.2 hP.some;omega
 have hlt:=Zsk hP st hv0
 have hwv:IntKind.i64.wrap ((c.l.length:Int) -1)=((c.l.length -1:Nat):Int):=by rw[Zh (by omega) (by omega)];omega
 have hal:(acc++[c.ino]).length=acc.length+1:=by simp
 by_cases q:st<c.l[c.l.length -1].stamp
 ·rw[List.filter_cons_of_pos (by rw[hlt];simpa using q),List.map_cons] at g3
  have s_:=An @hi (An @hwi (An @hc (An @hv0 (An @hwv (An @q (An @hm (An @hm' (@ChainR.enc.eq_1))))))))
  have q1_:=λs w=>hA (i+1,acc++[c.ino]) s w ⟨hi,by simp only[hal];omega,by simpa using g3⟩ (by simp only;omega)
  exact WW
 ·rw[List.filter_cons_of_neg (by rw[hlt];simpa using q)] at g3
  have s_:=An @hi (An @hwi (An @hc (An @hv0 (An @hwv (An @q (@ChainR.enc.eq_1))))))
  have q1_:=λs w=>hA (i+1,acc) s w ⟨hi,by simp only;omega,g3⟩ (by simp only;omega)
  exact WW
theorem Zvy (l:List ChainR) (hl:l.length<=1000000):XCall Tryz.prog 298 [encL ChainR.enc l] [] (.own 0 0 0 l.length 2) [.cells 0 (l.flatMap ChainR.enc)]:=by
 refine XCall.mkE 2 (λ_=>false) Tryz.func298 rfl rfl rfl (Ent.mk Tryz.func298 (by kernel_rfl) rfl) (by simp) (by simp) (by simp) (by simp) (by simp) λhfit=> ?_
 simp at hfit
 simp[Tryz.f298]
 rw[if_pos (by simp only[maxLen];omega)]
 simp
 intro h0
 subst h0
 simp
theorem Zsm (l:List ChainR) (i:Nat) (x:ChainR) (hi:i<=l.length) (hl:l.length<=1000000):XCall Tryz.prog 299 [.own 0 0 0 l.length 2,I i,.sl true 1 x.enc] [.cells 0 (l.flatMap ChainR.enc)] (.own 0 1 0 (l.length+1) 2) [.cells 1 ((insL l i x).flatMap ChainR.enc)]:=by
 by_cases hi2:i=l.length
 case pos=>
  subst hi2
  refine XCall.mkG (λs (_:Unit)=>s) (λ_=>false) Tryz.func299 rfl rfl rfl (Ent.mk Tryz.func299 (by kernel_rfl) rfl) (by simp) (by simp) (by simp) (by simp) (by simp) λhfit=> ?_
  refine⟨WkE.one _ _,λ_=> ?_⟩
  simp[Tryz.f299]
  rw[if_pos (by simp only[maxLen];omega)]
  simp
  exact⟨_,Wk.refl _ _,by simp[ZdV]⟩
 have hi3:i<l.length:=by omega
 have hcp:∀cap,l.length<=cap->(l.length*2+(cap*2 -l.length*2))/2=cap:=λcap h=>by omega
 have hw1:IntKind.i64.wrap ((l.length:Int)+1)=((l.length+1:Nat):Int):=by rw[Zh (by omega) (by omega)];omega
 have hw2:IntKind.i64.wrap ((i:Int)+1)=((i+1:Nat):Int):=by rw[Zh (by omega) (by omega)];omega
 have hw3:IntKind.i64.wrap ((l.length:Int)+1 -i)=((l.length+1 -i:Nat):Int):=by rw[Zh (by omega) (by omega)];omega
 have hw4:((i:Int)+((l.length+1 -i:Nat):Int)).toNat=l.length+1:=by omega
 have hm1:min 1 (l.length+1 -i)=1:=by omega
 have hm2:∀cap,l.length<=cap->min (i*2) (l.length*2+(cap*2 -l.length*2))=i*2:=λcap h=>by omega
 have hov:∀(lb:Nat) (h:Za) (y:ABlk) (Q:AV->Za->Prop),h[0]? =some y->(blkCells y).map (·.1)=some 0->Q (B false) h->AInv Tryz.prog (.fn 325 []) [.sl true 1 x.enc,.own 0 0 (i+1) lb 2] h Q:=λlb h y Q hy hv hq=>
  Zbz Tryz.func325 (by kernel_rfl) rfl (by kernel_rfl) rfl rfl (by kernel_rfl) (k:=2) (by kernel_rfl) true 1 _ _ 0 0 (i+1) lb hy hv (by omega) Q hq
 refine XCall.mkG (λs (cap:{cap:Nat//l.length<=cap/\cap<=maxLen})=>Zcl s 0 0 2 (l.flatMap ChainR.enc) cap.1) (λ_=>false) Tryz.func299 rfl rfl rfl (Ent.mk Tryz.func299 (by kernel_rfl) rfl) (by simp) (by simp) (by simp) (by simp) (by simp) λhfit=> ?_
 refine⟨WkE.full (t:=0) (by simp) (by simp) (by omega) (by simp),?_⟩
 rintro⟨cap,hc1,hc2⟩
 have hcp1:=hcp cap hc1
 have hm3:=hm2 cap hc1
 have hi4:¬i=l.length:=by omega
 have hle:i<=l.length:=by omega
 generalize hA:List.replicate (cap*2 -l.length*2) AV.any=A
 have hAl:A.length=cap*2 -l.length*2:=by rw[<-hA];simp
 have hLl:(l.flatMap ChainR.enc).length=l.length*2:=ZiO l
 have hta:(l.flatMap ChainR.enc++A).take (i*2)=(l.flatMap ChainR.enc).take (i*2):=List.take_append_of_le_length (by rw[hLl];omega)
 have hdr:(l.flatMap ChainR.enc).drop (i*2)=(l.drop i).flatMap ChainR.enc:=Zlm l i
 have hq0:(l.flatMap ChainR.enc++A).drop (i*2)=(l.drop i).flatMap ChainR.enc++A:=by rw[List.drop_append_of_le_length (by rw[hLl];omega),hdr]
 have hdl:((l.drop i).flatMap ChainR.enc).length=l.length*2 -i*2:=by rw[ZiO,List.length_drop];omega
 by_cases hr:l.length+1<=cap
 ·have hm4:min (l.length+1 -i) (l.length -i)=l.length -i:=by omega
  have hm5:min ((l.length+1 -i)*2) ((l.length -i)*2+(cap*2 -l.length*2))=(l.length+1 -i)*2:=by omega
  have hm6:min ((l.length+1 -i)*2) (l.length*2+(cap*2 -l.length*2) -i*2)=(l.length+1 -i)*2:=by omega
  have hq1:List.take ((l.length -i)*2) (List.take ((l.length+1 -i)*2) ((l.drop i).flatMap ChainR.enc++A))=(l.drop i).flatMap ChainR.enc:=by
   rw[List.take_take,Nat.min_eq_left (by omega),List.take_left' (by rw[hdl];omega)]
  have hq2:(putAt (l.flatMap ChainR.enc++A) ((i+1)*2) ((l.drop i).flatMap ChainR.enc)).length=cap*2:=by
   rw[ZE (by rw[List.length_append,hLl,hAl,hdl];omega),List.length_append,hLl,hAl];omega
  have hq3:(putAt (putAt (l.flatMap ChainR.enc++A) ((i+1)*2) ((l.drop i).flatMap ChainR.enc)) (i*2) x.enc).take ((l.length+1)*2)=(insL l i x).flatMap ChainR.enc:=by
   have:=ZdT (L:=l.flatMap ChainR.enc) (A:=A) (X:=x.enc) (a:=i*2) (k:=2) hLl (by omega) rfl (by rw[hAl];omega)
   rw[ZiS,hq0,List.take_left' (by rw[hdl])] at this
   rw[show(i+1)*2=i*2+2 by omega,show(l.length+1)*2=l.length*2+2 by omega]
   exact this
  have hone:∀y∈(l.drop i).flatMap ChainR.enc,Zy y=true:=List.all_eq_true.1 (ZiN _)
  simp[Tryz.f299,Zcl,hA]
  have s_:=An @hcp1 (An @hw1 (An @hw2 (An @hw3 (An @hw4 (An @hm1 (An @hm3 (An @hm4 (An @hq0 (An @hq1 (An @hq2 (An @hi3 (An @hi4 (An @hle (@hr))))))))))))))
  try simp[s_]
  repeat' ((first|((first|refine Tp ?_|refine Tn ?_|refine T2 ?_ ?_)<;>intro h_ e_ n_)|(refine hov _ _ _ _ rfl rfl ?_;simp)|(refine optBif ⟨rfl,by rw[List.length_append,hLl,hAl];omega,by rw[List.length_take,List.length_append,hdl,hAl];omega,by rw[hm4,hq1];exact hone⟩ ?_;simp)|refine Dg 11 9 [] [] ?_|refine Dg 15 9 [] [] ?_|rw[Ip]|rw[In]|rw[Fz]|rw[Gz]|fail)<;>first|simp[e_,n_,s_]|simp[s_]|skip)
  exact⟨_,Wk.trans (Wk.prefix 0 0 ((l.length+1)*2) rfl rfl) (Wk.bump 6 0 0 0 (l.length+1) 2 (by simp) rfl),by simp[hq3]⟩
 ·have hm5:min ((l.length -i)*2) ((l.length -i)*2+(cap*2 -l.length*2))=(l.length -i)*2:=by omega
  have hq1:List.take ((l.length -i)*2) (List.take ((l.length -i)*2) ((l.drop i).flatMap ChainR.enc++A))=(l.drop i).flatMap ChainR.enc:=by
   rw[List.take_take,Nat.min_self,List.take_left' (by rw[hdl];omega)]
  have hq4:List.take ((l.length -i)*2) ((l.drop i).flatMap ChainR.enc)=(l.drop i).flatMap ChainR.enc:=List.take_of_length_le (by rw[hdl];omega)
  have hone:∀y∈(l.drop i).flatMap ChainR.enc,Zy y=true:=List.all_eq_true.1 (ZiN _)
  simp[Tryz.f299,Zcl,hA]
  generalize hZ:(List.replicate (l.length+1 -i) [AV.val (Value.int IntKind.i64 0),AV.sl true 0 []]).flatten=Z
  have hZl:Z.length=(l.length+1 -i)*2:=by rw[<-hZ];simp
  have hta':((l.flatMap ChainR.enc).take (i*2)).length=i*2:=by rw[List.length_take,hLl];omega
  have hq2:(putAt ((l.flatMap ChainR.enc).take (i*2)++Z) (i*2) x.enc).length=(l.length+1)*2:=by
   rw[ZE (by rw[List.length_append,hta',hZl,Znc];omega),List.length_append,hta',hZl];omega
  have hq3:putAt (putAt ((l.flatMap ChainR.enc).take (i*2)++Z) (i*2) x.enc) ((i+1)*2) ((l.drop i).flatMap ChainR.enc)=(insL l i x).flatMap ChainR.enc:=by
   have:=ZdU (L:=l.flatMap ChainR.enc) (A:=A) (X:=x.enc) (Z:=Z) (a:=i*2) (k:=2) hLl (by omega) rfl (by rw[hZl];omega)
   rw[ZiS,hta,hq0,List.take_left' (by rw[hdl])] at this
   rw[show(i+1)*2=i*2+2 by omega]
   exact this
  have s_:=An @hcp1 (An @hw1 (An @hw2 (An @hw3 (An @hw4 (An @hm1 (An @hm3 (An @hq0 (An @hq1 (An @hq4 (An @hta (An @hZ (An @hi3 (An @hi4 (An @hle (@hr)))))))))))))))
  try simp[s_]
  repeat' ((first|((first|refine Tp ?_|refine Tn ?_|refine T2 ?_ ?_)<;>intro h_ e_ n_)|(refine optBif ⟨by rw[hq2];omega,hone⟩ ?_;simp)|refine Dg 11 9 [] [] ?_|refine Dg 15 9 [] [] ?_|rw[Ip]|rw[In]|rw[Fz]|rw[Gz]|fail)<;>first|simp[e_,n_,s_]|simp[s_]|skip)
  exact⟨_,Wk.move 6 0 1 0 0 (l.length+1) 2 (by decide) (by simp;omega) rfl rfl rfl,by simp[hq3]⟩
theorem _root_.Go.Cx.XCall.soft {P:Program} {f:FuncId} {args args':List AV} {h0 h1:Za} {v:AV} (h:XCall P f args' h0 v h1) (ha:args.all (refsLt h0.length)=true) (hs:∀Z w κ cs,Rs Z w κ args cs->Rs Z w κ args' cs):XCall P f args h0 v h1:=
 ⟨ha,h.heap,h.val,h.len,h.heap1,⟨h.call.1,λZ κ w cargs r hr=>h.call.2 Z κ w cargs r (hs Z w κ cargs hr)⟩⟩
theorem insH_ok (l:List ChainR) (i:Nat) (ino:Int) (v:VerR) (hi:i<=l.length) (hl:l.length<=1000000):XCall Tryz.prog 299 [.own 0 0 0 l.length 2,I i,.sl true 1 [I ino,.sl true 1 v.enc]] [.cells 0 (l.flatMap ChainR.enc)] (.own 0 1 0 (l.length+1) 2) [.cells 1 ((insL l i ⟨ino,[v]⟩).flatMap ChainR.enc)]:=by
 refine(Zsm l i ⟨ino,[v]⟩ hi hl).soft (by simp) λZ w κ cs h=> ?_
 cases h with
 |cons a h=>
  cases h with
  |cons b h=>
   cases h with
   |cons c h=>
    cases h
    refine .cons a (.cons b (.cons ?_ .nil))
    cases c with
    |sl h0 h1 h2 h3 h4 h5 h6=>
     cases h6 with
     |cons x y=>
      cases y with
      |cons y z=>
       cases z
       exact .sl h0 h1 h2 h3 h4 h5 (.cons x (.cons (by simpa[encL] using y.loose) .nil))
theorem Zym {l:List ChainR} {i:Nat} (hi:i<l.length) (h:i*2<(l.flatMap ChainR.enc).length):(l.flatMap ChainR.enc)[i*2]=I l[i].ino:=by
 have h0:=Zfj hi
 have h1:=congrArg (λx=>x[0]?) h0
 rw[List.getElem?_take_of_lt (by omega),List.getElem?_drop,Nat.add_zero,List.getElem?_eq_getElem h] at h1
 simpa[ChainR.enc] using h1
theorem chl_at {l:List ChainR} {i:Nat} (hi:i<l.length):(l.flatMap ChainR.enc)[i*2+1]? =some (encL VerR.enc l[i].l):=by
 have h0:=Zfj hi
 have h1:=congrArg (λx=>x[1]?) h0
 rw[List.getElem?_take_of_lt (by omega),List.getElem?_drop] at h1
 simpa[ChainR.enc] using h1
theorem ZpT {h:Za} {f:Nat} {x x':AV} (hx:frz h 0 (f+1) x=some x'):∀{cs:List AV} {j:Nat},cs.all neat=true->j<cs.length->frzs h 0 (f+1) (cs.set j x)=some (cs.set j x')
 |[],j,_,hj=>by simp at hj
 |c::cs,0,hc,_=>by
  rw[List.all_cons,Bool.and_eq_true] at hc
  rw[List.set_cons_zero,Zlc,hx,ZbG hc.2];rfl
 |c::cs,j+1,hc,hj=>by
  rw[List.all_cons,Bool.and_eq_true] at hc
  rw[List.set_cons_succ,Zlc,Zcp _ _ _ hc.1,ZpT hx hc.2 (by simpa using hj)];rfl
theorem frzOwn_set {h:Za} {f ver m k j:Nat} {cs:List AV} {x x':AV} (hc:cs.all neat=true) (hl:cs.length=m*k) (hj:j<cs.length) (hm:m≠0) (hx:frz h 0 (f+1) x=some x'):
  Zgo h (f+1) ver 0 m k (some (.cells ver (cs.set j x)))=some (.sl false m (cs.set j x')):=by
 have hl':(cs.set j x).length=m*k:=by simpa using hl
 simp only[Zgo,true_and,Nat.zero_add,Nat.zero_mul,List.drop_zero]
 rw[if_pos (by omega),if_neg hm,List.take_of_length_le (by omega),ZpT hx hc hj];rfl
theorem Zmt:∀{l:List ChainR} {i:Nat} (hi:i<l.length) (y:List VerR),(l.flatMap ChainR.enc).set (i*2+1) (encL VerR.enc y)=(l.set i ⟨l[i].ino,y⟩).flatMap ChainR.enc
 |[],i,hi,_=>by simp at hi
 |c::l,0,_,y=>by simp[ChainR.enc]
 |c::l,i+1,hi,y=>by
  have ih:=Zmt (l:=l) (i:=i) (by simpa using hi) y
  have e:(i+1)*2+1=(i*2+1)+1+1:=by omega
  rw[e]
  simp only[List.flatMap_cons,ChainR.enc,List.cons_append,List.nil_append,List.set_cons_succ,List.getElem_cons_succ] at ih⊢
  rw[ih]
theorem ZjI {ino:Int} {v:VerR}:∀{l:List ChainR} {i:Nat},i<=l.length->(∀(j:Nat) (h:j<l.length),j<i->l[j].ino<ino)->withS l ino v=l.take i++withS (l.drop i) ino v
 |l,0,_,_=>by simp
 |[],i+1,h,_=>by simp at h
 |c::l,i+1,h,hj=>by
  have h0:=hj 0 (by simp) (by omega)
  simp only[List.getElem_cons_zero] at h0
  have ih:=ZjI (ino:=ino) (v:=v) (l:=l) (i:=i) (by simpa using h) λj h hji=>by
   have:=hj (j+1) (by simpa using h) (by omega)
   simpa using this
  rw[withS,if_neg (by omega),if_neg (by omega),ih]
  simp
theorem Zvz {l:List VerR} {v:VerR} (hr:l.Pairwise λa b=>a.stamp<b.stamp) (hm:∀x∈l,x.stamp<=v.stamp) (hl:l.length -1<l.length):addV l v=(if l[l.length -1].stamp=v.stamp then l.take (l.length -1) else l)++[v]:=by
 have hp:=List.pairwise_iff_getElem.1 hr
 unfold addV
 congr 1
 have hlt:∀(j:Nat) (h:j<l.length),j<l.length -1->l[j].stamp<v.stamp:=λj h hj=>by
  have h1:=hp j (l.length -1) h hl hj
  have h2:=hm _ (List.getElem_mem hl)
  omega
 have e:l=l.take (l.length -1)++[l[l.length -1]]:=by
  rw[<-List.take_succ_eq_append_getElem hl,List.take_of_length_le (by omega)]
 have hk:(l.take (l.length -1)).filter (λx=> !decide (x.stamp=v.stamp))=l.take (l.length -1):=List.filter_eq_self.2 λx hx=>by
  obtain⟨j,hj,rfl⟩:=List.getElem_of_mem hx
  rw[List.length_take] at hj
  rw[List.getElem_take]
  have:=hlt j (by omega) (by omega)
  simp;omega
 by_cases q:l[l.length -1].stamp=v.stamp
 ·rw[if_pos q]
  conv=>lhs;rw[e]
  rw[List.filter_append,hk,List.filter_cons_of_neg (by simpa using q)]
  simp
 ·rw[if_neg q]
  conv=>lhs;rw[e]
  rw[List.filter_append,hk,List.filter_cons_of_pos (by simpa using q)]
  exact e.symm
theorem Zsn (l:List ChainR) (ino:Int) (v:VerR) (hl:l.length<=500000) (hc:∀c∈l,c.l≠[]/\c.l.length<=2000000/\(c.l.Pairwise λa b=>a.stamp<b.stamp)/\∀x∈c.l,x.stamp<=v.stamp):Zb Tryz.prog 241 [encL ChainR.enc l,I ino,.agg v.enc] (encL ChainR.enc (withS l ino v)):=by
 have hcl:=Zvy l (by omega)
 refine Pm Tryz.func241 λhfit=> ?_
 have d1_:=D0 8 10 [] []
 have d2_:=D0 10 13 [] []
 simp[Tryz.f241]
 refine AW.scopeG (lit:=λ_=>false) 0 (λ_:Unit=>⟨0,λ_=> .any,[]⟩) (λ_=>0) (λ_=>False) rfl (λA _=> ?_) (λx h=>h.elim)
 simp
 try simp
 repeat' ((first|((first|refine Tp ?_|refine Tn ?_|refine T2 ?_ ?_)<;>intro h_ e_ n_)|(refine AInv.fresh [] hcl (by simp) (by simp) ?_;simp)|refine Dg 8 10 [] [] ?_|refine Dg 10 13 [] [] ?_|rw[Ip]|rw[In]|rw[Fz]|rw[Gz]|fail)<;>first|simp[e_,n_]|simp|skip)
 refine AW.loopG (lit:=λ_=>false) (λi:Nat=>⟨75,pat [(0,.own 1 0 0 l.length 2),(1,I ino),(5,.ptr 0 0 0),(7,I i)],[.cells 0 v.enc,.cells 0 (l.flatMap ChainR.enc)]⟩) (λi=>l.length -i) (λi=>i<=l.length/\∀(j:Nat) (h:j<l.length),j<i->l[j].ino<ino) 0 ?_ ?_ ?_
 ·exact Wa
 ·exact⟨by simp,λj h hj=>by omega⟩
 rintro i ⟨g1,g2⟩ B hB
 have hsk:=ZjI (v:=v) g1 g2
 have hins:=insH_ok l i ino v g1 (by omega)
 by_cases hi:i<l.length
 case neg=>
  have e:withS l ino v=insL l i ⟨ino,[v]⟩:=by
   rw[hsk,List.drop_eq_nil_of_le (by omega)]
   simp[withS,insL,List.drop_eq_nil_of_le (show l.length<=i by omega)]
  rw[e]
  have s_:=hi
  have f1_:=F0 [1] hins
  exact WW
 have hwi:=Zg hi (by simp only[maxLen];omega)
 have hcc:=hc l[i] (List.getElem_mem hi)
 have a0:=Zym hi
 have a1:=chl_at hi
 rw[List.drop_eq_getElem_cons hi,withS] at hsk
 by_cases q1:ino<l[i].ino
 ·rw[if_pos q1] at hsk
  have e:withS l ino v=insL l i ⟨ino,[v]⟩:=by
   rw[hsk,insL,List.drop_eq_getElem_cons hi]
  rw[e]
  have s_:=An @hi (An @q1 (@a0))
  have f1_:=F0 [1] hins
  exact WW
 rw[if_neg q1] at hsk
 by_cases q2:l[i].ino<ino
 ·have g3:∀(j:Nat) (h:j<l.length),j<i+1->l[j].ino<ino:=λj h hj=>by
   rcases Nat.lt_or_ge j i with g|g
   ·exact g2 j h g
   ·have:j=i:=by omega
    subst this;exact q2
  have s_:=An @hi (An @q1 (An @q2 (An @hwi (@a0))))
  have q1_:=λs w=>hB (i+1) s w ⟨hi,g3⟩ (by omega)
  exact WW
 have q3:l[i].ino=ino:=by omega
 rw[if_pos q3] at hsk
 obtain⟨c1,c2,c3,c4⟩:=hcc
 have hv0:l[i].l.length -1<l[i].l.length:=by have:=List.length_pos_iff.2 c1;omega
 have hav:=Zvz c3 c4 hv0
 have hwv:IntKind.i64.wrap ((l[i].l.length:Int) -1)=((l[i].l.length -1:Nat):Int):=by rw[Zh (by omega) (by omega)];omega
 have hset:withS l ino v=l.set i ⟨l[i].ino,addV l[i].l v⟩:=by
  rw[hsk,List.set_eq_take_append_cons_drop,if_pos hi,q3]
 have hcs:=Zmt hi (addV l[i].l v)
 rw[<-hset] at hcs
 have hlen:(withS l ino v).length=l.length:=by rw[hset];simp
 generalize withS l ino v=W at*
 clear hset hsk
 generalize hci:l[i]=c at*
 have b1:(c.l.length -1+1)*80<=140737488355328:=by omega
 have b2:c.l.length -1+1<=maxLen:=by simp only[maxLen];omega
 have b3:(c.l.length+1)*80<=140737488355328:=by omega
 have b4:c.l.length+1<=maxLen:=by simp only[maxLen];omega
 have z1:(c.l.take (c.l.length -1)).length=c.l.length -1:=by simp
 by_cases q4:c.l[c.l.length -1].stamp=v.stamp
 ·rw[if_pos q4] at hav
  have s_:=An @hi (An @q1 (An @q2 (An @hci (An @hv0 (An @hwv (An @q4 (An @a0 (An @a1 (An @b1 (@b2))))))))))
  try simp[s_]
  repeat' ((first|((first|refine Tp ?_|refine Tn ?_|refine T2 ?_ ?_)<;>intro h_ e_ n_)|(rw[frzOwn_set (x':=encL VerR.enc (addV c.l v)) (by simp) (by simp) (by simp;omega) (by omega) (by simp[ZqA];rw[Fz];simp[hav,encL,List.take_take])];simp[hcs,hlen,encL])|refine Dg 8 10 [] [] ?_|refine Dg 10 13 [] [] ?_|rw[Ip]|rw[In]|rw[Fz]|rw[Gz]|fail)<;>first|simp[e_,n_,s_]|simp[s_]|skip)
 ·rw[if_neg q4] at hav
  have s_:=An @hi (An @q1 (An @q2 (An @hci (An @hv0 (An @hwv (An @q4 (An @a0 (An @a1 (An @b3 (@b4))))))))))
  try simp[s_]
  repeat' ((first|((first|refine Tp ?_|refine Tn ?_|refine T2 ?_ ?_)<;>intro h_ e_ n_)|(rw[frzOwn_set (x':=encL VerR.enc (addV c.l v)) (by simp) (by simp) (by simp;omega) (by omega) (by simp;rw[Fz];simp[hav,encL])];simp[hcs,hlen,encL])|refine Dg 8 10 [] [] ?_|refine Dg 10 13 [] [] ?_|rw[Ip]|rw[In]|rw[Fz]|rw[Gz]|fail)<;>first|simp[e_,n_,s_]|simp[s_]|skip)
theorem Zso {st:Int} {l:List ChangeR} {cs:List ChainR} {i:Nat} (hi:i<l.length):(l.take (i+1)).foldl (Zaq st) cs=withS ((l.take i).foldl (Zaq st) cs) l[i].ino (Zes st l[i]):=by
 rw[List.take_succ_eq_append_getElem hi,List.foldl_append];rfl
theorem Zsp (s:StoreR) (l:List ChangeR) (next:Int) (B:Nat) (hm:Mid s.l (s.stamp+1) B) (hB:B+l.length<=500000) (hs:s.stamp<9223372036854775807) (h0:0<=s.stamp) (hn:s.nexts≠[]) (hnl:s.nexts.length<=2000000):Zb Tryz.prog 210 [.agg s.enc,encL ChangeR.enc l,I next] (.agg (installS s l next).enc):=by
 obtain⟨cs,ns,stamp⟩:=s
 simp only at hm hs h0 hn hnl
 unfold installS
 simp only
 obtain⟨st,hS⟩:∃st,stamp+1=st:=⟨_,rfl⟩
 have hw:IntKind.i64.wrap (stamp+1)=st:=by rw[Zh (by omega) (by omega),hS]
 simp only[hS] at hm⊢
 have hlast:ns.length -1<ns.length:=by have:=List.length_pos_iff.2 hn;omega
 have hln:=ZnG hlast
 have hwn:IntKind.i64.wrap ((ns.length:Int) -1)=((ns.length -1:Nat):Int):=by rw[Zh (by omega) (by omega)];omega
 have hb1:(ns.length+1)*16<=140737488355328:=by omega
 have hb2:ns.length+1<=maxLen:=by simp only[maxLen];omega
 have hfold:∀i,i<=l.length->Mid ((l.take i).foldl (Zaq st) cs) st (B+l.length):=λi hi=>by
  have:=hm.fold (l.take i)
  rw[List.length_take,Nat.min_eq_left hi] at this
  exact⟨this.rise,this.some,this.vrise,this.le,by have:=this.len;omega,λc hc=>by have:=this.vlen c hc;omega⟩
 have hend:(l.take l.length).foldl (Zaq st) cs=l.foldl (Zaq st) cs:=by rw[List.take_length]
 have hstep:=fun(i:Nat) (hi:i<l.length)=>Zso (st:=st) (cs:=cs) hi
 generalize hF:(λi:Nat=>(l.take i).foldl (Zaq st) cs)=F at*
 have hF':∀i,(l.take i).foldl (Zaq st) cs=F i:=λi=>by rw[<-hF]
 simp only[hF'] at hfold hend hstep
 rw[<-hend]
 clear hend
 have hfst:cs=F 0:=by rw[<-hF' 0];rfl
 rw[hfst]
 clear hfst
 generalize lastNext ns=ln at*
 refine Pm Tryz.func210 λhfit=> ?_
 have d1_:=D0 13 13 [] []
 simp[Tryz.f210,StoreR.enc]
 refine AW.loopG (lit:=λ_=>false) (λi:Nat=>⟨69,pat [(2,I next),(3,.ptr 0 0 0),(6,.ptr 1 0 0),(15,encL ChangeR.enc l),(16,I l.length),(17,I i)],[.cells 0 [encL ChainR.enc (F i),encL CountR.enc ns,I st],.cells 0 [.sl true 0 [],.sl true 0 [],I 0]]⟩) (λi=>l.length -i) (λi=>i<=l.length) 0 ?_ ?_ ?_
 ·exact Wk.at _ rfl (by simp;exact hw) (by simp)
 ·simp
 rintro i g1 A hA
 by_cases hi:i<l.length
 case neg=>
  have e:i=l.length:=by omega
  subst e
  by_cases q:ln<next
  ·have s_:=An @hi (An @hlast (An @hwn (An @hln (An @q (An @hb1 (An @hb2 (@CountR.enc.eq_1)))))))
   exact WW
  ·have s_:=An @hi (An @hlast (An @hwn (An @hln (An @q (@CountR.enc.eq_1)))))
   exact WW
 have hwi:=Zg hi (by simp only[maxLen];omega)
 have hf:=hfold i (by omega)
 have hch:=Zsn (F i) l[i].ino (Zes st l[i]) (by have:=hf.len;omega) λc hc=>⟨hf.some c hc,by have:=hf.vlen c hc;omega,hf.vrise c hc,by simpa[ZnF] using hf.le c hc⟩
 rw[<-hstep i hi] at hch
 generalize hc:l[i]=c at*
 cases hg:c.gone with
 |true=>
  rw[Zes,if_pos hg,hg] at hch
  have s_:=An @hi (An @hwi (An @hc (An @hg (An @ChangeR.enc.eq_1 (An @VerR.enc.eq_1 (An @NodeR.zero.eq_1 (@NodeR.enc.eq_1)))))))
  have q1_:=λs w=>hA (i+1) s w hi (by omega)
  have p1_:=hch
  exact WW
 |false=>
  rw[Zes,if_neg (by simp[hg]),hg] at hch
  have s_:=An @hi (An @hwi (An @hc (An @hg (An @ChangeR.enc.eq_1 (An @VerR.enc.eq_1 (@NodeR.enc.eq_1))))))
  have q1_:=λs w=>hA (i+1) s w hi (by omega)
  have p1_:=hch
  exact WW
noncomputable def Zik (last:Int) (c:ChainR):Bool:= @decide (Zey last c) (Classical.propDecidable _)
theorem Zgk {last:Int} {c:ChainR}:Zik last c=true↔Zey last c:=by simp[Zik]
theorem ZdJ {last:Int} {c:ChainR} (h:¬Zey last c):Zik last c=false:=by simp[Zik,h]
noncomputable def storeB (s:StoreR):Bool:= @decide (ZD s) (Classical.propDecidable _)
theorem Zel {s:StoreR}:storeB s=true↔ZD s:=by simp[storeB]
theorem ZbN {s:StoreR} (h:¬ZD s):storeB s=false:=by simp[storeB,h]
def verB (ino:Int) (v:VerR):Bool:=if v.gone=true then decide (v.node= .zero) else(nodeOk v.node&&decide (v.node.ino=ino))
theorem Zyn {ino:Int} {v:VerR}:verB ino v=true↔VerP ino v:=by
 unfold verB
 constructor
 ·intro h
  split at h
  ·rename_i q
   exact⟨λ_=>by simpa using h,λg=>by rw[q] at g;cases g⟩
  ·rename_i q
   simp only[Bool.and_eq_true,decide_eq_true_eq] at h
   exact⟨λg=>absurd g q,λ_=>h⟩
 ·intro h
  split
  ·rename_i q;simpa using h.gone q
  ·rename_i q;simpa using h.node (by simpa using q)
theorem Zil {α:Type} {f:α->Int}:∀{l:List α},(∀(j:Nat) (h:j+1<l.length),f l[j]<f l[j+1])->l.Pairwise λa b=>f a<f b
 |[],_=> .nil
 |a::l,h=>by
  have ih:=Zil (f:=f) (l:=l) λj hj=>by have:=h (j+1) (by simpa using hj);simpa only[List.getElem_cons_succ] using this
  refine List.pairwise_cons.2 ⟨λb hb=> ?_,ih⟩
  cases l with
  |nil=>cases hb
  |cons c l=>
   have h0:=h 0 (by simp)
   simp only[List.getElem_cons_zero,List.getElem_cons_succ] at h0
   rcases List.mem_cons.1 hb with rfl|hb
   ·exact h0
   ·have:=(List.pairwise_cons.1 ih).1 b hb;omega
theorem Zyo (c:ChainR) (last:Int):Zb Tryz.prog 80 [.agg c.enc,I last] (B (Zik last c)):=by
 by_cases q0:c.ino<1
 ·rw[ZdJ λh=>by have:=h.ino;omega]
  refine Pm Tryz.func80 λhfit=> ?_
  have d1_:=D0 9 42 [] []
  simp[Tryz.f80]
  have s_:=An @q0 (@ChainR.enc.eq_1)
  exact WW
 by_cases q1:c.l.length<1
 ·rw[ZdJ λh=>h.some (List.eq_nil_of_length_eq_zero (by omega))]
  refine Pm Tryz.func80 λhfit=> ?_
  have d1_:=D0 9 42 [] []
  simp[Tryz.f80]
  have s_:=An @q0 (An @q1 (@ChainR.enc.eq_1))
  exact WW
 obtain⟨b,hb⟩:∃b,Zik last c=b:=⟨_,rfl⟩
 rw[hb]
 refine Pm Tryz.func80 λhfit=> ?_
 have d1_:=D0 9 42 [] []
 simp[ChainR.enc] at hfit
 have hll:=hfit.1
 simp only[maxLen] at hll
 simp[Tryz.f80,ChainR.enc]
 have s_:=An @q0 (@q1)
 try simp[s_]
 repeat' ((first|((first|refine Tp ?_|refine Tn ?_|refine T2 ?_ ?_)<;>intro h_ e_ n_)|refine Dg 9 42 [] [] ?_|rw[Ip]|rw[In]|rw[Fz]|rw[Gz]|fail)<;>first|simp[e_,n_,s_]|simp[s_]|skip)
 refine AW.loopG (lit:=λ_=>false) (λi:Nat=>⟨87,pat [(1,I last),(2,.ptr 0 0 0),(5,I i)],[.cells 0 [I c.ino,encL VerR.enc c.l]]⟩) (λi=>c.l.length -i) (λi=>i<=c.l.length/\∀(j:Nat) (h:j<c.l.length),j<i->(1<=c.l[j].stamp/\c.l[j].stamp<=last)/\VerP c.ino c.l[j]/\∀p,c.l[j -1]? =some p->0<j->p.stamp<c.l[j].stamp) 0 ?_ ?_ ?_
 ·exact Wa
 ·exact⟨by simp,λj h hj=>by omega⟩
 rintro i ⟨g1,g2⟩ A hA
 by_cases hi:i<c.l.length
 case neg=>
  have e:b=true:=by
   rw[<-hb]
   refine Zgk.2 ⟨by omega,λe=>by rw[e] at q1;simp at q1,?_,λv hv=> ?_,λv hv=> ?_⟩
   ·refine Zil λj h=> ?_
    have:=(g2 (j+1) h (by omega)).2.2 c.l[j] (by simp) (by omega)
    simpa using this
   ·obtain⟨j,hj,rfl⟩:=List.getElem_of_mem hv
    exact(g2 j hj (by omega)).1
   ·obtain⟨j,hj,rfl⟩:=List.getElem_of_mem hv
    exact(g2 j hj (by omega)).2.1
  rw[e]
  have s_:=hi
  exact WW
 have hwi:=Zg hi hfit.1
 have hbad:¬((1<=c.l[i].stamp/\c.l[i].stamp<=last)/\VerP c.ino c.l[i]/\∀p,c.l[i -1]? =some p->0<i->p.stamp<c.l[i].stamp)->b=false:=λhn=>by
  rw[<-hb]
  refine ZdJ λh=>hn ⟨h.lo _ (List.getElem_mem hi),h.ver _ (List.getElem_mem hi),λp hp h0=>by
   obtain⟨h1,rfl⟩:=List.getElem?_eq_some_iff.1 hp
   exact List.pairwise_iff_getElem.1 h.rise (i -1) i h1 hi (by omega)⟩
 have hgo:((1<=c.l[i].stamp/\c.l[i].stamp<=last)/\VerP c.ino c.l[i]/\∀p,c.l[i -1]? =some p->0<i->p.stamp<c.l[i].stamp)->∀(j:Nat) (h:j<c.l.length),j<i+1->(1<=c.l[j].stamp/\c.l[j].stamp<=last)/\VerP c.ino c.l[j]/\∀p,c.l[j -1]? =some p->0<j->p.stamp<c.l[j].stamp:=λhn j h hj=>by
  rcases Nat.lt_or_ge j i with g|g
  ·exact g2 j h g
  ·have:j=i:=by omega
   subst this;exact hn
 have hR:=rnright_ok c.l[i].node
 have hZ:=rnsame_ok c.l[i].node .zero
 have hi1:i -1<c.l.length:=by omega
 have hp1:c.l[i -1]? =some c.l[i -1]:=List.getElem?_eq_getElem hi1
 have hwm:0<i->IntKind.i64.wrap ((i:Int) -1)=((i -1:Nat):Int):=λhp=>by rw[Zh (by omega) (by omega)];omega
 clear g2
 have hv:verB c.ino c.l[i]=true↔_:=Zyn
 rw[<-hv] at hbad hgo
 clear hv
 unfold verB at hbad hgo
 generalize hck:c.l[i -1]=p at*
 generalize hci:c.l[i]=v at*
 generalize hn1:nodeOk v.node=ok at*
 generalize hn2:decide (v.node=NodeR.zero)=zr at*
 by_cases q2:v.stamp<1
 ·rw[hbad λh=>by have:=h.1;omega]
  have s_:=An @hi (An @hci (An @q2 (An @VerR.enc.eq_1 (An @NodeR.enc.eq_1 (@NodeR.zero.eq_1)))))
  have p1_:=hR
  have p2_:=hZ
  exact WW
 by_cases q3:last<v.stamp
 ·rw[hbad λh=>by have:=h.1;omega]
  have s_:=An @hi (An @hci (An @q2 (An @q3 (An @VerR.enc.eq_1 (An @NodeR.enc.eq_1 (@NodeR.zero.eq_1))))))
  have p1_:=hR
  have p2_:=hZ
  exact WW
 by_cases q4:0<i/\v.stamp<=p.stamp
 ·rw[hbad λh=>by have:=h.2.2 p hp1 q4.1;omega]
  have q5:=q4.1
  have q6:=q4.2
  have hwm:=hwm q5
  have s_:=An @hi (An @hci (An @hck (An @q2 (An @q3 (An @q5 (An @q6 (An @hwm (An @hi1 (An @VerR.enc.eq_1 (An @NodeR.enc.eq_1 (@NodeR.zero.eq_1)))))))))))
  have p1_:=hR
  have p2_:=hZ
  exact WW
 have q7:∀p',c.l[i -1]? =some p'->0<i->p'.stamp<v.stamp:=λp' e h0=>by
  rw[hp1] at e
  cases e
  omega
 have q8:0<i->¬v.stamp<=p.stamp:=λh0=>by omega
 cases hg:v.gone with
 |true=>
  rw[hg,if_pos rfl] at hbad hgo
  cases zr with
  |false=>
   rw[hbad λh=>by have:=h.2.1;simp at this]
   by_cases q5:0<i
   ·have hwm:=hwm q5
    have q8:=q8 q5
    have s_:=An @hi (An @hci (An @hck (An @q2 (An @q3 (An @q5 (An @q8 (An @hwm (An @hi1 (An @hg (An @VerR.enc.eq_1 (An @NodeR.enc.eq_1 (@NodeR.zero.eq_1))))))))))))
    have p1_:=hR
    have p2_:=hZ
    exact WW
   ·have s_:=An @hi (An @hci (An @q2 (An @q3 (An @q5 (An @hg (An @VerR.enc.eq_1 (An @NodeR.enc.eq_1 (@NodeR.zero.eq_1))))))))
    have p1_:=hR
    have p2_:=hZ
    exact WW
  |true=>
   have hgo:=hgo ⟨by omega,rfl,q7⟩
   by_cases q5:0<i
   ·have hwm:=hwm q5
    have q8:=q8 q5
    have s_:=An @hi (An @hci (An @hck (An @q2 (An @q3 (An @q5 (An @q8 (An @hwm (An @hwi (An @hi1 (An @hg (An @VerR.enc.eq_1 (An @NodeR.enc.eq_1 (@NodeR.zero.eq_1)))))))))))))
    have q1_:=λs w=>hA (i+1) s w ⟨hi,hgo⟩ (by omega)
    have p1_:=hR
    have p2_:=hZ
    exact WW
   ·have s_:=An @hi (An @hci (An @q2 (An @q3 (An @q5 (An @hwi (An @hg (An @VerR.enc.eq_1 (An @NodeR.enc.eq_1 (@NodeR.zero.eq_1)))))))))
    have q1_:=λs w=>hA (i+1) s w ⟨hi,hgo⟩ (by omega)
    have p1_:=hR
    have p2_:=hZ
    exact WW
 |false=>
  rw[hg,if_neg (by simp)] at hbad hgo
  by_cases q9:ok=true/\v.node.ino=c.ino
  case neg=>
   rw[hbad λh=>q9 (by simpa using h.2.1)]
   cases ok with
   |false=>
    by_cases q5:0<i
    ·have hwm:=hwm q5
     have q8:=q8 q5
     have s_:=An @hi (An @hci (An @hck (An @q2 (An @q3 (An @q5 (An @q8 (An @hwm (An @hi1 (An @hg (An @VerR.enc.eq_1 (An @NodeR.enc.eq_1 (@NodeR.zero.eq_1))))))))))))
     have p1_:=hR
     have p2_:=hZ
     exact WW
    ·have s_:=An @hi (An @hci (An @q2 (An @q3 (An @q5 (An @hg (An @VerR.enc.eq_1 (An @NodeR.enc.eq_1 (@NodeR.zero.eq_1))))))))
     have p1_:=hR
     have p2_:=hZ
     exact WW
   |true=>
    have q9:¬v.node.ino=c.ino:=λe=>q9 ⟨rfl,e⟩
    by_cases q5:0<i
    ·have hwm:=hwm q5
     have q8:=q8 q5
     have s_:=An @hi (An @hci (An @hck (An @q2 (An @q3 (An @q5 (An @q8 (An @hwm (An @hi1 (An @hg (An @q9 (An @VerR.enc.eq_1 (An @NodeR.enc.eq_1 (@NodeR.zero.eq_1)))))))))))))
     have p1_:=hR
     have p2_:=hZ
     exact WW
    ·have s_:=An @hi (An @hci (An @q2 (An @q3 (An @q5 (An @hg (An @q9 (An @VerR.enc.eq_1 (An @NodeR.enc.eq_1 (@NodeR.zero.eq_1)))))))))
     have p1_:=hR
     have p2_:=hZ
     exact WW
  obtain⟨rfl,q9⟩:=q9
  have hgo:=hgo ⟨by omega,by simp[q9],q7⟩
  by_cases q5:0<i
  ·have hwm:=hwm q5
   have q8:=q8 q5
   have s_:=An @hi (An @hci (An @hck (An @q2 (An @q3 (An @q5 (An @q8 (An @hwm (An @hwi (An @hi1 (An @hg (An @q9 (An @VerR.enc.eq_1 (An @NodeR.enc.eq_1 (@NodeR.zero.eq_1))))))))))))))
   have q1_:=λs w=>hA (i+1) s w ⟨hi,hgo⟩ (by omega)
   have p1_:=hR
   have p2_:=hZ
   exact WW
  ·have s_:=An @hi (An @hci (An @q2 (An @q3 (An @q5 (An @hwi (An @hg (An @q9 (An @VerR.enc.eq_1 (An @NodeR.enc.eq_1 (@NodeR.zero.eq_1))))))))))
   have q1_:=λs w=>hA (i+1) s w ⟨hi,hgo⟩ (by omega)
   have p1_:=hR
   have p2_:=hZ
   exact WW
theorem Zim (s:StoreR):Zb Tryz.prog 40 [.agg s.enc] (B (storeB s)):=by
 by_cases q0:s.stamp<1
 ·rw[ZbN λh=>by have:=h.stamp;omega]
  refine Pm Tryz.func40 λhfit=> ?_
  have d1_:=D0 6 9 [] []
  have d2_:=D0 7 22 [] []
  have d3_:=D0 13 31 [] []
  simp[Tryz.f40]
  have s_:=An @q0 (@StoreR.enc.eq_1)
  exact WW
 by_cases q1:s.nexts.length<1
 ·rw[ZbN λh=>h.some (List.eq_nil_of_length_eq_zero (by omega))]
  refine Pm Tryz.func40 λhfit=> ?_
  have d1_:=D0 6 9 [] []
  have d2_:=D0 7 22 [] []
  have d3_:=D0 13 31 [] []
  simp[Tryz.f40]
  have s_:=An @q0 (An @q1 (@StoreR.enc.eq_1))
  exact WW
 obtain⟨b,hb⟩:∃b,storeB s=b:=⟨_,rfl⟩
 rw[hb]
 refine Pm Tryz.func40 λhfit=> ?_
 have d1_:=D0 6 9 [] []
 have d2_:=D0 7 22 [] []
 have d3_:=D0 13 31 [] []
 simp[StoreR.enc] at hfit
 have hl1:=hfit.1.1
 have hl2:=hfit.2.1
 have hm1:=hl1
 have hm2:=hl2
 simp only[maxLen] at hm1 hm2
 simp[Tryz.f40,StoreR.enc]
 have s_:=An @q0 (@q1)
 try simp[s_]
 repeat' ((first|((first|refine Tp ?_|refine Tn ?_|refine T2 ?_ ?_)<;>intro h_ e_ n_)|refine Dg 6 9 [] [] ?_|refine Dg 7 22 [] [] ?_|refine Dg 13 31 [] [] ?_|rw[Ip]|rw[In]|rw[Fz]|rw[Gz]|fail)<;>first|simp[e_,n_,s_]|simp[s_]|skip)
 refine AW.loopG (lit:=λ_=>false) (λi:Nat=>⟨96,pat [(1,.ptr 0 0 0),(3,I i)],[.cells 0 [encL ChainR.enc s.l,encL CountR.enc s.nexts,I s.stamp]]⟩) (λi=>s.l.length -i) (λi=>i<=s.l.length/\∀(j:Nat) (h:j<s.l.length),j<i->Zey s.stamp s.l[j]/\∀p,s.l[j -1]? =some p->0<j->p.ino<s.l[j].ino) 0 ?_ ?_ ?_
 ·exact Wa
 ·exact⟨by simp,λj h hj=>by omega⟩
 rintro i ⟨g1,g2⟩ A hA
 by_cases hi:i<s.l.length
 case neg=>
  have hc1:∀c∈s.l,Zey s.stamp c:=λc hc=>by
   obtain⟨j,hj,rfl⟩:=List.getElem_of_mem hc
   exact(g2 j hj (by omega)).1
  have hc2:s.l.Pairwise λa b=>a.ino<b.ino:=Zil λj h=>by
   have:=(g2 (j+1) h (by omega)).2 s.l[j] (by simp) (by omega)
   simpa using this
  clear g2
  have s_:=hi
  try simp[s_]
  repeat' ((first|((first|refine Tp ?_|refine Tn ?_|refine T2 ?_ ?_)<;>intro h_ e_ n_)|refine Dg 6 9 [] [] ?_|refine Dg 7 22 [] [] ?_|refine Dg 13 31 [] [] ?_|rw[Ip]|rw[In]|rw[Fz]|rw[Gz]|fail)<;>first|simp[e_,n_,s_]|simp[s_]|skip)
  refine AW.loopG (lit:=λ_=>false) (λi:Nat=>⟨96,pat [(1,.ptr 0 0 0),(5,I i)],[.cells 0 [encL ChainR.enc s.l,encL CountR.enc s.nexts,I s.stamp]]⟩) (λi=>s.nexts.length -i) (λi=>i<=s.nexts.length/\∀(j:Nat) (h:j<s.nexts.length),j<i->(1<=s.nexts[j].stamp/\s.nexts[j].stamp<=s.stamp/\1<=s.nexts[j].next)/\∀p,s.nexts[j -1]? =some p->0<j->p.stamp<s.nexts[j].stamp) 0 ?_ ?_ ?_
  ·exact Wa
  ·exact⟨by simp,λj h hj=>by omega⟩
  clear hA g1 hi
  rintro i ⟨g1,g2⟩ A hA
  by_cases hi:i<s.nexts.length
  case neg=>
   have e:b=true:=by
    rw[<-hb]
    refine Zel.2 ⟨by omega,hc1,hc2,λe=>by rw[e] at q1;simp at q1,?_,λv hv=> ?_⟩
    ·refine Zil λj h=> ?_
     have:=(g2 (j+1) h (by omega)).2 s.nexts[j] (by simp) (by omega)
     simpa using this
    ·obtain⟨j,hj,rfl⟩:=List.getElem_of_mem hv
     exact(g2 j hj (by omega)).1
   rw[e]
   have s_:=hi
   exact WW
  have hwi:=Zg hi hl2
  have hbad:¬((1<=s.nexts[i].stamp/\s.nexts[i].stamp<=s.stamp/\1<=s.nexts[i].next)/\∀p,s.nexts[i -1]? =some p->0<i->p.stamp<s.nexts[i].stamp)->b=false:=λhn=>by
   rw[<-hb]
   refine ZbN λh=>hn ⟨h.count _ (List.getElem_mem hi),λp hp h0=>by
    obtain⟨h1,rfl⟩:=List.getElem?_eq_some_iff.1 hp
    exact List.pairwise_iff_getElem.1 h.nrise (i -1) i h1 hi (by omega)⟩
  have hgo:((1<=s.nexts[i].stamp/\s.nexts[i].stamp<=s.stamp/\1<=s.nexts[i].next)/\∀p,s.nexts[i -1]? =some p->0<i->p.stamp<s.nexts[i].stamp)->∀(j:Nat) (h:j<s.nexts.length),j<i+1->(1<=s.nexts[j].stamp/\s.nexts[j].stamp<=s.stamp/\1<=s.nexts[j].next)/\∀p,s.nexts[j -1]? =some p->0<j->p.stamp<s.nexts[j].stamp:=λhn j h hj=>by
   rcases Nat.lt_or_ge j i with g|g
   ·exact g2 j h g
   ·have:j=i:=by omega
    subst this;exact hn
  have hi1:i -1<s.nexts.length:=by omega
  have hp1:s.nexts[i -1]? =some s.nexts[i -1]:=List.getElem?_eq_getElem hi1
  have hwm:0<i->IntKind.i64.wrap ((i:Int) -1)=((i -1:Nat):Int):=λhp=>by rw[Zh (by omega) (by omega)];omega
  clear g2
  generalize hck:s.nexts[i -1]=p at*
  generalize hci:s.nexts[i]=v at*
  by_cases q2:v.stamp<1
  ·rw[hbad λh=>by have:=h.1;omega]
   have s_:=An @hi (An @hci (An @q2 (@CountR.enc.eq_1)))
   exact WW
  by_cases q3:s.stamp<v.stamp
  ·rw[hbad λh=>by have:=h.1;omega]
   have s_:=An @hi (An @hci (An @q2 (An @q3 (@CountR.enc.eq_1))))
   exact WW
  by_cases q4:v.next<1
  ·rw[hbad λh=>by have:=h.1;omega]
   have s_:=An @hi (An @hci (An @q2 (An @q3 (An @q4 (@CountR.enc.eq_1)))))
   exact WW
  by_cases q5:0<i
  ·have hwm:=hwm q5
   by_cases q6:v.stamp<=p.stamp
   ·rw[hbad λh=>by have:=h.2 p hp1 q5;omega]
    have s_:=An @hi (An @hci (An @hck (An @q2 (An @q3 (An @q4 (An @q5 (An @q6 (An @hwm (An @hi1 (@CountR.enc.eq_1))))))))))
    exact WW
   ·have hgo:=hgo ⟨by omega,λp' e h0=>by rw[hp1] at e;cases e;omega⟩
    have s_:=An @hi (An @hci (An @hck (An @q2 (An @q3 (An @q4 (An @q5 (An @q6 (An @hwm (An @hwi (An @hi1 (@CountR.enc.eq_1)))))))))))
    have q1_:=λs w=>hA (i+1) s w ⟨hi,hgo⟩ (by omega)
    exact WW
  ·have hgo:=hgo ⟨by omega,λp' e h0=>by omega⟩
   have s_:=An @hi (An @hci (An @q2 (An @q3 (An @q4 (An @q5 (An @hwi (@CountR.enc.eq_1)))))))
   have q1_:=λs w=>hA (i+1) s w ⟨hi,hgo⟩ (by omega)
   exact WW
 have hwi:=Zg hi hl1
 have hbad:¬(Zey s.stamp s.l[i]/\∀p,s.l[i -1]? =some p->0<i->p.ino<s.l[i].ino)->b=false:=λhn=>by
  rw[<-hb]
  refine ZbN λh=>hn ⟨h.chain _ (List.getElem_mem hi),λp hp h0=>by
   obtain⟨h1,rfl⟩:=List.getElem?_eq_some_iff.1 hp
   exact List.pairwise_iff_getElem.1 h.rise (i -1) i h1 hi (by omega)⟩
 have hgo:(Zey s.stamp s.l[i]/\∀p,s.l[i -1]? =some p->0<i->p.ino<s.l[i].ino)->∀(j:Nat) (h:j<s.l.length),j<i+1->Zey s.stamp s.l[j]/\∀p,s.l[j -1]? =some p->0<j->p.ino<s.l[j].ino:=λhn j h hj=>by
  rcases Nat.lt_or_ge j i with g|g
  ·exact g2 j h g
  ·have:j=i:=by omega
   subst this;exact hn
 have hi1:i -1<s.l.length:=by omega
 have hp1:s.l[i -1]? =some s.l[i -1]:=List.getElem?_eq_getElem hi1
 have hwm:0<i->IntKind.i64.wrap ((i:Int) -1)=((i -1:Nat):Int):=λhp=>by rw[Zh (by omega) (by omega)];omega
 clear g2
 generalize hck:s.l[i -1]=p at*
 generalize hci:s.l[i]=c at*
 have hC:=Zyo c s.stamp
 cases hcb:Zik s.stamp c with
 |false=>
  rw[hbad λh=>by rw[Zgk.2 h.1] at hcb;cases hcb]
  rw[hcb] at hC
  have s_:=An @hi (An @hci (@ChainR.enc.eq_1))
  have p1_:=hC
  exact WW
 |true=>
  rw[hcb] at hC
  rw[Zgk] at hcb
  by_cases q5:0<i
  ·have hwm:=hwm q5
   by_cases q6:c.ino<=p.ino
   ·rw[hbad λh=>by have:=h.2 p hp1 q5;omega]
    have s_:=An @hi (An @hci (An @hck (An @q5 (An @q6 (An @hwm (An @hi1 (@ChainR.enc.eq_1)))))))
    have p1_:=hC
    exact WW
   ·have hgo:=hgo ⟨hcb,λp' e h0=>by rw[hp1] at e;cases e;omega⟩
    have s_:=An @hi (An @hci (An @hck (An @q5 (An @q6 (An @hwm (An @hwi (An @hi1 (@ChainR.enc.eq_1))))))))
    have q1_:=λs w=>hA (i+1) s w ⟨hi,hgo⟩ (by omega)
    have p1_:=hC
    exact WW
  ·have hgo:=hgo ⟨hcb,λp' e h0=>by omega⟩
   have s_:=An @hi (An @hci (An @q5 (An @hwi (@ChainR.enc.eq_1))))
   have q1_:=λs w=>hA (i+1) s w ⟨hi,hgo⟩ (by omega)
   have p1_:=hC
   exact WW
theorem Zmu (s:StoreR) (hb:ZbM s):Zb Tryz.prog 25 [.agg s.enc] (B (fewStore s)):=by
 have hl1:=hb.l
 have hl2:=hb.nexts
 have hl3:=hb.vers
 have hl4:=hb.ents
 clear hb
 obtain⟨cs,ns,st⟩:=s
 simp only at hl1 hl2 hl3 hl4
 obtain⟨b,hb⟩:∃b,fewStore ⟨cs,ns,st⟩=b:=⟨_,rfl⟩
 rw[hb]
 have hw0:IntKind.i64.wrap ((cs.length:Int)+ns.length)=(cs.length:Int)+ns.length:=Zh (by omega) (by omega)
 refine Pm Tryz.func25 λhfit=> ?_
 simp[Tryz.f25,StoreR.enc]
 refine AW.loopG (lit:=λ_=>false) (λx:Nat×Int=>⟨77,pat [(1,.ptr 0 0 0),(3,I x.2),(4,I x.1)],[.cells 0 [encL ChainR.enc cs,encL CountR.enc ns,I st]]⟩) (λx=>cs.length -x.1) (λx=>x.1<=cs.length/\0<=x.2/\x.2<=4194304/\(match fewC (cs.drop x.1) x.2 with|none=>false|some n=>decide (n<=200))=b) (0,(cs.length:Int)+ns.length) ?_ ?_ ?_
 ·exact Wk.at _ rfl (by simp) (by simp;exact hw0)
 ·exact⟨by simp,by simp only;omega,by simp only;omega,hb⟩
 rintro⟨i,n⟩ ⟨g1,g2,g3,g4⟩ A hA
 simp only at g1 g2 g3 g4 hA
 by_cases hi:i<cs.length
 case neg=>
  rw[List.drop_eq_nil_of_le (by omega),fewC] at g4
  simp only at g4
  subst g4
  have s_:=hi
  exact WW
 rw[List.drop_eq_getElem_cons hi,fewC] at g4
 by_cases hn:n<=200
 case neg=>
  rw[if_neg hn] at g4
  simp only at g4
  subst g4
  have s_:=An @hi (@hn)
  exact WW
 rw[if_pos hn] at g4
 have hwi:=Zg hi (by simp only[maxLen];omega)
 have hl3:=hl3 cs[i] (List.getElem_mem hi)
 have hl4:=hl4 cs[i] (List.getElem_mem hi)
 generalize hci:cs[i]=c at*
 have hw1:IntKind.i64.wrap (n+(c.l.length:Int))=n+c.l.length:=Zh (by omega) (by omega)
 have s_:=An @hi (An @hn (An @hci (An @hw1 (@ChainR.enc.eq_1))))
 try simp[s_]
 repeat' ((first|((first|refine Tp ?_|refine Tn ?_|refine T2 ?_ ?_)<;>intro h_ e_ n_)|rw[Ip]|rw[In]|rw[Fz]|rw[Gz]|fail)<;>first|simp[e_,n_,s_]|simp[s_]|skip)
 refine AW.loopG (lit:=λ_=>false) (λx:Nat×Int=>⟨77,pat [(1,.ptr 0 0 0),(3,I x.2),(4,I i),(5,I x.1)],[.cells 0 [encL ChainR.enc cs,encL CountR.enc ns,I st]]⟩) (λx=>c.l.length -x.1) (λx=>x.1<=c.l.length/\0<=x.2/\x.2<=4194304/\(match(match fewV (c.l.drop x.1) x.2 with|none=>none|some m=>fewC (cs.drop (i+1)) m) with|none=>false|some n=>decide (n<=200))=b) (0,n+c.l.length) ?_ ?_ ?_
 ·exact Wk.at _ rfl (by simp[hw1]) (by simp)
 ·exact⟨by simp,by simp only;omega,by simp only;omega,g4⟩
 rintro⟨j,m⟩ ⟨k1,k2,k3,k4⟩ A' hA'
 simp only at k1 k2 k3 k4 hA'
 by_cases hj:j<c.l.length
 case neg=>
  rw[List.drop_eq_nil_of_le (by omega),fewV] at k4
  simp only at k4
  have s_:=An @hi (An @hci (An @hj (An @hwi (@ChainR.enc.eq_1))))
  have q1_:=λs w=>hA (i+1,m) s w ⟨hi,k2,k3,k4⟩ (by simp only;omega)
  exact WW
 rw[List.drop_eq_getElem_cons hj,fewV] at k4
 by_cases hm:m<=200
 case neg=>
  rw[if_neg hm] at k4
  simp only at k4
  have s_:=An @hi (An @hci (An @hj (An @hm (An @hwi (@ChainR.enc.eq_1)))))
  have q1_:=λs w=>hA (i+1,m) s w ⟨hi,k2,k3,k4⟩ (by simp only;omega)
  exact WW
 rw[if_pos hm] at k4
 have hwj:=Zg hj (by simp only[maxLen];omega)
 have hl4:=hl4 c.l[j] (List.getElem_mem hj)
 generalize hcj:c.l[j]=v at*
 have hw2:IntKind.i64.wrap (m+(v.node.l.length:Int))=m+v.node.l.length:=Zh (by omega) (by omega)
 by_cases ht:4096<v.node.text.size
 ·rw[if_pos ht] at k4
  simp only at k4
  subst k4
  have s_:=An @hi (An @hci (An @hj (An @hcj (An @hm (An @hw2 (An @ht (An @ChainR.enc.eq_1 (An @VerR.enc.eq_1 (@NodeR.enc.eq_1)))))))))
  exact WW
 ·rw[if_neg ht] at k4
  have s_:=An @hi (An @hci (An @hj (An @hcj (An @hm (An @hw2 (An @hwj (An @ht (An @ChainR.enc.eq_1 (An @VerR.enc.eq_1 (@NodeR.enc.eq_1))))))))))
  try simp[s_]
  repeat' ((first|((first|refine Tp ?_|refine Tn ?_|refine T2 ?_ ?_)<;>intro h_ e_ n_)|(exact hA' (j+1,m+v.node.l.length) _ (Wk.at _ rfl (by simp[hw2]) (by simp)) ⟨hj,by simp only;omega,by simp only;omega,k4⟩ (by simp only;omega))|rw[Ip]|rw[In]|rw[Fz]|rw[Gz]|fail)<;>first|simp[e_,n_,s_]|simp[s_]|skip)
theorem ZkD {α:Type} {a b:List α} (hl:a.length=b.length) (h:∀(j:Nat) (ha:j<a.length) (hb:j<b.length),a[j]=b[j]):a=b:=List.ext_getElem hl λj ha hb=>h j ha hb
def _root_.Go.Cx.CountR.vals (c:CountR):List Value:=[.int .i64 c.stamp,.int .i64 c.next]
abbrev cntK:List TypeDesc:=[.int .i64,.int .i64]
theorem _root_.Go.Cx.CountR.kinds (c:CountR):Zcc cntK c.vals:= .cons rfl (.cons rfl .nil)
theorem _root_.Go.Cx.CountR.vals_eq (a b:CountR):a.vals=b.vals↔a=b:=by
 cases a;cases b;simp[CountR.vals]
@[simp] theorem cnt_neq {P:Program} {t:TypeId} (ox oy:Operand) (ht:Zir P t=some cntK) (hg:tagg P t=some true) (a b:CountR):abin P .neq t ox oy (.agg a.enc) (.agg b.enc)=some (.val (.bool (!decide (a=b)))):=by
 have:=(ZmQ ht hg a.kinds b.kinds ox oy).2
 have e:decide (a.vals=b.vals)=decide (a=b):=by rw[decide_eq_decide];exact CountR.vals_eq a b
 rw[e] at this;exact this
theorem Zsq (a b:StoreR):Zb Tryz.prog 18 [.agg a.enc,.agg b.enc] (B (decide (a=b))):=by
 by_cases q0:a.stamp=b.stamp
 case neg=>
  rw[decide_eq_false λh=>q0 (by rw[h])]
  refine Pm Tryz.func18 λhfit=> ?_
  have d1_:=D0 6 11 [] []
  have d2_:=D0 18 14 [] []
  have d3_:=D0 19 32 [] []
  simp[Tryz.f18]
  have s_:=An @q0 (@StoreR.enc.eq_1)
  exact WW
 by_cases q1:a.l.length=b.l.length
 case neg=>
  rw[decide_eq_false λh=>q1 (by rw[h])]
  have q1':¬(a.l.length:Int)=b.l.length:=by omega
  refine Pm Tryz.func18 λhfit=> ?_
  have d1_:=D0 6 11 [] []
  have d2_:=D0 18 14 [] []
  have d3_:=D0 19 32 [] []
  simp[Tryz.f18]
  have s_:=An @q0 (An @q1 (An @q1' (@StoreR.enc.eq_1)))
  exact WW
 by_cases q2:a.nexts.length=b.nexts.length
 case neg=>
  rw[decide_eq_false λh=>q2 (by rw[h])]
  have q2':¬(a.nexts.length:Int)=b.nexts.length:=by omega
  refine Pm Tryz.func18 λhfit=> ?_
  have d1_:=D0 6 11 [] []
  have d2_:=D0 18 14 [] []
  have d3_:=D0 19 32 [] []
  simp[Tryz.f18]
  have s_:=An @q0 (An @q1 (An @q2 (An @q2' (@StoreR.enc.eq_1))))
  exact WW
 obtain⟨r,hr⟩:∃r,decide (a=b)=r:=⟨_,rfl⟩
 rw[hr]
 obtain⟨al,an,ast⟩:=a
 obtain⟨bl,bn,bst⟩:=b
 simp only at q0 q1 q2
 subst q0
 have hbad1:an≠bn->r=false:=λh=>by rw[<-hr];exact decide_eq_false λe=>h (by cases e;rfl)
 have hbad2:al≠bl->r=false:=λh=>by rw[<-hr];exact decide_eq_false λe=>h (by cases e;rfl)
 have hgood:an=bn->al=bl->r=true:=λh1 h2=>by rw[<-hr,h1,h2];simp
 clear hr
 refine Pm Tryz.func18 λhfit=> ?_
 have d1_:=D0 6 11 [] []
 have d2_:=D0 18 14 [] []
 have d3_:=D0 19 32 [] []
 simp[StoreR.enc] at hfit
 have hl1:=hfit.1.1.1
 have hl2:=hfit.1.2.1
 have hfv:=hfit.1.1.2
 have hm1:=hl1
 have hm2:=hl2
 simp only[maxLen] at hm1 hm2
 simp[Tryz.f18,StoreR.enc]
 have s_:=An @q1 (@q2)
 try simp[s_]
 repeat' ((first|((first|refine Tp ?_|refine Tn ?_|refine T2 ?_ ?_)<;>intro h_ e_ n_)|refine Dg 6 11 [] [] ?_|refine Dg 18 14 [] [] ?_|refine Dg 19 32 [] [] ?_|rw[Ip]|rw[In]|rw[Fz]|rw[Gz]|fail)<;>first|simp[e_,n_,s_]|simp[s_]|skip)
 refine AW.loopG (lit:=λ_=>false) (λi:Nat=>⟨135,pat [(2,.ptr 0 0 0),(3,.ptr 1 0 0),(5,I i)],[.cells 0 [encL ChainR.enc al,encL CountR.enc an,I ast],.cells 0 [encL ChainR.enc bl,encL CountR.enc bn,I ast]]⟩) (λi=>an.length -i) (λi=>i<=an.length/\∀(j:Nat) (ha:j<an.length) (hb:j<bn.length),j<i->an[j]=bn[j]) 0 ?_ ?_ ?_
 ·exact Wa
 ·exact⟨by simp,λj h _ hj=>by omega⟩
 rintro i ⟨g1,g2⟩ A hA
 by_cases hi:i<an.length
 case pos=>
  have hi2:i<bn.length:=by omega
  have hwi:=Zg hi hl2
  by_cases q3:an[i]=bn[i]
  ·have hgo:∀(j:Nat) (ha:j<an.length) (hb:j<bn.length),j<i+1->an[j]=bn[j]:=λj ha hb hj=>by
    rcases Nat.lt_or_ge j i with g|g
    ·exact g2 j ha hb g
    ·have:j=i:=by omega
     subst this;exact q3
   have s_:=An @hi (An @hi2 (An @hwi (@q3)))
   have q1_:=λs w=>hA (i+1) s w ⟨hi,hgo⟩ (by omega)
   exact WW
  ·rw[hbad1 λe=>q3 (by subst e;rfl)]
   have s_:=An @hi (An @hi2 (@q3))
   exact WW
 have hnn:an=bn:=ZkD q2 λj ha hb=>g2 j ha hb (by omega)
 have hgood:=hgood hnn
 clear g2 hbad1
 have s_:=hi
 try simp[s_]
 repeat' ((first|((first|refine Tp ?_|refine Tn ?_|refine T2 ?_ ?_)<;>intro h_ e_ n_)|refine Dg 6 11 [] [] ?_|refine Dg 18 14 [] [] ?_|refine Dg 19 32 [] [] ?_|rw[Ip]|rw[In]|rw[Fz]|rw[Gz]|fail)<;>first|simp[e_,n_,s_]|simp[s_]|skip)
 clear hA g1 hi
 refine AW.loopG (lit:=λ_=>false) (λi:Nat=>⟨135,pat [(2,.ptr 0 0 0),(3,.ptr 1 0 0),(6,I i)],[.cells 0 [encL ChainR.enc al,encL CountR.enc an,I ast],.cells 0 [encL ChainR.enc bl,encL CountR.enc bn,I ast]]⟩) (λi=>al.length -i) (λi=>i<=al.length/\∀(j:Nat) (ha:j<al.length) (hb:j<bl.length),j<i->al[j]=bl[j]) 0 ?_ ?_ ?_
 ·exact Wa
 ·exact⟨by simp,λj h _ hj=>by omega⟩
 rintro i ⟨g1,g2⟩ A hA
 by_cases hi:i<al.length
 case neg=>
  rw[hgood (ZkD q1 λj ha hb=>g2 j ha hb (by omega))]
  have s_:=hi
  exact WW
 have hi2:i<bl.length:=by omega
 have hwi:=Zg hi hl1
 have hgo:al[i]=bl[i]->∀(j:Nat) (ha:j<al.length) (hb:j<bl.length),j<i+1->al[j]=bl[j]:=λq3 j ha hb hj=>by
  rcases Nat.lt_or_ge j i with g|g
  ·exact g2 j ha hb g
  ·have:j=i:=by omega
   subst this;exact q3
 have hbad:al[i]≠bl[i]->r=false:=λq=>hbad2 λe=>q (by subst e;rfl)
 have hlv:al[i].l.length<=maxLen:=by
  have:=hfv al[i] (List.getElem_mem hi) (encL VerR.enc al[i].l) (by simp[ChainR.enc])
  simp at this
  exact this.1
 clear g2 hbad2 hgood
 generalize hx:al[i]=x at*
 generalize hy:bl[i]=y at*
 by_cases q3:x.ino=y.ino
 case neg=>
  rw[hbad λe=>q3 (by rw[e])]
  have s_:=An @hi (An @hi2 (An @hx (An @hy (An @q3 (@ChainR.enc.eq_1)))))
  exact WW
 by_cases q4:x.l.length=y.l.length
 case neg=>
  have q4':¬(x.l.length:Int)=y.l.length:=by omega
  rw[hbad λe=>q4 (by rw[e])]
  have s_:=An @hi (An @hi2 (An @hx (An @hy (An @q3 (An @q4 (An @q4' (@ChainR.enc.eq_1)))))))
  exact WW
 have s_:=An @hi (An @hi2 (An @hx (An @hy (An @q3 (An @q4 (@ChainR.enc.eq_1))))))
 try simp[s_]
 repeat' ((first|((first|refine Tp ?_|refine Tn ?_|refine T2 ?_ ?_)<;>intro h_ e_ n_)|refine Dg 6 11 [] [] ?_|refine Dg 18 14 [] [] ?_|refine Dg 19 32 [] [] ?_|rw[Ip]|rw[In]|rw[Fz]|rw[Gz]|fail)<;>first|simp[e_,n_,s_]|simp[s_]|skip)
 refine AW.loopG (lit:=λ_=>false) (λj:Nat=>⟨135,pat [(2,.ptr 0 0 0),(3,.ptr 1 0 0),(6,I i),(7,.ptr 2 0 0),(8,.ptr 3 0 0),(9,I j)],[.cells 0 [encL ChainR.enc al,encL CountR.enc an,I ast],.cells 0 [encL ChainR.enc bl,encL CountR.enc bn,I ast],.cells 0 [I x.ino,encL VerR.enc x.l],.cells 0 [I y.ino,encL VerR.enc y.l]]⟩) (λj=>x.l.length -j) (λj=>j<=x.l.length/\∀(k:Nat) (ha:k<x.l.length) (hb:k<y.l.length),k<j->x.l[k]=y.l[k]) 0 ?_ ?_ ?_
 ·exact Wk.at _ rfl (by simp[q3,q4]) (by simp)
 ·exact⟨by simp,λj h _ hj=>by omega⟩
 rintro j ⟨k1,k2⟩ A' hA'
 by_cases hj:j<x.l.length
 case neg=>
  have hl:x.l=y.l:=ZkD q4 λk ha hb=>k2 k ha hb (by omega)
  have hxy:x=y:=by cases x;cases y;simp only at q3 hl;rw[q3,hl]
  have hgo:=hgo hxy
  have s_:=An @hi (An @hj (@hwi))
  have q1_:=λs w=>hA (i+1) s w ⟨hi,hgo⟩ (by omega)
  exact WW
 have hj2:j<y.l.length:=by omega
 have hwj:=Zg hj hlv
 have hgo':x.l[j]=y.l[j]->∀(k:Nat) (ha:k<x.l.length) (hb:k<y.l.length),k<j+1->x.l[k]=y.l[k]:=λq3 k ha hb hk=>by
  rcases Nat.lt_or_ge k j with g|g
  ·exact k2 k ha hb g
  ·have:k=j:=by omega
   subst this;exact q3
 have hbad':x.l[j]≠y.l[j]->r=false:=λq=>hbad λe=>q (by subst e;rfl)
 clear k2 hbad hgo
 generalize hv:x.l[j]=v at*
 generalize hw:y.l[j]=w at*
 have hN:=rnsame_ok v.node w.node
 by_cases q5:v.node=w.node
 case neg=>
  rw[hbad' λe=>q5 (by rw[e])]
  rw[decide_eq_false q5] at hN
  have s_:=An @hj (An @hj2 (An @hv (An @hw (An @VerR.enc.eq_1 (@NodeR.enc.eq_1)))))
  have p1_:=hN
  exact WW
 rw[decide_eq_true q5] at hN
 by_cases q6:v.stamp=w.stamp
 case neg=>
  rw[hbad' λe=>q6 (by rw[e])]
  have s_:=An @hj (An @hj2 (An @hv (An @hw (An @q6 (An @VerR.enc.eq_1 (@NodeR.enc.eq_1))))))
  have p1_:=hN
  exact WW
 by_cases q7:v.gone=w.gone
 case neg=>
  rw[hbad' λe=>q7 (by rw[e])]
  have s_:=An @hj (An @hj2 (An @hv (An @hw (An @q6 (An @q7 (An @VerR.enc.eq_1 (@NodeR.enc.eq_1)))))))
  have p1_:=hN
  exact WW
 have hgo':=hgo' (by cases v;cases w;simp only at q5 q6 q7;rw[q5,q6,q7])
 have s_:=An @hj (An @hj2 (An @hv (An @hw (An @q6 (An @q7 (An @hwj (An @VerR.enc.eq_1 (@NodeR.enc.eq_1))))))))
 try simp[s_]
 repeat' ((first|((first|refine Tp ?_|refine Tn ?_|refine T2 ?_ ?_)<;>intro h_ e_ n_)|(exact hA' (j+1) _ Wa ⟨hj,hgo'⟩ (by omega))|refine Pg hN ?_|refine Dg 6 11 [] [] ?_|refine Dg 18 14 [] [] ?_|refine Dg 19 32 [] [] ?_|rw[Ip]|rw[In]|rw[Fz]|rw[Gz]|fail)<;>first|simp[e_,n_,s_]|simp[s_]|skip)
end Go.Proofs.YtgpkaoombhobmaaGreat
