import Derived.Test.YtgpkaoombhobmaaGreatZW2
import Derived.Test.YtgpkaoombhobmaaGreatZP1
set_option linter.unusedVariables false
set_option linter.unusedSimpArgs false
namespace Go.Proofs.YtgpkaoombhobmaaGreat
open Go.Cx Tab
set_option maxHeartbeats 400000
set_option maxRecDepth 40000
theorem ZcU (f:FSR):Zd Tryz.prog 42 [encF f] (B (rightF f)):=by
 have h1:=ZvF f
 cases hrow:Zdk f with
 |false=>
  rw[hrow] at h1
  have e:rightF f=false:=by simp[rightF,hrow]
  rw[e]
  refine Pm Tryz.func42 fun hfit=> ?_
  simp[Tryz.f42,FSR.enc]
  have s_:= @FSR.enc.eq_1
  try simp[s_]
  repeat' ((first|((first|refine Tp ?_|refine Tn ?_|refine T2 ?_ ?_)<;>intro h_ e_ n_)|refine Pg h1 ?_|refine Dg 9 7 [] [] ?_|rw[Ip]|rw[In]|rw[Fz]|rw[Gz]|fail)<;>first|simp[e_,n_,s_]|simp[s_]|skip)
 |true=>
 rw[hrow] at h1
 have R:=(Zgl f).1 hrow
 have hlen:=R.len
 cases hh:Zia f.l with
 |false=>
  have e:rightF f=false:=by simp[rightF,hh]
  rw[e]
  by_cases q0:f.l.length<1
  ·have q0':f.l.length=0:=by omega
   refine Pm Tryz.func42 fun hfit=> ?_
   simp[Tryz.f42,FSR.enc]
   have s_:=An @q0 (An @q0' (@FSR.enc.eq_1))
   try simp[s_]
   repeat' ((first|((first|refine Tp ?_|refine Tn ?_|refine T2 ?_ ?_)<;>intro h_ e_ n_)|refine Pg h1 ?_|refine Dg 9 7 [] [] ?_|rw[Ip]|rw[In]|rw[Fz]|rw[Gz]|fail)<;>first|simp[e_,n_,s_]|simp[s_]|skip)
  have q1:0<f.l.length:=by omega
  have hd:Zia f.l=(decide (f.l[0].ino=1)&&decide (f.l[0].kind=2)&&decide (f.l[0].links=0)):=by
   have:∀(l:List NodeR) (h:0<l.length),Zia l=(decide (l[0].ino=1)&&decide (l[0].kind=2)&&decide (l[0].links=0)):=fun l h=>by
    cases l with
    |nil=>simp at h
    |cons r l=>rfl
   exact this f.l q1
  rw[hd] at hh
  by_cases q2:f.l[0].ino=1
  case neg=>
   refine Pm Tryz.func42 fun hfit=> ?_
   simp[Tryz.f42,FSR.enc]
   have s_:=An @q0 (An @q1 (An @q2 (@FSR.enc.eq_1)))
   try simp[s_]
   repeat' ((first|((first|refine Tp ?_|refine Tn ?_|refine T2 ?_ ?_)<;>intro h_ e_ n_)|refine Pg h1 ?_|refine Dg 9 7 [] [] ?_|rw[Ip]|rw[In]|rw[Fz]|rw[Gz]|fail)<;>first|simp[e_,n_,s_]|simp[s_]|skip)
  by_cases q3:f.l[0].kind=2
  case neg=>
   refine Pm Tryz.func42 fun hfit=> ?_
   simp[Tryz.f42,FSR.enc]
   have s_:=An @q0 (An @q1 (An @q2 (An @q3 (@FSR.enc.eq_1))))
   try simp[s_]
   repeat' ((first|((first|refine Tp ?_|refine Tn ?_|refine T2 ?_ ?_)<;>intro h_ e_ n_)|refine Pg h1 ?_|refine Dg 9 7 [] [] ?_|rw[Ip]|rw[In]|rw[Fz]|rw[Gz]|fail)<;>first|simp[e_,n_,s_]|simp[s_]|skip)
  by_cases q4:f.l[0].links=0
  case neg=>
   refine Pm Tryz.func42 fun hfit=> ?_
   simp[Tryz.f42,FSR.enc]
   have s_:=An @q0 (An @q1 (An @q2 (An @q3 (An @q4 (@FSR.enc.eq_1)))))
   try simp[s_]
   repeat' ((first|((first|refine Tp ?_|refine Tn ?_|refine T2 ?_ ?_)<;>intro h_ e_ n_)|refine Pg h1 ?_|refine Dg 9 7 [] [] ?_|rw[Ip]|rw[In]|rw[Fz]|rw[Gz]|fail)<;>first|simp[e_,n_,s_]|simp[s_]|skip)
  simp[q2,q3,q4] at hh
 |true=>
 have hE:∀n∈f.l,n.l.length≤256:=fun n hn=>((ZbB _).1 ((Zq n).1 (R.ok n hn)).row).len
 have hiff:=ZiL f R hh
 have hhd:∃h:0<f.l.length,f.l[0].ino=1∧f.l[0].kind=2∧f.l[0].links=0:=by
  have:∀(l:List NodeR),Zia l=true→∃h:0<l.length,l[0].ino=1∧l[0].kind=2∧l[0].links=0:=fun l h=>by
   cases l with
   |nil=>simp at h
   |cons r l=>
    simp only[ZfA,Bool.and_eq_true,decide_eq_true_eq] at h
    exact⟨by simp,h.1.1,h.1.2,h.2⟩
  exact this f.l hh
 obtain⟨q1,q2,q3,q4⟩:=hhd
 have q0:¬f.l.length<1:=by omega
 have h2:=ZqM f 1 R.rise R.len hE
 have hak:=ZbH hE
 have hbl:=Zqf f.l 1
 have hnm:=fun k=>Znr f k R.len hE
 have hfd:=fun k=>Zji f k R.rise (by omega)
 have bad:∀(i:Nat) (hi:i<f.l.length),¬ZjT f.l i f.l[i]→rightF f=false:=fun i hi hb=>by
  cases hr:rightF f with
  |false=>rfl
  |true=>exact absurd (hiff.1 hr i hi) hb
 have good:=hiff.2
 clear hiff R hrow hh
 obtain⟨l,next⟩:=f
 simp only at*
 generalize rightF ⟨l,next⟩=rf at*
 refine Pm Tryz.func42 fun hfit=> ?_
 simp[Tryz.f42,FSR.enc]
 have s_:=An @q0 (An @q1 (An @q2 (An @q3 (An @q4 (@FSR.enc.eq_1)))))
 try simp[s_]
 repeat' ((first|((first|refine Tp ?_|refine Tn ?_|refine T2 ?_ ?_)<;>intro h_ e_ n_)|refine Pg h1 ?_|refine Pg h2 ?_|refine Dg 9 7 [] [] ?_|rw[Ip]|rw[In]|rw[Fz]|rw[Gz]|fail)<;>first|simp[e_,n_,s_]|simp[s_]|skip)
 refine AW.loopG (lit:=fun _=>false) (fun i:Nat=>⟨111,pat [(1,.ptr 0 0 0),(4,enc1 I (belowL l 1)),(5,I i)],[.cells 0 [encL NodeR.enc l,I next]]⟩) (fun i=>l.length -i) (fun i=>i≤l.length∧∀j (h:j<l.length),j<i→ZjT l j l[j]) 0 ?_ ?_ ?_
 ·exact Wa
 ·simp
 rintro i ⟨g1,g2⟩ A hA
 by_cases hi:i<l.length
 case neg=>
  have e:rf=true:=good fun j h=>g2 j h (by omega)
  subst e
  have s_:=hi
  try simp[s_]
  repeat' ((first|((first|refine Tp ?_|refine Tn ?_|refine T2 ?_ ?_)<;>intro h_ e_ n_)|refine Dg 9 7 [] [] ?_|rw[Ip]|rw[In]|rw[Fz]|rw[Gz]|fail)<;>first|simp[e_,n_,s_]|simp[s_]|skip)
 have hwi:=Zi hi (by simp only[maxLen];omega)
 have hb:=bad i hi
 have c1:=hnm l[i].ino
 have c2:=ZtE (belowL l 1) l[i].ino (by omega)
 by_cases r1:l[i].links=((Zl l).count l[i].ino:Nat)
 case neg=>
  have e:rf=false:=hb fun g=>r1 g.links
  subst e
  have s_:=An @hi (An @r1 (@FSR.enc.eq_1))
  try simp[s_]
  repeat' ((first|((first|refine Tp ?_|refine Tn ?_|refine T2 ?_ ?_)<;>intro h_ e_ n_)|refine Pg c1 ?_|refine Dg 9 7 [] [] ?_|rw[Ip]|rw[In]|rw[Fz]|rw[Gz]|fail)<;>first|simp[e_,n_,s_]|simp[s_]|skip)
 by_cases r2:badN l i l[i]
 ·have e:rf=false:=hb fun g=>g.not r2
  subst e
  obtain⟨r2,r3⟩:=r2
  by_cases p1:l[i].links<1
  ·by_cases mb:l[i].ino∈belowL l 1
   ·rw[show decide (l[i].ino∈belowL l 1)=true from decide_eq_true mb] at c2
    have s_:=An @hi (An @r1 (An @r2 (An @p1 (@FSR.enc.eq_1))))
    try simp[s_]
    repeat' ((first|((first|refine Tp ?_|refine Tn ?_|refine T2 ?_ ?_)<;>intro h_ e_ n_)|refine Pg c1 ?_|refine Pg c2 ?_|refine Dg 9 7 [] [] ?_|rw[Ip]|rw[In]|rw[Fz]|rw[Gz]|fail)<;>first|simp[e_,n_,s_]|simp[s_]|skip)
   ·rw[show decide (l[i].ino∈belowL l 1)=false from decide_eq_false mb] at c2
    have s_:=An @hi (An @r1 (An @r2 (An @p1 (@FSR.enc.eq_1))))
    try simp[s_]
    repeat' ((first|((first|refine Tp ?_|refine Tn ?_|refine T2 ?_ ?_)<;>intro h_ e_ n_)|refine Pg c1 ?_|refine Pg c2 ?_|refine Dg 9 7 [] [] ?_|rw[Ip]|rw[In]|rw[Fz]|rw[Gz]|fail)<;>first|simp[e_,n_,s_]|simp[s_]|skip)
  obtain⟨p2,p3⟩:=r3.resolve_left p1
  by_cases p4:1<l[i].links
  ·by_cases mb:l[i].ino∈belowL l 1
   ·rw[show decide (l[i].ino∈belowL l 1)=true from decide_eq_true mb] at c2
    have s_:=An @hi (An @r1 (An @r2 (An @p1 (An @p2 (An @p4 (@FSR.enc.eq_1))))))
    try simp[s_]
    repeat' ((first|((first|refine Tp ?_|refine Tn ?_|refine T2 ?_ ?_)<;>intro h_ e_ n_)|refine Pg c1 ?_|refine Pg c2 ?_|refine Dg 9 7 [] [] ?_|rw[Ip]|rw[In]|rw[Fz]|rw[Gz]|fail)<;>first|simp[e_,n_,s_]|simp[s_]|skip)
   ·rw[show decide (l[i].ino∈belowL l 1)=false from decide_eq_false mb] at c2
    have s_:=An @hi (An @r1 (An @r2 (An @p1 (An @p2 (An @p4 (@FSR.enc.eq_1))))))
    try simp[s_]
    repeat' ((first|((first|refine Tp ?_|refine Tn ?_|refine T2 ?_ ?_)<;>intro h_ e_ n_)|refine Pg c1 ?_|refine Pg c2 ?_|refine Dg 9 7 [] [] ?_|rw[Ip]|rw[In]|rw[Fz]|rw[Gz]|fail)<;>first|simp[e_,n_,s_]|simp[s_]|skip)
  ·have mb:=p3.resolve_left p4
   rw[show decide (l[i].ino∈belowL l 1)=false from decide_eq_false mb] at c2
   have s_:=An @hi (An @r1 (An @r2 (An @p1 (An @p2 (An @p4 (@FSR.enc.eq_1))))))
   try simp[s_]
   repeat' ((first|((first|refine Tp ?_|refine Tn ?_|refine T2 ?_ ?_)<;>intro h_ e_ n_)|refine Pg c1 ?_|refine Pg c2 ?_|refine Dg 9 7 [] [] ?_|rw[Ip]|rw[In]|rw[Fz]|rw[Gz]|fail)<;>first|simp[e_,n_,s_]|simp[s_]|skip)
 by_cases p0:0<i
 case neg=>
  have p0':i=0:=by omega
  generalize decide (l[i].ino∈belowL l 1)=bb at c2
  have s_:=An @hi (An @r1 (An @p0 (@FSR.enc.eq_1)))
  try simp[s_]
  repeat' ((first|((first|refine Tp ?_|refine Tn ?_|refine T2 ?_ ?_)<;>intro h_ e_ n_)|refine Pg c1 ?_|refine Pg c2 ?_|refine Dg 9 7 [] [] ?_|rw[Ip]|rw[In]|rw[Fz]|rw[Gz]|fail)<;>first|simp[e_,n_,s_]|simp[s_]|skip)
  refine AW.loopG (lit:=fun _=>false) (fun j:Nat=>⟨111,pat [(1,.ptr 0 0 0),(4,enc1 I (belowL l 1)),(5,I i),(6,.ptr 1 0 0),(8,I j)],[.cells 0 [encL NodeR.enc l,I next],.cells 0 l[i].enc]⟩) (fun j=>l[i].l.length -j) (fun j=>j≤l[i].l.length∧∀q (h:q<l[i].l.length),q<j→(findB l l[i].l[q].ino).2=true) 0 ?_ ?_ ?_
  ·exact Wa
  ·simp
  rintro j ⟨k1,k2⟩ A2 hA2
  by_cases hj:j<l[i].l.length
  case neg=>
   have gi:ZjT l i l[i]:=⟨r1,r2,fun x hx=>by
    obtain⟨q,hq,rfl⟩:=List.getElem_of_mem hx
    exact k2 q hq (by omega)⟩
   have g3:∀q (h:q<l.length),q<i+1→ZjT l q l[q]:=fun q h hq=>by
    by_cases e:q=i
    ·subst e;exact gi
    ·exact g2 q h (by omega)
   have s_:=An @hi (An @hj (@hwi))
   try simp[s_]
   repeat' ((first|((first|refine Tp ?_|refine Tn ?_|refine T2 ?_ ?_)<;>intro h_ e_ n_)|(exact hA (i+1) _ Wc ⟨hi,g3⟩ (by omega))|refine Dg 9 7 [] [] ?_|rw[Ip]|rw[In]|rw[Fz]|rw[Gz]|fail)<;>first|simp[e_,n_,s_]|simp[s_]|skip)
  have hei:=hE l[i] (List.getElem_mem hi)
  have hwj:=Zi hj (by simp only[maxLen];omega)
  have c3:Zd Tryz.prog 50 [.agg [encL NodeR.enc l,I next],I l[i].l[j].ino] (.tup [encN (findB l l[i].l[j].ino).1,B (findB l l[i].l[j].ino).2]):=hfd l[i].l[j].ino
  cases hq:(findB l l[i].l[j].ino).2 with
  |false=>
   have e:rf=false:=hb fun g=>by
    have:=g.kids l[i].l[j] (List.getElem_mem hj)
    rw[hq] at this;cases this
   subst e
   rw[hq] at c3
   have s_:=An @hi (@hj)
   try simp[s_]
   repeat' ((first|((first|refine Tp ?_|refine Tn ?_|refine T2 ?_ ?_)<;>intro h_ e_ n_)|refine Pg c3 ?_|refine AW.room (Dg 17 13 [2] [(11,.w)] ?_)|refine Dg 9 7 [] [] ?_|rw[Ip]|rw[In]|rw[Fz]|rw[Gz]|fail)<;>first|simp[e_,n_,s_]|simp[s_]|skip)
  |true=>
   rw[hq] at c3
   have k3:∀q (h:q<l[i].l.length),q<j+1→(findB l l[i].l[q].ino).2=true:=fun q h hqj=>by
    by_cases e:q=j
    ·subst e;exact hq
    ·exact k2 q h (by omega)
   have s_:=An @hi (An @hj (@hwj))
   try simp[s_]
   repeat' ((first|((first|refine Tp ?_|refine Tn ?_|refine T2 ?_ ?_)<;>intro h_ e_ n_)|(exact hA2 (j+1) _ Wc ⟨hj,k3⟩ (by omega))|refine Pg c3 ?_|refine AW.room (Dg 17 13 [2] [(11,.w)] ?_)|refine Dg 9 7 [] [] ?_|rw[Ip]|rw[In]|rw[Fz]|rw[Gz]|fail)<;>first|simp[e_,n_,s_]|simp[s_]|skip)
 have p1:¬l[i].links<1:=fun e=>r2 ⟨p0,.inl e⟩
 by_cases p2:l[i].kind=2
 case neg=>
  generalize decide (l[i].ino∈belowL l 1)=bb at c2
  have s_:=An @hi (An @r1 (An @p0 (An @p1 (An @p2 (@FSR.enc.eq_1)))))
  try simp[s_]
  repeat' ((first|((first|refine Tp ?_|refine Tn ?_|refine T2 ?_ ?_)<;>intro h_ e_ n_)|refine Pg c1 ?_|refine Pg c2 ?_|refine Dg 9 7 [] [] ?_|rw[Ip]|rw[In]|rw[Fz]|rw[Gz]|fail)<;>first|simp[e_,n_,s_]|simp[s_]|skip)
  refine AW.loopG (lit:=fun _=>false) (fun j:Nat=>⟨111,pat [(1,.ptr 0 0 0),(4,enc1 I (belowL l 1)),(5,I i),(6,.ptr 1 0 0),(8,I j)],[.cells 0 [encL NodeR.enc l,I next],.cells 0 l[i].enc]⟩) (fun j=>l[i].l.length -j) (fun j=>j≤l[i].l.length∧∀q (h:q<l[i].l.length),q<j→(findB l l[i].l[q].ino).2=true) 0 ?_ ?_ ?_
  ·exact Wa
  ·simp
  rintro j ⟨k1,k2⟩ A2 hA2
  by_cases hj:j<l[i].l.length
  case neg=>
   have gi:ZjT l i l[i]:=⟨r1,r2,fun x hx=>by
    obtain⟨q,hq,rfl⟩:=List.getElem_of_mem hx
    exact k2 q hq (by omega)⟩
   have g3:∀q (h:q<l.length),q<i+1→ZjT l q l[q]:=fun q h hq=>by
    by_cases e:q=i
    ·subst e;exact gi
    ·exact g2 q h (by omega)
   have s_:=An @hi (An @hj (@hwi))
   try simp[s_]
   repeat' ((first|((first|refine Tp ?_|refine Tn ?_|refine T2 ?_ ?_)<;>intro h_ e_ n_)|(exact hA (i+1) _ Wc ⟨hi,g3⟩ (by omega))|refine Dg 9 7 [] [] ?_|rw[Ip]|rw[In]|rw[Fz]|rw[Gz]|fail)<;>first|simp[e_,n_,s_]|simp[s_]|skip)
  have hei:=hE l[i] (List.getElem_mem hi)
  have hwj:=Zi hj (by simp only[maxLen];omega)
  have c3:Zd Tryz.prog 50 [.agg [encL NodeR.enc l,I next],I l[i].l[j].ino] (.tup [encN (findB l l[i].l[j].ino).1,B (findB l l[i].l[j].ino).2]):=hfd l[i].l[j].ino
  cases hq:(findB l l[i].l[j].ino).2 with
  |false=>
   have e:rf=false:=hb fun g=>by
    have:=g.kids l[i].l[j] (List.getElem_mem hj)
    rw[hq] at this;cases this
   subst e
   rw[hq] at c3
   have s_:=An @hi (@hj)
   try simp[s_]
   repeat' ((first|((first|refine Tp ?_|refine Tn ?_|refine T2 ?_ ?_)<;>intro h_ e_ n_)|refine Pg c3 ?_|refine AW.room (Dg 17 13 [2] [(11,.w)] ?_)|refine Dg 9 7 [] [] ?_|rw[Ip]|rw[In]|rw[Fz]|rw[Gz]|fail)<;>first|simp[e_,n_,s_]|simp[s_]|skip)
  |true=>
   rw[hq] at c3
   have k3:∀q (h:q<l[i].l.length),q<j+1→(findB l l[i].l[q].ino).2=true:=fun q h hqj=>by
    by_cases e:q=j
    ·subst e;exact hq
    ·exact k2 q h (by omega)
   have s_:=An @hi (An @hj (@hwj))
   try simp[s_]
   repeat' ((first|((first|refine Tp ?_|refine Tn ?_|refine T2 ?_ ?_)<;>intro h_ e_ n_)|(exact hA2 (j+1) _ Wc ⟨hj,k3⟩ (by omega))|refine Pg c3 ?_|refine AW.room (Dg 17 13 [2] [(11,.w)] ?_)|refine Dg 9 7 [] [] ?_|rw[Ip]|rw[In]|rw[Fz]|rw[Gz]|fail)<;>first|simp[e_,n_,s_]|simp[s_]|skip)
 have p4:¬1<l[i].links:=fun e=>r2 ⟨p0,.inr ⟨p2,.inl e⟩⟩
 have mb:l[i].ino∈belowL l 1:=Decidable.byContradiction fun e=>r2 ⟨p0,.inr ⟨p2,.inr e⟩⟩
 rw[show decide (l[i].ino∈belowL l 1)=true from decide_eq_true mb] at c2
 have s_:=An @hi (An @r1 (An @p0 (An @p1 (An @p2 (An @p4 (@FSR.enc.eq_1))))))
 try simp[s_]
 repeat' ((first|((first|refine Tp ?_|refine Tn ?_|refine T2 ?_ ?_)<;>intro h_ e_ n_)|refine Pg c1 ?_|refine Pg c2 ?_|refine Dg 9 7 [] [] ?_|rw[Ip]|rw[In]|rw[Fz]|rw[Gz]|fail)<;>first|simp[e_,n_,s_]|simp[s_]|skip)
 refine AW.loopG (lit:=fun _=>false) (fun j:Nat=>⟨111,pat [(1,.ptr 0 0 0),(4,enc1 I (belowL l 1)),(5,I i),(6,.ptr 1 0 0),(8,I j)],[.cells 0 [encL NodeR.enc l,I next],.cells 0 l[i].enc]⟩) (fun j=>l[i].l.length -j) (fun j=>j≤l[i].l.length∧∀q (h:q<l[i].l.length),q<j→(findB l l[i].l[q].ino).2=true) 0 ?_ ?_ ?_
 ·exact Wa
 ·simp
 rintro j ⟨k1,k2⟩ A2 hA2
 by_cases hj:j<l[i].l.length
 case neg=>
  have gi:ZjT l i l[i]:=⟨r1,r2,fun x hx=>by
   obtain⟨q,hq,rfl⟩:=List.getElem_of_mem hx
   exact k2 q hq (by omega)⟩
  have g3:∀q (h:q<l.length),q<i+1→ZjT l q l[q]:=fun q h hq=>by
   by_cases e:q=i
   ·subst e;exact gi
   ·exact g2 q h (by omega)
  have s_:=An @hi (An @hj (@hwi))
  try simp[s_]
  repeat' ((first|((first|refine Tp ?_|refine Tn ?_|refine T2 ?_ ?_)<;>intro h_ e_ n_)|(exact hA (i+1) _ Wc ⟨hi,g3⟩ (by omega))|refine Dg 9 7 [] [] ?_|rw[Ip]|rw[In]|rw[Fz]|rw[Gz]|fail)<;>first|simp[e_,n_,s_]|simp[s_]|skip)
 have hei:=hE l[i] (List.getElem_mem hi)
 have hwj:=Zi hj (by simp only[maxLen];omega)
 have c3:Zd Tryz.prog 50 [.agg [encL NodeR.enc l,I next],I l[i].l[j].ino] (.tup [encN (findB l l[i].l[j].ino).1,B (findB l l[i].l[j].ino).2]):=hfd l[i].l[j].ino
 cases hq:(findB l l[i].l[j].ino).2 with
 |false=>
  have e:rf=false:=hb fun g=>by
   have:=g.kids l[i].l[j] (List.getElem_mem hj)
   rw[hq] at this;cases this
  subst e
  rw[hq] at c3
  have s_:=An @hi (@hj)
  try simp[s_]
  repeat' ((first|((first|refine Tp ?_|refine Tn ?_|refine T2 ?_ ?_)<;>intro h_ e_ n_)|refine Pg c3 ?_|refine AW.room (Dg 17 13 [2] [(11,.w)] ?_)|refine Dg 9 7 [] [] ?_|rw[Ip]|rw[In]|rw[Fz]|rw[Gz]|fail)<;>first|simp[e_,n_,s_]|simp[s_]|skip)
 |true=>
  rw[hq] at c3
  have k3:∀q (h:q<l[i].l.length),q<j+1→(findB l l[i].l[q].ino).2=true:=fun q h hqj=>by
   by_cases e:q=j
   ·subst e;exact hq
   ·exact k2 q h (by omega)
  have s_:=An @hi (An @hj (@hwj))
  try simp[s_]
  repeat' ((first|((first|refine Tp ?_|refine Tn ?_|refine T2 ?_ ?_)<;>intro h_ e_ n_)|(exact hA2 (j+1) _ Wc ⟨hj,k3⟩ (by omega))|refine Pg c3 ?_|refine AW.room (Dg 17 13 [2] [(11,.w)] ?_)|refine Dg 9 7 [] [] ?_|rw[Ip]|rw[In]|rw[Fz]|rw[Gz]|fail)<;>first|simp[e_,n_,s_]|simp[s_]|skip)
theorem Zwb (a b:List Int):Zd Tryz.prog 107 [enc1 I a,enc1 I b] (B (decide (a=b))):=by
 refine Pm Tryz.func107 fun hfit=> ?_
 simp at hfit
 simp[Tryz.f107]
 by_cases hl:a.length=b.length
 case neg=>
  have:¬a=b:=fun e=>hl (by rw[e])
  simp[hl,this]
 simp[hl]
 refine AW.loopF (lit:=fun _=>false) (fun i:Nat=>⟨26,pat [(0,enc1 I a),(1,enc1 I b),(5,I i)],[]⟩) (fun i=>b.length -i) (fun i=>i≤b.length∧a.take i=b.take i) 0 ?_ ?_ ?_
 ·exact Wz
 ·simp
 ·rintro i ⟨hi,ht⟩
  simp
  refine ZcG _ _ (fun h=> ?_) (fun h=> ?_)
  ·simp at h
   have ha:i<a.length:=by omega
   simp
   refine Dg _ 9 [] [] ?_
   have hb:i<b.length:=by omega
   simp[ha,hb]
   refine ZcG _ _ (fun h2=> ?_) (fun h2=> ?_)
   ·simp at h2
    have:¬a=b:=fun e=>by subst e;exact h2 rfl
    simp[this]
   ·simp at h2
    simp[Zi ha hfit.1]
    exact⟨i+1,Wz,⟨by omega,take_step ht ha hb h2⟩,by omega⟩
  ·simp at h
   have:=ZbN ht (by omega) (by omega)
   simp[this]
theorem stV_ok (v:VerR):Zd Tryz.prog 102 [.agg v.enc] (I v.stamp):=by
 refine Pm Tryz.func102 fun hfit=> ?_
 simp[Tryz.f102]
 try simp
 repeat' ((first|((first|refine Tp ?_|refine Tn ?_|refine T2 ?_ ?_)<;>intro h_ e_ n_)|rw[Ip]|rw[In]|rw[Fz]|rw[Gz]|fail)<;>first|simp[e_,n_]|simp|skip)
theorem atV_ok (l:List VerR) (st:Int):Zd Tryz.prog 121 [encL VerR.enc l,I st,.fn 102 []] (I (atS VerR.stamp l st)):=by
 obtain⟨F,hF⟩:∃F,atS VerR.stamp l st=F:=⟨_,rfl⟩
 rw[hF]
 unfold atS at hF
 refine Pm Tryz.func121 fun hfit=> ?_
 simp at hfit
 simp[Tryz.f121]
 refine AW.loopG (lit:=fun _=>false) (fun x:Nat×Int=>⟨25,pat [(1,I st),(2,.fn 102 []),(7,I x.2),(10,encL VerR.enc l),(11,I l.length),(12,I x.1)],[]⟩) (fun x=>l.length -x.1) (fun x=>x.1≤l.length∧atGo VerR.stamp st (l.drop x.1) x.1 x.2=F) (0,-1) ?_ ?_ ?_
 ·exact Wa
 ·exact⟨by simp,by simpa using hF⟩
 rintro⟨i,k⟩ ⟨g1,g2⟩ A hA
 simp only at g1 g2 hA
 by_cases hi:i<l.length
 case neg=>
  rw[List.drop_eq_nil_of_le (by omega),atGo] at g2
  rw[←g2]
  have s_:=hi
  try simp[s_]
  repeat' ((first|((first|refine Tp ?_|refine Tn ?_|refine T2 ?_ ?_)<;>intro h_ e_ n_)|rw[Ip]|rw[In]|rw[Fz]|rw[Gz]|fail)<;>first|simp[e_,n_,s_]|simp[s_]|skip)
 rw[List.drop_eq_getElem_cons hi,atGo] at g2
 have hwi:=Zi hi hfit.1
 have h1:=stV_ok l[i]
 by_cases q:l[i].stamp≤st
 ·rw[if_pos q] at g2
  have s_:=An @hi (An @hwi (@q))
  try simp[s_]
  repeat' ((first|((first|refine Tp ?_|refine Tn ?_|refine T2 ?_ ?_)<;>intro h_ e_ n_)|(exact hA (i+1,i) _ Wc ⟨hi,g2⟩ (by simp only;omega))|refine Pg h1 ?_|rw[Ip]|rw[In]|rw[Fz]|rw[Gz]|fail)<;>first|simp[e_,n_,s_]|simp[s_]|skip)
 ·rw[if_neg q] at g2
  have s_:=An @hi (An @hwi (@q))
  try simp[s_]
  repeat' ((first|((first|refine Tp ?_|refine Tn ?_|refine T2 ?_ ?_)<;>intro h_ e_ n_)|(exact hA (i+1,k) _ Wc ⟨hi,g2⟩ (by simp only;omega))|refine Pg h1 ?_|rw[Ip]|rw[In]|rw[Fz]|rw[Gz]|fail)<;>first|simp[e_,n_,s_]|simp[s_]|skip)
theorem stC_ok (v:CountR):Zd Tryz.prog 100 [.agg v.enc] (I v.stamp):=by
 refine Pm Tryz.func100 fun hfit=> ?_
 simp[Tryz.f100]
 try simp
 repeat' ((first|((first|refine Tp ?_|refine Tn ?_|refine T2 ?_ ?_)<;>intro h_ e_ n_)|rw[Ip]|rw[In]|rw[Fz]|rw[Gz]|fail)<;>first|simp[e_,n_]|simp|skip)
theorem atC_ok (l:List CountR) (st:Int):Zd Tryz.prog 122 [encL CountR.enc l,I st,.fn 100 []] (I (atS CountR.stamp l st)):=by
 obtain⟨F,hF⟩:∃F,atS CountR.stamp l st=F:=⟨_,rfl⟩
 rw[hF]
 unfold atS at hF
 refine Pm Tryz.func122 fun hfit=> ?_
 simp at hfit
 simp[Tryz.f122]
 refine AW.loopG (lit:=fun _=>false) (fun x:Nat×Int=>⟨25,pat [(1,I st),(2,.fn 100 []),(7,I x.2),(10,encL CountR.enc l),(11,I l.length),(12,I x.1)],[]⟩) (fun x=>l.length -x.1) (fun x=>x.1≤l.length∧atGo CountR.stamp st (l.drop x.1) x.1 x.2=F) (0,-1) ?_ ?_ ?_
 ·exact Wa
 ·exact⟨by simp,by simpa using hF⟩
 rintro⟨i,k⟩ ⟨g1,g2⟩ A hA
 simp only at g1 g2 hA
 by_cases hi:i<l.length
 case neg=>
  rw[List.drop_eq_nil_of_le (by omega),atGo] at g2
  rw[←g2]
  have s_:=hi
  try simp[s_]
  repeat' ((first|((first|refine Tp ?_|refine Tn ?_|refine T2 ?_ ?_)<;>intro h_ e_ n_)|rw[Ip]|rw[In]|rw[Fz]|rw[Gz]|fail)<;>first|simp[e_,n_,s_]|simp[s_]|skip)
 rw[List.drop_eq_getElem_cons hi,atGo] at g2
 have hwi:=Zi hi hfit.1
 have h1:=stC_ok l[i]
 by_cases q:l[i].stamp≤st
 ·rw[if_pos q] at g2
  have s_:=An @hi (An @hwi (@q))
  try simp[s_]
  repeat' ((first|((first|refine Tp ?_|refine Tn ?_|refine T2 ?_ ?_)<;>intro h_ e_ n_)|(exact hA (i+1,i) _ Wc ⟨hi,g2⟩ (by simp only;omega))|refine Pg h1 ?_|rw[Ip]|rw[In]|rw[Fz]|rw[Gz]|fail)<;>first|simp[e_,n_,s_]|simp[s_]|skip)
 ·rw[if_neg q] at g2
  have s_:=An @hi (An @hwi (@q))
  try simp[s_]
  repeat' ((first|((first|refine Tp ?_|refine Tn ?_|refine T2 ?_ ?_)<;>intro h_ e_ n_)|(exact hA (i+1,k) _ Wc ⟨hi,g2⟩ (by simp only;omega))|refine Pg h1 ?_|rw[Ip]|rw[In]|rw[Fz]|rw[Gz]|fail)<;>first|simp[e_,n_,s_]|simp[s_]|skip)
theorem Zwc (c:ChainR) (st:Int) (hl:c.l.length≤2000000):Zd Tryz.prog 51 [.agg c.enc,I st] (I (atS VerR.stamp c.l st)):=by
 have hu:=ZcQ VerR.stamp c.l st
 generalize atS VerR.stamp c.l st=F at*
 obtain⟨ino,l⟩:=c
 simp only at hl hu
 have hw0:IntKind.i64.wrap ((l.length:Int) -1)=(l.length:Int) -1:=Zf (by omega) (by omega)
 refine Pm Tryz.func51 fun hfit=> ?_
 simp[Tryz.f51,ChainR.enc,hw0]
 refine AW.loopG (lit:=fun _=>false) (fun k:Int=>⟨25,pat [(1,I st),(2,.ptr 0 0 0),(5,I k)],[.cells 0 [I ino,encL VerR.enc l]]⟩) (fun k=>(k+1).toNat) (fun k=> -1≤k∧k<l.length∧∀(j:Nat) (h:j<l.length),k<j→st<l[j].stamp) ((l.length:Int) -1) ?_ ?_ ?_
 ·exact Wa
 ·exact⟨by omega,by omega,fun j h hj=>by omega⟩
 rintro k ⟨g1,g2,g3⟩ A hA
 by_cases h0:0≤k
 case neg=>
  have hk:k= -1:=by omega
  have e:F=k:=hu.uniq _ ⟨g1,g2,g3,fun h h0'=>absurd h0' h0⟩
  subst e hk
  try simp
  repeat' ((first|((first|refine Tp ?_|refine Tn ?_|refine T2 ?_ ?_)<;>intro h_ e_ n_)|rw[Ip]|rw[In]|rw[Fz]|rw[Gz]|fail)<;>first|simp[e_,n_]|simp|skip)
 obtain⟨j,rfl⟩:=Int.eq_ofNat_of_zero_le h0
 have hj:j<l.length:=by omega
 have hw:IntKind.i64.wrap ((j:Int) -1)=(j:Int) -1:=Zf (by omega) (by omega)
 by_cases q:st<l[j].stamp
 ·have s_:=An @hj (An @q (@hw))
  try simp[s_]
  repeat' ((first|((first|refine Tp ?_|refine Tn ?_|refine T2 ?_ ?_)<;>intro h_ e_ n_)|(exact hA ((j:Int) -1) _ Wc ⟨by omega,by omega,fun i h hi=>if e:i=j then by subst e;exact q else g3 i h (by omega)⟩ (by omega))|rw[Ip]|rw[In]|rw[Fz]|rw[Gz]|fail)<;>first|simp[e_,n_,s_]|simp[s_]|skip)
 ·have e:F=(j:Int):=hu.uniq _ ⟨g1,g2,g3,fun h h0'=>by simp only[Int.toNat_natCast];omega⟩
  subst e
  have s_:=An @hj (@q)
  try simp[s_]
  repeat' ((first|((first|refine Tp ?_|refine Tn ?_|refine T2 ?_ ?_)<;>intro h_ e_ n_)|rw[Ip]|rw[In]|rw[Fz]|rw[Gz]|fail)<;>first|simp[e_,n_,s_]|simp[s_]|skip)
theorem Zwd (s:StoreR) (st:Int) (hl:s.nexts.length≤2000000):Zd Tryz.prog 52 [.agg s.enc,I st] (I (atS CountR.stamp s.nexts st)):=by
 have hu:=ZcQ CountR.stamp s.nexts st
 generalize atS CountR.stamp s.nexts st=F at*
 obtain⟨cs,l,stamp⟩:=s
 simp only at hl hu
 have hw0:IntKind.i64.wrap ((l.length:Int) -1)=(l.length:Int) -1:=Zf (by omega) (by omega)
 refine Pm Tryz.func52 fun hfit=> ?_
 simp[Tryz.f52,StoreR.enc,hw0]
 refine AW.loopG (lit:=fun _=>false) (fun k:Int=>⟨25,pat [(1,I st),(2,.ptr 0 0 0),(5,I k)],[.cells 0 [encL ChainR.enc cs,encL CountR.enc l,I stamp]]⟩) (fun k=>(k+1).toNat) (fun k=> -1≤k∧k<l.length∧∀(j:Nat) (h:j<l.length),k<j→st<l[j].stamp) ((l.length:Int) -1) ?_ ?_ ?_
 ·exact Wa
 ·exact⟨by omega,by omega,fun j h hj=>by omega⟩
 rintro k ⟨g1,g2,g3⟩ A hA
 by_cases h0:0≤k
 case neg=>
  have hk:k= -1:=by omega
  have e:F=k:=hu.uniq _ ⟨g1,g2,g3,fun h h0'=>absurd h0' h0⟩
  subst e hk
  try simp
  repeat' ((first|((first|refine Tp ?_|refine Tn ?_|refine T2 ?_ ?_)<;>intro h_ e_ n_)|rw[Ip]|rw[In]|rw[Fz]|rw[Gz]|fail)<;>first|simp[e_,n_]|simp|skip)
 obtain⟨j,rfl⟩:=Int.eq_ofNat_of_zero_le h0
 have hj:j<l.length:=by omega
 have hw:IntKind.i64.wrap ((j:Int) -1)=(j:Int) -1:=Zf (by omega) (by omega)
 by_cases q:st<l[j].stamp
 ·have s_:=An @hj (An @q (@hw))
  try simp[s_]
  repeat' ((first|((first|refine Tp ?_|refine Tn ?_|refine T2 ?_ ?_)<;>intro h_ e_ n_)|(exact hA ((j:Int) -1) _ Wc ⟨by omega,by omega,fun i h hi=>if e:i=j then by subst e;exact q else g3 i h (by omega)⟩ (by omega))|rw[Ip]|rw[In]|rw[Fz]|rw[Gz]|fail)<;>first|simp[e_,n_,s_]|simp[s_]|skip)
 ·have e:F=(j:Int):=hu.uniq _ ⟨g1,g2,g3,fun h h0'=>by simp only[Int.toNat_natCast];omega⟩
  subst e
  have s_:=An @hj (@q)
  try simp[s_]
  repeat' ((first|((first|refine Tp ?_|refine Tn ?_|refine T2 ?_ ?_)<;>intro h_ e_ n_)|rw[Ip]|rw[In]|rw[Fz]|rw[Gz]|fail)<;>first|simp[e_,n_,s_]|simp[s_]|skip)
theorem ZoO {c:ChainR} {st:Int} (h:atS VerR.stamp c.l st<0):Zad c st=[]:=by
 unfold Zad;rw[(Zgq VerR.stamp st c.l).1 h]
theorem ZoP {c:ChainR} {st:Int} {j:Nat} (h:atS VerR.stamp c.l st=j) (hj:j<c.l.length):Zad c st=if c.l[j].gone=true then[] else[c.l[j].node]:=by
 have:=(Zgq VerR.stamp st c.l).2 (by rw[h];exact hj) (by omega)
 simp only[h,Int.toNat_natCast] at this
 unfold Zad;rw[this]
theorem ZoQ {l:List CountR} {st:Int} (h:atS CountR.stamp l st<0):nextAt l st=1:=by
 unfold nextAt;rw[(Zgq CountR.stamp st l).1 h]
theorem ZoR {l:List CountR} {st:Int} {j:Nat} (h:atS CountR.stamp l st=j) (hj:j<l.length):nextAt l st=l[j].next:=by
 have:=(Zgq CountR.stamp st l).2 (by rw[h];exact hj) (by omega)
 simp only[h,Int.toNat_natCast] at this
 unfold nextAt;rw[this]
theorem view_ok (s:StoreR) (st:Int) (hl:s.l.length≤2000000):Zd Tryz.prog 64 [.agg s.enc,I st] (encF (viewS s st)):=by
 obtain⟨cs,ns,stamp⟩:=s
 simp only at hl
 unfold viewS
 simp only
 obtain⟨F,hF⟩:∃F,(cs.flatMap fun c=>Zad c st)=F:=⟨_,rfl⟩
 rw[hF]
 have hC:=atC_ok ns st
 have hu:=ZcQ CountR.stamp ns st
 have n1:=ZoQ (l:=ns) (st:=st)
 have n2:=fun j=>ZoR (l:=ns) (st:=st) (j:=j)
 generalize atS CountR.stamp ns st=kn at*
 generalize nextAt ns st=nx at*
 refine Pm Tryz.func64 fun hfit=> ?_
 simp[Tryz.f64,StoreR.enc]
 refine AW.loopG (lit:=fun _=>false) (fun x:Nat×List NodeR=>⟨59,pat [(1,I st),(2,.ptr 0 0 0),(4,.ptr 1 0 0),(5,.ptr 2 0 0),(12,encL ChainR.enc cs),(13,I cs.length),(14,I x.1)],[.cells 0 [encL ChainR.enc cs,encL CountR.enc ns,I stamp],.cells 0 [.sl true 0 [],I 0],.cells 0 [.own 3 x.2.length 0 x.2.length 5,I 1],.cells x.2.length (x.2.flatMap NodeR.enc)]⟩) (fun x=>cs.length -x.1)
  (fun x=>x.1≤cs.length∧x.2.length≤x.1∧x.2++((cs.drop x.1).flatMap fun c=>Zad c st)=F) (0,[]) ?_ ?_ ?_
 ·exact Wk.trans (Wk.ownNilCell 2 0 0 5 rfl rfl) Wa
 ·exact⟨by simp,by simp,by simpa using hF⟩
 rintro⟨i,acc⟩ ⟨g1,g2,g3⟩ A hA
 simp only at g1 g2 g3 hA
 by_cases hi:i<cs.length
 case neg=>
  rw[List.drop_eq_nil_of_le (by omega),List.flatMap_nil,List.append_nil] at g3
  rw[←g3]
  by_cases h0:0≤kn
  ·obtain⟨j,rfl⟩:=Int.eq_ofNat_of_zero_le h0
   have hj:j<ns.length:=by have:=hu.hi;omega
   have n2:=n2 j rfl hj
   subst n2
   have s_:=An @hi (An @hj (@FSR.enc.eq_1))
   try simp[s_]
   repeat' ((first|((first|refine Tp ?_|refine Tn ?_|refine T2 ?_ ?_)<;>intro h_ e_ n_)|refine Pg hC ?_|refine Dg 7 11 [] [] ?_|rw[Ip]|rw[In]|rw[Fz]|rw[Gz]|fail)<;>first|simp[e_,n_,s_]|simp[s_]|skip)
  ·have n1:=n1 (by omega)
   subst n1
   have s_:=An @hi (@FSR.enc.eq_1)
   try simp[s_]
   repeat' ((first|((first|refine Tp ?_|refine Tn ?_|refine T2 ?_ ?_)<;>intro h_ e_ n_)|refine Pg hC ?_|refine Dg 7 11 [] [] ?_|rw[Ip]|rw[In]|rw[Fz]|rw[Gz]|fail)<;>first|simp[e_,n_,s_]|simp[s_]|skip)
 rw[List.drop_eq_getElem_cons hi,List.flatMap_cons] at g3
 have hwi:=Zi hi (by simp only[maxLen];omega)
 have hm:acc.length+1≤maxLen:=by simp only[maxLen];omega
 have hm':acc.length+1≤17592186044416:=by omega
 generalize hc:cs[i]=c at*
 have hV:=atV_ok c.l st
 have hv:=ZcQ VerR.stamp c.l st
 have v1:=ZoO (c:=c) (st:=st)
 have v2:=fun j=>ZoP (c:=c) (st:=st) (j:=j)
 generalize atS VerR.stamp c.l st=kv at*
 by_cases h0:0≤kv
 case neg=>
  rw[v1 (by omega),List.nil_append] at g3
  have s_:=An @hi (An @hwi (An @hc (An @h0 (@ChainR.enc.eq_1))))
  try simp[s_]
  repeat' ((first|((first|refine Tp ?_|refine Tn ?_|refine T2 ?_ ?_)<;>intro h_ e_ n_)|(exact hA (i+1,acc) _ Wc ⟨hi,by simp only;omega,g3⟩ (by simp only;omega))|refine Pg hV ?_|refine Dg 7 11 [] [] ?_|rw[Ip]|rw[In]|rw[Fz]|rw[Gz]|fail)<;>first|simp[e_,n_,s_]|simp[s_]|skip)
 obtain⟨j,rfl⟩:=Int.eq_ofNat_of_zero_le h0
 have hj:j<c.l.length:=by have:=hv.hi;omega
 have v2:=v2 j rfl hj
 have hal:(acc++[c.l[j].node]).length=acc.length+1:=by simp
 cases hg:c.l[j].gone with
 |true=>
  rw[v2,if_pos hg,List.nil_append] at g3
  have s_:=An @hi (An @hwi (An @hc (An @hj (An @hg (@ChainR.enc.eq_1)))))
  try simp[s_]
  repeat' ((first|((first|refine Tp ?_|refine Tn ?_|refine T2 ?_ ?_)<;>intro h_ e_ n_)|(exact hA (i+1,acc) _ Wc ⟨hi,by simp only;omega,g3⟩ (by simp only;omega))|refine Pg hV ?_|refine Dg 7 11 [] [] ?_|rw[Ip]|rw[In]|rw[Fz]|rw[Gz]|fail)<;>first|simp[e_,n_,s_]|simp[s_]|skip)
 |false=>
  rw[v2,if_neg (by rw[hg];simp)] at g3
  have s_:=An @hi (An @hwi (An @hc (An @hj (An @hg (An @hm (An @hm' (@ChainR.enc.eq_1)))))))
  try simp[s_]
  repeat' ((first|((first|refine Tp ?_|refine Tn ?_|refine T2 ?_ ?_)<;>intro h_ e_ n_)|(exact hA (i+1,acc++[c.l[j].node]) _ Wc ⟨hi,by simp only[hal];omega,by simpa using g3⟩ (by simp only;omega))|refine Pg hV ?_|refine Dg 7 11 [] [] ?_|rw[Ip]|rw[In]|rw[Fz]|rw[Gz]|fail)<;>first|simp[e_,n_,s_]|simp[s_]|skip)
theorem ZoS (s:StoreR) (st:Int) (hb:Zcy s):Zd Tryz.prog 20 [.agg s.enc,I st] (encF (viewS s st)):=by
 have hl:=hb.l
 have hnl:=hb.nexts
 have hcl:=hb.vers
 have hC:=Zwd s st (by omega)
 clear hb
 obtain⟨cs,ns,stamp⟩:=s
 simp only at hl hnl hcl hC
 unfold viewS
 simp only
 obtain⟨F,hF⟩:∃F,(cs.flatMap fun c=>Zad c st)=F:=⟨_,rfl⟩
 rw[hF]
 have hu:=ZcQ CountR.stamp ns st
 have n1:=ZoQ (l:=ns) (st:=st)
 have n2:=fun j=>ZoR (l:=ns) (st:=st) (j:=j)
 generalize atS CountR.stamp ns st=kn at*
 generalize nextAt ns st=nx at*
 refine Pm Tryz.func20 fun hfit=> ?_
 simp[Tryz.f20,StoreR.enc]
 refine AW.loopG (lit:=fun _=>false) (fun x:Nat×List NodeR=>⟨67,pat [(1,I st),(2,.ptr 0 0 0),(4,.ptr 1 0 0),(5,.ptr 2 0 0),(6,I x.1)],[.cells 0 [encL ChainR.enc cs,encL CountR.enc ns,I stamp],.cells 0 [.sl true 0 [],I 0],.cells 0 [.own 3 x.2.length 0 x.2.length 5,I 1],.cells x.2.length (x.2.flatMap NodeR.enc)]⟩) (fun x=>cs.length -x.1)
  (fun x=>x.1≤cs.length∧x.2.length≤x.1∧x.2++((cs.drop x.1).flatMap fun c=>Zad c st)=F) (0,[]) ?_ ?_ ?_
 ·exact Wk.trans (Wk.ownNilCell 2 0 0 5 rfl rfl) Wa
 ·exact⟨by simp,by simp,by simpa using hF⟩
 rintro⟨i,acc⟩ ⟨g1,g2,g3⟩ A hA
 simp only at g1 g2 g3 hA
 by_cases hi:i<cs.length
 case neg=>
  rw[List.drop_eq_nil_of_le (by omega),List.flatMap_nil,List.append_nil] at g3
  rw[←g3]
  by_cases h0:0≤kn
  ·obtain⟨j,rfl⟩:=Int.eq_ofNat_of_zero_le h0
   have hj:j<ns.length:=by have:=hu.hi;omega
   have n2:=n2 j rfl hj
   subst n2
   have s_:=An @hi (An @hj (An @FSR.enc.eq_1 (@StoreR.enc.eq_1)))
   try simp[s_]
   repeat' ((first|((first|refine Tp ?_|refine Tn ?_|refine T2 ?_ ?_)<;>intro h_ e_ n_)|refine Pg hC ?_|refine Dg 7 15 [] [] ?_|rw[Ip]|rw[In]|rw[Fz]|rw[Gz]|fail)<;>first|simp[e_,n_,s_]|simp[s_]|skip)
  ·have n1:=n1 (by omega)
   subst n1
   have s_:=An @hi (An @FSR.enc.eq_1 (@StoreR.enc.eq_1))
   try simp[s_]
   repeat' ((first|((first|refine Tp ?_|refine Tn ?_|refine T2 ?_ ?_)<;>intro h_ e_ n_)|refine Pg hC ?_|refine Dg 7 15 [] [] ?_|rw[Ip]|rw[In]|rw[Fz]|rw[Gz]|fail)<;>first|simp[e_,n_,s_]|simp[s_]|skip)
 rw[List.drop_eq_getElem_cons hi,List.flatMap_cons] at g3
 have hwi:=Zi hi (by simp only[maxLen];omega)
 have hm:acc.length+1≤maxLen:=by simp only[maxLen];omega
 have hm':acc.length+1≤17592186044416:=by omega
 have hV:=Zwc cs[i] st (by have:=hcl _ (List.getElem_mem hi);omega)
 generalize hc:cs[i]=c at*
 have hv:=ZcQ VerR.stamp c.l st
 have v1:=ZoO (c:=c) (st:=st)
 have v2:=fun j=>ZoP (c:=c) (st:=st) (j:=j)
 generalize atS VerR.stamp c.l st=kv at*
 by_cases h0:0≤kv
 case neg=>
  rw[v1 (by omega),List.nil_append] at g3
  have s_:=An @hi (An @hwi (An @hc (@h0)))
  try simp[s_]
  repeat' ((first|((first|refine Tp ?_|refine Tn ?_|refine T2 ?_ ?_)<;>intro h_ e_ n_)|(exact hA (i+1,acc) _ Wc ⟨hi,by simp only;omega,g3⟩ (by simp only;omega))|refine Pg hV ?_|refine Dg 7 15 [] [] ?_|rw[Ip]|rw[In]|rw[Fz]|rw[Gz]|fail)<;>first|simp[e_,n_,s_]|simp[s_]|skip)
 obtain⟨j,rfl⟩:=Int.eq_ofNat_of_zero_le h0
 have hj:j<c.l.length:=by have:=hv.hi;omega
 have v2:=v2 j rfl hj
 have hal:(acc++[c.l[j].node]).length=acc.length+1:=by simp
 cases hg:c.l[j].gone with
 |true=>
  rw[v2,if_pos hg,List.nil_append] at g3
  have s_:=An @hi (An @hwi (An @hc (An @hj (@hg))))
  try simp[s_]
  repeat' ((first|((first|refine Tp ?_|refine Tn ?_|refine T2 ?_ ?_)<;>intro h_ e_ n_)|(exact hA (i+1,acc) _ Wc ⟨hi,by simp only;omega,g3⟩ (by simp only;omega))|refine Pg hV ?_|refine Dg 7 15 [] [] ?_|rw[Ip]|rw[In]|rw[Fz]|rw[Gz]|fail)<;>first|simp[e_,n_,s_]|simp[s_]|skip)
 |false=>
  rw[v2,if_neg (by rw[hg];simp)] at g3
  have s_:=An @hi (An @hwi (An @hc (An @hj (An @hg (An @hm (@hm'))))))
  try simp[s_]
  repeat' ((first|((first|refine Tp ?_|refine Tn ?_|refine T2 ?_ ?_)<;>intro h_ e_ n_)|(exact hA (i+1,acc++[c.l[j].node]) _ Wc ⟨hi,by simp only[hal];omega,by simpa using g3⟩ (by simp only;omega))|refine Pg hV ?_|refine Dg 7 15 [] [] ?_|rw[Ip]|rw[In]|rw[Fz]|rw[Gz]|fail)<;>first|simp[e_,n_,s_]|simp[s_]|skip)
theorem ZqN {c:ChainR} {last:Int} (h:Zek last c) (st:Int) (hl:c.l.length -1<c.l.length):Zcf st c=decide (st<c.l[c.l.length -1].stamp):=by
 have hp:=List.pairwise_iff_getElem.1 h.rise
 unfold Zcf
 by_cases q:st<c.l[c.l.length -1].stamp
 ·rw[decide_eq_true q]
  exact List.any_eq_true.2 ⟨_,List.getElem_mem hl,by simpa using q⟩
 ·rw[decide_eq_false q]
  rw[List.any_eq_false]
  intro v hv
  obtain⟨j,hj,rfl⟩:=List.getElem_of_mem hv
  rcases Nat.lt_or_ge j (c.l.length -1) with g|g
  ·have:=hp j (c.l.length -1) hj hl g
   simp;omega
  ·have:j=c.l.length -1:=by omega
   subst this;simpa using q
theorem ZqO {s:StoreR} (h:ZG s) (st:Int) (hl:s.nexts.length -1<s.nexts.length):(s.nexts.any fun c=>decide (st<c.stamp))=decide (st<s.nexts[s.nexts.length -1].stamp):=by
 have hp:=List.pairwise_iff_getElem.1 h.nrise
 by_cases q:st<s.nexts[s.nexts.length -1].stamp
 ·rw[decide_eq_true q]
  exact List.any_eq_true.2 ⟨_,List.getElem_mem hl,by simpa using q⟩
 ·rw[decide_eq_false q]
  rw[List.any_eq_false]
  intro v hv
  obtain⟨j,hj,rfl⟩:=List.getElem_of_mem hv
  rcases Nat.lt_or_ge j (s.nexts.length -1) with g|g
  ·have:=hp j (s.nexts.length -1) hj hl g
   simp;omega
  ·have:j=s.nexts.length -1:=by omega
   subst this;simpa using q
theorem Zwe (s:StoreR) (st:Int) (hP:ZG s) (hb:Zcy s):Zd Tryz.prog 296 [.agg s.enc,I st] (enc1 I (sinceS s st)):=by
 have hl:=hb.l
 have hnl:=hb.nexts
 have hcl:=hb.vers
 have hcs:=hP.chain
 have hn0:s.nexts.length -1<s.nexts.length:=by have:=List.length_pos_iff.2 hP.some;omega
 have hnx:=ZqO hP st hn0
 have hwn:IntKind.i64.wrap ((s.nexts.length:Int) -1)=((s.nexts.length -1:Nat):Int):=by rw[Zf (by omega) (by omega)];omega
 unfold sinceS Zbn
 rw[hnx]
 clear hb hnx
 obtain⟨cs,ns,stamp⟩:=s
 clear hP
 simp only at*
 obtain⟨F,hF⟩:∃F,(cs.filter (Zcf st)).map (·.ino)=F:=⟨_,rfl⟩
 rw[hF]
 refine Zd.mk (fun t=>t==56) Tryz.func296 rfl rfl rfl (Ent.mk Tryz.func296 (by kernel_rfl) rfl) (by simp) (by simp) fun hfit=> ?_
 simp[Tryz.f296,StoreR.enc]
 refine AW.loopG (lit:=fun t=>t==56) (fun x:Nat×List Int=>⟨51,pat [(1,I st),(2,.ptr 0 0 0),(5,.own 1 x.2.length 0 x.2.length 1),(9,encL ChainR.enc cs),(10,I cs.length),(11,I x.1)],[.cells 0 [encL ChainR.enc cs,encL CountR.enc ns,I stamp],.cells x.2.length (x.2.map I)]⟩) (fun x=>cs.length -x.1)
  (fun x=>x.1≤cs.length∧x.2.length≤x.1∧x.2++((cs.drop x.1).filter (Zcf st)).map (·.ino)=F) (0,[]) ?_ ?_ ?_
 ·exact Wk.trans (Wk.ownNil 5 1 (by simp)) Wa
 ·exact⟨by simp,by simp,by simpa using hF⟩
 rintro⟨i,acc⟩ ⟨g1,g2,g3⟩ A hA
 simp only at g1 g2 g3 hA
 have hm:acc.length+1≤maxLen:=by simp only[maxLen];omega
 have hm':acc.length+1≤17592186044416:=by omega
 by_cases hi:i<cs.length
 case neg=>
  rw[List.drop_eq_nil_of_le (by omega),List.filter_nil,List.map_nil,List.append_nil] at g3
  subst g3
  have hx:1+acc.length=acc.length+1:=by omega
  have hm2:1+acc.length≤maxLen:=by simp only[maxLen];omega
  have hm3:1+acc.length≤17592186044416:=by omega
  by_cases q1:acc=[]
  ·subst q1
   by_cases q2:st<ns[ns.length -1].stamp
   ·have s_:=An @hi (An @hn0 (An @hwn (@q2)))
    try simp[s_]
    repeat' ((first|((first|refine Tp ?_|refine Tn ?_|refine T2 ?_ ?_)<;>intro h_ e_ n_)|rw[Ip]|rw[In]|rw[Fz]|rw[Gz]|fail)<;>first|simp[e_,n_,s_]|simp[s_]|skip)
   ·have s_:=An @hi (An @hn0 (An @hwn (@q2)))
    try simp[s_]
    repeat' ((first|((first|refine Tp ?_|refine Tn ?_|refine T2 ?_ ?_)<;>intro h_ e_ n_)|rw[Ip]|rw[In]|rw[Fz]|rw[Gz]|fail)<;>first|simp[e_,n_,s_]|simp[s_]|skip)
  ·have q3:0<acc.length:=List.length_pos_iff.2 q1
   have s_:=An @hi (An @q1 (An @q3 (An @hm2 (An @hm3 (@hx)))))
   try simp[s_]
   repeat' ((first|((first|refine Tp ?_|refine Tn ?_|refine T2 ?_ ?_)<;>intro h_ e_ n_)|rw[Ip]|rw[In]|rw[Fz]|rw[Gz]|fail)<;>first|simp[e_,n_,s_]|simp[s_]|skip)
 rw[List.drop_eq_getElem_cons hi] at g3
 have hwi:=Zi hi (by simp only[maxLen];omega)
 have hP:=hcs _ (List.getElem_mem hi)
 have hvl:=hcl _ (List.getElem_mem hi)
 generalize hc:cs[i]=c at*
 have hv0:c.l.length -1<c.l.length:=by have:=List.length_pos_iff.2 hP.some;omega
 have hlt:=ZqN hP st hv0
 have hwv:IntKind.i64.wrap ((c.l.length:Int) -1)=((c.l.length -1:Nat):Int):=by rw[Zf (by omega) (by omega)];omega
 have hal:(acc++[c.ino]).length=acc.length+1:=by simp
 by_cases q:st<c.l[c.l.length -1].stamp
 ·rw[List.filter_cons_of_pos (by rw[hlt];simpa using q),List.map_cons] at g3
  have s_:=An @hi (An @hwi (An @hc (An @hv0 (An @hwv (An @q (An @hm (An @hm' (@ChainR.enc.eq_1))))))))
  try simp[s_]
  repeat' ((first|((first|refine Tp ?_|refine Tn ?_|refine T2 ?_ ?_)<;>intro h_ e_ n_)|(exact hA (i+1,acc++[c.ino]) _ Wc ⟨hi,by simp only[hal];omega,by simpa using g3⟩ (by simp only;omega))|rw[Ip]|rw[In]|rw[Fz]|rw[Gz]|fail)<;>first|simp[e_,n_,s_]|simp[s_]|skip)
 ·rw[List.filter_cons_of_neg (by rw[hlt];simpa using q)] at g3
  have s_:=An @hi (An @hwi (An @hc (An @hv0 (An @hwv (An @q (@ChainR.enc.eq_1))))))
  try simp[s_]
  repeat' ((first|((first|refine Tp ?_|refine Tn ?_|refine T2 ?_ ?_)<;>intro h_ e_ n_)|(exact hA (i+1,acc) _ Wc ⟨hi,by simp only;omega,g3⟩ (by simp only;omega))|rw[Ip]|rw[In]|rw[Fz]|rw[Gz]|fail)<;>first|simp[e_,n_,s_]|simp[s_]|skip)
theorem ZtJ (l:List ChainR) (hl:l.length≤1000000):XCall Tryz.prog 298 [encL ChainR.enc l] [] (.own 0 0 0 l.length 2) [.cells 0 (l.flatMap ChainR.enc)]:=by
 refine XCall.mkE 2 (fun _=>false) Tryz.func298 rfl rfl rfl (Ent.mk Tryz.func298 (by kernel_rfl) rfl) (by simp) (by simp) (by simp) (by simp) (by simp) fun hfit=> ?_
 simp at hfit
 simp[Tryz.f298]
 rw[if_pos (by simp only[maxLen];omega)]
 simp
 intro h0
 subst h0
 simp
theorem ZqP (l:List ChainR) (i:Nat) (x:ChainR) (hi:i≤l.length) (hl:l.length≤1000000):XCall Tryz.prog 299 [.own 0 0 0 l.length 2,I i,.sl true 1 x.enc] [.cells 0 (l.flatMap ChainR.enc)] (.own 0 1 0 (l.length+1) 2) [.cells 1 ((insL l i x).flatMap ChainR.enc)]:=by
 by_cases hi2:i=l.length
 case pos=>
  subst hi2
  refine XCall.mkG (fun s (_:Unit)=>s) (fun _=>false) Tryz.func299 rfl rfl rfl (Ent.mk Tryz.func299 (by kernel_rfl) rfl) (by simp) (by simp) (by simp) (by simp) (by simp) fun hfit=> ?_
  refine⟨WkE.one _ _,fun _=> ?_⟩
  simp[Tryz.f299]
  rw[if_pos (by simp only[maxLen];omega)]
  simp
  exact⟨_,Wk.refl _ _,by simp[ZdK]⟩
 have hi3:i<l.length:=by omega
 have hcp:∀cap,l.length≤cap→(l.length*2+(cap*2 -l.length*2))/2=cap:=fun cap h=>by omega
 have hw1:IntKind.i64.wrap ((l.length:Int)+1)=((l.length+1:Nat):Int):=by rw[Zf (by omega) (by omega)];omega
 have hw2:IntKind.i64.wrap ((i:Int)+1)=((i+1:Nat):Int):=by rw[Zf (by omega) (by omega)];omega
 have hw3:IntKind.i64.wrap ((l.length:Int)+1 -i)=((l.length+1 -i:Nat):Int):=by rw[Zf (by omega) (by omega)];omega
 have hw4:((i:Int)+((l.length+1 -i:Nat):Int)).toNat=l.length+1:=by omega
 have hm1:min 1 (l.length+1 -i)=1:=by omega
 have hm2:∀cap,l.length≤cap→min (i*2) (l.length*2+(cap*2 -l.length*2))=i*2:=fun cap h=>by omega
 have hov:∀(lb:Nat) (h:Za) (y:ABlk) (Q:AV→Za→Prop),h[0]? =some y→(blkCells y).map (·.1)=some 0→Q (B false) h→AInv Tryz.prog (.fn 325 []) [.sl true 1 x.enc,.own 0 0 (i+1) lb 2] h Q:=fun lb h y Q hy hv hq=>
  Zbr Tryz.func325 (by kernel_rfl) rfl (by kernel_rfl) rfl rfl (by kernel_rfl) (k:=2) (by kernel_rfl) true 1 _ _ 0 0 (i+1) lb hy hv (by omega) Q hq
 refine XCall.mkG (fun s (cap:{cap:Nat//l.length≤cap∧cap≤maxLen})=>ZbU s 0 0 2 (l.flatMap ChainR.enc) cap.1) (fun _=>false) Tryz.func299 rfl rfl rfl (Ent.mk Tryz.func299 (by kernel_rfl) rfl) (by simp) (by simp) (by simp) (by simp) (by simp) fun hfit=> ?_
 refine⟨WkE.full (t:=0) (by simp) (by simp) (by omega) (by simp),?_⟩
 rintro⟨cap,hc1,hc2⟩
 have hcp1:=hcp cap hc1
 have hm3:=hm2 cap hc1
 have hi4:¬i=l.length:=by omega
 have hle:i≤l.length:=by omega
 generalize hA:List.replicate (cap*2 -l.length*2) AV.any=A
 have hAl:A.length=cap*2 -l.length*2:=by rw[←hA];simp
 have hLl:(l.flatMap ChainR.enc).length=l.length*2:=Zis l
 have hta:(l.flatMap ChainR.enc++A).take (i*2)=(l.flatMap ChainR.enc).take (i*2):=List.take_append_of_le_length (by rw[hLl];omega)
 have hdr:(l.flatMap ChainR.enc).drop (i*2)=(l.drop i).flatMap ChainR.enc:=ZkJ l i
 have hq0:(l.flatMap ChainR.enc++A).drop (i*2)=(l.drop i).flatMap ChainR.enc++A:=by rw[List.drop_append_of_le_length (by rw[hLl];omega),hdr]
 have hdl:((l.drop i).flatMap ChainR.enc).length=l.length*2 -i*2:=by rw[Zis,List.length_drop];omega
 by_cases hr:l.length+1≤cap
 ·have hm4:min (l.length+1 -i) (l.length -i)=l.length -i:=by omega
  have hm5:min ((l.length+1 -i)*2) ((l.length -i)*2+(cap*2 -l.length*2))=(l.length+1 -i)*2:=by omega
  have hm6:min ((l.length+1 -i)*2) (l.length*2+(cap*2 -l.length*2) -i*2)=(l.length+1 -i)*2:=by omega
  have hq1:List.take ((l.length -i)*2) (List.take ((l.length+1 -i)*2) ((l.drop i).flatMap ChainR.enc++A))=(l.drop i).flatMap ChainR.enc:=by
   rw[List.take_take,Nat.min_eq_left (by omega),List.take_left' (by rw[hdl];omega)]
  have hq2:(putAt (l.flatMap ChainR.enc++A) ((i+1)*2) ((l.drop i).flatMap ChainR.enc)).length=cap*2:=by
   rw[ZB (by rw[List.length_append,hLl,hAl,hdl];omega),List.length_append,hLl,hAl];omega
  have hq3:(putAt (putAt (l.flatMap ChainR.enc++A) ((i+1)*2) ((l.drop i).flatMap ChainR.enc)) (i*2) x.enc).take ((l.length+1)*2)=(insL l i x).flatMap ChainR.enc:=by
   have:=ZdI (L:=l.flatMap ChainR.enc) (A:=A) (X:=x.enc) (a:=i*2) (k:=2) hLl (by omega) rfl (by rw[hAl];omega)
   rw[Ziw,hq0,List.take_left' (by rw[hdl])] at this
   rw[show(i+1)*2=i*2+2 by omega,show(l.length+1)*2=l.length*2+2 by omega]
   exact this
  have hone:∀y∈(l.drop i).flatMap ChainR.enc,Zx y=true:=List.all_eq_true.1 (Zir _)
  simp[Tryz.f299,ZbU,hA]
  have s_:=An @hcp1 (An @hw1 (An @hw2 (An @hw3 (An @hw4 (An @hm1 (An @hm3 (An @hm4 (An @hq0 (An @hq1 (An @hq2 (An @hi3 (An @hi4 (An @hle (@hr))))))))))))))
  try simp[s_]
  repeat' ((first|((first|refine Tp ?_|refine Tn ?_|refine T2 ?_ ?_)<;>intro h_ e_ n_)|(refine hov _ _ _ _ rfl rfl ?_;simp)|(refine optBif ⟨rfl,by rw[List.length_append,hLl,hAl];omega,by rw[List.length_take,List.length_append,hdl,hAl];omega,by rw[hm4,hq1];exact hone⟩ ?_;simp)|refine Dg 11 9 [] [] ?_|refine Dg 15 9 [] [] ?_|rw[Ip]|rw[In]|rw[Fz]|rw[Gz]|fail)<;>first|simp[e_,n_,s_]|simp[s_]|skip)
  exact⟨_,Wk.trans (Wk.prefix 0 0 ((l.length+1)*2) rfl rfl) (Wk.bump 6 0 0 0 (l.length+1) 2 (by simp) rfl),by simp[hq3]⟩
 ·have hm5:min ((l.length -i)*2) ((l.length -i)*2+(cap*2 -l.length*2))=(l.length -i)*2:=by omega
  have hq1:List.take ((l.length -i)*2) (List.take ((l.length -i)*2) ((l.drop i).flatMap ChainR.enc++A))=(l.drop i).flatMap ChainR.enc:=by
   rw[List.take_take,Nat.min_self,List.take_left' (by rw[hdl];omega)]
  have hq4:List.take ((l.length -i)*2) ((l.drop i).flatMap ChainR.enc)=(l.drop i).flatMap ChainR.enc:=List.take_of_length_le (by rw[hdl];omega)
  have hone:∀y∈(l.drop i).flatMap ChainR.enc,Zx y=true:=List.all_eq_true.1 (Zir _)
  simp[Tryz.f299,ZbU,hA]
  generalize hZ:(List.replicate (l.length+1 -i) [AV.val (Value.int IntKind.i64 0),AV.sl true 0 []]).flatten=Z
  have hZl:Z.length=(l.length+1 -i)*2:=by rw[←hZ];simp
  have hta':((l.flatMap ChainR.enc).take (i*2)).length=i*2:=by rw[List.length_take,hLl];omega
  have hq2:(putAt ((l.flatMap ChainR.enc).take (i*2)++Z) (i*2) x.enc).length=(l.length+1)*2:=by
   rw[ZB (by rw[List.length_append,hta',hZl,Zmu];omega),List.length_append,hta',hZl];omega
  have hq3:putAt (putAt ((l.flatMap ChainR.enc).take (i*2)++Z) (i*2) x.enc) ((i+1)*2) ((l.drop i).flatMap ChainR.enc)=(insL l i x).flatMap ChainR.enc:=by
   have:=ZdJ (L:=l.flatMap ChainR.enc) (A:=A) (X:=x.enc) (Z:=Z) (a:=i*2) (k:=2) hLl (by omega) rfl (by rw[hZl];omega)
   rw[Ziw,hta,hq0,List.take_left' (by rw[hdl])] at this
   rw[show(i+1)*2=i*2+2 by omega]
   exact this
  have s_:=An @hcp1 (An @hw1 (An @hw2 (An @hw3 (An @hw4 (An @hm1 (An @hm3 (An @hq0 (An @hq1 (An @hq4 (An @hta (An @hZ (An @hi3 (An @hi4 (An @hle (@hr)))))))))))))))
  try simp[s_]
  repeat' ((first|((first|refine Tp ?_|refine Tn ?_|refine T2 ?_ ?_)<;>intro h_ e_ n_)|(refine optBif ⟨by rw[hq2];omega,hone⟩ ?_;simp)|refine Dg 11 9 [] [] ?_|refine Dg 15 9 [] [] ?_|rw[Ip]|rw[In]|rw[Fz]|rw[Gz]|fail)<;>first|simp[e_,n_,s_]|simp[s_]|skip)
  exact⟨_,Wk.move 6 0 1 0 0 (l.length+1) 2 (by decide) (by simp;omega) rfl rfl rfl,by simp[hq3]⟩
theorem _root_.Go.Cx.XCall.soft {P:Program} {f:FuncId} {args args':List AV} {h0 h1:Za} {v:AV} (h:XCall P f args' h0 v h1) (ha:args.all (refsLt h0.length)=true) (hs:∀Z w κ cs,Rs Z w κ args cs→Rs Z w κ args' cs):XCall P f args h0 v h1:=
 ⟨ha,h.heap,h.val,h.len,h.heap1,⟨h.call.1,fun Z κ w cargs r hr=>h.call.2 Z κ w cargs r (hs Z w κ cargs hr)⟩⟩
theorem insH_ok (l:List ChainR) (i:Nat) (ino:Int) (v:VerR) (hi:i≤l.length) (hl:l.length≤1000000):XCall Tryz.prog 299 [.own 0 0 0 l.length 2,I i,.sl true 1 [I ino,.sl true 1 v.enc]] [.cells 0 (l.flatMap ChainR.enc)] (.own 0 1 0 (l.length+1) 2) [.cells 1 ((insL l i ⟨ino,[v]⟩).flatMap ChainR.enc)]:=by
 refine(ZqP l i ⟨ino,[v]⟩ hi hl).soft (by simp) fun Z w κ cs h=> ?_
 cases h with
 |cons a h=>
  cases h with
  |cons b h=>
   cases h with
   |cons c h=>
    cases h
    refine .cons a (.cons b (.cons ?_ .nil))
    cases c with
    |sl h0 h1 h2 h3 h4 h5 h6=>
     cases h6 with
     |cons x y=>
      cases y with
      |cons y z=>
       cases z
       exact .sl h0 h1 h2 h3 h4 h5 (.cons x (.cons (by simpa[encL] using y.loose) .nil))
theorem Zwf {l:List ChainR} {i:Nat} (hi:i<l.length) (h:i*2<(l.flatMap ChainR.enc).length):(l.flatMap ChainR.enc)[i*2]=I l[i].ino:=by
 have h0:=ZeR hi
 have h1:=congrArg (fun x=>x[0]?) h0
 rw[List.getElem?_take_of_lt (by omega),List.getElem?_drop,Nat.add_zero,List.getElem?_eq_getElem h] at h1
 simpa[ChainR.enc] using h1
theorem chl_at {l:List ChainR} {i:Nat} (hi:i<l.length):(l.flatMap ChainR.enc)[i*2+1]? =some (encL VerR.enc l[i].l):=by
 have h0:=ZeR hi
 have h1:=congrArg (fun x=>x[1]?) h0
 rw[List.getElem?_take_of_lt (by omega),List.getElem?_drop] at h1
 simpa[ChainR.enc] using h1
theorem ZoT {h:Za} {f:Nat} {x x':AV} (hx:frz h 0 (f+1) x=some x'):∀{cs:List AV} {j:Nat},cs.all neat=true→j<cs.length→frzs h 0 (f+1) (cs.set j x)=some (cs.set j x')
 |[],j,_,hj=>by simp at hj
 |c::cs,0,hc,_=>by
  rw[List.all_cons,Bool.and_eq_true] at hc
  rw[List.set_cons_zero,Zkz,hx,Zbx hc.2];rfl
 |c::cs,j+1,hc,hj=>by
  rw[List.all_cons,Bool.and_eq_true] at hc
  rw[List.set_cons_succ,Zkz,ZbZ _ _ _ hc.1,ZoT hx hc.2 (by simpa using hj)];rfl
theorem frzOwn_set {h:Za} {f ver m k j:Nat} {cs:List AV} {x x':AV} (hc:cs.all neat=true) (hl:cs.length=m*k) (hj:j<cs.length) (hm:m≠0) (hx:frz h 0 (f+1) x=some x'):
  ZfR h (f+1) ver 0 m k (some (.cells ver (cs.set j x)))=some (.sl false m (cs.set j x')):=by
 have hl':(cs.set j x).length=m*k:=by simpa using hl
 simp only[ZfR,true_and,Nat.zero_add,Nat.zero_mul,List.drop_zero]
 rw[if_pos (by omega),if_neg hm,List.take_of_length_le (by omega),ZoT hx hc hj];rfl
theorem ZlQ:∀{l:List ChainR} {i:Nat} (hi:i<l.length) (y:List VerR),(l.flatMap ChainR.enc).set (i*2+1) (encL VerR.enc y)=(l.set i ⟨l[i].ino,y⟩).flatMap ChainR.enc
 |[],i,hi,_=>by simp at hi
 |c::l,0,_,y=>by simp[ChainR.enc]
 |c::l,i+1,hi,y=>by
  have ih:=ZlQ (l:=l) (i:=i) (by simpa using hi) y
  have e:(i+1)*2+1=(i*2+1)+1+1:=by omega
  rw[e]
  simp only[List.flatMap_cons,ChainR.enc,List.cons_append,List.nil_append,List.set_cons_succ,List.getElem_cons_succ] at ih⊢
  rw[ih]
theorem Zjj {ino:Int} {v:VerR}:∀{l:List ChainR} {i:Nat},i≤l.length→(∀(j:Nat) (h:j<l.length),j<i→l[j].ino<ino)→withS l ino v=l.take i++withS (l.drop i) ino v
 |l,0,_,_=>by simp
 |[],i+1,h,_=>by simp at h
 |c::l,i+1,h,hj=>by
  have h0:=hj 0 (by simp) (by omega)
  simp only[List.getElem_cons_zero] at h0
  have ih:=Zjj (ino:=ino) (v:=v) (l:=l) (i:=i) (by simpa using h) fun j h hji=>by
   have:=hj (j+1) (by simpa using h) (by omega)
   simpa using this
  rw[withS,if_neg (by omega),if_neg (by omega),ih]
  simp
theorem ZtK {l:List VerR} {v:VerR} (hr:l.Pairwise fun a b=>a.stamp<b.stamp) (hm:∀x∈l,x.stamp≤v.stamp) (hl:l.length -1<l.length):addV l v=(if l[l.length -1].stamp=v.stamp then l.take (l.length -1) else l)++[v]:=by
 have hp:=List.pairwise_iff_getElem.1 hr
 unfold addV
 congr 1
 have hlt:∀(j:Nat) (h:j<l.length),j<l.length -1→l[j].stamp<v.stamp:=fun j h hj=>by
  have h1:=hp j (l.length -1) h hl hj
  have h2:=hm _ (List.getElem_mem hl)
  omega
 have e:l=l.take (l.length -1)++[l[l.length -1]]:=by
  rw[←List.take_succ_eq_append_getElem hl,List.take_of_length_le (by omega)]
 have hk:(l.take (l.length -1)).filter (fun x=> !decide (x.stamp=v.stamp))=l.take (l.length -1):=List.filter_eq_self.2 fun x hx=>by
  obtain⟨j,hj,rfl⟩:=List.getElem_of_mem hx
  rw[List.length_take] at hj
  rw[List.getElem_take]
  have:=hlt j (by omega) (by omega)
  simp;omega
 by_cases q:l[l.length -1].stamp=v.stamp
 ·rw[if_pos q]
  conv=>lhs;rw[e]
  rw[List.filter_append,hk,List.filter_cons_of_neg (by simpa using q)]
  simp
 ·rw[if_neg q]
  conv=>lhs;rw[e]
  rw[List.filter_append,hk,List.filter_cons_of_pos (by simpa using q)]
  exact e.symm
theorem ZqQ (l:List ChainR) (ino:Int) (v:VerR) (hl:l.length≤500000) (hc:∀c∈l,c.l≠[]∧c.l.length≤2000000∧(c.l.Pairwise fun a b=>a.stamp<b.stamp)∧∀x∈c.l,x.stamp≤v.stamp):Zd Tryz.prog 241 [encL ChainR.enc l,I ino,.agg v.enc] (encL ChainR.enc (withS l ino v)):=by
 have hcl:=ZtJ l (by omega)
 refine Pm Tryz.func241 fun hfit=> ?_
 simp[Tryz.f241]
 refine AW.scopeG (lit:=fun _=>false) 0 (fun _:Unit=>⟨0,fun _=> .any,[]⟩) (fun _=>0) (fun _=>False) rfl (fun A _=> ?_) (fun x h=>h.elim)
 simp
 try simp
 repeat' ((first|((first|refine Tp ?_|refine Tn ?_|refine T2 ?_ ?_)<;>intro h_ e_ n_)|(refine AInv.fresh [] hcl (by simp) (by simp) ?_;simp)|refine Dg 8 10 [] [] ?_|refine Dg 10 13 [] [] ?_|rw[Ip]|rw[In]|rw[Fz]|rw[Gz]|fail)<;>first|simp[e_,n_]|simp|skip)
 refine AW.loopG (lit:=fun _=>false) (fun i:Nat=>⟨75,pat [(0,.own 1 0 0 l.length 2),(1,I ino),(5,.ptr 0 0 0),(7,I i)],[.cells 0 v.enc,.cells 0 (l.flatMap ChainR.enc)]⟩) (fun i=>l.length -i) (fun i=>i≤l.length∧∀(j:Nat) (h:j<l.length),j<i→l[j].ino<ino) 0 ?_ ?_ ?_
 ·exact Wa
 ·exact⟨by simp,fun j h hj=>by omega⟩
 rintro i ⟨g1,g2⟩ B hB
 have hsk:=Zjj (v:=v) g1 g2
 have hins:=insH_ok l i ino v g1 (by omega)
 by_cases hi:i<l.length
 case neg=>
  have e:withS l ino v=insL l i ⟨ino,[v]⟩:=by
   rw[hsk,List.drop_eq_nil_of_le (by omega)]
   simp[withS,insL,List.drop_eq_nil_of_le (show l.length≤i by omega)]
  rw[e]
  have s_:=hi
  try simp[s_]
  repeat' ((first|((first|refine Tp ?_|refine Tn ?_|refine T2 ?_ ?_)<;>intro h_ e_ n_)|(refine AInv.fresh [1] hins (by simp) (by simp) ?_;simp)|refine Dg 8 10 [] [] ?_|refine Dg 10 13 [] [] ?_|rw[Ip]|rw[In]|rw[Fz]|rw[Gz]|fail)<;>first|simp[e_,n_,s_]|simp[s_]|skip)
 have hwi:=Zi hi (by simp only[maxLen];omega)
 have hcc:=hc l[i] (List.getElem_mem hi)
 have a0:=Zwf hi
 have a1:=chl_at hi
 rw[List.drop_eq_getElem_cons hi,withS] at hsk
 by_cases q1:ino<l[i].ino
 ·rw[if_pos q1] at hsk
  have e:withS l ino v=insL l i ⟨ino,[v]⟩:=by
   rw[hsk,insL,List.drop_eq_getElem_cons hi]
  rw[e]
  have s_:=An @hi (An @q1 (@a0))
  try simp[s_]
  repeat' ((first|((first|refine Tp ?_|refine Tn ?_|refine T2 ?_ ?_)<;>intro h_ e_ n_)|(refine AInv.fresh [1] hins (by simp) (by simp) ?_;simp)|refine Dg 8 10 [] [] ?_|refine Dg 10 13 [] [] ?_|rw[Ip]|rw[In]|rw[Fz]|rw[Gz]|fail)<;>first|simp[e_,n_,s_]|simp[s_]|skip)
 rw[if_neg q1] at hsk
 by_cases q2:l[i].ino<ino
 ·have g3:∀(j:Nat) (h:j<l.length),j<i+1→l[j].ino<ino:=fun j h hj=>by
   rcases Nat.lt_or_ge j i with g|g
   ·exact g2 j h g
   ·have:j=i:=by omega
    subst this;exact q2
  have s_:=An @hi (An @q1 (An @q2 (An @hwi (@a0))))
  try simp[s_]
  repeat' ((first|((first|refine Tp ?_|refine Tn ?_|refine T2 ?_ ?_)<;>intro h_ e_ n_)|(exact hB (i+1) _ Wc ⟨hi,g3⟩ (by omega))|refine Dg 8 10 [] [] ?_|refine Dg 10 13 [] [] ?_|rw[Ip]|rw[In]|rw[Fz]|rw[Gz]|fail)<;>first|simp[e_,n_,s_]|simp[s_]|skip)
 have q3:l[i].ino=ino:=by omega
 rw[if_pos q3] at hsk
 obtain⟨c1,c2,c3,c4⟩:=hcc
 have hv0:l[i].l.length -1<l[i].l.length:=by have:=List.length_pos_iff.2 c1;omega
 have hav:=ZtK c3 c4 hv0
 have hwv:IntKind.i64.wrap ((l[i].l.length:Int) -1)=((l[i].l.length -1:Nat):Int):=by rw[Zf (by omega) (by omega)];omega
 have hset:withS l ino v=l.set i ⟨l[i].ino,addV l[i].l v⟩:=by
  rw[hsk,List.set_eq_take_append_cons_drop,if_pos hi,q3]
 have hcs:=ZlQ hi (addV l[i].l v)
 rw[←hset] at hcs
 have hlen:(withS l ino v).length=l.length:=by rw[hset];simp
 generalize withS l ino v=W at*
 clear hset hsk
 generalize hci:l[i]=c at*
 have b1:(c.l.length -1+1)*80≤140737488355328:=by omega
 have b2:c.l.length -1+1≤maxLen:=by simp only[maxLen];omega
 have b3:(c.l.length+1)*80≤140737488355328:=by omega
 have b4:c.l.length+1≤maxLen:=by simp only[maxLen];omega
 have z1:(c.l.take (c.l.length -1)).length=c.l.length -1:=by simp
 by_cases q4:c.l[c.l.length -1].stamp=v.stamp
 ·rw[if_pos q4] at hav
  have s_:=An @hi (An @q1 (An @q2 (An @hci (An @hv0 (An @hwv (An @q4 (An @a0 (An @a1 (An @b1 (@b2))))))))))
  try simp[s_]
  repeat' ((first|((first|refine Tp ?_|refine Tn ?_|refine T2 ?_ ?_)<;>intro h_ e_ n_)|(rw[frzOwn_set (x':=encL VerR.enc (addV c.l v)) (by simp) (by simp) (by simp;omega) (by omega) (by simp[ZpA];rw[Fz];simp[hav,encL,List.take_take])];simp[hcs,hlen,encL])|refine Dg 8 10 [] [] ?_|refine Dg 10 13 [] [] ?_|rw[Ip]|rw[In]|rw[Fz]|rw[Gz]|fail)<;>first|simp[e_,n_,s_]|simp[s_]|skip)
 ·rw[if_neg q4] at hav
  have s_:=An @hi (An @q1 (An @q2 (An @hci (An @hv0 (An @hwv (An @q4 (An @a0 (An @a1 (An @b3 (@b4))))))))))
  try simp[s_]
  repeat' ((first|((first|refine Tp ?_|refine Tn ?_|refine T2 ?_ ?_)<;>intro h_ e_ n_)|(rw[frzOwn_set (x':=encL VerR.enc (addV c.l v)) (by simp) (by simp) (by simp;omega) (by omega) (by simp;rw[Fz];simp[hav,encL])];simp[hcs,hlen,encL])|refine Dg 8 10 [] [] ?_|refine Dg 10 13 [] [] ?_|rw[Ip]|rw[In]|rw[Fz]|rw[Gz]|fail)<;>first|simp[e_,n_,s_]|simp[s_]|skip)
theorem ZqR {st:Int} {l:List ChangeR} {cs:List ChainR} {i:Nat} (hi:i<l.length):(l.take (i+1)).foldl (Zam st) cs=withS ((l.take i).foldl (Zam st) cs) l[i].ino (Zed st l[i]):=by
 rw[List.take_succ_eq_append_getElem hi,List.foldl_append];rfl
theorem ZqS (s:StoreR) (l:List ChangeR) (next:Int) (B:Nat) (hm:Mid s.l (s.stamp+1) B) (hB:B+l.length≤500000) (hs:s.stamp<9223372036854775807) (h0:0≤s.stamp) (hn:s.nexts≠[]) (hnl:s.nexts.length≤2000000):Zd Tryz.prog 210 [.agg s.enc,encL ChangeR.enc l,I next] (.agg (installS s l next).enc):=by
 obtain⟨cs,ns,stamp⟩:=s
 simp only at hm hs h0 hn hnl
 unfold installS
 simp only
 obtain⟨st,hS⟩:∃st,stamp+1=st:=⟨_,rfl⟩
 have hw:IntKind.i64.wrap (stamp+1)=st:=by rw[Zf (by omega) (by omega),hS]
 simp only[hS] at hm⊢
 have hlast:ns.length -1<ns.length:=by have:=List.length_pos_iff.2 hn;omega
 have hln:=Zna hlast
 have hwn:IntKind.i64.wrap ((ns.length:Int) -1)=((ns.length -1:Nat):Int):=by rw[Zf (by omega) (by omega)];omega
 have hb1:(ns.length+1)*16≤140737488355328:=by omega
 have hb2:ns.length+1≤maxLen:=by simp only[maxLen];omega
 have hfold:∀i,i≤l.length→Mid ((l.take i).foldl (Zam st) cs) st (B+l.length):=fun i hi=>by
  have:=hm.fold (l.take i)
  rw[List.length_take,Nat.min_eq_left hi] at this
  exact⟨this.rise,this.some,this.vrise,this.le,by have:=this.len;omega,fun c hc=>by have:=this.vlen c hc;omega⟩
 have hend:(l.take l.length).foldl (Zam st) cs=l.foldl (Zam st) cs:=by rw[List.take_length]
 have hstep:=fun(i:Nat) (hi:i<l.length)=>ZqR (st:=st) (cs:=cs) hi
 generalize hF:(fun i:Nat=>(l.take i).foldl (Zam st) cs)=F at*
 have hF':∀i,(l.take i).foldl (Zam st) cs=F i:=fun i=>by rw[←hF]
 simp only[hF'] at hfold hend hstep
 rw[←hend]
 clear hend
 have hfst:cs=F 0:=by rw[←hF' 0];rfl
 rw[hfst]
 clear hfst
 generalize lastNext ns=ln at*
 refine Pm Tryz.func210 fun hfit=> ?_
 simp[Tryz.f210,StoreR.enc]
 refine AW.loopG (lit:=fun _=>false) (fun i:Nat=>⟨69,pat [(2,I next),(3,.ptr 0 0 0),(6,.ptr 1 0 0),(15,encL ChangeR.enc l),(16,I l.length),(17,I i)],[.cells 0 [encL ChainR.enc (F i),encL CountR.enc ns,I st],.cells 0 [.sl true 0 [],.sl true 0 [],I 0]]⟩) (fun i=>l.length -i) (fun i=>i≤l.length) 0 ?_ ?_ ?_
 ·exact Wk.at _ rfl (by simp;exact hw) (by simp)
 ·simp
 rintro i g1 A hA
 by_cases hi:i<l.length
 case neg=>
  have e:i=l.length:=by omega
  subst e
  by_cases q:ln<next
  ·have s_:=An @hi (An @hlast (An @hwn (An @hln (An @q (An @hb1 (An @hb2 (@CountR.enc.eq_1)))))))
   try simp[s_]
   repeat' ((first|((first|refine Tp ?_|refine Tn ?_|refine T2 ?_ ?_)<;>intro h_ e_ n_)|refine Dg 13 13 [] [] ?_|rw[Ip]|rw[In]|rw[Fz]|rw[Gz]|fail)<;>first|simp[e_,n_,s_]|simp[s_]|skip)
  ·have s_:=An @hi (An @hlast (An @hwn (An @hln (An @q (@CountR.enc.eq_1)))))
   try simp[s_]
   repeat' ((first|((first|refine Tp ?_|refine Tn ?_|refine T2 ?_ ?_)<;>intro h_ e_ n_)|refine Dg 13 13 [] [] ?_|rw[Ip]|rw[In]|rw[Fz]|rw[Gz]|fail)<;>first|simp[e_,n_,s_]|simp[s_]|skip)
 have hwi:=Zi hi (by simp only[maxLen];omega)
 have hf:=hfold i (by omega)
 have hch:=ZqQ (F i) l[i].ino (Zed st l[i]) (by have:=hf.len;omega) fun c hc=>⟨hf.some c hc,by have:=hf.vlen c hc;omega,hf.vrise c hc,by simpa[ZmZ] using hf.le c hc⟩
 rw[←hstep i hi] at hch
 generalize hc:l[i]=c at*
 cases hg:c.gone with
 |true=>
  rw[Zed,if_pos hg,hg] at hch
  have s_:=An @hi (An @hwi (An @hc (An @hg (An @ChangeR.enc.eq_1 (An @VerR.enc.eq_1 (An @NodeR.zero.eq_1 (@NodeR.enc.eq_1)))))))
  try simp[s_]
  repeat' ((first|((first|refine Tp ?_|refine Tn ?_|refine T2 ?_ ?_)<;>intro h_ e_ n_)|(exact hA (i+1) _ Wc hi (by omega))|refine Sg hch ?_|refine Dg 13 13 [] [] ?_|rw[Ip]|rw[In]|rw[Fz]|rw[Gz]|fail)<;>first|simp[e_,n_,s_]|simp[s_]|skip)
 |false=>
  rw[Zed,if_neg (by simp[hg]),hg] at hch
  have s_:=An @hi (An @hwi (An @hc (An @hg (An @ChangeR.enc.eq_1 (An @VerR.enc.eq_1 (@NodeR.enc.eq_1))))))
  try simp[s_]
  repeat' ((first|((first|refine Tp ?_|refine Tn ?_|refine T2 ?_ ?_)<;>intro h_ e_ n_)|(exact hA (i+1) _ Wc hi (by omega))|refine Pg hch ?_|refine Dg 13 13 [] [] ?_|rw[Ip]|rw[In]|rw[Fz]|rw[Gz]|fail)<;>first|simp[e_,n_,s_]|simp[s_]|skip)
noncomputable def ZhQ (last:Int) (c:ChainR):Bool:= @decide (Zek last c) (Classical.propDecidable _)
theorem ZfN {last:Int} {c:ChainR}:ZhQ last c=true↔Zek last c:=by simp[ZhQ]
theorem Zdw {last:Int} {c:ChainR} (h:¬Zek last c):ZhQ last c=false:=by simp[ZhQ,h]
noncomputable def storeB (s:StoreR):Bool:= @decide (ZG s) (Classical.propDecidable _)
theorem Zjk {s:StoreR}:storeB s=true↔ZG s:=by simp[storeB]
theorem Zch {s:StoreR} (h:¬ZG s):storeB s=false:=by simp[storeB,h]
def verB (ino:Int) (v:VerR):Bool:=if v.gone=true then decide (v.node= .zero) else(nodeOk v.node&&decide (v.node.ino=ino))
theorem Zwg {ino:Int} {v:VerR}:verB ino v=true↔VerP ino v:=by
 unfold verB
 constructor
 ·intro h
  split at h
  ·rename_i q
   exact⟨fun _=>by simpa using h,fun g=>by rw[q] at g;cases g⟩
  ·rename_i q
   simp only[Bool.and_eq_true,decide_eq_true_eq] at h
   exact⟨fun g=>absurd g q,fun _=>h⟩
 ·intro h
  split
  ·rename_i q;simpa using h.gone q
  ·rename_i q;simpa using h.node (by simpa using q)
theorem ZhR {α:Type} {f:α→Int}:∀{l:List α},(∀(j:Nat) (h:j+1<l.length),f l[j]<f l[j+1])→l.Pairwise fun a b=>f a<f b
 |[],_=> .nil
 |a::l,h=>by
  have ih:=ZhR (f:=f) (l:=l) fun j hj=>by have:=h (j+1) (by simpa using hj);simpa only[List.getElem_cons_succ] using this
  refine List.pairwise_cons.2 ⟨fun b hb=> ?_,ih⟩
  cases l with
  |nil=>cases hb
  |cons c l=>
   have h0:=h 0 (by simp)
   simp only[List.getElem_cons_zero,List.getElem_cons_succ] at h0
   rcases List.mem_cons.1 hb with rfl|hb
   ·exact h0
   ·have:=(List.pairwise_cons.1 ih).1 b hb;omega
theorem Zwh (c:ChainR) (last:Int):Zd Tryz.prog 80 [.agg c.enc,I last] (B (ZhQ last c)):=by
 by_cases q0:c.ino<1
 ·rw[Zdw fun h=>by have:=h.ino;omega]
  refine Pm Tryz.func80 fun hfit=> ?_
  simp[Tryz.f80]
  have s_:=An @q0 (@ChainR.enc.eq_1)
  try simp[s_]
  repeat' ((first|((first|refine Tp ?_|refine Tn ?_|refine T2 ?_ ?_)<;>intro h_ e_ n_)|refine Dg 9 42 [] [] ?_|rw[Ip]|rw[In]|rw[Fz]|rw[Gz]|fail)<;>first|simp[e_,n_,s_]|simp[s_]|skip)
 by_cases q1:c.l.length<1
 ·rw[Zdw fun h=>h.some (List.eq_nil_of_length_eq_zero (by omega))]
  refine Pm Tryz.func80 fun hfit=> ?_
  simp[Tryz.f80]
  have s_:=An @q0 (An @q1 (@ChainR.enc.eq_1))
  try simp[s_]
  repeat' ((first|((first|refine Tp ?_|refine Tn ?_|refine T2 ?_ ?_)<;>intro h_ e_ n_)|refine Dg 9 42 [] [] ?_|rw[Ip]|rw[In]|rw[Fz]|rw[Gz]|fail)<;>first|simp[e_,n_,s_]|simp[s_]|skip)
 obtain⟨b,hb⟩:∃b,ZhQ last c=b:=⟨_,rfl⟩
 rw[hb]
 refine Pm Tryz.func80 fun hfit=> ?_
 simp[ChainR.enc] at hfit
 have hll:=hfit.1
 simp only[maxLen] at hll
 simp[Tryz.f80,ChainR.enc]
 have s_:=An @q0 (@q1)
 try simp[s_]
 repeat' ((first|((first|refine Tp ?_|refine Tn ?_|refine T2 ?_ ?_)<;>intro h_ e_ n_)|refine Dg 9 42 [] [] ?_|rw[Ip]|rw[In]|rw[Fz]|rw[Gz]|fail)<;>first|simp[e_,n_,s_]|simp[s_]|skip)
 refine AW.loopG (lit:=fun _=>false) (fun i:Nat=>⟨87,pat [(1,I last),(2,.ptr 0 0 0),(5,I i)],[.cells 0 [I c.ino,encL VerR.enc c.l]]⟩) (fun i=>c.l.length -i) (fun i=>i≤c.l.length∧∀(j:Nat) (h:j<c.l.length),j<i→(1≤c.l[j].stamp∧c.l[j].stamp≤last)∧VerP c.ino c.l[j]∧∀p,c.l[j -1]? =some p→0<j→p.stamp<c.l[j].stamp) 0 ?_ ?_ ?_
 ·exact Wa
 ·exact⟨by simp,fun j h hj=>by omega⟩
 rintro i ⟨g1,g2⟩ A hA
 by_cases hi:i<c.l.length
 case neg=>
  have e:b=true:=by
   rw[←hb]
   refine ZfN.2 ⟨by omega,fun e=>by rw[e] at q1;simp at q1,?_,fun v hv=> ?_,fun v hv=> ?_⟩
   ·refine ZhR fun j h=> ?_
    have:=(g2 (j+1) h (by omega)).2.2 c.l[j] (by simp) (by omega)
    simpa using this
   ·obtain⟨j,hj,rfl⟩:=List.getElem_of_mem hv
    exact(g2 j hj (by omega)).1
   ·obtain⟨j,hj,rfl⟩:=List.getElem_of_mem hv
    exact(g2 j hj (by omega)).2.1
  rw[e]
  have s_:=hi
  try simp[s_]
  repeat' ((first|((first|refine Tp ?_|refine Tn ?_|refine T2 ?_ ?_)<;>intro h_ e_ n_)|refine Dg 9 42 [] [] ?_|rw[Ip]|rw[In]|rw[Fz]|rw[Gz]|fail)<;>first|simp[e_,n_,s_]|simp[s_]|skip)
 have hwi:=Zi hi hfit.1
 have hbad:¬((1≤c.l[i].stamp∧c.l[i].stamp≤last)∧VerP c.ino c.l[i]∧∀p,c.l[i -1]? =some p→0<i→p.stamp<c.l[i].stamp)→b=false:=fun hn=>by
  rw[←hb]
  refine Zdw fun h=>hn ⟨h.lo _ (List.getElem_mem hi),h.ver _ (List.getElem_mem hi),fun p hp h0=>by
   obtain⟨h1,rfl⟩:=List.getElem?_eq_some_iff.1 hp
   exact List.pairwise_iff_getElem.1 h.rise (i -1) i h1 hi (by omega)⟩
 have hgo:((1≤c.l[i].stamp∧c.l[i].stamp≤last)∧VerP c.ino c.l[i]∧∀p,c.l[i -1]? =some p→0<i→p.stamp<c.l[i].stamp)→∀(j:Nat) (h:j<c.l.length),j<i+1→(1≤c.l[j].stamp∧c.l[j].stamp≤last)∧VerP c.ino c.l[j]∧∀p,c.l[j -1]? =some p→0<j→p.stamp<c.l[j].stamp:=fun hn j h hj=>by
  rcases Nat.lt_or_ge j i with g|g
  ·exact g2 j h g
  ·have:j=i:=by omega
   subst this;exact hn
 have hR:=rnright_ok c.l[i].node
 have hZ:=rnsame_ok c.l[i].node .zero
 have hi1:i -1<c.l.length:=by omega
 have hp1:c.l[i -1]? =some c.l[i -1]:=List.getElem?_eq_getElem hi1
 have hwm:0<i→IntKind.i64.wrap ((i:Int) -1)=((i -1:Nat):Int):=fun hp=>by rw[Zf (by omega) (by omega)];omega
 clear g2
 have hv:verB c.ino c.l[i]=true↔_:=Zwg
 rw[←hv] at hbad hgo
 clear hv
 unfold verB at hbad hgo
 generalize hck:c.l[i -1]=p at*
 generalize hci:c.l[i]=v at*
 generalize hn1:nodeOk v.node=ok at*
 generalize hn2:decide (v.node=NodeR.zero)=zr at*
 by_cases q2:v.stamp<1
 ·rw[hbad fun h=>by have:=h.1;omega]
  have s_:=An @hi (An @hci (An @q2 (An @VerR.enc.eq_1 (An @NodeR.enc.eq_1 (@NodeR.zero.eq_1)))))
  try simp[s_]
  repeat' ((first|((first|refine Tp ?_|refine Tn ?_|refine T2 ?_ ?_)<;>intro h_ e_ n_)|refine Pg hR ?_|refine Sg hZ ?_|refine Dg 9 42 [] [] ?_|rw[Ip]|rw[In]|rw[Fz]|rw[Gz]|fail)<;>first|simp[e_,n_,s_]|simp[s_]|skip)
 by_cases q3:last<v.stamp
 ·rw[hbad fun h=>by have:=h.1;omega]
  have s_:=An @hi (An @hci (An @q2 (An @q3 (An @VerR.enc.eq_1 (An @NodeR.enc.eq_1 (@NodeR.zero.eq_1))))))
  try simp[s_]
  repeat' ((first|((first|refine Tp ?_|refine Tn ?_|refine T2 ?_ ?_)<;>intro h_ e_ n_)|refine Pg hR ?_|refine Sg hZ ?_|refine Dg 9 42 [] [] ?_|rw[Ip]|rw[In]|rw[Fz]|rw[Gz]|fail)<;>first|simp[e_,n_,s_]|simp[s_]|skip)
 by_cases q4:0<i∧v.stamp≤p.stamp
 ·rw[hbad fun h=>by have:=h.2.2 p hp1 q4.1;omega]
  have q5:=q4.1
  have q6:=q4.2
  have hwm:=hwm q5
  have s_:=An @hi (An @hci (An @hck (An @q2 (An @q3 (An @q5 (An @q6 (An @hwm (An @hi1 (An @VerR.enc.eq_1 (An @NodeR.enc.eq_1 (@NodeR.zero.eq_1)))))))))))
  try simp[s_]
  repeat' ((first|((first|refine Tp ?_|refine Tn ?_|refine T2 ?_ ?_)<;>intro h_ e_ n_)|refine Pg hR ?_|refine Sg hZ ?_|refine Dg 9 42 [] [] ?_|rw[Ip]|rw[In]|rw[Fz]|rw[Gz]|fail)<;>first|simp[e_,n_,s_]|simp[s_]|skip)
 have q7:∀p',c.l[i -1]? =some p'→0<i→p'.stamp<v.stamp:=fun p' e h0=>by
  rw[hp1] at e
  cases e
  omega
 have q8:0<i→¬v.stamp≤p.stamp:=fun h0=>by omega
 cases hg:v.gone with
 |true=>
  rw[hg,if_pos rfl] at hbad hgo
  cases zr with
  |false=>
   rw[hbad fun h=>by have:=h.2.1;simp at this]
   by_cases q5:0<i
   ·have hwm:=hwm q5
    have q8:=q8 q5
    have s_:=An @hi (An @hci (An @hck (An @q2 (An @q3 (An @q5 (An @q8 (An @hwm (An @hi1 (An @hg (An @VerR.enc.eq_1 (An @NodeR.enc.eq_1 (@NodeR.zero.eq_1))))))))))))
    try simp[s_]
    repeat' ((first|((first|refine Tp ?_|refine Tn ?_|refine T2 ?_ ?_)<;>intro h_ e_ n_)|refine Pg hR ?_|refine Sg hZ ?_|refine Dg 9 42 [] [] ?_|rw[Ip]|rw[In]|rw[Fz]|rw[Gz]|fail)<;>first|simp[e_,n_,s_]|simp[s_]|skip)
   ·have s_:=An @hi (An @hci (An @q2 (An @q3 (An @q5 (An @hg (An @VerR.enc.eq_1 (An @NodeR.enc.eq_1 (@NodeR.zero.eq_1))))))))
    try simp[s_]
    repeat' ((first|((first|refine Tp ?_|refine Tn ?_|refine T2 ?_ ?_)<;>intro h_ e_ n_)|refine Pg hR ?_|refine Sg hZ ?_|refine Dg 9 42 [] [] ?_|rw[Ip]|rw[In]|rw[Fz]|rw[Gz]|fail)<;>first|simp[e_,n_,s_]|simp[s_]|skip)
  |true=>
   have hgo:=hgo ⟨by omega,rfl,q7⟩
   by_cases q5:0<i
   ·have hwm:=hwm q5
    have q8:=q8 q5
    have s_:=An @hi (An @hci (An @hck (An @q2 (An @q3 (An @q5 (An @q8 (An @hwm (An @hwi (An @hi1 (An @hg (An @VerR.enc.eq_1 (An @NodeR.enc.eq_1 (@NodeR.zero.eq_1)))))))))))))
    try simp[s_]
    repeat' ((first|((first|refine Tp ?_|refine Tn ?_|refine T2 ?_ ?_)<;>intro h_ e_ n_)|(exact hA (i+1) _ Wc ⟨hi,hgo⟩ (by omega))|refine Pg hR ?_|refine Sg hZ ?_|refine Dg 9 42 [] [] ?_|rw[Ip]|rw[In]|rw[Fz]|rw[Gz]|fail)<;>first|simp[e_,n_,s_]|simp[s_]|skip)
   ·have s_:=An @hi (An @hci (An @q2 (An @q3 (An @q5 (An @hwi (An @hg (An @VerR.enc.eq_1 (An @NodeR.enc.eq_1 (@NodeR.zero.eq_1)))))))))
    try simp[s_]
    repeat' ((first|((first|refine Tp ?_|refine Tn ?_|refine T2 ?_ ?_)<;>intro h_ e_ n_)|(exact hA (i+1) _ Wc ⟨hi,hgo⟩ (by omega))|refine Pg hR ?_|refine Sg hZ ?_|refine Dg 9 42 [] [] ?_|rw[Ip]|rw[In]|rw[Fz]|rw[Gz]|fail)<;>first|simp[e_,n_,s_]|simp[s_]|skip)
 |false=>
  rw[hg,if_neg (by simp)] at hbad hgo
  by_cases q9:ok=true∧v.node.ino=c.ino
  case neg=>
   rw[hbad fun h=>q9 (by simpa using h.2.1)]
   cases ok with
   |false=>
    by_cases q5:0<i
    ·have hwm:=hwm q5
     have q8:=q8 q5
     have s_:=An @hi (An @hci (An @hck (An @q2 (An @q3 (An @q5 (An @q8 (An @hwm (An @hi1 (An @hg (An @VerR.enc.eq_1 (An @NodeR.enc.eq_1 (@NodeR.zero.eq_1))))))))))))
     try simp[s_]
     repeat' ((first|((first|refine Tp ?_|refine Tn ?_|refine T2 ?_ ?_)<;>intro h_ e_ n_)|refine Pg hR ?_|refine Sg hZ ?_|refine Dg 9 42 [] [] ?_|rw[Ip]|rw[In]|rw[Fz]|rw[Gz]|fail)<;>first|simp[e_,n_,s_]|simp[s_]|skip)
    ·have s_:=An @hi (An @hci (An @q2 (An @q3 (An @q5 (An @hg (An @VerR.enc.eq_1 (An @NodeR.enc.eq_1 (@NodeR.zero.eq_1))))))))
     try simp[s_]
     repeat' ((first|((first|refine Tp ?_|refine Tn ?_|refine T2 ?_ ?_)<;>intro h_ e_ n_)|refine Pg hR ?_|refine Sg hZ ?_|refine Dg 9 42 [] [] ?_|rw[Ip]|rw[In]|rw[Fz]|rw[Gz]|fail)<;>first|simp[e_,n_,s_]|simp[s_]|skip)
   |true=>
    have q9:¬v.node.ino=c.ino:=fun e=>q9 ⟨rfl,e⟩
    by_cases q5:0<i
    ·have hwm:=hwm q5
     have q8:=q8 q5
     have s_:=An @hi (An @hci (An @hck (An @q2 (An @q3 (An @q5 (An @q8 (An @hwm (An @hi1 (An @hg (An @q9 (An @VerR.enc.eq_1 (An @NodeR.enc.eq_1 (@NodeR.zero.eq_1)))))))))))))
     try simp[s_]
     repeat' ((first|((first|refine Tp ?_|refine Tn ?_|refine T2 ?_ ?_)<;>intro h_ e_ n_)|refine Pg hR ?_|refine Sg hZ ?_|refine Dg 9 42 [] [] ?_|rw[Ip]|rw[In]|rw[Fz]|rw[Gz]|fail)<;>first|simp[e_,n_,s_]|simp[s_]|skip)
    ·have s_:=An @hi (An @hci (An @q2 (An @q3 (An @q5 (An @hg (An @q9 (An @VerR.enc.eq_1 (An @NodeR.enc.eq_1 (@NodeR.zero.eq_1)))))))))
     try simp[s_]
     repeat' ((first|((first|refine Tp ?_|refine Tn ?_|refine T2 ?_ ?_)<;>intro h_ e_ n_)|refine Pg hR ?_|refine Sg hZ ?_|refine Dg 9 42 [] [] ?_|rw[Ip]|rw[In]|rw[Fz]|rw[Gz]|fail)<;>first|simp[e_,n_,s_]|simp[s_]|skip)
  obtain⟨rfl,q9⟩:=q9
  have hgo:=hgo ⟨by omega,by simp[q9],q7⟩
  by_cases q5:0<i
  ·have hwm:=hwm q5
   have q8:=q8 q5
   have s_:=An @hi (An @hci (An @hck (An @q2 (An @q3 (An @q5 (An @q8 (An @hwm (An @hwi (An @hi1 (An @hg (An @q9 (An @VerR.enc.eq_1 (An @NodeR.enc.eq_1 (@NodeR.zero.eq_1))))))))))))))
   try simp[s_]
   repeat' ((first|((first|refine Tp ?_|refine Tn ?_|refine T2 ?_ ?_)<;>intro h_ e_ n_)|(exact hA (i+1) _ Wc ⟨hi,hgo⟩ (by omega))|refine Pg hR ?_|refine Sg hZ ?_|refine Dg 9 42 [] [] ?_|rw[Ip]|rw[In]|rw[Fz]|rw[Gz]|fail)<;>first|simp[e_,n_,s_]|simp[s_]|skip)
  ·have s_:=An @hi (An @hci (An @q2 (An @q3 (An @q5 (An @hwi (An @hg (An @q9 (An @VerR.enc.eq_1 (An @NodeR.enc.eq_1 (@NodeR.zero.eq_1))))))))))
   try simp[s_]
   repeat' ((first|((first|refine Tp ?_|refine Tn ?_|refine T2 ?_ ?_)<;>intro h_ e_ n_)|(exact hA (i+1) _ Wc ⟨hi,hgo⟩ (by omega))|refine Pg hR ?_|refine Sg hZ ?_|refine Dg 9 42 [] [] ?_|rw[Ip]|rw[In]|rw[Fz]|rw[Gz]|fail)<;>first|simp[e_,n_,s_]|simp[s_]|skip)
theorem ZhS (s:StoreR):Zd Tryz.prog 40 [.agg s.enc] (B (storeB s)):=by
 by_cases q0:s.stamp<1
 ·rw[Zch fun h=>by have:=h.stamp;omega]
  refine Pm Tryz.func40 fun hfit=> ?_
  simp[Tryz.f40]
  have s_:=An @q0 (@StoreR.enc.eq_1)
  try simp[s_]
  repeat' ((first|((first|refine Tp ?_|refine Tn ?_|refine T2 ?_ ?_)<;>intro h_ e_ n_)|refine Dg 6 9 [] [] ?_|refine Dg 7 22 [] [] ?_|refine Dg 13 31 [] [] ?_|rw[Ip]|rw[In]|rw[Fz]|rw[Gz]|fail)<;>first|simp[e_,n_,s_]|simp[s_]|skip)
 by_cases q1:s.nexts.length<1
 ·rw[Zch fun h=>h.some (List.eq_nil_of_length_eq_zero (by omega))]
  refine Pm Tryz.func40 fun hfit=> ?_
  simp[Tryz.f40]
  have s_:=An @q0 (An @q1 (@StoreR.enc.eq_1))
  try simp[s_]
  repeat' ((first|((first|refine Tp ?_|refine Tn ?_|refine T2 ?_ ?_)<;>intro h_ e_ n_)|refine Dg 6 9 [] [] ?_|refine Dg 7 22 [] [] ?_|refine Dg 13 31 [] [] ?_|rw[Ip]|rw[In]|rw[Fz]|rw[Gz]|fail)<;>first|simp[e_,n_,s_]|simp[s_]|skip)
 obtain⟨b,hb⟩:∃b,storeB s=b:=⟨_,rfl⟩
 rw[hb]
 refine Pm Tryz.func40 fun hfit=> ?_
 simp[StoreR.enc] at hfit
 have hl1:=hfit.1.1
 have hl2:=hfit.2.1
 have hm1:=hl1
 have hm2:=hl2
 simp only[maxLen] at hm1 hm2
 simp[Tryz.f40,StoreR.enc]
 have s_:=An @q0 (@q1)
 try simp[s_]
 repeat' ((first|((first|refine Tp ?_|refine Tn ?_|refine T2 ?_ ?_)<;>intro h_ e_ n_)|refine Dg 6 9 [] [] ?_|refine Dg 7 22 [] [] ?_|refine Dg 13 31 [] [] ?_|rw[Ip]|rw[In]|rw[Fz]|rw[Gz]|fail)<;>first|simp[e_,n_,s_]|simp[s_]|skip)
 refine AW.loopG (lit:=fun _=>false) (fun i:Nat=>⟨96,pat [(1,.ptr 0 0 0),(3,I i)],[.cells 0 [encL ChainR.enc s.l,encL CountR.enc s.nexts,I s.stamp]]⟩) (fun i=>s.l.length -i) (fun i=>i≤s.l.length∧∀(j:Nat) (h:j<s.l.length),j<i→Zek s.stamp s.l[j]∧∀p,s.l[j -1]? =some p→0<j→p.ino<s.l[j].ino) 0 ?_ ?_ ?_
 ·exact Wa
 ·exact⟨by simp,fun j h hj=>by omega⟩
 rintro i ⟨g1,g2⟩ A hA
 by_cases hi:i<s.l.length
 case neg=>
  have hc1:∀c∈s.l,Zek s.stamp c:=fun c hc=>by
   obtain⟨j,hj,rfl⟩:=List.getElem_of_mem hc
   exact(g2 j hj (by omega)).1
  have hc2:s.l.Pairwise fun a b=>a.ino<b.ino:=ZhR fun j h=>by
   have:=(g2 (j+1) h (by omega)).2 s.l[j] (by simp) (by omega)
   simpa using this
  clear g2
  have s_:=hi
  try simp[s_]
  repeat' ((first|((first|refine Tp ?_|refine Tn ?_|refine T2 ?_ ?_)<;>intro h_ e_ n_)|refine Dg 6 9 [] [] ?_|refine Dg 7 22 [] [] ?_|refine Dg 13 31 [] [] ?_|rw[Ip]|rw[In]|rw[Fz]|rw[Gz]|fail)<;>first|simp[e_,n_,s_]|simp[s_]|skip)
  refine AW.loopG (lit:=fun _=>false) (fun i:Nat=>⟨96,pat [(1,.ptr 0 0 0),(5,I i)],[.cells 0 [encL ChainR.enc s.l,encL CountR.enc s.nexts,I s.stamp]]⟩) (fun i=>s.nexts.length -i) (fun i=>i≤s.nexts.length∧∀(j:Nat) (h:j<s.nexts.length),j<i→(1≤s.nexts[j].stamp∧s.nexts[j].stamp≤s.stamp∧1≤s.nexts[j].next)∧∀p,s.nexts[j -1]? =some p→0<j→p.stamp<s.nexts[j].stamp) 0 ?_ ?_ ?_
  ·exact Wa
  ·exact⟨by simp,fun j h hj=>by omega⟩
  clear hA g1 hi
  rintro i ⟨g1,g2⟩ A hA
  by_cases hi:i<s.nexts.length
  case neg=>
   have e:b=true:=by
    rw[←hb]
    refine Zjk.2 ⟨by omega,hc1,hc2,fun e=>by rw[e] at q1;simp at q1,?_,fun v hv=> ?_⟩
    ·refine ZhR fun j h=> ?_
     have:=(g2 (j+1) h (by omega)).2 s.nexts[j] (by simp) (by omega)
     simpa using this
    ·obtain⟨j,hj,rfl⟩:=List.getElem_of_mem hv
     exact(g2 j hj (by omega)).1
   rw[e]
   have s_:=hi
   try simp[s_]
   repeat' ((first|((first|refine Tp ?_|refine Tn ?_|refine T2 ?_ ?_)<;>intro h_ e_ n_)|refine Dg 6 9 [] [] ?_|refine Dg 7 22 [] [] ?_|refine Dg 13 31 [] [] ?_|rw[Ip]|rw[In]|rw[Fz]|rw[Gz]|fail)<;>first|simp[e_,n_,s_]|simp[s_]|skip)
  have hwi:=Zi hi hl2
  have hbad:¬((1≤s.nexts[i].stamp∧s.nexts[i].stamp≤s.stamp∧1≤s.nexts[i].next)∧∀p,s.nexts[i -1]? =some p→0<i→p.stamp<s.nexts[i].stamp)→b=false:=fun hn=>by
   rw[←hb]
   refine Zch fun h=>hn ⟨h.count _ (List.getElem_mem hi),fun p hp h0=>by
    obtain⟨h1,rfl⟩:=List.getElem?_eq_some_iff.1 hp
    exact List.pairwise_iff_getElem.1 h.nrise (i -1) i h1 hi (by omega)⟩
  have hgo:((1≤s.nexts[i].stamp∧s.nexts[i].stamp≤s.stamp∧1≤s.nexts[i].next)∧∀p,s.nexts[i -1]? =some p→0<i→p.stamp<s.nexts[i].stamp)→∀(j:Nat) (h:j<s.nexts.length),j<i+1→(1≤s.nexts[j].stamp∧s.nexts[j].stamp≤s.stamp∧1≤s.nexts[j].next)∧∀p,s.nexts[j -1]? =some p→0<j→p.stamp<s.nexts[j].stamp:=fun hn j h hj=>by
   rcases Nat.lt_or_ge j i with g|g
   ·exact g2 j h g
   ·have:j=i:=by omega
    subst this;exact hn
  have hi1:i -1<s.nexts.length:=by omega
  have hp1:s.nexts[i -1]? =some s.nexts[i -1]:=List.getElem?_eq_getElem hi1
  have hwm:0<i→IntKind.i64.wrap ((i:Int) -1)=((i -1:Nat):Int):=fun hp=>by rw[Zf (by omega) (by omega)];omega
  clear g2
  generalize hck:s.nexts[i -1]=p at*
  generalize hci:s.nexts[i]=v at*
  by_cases q2:v.stamp<1
  ·rw[hbad fun h=>by have:=h.1;omega]
   have s_:=An @hi (An @hci (An @q2 (@CountR.enc.eq_1)))
   try simp[s_]
   repeat' ((first|((first|refine Tp ?_|refine Tn ?_|refine T2 ?_ ?_)<;>intro h_ e_ n_)|refine Dg 6 9 [] [] ?_|refine Dg 7 22 [] [] ?_|refine Dg 13 31 [] [] ?_|rw[Ip]|rw[In]|rw[Fz]|rw[Gz]|fail)<;>first|simp[e_,n_,s_]|simp[s_]|skip)
  by_cases q3:s.stamp<v.stamp
  ·rw[hbad fun h=>by have:=h.1;omega]
   have s_:=An @hi (An @hci (An @q2 (An @q3 (@CountR.enc.eq_1))))
   try simp[s_]
   repeat' ((first|((first|refine Tp ?_|refine Tn ?_|refine T2 ?_ ?_)<;>intro h_ e_ n_)|refine Dg 6 9 [] [] ?_|refine Dg 7 22 [] [] ?_|refine Dg 13 31 [] [] ?_|rw[Ip]|rw[In]|rw[Fz]|rw[Gz]|fail)<;>first|simp[e_,n_,s_]|simp[s_]|skip)
  by_cases q4:v.next<1
  ·rw[hbad fun h=>by have:=h.1;omega]
   have s_:=An @hi (An @hci (An @q2 (An @q3 (An @q4 (@CountR.enc.eq_1)))))
   try simp[s_]
   repeat' ((first|((first|refine Tp ?_|refine Tn ?_|refine T2 ?_ ?_)<;>intro h_ e_ n_)|refine Dg 6 9 [] [] ?_|refine Dg 7 22 [] [] ?_|refine Dg 13 31 [] [] ?_|rw[Ip]|rw[In]|rw[Fz]|rw[Gz]|fail)<;>first|simp[e_,n_,s_]|simp[s_]|skip)
  by_cases q5:0<i
  ·have hwm:=hwm q5
   by_cases q6:v.stamp≤p.stamp
   ·rw[hbad fun h=>by have:=h.2 p hp1 q5;omega]
    have s_:=An @hi (An @hci (An @hck (An @q2 (An @q3 (An @q4 (An @q5 (An @q6 (An @hwm (An @hi1 (@CountR.enc.eq_1))))))))))
    try simp[s_]
    repeat' ((first|((first|refine Tp ?_|refine Tn ?_|refine T2 ?_ ?_)<;>intro h_ e_ n_)|refine Dg 6 9 [] [] ?_|refine Dg 7 22 [] [] ?_|refine Dg 13 31 [] [] ?_|rw[Ip]|rw[In]|rw[Fz]|rw[Gz]|fail)<;>first|simp[e_,n_,s_]|simp[s_]|skip)
   ·have hgo:=hgo ⟨by omega,fun p' e h0=>by rw[hp1] at e;cases e;omega⟩
    have s_:=An @hi (An @hci (An @hck (An @q2 (An @q3 (An @q4 (An @q5 (An @q6 (An @hwm (An @hwi (An @hi1 (@CountR.enc.eq_1)))))))))))
    try simp[s_]
    repeat' ((first|((first|refine Tp ?_|refine Tn ?_|refine T2 ?_ ?_)<;>intro h_ e_ n_)|(exact hA (i+1) _ Wc ⟨hi,hgo⟩ (by omega))|refine Dg 6 9 [] [] ?_|refine Dg 7 22 [] [] ?_|refine Dg 13 31 [] [] ?_|rw[Ip]|rw[In]|rw[Fz]|rw[Gz]|fail)<;>first|simp[e_,n_,s_]|simp[s_]|skip)
  ·have hgo:=hgo ⟨by omega,fun p' e h0=>by omega⟩
   have s_:=An @hi (An @hci (An @q2 (An @q3 (An @q4 (An @q5 (An @hwi (@CountR.enc.eq_1)))))))
   try simp[s_]
   repeat' ((first|((first|refine Tp ?_|refine Tn ?_|refine T2 ?_ ?_)<;>intro h_ e_ n_)|(exact hA (i+1) _ Wc ⟨hi,hgo⟩ (by omega))|refine Dg 6 9 [] [] ?_|refine Dg 7 22 [] [] ?_|refine Dg 13 31 [] [] ?_|rw[Ip]|rw[In]|rw[Fz]|rw[Gz]|fail)<;>first|simp[e_,n_,s_]|simp[s_]|skip)
 have hwi:=Zi hi hl1
 have hbad:¬(Zek s.stamp s.l[i]∧∀p,s.l[i -1]? =some p→0<i→p.ino<s.l[i].ino)→b=false:=fun hn=>by
  rw[←hb]
  refine Zch fun h=>hn ⟨h.chain _ (List.getElem_mem hi),fun p hp h0=>by
   obtain⟨h1,rfl⟩:=List.getElem?_eq_some_iff.1 hp
   exact List.pairwise_iff_getElem.1 h.rise (i -1) i h1 hi (by omega)⟩
 have hgo:(Zek s.stamp s.l[i]∧∀p,s.l[i -1]? =some p→0<i→p.ino<s.l[i].ino)→∀(j:Nat) (h:j<s.l.length),j<i+1→Zek s.stamp s.l[j]∧∀p,s.l[j -1]? =some p→0<j→p.ino<s.l[j].ino:=fun hn j h hj=>by
  rcases Nat.lt_or_ge j i with g|g
  ·exact g2 j h g
  ·have:j=i:=by omega
   subst this;exact hn
 have hi1:i -1<s.l.length:=by omega
 have hp1:s.l[i -1]? =some s.l[i -1]:=List.getElem?_eq_getElem hi1
 have hwm:0<i→IntKind.i64.wrap ((i:Int) -1)=((i -1:Nat):Int):=fun hp=>by rw[Zf (by omega) (by omega)];omega
 clear g2
 generalize hck:s.l[i -1]=p at*
 generalize hci:s.l[i]=c at*
 have hC:=Zwh c s.stamp
 cases hcb:ZhQ s.stamp c with
 |false=>
  rw[hbad fun h=>by rw[ZfN.2 h.1] at hcb;cases hcb]
  rw[hcb] at hC
  have s_:=An @hi (An @hci (@ChainR.enc.eq_1))
  try simp[s_]
  repeat' ((first|((first|refine Tp ?_|refine Tn ?_|refine T2 ?_ ?_)<;>intro h_ e_ n_)|refine Pg hC ?_|refine Dg 6 9 [] [] ?_|refine Dg 7 22 [] [] ?_|refine Dg 13 31 [] [] ?_|rw[Ip]|rw[In]|rw[Fz]|rw[Gz]|fail)<;>first|simp[e_,n_,s_]|simp[s_]|skip)
 |true=>
  rw[hcb] at hC
  rw[ZfN] at hcb
  by_cases q5:0<i
  ·have hwm:=hwm q5
   by_cases q6:c.ino≤p.ino
   ·rw[hbad fun h=>by have:=h.2 p hp1 q5;omega]
    have s_:=An @hi (An @hci (An @hck (An @q5 (An @q6 (An @hwm (An @hi1 (@ChainR.enc.eq_1)))))))
    try simp[s_]
    repeat' ((first|((first|refine Tp ?_|refine Tn ?_|refine T2 ?_ ?_)<;>intro h_ e_ n_)|refine Pg hC ?_|refine Dg 6 9 [] [] ?_|refine Dg 7 22 [] [] ?_|refine Dg 13 31 [] [] ?_|rw[Ip]|rw[In]|rw[Fz]|rw[Gz]|fail)<;>first|simp[e_,n_,s_]|simp[s_]|skip)
   ·have hgo:=hgo ⟨hcb,fun p' e h0=>by rw[hp1] at e;cases e;omega⟩
    have s_:=An @hi (An @hci (An @hck (An @q5 (An @q6 (An @hwm (An @hwi (An @hi1 (@ChainR.enc.eq_1))))))))
    try simp[s_]
    repeat' ((first|((first|refine Tp ?_|refine Tn ?_|refine T2 ?_ ?_)<;>intro h_ e_ n_)|(exact hA (i+1) _ Wc ⟨hi,hgo⟩ (by omega))|refine Pg hC ?_|refine Dg 6 9 [] [] ?_|refine Dg 7 22 [] [] ?_|refine Dg 13 31 [] [] ?_|rw[Ip]|rw[In]|rw[Fz]|rw[Gz]|fail)<;>first|simp[e_,n_,s_]|simp[s_]|skip)
  ·have hgo:=hgo ⟨hcb,fun p' e h0=>by omega⟩
   have s_:=An @hi (An @hci (An @q5 (An @hwi (@ChainR.enc.eq_1))))
   try simp[s_]
   repeat' ((first|((first|refine Tp ?_|refine Tn ?_|refine T2 ?_ ?_)<;>intro h_ e_ n_)|(exact hA (i+1) _ Wc ⟨hi,hgo⟩ (by omega))|refine Pg hC ?_|refine Dg 6 9 [] [] ?_|refine Dg 7 22 [] [] ?_|refine Dg 13 31 [] [] ?_|rw[Ip]|rw[In]|rw[Fz]|rw[Gz]|fail)<;>first|simp[e_,n_,s_]|simp[s_]|skip)
theorem ZtL (s:StoreR) (hb:Zcy s):Zd Tryz.prog 25 [.agg s.enc] (B (fewStore s)):=by
 have hl1:=hb.l
 have hl2:=hb.nexts
 have hl3:=hb.vers
 have hl4:=hb.ents
 clear hb
 obtain⟨cs,ns,st⟩:=s
 simp only at hl1 hl2 hl3 hl4
 obtain⟨b,hb⟩:∃b,fewStore ⟨cs,ns,st⟩=b:=⟨_,rfl⟩
 rw[hb]
 have hw0:IntKind.i64.wrap ((cs.length:Int)+ns.length)=(cs.length:Int)+ns.length:=Zf (by omega) (by omega)
 refine Pm Tryz.func25 fun hfit=> ?_
 simp[Tryz.f25,StoreR.enc]
 refine AW.loopG (lit:=fun _=>false) (fun x:Nat×Int=>⟨77,pat [(1,.ptr 0 0 0),(3,I x.2),(4,I x.1)],[.cells 0 [encL ChainR.enc cs,encL CountR.enc ns,I st]]⟩) (fun x=>cs.length -x.1) (fun x=>x.1≤cs.length∧0≤x.2∧x.2≤4194304∧(match fewC (cs.drop x.1) x.2 with|none=>false|some n=>decide (n≤200))=b) (0,(cs.length:Int)+ns.length) ?_ ?_ ?_
 ·exact Wk.at _ rfl (by simp) (by simp;exact hw0)
 ·exact⟨by simp,by simp only;omega,by simp only;omega,hb⟩
 rintro⟨i,n⟩ ⟨g1,g2,g3,g4⟩ A hA
 simp only at g1 g2 g3 g4 hA
 by_cases hi:i<cs.length
 case neg=>
  rw[List.drop_eq_nil_of_le (by omega),fewC] at g4
  simp only at g4
  subst g4
  have s_:=hi
  try simp[s_]
  repeat' ((first|((first|refine Tp ?_|refine Tn ?_|refine T2 ?_ ?_)<;>intro h_ e_ n_)|rw[Ip]|rw[In]|rw[Fz]|rw[Gz]|fail)<;>first|simp[e_,n_,s_]|simp[s_]|skip)
 rw[List.drop_eq_getElem_cons hi,fewC] at g4
 by_cases hn:n≤200
 case neg=>
  rw[if_neg hn] at g4
  simp only at g4
  subst g4
  have s_:=An @hi (@hn)
  try simp[s_]
  repeat' ((first|((first|refine Tp ?_|refine Tn ?_|refine T2 ?_ ?_)<;>intro h_ e_ n_)|rw[Ip]|rw[In]|rw[Fz]|rw[Gz]|fail)<;>first|simp[e_,n_,s_]|simp[s_]|skip)
 rw[if_pos hn] at g4
 have hwi:=Zi hi (by simp only[maxLen];omega)
 have hl3:=hl3 cs[i] (List.getElem_mem hi)
 have hl4:=hl4 cs[i] (List.getElem_mem hi)
 generalize hci:cs[i]=c at*
 have hw1:IntKind.i64.wrap (n+(c.l.length:Int))=n+c.l.length:=Zf (by omega) (by omega)
 have s_:=An @hi (An @hn (An @hci (An @hw1 (@ChainR.enc.eq_1))))
 try simp[s_]
 repeat' ((first|((first|refine Tp ?_|refine Tn ?_|refine T2 ?_ ?_)<;>intro h_ e_ n_)|rw[Ip]|rw[In]|rw[Fz]|rw[Gz]|fail)<;>first|simp[e_,n_,s_]|simp[s_]|skip)
 refine AW.loopG (lit:=fun _=>false) (fun x:Nat×Int=>⟨77,pat [(1,.ptr 0 0 0),(3,I x.2),(4,I i),(5,I x.1)],[.cells 0 [encL ChainR.enc cs,encL CountR.enc ns,I st]]⟩) (fun x=>c.l.length -x.1) (fun x=>x.1≤c.l.length∧0≤x.2∧x.2≤4194304∧(match(match fewV (c.l.drop x.1) x.2 with|none=>none|some m=>fewC (cs.drop (i+1)) m) with|none=>false|some n=>decide (n≤200))=b) (0,n+c.l.length) ?_ ?_ ?_
 ·exact Wk.at _ rfl (by simp[hw1]) (by simp)
 ·exact⟨by simp,by simp only;omega,by simp only;omega,g4⟩
 rintro⟨j,m⟩ ⟨k1,k2,k3,k4⟩ A' hA'
 simp only at k1 k2 k3 k4 hA'
 by_cases hj:j<c.l.length
 case neg=>
  rw[List.drop_eq_nil_of_le (by omega),fewV] at k4
  simp only at k4
  have s_:=An @hi (An @hci (An @hj (An @hwi (@ChainR.enc.eq_1))))
  try simp[s_]
  repeat' ((first|((first|refine Tp ?_|refine Tn ?_|refine T2 ?_ ?_)<;>intro h_ e_ n_)|(exact hA (i+1,m) _ Wa ⟨hi,k2,k3,k4⟩ (by simp only;omega))|rw[Ip]|rw[In]|rw[Fz]|rw[Gz]|fail)<;>first|simp[e_,n_,s_]|simp[s_]|skip)
 rw[List.drop_eq_getElem_cons hj,fewV] at k4
 by_cases hm:m≤200
 case neg=>
  rw[if_neg hm] at k4
  simp only at k4
  have s_:=An @hi (An @hci (An @hj (An @hm (An @hwi (@ChainR.enc.eq_1)))))
  try simp[s_]
  repeat' ((first|((first|refine Tp ?_|refine Tn ?_|refine T2 ?_ ?_)<;>intro h_ e_ n_)|(exact hA (i+1,m) _ Wa ⟨hi,k2,k3,k4⟩ (by simp only;omega))|rw[Ip]|rw[In]|rw[Fz]|rw[Gz]|fail)<;>first|simp[e_,n_,s_]|simp[s_]|skip)
 rw[if_pos hm] at k4
 have hwj:=Zi hj (by simp only[maxLen];omega)
 have hl4:=hl4 c.l[j] (List.getElem_mem hj)
 generalize hcj:c.l[j]=v at*
 have hw2:IntKind.i64.wrap (m+(v.node.l.length:Int))=m+v.node.l.length:=Zf (by omega) (by omega)
 by_cases ht:4096<v.node.text.size
 ·rw[if_pos ht] at k4
  simp only at k4
  subst k4
  have s_:=An @hi (An @hci (An @hj (An @hcj (An @hm (An @hw2 (An @ht (An @ChainR.enc.eq_1 (An @VerR.enc.eq_1 (@NodeR.enc.eq_1)))))))))
  try simp[s_]
  repeat' ((first|((first|refine Tp ?_|refine Tn ?_|refine T2 ?_ ?_)<;>intro h_ e_ n_)|rw[Ip]|rw[In]|rw[Fz]|rw[Gz]|fail)<;>first|simp[e_,n_,s_]|simp[s_]|skip)
 ·rw[if_neg ht] at k4
  have s_:=An @hi (An @hci (An @hj (An @hcj (An @hm (An @hw2 (An @hwj (An @ht (An @ChainR.enc.eq_1 (An @VerR.enc.eq_1 (@NodeR.enc.eq_1))))))))))
  try simp[s_]
  repeat' ((first|((first|refine Tp ?_|refine Tn ?_|refine T2 ?_ ?_)<;>intro h_ e_ n_)|(exact hA' (j+1,m+v.node.l.length) _ (Wk.at _ rfl (by simp[hw2]) (by simp)) ⟨hj,by simp only;omega,by simp only;omega,k4⟩ (by simp only;omega))|rw[Ip]|rw[In]|rw[Fz]|rw[Gz]|fail)<;>first|simp[e_,n_,s_]|simp[s_]|skip)
theorem Zka {α:Type} {a b:List α} (hl:a.length=b.length) (h:∀(j:Nat) (ha:j<a.length) (hb:j<b.length),a[j]=b[j]):a=b:=List.ext_getElem hl fun j ha hb=>h j ha hb
def _root_.Go.Cx.CountR.vals (c:CountR):List Value:=[.int .i64 c.stamp,.int .i64 c.next]
abbrev cntK:List TypeDesc:=[.int .i64,.int .i64]
theorem _root_.Go.Cx.CountR.kinds (c:CountR):ZbO cntK c.vals:= .cons rfl (.cons rfl .nil)
theorem _root_.Go.Cx.CountR.vals_eq (a b:CountR):a.vals=b.vals↔a=b:=by
 cases a;cases b;simp[CountR.vals]
@[simp] theorem cnt_neq {P:Program} {t:TypeId} (ox oy:Operand) (ht:ZhW P t=some cntK) (hg:tagg P t=some true) (a b:CountR):abin P .neq t ox oy (.agg a.enc) (.agg b.enc)=some (.val (.bool (!decide (a=b)))):=by
 have:=(Zmi ht hg a.kinds b.kinds ox oy).2
 have e:decide (a.vals=b.vals)=decide (a=b):=by rw[decide_eq_decide];exact CountR.vals_eq a b
 rw[e] at this;exact this
theorem ZqT (a b:StoreR):Zd Tryz.prog 18 [.agg a.enc,.agg b.enc] (B (decide (a=b))):=by
 by_cases q0:a.stamp=b.stamp
 case neg=>
  rw[decide_eq_false fun h=>q0 (by rw[h])]
  refine Pm Tryz.func18 fun hfit=> ?_
  simp[Tryz.f18]
  have s_:=An @q0 (@StoreR.enc.eq_1)
  try simp[s_]
  repeat' ((first|((first|refine Tp ?_|refine Tn ?_|refine T2 ?_ ?_)<;>intro h_ e_ n_)|refine Dg 6 11 [] [] ?_|refine Dg 18 14 [] [] ?_|refine Dg 19 32 [] [] ?_|rw[Ip]|rw[In]|rw[Fz]|rw[Gz]|fail)<;>first|simp[e_,n_,s_]|simp[s_]|skip)
 by_cases q1:a.l.length=b.l.length
 case neg=>
  rw[decide_eq_false fun h=>q1 (by rw[h])]
  have q1':¬(a.l.length:Int)=b.l.length:=by omega
  refine Pm Tryz.func18 fun hfit=> ?_
  simp[Tryz.f18]
  have s_:=An @q0 (An @q1 (An @q1' (@StoreR.enc.eq_1)))
  try simp[s_]
  repeat' ((first|((first|refine Tp ?_|refine Tn ?_|refine T2 ?_ ?_)<;>intro h_ e_ n_)|refine Dg 6 11 [] [] ?_|refine Dg 18 14 [] [] ?_|refine Dg 19 32 [] [] ?_|rw[Ip]|rw[In]|rw[Fz]|rw[Gz]|fail)<;>first|simp[e_,n_,s_]|simp[s_]|skip)
 by_cases q2:a.nexts.length=b.nexts.length
 case neg=>
  rw[decide_eq_false fun h=>q2 (by rw[h])]
  have q2':¬(a.nexts.length:Int)=b.nexts.length:=by omega
  refine Pm Tryz.func18 fun hfit=> ?_
  simp[Tryz.f18]
  have s_:=An @q0 (An @q1 (An @q2 (An @q2' (@StoreR.enc.eq_1))))
  try simp[s_]
  repeat' ((first|((first|refine Tp ?_|refine Tn ?_|refine T2 ?_ ?_)<;>intro h_ e_ n_)|refine Dg 6 11 [] [] ?_|refine Dg 18 14 [] [] ?_|refine Dg 19 32 [] [] ?_|rw[Ip]|rw[In]|rw[Fz]|rw[Gz]|fail)<;>first|simp[e_,n_,s_]|simp[s_]|skip)
 obtain⟨r,hr⟩:∃r,decide (a=b)=r:=⟨_,rfl⟩
 rw[hr]
 obtain⟨al,an,ast⟩:=a
 obtain⟨bl,bn,bst⟩:=b
 simp only at q0 q1 q2
 subst q0
 have hbad1:an≠bn→r=false:=fun h=>by rw[←hr];exact decide_eq_false fun e=>h (by cases e;rfl)
 have hbad2:al≠bl→r=false:=fun h=>by rw[←hr];exact decide_eq_false fun e=>h (by cases e;rfl)
 have hgood:an=bn→al=bl→r=true:=fun h1 h2=>by rw[←hr,h1,h2];simp
 clear hr
 refine Pm Tryz.func18 fun hfit=> ?_
 simp[StoreR.enc] at hfit
 have hl1:=hfit.1.1.1
 have hl2:=hfit.1.2.1
 have hfv:=hfit.1.1.2
 have hm1:=hl1
 have hm2:=hl2
 simp only[maxLen] at hm1 hm2
 simp[Tryz.f18,StoreR.enc]
 have s_:=An @q1 (@q2)
 try simp[s_]
 repeat' ((first|((first|refine Tp ?_|refine Tn ?_|refine T2 ?_ ?_)<;>intro h_ e_ n_)|refine Dg 6 11 [] [] ?_|refine Dg 18 14 [] [] ?_|refine Dg 19 32 [] [] ?_|rw[Ip]|rw[In]|rw[Fz]|rw[Gz]|fail)<;>first|simp[e_,n_,s_]|simp[s_]|skip)
 refine AW.loopG (lit:=fun _=>false) (fun i:Nat=>⟨135,pat [(2,.ptr 0 0 0),(3,.ptr 1 0 0),(5,I i)],[.cells 0 [encL ChainR.enc al,encL CountR.enc an,I ast],.cells 0 [encL ChainR.enc bl,encL CountR.enc bn,I ast]]⟩) (fun i=>an.length -i) (fun i=>i≤an.length∧∀(j:Nat) (ha:j<an.length) (hb:j<bn.length),j<i→an[j]=bn[j]) 0 ?_ ?_ ?_
 ·exact Wa
 ·exact⟨by simp,fun j h _ hj=>by omega⟩
 rintro i ⟨g1,g2⟩ A hA
 by_cases hi:i<an.length
 case pos=>
  have hi2:i<bn.length:=by omega
  have hwi:=Zi hi hl2
  by_cases q3:an[i]=bn[i]
  ·have hgo:∀(j:Nat) (ha:j<an.length) (hb:j<bn.length),j<i+1→an[j]=bn[j]:=fun j ha hb hj=>by
    rcases Nat.lt_or_ge j i with g|g
    ·exact g2 j ha hb g
    ·have:j=i:=by omega
     subst this;exact q3
   have s_:=An @hi (An @hi2 (An @hwi (@q3)))
   try simp[s_]
   repeat' ((first|((first|refine Tp ?_|refine Tn ?_|refine T2 ?_ ?_)<;>intro h_ e_ n_)|(exact hA (i+1) _ Wa ⟨hi,hgo⟩ (by omega))|refine Dg 6 11 [] [] ?_|refine Dg 18 14 [] [] ?_|refine Dg 19 32 [] [] ?_|rw[Ip]|rw[In]|rw[Fz]|rw[Gz]|fail)<;>first|simp[e_,n_,s_]|simp[s_]|skip)
  ·rw[hbad1 fun e=>q3 (by subst e;rfl)]
   have s_:=An @hi (An @hi2 (@q3))
   try simp[s_]
   repeat' ((first|((first|refine Tp ?_|refine Tn ?_|refine T2 ?_ ?_)<;>intro h_ e_ n_)|refine Dg 6 11 [] [] ?_|refine Dg 18 14 [] [] ?_|refine Dg 19 32 [] [] ?_|rw[Ip]|rw[In]|rw[Fz]|rw[Gz]|fail)<;>first|simp[e_,n_,s_]|simp[s_]|skip)
 have hnn:an=bn:=Zka q2 fun j ha hb=>g2 j ha hb (by omega)
 have hgood:=hgood hnn
 clear g2 hbad1
 have s_:=hi
 try simp[s_]
 repeat' ((first|((first|refine Tp ?_|refine Tn ?_|refine T2 ?_ ?_)<;>intro h_ e_ n_)|refine Dg 6 11 [] [] ?_|refine Dg 18 14 [] [] ?_|refine Dg 19 32 [] [] ?_|rw[Ip]|rw[In]|rw[Fz]|rw[Gz]|fail)<;>first|simp[e_,n_,s_]|simp[s_]|skip)
 clear hA g1 hi
 refine AW.loopG (lit:=fun _=>false) (fun i:Nat=>⟨135,pat [(2,.ptr 0 0 0),(3,.ptr 1 0 0),(6,I i)],[.cells 0 [encL ChainR.enc al,encL CountR.enc an,I ast],.cells 0 [encL ChainR.enc bl,encL CountR.enc bn,I ast]]⟩) (fun i=>al.length -i) (fun i=>i≤al.length∧∀(j:Nat) (ha:j<al.length) (hb:j<bl.length),j<i→al[j]=bl[j]) 0 ?_ ?_ ?_
 ·exact Wa
 ·exact⟨by simp,fun j h _ hj=>by omega⟩
 rintro i ⟨g1,g2⟩ A hA
 by_cases hi:i<al.length
 case neg=>
  rw[hgood (Zka q1 fun j ha hb=>g2 j ha hb (by omega))]
  have s_:=hi
  try simp[s_]
  repeat' ((first|((first|refine Tp ?_|refine Tn ?_|refine T2 ?_ ?_)<;>intro h_ e_ n_)|refine Dg 6 11 [] [] ?_|refine Dg 18 14 [] [] ?_|refine Dg 19 32 [] [] ?_|rw[Ip]|rw[In]|rw[Fz]|rw[Gz]|fail)<;>first|simp[e_,n_,s_]|simp[s_]|skip)
 have hi2:i<bl.length:=by omega
 have hwi:=Zi hi hl1
 have hgo:al[i]=bl[i]→∀(j:Nat) (ha:j<al.length) (hb:j<bl.length),j<i+1→al[j]=bl[j]:=fun q3 j ha hb hj=>by
  rcases Nat.lt_or_ge j i with g|g
  ·exact g2 j ha hb g
  ·have:j=i:=by omega
   subst this;exact q3
 have hbad:al[i]≠bl[i]→r=false:=fun q=>hbad2 fun e=>q (by subst e;rfl)
 have hlv:al[i].l.length≤maxLen:=by
  have:=hfv al[i] (List.getElem_mem hi) (encL VerR.enc al[i].l) (by simp[ChainR.enc])
  simp at this
  exact this.1
 clear g2 hbad2 hgood
 generalize hx:al[i]=x at*
 generalize hy:bl[i]=y at*
 by_cases q3:x.ino=y.ino
 case neg=>
  rw[hbad fun e=>q3 (by rw[e])]
  have s_:=An @hi (An @hi2 (An @hx (An @hy (An @q3 (@ChainR.enc.eq_1)))))
  try simp[s_]
  repeat' ((first|((first|refine Tp ?_|refine Tn ?_|refine T2 ?_ ?_)<;>intro h_ e_ n_)|refine Dg 6 11 [] [] ?_|refine Dg 18 14 [] [] ?_|refine Dg 19 32 [] [] ?_|rw[Ip]|rw[In]|rw[Fz]|rw[Gz]|fail)<;>first|simp[e_,n_,s_]|simp[s_]|skip)
 by_cases q4:x.l.length=y.l.length
 case neg=>
  have q4':¬(x.l.length:Int)=y.l.length:=by omega
  rw[hbad fun e=>q4 (by rw[e])]
  have s_:=An @hi (An @hi2 (An @hx (An @hy (An @q3 (An @q4 (An @q4' (@ChainR.enc.eq_1)))))))
  try simp[s_]
  repeat' ((first|((first|refine Tp ?_|refine Tn ?_|refine T2 ?_ ?_)<;>intro h_ e_ n_)|refine Dg 6 11 [] [] ?_|refine Dg 18 14 [] [] ?_|refine Dg 19 32 [] [] ?_|rw[Ip]|rw[In]|rw[Fz]|rw[Gz]|fail)<;>first|simp[e_,n_,s_]|simp[s_]|skip)
 have s_:=An @hi (An @hi2 (An @hx (An @hy (An @q3 (An @q4 (@ChainR.enc.eq_1))))))
 try simp[s_]
 repeat' ((first|((first|refine Tp ?_|refine Tn ?_|refine T2 ?_ ?_)<;>intro h_ e_ n_)|refine Dg 6 11 [] [] ?_|refine Dg 18 14 [] [] ?_|refine Dg 19 32 [] [] ?_|rw[Ip]|rw[In]|rw[Fz]|rw[Gz]|fail)<;>first|simp[e_,n_,s_]|simp[s_]|skip)
 refine AW.loopG (lit:=fun _=>false) (fun j:Nat=>⟨135,pat [(2,.ptr 0 0 0),(3,.ptr 1 0 0),(6,I i),(7,.ptr 2 0 0),(8,.ptr 3 0 0),(9,I j)],[.cells 0 [encL ChainR.enc al,encL CountR.enc an,I ast],.cells 0 [encL ChainR.enc bl,encL CountR.enc bn,I ast],.cells 0 [I x.ino,encL VerR.enc x.l],.cells 0 [I y.ino,encL VerR.enc y.l]]⟩) (fun j=>x.l.length -j) (fun j=>j≤x.l.length∧∀(k:Nat) (ha:k<x.l.length) (hb:k<y.l.length),k<j→x.l[k]=y.l[k]) 0 ?_ ?_ ?_
 ·exact Wk.at _ rfl (by simp[q3,q4]) (by simp)
 ·exact⟨by simp,fun j h _ hj=>by omega⟩
 rintro j ⟨k1,k2⟩ A' hA'
 by_cases hj:j<x.l.length
 case neg=>
  have hl:x.l=y.l:=Zka q4 fun k ha hb=>k2 k ha hb (by omega)
  have hxy:x=y:=by cases x;cases y;simp only at q3 hl;rw[q3,hl]
  have hgo:=hgo hxy
  have s_:=An @hi (An @hj (@hwi))
  try simp[s_]
  repeat' ((first|((first|refine Tp ?_|refine Tn ?_|refine T2 ?_ ?_)<;>intro h_ e_ n_)|(exact hA (i+1) _ Wc ⟨hi,hgo⟩ (by omega))|refine Dg 6 11 [] [] ?_|refine Dg 18 14 [] [] ?_|refine Dg 19 32 [] [] ?_|rw[Ip]|rw[In]|rw[Fz]|rw[Gz]|fail)<;>first|simp[e_,n_,s_]|simp[s_]|skip)
 have hj2:j<y.l.length:=by omega
 have hwj:=Zi hj hlv
 have hgo':x.l[j]=y.l[j]→∀(k:Nat) (ha:k<x.l.length) (hb:k<y.l.length),k<j+1→x.l[k]=y.l[k]:=fun q3 k ha hb hk=>by
  rcases Nat.lt_or_ge k j with g|g
  ·exact k2 k ha hb g
  ·have:k=j:=by omega
   subst this;exact q3
 have hbad':x.l[j]≠y.l[j]→r=false:=fun q=>hbad fun e=>q (by subst e;rfl)
 clear k2 hbad hgo
 generalize hv:x.l[j]=v at*
 generalize hw:y.l[j]=w at*
 have hN:=rnsame_ok v.node w.node
 by_cases q5:v.node=w.node
 case neg=>
  rw[hbad' fun e=>q5 (by rw[e])]
  rw[decide_eq_false q5] at hN
  have s_:=An @hj (An @hj2 (An @hv (An @hw (An @VerR.enc.eq_1 (@NodeR.enc.eq_1)))))
  try simp[s_]
  repeat' ((first|((first|refine Tp ?_|refine Tn ?_|refine T2 ?_ ?_)<;>intro h_ e_ n_)|refine Pg hN ?_|refine Dg 6 11 [] [] ?_|refine Dg 18 14 [] [] ?_|refine Dg 19 32 [] [] ?_|rw[Ip]|rw[In]|rw[Fz]|rw[Gz]|fail)<;>first|simp[e_,n_,s_]|simp[s_]|skip)
 rw[decide_eq_true q5] at hN
 by_cases q6:v.stamp=w.stamp
 case neg=>
  rw[hbad' fun e=>q6 (by rw[e])]
  have s_:=An @hj (An @hj2 (An @hv (An @hw (An @q6 (An @VerR.enc.eq_1 (@NodeR.enc.eq_1))))))
  try simp[s_]
  repeat' ((first|((first|refine Tp ?_|refine Tn ?_|refine T2 ?_ ?_)<;>intro h_ e_ n_)|refine Pg hN ?_|refine Dg 6 11 [] [] ?_|refine Dg 18 14 [] [] ?_|refine Dg 19 32 [] [] ?_|rw[Ip]|rw[In]|rw[Fz]|rw[Gz]|fail)<;>first|simp[e_,n_,s_]|simp[s_]|skip)
 by_cases q7:v.gone=w.gone
 case neg=>
  rw[hbad' fun e=>q7 (by rw[e])]
  have s_:=An @hj (An @hj2 (An @hv (An @hw (An @q6 (An @q7 (An @VerR.enc.eq_1 (@NodeR.enc.eq_1)))))))
  try simp[s_]
  repeat' ((first|((first|refine Tp ?_|refine Tn ?_|refine T2 ?_ ?_)<;>intro h_ e_ n_)|refine Pg hN ?_|refine Dg 6 11 [] [] ?_|refine Dg 18 14 [] [] ?_|refine Dg 19 32 [] [] ?_|rw[Ip]|rw[In]|rw[Fz]|rw[Gz]|fail)<;>first|simp[e_,n_,s_]|simp[s_]|skip)
 have hgo':=hgo' (by cases v;cases w;simp only at q5 q6 q7;rw[q5,q6,q7])
 have s_:=An @hj (An @hj2 (An @hv (An @hw (An @q6 (An @q7 (An @hwj (An @VerR.enc.eq_1 (@NodeR.enc.eq_1))))))))
 try simp[s_]
 repeat' ((first|((first|refine Tp ?_|refine Tn ?_|refine T2 ?_ ?_)<;>intro h_ e_ n_)|(exact hA' (j+1) _ Wa ⟨hj,hgo'⟩ (by omega))|refine Pg hN ?_|refine Dg 6 11 [] [] ?_|refine Dg 18 14 [] [] ?_|refine Dg 19 32 [] [] ?_|rw[Ip]|rw[In]|rw[Fz]|rw[Gz]|fail)<;>first|simp[e_,n_,s_]|simp[s_]|skip)
theorem Zwm (l:List Int) (g:FuncId) (p:Int→Bool) (hp:∀x∈l,Zd Tryz.prog g [I x] (B (p x))) (hl:l.length≤1000000):Zd Tryz.prog 196 [enc1 I l,.fn g []] (I (idxS p l)):=by
 refine Pm Tryz.func196 fun hfit=> ?_
 simp at hfit
 simp[Tryz.f196]
 refine AW.loopG (lit:=fun _=>false) (fun i:Nat=>⟨19,pat [(0,enc1 I l),(1,.fn g []),(7,I l.length),(8,I i)],[]⟩) (fun i=>l.length -i) (fun i=>i≤l.length∧ZaS p i (l.drop i)=idxS p l) 0 ?_ ?_ ?_
 ·exact Wk.at _ rfl rfl (by simp)
 ·simp[idxS]
 rintro i ⟨h1,h2⟩ A hA
 by_cases hi:i<l.length
 case neg=>
  rw[ZcH hi] at h2
  have s_:=An @hi (Eq.symm (h2))
  try simp[s_]
  repeat' ((first|((first|refine Tp ?_|refine Tn ?_|refine T2 ?_ ?_)<;>intro h_ e_ n_)|rw[Ip]|rw[In]|rw[Fz]|rw[Gz]|fail)<;>first|simp[e_,n_,s_]|simp[s_]|skip)
 rw[ZdL hi] at h2
 have hw:=Zi hi (by simp only[maxLen];omega)
 have hpi:=hp l[i] (List.getElem_mem hi)
 cases hpp:p l[i] with
 |true=>
  rw[hpp] at hpi
  simp only[hpp,if_true] at h2
  have s_:=An @hi (An (Eq.symm (h2)) (@hpp))
  try simp[s_]
  repeat' ((first|((first|refine Tp ?_|refine Tn ?_|refine T2 ?_ ?_)<;>intro h_ e_ n_)|refine Pg hpi ?_|rw[Ip]|rw[In]|rw[Fz]|rw[Gz]|fail)<;>first|simp[e_,n_,s_]|simp[s_]|skip)
 |false=>
  rw[hpp] at hpi
  simp only[hpp,Bool.false_eq_true,if_false] at h2
  have s_:=An @hi (An @hw (@hpp))
  try simp[s_]
  repeat' ((first|((first|refine Tp ?_|refine Tn ?_|refine T2 ?_ ?_)<;>intro h_ e_ n_)|(exact hA (i+1) _ Wa ⟨by omega,h2⟩ (by omega))|refine Pg hpi ?_|rw[Ip]|rw[In]|rw[Fz]|rw[Gz]|fail)<;>first|simp[e_,n_,s_]|simp[s_]|skip)
theorem delI_ok (V:Nat) (l:List Int) (g:FuncId) (p:Int→Bool) (hp:∀x∈l,Zd Tryz.prog g [I x] (B (p x))) (hl:l.length≤1000000):XCall Tryz.prog 234 [.own 0 V 0 l.length 1,.fn g []] [.cells V (l.map I)] (.own 0 V 0 (l.filter fun x=> !p x).length 1) [.cells V ((l.filter fun x=> !p x).map I)]:=by
 refine XCall.mkG (fun s (_:Unit)=>s) (fun _=>false) Tryz.func234 rfl rfl rfl (Ent.mk Tryz.func234 (by kernel_rfl) rfl) (by simp) (by simp) (by simp) (by simp) (by simp) fun hfit=> ?_
 refine⟨WkE.one _ _,fun _=> ?_⟩
 have hix:=Zwm l g p hp hl
 by_cases h0:idxS p l= -1
 ·obtain⟨e1,_⟩:=ZeX h0
  simp[Tryz.f234]
  have s_:=h0
  try simp[s_]
  repeat' ((first|((first|refine Tp ?_|refine Tn ?_|refine T2 ?_ ?_)<;>intro h_ e_ n_)|refine Lg hix ?_|rw[Ip]|rw[In]|rw[Fz]|rw[Gz]|fail)<;>first|simp[e_,n_,s_]|simp[s_]|skip)
  exact⟨_,Wk.refl _ _,by simp[e1]⟩
 obtain⟨j0,hj0,e1,e2,e3⟩:=ZeY h0
 have hw0:IntKind.i64.wrap ((j0:Int)+1)=(j0:Int)+1:=Zf (by omega) (by omega)
 have hn0:¬((j0:Int)= -1):=by omega
 rw[e1] at hix
 simp[Tryz.f234]
 have s_:=An @e1 (An @hw0 (@hn0))
 try simp[s_]
 repeat' ((first|((first|refine Tp ?_|refine Tn ?_|refine T2 ?_ ?_)<;>intro h_ e_ n_)|refine Lg hix ?_|rw[Ip]|rw[In]|rw[Fz]|rw[Gz]|fail)<;>first|simp[e_,n_,s_]|simp[s_]|skip)
 refine AW.loopG (lit:=fun _=>false) (fun x:Nat×Nat×List Int=>⟨42,pat [(0,.own 0 V 0 l.length 1),(1,.fn g []),(5,I x.1),(6,I x.2.1)],[.cells V (x.2.2.map I)]⟩) (fun x=>l.length -x.2.1) (fun x=>Zec p l x.2.2 x.1 x.2.1) (j0,j0+1,l) ?_ ?_ ?_
 ·exact Wk.at _ rfl (by simp[e1,hw0]) (by simp)
 ·exact .start hj0 e2 e3
 rintro⟨i,j,m⟩ hd A hA
 simp only at hd hA
 have hml:=hd.len
 by_cases hj:j<l.length
 case neg=>
  obtain⟨d1,d2,d3⟩:=hd.done hj
  have s_:=An @hj (@hml)
  try simp[s_]
  repeat' ((first|((first|refine Tp ?_|refine Tn ?_|refine T2 ?_ ?_)<;>intro h_ e_ n_)|rw[Ip]|rw[In]|rw[Fz]|rw[Gz]|fail)<;>first|simp[e_,n_,s_]|simp[s_]|skip)
  exact⟨_,Wk.prefix 0 V i rfl rfl,by simp[d2],by
   have:(putAt (m.map I) i (List.replicate (l.length -i) (I 0))).take i=(m.take i).map I:=by
    rw[List.map_take]
    unfold putAt
    rw[List.append_assoc,List.take_left' (by simp;omega)]
   rw[d1] at this
   simpa using this⟩
 have hmj:=hd.get hj
 have hx:=hp l[j] (List.getElem_mem hj)
 have hw:IntKind.i64.wrap ((j:Int)+1)=((j+1:Nat):Int):=by rw[Zf (by omega) (by omega)];omega
 have hi:=hd.lt
 have hwi:IntKind.i64.wrap ((i:Int)+1)=((i+1:Nat):Int):=by rw[Zf (by omega) (by omega)];omega
 cases hpp:p l[j] with
 |true=>
  rw[hpp] at hx
  have s_:=An @hj (An @hml (An @hw (@hmj)))
  try simp[s_]
  repeat' ((first|((first|refine Tp ?_|refine Tn ?_|refine T2 ?_ ?_)<;>intro h_ e_ n_)|(exact hA (i,j+1,m) _ Wc (hd.skip hj hpp) (by simp only;omega))|refine Pg hx ?_|rw[Ip]|rw[In]|rw[Fz]|rw[Gz]|fail)<;>first|simp[e_,n_,s_]|simp[s_]|skip)
 |false=>
  rw[hpp] at hx
  have him:i<m.length:=by omega
  have hil:i<l.length:=by omega
  have s_:=An @hj (An @hml (An @hw (An @hwi (An @hmj (An @him (@hil))))))
  try simp[s_]
  repeat' ((first|((first|refine Tp ?_|refine Tn ?_|refine T2 ?_ ?_)<;>intro h_ e_ n_)|(exact hA (i+1,j+1,m.set i l[j]) _ (Wk.cutAt _ rfl (by simp) (by simp) (by simp[-List.map_set]) (by simp)) (hd.keep hj hpp) (by simp only;omega))|refine Pg hx ?_|rw[Ip]|rw[In]|rw[Fz]|rw[Gz]|fail)<;>first|simp[e_,n_,s_]|simp[s_]|skip)
theorem Zwn (m:Nat) (hm:m≤5000000):XCall Tryz.prog 227 [.sl true 0 [],I m] [] (.own 0 0 0 0 1) [.cells 0 []]:=by
 have hw:IntKind.i64.wrap (m:Int)=m:=Zf (by omega) (by omega)
 by_cases h0:m=0
 ·subst h0
  refine XCall.mkG (fun s (_:Unit)=>s) (fun _=>false) Tryz.func227 rfl rfl rfl (Ent.mk Tryz.func227 (by kernel_rfl) rfl) (by simp) (by simp) (by simp) (by simp) (by simp) fun hfit=> ?_
  refine⟨WkE.one _ _,fun _=> ?_⟩
  have s_:=An (@Tryz.f227.eq_1) (@hw)
  try simp[s_]
  repeat' ((first|((first|refine Tp ?_|refine Tn ?_|refine T2 ?_ ?_)<;>intro h_ e_ n_)|rw[Ip]|rw[In]|rw[Fz]|rw[Gz]|fail)<;>first|simp[e_,n_,s_]|simp[s_]|skip)
  exact⟨_,Wk.ownNil 4 1 (by simp),by simp⟩
 ·refine XCall.mkG (fun s (_:Unit)=>s) (fun _=>false) Tryz.func227 rfl rfl rfl (Ent.mk Tryz.func227 (by kernel_rfl) rfl) (by simp) (by simp) (by simp) (by simp) (by simp) fun hfit=> ?_
  refine⟨WkE.one _ _,fun _=> ?_⟩
  have h1:0<m:=by omega
  have hx:m≤maxLen:=by simp only[maxLen];omega
  have s_:=An (@Tryz.f227.eq_1) (An @hw (An @h0 (An @h1 (@hx))))
  try simp[s_]
  repeat' ((first|((first|refine Tp ?_|refine Tn ?_|refine T2 ?_ ?_)<;>intro h_ e_ n_)|rw[Ip]|rw[In]|rw[Fz]|rw[Gz]|fail)<;>first|simp[e_,n_,s_]|simp[s_]|skip)
  exact⟨_,Wk.prefix 0 0 0 rfl rfl,by simp⟩
def looksV (f:FSR) (c:CallR):Nat:=if c.kind=15 then 0 else(ZaL f c).length -2
theorem ZtQ (f:FSR) (c:CallR) (h:Zg f):XCall Tryz.prog 235 [encF f,encC c] [] (.own 2 (looksV f c) 0 (looksS f c).length 1) [.cells 0 f.enc,.cells 0 c.enc,.cells (looksV f c) ((looksS f c).map I)]:=by
 by_cases k:c.kind=15
 ·have h1:=ZfL 0 [0] (by decide)
  have e:numsS [0]=[0]:=rfl
  rw[e] at h1
  have e2:looksS f c=[0]:=by unfold looksS;rw[if_pos k]
  have ev:looksV f c=0:=by unfold looksV;rw[if_pos k]
  rw[e2,ev]
  refine XCall.mk' (fun t=>t==56) Tryz.func235 rfl rfl rfl (Ent.mk Tryz.func235 (by kernel_rfl) rfl) (by simp) (by simp) (by simp) (by simp) (by simp) fun hfit=> ?_
  simp[Tryz.f235,k]
  refine AInv.heap [2] h1 (by simp) (by simp) ?_
  simp
 have ev:looksV f c=(ZaL f c).length -2:=by unfold looksV;rw[if_neg k]
 rw[ZvZ f c k,ev]
 have hlen:=h.len
 have htot:=ZqJ f c
 refine XCall.mk' (fun t=>t==56) Tryz.func235 rfl rfl rfl (Ent.mk Tryz.func235 (by kernel_rfl) rfl) (by simp) (by simp) (by simp) (by simp) (by simp) fun hfit=> ?_
 simp[Tryz.f235,k]
 refine AW.loopG (lit:=fun t=>t==56) (fun x:Nat×List Int×Nat=>⟨66,pat [(2,.ptr 0 0 0),(3,.ptr 1 0 0),(5,.own 2 x.2.2 0 x.2.1.length 1),(28,.own 3 0 0 2 1),(29,I 2),(30,I x.1)],[.cells 0 f.enc,.cells 0 c.enc,.cells x.2.2 (x.2.1.map I),.cells 0 [I c.ino,I c.to_]]⟩) (fun x=>2 -x.1)
  (fun x=>x.1≤2∧x.2.1++([c.ino,c.to_].drop x.1).flatMap (Zcg f c)=ZaL f c∧x.2.2+2=x.2.1.length) (0,[c.ino,c.to_],0) ?_ ?_ ?_
 ·exact Wa
 ·exact⟨by simp,by simp[ZaL],by simp⟩
 rintro⟨i,acc,ver⟩ ⟨g1,g2,g4⟩ A hA
 simp only at g1 g2 g4 hA
 by_cases hi:i<2
 case neg=>
  have:i=2:=by omega
  subst this
  simp only[List.drop_succ_cons,List.drop_nil,List.flatMap_nil,List.append_nil,List.drop_zero] at g2
  rw[←g2] at htot
  have h1:=ZfL ver acc (by omega)
  have ev2:ver=(ZaL f c).length -2:=by rw[←g2];omega
  rw[g2] at h1
  rw[ev2] at h1⊢
  subst g2
  clear ev2 ev
  simp
  refine AInv.heap [2] h1 (by simp) (by simp) ?_
  simp
 have hi2:i=0∨i=1:=by omega
 rcases hi2 with rfl|rfl
 ·have g3:acc++[c.name,c.name2].flatMap (ZT f c.ino)++Zcg f c c.to_=ZaL f c:=by simpa[Zcg] using g2
  have hrow:=h.row c.ino
  have h1:=find_ok f c.ino (by omega)
  have hN:∀s,Zd Tryz.prog 263 [encL EntryR.enc (findB f.l c.ino).1.l,S s] (.tup [I (findE (findB f.l c.ino).1.l s).1,B (findE (findB f.l c.ino).1.l s).2]):=fun s=>nfind_ok (findB f.l c.ino).1.l s hrow.rise (by have:=hrow.len;omega)
  try simp
  repeat' ((first|((first|refine Tp ?_|refine Tn ?_|refine T2 ?_ ?_)<;>intro h_ e_ n_)|refine Pg h1 ?_|rw[Ip]|rw[In]|rw[Fz]|rw[Gz]|fail)<;>first|simp[e_,n_]|simp|skip)
  refine AW.loopG (lit:=fun t=>t==56) (fun x:Nat×List Int×Nat=>⟨66,pat [(2,.ptr 0 0 0),(3,.ptr 1 0 0),(5,.own 2 x.2.2 0 x.2.1.length 1),(8,.ptr 4 0 0),(28,.own 3 0 0 2 1),(29,I 2),(30,I 0),(44,.sl true 2 [S c.name,S c.name2]),(45,I 2),(46,I x.1)],[.cells 0 f.enc,.cells 0 c.enc,.cells x.2.2 (x.2.1.map I),.cells 0 [I c.ino,I c.to_],.cells 0 (findB f.l c.ino).1.enc]⟩) (fun x=>2 -x.1)
   (fun x=>x.1≤2∧x.2.1++([c.name,c.name2].drop x.1).flatMap (ZT f c.ino)++Zcg f c c.to_=ZaL f c∧x.2.2+2=x.2.1.length) (0,acc,ver) ?_ ?_ ?_
  ·exact Wa
  ·exact⟨by simp,by simpa using g3,g4⟩
  rintro⟨j,acc2,ver2⟩ ⟨k1,k2,k4⟩ A2 hA2
  simp only at k1 k2 k4 hA2
  by_cases hj:j<2
  case neg=>
   have:j=2:=by omega
   subst this
   have k3:acc2++([c.ino,c.to_].drop (0+1)).flatMap (Zcg f c)=ZaL f c:=by simpa using k2
   try simp
   repeat' ((first|((first|refine Tp ?_|refine Tn ?_|refine T2 ?_ ?_)<;>intro h_ e_ n_)|(exact hA (0+1,acc2,ver2) _ Wc ⟨by simp,k3,k4⟩ (by simp))|rw[Ip]|rw[In]|rw[Fz]|rw[Gz]|fail)<;>first|simp[e_,n_]|simp|skip)
  have ha2:acc2.length≤6:=by
   rw[←k2] at htot
   simp only[List.length_append] at htot
   omega
  have hm:acc2.length+1≤maxLen:=by simp only[maxLen];omega
  have hj2:j=0∨j=1:=by omega
  rcases hj2 with rfl|rfl
  ·have q:=hN c.name
   simp only[List.drop_zero,List.drop_succ_cons,List.flatMap_cons,List.flatMap_nil,List.append_nil] at k2
   cases hf:(findE (findB f.l c.ino).1.l c.name).2 with
   |false=>
    rw[hf] at q
    have k3:acc2++([c.name,c.name2].drop (0+1)).flatMap (ZT f c.ino)++Zcg f c c.to_=ZaL f c:=by
     have e:ZT f c.ino c.name=[]:=by simp[ZT,hf]
     rw[e] at k2
     simpa using k2
    have s_:=hm
    try simp[s_]
    repeat' ((first|((first|refine Tp ?_|refine Tn ?_|refine T2 ?_ ?_)<;>intro h_ e_ n_)|(exact hA2 (0+1,acc2,ver2) _ Wc ⟨by simp,k3,k4⟩ (by simp))|refine Pg q ?_|rw[Ip]|rw[In]|rw[Fz]|rw[Gz]|fail)<;>first|simp[e_,n_,s_]|simp[s_]|skip)
   |true=>
    rw[hf] at q
    have k3:(acc2++[(findE (findB f.l c.ino).1.l c.name).1])++([c.name,c.name2].drop (0+1)).flatMap (ZT f c.ino)++Zcg f c c.to_=ZaL f c:=by
     have e:ZT f c.ino c.name=[(findE (findB f.l c.ino).1.l c.name).1]:=by simp[ZT,hf]
     rw[e] at k2
     simpa using k2
    generalize(findE (findB f.l c.ino).1.l c.name).1=v at*
    have s_:=An @hm ((show acc2.length+1≤17592186044416 by omega))
    try simp[s_]
    repeat' ((first|((first|refine Tp ?_|refine Tn ?_|refine T2 ?_ ?_)<;>intro h_ e_ n_)|(exact hA2 (0+1,acc2++[v],ver2+1) _ Wc ⟨by simp,k3,by simp only[List.length_append,List.length_cons,List.length_nil];omega⟩ (by simp))|refine Pg q ?_|rw[Ip]|rw[In]|rw[Fz]|rw[Gz]|fail)<;>first|simp[e_,n_,s_]|simp[s_]|skip)
  ·have q:=hN c.name2
   simp only[List.drop_zero,List.drop_succ_cons,List.flatMap_cons,List.flatMap_nil,List.append_nil] at k2
   cases hf:(findE (findB f.l c.ino).1.l c.name2).2 with
   |false=>
    rw[hf] at q
    have k3:acc2++([c.name,c.name2].drop (1+1)).flatMap (ZT f c.ino)++Zcg f c c.to_=ZaL f c:=by
     have e:ZT f c.ino c.name2=[]:=by simp[ZT,hf]
     rw[e] at k2
     simpa using k2
    have s_:=hm
    try simp[s_]
    repeat' ((first|((first|refine Tp ?_|refine Tn ?_|refine T2 ?_ ?_)<;>intro h_ e_ n_)|(exact hA2 (1+1,acc2,ver2) _ Wc ⟨by simp,k3,k4⟩ (by simp))|refine Pg q ?_|rw[Ip]|rw[In]|rw[Fz]|rw[Gz]|fail)<;>first|simp[e_,n_,s_]|simp[s_]|skip)
   |true=>
    rw[hf] at q
    have k3:(acc2++[(findE (findB f.l c.ino).1.l c.name2).1])++([c.name,c.name2].drop (1+1)).flatMap (ZT f c.ino)++Zcg f c c.to_=ZaL f c:=by
     have e:ZT f c.ino c.name2=[(findE (findB f.l c.ino).1.l c.name2).1]:=by simp[ZT,hf]
     rw[e] at k2
     simpa using k2
    generalize(findE (findB f.l c.ino).1.l c.name2).1=v at*
    have s_:=An @hm ((show acc2.length+1≤17592186044416 by omega))
    try simp[s_]
    repeat' ((first|((first|refine Tp ?_|refine Tn ?_|refine T2 ?_ ?_)<;>intro h_ e_ n_)|(exact hA2 (1+1,acc2++[v],ver2+1) _ Wc ⟨by simp,k3,by simp only[List.length_append,List.length_cons,List.length_nil];omega⟩ (by simp))|refine Pg q ?_|rw[Ip]|rw[In]|rw[Fz]|rw[Gz]|fail)<;>first|simp[e_,n_,s_]|simp[s_]|skip)
 ·have g3:acc++[c.name,c.name2].flatMap (ZT f c.to_)=ZaL f c:=by simpa[Zcg] using g2
  have hrow:=h.row c.to_
  have h1:=find_ok f c.to_ (by omega)
  have hN:∀s,Zd Tryz.prog 263 [encL EntryR.enc (findB f.l c.to_).1.l,S s] (.tup [I (findE (findB f.l c.to_).1.l s).1,B (findE (findB f.l c.to_).1.l s).2]):=fun s=>nfind_ok (findB f.l c.to_).1.l s hrow.rise (by have:=hrow.len;omega)
  try simp
  repeat' ((first|((first|refine Tp ?_|refine Tn ?_|refine T2 ?_ ?_)<;>intro h_ e_ n_)|refine Pg h1 ?_|rw[Ip]|rw[In]|rw[Fz]|rw[Gz]|fail)<;>first|simp[e_,n_]|simp|skip)
  refine AW.loopG (lit:=fun t=>t==56) (fun x:Nat×List Int×Nat=>⟨66,pat [(2,.ptr 0 0 0),(3,.ptr 1 0 0),(5,.own 2 x.2.2 0 x.2.1.length 1),(8,.ptr 4 0 0),(28,.own 3 0 0 2 1),(29,I 2),(30,I 1),(44,.sl true 2 [S c.name,S c.name2]),(45,I 2),(46,I x.1)],[.cells 0 f.enc,.cells 0 c.enc,.cells x.2.2 (x.2.1.map I),.cells 0 [I c.ino,I c.to_],.cells 0 (findB f.l c.to_).1.enc]⟩) (fun x=>2 -x.1)
   (fun x=>x.1≤2∧x.2.1++([c.name,c.name2].drop x.1).flatMap (ZT f c.to_)=ZaL f c∧x.2.2+2=x.2.1.length) (0,acc,ver) ?_ ?_ ?_
  ·exact Wa
  ·exact⟨by simp,by simpa using g3,g4⟩
  rintro⟨j,acc2,ver2⟩ ⟨k1,k2,k4⟩ A2 hA2
  simp only at k1 k2 k4 hA2
  by_cases hj:j<2
  case neg=>
   have:j=2:=by omega
   subst this
   have k3:acc2++([c.ino,c.to_].drop (1+1)).flatMap (Zcg f c)=ZaL f c:=by simpa using k2
   try simp
   repeat' ((first|((first|refine Tp ?_|refine Tn ?_|refine T2 ?_ ?_)<;>intro h_ e_ n_)|(exact hA (1+1,acc2,ver2) _ Wc ⟨by simp,k3,k4⟩ (by simp))|rw[Ip]|rw[In]|rw[Fz]|rw[Gz]|fail)<;>first|simp[e_,n_]|simp|skip)
  have ha2:acc2.length≤6:=by
   rw[←k2] at htot
   simp only[List.length_append] at htot
   omega
  have hm:acc2.length+1≤maxLen:=by simp only[maxLen];omega
  have hj2:j=0∨j=1:=by omega
  rcases hj2 with rfl|rfl
  ·have q:=hN c.name
   simp only[List.drop_zero,List.drop_succ_cons,List.flatMap_cons,List.flatMap_nil,List.append_nil] at k2
   cases hf:(findE (findB f.l c.to_).1.l c.name).2 with
   |false=>
    rw[hf] at q
    have k3:acc2++([c.name,c.name2].drop (0+1)).flatMap (ZT f c.to_)=ZaL f c:=by
     have e:ZT f c.to_ c.name=[]:=by simp[ZT,hf]
     rw[e] at k2
     simpa using k2
    have s_:=hm
    try simp[s_]
    repeat' ((first|((first|refine Tp ?_|refine Tn ?_|refine T2 ?_ ?_)<;>intro h_ e_ n_)|(exact hA2 (0+1,acc2,ver2) _ Wc ⟨by simp,k3,k4⟩ (by simp))|refine Pg q ?_|rw[Ip]|rw[In]|rw[Fz]|rw[Gz]|fail)<;>first|simp[e_,n_,s_]|simp[s_]|skip)
   |true=>
    rw[hf] at q
    have k3:(acc2++[(findE (findB f.l c.to_).1.l c.name).1])++([c.name,c.name2].drop (0+1)).flatMap (ZT f c.to_)=ZaL f c:=by
     have e:ZT f c.to_ c.name=[(findE (findB f.l c.to_).1.l c.name).1]:=by simp[ZT,hf]
     rw[e] at k2
     simpa using k2
    generalize(findE (findB f.l c.to_).1.l c.name).1=v at*
    have s_:=An @hm ((show acc2.length+1≤17592186044416 by omega))
    try simp[s_]
    repeat' ((first|((first|refine Tp ?_|refine Tn ?_|refine T2 ?_ ?_)<;>intro h_ e_ n_)|(exact hA2 (0+1,acc2++[v],ver2+1) _ Wc ⟨by simp,k3,by simp only[List.length_append,List.length_cons,List.length_nil];omega⟩ (by simp))|refine Pg q ?_|rw[Ip]|rw[In]|rw[Fz]|rw[Gz]|fail)<;>first|simp[e_,n_,s_]|simp[s_]|skip)
  ·have q:=hN c.name2
   simp only[List.drop_zero,List.drop_succ_cons,List.flatMap_cons,List.flatMap_nil,List.append_nil] at k2
   cases hf:(findE (findB f.l c.to_).1.l c.name2).2 with
   |false=>
    rw[hf] at q
    have k3:acc2++([c.name,c.name2].drop (1+1)).flatMap (ZT f c.to_)=ZaL f c:=by
     have e:ZT f c.to_ c.name2=[]:=by simp[ZT,hf]
     rw[e] at k2
     simpa using k2
    have s_:=hm
    try simp[s_]
    repeat' ((first|((first|refine Tp ?_|refine Tn ?_|refine T2 ?_ ?_)<;>intro h_ e_ n_)|(exact hA2 (1+1,acc2,ver2) _ Wc ⟨by simp,k3,k4⟩ (by simp))|refine Pg q ?_|rw[Ip]|rw[In]|rw[Fz]|rw[Gz]|fail)<;>first|simp[e_,n_,s_]|simp[s_]|skip)
   |true=>
    rw[hf] at q
    have k3:(acc2++[(findE (findB f.l c.to_).1.l c.name2).1])++([c.name,c.name2].drop (1+1)).flatMap (ZT f c.to_)=ZaL f c:=by
     have e:ZT f c.to_ c.name2=[(findE (findB f.l c.to_).1.l c.name2).1]:=by simp[ZT,hf]
     rw[e] at k2
     simpa using k2
    generalize(findE (findB f.l c.to_).1.l c.name2).1=v at*
    have s_:=An @hm ((show acc2.length+1≤17592186044416 by omega))
    try simp[s_]
    repeat' ((first|((first|refine Tp ?_|refine Tn ?_|refine T2 ?_ ?_)<;>intro h_ e_ n_)|(exact hA2 (1+1,acc2++[v],ver2+1) _ Wc ⟨by simp,k3,by simp only[List.length_append,List.length_cons,List.length_nil];omega⟩ (by simp))|refine Pg q ?_|rw[Ip]|rw[In]|rw[Fz]|rw[Gz]|fail)<;>first|simp[e_,n_,s_]|simp[s_]|skip)
theorem Zrb (a b:List Int) (t:Bool) (ha:a.length≤2000000) (hb:b.length≤2000000):XCall Tryz.prog 197 [.sl t 2 [enc1 I a,enc1 I b]] [] (.own 0 2 0 (a++b).length 1) [.cells 2 ((a++b).map I)]:=by
 have hg:=Zwn (a.length+b.length) (by omega)
 have hw1:IntKind.i64.wrap (a.length:Int)=a.length:=Zf (by omega) (by omega)
 have hw2:IntKind.i64.wrap ((a.length:Int)+b.length)=((a.length+b.length:Nat):Int):=by rw[Zf (by omega) (by omega)];omega
 refine XCall.mk' (fun _=>false) Tryz.func197 rfl rfl rfl (Ent.mk Tryz.func197 (by kernel_rfl) rfl) (by simp) (by simp) (by simp) (by simp) (by simp) fun hfit=> ?_
 simp[Tryz.f197]
 refine AW.loopG (lit:=fun _=>false) (fun i:Nat=>⟨36,pat [(0,.sl t 2 [enc1 I a,enc1 I b]),(3,I (if i=0 then 0 else if i=1 then a.length else a.length+b.length:Nat)),(9,.sl t 2 [enc1 I a,enc1 I b]),(10,I 2),(11,I i)],[]⟩) (fun i=>2 -i) (fun i=>i≤2) 0 ?_ ?_ ?_
 ·exact Wa
 ·simp
 rintro i g1 A hA
 have hi:i=0∨i=1∨i=2:=by omega
 rcases hi with rfl|rfl|rfl
 ·have s_:=hw1
  try simp[s_]
  repeat' ((first|((first|refine Tp ?_|refine Tn ?_|refine T2 ?_ ?_)<;>intro h_ e_ n_)|(exact hA 1 _ Wa (by simp) (by simp))|rw[Ip]|rw[In]|rw[Fz]|rw[Gz]|fail)<;>first|simp[e_,n_,s_]|simp[s_]|skip)
 ·have s_:=hw2
  try simp[s_]
  repeat' ((first|((first|refine Tp ?_|refine Tn ?_|refine T2 ?_ ?_)<;>intro h_ e_ n_)|(exact hA 2 _ Wa (by simp) (by simp))|rw[Ip]|rw[In]|rw[Fz]|rw[Gz]|fail)<;>first|simp[e_,n_,s_]|simp[s_]|skip)
 ·try simp
  repeat' ((first|((first|refine Tp ?_|refine Tn ?_|refine T2 ?_ ?_)<;>intro h_ e_ n_)|(refine AInv.fresh [] hg (by simp) (by simp) ?_;simp)|rw[Ip]|rw[In]|rw[Fz]|rw[Gz]|fail)<;>first|simp[e_,n_]|simp|skip)
  refine AW.loopG (lit:=fun _=>false) (fun x:Nat×List Int=>⟨36,pat [(6,.own 0 x.1 0 x.2.length 1),(25,.sl t 2 [enc1 I a,enc1 I b]),(26,I 2),(27,I x.1)],[.cells x.1 (x.2.map I)]⟩) (fun x=>2 -x.1) (fun x=>x.1≤2∧x.2=if x.1=0 then[] else if x.1=1 then a else a++b) (0,[]) ?_ ?_ ?_
  ·exact Wa
  ·simp
  rintro⟨j,acc⟩ ⟨k1,k2⟩ A2 hA2
  simp only at k1 k2 hA2
  have hj:j=0∨j=1∨j=2:=by omega
  rcases hj with rfl|rfl|rfl
  ·have k2:acc=[]:=k2
   subst k2
   have hx:a.length≤maxLen:=by simp only[maxLen];omega
   have s_:=hx
   try simp[s_]
   repeat' ((first|((first|refine Tp ?_|refine Tn ?_|refine T2 ?_ ?_)<;>intro h_ e_ n_)|(exact hA2 (1,a) _ Wc ⟨by simp,by simp⟩ (by simp))|rw[Ip]|rw[In]|rw[Fz]|rw[Gz]|fail)<;>first|simp[e_,n_,s_]|simp[s_]|skip)
  ·have k2:acc=a:=k2
   subst k2
   have hx:acc.length+b.length≤maxLen:=by simp only[maxLen];omega
   have s_:=hx
   try simp[s_]
   repeat' ((first|((first|refine Tp ?_|refine Tn ?_|refine T2 ?_ ?_)<;>intro h_ e_ n_)|(exact hA2 (2,acc++b) _ Wc ⟨by simp,by simp⟩ (by simp))|rw[Ip]|rw[In]|rw[Fz]|rw[Gz]|fail)<;>first|simp[e_,n_,s_]|simp[s_]|skip)
  ·have k2:acc=a++b:=k2
   subst k2
   try simp
   repeat' ((first|((first|refine Tp ?_|refine Tn ?_|refine T2 ?_ ?_)<;>intro h_ e_ n_)|rw[Ip]|rw[In]|rw[Fz]|rw[Gz]|fail)<;>first|simp[e_,n_]|simp|skip)
theorem ZnA {h:Za} {f ver m:Nat} {a b:List AV} (ha:a.all neat=true) (hl:a.length=m):ZfR h (f+1) ver 0 m 1 (some (.cells ver (a++b)))=some (.sl false m a):=by
 simp only[ZfR,true_and,Nat.zero_add,Nat.zero_mul,List.drop_zero,Nat.mul_one]
 rw[if_pos (by simp;omega)]
 split
 ·rename_i h0
  have:a=[]:=List.eq_nil_of_length_eq_zero (by omega)
  rw[this,h0]
 ·rw[List.take_left' hl,Zbx ha];rfl
theorem ZlS (a b:List Int) (ha:a.length≤2000000) (hb:b.length≤2000000):Zd Tryz.prog 161 [enc1 I a,enc1 I b] (enc1 I (numsS (a++b))):=by
 have h0:=Zrb a b true ha hb
 have h1:=ZoN 2 (a++b) (by rw[List.length_append];omega)
 have hsl:(sortI (a++b)).length=(a++b).length:=List.length_mergeSort _
 have h2:=ZhL 2 (sortI (a++b)) (by rw[hsl,List.length_append];omega)
 rw[show Lib.compact (sortI (a++b))=numsS (a++b) from Zdo (a++b),hsl] at h2
 generalize sortI (a++b)=z at*
 have hq:=Zff (a++b)
 generalize numsS (a++b)=q at*
 generalize a++b=l at*
 refine Pm Tryz.func161 fun hfit=> ?_
 simp[Tryz.f161]
 refine AInv.fresh [] h0 (by simp) (by simp) ?_
 simp
 refine AInv.heap [0] h1 (by simp) (by simp) ?_
 simp
 refine AInv.heap [0] h2 (by simp) (by simp) ?_
 simp
 rw[ZnA (by simp) (by simp)]
 simp[Function.comp_def]
theorem less_ok (a b:Int):Zd Tryz.prog 255 [I a,I b] (B (decide (a<b))):=by
 have hn:∀x,Zd Tryz.prog 160 [I x] (B false):=fun x=>by
  refine Pm Tryz.func160 fun hfit=> ?_
  simp[Tryz.f160]
 refine Pm Tryz.func255 fun hfit=> ?_
 simp[Tryz.f255]
 try simp
 repeat' ((first|((first|refine Tp ?_|refine Tn ?_|refine T2 ?_ ?_)<;>intro h_ e_ n_)|refine Pg (hn a) ?_|refine Pg (hn b) ?_|rw[Ip]|rw[In]|rw[Fz]|rw[Gz]|fail)<;>first|simp[e_,n_]|simp|skip)
theorem nan_ok (x:Int):Zd Tryz.prog 297 [I x] (B false):=by
 refine Pm Tryz.func297 fun hfit=> ?_
 simp[Tryz.f297]
abbrev atI (l:List Int) (i:Nat):Int:=l.getD i 0
theorem bsI_ok (l:List Int) (k:Int) (hl:l.length≤1000000):Zd Tryz.prog 240 [enc1 I l,I k] (.tup [I (bsGo (atI l) k 0 l.length),B (decide (bsGo (atI l) k 0 l.length<l.length)&&decide (atI l (bsGo (atI l) k 0 l.length)=k))]):=by
 refine Pm Tryz.func240 fun hfit=> ?_
 simp at hfit
 simp[Tryz.f240]
 refine AW.loopG (lit:=fun _=>false) (fun x:Nat×Nat=>⟨54,pat [(0,enc1 I l),(1,I k),(6,I l.length),(7,I x.1),(8,I x.2)],[]⟩) (fun x=>x.2 -x.1) (fun x=>x.1≤x.2∧x.2≤l.length∧bsGo (atI l) k x.1 x.2=bsGo (atI l) k 0 l.length) (0,l.length) ?_ ?_ ?_
 ·exact Wk.at _ rfl rfl (by simp)
 ·simp
 rintro⟨i,j⟩ ⟨h1,h2,h3⟩ A hA
 simp only at h1 h2 h3
 have hat:∀m (h:m<l.length),atI l m=l[m]:=fun m h=>by simp[atI,List.getD_eq_getElem?_getD,h]
 by_cases h:i<j
 case neg=>
  have hij:i=j:=by omega
  subst hij
  rw[Zdj h] at h3
  by_cases hi:i<l.length
  ·have e1:=hat i hi
   have hN:=nan_ok l[i]
   by_cases q:l[i]=k
   ·have s_:=An @h (An @hi (An (Eq.symm (h3)) (An @e1 (@q))))
    try simp[s_]
    repeat' ((first|((first|refine Tp ?_|refine Tn ?_|refine T2 ?_ ?_)<;>intro h_ e_ n_)|refine Pg hN ?_|rw[Ip]|rw[In]|rw[Fz]|rw[Gz]|fail)<;>first|simp[e_,n_,s_]|simp[s_]|skip)
   ·have s_:=An @h (An @hi (An (Eq.symm (h3)) (An @e1 (@q))))
    try simp[s_]
    repeat' ((first|((first|refine Tp ?_|refine Tn ?_|refine T2 ?_ ?_)<;>intro h_ e_ n_)|refine Pg hN ?_|rw[Ip]|rw[In]|rw[Fz]|rw[Gz]|fail)<;>first|simp[e_,n_,s_]|simp[s_]|skip)
  ·have s_:=An @h (An @hi (Eq.symm (h3)))
   try simp[s_]
   repeat' ((first|((first|refine Tp ?_|refine Tn ?_|refine T2 ?_ ?_)<;>intro h_ e_ n_)|rw[Ip]|rw[In]|rw[Fz]|rw[Gz]|fail)<;>first|simp[e_,n_,s_]|simp[s_]|skip)
 rw[Zdi h] at h3
 have hm:(i+j)/2<l.length:=by omega
 have e1:=hat _ hm
 have w1:IntKind.i64.wrap ((i:Int)+j)=(i:Int)+j:=Zf (by omega) (by omega)
 have w2:((i:Int)+j)%18446744073709551616=(i:Int)+j:=by omega
 have w3:((i:Int)+j).fdiv 2=(((i+j)/2:Nat):Int):=by rw[Int.fdiv_eq_ediv_of_nonneg _ (by omega)];omega
 have w4:IntKind.i64.wrap (((i+j)/2:Nat):Int)=(((i+j)/2:Nat):Int):=Zf (by omega) (by omega)
 generalize hmm:(i+j)/2=m at*
 have w5:IntKind.i64.wrap ((m:Int)+1)=((m+1:Nat):Int):=by rw[Zf (by omega) (by omega)];omega
 have hL:=less_ok l[m] k
 have hk:atI l m<k∨¬atI l m<k:=Classical.em _
 rcases hk with hk|hk
 ·rw[if_pos hk] at h3
  rw[e1] at hk
  have s_:=An @h (An @w1 (An @w2 (An @w3 (An @w4 (An @w5 (An @hm (@hk)))))))
  try simp[s_]
  repeat' ((first|((first|refine Tp ?_|refine Tn ?_|refine T2 ?_ ?_)<;>intro h_ e_ n_)|(exact hA (m+1,j) _ Wa ⟨by simp only;omega,h2,h3⟩ (by simp only;omega))|refine Pg hL ?_|rw[Ip]|rw[In]|rw[Fz]|rw[Gz]|fail)<;>first|simp[e_,n_,s_]|simp[s_]|skip)
 ·rw[if_neg hk] at h3
  rw[e1] at hk
  have s_:=An @h (An @w1 (An @w2 (An @w3 (An @w4 (An @w5 (An @hm (@hk)))))))
  try simp[s_]
  repeat' ((first|((first|refine Tp ?_|refine Tn ?_|refine T2 ?_ ?_)<;>intro h_ e_ n_)|(exact hA (i,m) _ Wa ⟨by simp only;omega,by simp only;omega,h3⟩ (by simp only;omega))|refine Pg hL ?_|rw[Ip]|rw[In]|rw[Fz]|rw[Gz]|fail)<;>first|simp[e_,n_,s_]|simp[s_]|skip)
theorem Zwo (l:List Int) (k:Int) (hr:ZaI l=true) (hl:l.length≤1000000):∃i,Zd Tryz.prog 240 [enc1 I l,I k] (.tup [I i,B (decide (k∈l))]):=by
 have h1:=bsI_ok l k hl
 have hat:∀m (h:m<l.length),atI l m=l[m]:=fun m h=>by simp[atI,List.getD_eq_getElem?_getD,h]
 rw[ZeW idI hr hat k] at h1
 have e:(decide (placeS idI l k<l.length)&&decide (atI l (placeS idI l k)=k))=decide (k∈l):=by
  cases hf:ZW idI l k with
  |some x=>
   obtain⟨hp,e⟩:=Zaj idI hr hf
   obtain⟨m1,m2⟩:=Zu idI hf
   have m2:x=k:=m2
   subst m2
   rw[hat _ hp,e]
   simp[hp,m1]
  |none=>
   have hk:¬k∈l:=fun hk=>(Zbd idI).1 hf k hk rfl
   by_cases hp:placeS idI l k<l.length
   ·have:=Zcw idI hr hf hp
    rw[hat _ hp]
    have:¬l[placeS idI l k]=k:=this
    simp[this,hk]
   ·simp[hp,hk]
 rw[e] at h1
 exact⟨_,h1⟩
theorem ZtR (n:Int):Zd Tryz.prog 236 [I n] (B (decide (n<1))):=by
 refine Pm Tryz.func236 fun hfit=> ?_
 simp[Tryz.f236]
theorem Zwp (f:FSR) (c:CallR) (h:Zg f):Zd Tryz.prog 206 [encF f,encC c] (enc1 I (touchS f c)):=by
 have h0:=ZtQ f c h
 have hr:=(Zbe f c).1
 have hlen:=Zlu f c
 have ht:touchS f c=numsS ((looksS f c).filter (fun n=> !decide (n<1))++if touchK c=true then[0] else[]):=rfl
 generalize looksV f c=V at*
 generalize touchS f c=t at*
 generalize looksS f c=L at*
 have h1:=delI_ok V L 236 (fun n=>decide (n<1)) (fun x _=>ZtR x) (by omega)
 have hfl:=List.length_filter_le (fun n:Int=> !decide (n<1)) L
 have hrf:ZaI (L.filter fun n=> !decide (n<1))=true:=Zan idI hr _
 generalize(L.filter fun n=> !decide (n<1))=q at*
 cases hk:touchK c with
 |true=>
  rw[hk,if_pos rfl] at ht
  have h2:=ZlS q [0] (by omega) (by simp)
  simp only[touchK,Bool.or_eq_true,decide_eq_true_eq] at hk
  rw[←ht] at h2
  refine Pm Tryz.func206 fun hfit=> ?_
  simp[Tryz.f206]
  refine AInv.fresh [] h0 (by simp) (by simp) ?_
  simp
  refine AInv.fresh [4] h1 (by simp) (by simp) ?_
  simp
  have s_:= @CallR.enc.eq_1
  try simp[s_]
  repeat' ((first|((first|refine Tp ?_|refine Tn ?_|refine T2 ?_ ?_)<;>intro h_ e_ n_)|refine Gg [4] h2 ?_|rw[Ip]|rw[In]|rw[Fz]|rw[Gz]|fail)<;>first|simp[e_,n_,s_]|simp[s_]|skip)
 |false=>
  rw[hk,if_neg (by simp),List.append_nil,ZpU hrf] at ht
  simp only[touchK,Bool.or_eq_false_iff,decide_eq_false_iff_not] at hk
  subst ht
  refine Pm Tryz.func206 fun hfit=> ?_
  simp[Tryz.f206]
  refine AInv.fresh [] h0 (by simp) (by simp) ?_
  simp
  refine AInv.fresh [4] h1 (by simp) (by simp) ?_
  simp
  have s_:= @CallR.enc.eq_1
  try simp[s_]
  repeat' ((first|((first|refine Tp ?_|refine Tn ?_|refine T2 ?_ ?_)<;>intro h_ e_ n_)|rw[Ip]|rw[In]|rw[Fz]|rw[Gz]|fail)<;>first|simp[e_,n_,s_]|simp[s_]|skip)
theorem Zrc (a b:List NodeR):Zd Tryz.prog 169 [encL NodeR.enc a,encL NodeR.enc b,.fn 132 []] (B (decide (a=b))):=by
 refine Pm Tryz.func169 fun hfit=> ?_
 simp at hfit
 simp[Tryz.f169]
 by_cases hl:a.length=b.length
 case neg=>
  have:¬a=b:=fun e=>hl (by rw[e])
  simp[hl,this]
 simp[hl]
 refine AW.loopG (lit:=fun _=>false) (fun i:Nat=>⟨32,pat [(0,encL NodeR.enc a),(1,encL NodeR.enc b),(2,.fn 132 []),(15,encL NodeR.enc a),(16,I b.length),(17,I i)],[]⟩) (fun i=>b.length -i) (fun i=>i≤b.length∧a.take i=b.take i) 0 ?_ ?_ ?_
 ·exact Wk.at _ rfl (by simp[hl]) (by simp)
 ·simp
 rintro i ⟨hi,ht⟩ A hA
 by_cases h:i<b.length
 case neg=>
  have:=ZbN ht (by omega) (by omega)
  have s_:=An @h ((eq_true this))
  try simp[s_]
  repeat' ((first|((first|refine Tp ?_|refine Tn ?_|refine T2 ?_ ?_)<;>intro h_ e_ n_)|rw[Ip]|rw[In]|rw[Fz]|rw[Gz]|fail)<;>first|simp[e_,n_,s_]|simp[s_]|skip)
 have ha:i<a.length:=by omega
 have hw:=Zi ha hfit.1.1
 have hN:=ZoG a[i] b[i]
 by_cases h2:a[i]=b[i]
 ·rw[decide_eq_true h2] at hN
  have ht:=take_step ht ha h h2
  have s_:=An @h (An @ha (@hw))
  try simp[s_]
  repeat' ((first|((first|refine Tp ?_|refine Tn ?_|refine T2 ?_ ?_)<;>intro h_ e_ n_)|(exact hA (i+1) _ Wc ⟨by omega,ht⟩ (by omega))|refine Pg hN ?_|rw[Ip]|rw[In]|rw[Fz]|rw[Gz]|fail)<;>first|simp[e_,n_,s_]|simp[s_]|skip)
 ·have h3:¬a=b:=fun e=>by subst e;exact h2 rfl
  rw[decide_eq_false h2] at hN
  have s_:=An @h (An @ha (@h3))
  try simp[s_]
  repeat' ((first|((first|refine Tp ?_|refine Tn ?_|refine T2 ?_ ?_)<;>intro h_ e_ n_)|refine Pg hN ?_|rw[Ip]|rw[In]|rw[Fz]|rw[Gz]|fail)<;>first|simp[e_,n_,s_]|simp[s_]|skip)
theorem same_ok (f g:FSR):Zd Tryz.prog 129 [encF f,encF g] (B (decide (f=g))):=by
 have h1:=Zrc f.l g.l
 have e:decide (f=g)=(decide (f.next=g.next)&&decide (f.l=g.l)):=by
  cases f;cases g;rw[Bool.eq_iff_iff];simp[and_comm]
 rw[e]
 generalize decide (f.l=g.l)=x at*
 by_cases q:f.next=g.next
 ·refine Pm Tryz.func129 fun hfit=> ?_
  simp[Tryz.f129]
  have s_:=An @q (@FSR.enc.eq_1)
  try simp[s_]
  repeat' ((first|((first|refine Tp ?_|refine Tn ?_|refine T2 ?_ ?_)<;>intro h_ e_ n_)|refine Pg h1 ?_|rw[Ip]|rw[In]|rw[Fz]|rw[Gz]|fail)<;>first|simp[e_,n_,s_]|simp[s_]|skip)
 ·refine Pm Tryz.func129 fun hfit=> ?_
  simp[Tryz.f129]
  have s_:=An @q (@FSR.enc.eq_1)
  try simp[s_]
  repeat' ((first|((first|refine Tp ?_|refine Tn ?_|refine T2 ?_ ?_)<;>intro h_ e_ n_)|rw[Ip]|rw[In]|rw[Fz]|rw[Gz]|fail)<;>first|simp[e_,n_,s_]|simp[s_]|skip)
theorem Zwq (s:StoreR) (hl:s.l.length≤2000000):Zd Tryz.prog 177 [.agg s.enc] (.agg (beginS s).enc):=by
 have h1:=view_ok s s.stamp hl
 unfold beginS
 generalize viewS s s.stamp=f at*
 refine Pm Tryz.func177 fun hfit=> ?_
 simp[Tryz.f177]
 have s_:=An @StoreR.enc.eq_1 (An @TxnR.enc.eq_1 (@FSR.enc.eq_1))
 try simp[s_]
 repeat' ((first|((first|refine Tp ?_|refine Tn ?_|refine T2 ?_ ?_)<;>intro h_ e_ n_)|refine Pg h1 ?_|rw[Ip]|rw[In]|rw[Fz]|rw[Gz]|fail)<;>first|simp[e_,n_,s_]|simp[s_]|skip)
theorem idle_ok (t:TxnR):Zd Tryz.prog 208 [.agg t.enc] (B (decide (t.was=t.now))):=by
 have h1:=same_ok t.was t.now
 refine Pm Tryz.func208 fun hfit=> ?_
 simp[Tryz.f208]
 have s_:=An @TxnR.enc.eq_1 (@FSR.enc.eq_1)
 try simp[s_]
 repeat' ((first|((first|refine Tp ?_|refine Tn ?_|refine T2 ?_ ?_)<;>intro h_ e_ n_)|refine Pg h1 ?_|rw[Ip]|rw[In]|rw[Fz]|rw[Gz]|fail)<;>first|simp[e_,n_,s_]|simp[s_]|skip)
theorem txn_eq (a b:TxnR):a=b↔a.stamp=b.stamp∧a.looks=b.looks∧a.was=b.was∧a.now=b.now:=by
 cases a;cases b;simp only[TxnR.mk.injEq];constructor
 ·rintro⟨h1,h2,h3,h4⟩;exact⟨h1,h4,h2,h3⟩
 ·rintro⟨h1,h2,h3,h4⟩;exact⟨h1,h3,h4,h2⟩
theorem ZtS (a b:TxnR):Zd Tryz.prog 59 [.agg a.enc,.agg b.enc] (B (decide (a=b))):=by
 have h1:=Zwb a.looks b.looks
 have h2:=Zjc a.was b.was
 have h3:=Zjc a.now b.now
 have e:decide (a=b)=(decide (a.stamp=b.stamp)&&(decide (a.looks=b.looks)&&(decide (a.was=b.was)&&decide (a.now=b.now)))):=by
  rw[Bool.eq_iff_iff];simp only[Bool.and_eq_true,decide_eq_true_eq];exact txn_eq a b
 rw[e]
 generalize decide (a.looks=b.looks)=x1 at*
 generalize decide (a.was=b.was)=x2 at*
 generalize decide (a.now=b.now)=x3 at*
 by_cases q:a.stamp=b.stamp
 ·refine Pm Tryz.func59 fun hfit=> ?_
  simp[Tryz.f59]
  have s_:=An @q (An @TxnR.enc.eq_1 (@FSR.enc.eq_1))
  try simp[s_]
  repeat' ((first|((first|refine Tp ?_|refine Tn ?_|refine T2 ?_ ?_)<;>intro h_ e_ n_)|refine Pg h1 ?_|refine Pg h2 ?_|refine Pg h3 ?_|rw[Ip]|rw[In]|rw[Fz]|rw[Gz]|fail)<;>first|simp[e_,n_,s_]|simp[s_]|skip)
 ·refine Pm Tryz.func59 fun hfit=> ?_
  simp[Tryz.f59]
  have s_:=An @q (An @TxnR.enc.eq_1 (@FSR.enc.eq_1))
  try simp[s_]
  repeat' ((first|((first|refine Tp ?_|refine Tn ?_|refine T2 ?_ ?_)<;>intro h_ e_ n_)|refine Pg h1 ?_|refine Pg h2 ?_|refine Pg h3 ?_|rw[Ip]|rw[In]|rw[Fz]|rw[Gz]|fail)<;>first|simp[e_,n_,s_]|simp[s_]|skip)
theorem Zjm (t:TxnR):Zd Tryz.prog 39 [.agg t.enc] (B (rightTx t)):=by
 have h3:=ZcU t.was
 have h4:=ZcU t.now
 have hbad:¬(ZaI t.looks=true∧∀n∈t.looks,0≤n)→rightTx t=false:=fun h=>by unfold rightTx;rw[decide_eq_false h];rfl
 have hgood:(ZaI t.looks=true∧∀n∈t.looks,0≤n)→rightTx t=(rightF t.was&&(rightF t.now&&(decide (t.was.next≤t.now.next)&&decide (1≤t.stamp)))):=fun h=>by unfold rightTx;rw[decide_eq_true h];rfl
 generalize rightTx t=b at*
 generalize rightF t.was=x1 at*
 generalize rightF t.now=x2 at*
 obtain⟨L,hL⟩:∃L,t.looks=L:=⟨_,rfl⟩
 rw[hL] at hbad hgood
 refine Pm Tryz.func39 fun hfit=> ?_
 simp[TxnR.enc,hL,FSR.enc] at hfit
 have hl:=hfit.2.2
 have hm:=hl
 simp only[maxLen] at hm
 simp[Tryz.f39,TxnR.enc,FSR.enc,hL]
 refine AW.loopG (lit:=fun _=>false) (fun i:Nat=>⟨61,pat [(1,.ptr 0 0 0),(3,I i)],[.cells 0 [I t.stamp,encL NodeR.enc t.was.l,I t.was.next,encL NodeR.enc t.now.l,I t.now.next,enc1 I L]]⟩) (fun i=>L.length -i) (fun i=>i≤L.length∧∀(j:Nat) (h:j<L.length),j<i→0≤L[j]∧∀p,L[j -1]? =some p→0<j→p<L[j]) 0 ?_ ?_ ?_
 ·exact Wa
 ·exact⟨by simp,fun j h hj=>by omega⟩
 rintro i ⟨g1,g2⟩ A hA
 by_cases hi:i<L.length
 case neg=>
  have e:=hgood ⟨(ZH idI L).2 (ZhR (f:=idI) fun j h=>by
    have:=(g2 (j+1) h (by omega)).2 L[j] (by simp) (by omega)
    simpa using this),fun n hn=>by
    obtain⟨j,hj,rfl⟩:=List.getElem_of_mem hn
    exact(g2 j hj (by omega)).1⟩
  clear hgood hbad g2
  subst e
  by_cases q1:t.was.next≤t.now.next
  ·by_cases q2:1≤t.stamp
   ·have s_:=An @hi (An @q1 (An @q2 (@FSR.enc.eq_1)))
    try simp[s_]
    repeat' ((first|((first|refine Tp ?_|refine Tn ?_|refine T2 ?_ ?_)<;>intro h_ e_ n_)|refine Pg h3 ?_|refine Pg h4 ?_|refine Dg 4 24 [] [] ?_|rw[Ip]|rw[In]|rw[Fz]|rw[Gz]|fail)<;>first|simp[e_,n_,s_]|simp[s_]|skip)
   ·have s_:=An @hi (An @q1 (An @q2 (@FSR.enc.eq_1)))
    try simp[s_]
    repeat' ((first|((first|refine Tp ?_|refine Tn ?_|refine T2 ?_ ?_)<;>intro h_ e_ n_)|refine Pg h3 ?_|refine Pg h4 ?_|refine Dg 4 24 [] [] ?_|rw[Ip]|rw[In]|rw[Fz]|rw[Gz]|fail)<;>first|simp[e_,n_,s_]|simp[s_]|skip)
  ·have s_:=An @hi (An @q1 (@FSR.enc.eq_1))
   try simp[s_]
   repeat' ((first|((first|refine Tp ?_|refine Tn ?_|refine T2 ?_ ?_)<;>intro h_ e_ n_)|refine Pg h3 ?_|refine Pg h4 ?_|refine Dg 4 24 [] [] ?_|rw[Ip]|rw[In]|rw[Fz]|rw[Gz]|fail)<;>first|simp[e_,n_,s_]|simp[s_]|skip)
 have hwi:=Zi hi hl
 have hbad':¬(0≤L[i]∧∀p,L[i -1]? =some p→0<i→p<L[i])→b=false:=fun hn=>hbad fun h=>hn ⟨h.2 _ (List.getElem_mem hi),fun p hp h0=>by
  obtain⟨h1,rfl⟩:=List.getElem?_eq_some_iff.1 hp
  exact Zac idI h.1 (i -1) i h1 hi (by omega)⟩
 have hgo:(0≤L[i]∧∀p,L[i -1]? =some p→0<i→p<L[i])→∀(j:Nat) (h:j<L.length),j<i+1→0≤L[j]∧∀p,L[j -1]? =some p→0<j→p<L[j]:=fun hn j h hj=>by
  rcases Nat.lt_or_ge j i with g|g
  ·exact g2 j h g
  ·have:j=i:=by omega
   subst this;exact hn
 have hi1:i -1<L.length:=by omega
 have hp1:L[i -1]? =some L[i -1]:=List.getElem?_eq_getElem hi1
 have hwm:0<i→IntKind.i64.wrap ((i:Int) -1)=((i -1:Nat):Int):=fun hp=>by rw[Zf (by omega) (by omega)];omega
 clear g2 hbad hgood
 generalize hck:L[i -1]=p at*
 generalize hci:L[i]=v at*
 by_cases q2:v<0
 ·rw[hbad' fun h=>by have:=h.1;omega]
  have s_:=An @hi (An @hci (@q2))
  try simp[s_]
  repeat' ((first|((first|refine Tp ?_|refine Tn ?_|refine T2 ?_ ?_)<;>intro h_ e_ n_)|refine Dg 4 24 [] [] ?_|rw[Ip]|rw[In]|rw[Fz]|rw[Gz]|fail)<;>first|simp[e_,n_,s_]|simp[s_]|skip)
 by_cases q5:0<i
 ·have hwm:=hwm q5
  by_cases q6:v≤p
  ·rw[hbad' fun h=>by have:=h.2 p hp1 q5;omega]
   have s_:=An @hi (An @hci (An @hck (An @q2 (An @q5 (An @q6 (An @hwm (@hi1)))))))
   try simp[s_]
   repeat' ((first|((first|refine Tp ?_|refine Tn ?_|refine T2 ?_ ?_)<;>intro h_ e_ n_)|refine Dg 4 24 [] [] ?_|rw[Ip]|rw[In]|rw[Fz]|rw[Gz]|fail)<;>first|simp[e_,n_,s_]|simp[s_]|skip)
  ·have hgo:=hgo ⟨by omega,fun p' e h0=>by rw[hp1] at e;cases e;omega⟩
   have s_:=An @hi (An @hci (An @hck (An @q2 (An @q5 (An @q6 (An @hwm (An @hwi (@hi1))))))))
   try simp[s_]
   repeat' ((first|((first|refine Tp ?_|refine Tn ?_|refine T2 ?_ ?_)<;>intro h_ e_ n_)|(exact hA (i+1) _ Wa ⟨hi,hgo⟩ (by omega))|refine Dg 4 24 [] [] ?_|rw[Ip]|rw[In]|rw[Fz]|rw[Gz]|fail)<;>first|simp[e_,n_,s_]|simp[s_]|skip)
 ·have hgo:=hgo ⟨by omega,fun p' e h0=>by omega⟩
  have s_:=An @hi (An @hci (An @q2 (An @q5 (@hwi))))
  try simp[s_]
  repeat' ((first|((first|refine Tp ?_|refine Tn ?_|refine T2 ?_ ?_)<;>intro h_ e_ n_)|(exact hA (i+1) _ Wa ⟨hi,hgo⟩ (by omega))|refine Dg 4 24 [] [] ?_|rw[Ip]|rw[In]|rw[Fz]|rw[Gz]|fail)<;>first|simp[e_,n_,s_]|simp[s_]|skip)
abbrev tTup (x:TxnR×ReplyR):AV:= .tup [.agg x.1.enc,encR x.2]
theorem ZmB (t:TxnR) (c:CallR) (h:Zg t.now) (T:ZI t.now) (hn:t.now.next<4611686018427387904) (hl:t.looks.length≤1000000) (hc:c.wf):Zd Tryz.prog 178 [.agg t.enc,encC c] (tTup (stepS t c)):=by
 have h1:=Zwp t.now c h
 have hlen:(touchS t.now c).length≤7:=Zlw t.now c
 have h2:=ZlS t.looks (touchS t.now c) (by omega) (by omega)
 have h3:=do_ok t.now c h hn hc (calm_of h T c)
 unfold stepS
 generalize doS t.now c=X at*
 generalize numsS (t.looks++touchS t.now c)=q at*
 generalize touchS t.now c=k at*
 refine Pm Tryz.func178 fun hfit=> ?_
 simp[Tryz.f178]
 have s_:=An @TxnR.enc.eq_1 (An @FSR.enc.eq_1 (@ReplyR.enc.eq_1))
 try simp[s_]
 repeat' ((first|((first|refine Tp ?_|refine Tn ?_|refine T2 ?_ ?_)<;>intro h_ e_ n_)|refine Dg 4 4 [2,3] [] ?_|refine Pg h1 ?_|refine Pg h2 ?_|refine Pg h3 ?_|refine Dg 1 8 [] [] ?_|rw[Ip]|rw[In]|rw[Fz]|rw[Gz]|fail)<;>first|simp[e_,n_,s_]|simp[s_]|skip)
theorem ZtT (s:StoreR) (st:Int):(sinceS s st).length≤s.l.length+1:=by
 unfold sinceS Zbn
 have:=List.length_filter_le (Zcf st) s.l
 split<;>simp<;>omega
noncomputable def ZlT (s:StoreR):Bool:=fewStore s&&(storeB s&&(decide (s.stamp<1152921504606846976)&&(Go.Cx.fewS (viewS s s.stamp)&&(rightF (viewS s s.stamp)&&decide ((viewS s s.stamp).next<1152921504606846976)))))
theorem Zwr (s:StoreR) (hb:Zcy s):Zd Tryz.prog 34 [.agg s.enc] (B (ZlT s)):=by
 have h1:=ZtL s hb
 have h2:=ZhS s
 have h3:=ZoS s s.stamp hb
 have h4:=Ztl (viewS s s.stamp)
 have h5:=ZcU (viewS s s.stamp)
 unfold ZlT
 generalize viewS s s.stamp=f at*
 generalize fewStore s=b1 at*
 generalize storeB s=b2 at*
 generalize Go.Cx.fewS f=b3 at*
 generalize rightF f=b4 at*
 by_cases q1:s.stamp<1152921504606846976
 ·by_cases q2:f.next<1152921504606846976
  ·refine Pm Tryz.func34 fun hfit=> ?_
   simp[Tryz.f34]
   have s_:=An @q1 (An @q2 (An @StoreR.enc.eq_1 (@FSR.enc.eq_1)))
   try simp[s_]
   repeat' ((first|((first|refine Tp ?_|refine Tn ?_|refine T2 ?_ ?_)<;>intro h_ e_ n_)|refine Pg h1 ?_|refine Pg h2 ?_|refine Pg h3 ?_|refine Pg h4 ?_|refine Pg h5 ?_|rw[Ip]|rw[In]|rw[Fz]|rw[Gz]|fail)<;>first|simp[e_,n_,s_]|simp[s_]|skip)
  ·refine Pm Tryz.func34 fun hfit=> ?_
   simp[Tryz.f34]
   have s_:=An @q1 (An @q2 (An @StoreR.enc.eq_1 (@FSR.enc.eq_1)))
   try simp[s_]
   repeat' ((first|((first|refine Tp ?_|refine Tn ?_|refine T2 ?_ ?_)<;>intro h_ e_ n_)|refine Pg h1 ?_|refine Pg h2 ?_|refine Pg h3 ?_|refine Pg h4 ?_|refine Pg h5 ?_|rw[Ip]|rw[In]|rw[Fz]|rw[Gz]|fail)<;>first|simp[e_,n_,s_]|simp[s_]|skip)
 ·refine Pm Tryz.func34 fun hfit=> ?_
  simp[Tryz.f34]
  have s_:=An @q1 (An @StoreR.enc.eq_1 (@FSR.enc.eq_1))
  try simp[s_]
  repeat' ((first|((first|refine Tp ?_|refine Tn ?_|refine T2 ?_ ?_)<;>intro h_ e_ n_)|refine Pg h1 ?_|refine Pg h2 ?_|rw[Ip]|rw[In]|rw[Fz]|rw[Gz]|fail)<;>first|simp[e_,n_,s_]|simp[s_]|skip)
def ZnB (t:TxnR):Bool:=Go.Cx.fewS t.was&&(Go.Cx.fewS t.now&&(decide (t.looks.length≤300)&&(decide (t.now.next<1152921504606846976)&&rightTx t)))
theorem Zws (t:TxnR):Zd Tryz.prog 35 [.agg t.enc] (B (ZnB t)):=by
 have h1:=Ztl t.was
 have h2:=Ztl t.now
 have h3:=Zjm t
 unfold ZnB
 generalize Go.Cx.fewS t.was=b1 at*
 generalize Go.Cx.fewS t.now=b2 at*
 generalize rightTx t=b3 at*
 by_cases q1:t.looks.length≤300
 ·by_cases q2:t.now.next<1152921504606846976
  ·refine Pm Tryz.func35 fun hfit=> ?_
   simp[Tryz.f35]
   have s_:=An @q1 (An @q2 (An @TxnR.enc.eq_1 (@FSR.enc.eq_1)))
   try simp[s_]
   repeat' ((first|((first|refine Tp ?_|refine Tn ?_|refine T2 ?_ ?_)<;>intro h_ e_ n_)|refine Pg h1 ?_|refine Pg h2 ?_|refine Pg h3 ?_|rw[Ip]|rw[In]|rw[Fz]|rw[Gz]|fail)<;>first|simp[e_,n_,s_]|simp[s_]|skip)
  ·refine Pm Tryz.func35 fun hfit=> ?_
   simp[Tryz.f35]
   have s_:=An @q1 (An @q2 (An @TxnR.enc.eq_1 (@FSR.enc.eq_1)))
   try simp[s_]
   repeat' ((first|((first|refine Tp ?_|refine Tn ?_|refine T2 ?_ ?_)<;>intro h_ e_ n_)|refine Pg h1 ?_|refine Pg h2 ?_|refine Pg h3 ?_|rw[Ip]|rw[In]|rw[Fz]|rw[Gz]|fail)<;>first|simp[e_,n_,s_]|simp[s_]|skip)
 ·refine Pm Tryz.func35 fun hfit=> ?_
  simp[Tryz.f35]
  have s_:=An @q1 (An @TxnR.enc.eq_1 (@FSR.enc.eq_1))
  try simp[s_]
  repeat' ((first|((first|refine Tp ?_|refine Tn ?_|refine T2 ?_ ?_)<;>intro h_ e_ n_)|refine Pg h1 ?_|refine Pg h2 ?_|refine Pg h3 ?_|rw[Ip]|rw[In]|rw[Fz]|rw[Gz]|fail)<;>first|simp[e_,n_,s_]|simp[s_]|skip)
abbrev cTup (x:StoreR×Int):AV:= .tup [.agg x.1.enc,I x.2]
@[simp] theorem setT0_enc (k:TxnR):setMany [I 0,.sl true 0 [],I 0,.sl true 0 [],I 0,.sl true 0 []] 0 k.enc=k.enc:=rfl
theorem ZlU (f k:StoreR):setMany f.enc 0 k.enc=k.enc:=rfl
theorem ZtU (s:StoreR) (t:TxnR) (hP:ZG s) (hb:ZaE 100000 s) (hs:s.stamp<9223372036854775807) (T:TxnP t) (h2:Zd Tryz.prog 209 [.agg s.enc,.agg t.enc] (B (ZaX s t))):Zd Tryz.prog 179 [.agg s.enc,.agg t.enc] (cTup (commitS s t)):=by
 have h1:=idle_ok t
 have hw:=T.wrows.len
 have hnw:=T.nrows.len
 have h3:=ZqL t.was t.now (by omega) (by omega)
 have hcl:=(Zae T.wrows T.nrows).1
 have h4:=ZqS s (changesS t.was t.now) t.now.next 100000 (hP.mid hb.l hb.vers) (by omega) hs (by have:=hP.stamp;omega) hP.some (by have:=hb.nexts;omega)
 unfold commitS
 by_cases q:t.was=t.now
 ·rw[decide_eq_true q] at h1
  rw[if_pos q]
  refine Pm Tryz.func179 fun hfit=> ?_
  simp[Tryz.f179]
  have s_:=ZlU
  try simp[s_]
  repeat' ((first|((first|refine Tp ?_|refine Tn ?_|refine T2 ?_ ?_)<;>intro h_ e_ n_)|refine Pg h1 ?_|refine Dg 5 10 [] [] ?_|rw[Ip]|rw[In]|rw[Fz]|rw[Gz]|fail)<;>first|simp[e_,n_,s_]|simp[s_]|skip)
 rw[decide_eq_false q] at h1
 rw[if_neg q]
 cases hc:ZaX s t with
 |true=>
  rw[hc] at h2
  rw[if_pos rfl]
  refine Pm Tryz.func179 fun hfit=> ?_
  simp[Tryz.f179]
  have s_:=ZlU
  try simp[s_]
  repeat' ((first|((first|refine Tp ?_|refine Tn ?_|refine T2 ?_ ?_)<;>intro h_ e_ n_)|refine Pg h1 ?_|refine Pg h2 ?_|refine Dg 5 10 [] [] ?_|rw[Ip]|rw[In]|rw[Fz]|rw[Gz]|fail)<;>first|simp[e_,n_,s_]|simp[s_]|skip)
 |false=>
  rw[hc] at h2
  rw[if_neg (by simp)]
  generalize changesS t.was t.now=C at*
  generalize installS s C t.now.next=X at*
  refine Pm Tryz.func179 fun hfit=> ?_
  simp[Tryz.f179]
  have s_:=An @TxnR.enc.eq_1 (An @FSR.enc.eq_1 (@StoreR.enc.eq_1))
  try simp[s_]
  repeat' ((first|((first|refine Tp ?_|refine Tn ?_|refine T2 ?_ ?_)<;>intro h_ e_ n_)|refine Pg h1 ?_|refine Pg h2 ?_|refine Pg h3 ?_|refine Pg h4 ?_|refine Dg 5 10 [] [] ?_|rw[Ip]|rw[In]|rw[Fz]|rw[Gz]|fail)<;>first|simp[e_,n_,s_]|simp[s_]|skip)
end Go.Proofs.YtgpkaoombhobmaaGreat
