import Derived.Test.YtdnfnddlciafmaaGreatYW2
import Derived.Test.YtdnfnddlciafmaaGreatYP1
set_option linter.unusedVariables false
set_option linter.unusedSimpArgs false
namespace Go.Proofs.YtdnfnddlciafmaaGreat
open Go.Cx Tab
set_option maxHeartbeats 400000
set_option maxRecDepth 40000
theorem ZeG (f:FSR):Ze Tryz.prog 24 [encF f] (B (rightF f)):=by
 have h1:=ZwJ f
 cases hrow:Zcj f with
 |false=>
  rw[hrow] at h1
  have e:rightF f=false:=by simp[rightF,hrow]
  rw[e]
  refine Pm Tryz.func24 fun hfit=> ?_
  simp[Tryz.f24,FSR.enc]
  have s_:= @FSR.enc.eq_1
  try simp[s_]
  repeat' ((first|((first|refine Tp ?_|refine Tn ?_|refine T2 ?_ ?_)<;>intro h_ e_ n_)|refine Pg h1 ?_|refine Dg 9 7 [] [] ?_|rw[Ip]|rw[In]|rw[Fz]|rw[Gz]|fail)<;>first|simp[e_,n_,s_]|simp[s_]|skip)
 |true=>
 rw[hrow] at h1
 have R:=(ZgG f).1 hrow
 have hlen:=R.len
 cases hh:ZhA f.l with
 |false=>
  have e:rightF f=false:=by simp[rightF,hh]
  rw[e]
  by_cases q0:f.l.length<1
  ·have q0':f.l.length=0:=by omega
   refine Pm Tryz.func24 fun hfit=> ?_
   simp[Tryz.f24,FSR.enc]
   have s_:=An @q0 (An @q0' (@FSR.enc.eq_1))
   try simp[s_]
   repeat' ((first|((first|refine Tp ?_|refine Tn ?_|refine T2 ?_ ?_)<;>intro h_ e_ n_)|refine Pg h1 ?_|refine Dg 9 7 [] [] ?_|rw[Ip]|rw[In]|rw[Fz]|rw[Gz]|fail)<;>first|simp[e_,n_,s_]|simp[s_]|skip)
  have q1:0<f.l.length:=by omega
  have hd:ZhA f.l=(decide (f.l[0].ino=1)&&decide (f.l[0].kind=2)&&decide (f.l[0].links=0)):=by
   have:∀(l:List NodeR) (h:0<l.length),ZhA l=(decide (l[0].ino=1)&&decide (l[0].kind=2)&&decide (l[0].links=0)):=fun l h=>by
    cases l with
    |nil=>simp at h
    |cons r l=>rfl
   exact this f.l q1
  rw[hd] at hh
  by_cases q2:f.l[0].ino=1
  case neg=>
   refine Pm Tryz.func24 fun hfit=> ?_
   simp[Tryz.f24,FSR.enc]
   have s_:=An @q0 (An @q1 (An @q2 (@FSR.enc.eq_1)))
   try simp[s_]
   repeat' ((first|((first|refine Tp ?_|refine Tn ?_|refine T2 ?_ ?_)<;>intro h_ e_ n_)|refine Pg h1 ?_|refine Dg 9 7 [] [] ?_|rw[Ip]|rw[In]|rw[Fz]|rw[Gz]|fail)<;>first|simp[e_,n_,s_]|simp[s_]|skip)
  by_cases q3:f.l[0].kind=2
  case neg=>
   refine Pm Tryz.func24 fun hfit=> ?_
   simp[Tryz.f24,FSR.enc]
   have s_:=An @q0 (An @q1 (An @q2 (An @q3 (@FSR.enc.eq_1))))
   try simp[s_]
   repeat' ((first|((first|refine Tp ?_|refine Tn ?_|refine T2 ?_ ?_)<;>intro h_ e_ n_)|refine Pg h1 ?_|refine Dg 9 7 [] [] ?_|rw[Ip]|rw[In]|rw[Fz]|rw[Gz]|fail)<;>first|simp[e_,n_,s_]|simp[s_]|skip)
  by_cases q4:f.l[0].links=0
  case neg=>
   refine Pm Tryz.func24 fun hfit=> ?_
   simp[Tryz.f24,FSR.enc]
   have s_:=An @q0 (An @q1 (An @q2 (An @q3 (An @q4 (@FSR.enc.eq_1)))))
   try simp[s_]
   repeat' ((first|((first|refine Tp ?_|refine Tn ?_|refine T2 ?_ ?_)<;>intro h_ e_ n_)|refine Pg h1 ?_|refine Dg 9 7 [] [] ?_|rw[Ip]|rw[In]|rw[Fz]|rw[Gz]|fail)<;>first|simp[e_,n_,s_]|simp[s_]|skip)
  simp[q2,q3,q4] at hh
 |true=>
 have hE:∀n∈f.l,n.l.length≤256:=fun n hn=>((Zbs _).1 ((Zo n).1 (R.ok n hn)).row).len
 have hiff:=Zji f R hh
 have hhd:∃h:0<f.l.length,f.l[0].ino=1∧f.l[0].kind=2∧f.l[0].links=0:=by
  have:∀(l:List NodeR),ZhA l=true→∃h:0<l.length,l[0].ino=1∧l[0].kind=2∧l[0].links=0:=fun l h=>by
   cases l with
   |nil=>simp at h
   |cons r l=>
    simp only[ZfG,Bool.and_eq_true,decide_eq_true_eq] at h
    exact⟨by simp,h.1.1,h.1.2,h.2⟩
  exact this f.l hh
 obtain⟨q1,q2,q3,q4⟩:=hhd
 have q0:¬f.l.length<1:=by omega
 have h2:=ZjB f 1 R.rise R.len hE
 have hak:=ZbC hE
 have hbl:=Zjh f.l 1
 have hnm:=fun k=>ZnL f k R.len hE
 have hfd:=fun k=>ZfV f k R.rise (by omega)
 have bad:∀(i:Nat) (hi:i<f.l.length),¬Zko f.l i f.l[i]→rightF f=false:=fun i hi hb=>by
  cases hr:rightF f with
  |false=>rfl
  |true=>exact absurd (hiff.1 hr i hi) hb
 have good:=hiff.2
 clear hiff R hrow hh
 obtain⟨l,next⟩:=f
 simp only at*
 generalize rightF ⟨l,next⟩=rf at*
 refine Pm Tryz.func24 fun hfit=> ?_
 simp[Tryz.f24,FSR.enc]
 have s_:=An @q0 (An @q1 (An @q2 (An @q3 (An @q4 (@FSR.enc.eq_1)))))
 try simp[s_]
 repeat' ((first|((first|refine Tp ?_|refine Tn ?_|refine T2 ?_ ?_)<;>intro h_ e_ n_)|refine Pg h1 ?_|refine Pg h2 ?_|refine Dg 9 7 [] [] ?_|rw[Ip]|rw[In]|rw[Fz]|rw[Gz]|fail)<;>first|simp[e_,n_,s_]|simp[s_]|skip)
 refine AW.loopG (lit:=fun _=>false) (fun i:Nat=>⟨111,pat [(1,.ptr 0 0 0),(4,enc1 I (belowL l 1)),(5,I i)],[.cells 0 [encL NodeR.enc l,I next]]⟩) (fun i=>l.length -i) (fun i=>i≤l.length∧∀j (h:j<l.length),j<i→Zko l j l[j]) 0 ?_ ?_ ?_
 ·exact Wa
 ·simp
 rintro i ⟨g1,g2⟩ A hA
 by_cases hi:i<l.length
 case neg=>
  have e:rf=true:=good fun j h=>g2 j h (by omega)
  subst e
  have s_:=hi
  try simp[s_]
  repeat' ((first|((first|refine Tp ?_|refine Tn ?_|refine T2 ?_ ?_)<;>intro h_ e_ n_)|refine Dg 9 7 [] [] ?_|rw[Ip]|rw[In]|rw[Fz]|rw[Gz]|fail)<;>first|simp[e_,n_,s_]|simp[s_]|skip)
 have hwi:=Zf hi (by simp only[maxLen];omega)
 have hb:=bad i hi
 have c1:=hnm l[i].ino
 have c2:=Zpx (belowL l 1) l[i].ino (by omega)
 by_cases r1:l[i].links=((Zm l).count l[i].ino:Nat)
 case neg=>
  have e:rf=false:=hb fun g=>r1 g.links
  subst e
  have s_:=An @hi (An @r1 (@FSR.enc.eq_1))
  try simp[s_]
  repeat' ((first|((first|refine Tp ?_|refine Tn ?_|refine T2 ?_ ?_)<;>intro h_ e_ n_)|refine Pg c1 ?_|refine Dg 9 7 [] [] ?_|rw[Ip]|rw[In]|rw[Fz]|rw[Gz]|fail)<;>first|simp[e_,n_,s_]|simp[s_]|skip)
 by_cases r2:badN l i l[i]
 ·have e:rf=false:=hb fun g=>g.not r2
  subst e
  obtain⟨r2,r3⟩:=r2
  by_cases p1:l[i].links<1
  ·by_cases mb:l[i].ino∈belowL l 1
   ·rw[show decide (l[i].ino∈belowL l 1)=true from decide_eq_true mb] at c2
    have s_:=An @hi (An @r1 (An @r2 (An @p1 (@FSR.enc.eq_1))))
    try simp[s_]
    repeat' ((first|((first|refine Tp ?_|refine Tn ?_|refine T2 ?_ ?_)<;>intro h_ e_ n_)|refine Pg c1 ?_|refine Pg c2 ?_|refine Dg 9 7 [] [] ?_|rw[Ip]|rw[In]|rw[Fz]|rw[Gz]|fail)<;>first|simp[e_,n_,s_]|simp[s_]|skip)
   ·rw[show decide (l[i].ino∈belowL l 1)=false from decide_eq_false mb] at c2
    have s_:=An @hi (An @r1 (An @r2 (An @p1 (@FSR.enc.eq_1))))
    try simp[s_]
    repeat' ((first|((first|refine Tp ?_|refine Tn ?_|refine T2 ?_ ?_)<;>intro h_ e_ n_)|refine Pg c1 ?_|refine Pg c2 ?_|refine Dg 9 7 [] [] ?_|rw[Ip]|rw[In]|rw[Fz]|rw[Gz]|fail)<;>first|simp[e_,n_,s_]|simp[s_]|skip)
  obtain⟨p2,p3⟩:=r3.resolve_left p1
  by_cases p4:1<l[i].links
  ·by_cases mb:l[i].ino∈belowL l 1
   ·rw[show decide (l[i].ino∈belowL l 1)=true from decide_eq_true mb] at c2
    have s_:=An @hi (An @r1 (An @r2 (An @p1 (An @p2 (An @p4 (@FSR.enc.eq_1))))))
    try simp[s_]
    repeat' ((first|((first|refine Tp ?_|refine Tn ?_|refine T2 ?_ ?_)<;>intro h_ e_ n_)|refine Pg c1 ?_|refine Pg c2 ?_|refine Dg 9 7 [] [] ?_|rw[Ip]|rw[In]|rw[Fz]|rw[Gz]|fail)<;>first|simp[e_,n_,s_]|simp[s_]|skip)
   ·rw[show decide (l[i].ino∈belowL l 1)=false from decide_eq_false mb] at c2
    have s_:=An @hi (An @r1 (An @r2 (An @p1 (An @p2 (An @p4 (@FSR.enc.eq_1))))))
    try simp[s_]
    repeat' ((first|((first|refine Tp ?_|refine Tn ?_|refine T2 ?_ ?_)<;>intro h_ e_ n_)|refine Pg c1 ?_|refine Pg c2 ?_|refine Dg 9 7 [] [] ?_|rw[Ip]|rw[In]|rw[Fz]|rw[Gz]|fail)<;>first|simp[e_,n_,s_]|simp[s_]|skip)
  ·have mb:=p3.resolve_left p4
   rw[show decide (l[i].ino∈belowL l 1)=false from decide_eq_false mb] at c2
   have s_:=An @hi (An @r1 (An @r2 (An @p1 (An @p2 (An @p4 (@FSR.enc.eq_1))))))
   try simp[s_]
   repeat' ((first|((first|refine Tp ?_|refine Tn ?_|refine T2 ?_ ?_)<;>intro h_ e_ n_)|refine Pg c1 ?_|refine Pg c2 ?_|refine Dg 9 7 [] [] ?_|rw[Ip]|rw[In]|rw[Fz]|rw[Gz]|fail)<;>first|simp[e_,n_,s_]|simp[s_]|skip)
 by_cases p0:0<i
 case neg=>
  have p0':i=0:=by omega
  generalize decide (l[i].ino∈belowL l 1)=bb at c2
  have s_:=An @hi (An @r1 (An @p0 (@FSR.enc.eq_1)))
  try simp[s_]
  repeat' ((first|((first|refine Tp ?_|refine Tn ?_|refine T2 ?_ ?_)<;>intro h_ e_ n_)|refine Pg c1 ?_|refine Pg c2 ?_|refine Dg 9 7 [] [] ?_|rw[Ip]|rw[In]|rw[Fz]|rw[Gz]|fail)<;>first|simp[e_,n_,s_]|simp[s_]|skip)
  refine AW.loopG (lit:=fun _=>false) (fun j:Nat=>⟨111,pat [(1,.ptr 0 0 0),(4,enc1 I (belowL l 1)),(5,I i),(6,.ptr 1 0 0),(8,I j)],[.cells 0 [encL NodeR.enc l,I next],.cells 0 l[i].enc]⟩) (fun j=>l[i].l.length -j) (fun j=>j≤l[i].l.length∧∀q (h:q<l[i].l.length),q<j→(findB l l[i].l[q].ino).2=true) 0 ?_ ?_ ?_
  ·exact Wa
  ·simp
  rintro j ⟨k1,k2⟩ A2 hA2
  by_cases hj:j<l[i].l.length
  case neg=>
   have gi:Zko l i l[i]:=⟨r1,r2,fun x hx=>by
    obtain⟨q,hq,rfl⟩:=List.getElem_of_mem hx
    exact k2 q hq (by omega)⟩
   have g3:∀q (h:q<l.length),q<i+1→Zko l q l[q]:=fun q h hq=>by
    by_cases e:q=i
    ·subst e;exact gi
    ·exact g2 q h (by omega)
   have s_:=An @hi (An @hj (@hwi))
   try simp[s_]
   repeat' ((first|((first|refine Tp ?_|refine Tn ?_|refine T2 ?_ ?_)<;>intro h_ e_ n_)|(exact hA (i+1) _ Wc ⟨hi,g3⟩ (by omega))|refine Dg 9 7 [] [] ?_|rw[Ip]|rw[In]|rw[Fz]|rw[Gz]|fail)<;>first|simp[e_,n_,s_]|simp[s_]|skip)
  have hei:=hE l[i] (List.getElem_mem hi)
  have hwj:=Zf hj (by simp only[maxLen];omega)
  have c3:Ze Tryz.prog 25 [.agg [encL NodeR.enc l,I next],I l[i].l[j].ino] (.tup [encN (findB l l[i].l[j].ino).1,B (findB l l[i].l[j].ino).2]):=hfd l[i].l[j].ino
  cases hq:(findB l l[i].l[j].ino).2 with
  |false=>
   have e:rf=false:=hb fun g=>by
    have:=g.kids l[i].l[j] (List.getElem_mem hj)
    rw[hq] at this;cases this
   subst e
   rw[hq] at c3
   have s_:=An @hi (@hj)
   try simp[s_]
   repeat' ((first|((first|refine Tp ?_|refine Tn ?_|refine T2 ?_ ?_)<;>intro h_ e_ n_)|refine Pg c3 ?_|refine AW.room (Dg 17 13 [2] [(11,.w)] ?_)|refine Dg 9 7 [] [] ?_|rw[Ip]|rw[In]|rw[Fz]|rw[Gz]|fail)<;>first|simp[e_,n_,s_]|simp[s_]|skip)
  |true=>
   rw[hq] at c3
   have k3:∀q (h:q<l[i].l.length),q<j+1→(findB l l[i].l[q].ino).2=true:=fun q h hqj=>by
    by_cases e:q=j
    ·subst e;exact hq
    ·exact k2 q h (by omega)
   have s_:=An @hi (An @hj (@hwj))
   try simp[s_]
   repeat' ((first|((first|refine Tp ?_|refine Tn ?_|refine T2 ?_ ?_)<;>intro h_ e_ n_)|(exact hA2 (j+1) _ Wc ⟨hj,k3⟩ (by omega))|refine Pg c3 ?_|refine AW.room (Dg 17 13 [2] [(11,.w)] ?_)|refine Dg 9 7 [] [] ?_|rw[Ip]|rw[In]|rw[Fz]|rw[Gz]|fail)<;>first|simp[e_,n_,s_]|simp[s_]|skip)
 have p1:¬l[i].links<1:=fun e=>r2 ⟨p0,.inl e⟩
 by_cases p2:l[i].kind=2
 case neg=>
  generalize decide (l[i].ino∈belowL l 1)=bb at c2
  have s_:=An @hi (An @r1 (An @p0 (An @p1 (An @p2 (@FSR.enc.eq_1)))))
  try simp[s_]
  repeat' ((first|((first|refine Tp ?_|refine Tn ?_|refine T2 ?_ ?_)<;>intro h_ e_ n_)|refine Pg c1 ?_|refine Pg c2 ?_|refine Dg 9 7 [] [] ?_|rw[Ip]|rw[In]|rw[Fz]|rw[Gz]|fail)<;>first|simp[e_,n_,s_]|simp[s_]|skip)
  refine AW.loopG (lit:=fun _=>false) (fun j:Nat=>⟨111,pat [(1,.ptr 0 0 0),(4,enc1 I (belowL l 1)),(5,I i),(6,.ptr 1 0 0),(8,I j)],[.cells 0 [encL NodeR.enc l,I next],.cells 0 l[i].enc]⟩) (fun j=>l[i].l.length -j) (fun j=>j≤l[i].l.length∧∀q (h:q<l[i].l.length),q<j→(findB l l[i].l[q].ino).2=true) 0 ?_ ?_ ?_
  ·exact Wa
  ·simp
  rintro j ⟨k1,k2⟩ A2 hA2
  by_cases hj:j<l[i].l.length
  case neg=>
   have gi:Zko l i l[i]:=⟨r1,r2,fun x hx=>by
    obtain⟨q,hq,rfl⟩:=List.getElem_of_mem hx
    exact k2 q hq (by omega)⟩
   have g3:∀q (h:q<l.length),q<i+1→Zko l q l[q]:=fun q h hq=>by
    by_cases e:q=i
    ·subst e;exact gi
    ·exact g2 q h (by omega)
   have s_:=An @hi (An @hj (@hwi))
   try simp[s_]
   repeat' ((first|((first|refine Tp ?_|refine Tn ?_|refine T2 ?_ ?_)<;>intro h_ e_ n_)|(exact hA (i+1) _ Wc ⟨hi,g3⟩ (by omega))|refine Dg 9 7 [] [] ?_|rw[Ip]|rw[In]|rw[Fz]|rw[Gz]|fail)<;>first|simp[e_,n_,s_]|simp[s_]|skip)
  have hei:=hE l[i] (List.getElem_mem hi)
  have hwj:=Zf hj (by simp only[maxLen];omega)
  have c3:Ze Tryz.prog 25 [.agg [encL NodeR.enc l,I next],I l[i].l[j].ino] (.tup [encN (findB l l[i].l[j].ino).1,B (findB l l[i].l[j].ino).2]):=hfd l[i].l[j].ino
  cases hq:(findB l l[i].l[j].ino).2 with
  |false=>
   have e:rf=false:=hb fun g=>by
    have:=g.kids l[i].l[j] (List.getElem_mem hj)
    rw[hq] at this;cases this
   subst e
   rw[hq] at c3
   have s_:=An @hi (@hj)
   try simp[s_]
   repeat' ((first|((first|refine Tp ?_|refine Tn ?_|refine T2 ?_ ?_)<;>intro h_ e_ n_)|refine Pg c3 ?_|refine AW.room (Dg 17 13 [2] [(11,.w)] ?_)|refine Dg 9 7 [] [] ?_|rw[Ip]|rw[In]|rw[Fz]|rw[Gz]|fail)<;>first|simp[e_,n_,s_]|simp[s_]|skip)
  |true=>
   rw[hq] at c3
   have k3:∀q (h:q<l[i].l.length),q<j+1→(findB l l[i].l[q].ino).2=true:=fun q h hqj=>by
    by_cases e:q=j
    ·subst e;exact hq
    ·exact k2 q h (by omega)
   have s_:=An @hi (An @hj (@hwj))
   try simp[s_]
   repeat' ((first|((first|refine Tp ?_|refine Tn ?_|refine T2 ?_ ?_)<;>intro h_ e_ n_)|(exact hA2 (j+1) _ Wc ⟨hj,k3⟩ (by omega))|refine Pg c3 ?_|refine AW.room (Dg 17 13 [2] [(11,.w)] ?_)|refine Dg 9 7 [] [] ?_|rw[Ip]|rw[In]|rw[Fz]|rw[Gz]|fail)<;>first|simp[e_,n_,s_]|simp[s_]|skip)
 have p4:¬1<l[i].links:=fun e=>r2 ⟨p0,.inr ⟨p2,.inl e⟩⟩
 have mb:l[i].ino∈belowL l 1:=Decidable.byContradiction fun e=>r2 ⟨p0,.inr ⟨p2,.inr e⟩⟩
 rw[show decide (l[i].ino∈belowL l 1)=true from decide_eq_true mb] at c2
 have s_:=An @hi (An @r1 (An @p0 (An @p1 (An @p2 (An @p4 (@FSR.enc.eq_1))))))
 try simp[s_]
 repeat' ((first|((first|refine Tp ?_|refine Tn ?_|refine T2 ?_ ?_)<;>intro h_ e_ n_)|refine Pg c1 ?_|refine Pg c2 ?_|refine Dg 9 7 [] [] ?_|rw[Ip]|rw[In]|rw[Fz]|rw[Gz]|fail)<;>first|simp[e_,n_,s_]|simp[s_]|skip)
 refine AW.loopG (lit:=fun _=>false) (fun j:Nat=>⟨111,pat [(1,.ptr 0 0 0),(4,enc1 I (belowL l 1)),(5,I i),(6,.ptr 1 0 0),(8,I j)],[.cells 0 [encL NodeR.enc l,I next],.cells 0 l[i].enc]⟩) (fun j=>l[i].l.length -j) (fun j=>j≤l[i].l.length∧∀q (h:q<l[i].l.length),q<j→(findB l l[i].l[q].ino).2=true) 0 ?_ ?_ ?_
 ·exact Wa
 ·simp
 rintro j ⟨k1,k2⟩ A2 hA2
 by_cases hj:j<l[i].l.length
 case neg=>
  have gi:Zko l i l[i]:=⟨r1,r2,fun x hx=>by
   obtain⟨q,hq,rfl⟩:=List.getElem_of_mem hx
   exact k2 q hq (by omega)⟩
  have g3:∀q (h:q<l.length),q<i+1→Zko l q l[q]:=fun q h hq=>by
   by_cases e:q=i
   ·subst e;exact gi
   ·exact g2 q h (by omega)
  have s_:=An @hi (An @hj (@hwi))
  try simp[s_]
  repeat' ((first|((first|refine Tp ?_|refine Tn ?_|refine T2 ?_ ?_)<;>intro h_ e_ n_)|(exact hA (i+1) _ Wc ⟨hi,g3⟩ (by omega))|refine Dg 9 7 [] [] ?_|rw[Ip]|rw[In]|rw[Fz]|rw[Gz]|fail)<;>first|simp[e_,n_,s_]|simp[s_]|skip)
 have hei:=hE l[i] (List.getElem_mem hi)
 have hwj:=Zf hj (by simp only[maxLen];omega)
 have c3:Ze Tryz.prog 25 [.agg [encL NodeR.enc l,I next],I l[i].l[j].ino] (.tup [encN (findB l l[i].l[j].ino).1,B (findB l l[i].l[j].ino).2]):=hfd l[i].l[j].ino
 cases hq:(findB l l[i].l[j].ino).2 with
 |false=>
  have e:rf=false:=hb fun g=>by
   have:=g.kids l[i].l[j] (List.getElem_mem hj)
   rw[hq] at this;cases this
  subst e
  rw[hq] at c3
  have s_:=An @hi (@hj)
  try simp[s_]
  repeat' ((first|((first|refine Tp ?_|refine Tn ?_|refine T2 ?_ ?_)<;>intro h_ e_ n_)|refine Pg c3 ?_|refine AW.room (Dg 17 13 [2] [(11,.w)] ?_)|refine Dg 9 7 [] [] ?_|rw[Ip]|rw[In]|rw[Fz]|rw[Gz]|fail)<;>first|simp[e_,n_,s_]|simp[s_]|skip)
 |true=>
  rw[hq] at c3
  have k3:∀q (h:q<l[i].l.length),q<j+1→(findB l l[i].l[q].ino).2=true:=fun q h hqj=>by
   by_cases e:q=j
   ·subst e;exact hq
   ·exact k2 q h (by omega)
  have s_:=An @hi (An @hj (@hwj))
  try simp[s_]
  repeat' ((first|((first|refine Tp ?_|refine Tn ?_|refine T2 ?_ ?_)<;>intro h_ e_ n_)|(exact hA2 (j+1) _ Wc ⟨hj,k3⟩ (by omega))|refine Pg c3 ?_|refine AW.room (Dg 17 13 [2] [(11,.w)] ?_)|refine Dg 9 7 [] [] ?_|rw[Ip]|rw[In]|rw[Fz]|rw[Gz]|fail)<;>first|simp[e_,n_,s_]|simp[s_]|skip)
theorem Zdx (f:FSR) (k:Int) (h:Zi f):Ze Tryz.prog 25 [encF f,I k] (.tup [encN (findB f.l k).1,B (findB f.l k).2]):=ZfV f k h.rise (by have:=h.len;omega)
theorem ZrO (f:FSR) (n:NodeR) (h:Zi f) (hn:inI n.ino) (hm:n.ino≠9223372036854775807):Ze Tryz.prog 79 [encF f,encN n] (encF (putB f n)):=by
 have:=rput_ok f n (by have:=h.len;omega) hn hm
 rwa[putR_eq h.rise] at this
theorem Zvb (f:FSR) (ino top:Int) (h:Zi f):Ze Tryz.prog 161 [encF f,I ino,I top] (B (belowD f ino top)):=by
 have hE:∀n∈f.l,n.l.length≤256:=fun n hn=>((Zbs _).1 ((Zo n).1 (h.ok n hn)).row).len
 have hl:=h.len
 have h1:=ZjB f top h.rise hl hE
 have h2:=Zjh f.l top
 have h3:=ZbC hE
 have h4:=Zpx (belowL f.l top) ino (by omega)
 have e:decide (ino∈belowL f.l top)=belowD f ino top:=by
  have h5:=ZfL f.l top ino
  have h6:=ZlR h ino top
  rw[←h6] at h5
  cases hb:belowD f ino top with
  |true=>exact decide_eq_true (h5.2 hb)
  |false=>exact decide_eq_false fun g=>by rw[h5.1 g] at hb;cases hb
 rw[e] at h4
 refine Pm Tryz.func161 fun hfit=> ?_
 simp[Tryz.f161]
 try simp
 repeat' ((first|((first|refine Tp ?_|refine Tn ?_|refine T2 ?_ ?_)<;>intro h_ e_ n_)|refine Pg h1 ?_|refine Pg h4 ?_|rw[Ip]|rw[In]|rw[Fz]|rw[Gz]|fail)<;>first|simp[e_,n_]|simp|skip)
theorem Zij (f:FSR) (d:Int) (h:Zi f):Ze Tryz.prog 76 [encF f,I d] (.tup [encN (dirD f d).1,I (dirD f d).2]):=by
 have h1:=Zdx f d h
 unfold dirD
 by_cases q1:(findB f.l d).2=false
 ·rw[if_pos q1]
  refine Pm Tryz.func76 fun hfit=> ?_
  simp[Tryz.f76]
  have s_:=An @q1 (@zeroN_enc)
  try simp[s_]
  repeat' ((first|((first|refine Tp ?_|refine Tn ?_|refine T2 ?_ ?_)<;>intro h_ e_ n_)|refine Pg h1 ?_|rw[Ip]|rw[In]|rw[Fz]|rw[Gz]|fail)<;>first|simp[e_,n_,s_]|simp[s_]|skip)
 by_cases q2:(findB f.l d).1.kind≠2
 ·rw[if_neg q1,if_pos q2]
  refine Pm Tryz.func76 fun hfit=> ?_
  simp[Tryz.f76]
  have s_:=An @q1 (An @q2 (@zeroN_enc))
  try simp[s_]
  repeat' ((first|((first|refine Tp ?_|refine Tn ?_|refine T2 ?_ ?_)<;>intro h_ e_ n_)|refine Pg h1 ?_|rw[Ip]|rw[In]|rw[Fz]|rw[Gz]|fail)<;>first|simp[e_,n_,s_]|simp[s_]|skip)
 ·rw[if_neg q1,if_neg q2]
  refine Pm Tryz.func76 fun hfit=> ?_
  simp[Tryz.f76]
  have s_:=An @q1 (@q2)
  try simp[s_]
  repeat' ((first|((first|refine Tp ?_|refine Tn ?_|refine T2 ?_ ?_)<;>intro h_ e_ n_)|refine Pg h1 ?_|rw[Ip]|rw[In]|rw[Fz]|rw[Gz]|fail)<;>first|simp[e_,n_,s_]|simp[s_]|skip)
theorem Zfq (f:FSR) (d:Int) (s:ByteArray) (h:Zi f):Ze Tryz.prog 87 [encF f,I d,S s] (.tup [encN (lookD f d s).1,I (lookD f d s).2]):=by
 have h1:=Zij f d h
 have h2:=rcheck_ok s
 have h3:=Zcc (dirD f d).1.l s
 have h4:=Zdx f (findE (dirD f d).1.l s).1 h
 unfold lookD
 generalize dirD f d=D at*
 generalize findE D.1.l s=E at*
 generalize findB f.l E.1=N at*
 obtain⟨D1,De⟩:=D
 obtain⟨E1,E2⟩:=E
 obtain⟨N1,N2⟩:=N
 simp only at*
 by_cases q1:De=0
 case neg=>
  rw[if_pos q1]
  refine Pm Tryz.func87 fun hfit=> ?_
  simp[Tryz.f87]
  have s_:=An @q1 (@zeroN_enc)
  try simp[s_]
  repeat' ((first|((first|refine Tp ?_|refine Tn ?_|refine T2 ?_ ?_)<;>intro h_ e_ n_)|refine Pg h1 ?_|refine Pg h2 ?_|rw[Ip]|rw[In]|rw[Fz]|rw[Gz]|fail)<;>first|simp[e_,n_,s_]|simp[s_]|skip)
 rw[if_neg (by simpa using q1)]
 by_cases q2:checkS s=0
 case neg=>
  rw[if_pos q2]
  refine Pm Tryz.func87 fun hfit=> ?_
  simp[Tryz.f87]
  have s_:=An @q1 (An @q2 (@zeroN_enc))
  try simp[s_]
  repeat' ((first|((first|refine Tp ?_|refine Tn ?_|refine T2 ?_ ?_)<;>intro h_ e_ n_)|refine Pg h1 ?_|refine Pg h2 ?_|rw[Ip]|rw[In]|rw[Fz]|rw[Gz]|fail)<;>first|simp[e_,n_,s_]|simp[s_]|skip)
 rw[if_neg (by simpa using q2)]
 cases E2 with
 |false=>
  rw[if_pos rfl]
  refine Pm Tryz.func87 fun hfit=> ?_
  simp[Tryz.f87]
  have s_:=An @q1 (An @q2 (@zeroN_enc))
  try simp[s_]
  repeat' ((first|((first|refine Tp ?_|refine Tn ?_|refine T2 ?_ ?_)<;>intro h_ e_ n_)|refine Pg h1 ?_|refine Pg h2 ?_|refine Pg h3 ?_|refine Pg h4 ?_|rw[Ip]|rw[In]|rw[Fz]|rw[Gz]|fail)<;>first|simp[e_,n_,s_]|simp[s_]|skip)
 |true=>
  rw[if_neg (by simp)]
  cases N2 with
  |false=>
   rw[if_pos rfl]
   refine Pm Tryz.func87 fun hfit=> ?_
   simp[Tryz.f87]
   have s_:=An @q1 (An @q2 (@zeroN_enc))
   try simp[s_]
   repeat' ((first|((first|refine Tp ?_|refine Tn ?_|refine T2 ?_ ?_)<;>intro h_ e_ n_)|refine Pg h1 ?_|refine Pg h2 ?_|refine Pg h3 ?_|refine Pg h4 ?_|rw[Ip]|rw[In]|rw[Fz]|rw[Gz]|fail)<;>first|simp[e_,n_,s_]|simp[s_]|skip)
  |true=>
   rw[if_neg (by simp)]
   refine Pm Tryz.func87 fun hfit=> ?_
   simp[Tryz.f87]
   have s_:=An @q1 (An @q2 (@zeroN_enc))
   try simp[s_]
   repeat' ((first|((first|refine Tp ?_|refine Tn ?_|refine T2 ?_ ?_)<;>intro h_ e_ n_)|refine Pg h1 ?_|refine Pg h2 ?_|refine Pg h3 ?_|refine Pg h4 ?_|rw[Ip]|rw[In]|rw[Fz]|rw[Gz]|fail)<;>first|simp[e_,n_,s_]|simp[s_]|skip)
theorem ZeH (f:FSR) (dir:Int) (s:ByteArray) (ino:Int) (h:Zi f) (hb:f.next≤4611686018427387904):Ze Tryz.prog 80 [encF f,I dir,S s,I ino] (encF (enteredD f dir s ino)):=by
 have h1:=Zdx f dir h
 have hn:=h.num dir
 have h2:=ZuI (findB f.l dir).1.l s ino (by have:=(h.row dir).len;omega)
 have h3:=ZrO f {(findB f.l dir).1 with l:=(enterE (findB f.l dir).1.l s ino).1} h ⟨by simp only;omega,by simp only;omega⟩ (by simp only;omega)
 have e:putB f {(findB f.l dir).1 with l:=(enterE (findB f.l dir).1.l s ino).1}=enteredD f dir s ino:=rfl
 rw[e] at h3
 generalize enteredD f dir s ino=K at*
 generalize enterE (findB f.l dir).1.l s ino=E at*
 generalize findB f.l dir=D at*
 refine Pm Tryz.func80 fun hfit=> ?_
 simp[Tryz.f80]
 try simp
 repeat' ((first|((first|refine Tp ?_|refine Tn ?_|refine T2 ?_ ?_)<;>intro h_ e_ n_)|refine Pg h1 ?_|refine Pg h2 ?_|refine Pg h3 ?_|rw[Ip]|rw[In]|rw[Fz]|rw[Gz]|fail)<;>first|simp[e_,n_]|simp|skip)
theorem Zkv (f:FSR) (dir:Int) (s:ByteArray) (h:Zi f) (hb:f.next≤4611686018427387904):Ze Tryz.prog 163 [encF f,I dir,S s] (encF (leftD f dir s)):=by
 have h1:=Zdx f dir h
 have hn:=h.num dir
 have h2:=ZuJ (findB f.l dir).1.l s (by have:=(h.row dir).len;omega)
 have h3:=ZrO f {(findB f.l dir).1 with l:=(leaveE (findB f.l dir).1.l s).1} h ⟨by simp only;omega,by simp only;omega⟩ (by simp only;omega)
 have e:putB f {(findB f.l dir).1 with l:=(leaveE (findB f.l dir).1.l s).1}=leftD f dir s:=rfl
 rw[e] at h3
 generalize leftD f dir s=K at*
 generalize leaveE (findB f.l dir).1.l s=E at*
 generalize findB f.l dir=D at*
 refine Pm Tryz.func163 fun hfit=> ?_
 simp[Tryz.f163]
 try simp
 repeat' ((first|((first|refine Tp ?_|refine Tn ?_|refine T2 ?_ ?_)<;>intro h_ e_ n_)|refine Pg h1 ?_|refine Pg h2 ?_|refine Pg h3 ?_|rw[Ip]|rw[In]|rw[Fz]|rw[Gz]|fail)<;>first|simp[e_,n_]|simp|skip)
theorem Zxe (f:FSR) (ino:Int) (h:Zi f) (hb:f.next≤4611686018427387904):Ze Tryz.prog 162 [encF f,I ino] (encF (ZhE f ino)):=by
 have h1:=Zdx f ino h
 have hn:=h.num ino
 have hlk:=h.links ino
 have hl:=h.len
 have h2:=rout_ok f ino (by omega)
 have h3:=ZrO f {(findB f.l ino).1 with links:=(findB f.l ino).1.links -1} h ⟨by simp only;omega,by simp only;omega⟩ (by simp only;omega)
 have hw:IntKind.i64.wrap ((findB f.l ino).1.links -1)=(findB f.l ino).1.links -1:=Zj (by omega) (by omega)
 unfold ZhE
 by_cases q:(findB f.l ino).1.links≤1
 ·rw[if_pos q]
  generalize outF f ino=K at*
  generalize findB f.l ino=D at*
  refine Pm Tryz.func162 fun hfit=> ?_
  simp[Tryz.f162]
  have s_:=q
  try simp[s_]
  repeat' ((first|((first|refine Tp ?_|refine Tn ?_|refine T2 ?_ ?_)<;>intro h_ e_ n_)|refine Pg h1 ?_|refine Pg h2 ?_|rw[Ip]|rw[In]|rw[Fz]|rw[Gz]|fail)<;>first|simp[e_,n_,s_]|simp[s_]|skip)
 ·rw[if_neg q]
  generalize findB f.l ino=D at*
  generalize putB f {D.1 with links:=D.1.links -1}=K at*
  refine Pm Tryz.func162 fun hfit=> ?_
  simp[Tryz.f162]
  have s_:=An @q (@hw)
  try simp[s_]
  repeat' ((first|((first|refine Tp ?_|refine Tn ?_|refine T2 ?_ ?_)<;>intro h_ e_ n_)|refine Pg h1 ?_|refine Pg h3 ?_|rw[Ip]|rw[In]|rw[Fz]|rw[Gz]|fail)<;>first|simp[e_,n_,s_]|simp[s_]|skip)
theorem Zik (f:FSR) (dir:Int) (s:ByteArray) (h:Zi f) (hb:f.next≤4611686018427387904) (hl:(lookD f dir s).2=0):Ze Tryz.prog 162 [encF (leftD f dir s),I (lookD f dir s).1.ino] (encF (withoutD f dir s (lookD f dir s).1.ino)):=by
 obtain⟨h1,_⟩:=ZcX h hl
 have hs:=Zbt h h1 s
 exact Zxe (leftD f dir s) (lookD f dir s).1.ino hs.rows (by rw[hs.next];exact hb)
theorem radd_ok (f:FSR) (dir:Int) (s:ByteArray) (n:NodeR) (h:Zi f) (hb:f.next<4611686018427387904):Ze Tryz.prog 27 [encF f,I dir,S s,encN n] (.tup [encF (addD f dir s n).1,I (addD f dir s n).2]):=by
 have hlen:=h.len
 have h1:=Zij f dir h
 have h2:=rcheck_ok s
 have h3:=Zcc (dirD f dir).1.l s
 have h4:=rnright_ok (newN f n)
 have hnx:=h.next
 have h5:=ZeH f dir s f.next h (by omega)
 have h6:(dirD f dir).2=0→Ze Tryz.prog 79 [encF (enteredD f dir s f.next),encN (newN f n)] (encF (putB (enteredD f dir s f.next) (newN f n))):=fun g=>by
  obtain⟨d1,d2,_⟩:=ZaG g
  have hs:=Zac h d1 d2 s f.next
  exact ZrO _ _ hs.rows ⟨by show-9223372036854775808≤f.next;omega,by show f.next<9223372036854775808;omega⟩ (by show f.next≠_;omega)
 unfold addD
 have en:encN (newN f n)= .agg [I f.next,I n.kind,I 1,S n.text,encL EntryR.enc n.l]:=rfl
 rw[en] at h4 h6
 generalize newN f n=m at*
 generalize dirD f dir=D at*
 generalize findE D.1.l s=E at*
 generalize enteredD f dir s f.next=K at*
 generalize putB K m=K2 at*
 by_cases q1:D.2=0
 case neg=>
  rw[if_pos q1]
  refine Pm Tryz.func27 fun hfit=> ?_
  simp[Tryz.f27]
  have s_:=q1
  try simp[s_]
  repeat' ((first|((first|refine Tp ?_|refine Tn ?_|refine T2 ?_ ?_)<;>intro h_ e_ n_)|refine Pg h1 ?_|refine Pg h2 ?_|refine Dg 17 8 [] [] ?_|rw[Ip]|rw[In]|rw[Fz]|rw[Gz]|fail)<;>first|simp[e_,n_,s_]|simp[s_]|skip)
 rw[if_neg (by simpa using q1)]
 have h6:=h6 q1
 by_cases q2:checkS s=0
 case neg=>
  rw[if_pos q2]
  refine Pm Tryz.func27 fun hfit=> ?_
  simp[Tryz.f27]
  have s_:=An @q1 (@q2)
  try simp[s_]
  repeat' ((first|((first|refine Tp ?_|refine Tn ?_|refine T2 ?_ ?_)<;>intro h_ e_ n_)|refine Pg h1 ?_|refine Pg h2 ?_|refine Dg 17 8 [] [] ?_|rw[Ip]|rw[In]|rw[Fz]|rw[Gz]|fail)<;>first|simp[e_,n_,s_]|simp[s_]|skip)
 rw[if_neg (by simpa using q2)]
 cases q3:E.2 with
 |true=>
  rw[if_pos rfl]
  refine Pm Tryz.func27 fun hfit=> ?_
  simp[Tryz.f27]
  have s_:=An @q1 (An @q2 (@q3))
  try simp[s_]
  repeat' ((first|((first|refine Tp ?_|refine Tn ?_|refine T2 ?_ ?_)<;>intro h_ e_ n_)|refine Pg h1 ?_|refine Pg h2 ?_|refine Pg h3 ?_|refine Dg 17 8 [] [] ?_|rw[Ip]|rw[In]|rw[Fz]|rw[Gz]|fail)<;>first|simp[e_,n_,s_]|simp[s_]|skip)
 |false=>
 rw[if_neg (by simp)]
 by_cases q4:256≤f.l.length
 ·rw[if_pos (.inl q4)]
  refine Pm Tryz.func27 fun hfit=> ?_
  simp[Tryz.f27]
  have s_:=An @q1 (An @q2 (An @q3 (An @q4 (@FSR.enc.eq_1))))
  try simp[s_]
  repeat' ((first|((first|refine Tp ?_|refine Tn ?_|refine T2 ?_ ?_)<;>intro h_ e_ n_)|refine Pg h1 ?_|refine Pg h2 ?_|refine Pg h3 ?_|refine Dg 17 8 [] [] ?_|rw[Ip]|rw[In]|rw[Fz]|rw[Gz]|fail)<;>first|simp[e_,n_,s_]|simp[s_]|skip)
 by_cases q5:256≤D.1.l.length
 ·rw[if_pos (.inr q5)]
  refine Pm Tryz.func27 fun hfit=> ?_
  simp[Tryz.f27]
  have s_:=An @q1 (An @q2 (An @q3 (An @q4 (An @q5 (@FSR.enc.eq_1)))))
  try simp[s_]
  repeat' ((first|((first|refine Tp ?_|refine Tn ?_|refine T2 ?_ ?_)<;>intro h_ e_ n_)|refine Pg h1 ?_|refine Pg h2 ?_|refine Pg h3 ?_|refine Dg 17 8 [] [] ?_|rw[Ip]|rw[In]|rw[Fz]|rw[Gz]|fail)<;>first|simp[e_,n_,s_]|simp[s_]|skip)
 rw[if_neg (fun g=>g.elim q4 q5)]
 cases q6:nodeOk m with
 |false=>
  rw[if_pos (.inl rfl)]
  rw[q6] at h4
  refine Pm Tryz.func27 fun hfit=> ?_
  simp[Tryz.f27]
  have s_:=An @q1 (An @q2 (An @q3 (An @q4 (An @q5 (An @FSR.enc.eq_1 (@NodeR.enc.eq_1))))))
  try simp[s_]
  repeat' ((first|((first|refine Tp ?_|refine Tn ?_|refine T2 ?_ ?_)<;>intro h_ e_ n_)|refine Pg h1 ?_|refine Pg h2 ?_|refine Pg h3 ?_|refine Pg h4 ?_|refine Dg 17 8 [] [] ?_|rw[Ip]|rw[In]|rw[Fz]|rw[Gz]|fail)<;>first|simp[e_,n_,s_]|simp[s_]|skip)
 |true=>
 rw[q6] at h4
 by_cases q7:0<n.l.length
 ·rw[if_pos (.inr q7)]
  refine Pm Tryz.func27 fun hfit=> ?_
  simp[Tryz.f27]
  have s_:=An @q1 (An @q2 (An @q3 (An @q4 (An @q5 (An @q7 (An @FSR.enc.eq_1 (@NodeR.enc.eq_1)))))))
  try simp[s_]
  repeat' ((first|((first|refine Tp ?_|refine Tn ?_|refine T2 ?_ ?_)<;>intro h_ e_ n_)|refine Pg h1 ?_|refine Pg h2 ?_|refine Pg h3 ?_|refine Pg h4 ?_|refine Dg 17 8 [] [] ?_|rw[Ip]|rw[In]|rw[Fz]|rw[Gz]|fail)<;>first|simp[e_,n_,s_]|simp[s_]|skip)
 rw[if_neg (fun g=>g.elim (by simp) q7)]
 refine Pm Tryz.func27 fun hfit=> ?_
 simp[Tryz.f27]
 have s_:=An @q1 (An @q2 (An @q3 (An @q4 (An @q5 (An @q7 (An @FSR.enc.eq_1 (@NodeR.enc.eq_1)))))))
 try simp[s_]
 repeat' ((first|((first|refine Tp ?_|refine Tn ?_|refine T2 ?_ ?_)<;>intro h_ e_ n_)|refine Pg h1 ?_|refine Pg h2 ?_|refine Pg h3 ?_|refine Pg h4 ?_|refine Pg h5 ?_|refine Pg h6 ?_|refine Dg 17 8 [] [] ?_|rw[Ip]|rw[In]|rw[Fz]|rw[Gz]|fail)<;>first|simp[e_,n_,s_]|simp[s_]|skip)
theorem Zxf (f:FSR) (dir:Int) (s:ByteArray) (ino:Int) (h:Zi f) (hb:f.next<4611686018427387904):Ze Tryz.prog 93 [encF f,I dir,S s,I ino] (.tup [encF (giveD f dir s ino).1,I (giveD f dir s ino).2]):=by
 have h1:=Zij f dir h
 have h2:=Zdx f ino h
 have h3:=rcheck_ok s
 have h4:=Zcc (dirD f dir).1.l s
 have h5:=ZeH f dir s ino h (by omega)
 have hn:=h.num ino
 have hlk:=h.links ino
 have hw:IntKind.i64.wrap ((findB f.l ino).1.links+1)=(findB f.l ino).1.links+1:=Zj (by omega) (by omega)
 have h6:(dirD f dir).2=0→Ze Tryz.prog 79 [encF (enteredD f dir s ino),encN {(findB f.l ino).1 with links:=(findB f.l ino).1.links+1}] (encF (putB (enteredD f dir s ino) {(findB f.l ino).1 with links:=(findB f.l ino).1.links+1})):=fun g=>by
  obtain⟨d1,d2,_⟩:=ZaG g
  have hs:=Zac h d1 d2 s ino
  exact ZrO _ _ hs.rows ⟨by simp only;omega,by simp only;omega⟩ (by simp only;omega)
 unfold giveD
 generalize dirD f dir=D at*
 generalize findE D.1.l s=E at*
 generalize enteredD f dir s ino=K at*
 generalize findB f.l ino=N at*
 generalize putB K {N.1 with links:=N.1.links+1}=K2 at*
 by_cases q1:D.2=0
 case neg=>
  rw[if_pos q1]
  refine Pm Tryz.func93 fun hfit=> ?_
  simp[Tryz.f93]
  have s_:=q1
  try simp[s_]
  repeat' ((first|((first|refine Tp ?_|refine Tn ?_|refine T2 ?_ ?_)<;>intro h_ e_ n_)|refine Pg h1 ?_|refine Dg 18 7 [] [] ?_|rw[Ip]|rw[In]|rw[Fz]|rw[Gz]|fail)<;>first|simp[e_,n_,s_]|simp[s_]|skip)
 rw[if_neg (by simpa using q1)]
 have h6:=h6 q1
 cases q2:N.2 with
 |false=>
  rw[if_pos rfl]
  refine Pm Tryz.func93 fun hfit=> ?_
  simp[Tryz.f93]
  have s_:=An @q1 (@q2)
  try simp[s_]
  repeat' ((first|((first|refine Tp ?_|refine Tn ?_|refine T2 ?_ ?_)<;>intro h_ e_ n_)|refine Pg h1 ?_|refine Pg h2 ?_|refine Dg 18 7 [] [] ?_|rw[Ip]|rw[In]|rw[Fz]|rw[Gz]|fail)<;>first|simp[e_,n_,s_]|simp[s_]|skip)
 |true=>
 rw[if_neg (by simp)]
 by_cases q3:N.1.kind=2
 ·rw[if_pos q3]
  refine Pm Tryz.func93 fun hfit=> ?_
  simp[Tryz.f93]
  have s_:=An @q1 (An @q2 (@q3))
  try simp[s_]
  repeat' ((first|((first|refine Tp ?_|refine Tn ?_|refine T2 ?_ ?_)<;>intro h_ e_ n_)|refine Pg h1 ?_|refine Pg h2 ?_|refine Dg 18 7 [] [] ?_|rw[Ip]|rw[In]|rw[Fz]|rw[Gz]|fail)<;>first|simp[e_,n_,s_]|simp[s_]|skip)
 rw[if_neg q3]
 by_cases q4:checkS s=0
 case neg=>
  rw[if_pos q4]
  refine Pm Tryz.func93 fun hfit=> ?_
  simp[Tryz.f93]
  have s_:=An @q1 (An @q2 (An @q3 (@q4)))
  try simp[s_]
  repeat' ((first|((first|refine Tp ?_|refine Tn ?_|refine T2 ?_ ?_)<;>intro h_ e_ n_)|refine Pg h1 ?_|refine Pg h2 ?_|refine Pg h3 ?_|refine Dg 18 7 [] [] ?_|rw[Ip]|rw[In]|rw[Fz]|rw[Gz]|fail)<;>first|simp[e_,n_,s_]|simp[s_]|skip)
 rw[if_neg (by simpa using q4)]
 cases q5:E.2 with
 |true=>
  rw[if_pos rfl]
  refine Pm Tryz.func93 fun hfit=> ?_
  simp[Tryz.f93]
  have s_:=An @q1 (An @q2 (An @q3 (An @q4 (@q5))))
  try simp[s_]
  repeat' ((first|((first|refine Tp ?_|refine Tn ?_|refine T2 ?_ ?_)<;>intro h_ e_ n_)|refine Pg h1 ?_|refine Pg h2 ?_|refine Pg h3 ?_|refine Pg h4 ?_|refine Dg 18 7 [] [] ?_|rw[Ip]|rw[In]|rw[Fz]|rw[Gz]|fail)<;>first|simp[e_,n_,s_]|simp[s_]|skip)
 |false=>
 rw[if_neg (by simp)]
 by_cases q6:256≤D.1.l.length
 ·rw[if_pos (.inl q6)]
  refine Pm Tryz.func93 fun hfit=> ?_
  simp[Tryz.f93]
  have s_:=An @q1 (An @q2 (An @q3 (An @q4 (An @q5 (@q6)))))
  try simp[s_]
  repeat' ((first|((first|refine Tp ?_|refine Tn ?_|refine T2 ?_ ?_)<;>intro h_ e_ n_)|refine Pg h1 ?_|refine Pg h2 ?_|refine Pg h3 ?_|refine Pg h4 ?_|refine Dg 18 7 [] [] ?_|rw[Ip]|rw[In]|rw[Fz]|rw[Gz]|fail)<;>first|simp[e_,n_,s_]|simp[s_]|skip)
 by_cases q7:64≤N.1.links
 ·rw[if_pos (.inr q7)]
  refine Pm Tryz.func93 fun hfit=> ?_
  simp[Tryz.f93]
  have s_:=An @q1 (An @q2 (An @q3 (An @q4 (An @q5 (An @q6 (@q7))))))
  try simp[s_]
  repeat' ((first|((first|refine Tp ?_|refine Tn ?_|refine T2 ?_ ?_)<;>intro h_ e_ n_)|refine Pg h1 ?_|refine Pg h2 ?_|refine Pg h3 ?_|refine Pg h4 ?_|refine Dg 18 7 [] [] ?_|rw[Ip]|rw[In]|rw[Fz]|rw[Gz]|fail)<;>first|simp[e_,n_,s_]|simp[s_]|skip)
 rw[if_neg (fun g=>g.elim q6 q7)]
 refine Pm Tryz.func93 fun hfit=> ?_
 simp[Tryz.f93]
 have s_:=An @q1 (An @q2 (An @q3 (An @q4 (An @q5 (An @q6 (An @q7 (@hw)))))))
 try simp[s_]
 repeat' ((first|((first|refine Tp ?_|refine Tn ?_|refine T2 ?_ ?_)<;>intro h_ e_ n_)|refine Pg h1 ?_|refine Pg h2 ?_|refine Pg h3 ?_|refine Pg h4 ?_|refine Pg h5 ?_|refine Pg h6 ?_|refine Dg 18 7 [] [] ?_|rw[Ip]|rw[In]|rw[Fz]|rw[Gz]|fail)<;>first|simp[e_,n_,s_]|simp[s_]|skip)
theorem Zxg (f:FSR) (dir:Int) (s:ByteArray) (h:Zi f) (hb:f.next≤4611686018427387904):Ze Tryz.prog 160 [encF f,I dir,S s] (.tup [encF (takeD f dir s).1,I (takeD f dir s).2]):=by
 have h1:=Zfq f dir s h
 have h2:=Zkv f dir s h hb
 have h3:=Zik f dir s h hb
 unfold takeD
 generalize withoutD f dir s (lookD f dir s).1.ino=K at*
 generalize leftD f dir s=K2 at*
 generalize lookD f dir s=L at*
 by_cases q1:L.2=0
 case neg=>
  rw[if_pos q1]
  refine Pm Tryz.func160 fun hfit=> ?_
  simp[Tryz.f160]
  have s_:=q1
  try simp[s_]
  repeat' ((first|((first|refine Tp ?_|refine Tn ?_|refine T2 ?_ ?_)<;>intro h_ e_ n_)|refine Pg h1 ?_|refine Dg 6 7 [] [] ?_|rw[Ip]|rw[In]|rw[Fz]|rw[Gz]|fail)<;>first|simp[e_,n_,s_]|simp[s_]|skip)
 rw[if_neg (by simpa using q1)]
 have h3:=h3 q1
 by_cases q2:0<L.1.l.length
 ·rw[if_pos q2]
  refine Pm Tryz.func160 fun hfit=> ?_
  simp[Tryz.f160]
  have s_:=An @q1 (@q2)
  try simp[s_]
  repeat' ((first|((first|refine Tp ?_|refine Tn ?_|refine T2 ?_ ?_)<;>intro h_ e_ n_)|refine Pg h1 ?_|refine Dg 6 7 [] [] ?_|rw[Ip]|rw[In]|rw[Fz]|rw[Gz]|fail)<;>first|simp[e_,n_,s_]|simp[s_]|skip)
 ·rw[if_neg q2]
  refine Pm Tryz.func160 fun hfit=> ?_
  simp[Tryz.f160]
  have s_:=An @q1 (@q2)
  try simp[s_]
  repeat' ((first|((first|refine Tp ?_|refine Tn ?_|refine T2 ?_ ?_)<;>intro h_ e_ n_)|refine Pg h1 ?_|refine Pg h2 ?_|refine Pg h3 ?_|refine Dg 6 7 [] [] ?_|rw[Ip]|rw[In]|rw[Fz]|rw[Gz]|fail)<;>first|simp[e_,n_,s_]|simp[s_]|skip)
theorem Zxh (f:FSR) (dir:Int) (s:ByteArray) (to:Int) (t:ByteArray) (h:Zi f) (T:ZF f) (hb:f.next<4611686018427387904):
  Ze Tryz.prog 94 [encF f,I dir,S s,I to,S t] (.tup [encF (moveD f dir s to t).1,I (moveD f dir s to t).2]):=by
 have h1:=Zfq f dir s h
 have h2:=Zij f to h
 have h3:=rcheck_ok t
 have h4:=Zvb f to (lookD f dir s).1.ino h
 have h5:=Zfq f to t h
 have h6:=Zkv f to t h (by omega)
 have h7:=Zik f to t h (by omega)
 have hcs:=ZfK h to t
 have hb':(clearD f to t).next≤4611686018427387904:=by rw[hcs.next];omega
 have h8:=Zdx (clearD f to t) to hcs.rows
 have h9:=Zkv (clearD f to t) dir s hcs.rows hb'
 have hdd:(lookD f dir s).2=0→((lookD f to t).2=0→overD (lookD f dir s).1 (lookD f to t).1=0)→(findB (clearD f to t).l dir).2=true:=fun g1 g2=>by
  obtain⟨u1,_,_,u4,_⟩:=ZcX h g1
  by_cases e:(lookD f to t).2=0∧dir=(lookD f to t).1.ino
  ·exfalso
   obtain⟨_,_,o3⟩:=ZgK (g2 e.1)
   obtain⟨_,_,_,_,u5⟩:=ZcX h e.1
   rw[e.2,u5] at u4
   simp only[o3] at u4
   exact absurd (congrArg Prod.snd u4) (by simp[findE])
  ·rw[ZcW h to t dir (fun h g=>e ⟨h,g⟩) (fun g=>ZcJ h T g)]
   split
   ·rfl
   ·exact u1
 have h10:(lookD f dir s).2=0→((lookD f to t).2=0→overD (lookD f dir s).1 (lookD f to t).1=0)→Ze Tryz.prog 80 [encF (leftD (clearD f to t) dir s),I to,S t,I (lookD f dir s).1.ino] (encF (enteredD (leftD (clearD f to t) dir s) to t (lookD f dir s).1.ino)):=fun g1 g2=>by
  have hls:=Zbt hcs.rows (hdd g1 g2) s
  exact ZeH _ to t _ hls.rows (by rw[hls.next];exact hb')
 clear hdd hcs
 have ec:(lookD f to t).2=0→withoutD f to t (lookD f to t).1.ino=clearD f to t:=fun g=>by unfold clearD;rw[if_pos g]
 have ec2:(lookD f to t).2≠0→clearD f to t=f:=fun g=>by unfold clearD;rw[if_neg g]
 unfold moveD
 generalize enteredD (leftD (clearD f to t) dir s) to t (lookD f dir s).1.ino=K at*
 generalize leftD (clearD f to t) dir s=K2 at*
 generalize withoutD f to t (lookD f to t).1.ino=K4 at*
 generalize leftD f to t=K3 at*
 generalize clearD f to t=C at*
 generalize belowD f to (lookD f dir s).1.ino=Bw at*
 generalize lookD f dir s=L at*
 generalize lookD f to t=O at*
 generalize dirD f to=D at*
 generalize findB C.l to=N at*
 by_cases q1:L.2=0
 case neg=>
  rw[if_pos q1]
  refine Pm Tryz.func94 fun hfit=> ?_
  simp[Tryz.f94]
  have s_:=q1
  try simp[s_]
  repeat' ((first|((first|refine Tp ?_|refine Tn ?_|refine T2 ?_ ?_)<;>intro h_ e_ n_)|refine Pg h1 ?_|refine Dg 23 7 [] [] ?_|refine Dg 27 9 [] [] ?_|rw[Ip]|rw[In]|rw[Fz]|rw[Gz]|fail)<;>first|simp[e_,n_,s_]|simp[s_]|skip)
 rw[if_neg (by simpa using q1)]
 by_cases q2:D.2=0
 case neg=>
  rw[if_pos q2]
  refine Pm Tryz.func94 fun hfit=> ?_
  simp[Tryz.f94]
  have s_:=An @q1 (@q2)
  try simp[s_]
  repeat' ((first|((first|refine Tp ?_|refine Tn ?_|refine T2 ?_ ?_)<;>intro h_ e_ n_)|refine Pg h1 ?_|refine Pg h2 ?_|refine Dg 23 7 [] [] ?_|refine Dg 27 9 [] [] ?_|rw[Ip]|rw[In]|rw[Fz]|rw[Gz]|fail)<;>first|simp[e_,n_,s_]|simp[s_]|skip)
 rw[if_neg (by simpa using q2)]
 by_cases q3:checkS t=0
 case neg=>
  rw[if_pos q3]
  refine Pm Tryz.func94 fun hfit=> ?_
  simp[Tryz.f94]
  have s_:=An @q1 (An @q2 (@q3))
  try simp[s_]
  repeat' ((first|((first|refine Tp ?_|refine Tn ?_|refine T2 ?_ ?_)<;>intro h_ e_ n_)|refine Pg h1 ?_|refine Pg h2 ?_|refine Pg h3 ?_|refine Dg 23 7 [] [] ?_|refine Dg 27 9 [] [] ?_|rw[Ip]|rw[In]|rw[Fz]|rw[Gz]|fail)<;>first|simp[e_,n_,s_]|simp[s_]|skip)
 rw[if_neg (by simpa using q3)]
 by_cases q4:L.1.kind=2∧(L.1.ino=to∨Bw=true)
 ·rw[if_pos q4]
  obtain⟨q4,q5⟩:=q4
  by_cases q6:L.1.ino=to
  ·refine Pm Tryz.func94 fun hfit=> ?_
   simp[Tryz.f94]
   have s_:=An @q1 (An @q2 (An @q3 (An @q4 (@q6))))
   try simp[s_]
   repeat' ((first|((first|refine Tp ?_|refine Tn ?_|refine T2 ?_ ?_)<;>intro h_ e_ n_)|refine Pg h1 ?_|refine Pg h2 ?_|refine Pg h3 ?_|refine Pg h4 ?_|refine Dg 23 7 [] [] ?_|refine Dg 27 9 [] [] ?_|rw[Ip]|rw[In]|rw[Fz]|rw[Gz]|fail)<;>first|simp[e_,n_,s_]|simp[s_]|skip)
  ·have q5:=q5.resolve_left q6
   have q6':¬to=L.1.ino:=fun e=>q6 e.symm
   rw[q5] at h4
   refine Pm Tryz.func94 fun hfit=> ?_
   simp[Tryz.f94]
   have s_:=An @q1 (An @q2 (An @q3 (An @q4 (An @q6 (@q6')))))
   try simp[s_]
   repeat' ((first|((first|refine Tp ?_|refine Tn ?_|refine T2 ?_ ?_)<;>intro h_ e_ n_)|refine Pg h1 ?_|refine Pg h2 ?_|refine Pg h3 ?_|refine Pg h4 ?_|refine Dg 23 7 [] [] ?_|refine Dg 27 9 [] [] ?_|rw[Ip]|rw[In]|rw[Fz]|rw[Gz]|fail)<;>first|simp[e_,n_,s_]|simp[s_]|skip)
 rw[if_neg q4]
 have key:L.1.kind≠2∨(L.1.kind=2∧¬to=L.1.ino∧Bw=false):=by
  by_cases k:L.1.kind=2
  ·exact .inr ⟨k,fun e=>q4 ⟨k,.inl e.symm⟩,by cases Bw with|false=>rfl|true=>exact absurd ⟨k,.inr rfl⟩ q4⟩
  ·exact .inl k
 by_cases q5:O.2=0∧O.1.ino=L.1.ino
 ·rw[if_pos q5]
  obtain⟨q5,q6⟩:=q5
  rcases key with k|⟨k,k2,k3⟩
  ·refine Pm Tryz.func94 fun hfit=> ?_
   simp[Tryz.f94]
   have s_:=An @q1 (An @q2 (An @q3 (An @k (An @q5 (@q6)))))
   try simp[s_]
   repeat' ((first|((first|refine Tp ?_|refine Tn ?_|refine T2 ?_ ?_)<;>intro h_ e_ n_)|refine Pg h1 ?_|refine Pg h2 ?_|refine Pg h3 ?_|refine Pg h5 ?_|refine Dg 23 7 [] [] ?_|refine Dg 27 9 [] [] ?_|rw[Ip]|rw[In]|rw[Fz]|rw[Gz]|fail)<;>first|simp[e_,n_,s_]|simp[s_]|skip)
  ·rw[k3] at h4
   refine Pm Tryz.func94 fun hfit=> ?_
   simp[Tryz.f94]
   have s_:=An @q1 (An @q2 (An @q3 (An @k (An @k2 (An @q5 (@q6))))))
   try simp[s_]
   repeat' ((first|((first|refine Tp ?_|refine Tn ?_|refine T2 ?_ ?_)<;>intro h_ e_ n_)|refine Pg h1 ?_|refine Pg h2 ?_|refine Pg h3 ?_|refine Pg h4 ?_|refine Pg h5 ?_|refine Dg 23 7 [] [] ?_|refine Dg 27 9 [] [] ?_|rw[Ip]|rw[In]|rw[Fz]|rw[Gz]|fail)<;>first|simp[e_,n_,s_]|simp[s_]|skip)
 rw[if_neg q5]
 by_cases z:O.2=0
 case neg=>
  have ec2:=ec2 z
  subst ec2
  have h10:=h10 q1 (fun g=>absurd g z)
  rw[if_neg (fun g=>z g.1)]
  by_cases q7:dir≠to∧256≤N.1.l.length
  ·rw[if_pos q7]
   obtain⟨q7,q8⟩:=q7
   rcases key with k|⟨k,k2,k3⟩
   ·refine Pm Tryz.func94 fun hfit=> ?_
    simp[Tryz.f94]
    have s_:=An @q1 (An @q2 (An @q3 (An @k (An @z (An @q7 (@q8))))))
    try simp[s_]
    repeat' ((first|((first|refine Tp ?_|refine Tn ?_|refine T2 ?_ ?_)<;>intro h_ e_ n_)|refine Pg h1 ?_|refine Pg h2 ?_|refine Pg h3 ?_|refine Pg h5 ?_|refine Pg h8 ?_|refine Dg 23 7 [] [] ?_|refine Dg 27 9 [] [] ?_|rw[Ip]|rw[In]|rw[Fz]|rw[Gz]|fail)<;>first|simp[e_,n_,s_]|simp[s_]|skip)
   ·rw[k3] at h4
    refine Pm Tryz.func94 fun hfit=> ?_
    simp[Tryz.f94]
    have s_:=An @q1 (An @q2 (An @q3 (An @k (An @k2 (An @z (An @q7 (@q8)))))))
    try simp[s_]
    repeat' ((first|((first|refine Tp ?_|refine Tn ?_|refine T2 ?_ ?_)<;>intro h_ e_ n_)|refine Pg h1 ?_|refine Pg h2 ?_|refine Pg h3 ?_|refine Pg h4 ?_|refine Pg h5 ?_|refine Pg h8 ?_|refine Dg 23 7 [] [] ?_|refine Dg 27 9 [] [] ?_|rw[Ip]|rw[In]|rw[Fz]|rw[Gz]|fail)<;>first|simp[e_,n_,s_]|simp[s_]|skip)
  rw[if_neg q7]
  by_cases q8:dir=to
  ·rcases key with k|⟨k,k2,k3⟩
   ·refine Pm Tryz.func94 fun hfit=> ?_
    simp[Tryz.f94]
    have s_:=An @q1 (An @q2 (An @q3 (An @k (An @z (@q8)))))
    try simp[s_]
    repeat' ((first|((first|refine Tp ?_|refine Tn ?_|refine T2 ?_ ?_)<;>intro h_ e_ n_)|refine Pg h1 ?_|refine Pg h2 ?_|refine Pg h3 ?_|refine Pg h5 ?_|refine Pg h8 ?_|refine Pg h9 ?_|refine Pg h10 ?_|refine Dg 23 7 [] [] ?_|refine Dg 27 9 [] [] ?_|rw[Ip]|rw[In]|rw[Fz]|rw[Gz]|fail)<;>first|simp[e_,n_,s_]|simp[s_]|skip)
   ·rw[k3] at h4
    refine Pm Tryz.func94 fun hfit=> ?_
    simp[Tryz.f94]
    have s_:=An @q1 (An @q2 (An @q3 (An @k (An @k2 (An @z (@q8))))))
    try simp[s_]
    repeat' ((first|((first|refine Tp ?_|refine Tn ?_|refine T2 ?_ ?_)<;>intro h_ e_ n_)|refine Pg h1 ?_|refine Pg h2 ?_|refine Pg h3 ?_|refine Pg h4 ?_|refine Pg h5 ?_|refine Pg h8 ?_|refine Pg h9 ?_|refine Pg h10 ?_|refine Dg 23 7 [] [] ?_|refine Dg 27 9 [] [] ?_|rw[Ip]|rw[In]|rw[Fz]|rw[Gz]|fail)<;>first|simp[e_,n_,s_]|simp[s_]|skip)
  ·have q9:¬256≤N.1.l.length:=fun g=>q7 ⟨q8,g⟩
   rcases key with k|⟨k,k2,k3⟩
   ·refine Pm Tryz.func94 fun hfit=> ?_
    simp[Tryz.f94]
    have s_:=An @q1 (An @q2 (An @q3 (An @k (An @z (An @q8 (@q9))))))
    try simp[s_]
    repeat' ((first|((first|refine Tp ?_|refine Tn ?_|refine T2 ?_ ?_)<;>intro h_ e_ n_)|refine Pg h1 ?_|refine Pg h2 ?_|refine Pg h3 ?_|refine Pg h5 ?_|refine Pg h8 ?_|refine Pg h9 ?_|refine Pg h10 ?_|refine Dg 23 7 [] [] ?_|refine Dg 27 9 [] [] ?_|rw[Ip]|rw[In]|rw[Fz]|rw[Gz]|fail)<;>first|simp[e_,n_,s_]|simp[s_]|skip)
   ·rw[k3] at h4
    refine Pm Tryz.func94 fun hfit=> ?_
    simp[Tryz.f94]
    have s_:=An @q1 (An @q2 (An @q3 (An @k (An @k2 (An @z (An @q8 (@q9)))))))
    try simp[s_]
    repeat' ((first|((first|refine Tp ?_|refine Tn ?_|refine T2 ?_ ?_)<;>intro h_ e_ n_)|refine Pg h1 ?_|refine Pg h2 ?_|refine Pg h3 ?_|refine Pg h4 ?_|refine Pg h5 ?_|refine Pg h8 ?_|refine Pg h9 ?_|refine Pg h10 ?_|refine Dg 23 7 [] [] ?_|refine Dg 27 9 [] [] ?_|rw[Ip]|rw[In]|rw[Fz]|rw[Gz]|fail)<;>first|simp[e_,n_,s_]|simp[s_]|skip)
 have ec:=ec z
 have h7:=h7 z
 subst ec
 have q6:¬O.1.ino=L.1.ino:=fun g=>q5 ⟨z,g⟩
 by_cases o:overD L.1 O.1=0
 case neg=>
  rw[if_pos ⟨z,o⟩]
  have ho:(L.1.kind=2∧O.1.kind≠2∧overD L.1 O.1=8)∨(L.1.kind≠2∧O.1.kind=2∧overD L.1 O.1=9)∨((L.1.kind=2∧O.1.kind=2∨L.1.kind≠2∧O.1.kind≠2)∧0<O.1.l.length∧overD L.1 O.1=11):=by
   unfold overD at o⊢
   by_cases a:L.1.kind=2<;>by_cases b:O.1.kind=2<;>by_cases c:0<O.1.l.length<;>simp[a,b,c] at o⊢
  rcases ho with⟨a,b,e⟩|⟨a,b,e⟩|⟨a,b,e⟩
  ·rw[e]
   rcases key with k|⟨k,k2,k3⟩
   ·exact absurd a k
   rw[k3] at h4
   refine Pm Tryz.func94 fun hfit=> ?_
   simp[Tryz.f94]
   have s_:=An @q1 (An @q2 (An @q3 (An @k (An @k2 (An @z (An @q6 (@b)))))))
   try simp[s_]
   repeat' ((first|((first|refine Tp ?_|refine Tn ?_|refine T2 ?_ ?_)<;>intro h_ e_ n_)|refine Pg h1 ?_|refine Pg h2 ?_|refine Pg h3 ?_|refine Pg h4 ?_|refine Pg h5 ?_|refine Dg 23 7 [] [] ?_|refine Dg 27 9 [] [] ?_|rw[Ip]|rw[In]|rw[Fz]|rw[Gz]|fail)<;>first|simp[e_,n_,s_]|simp[s_]|skip)
  ·rw[e]
   refine Pm Tryz.func94 fun hfit=> ?_
   simp[Tryz.f94]
   have s_:=An @q1 (An @q2 (An @q3 (An @z (An @q6 (An @a (@b))))))
   try simp[s_]
   repeat' ((first|((first|refine Tp ?_|refine Tn ?_|refine T2 ?_ ?_)<;>intro h_ e_ n_)|refine Pg h1 ?_|refine Pg h2 ?_|refine Pg h3 ?_|refine Pg h5 ?_|refine Dg 23 7 [] [] ?_|refine Dg 27 9 [] [] ?_|rw[Ip]|rw[In]|rw[Fz]|rw[Gz]|fail)<;>first|simp[e_,n_,s_]|simp[s_]|skip)
  ·rw[e]
   rcases a with⟨a,a2⟩|⟨a,a2⟩
   ·rcases key with k|⟨k,k2,k3⟩
    ·exact absurd a k
    rw[k3] at h4
    refine Pm Tryz.func94 fun hfit=> ?_
    simp[Tryz.f94]
    have s_:=An @q1 (An @q2 (An @q3 (An @k (An @k2 (An @z (An @q6 (An @a2 (@b))))))))
    try simp[s_]
    repeat' ((first|((first|refine Tp ?_|refine Tn ?_|refine T2 ?_ ?_)<;>intro h_ e_ n_)|refine Pg h1 ?_|refine Pg h2 ?_|refine Pg h3 ?_|refine Pg h4 ?_|refine Pg h5 ?_|refine Dg 23 7 [] [] ?_|refine Dg 27 9 [] [] ?_|rw[Ip]|rw[In]|rw[Fz]|rw[Gz]|fail)<;>first|simp[e_,n_,s_]|simp[s_]|skip)
   ·refine Pm Tryz.func94 fun hfit=> ?_
    simp[Tryz.f94]
    have s_:=An @q1 (An @q2 (An @q3 (An @z (An @q6 (An @a (An @a2 (@b)))))))
    try simp[s_]
    repeat' ((first|((first|refine Tp ?_|refine Tn ?_|refine T2 ?_ ?_)<;>intro h_ e_ n_)|refine Pg h1 ?_|refine Pg h2 ?_|refine Pg h3 ?_|refine Pg h5 ?_|refine Dg 23 7 [] [] ?_|refine Dg 27 9 [] [] ?_|rw[Ip]|rw[In]|rw[Fz]|rw[Gz]|fail)<;>first|simp[e_,n_,s_]|simp[s_]|skip)
 have h10:=h10 q1 (fun _=>o)
 rw[if_neg (fun g=>g.2 o)]
 obtain⟨o1,o2,o3⟩:=ZgK o
 have ol:O.1.l.length=0:=by rw[o3];rfl
 have kk:(L.1.kind=2∧O.1.kind=2∧¬to=L.1.ino∧Bw=false)∨(L.1.kind≠2∧O.1.kind≠2):=by
  rcases key with k|⟨k,k2,k3⟩
  ·exact .inr ⟨k,o2 k⟩
  ·exact .inl ⟨k,o1 k,k2,k3⟩
 by_cases q7:dir≠to∧256≤N.1.l.length
 ·rw[if_pos q7]
  obtain⟨q7,q8⟩:=q7
  rcases kk with⟨a,a2,k2,k3⟩|⟨a,a2⟩
  ·rw[k3] at h4
   refine Pm Tryz.func94 fun hfit=> ?_
   simp[Tryz.f94]
   have s_:=An @q1 (An @q2 (An @q3 (An @a (An @a2 (An @k2 (An @z (An @q6 (An @ol (An @setF_enc (An @q7 (@q8)))))))))))
   try simp[s_]
   repeat' ((first|((first|refine Tp ?_|refine Tn ?_|refine T2 ?_ ?_)<;>intro h_ e_ n_)|refine Pg h1 ?_|refine Pg h2 ?_|refine Pg h3 ?_|refine Pg h4 ?_|refine Pg h5 ?_|refine Pg h6 ?_|refine Pg h7 ?_|refine Pg h8 ?_|refine Dg 23 7 [] [] ?_|refine Dg 27 9 [] [] ?_|rw[Ip]|rw[In]|rw[Fz]|rw[Gz]|fail)<;>first|simp[e_,n_,s_]|simp[s_]|skip)
  ·refine Pm Tryz.func94 fun hfit=> ?_
   simp[Tryz.f94]
   have s_:=An @q1 (An @q2 (An @q3 (An @a (An @a2 (An @z (An @q6 (An @ol (An @setF_enc (An @q7 (@q8))))))))))
   try simp[s_]
   repeat' ((first|((first|refine Tp ?_|refine Tn ?_|refine T2 ?_ ?_)<;>intro h_ e_ n_)|refine Pg h1 ?_|refine Pg h2 ?_|refine Pg h3 ?_|refine Pg h5 ?_|refine Pg h6 ?_|refine Pg h7 ?_|refine Pg h8 ?_|refine Dg 23 7 [] [] ?_|refine Dg 27 9 [] [] ?_|rw[Ip]|rw[In]|rw[Fz]|rw[Gz]|fail)<;>first|simp[e_,n_,s_]|simp[s_]|skip)
 rw[if_neg q7]
 by_cases q8:dir=to
 ·rcases kk with⟨a,a2,k2,k3⟩|⟨a,a2⟩
  ·rw[k3] at h4
   refine Pm Tryz.func94 fun hfit=> ?_
   simp[Tryz.f94]
   have s_:=An @q1 (An @q2 (An @q3 (An @a (An @a2 (An @k2 (An @z (An @q6 (An @ol (An @setF_enc (@q8))))))))))
   try simp[s_]
   repeat' ((first|((first|refine Tp ?_|refine Tn ?_|refine T2 ?_ ?_)<;>intro h_ e_ n_)|refine Pg h1 ?_|refine Pg h2 ?_|refine Pg h3 ?_|refine Pg h4 ?_|refine Pg h5 ?_|refine Pg h6 ?_|refine Pg h7 ?_|refine Pg h8 ?_|refine Pg h9 ?_|refine Pg h10 ?_|refine Dg 23 7 [] [] ?_|refine Dg 27 9 [] [] ?_|rw[Ip]|rw[In]|rw[Fz]|rw[Gz]|fail)<;>first|simp[e_,n_,s_]|simp[s_]|skip)
  ·refine Pm Tryz.func94 fun hfit=> ?_
   simp[Tryz.f94]
   have s_:=An @q1 (An @q2 (An @q3 (An @a (An @a2 (An @z (An @q6 (An @ol (An @setF_enc (@q8)))))))))
   try simp[s_]
   repeat' ((first|((first|refine Tp ?_|refine Tn ?_|refine T2 ?_ ?_)<;>intro h_ e_ n_)|refine Pg h1 ?_|refine Pg h2 ?_|refine Pg h3 ?_|refine Pg h5 ?_|refine Pg h6 ?_|refine Pg h7 ?_|refine Pg h8 ?_|refine Pg h9 ?_|refine Pg h10 ?_|refine Dg 23 7 [] [] ?_|refine Dg 27 9 [] [] ?_|rw[Ip]|rw[In]|rw[Fz]|rw[Gz]|fail)<;>first|simp[e_,n_,s_]|simp[s_]|skip)
 ·have q9:¬256≤N.1.l.length:=fun g=>q7 ⟨q8,g⟩
  rcases kk with⟨a,a2,k2,k3⟩|⟨a,a2⟩
  ·rw[k3] at h4
   refine Pm Tryz.func94 fun hfit=> ?_
   simp[Tryz.f94]
   have s_:=An @q1 (An @q2 (An @q3 (An @a (An @a2 (An @k2 (An @z (An @q6 (An @ol (An @setF_enc (An @q8 (@q9)))))))))))
   try simp[s_]
   repeat' ((first|((first|refine Tp ?_|refine Tn ?_|refine T2 ?_ ?_)<;>intro h_ e_ n_)|refine Pg h1 ?_|refine Pg h2 ?_|refine Pg h3 ?_|refine Pg h4 ?_|refine Pg h5 ?_|refine Pg h6 ?_|refine Pg h7 ?_|refine Pg h8 ?_|refine Pg h9 ?_|refine Pg h10 ?_|refine Dg 23 7 [] [] ?_|refine Dg 27 9 [] [] ?_|rw[Ip]|rw[In]|rw[Fz]|rw[Gz]|fail)<;>first|simp[e_,n_,s_]|simp[s_]|skip)
  ·refine Pm Tryz.func94 fun hfit=> ?_
   simp[Tryz.f94]
   have s_:=An @q1 (An @q2 (An @q3 (An @a (An @a2 (An @z (An @q6 (An @ol (An @setF_enc (An @q8 (@q9))))))))))
   try simp[s_]
   repeat' ((first|((first|refine Tp ?_|refine Tn ?_|refine T2 ?_ ?_)<;>intro h_ e_ n_)|refine Pg h1 ?_|refine Pg h2 ?_|refine Pg h3 ?_|refine Pg h5 ?_|refine Pg h6 ?_|refine Pg h7 ?_|refine Pg h8 ?_|refine Pg h9 ?_|refine Pg h10 ?_|refine Dg 23 7 [] [] ?_|refine Dg 27 9 [] [] ?_|rw[Ip]|rw[In]|rw[Fz]|rw[Gz]|fail)<;>first|simp[e_,n_,s_]|simp[s_]|skip)
theorem ZQ (e:Int):Ze Tryz.prog 88 [I e] (encR (errR e)):=by
 refine Pm Tryz.func88 fun hfit=> ?_
 simp[Tryz.f88]
 have s_:=An @errR.eq_1 (@ReplyR.enc.eq_1)
 try simp[s_]
 repeat' ((first|((first|refine Tp ?_|refine Tn ?_|refine T2 ?_ ?_)<;>intro h_ e_ n_)|rw[Ip]|rw[In]|rw[Fz]|rw[Gz]|fail)<;>first|simp[e_,n_,s_]|simp[s_]|skip)
theorem Zdr (l:List Int) (n:Int) (hr:ZL l=true) (hl:l.length≤1000000):Ze Tryz.prog 81 [enc1 I l,I n] (enc1 I (withI l n)):=by
 rw[←Zpg hr n]
 obtain⟨F,hF⟩:∃F,F=Zix l n:=⟨_,rfl⟩
 rw[←hF]
 refine Pm Tryz.func81 fun hfit=> ?_
 simp[Tryz.f81]
 refine AW.loopG (lit:=fun _=>false) (fun x:Nat×List Int=>⟨52,pat [(0,enc1 I l),(1,I n),(5,.own 0 x.2.length 0 x.2.length 1),(6,I x.1)],[.cells x.2.length (x.2.map I)]⟩) (fun x=>l.length -x.1) (fun x=>x.1≤l.length∧x.2.length=x.1∧x.2++Zix (l.drop x.1) n=F) (0,[]) ?_ ?_ ?_
 ·exact Wk.trans (Wk.ownNil 5 1 (by simp)) Wa
 ·exact⟨by simp,rfl,by simpa using hF.symm⟩
 rintro⟨i,acc⟩ ⟨g1,g2,g3⟩ A hA
 simp only at g1 g2 g3 hA
 have key:¬(∃h:i<l.length,l[i]<n)→Zix (l.drop i) n=n::(l.drop i).filter fun x=> !decide (x=n):=fun g=>by
  by_cases hi:i<l.length
  ·rw[List.drop_eq_getElem_cons hi,Zix,if_neg (fun q=>g ⟨hi,q⟩)]
  ·rw[List.drop_eq_nil_of_le (by omega)];rfl
 have hm:acc.length+1≤maxLen:=by simp only[maxLen];omega
 have hm':acc.length+1≤17592186044416:=by omega
 by_cases hc:∃h:i<l.length,l[i]<n
 ·obtain⟨hi,q⟩:=hc
  have hwi:=Zf hi (by simp only[maxLen];omega)
  have hal:(acc++[l[i]]).length=acc.length+1:=by simp
  rw[List.drop_eq_getElem_cons hi,Zix,if_pos q] at g3
  have s_:=An @hi (An @q (An @hwi (An @hm (@hm'))))
  try simp[s_]
  repeat' ((first|((first|refine Tp ?_|refine Tn ?_|refine T2 ?_ ?_)<;>intro h_ e_ n_)|(exact hA (i+1,acc++[l[i]]) _ Wc ⟨hi,by simp only[hal];omega,by simpa using g3⟩ (by simp only;omega))|rw[Ip]|rw[In]|rw[Fz]|rw[Gz]|fail)<;>first|simp[e_,n_,s_]|simp[s_]|skip)
 have g4:=key hc
 rw[g4] at g3
 have hq:∀h:i<l.length,¬l[i]<n:=fun h q=>hc ⟨h,q⟩
 by_cases hi:i<l.length
 case' pos=>have q:=hq hi
 case' neg=>have q:=hi
 all_goals
  have s_:=An @hi (An @q (An @hm (@hm')))
  try simp[s_]
  repeat' ((first|((first|refine Tp ?_|refine Tn ?_|refine T2 ?_ ?_)<;>intro h_ e_ n_)|rw[Ip]|rw[In]|rw[Fz]|rw[Gz]|fail)<;>first|simp[e_,n_,s_]|simp[s_]|skip)
  refine AW.loopG (lit:=fun _=>false) (fun x:Nat×List Int=>⟨52,pat [(0,enc1 I l),(1,I n),(5,.own 0 x.2.length 0 x.2.length 1),(6,I x.1)],[.cells x.2.length (x.2.map I)]⟩) (fun x=>l.length -x.1) (fun x=>x.1≤l.length∧x.2.length≤x.1+1∧x.2++((l.drop x.1).filter fun x=> !decide (x=n))=F) (i,acc++[n]) ?_ ?_ ?_
  ·exact Wc
  ·exact⟨g1,by simp[g2],by simpa using g3⟩
  rintro⟨j,out⟩ ⟨k1,k2,k3⟩ B hB
  simp only at k1 k2 k3 hB
  by_cases hj:j<l.length
  case neg=>
   rw[List.drop_eq_nil_of_le (by omega),List.filter_nil,List.append_nil] at k3
   rw[←k3]
   have s_:=hj
   try simp[s_]
   repeat' ((first|((first|refine Tp ?_|refine Tn ?_|refine T2 ?_ ?_)<;>intro h_ e_ n_)|rw[Ip]|rw[In]|rw[Fz]|rw[Gz]|fail)<;>first|simp[e_,n_,s_]|simp[s_]|skip)
  have hwj:=Zf hj (by simp only[maxLen];omega)
  have hm2:out.length+1≤maxLen:=by simp only[maxLen];omega
  have hm3:out.length+1≤17592186044416:=by omega
  have hal:(out++[l[j]]).length=out.length+1:=by simp
  rw[List.drop_eq_getElem_cons hj] at k3
  by_cases q2:l[j]=n
  ·rw[List.filter_cons_of_neg (by simpa using q2)] at k3
   have s_:=An @hj (An @q2 (@hwj))
   try simp[s_]
   repeat' ((first|((first|refine Tp ?_|refine Tn ?_|refine T2 ?_ ?_)<;>intro h_ e_ n_)|(exact hB (j+1,out) _ Wc ⟨hj,by simp only;omega,k3⟩ (by simp only;omega))|rw[Ip]|rw[In]|rw[Fz]|rw[Gz]|fail)<;>first|simp[e_,n_,s_]|simp[s_]|skip)
  ·rw[List.filter_cons_of_pos (by simpa using q2)] at k3
   have s_:=An @hj (An @q2 (An @hwj (An @hm2 (@hm3))))
   try simp[s_]
   repeat' ((first|((first|refine Tp ?_|refine Tn ?_|refine T2 ?_ ?_)<;>intro h_ e_ n_)|(exact hB (j+1,out++[l[j]]) _ Wc ⟨hj,by simp only[hal];omega,by simpa using k3⟩ (by simp only;omega))|rw[Ip]|rw[In]|rw[Fz]|rw[Gz]|fail)<;>first|simp[e_,n_,s_]|simp[s_]|skip)
theorem Zfr (l:List Int) (f:FSR) (d:Int) (s:ByteArray) (h:Zi f) (hr:ZL l=true) (hl:l.length≤1000000):Ze Tryz.prog 82 [enc1 I l,encF f,I d,S s] (enc1 I (namedD l f d s)):=by
 have h1:=Zdx f d h
 have h2:=Zcc (findB f.l d).1.l s
 have h3:=Zdr l (findE (findB f.l d).1.l s).1 hr hl
 unfold namedD
 generalize findB f.l d=N at*
 generalize findE N.1.l s=E at*
 cases q:E.2 with
 |true=>
  rw[if_pos rfl]
  refine Pm Tryz.func82 fun hfit=> ?_
  simp[Tryz.f82]
  have s_:=q
  try simp[s_]
  repeat' ((first|((first|refine Tp ?_|refine Tn ?_|refine T2 ?_ ?_)<;>intro h_ e_ n_)|refine Pg h1 ?_|refine Pg h2 ?_|refine Pg h3 ?_|rw[Ip]|rw[In]|rw[Fz]|rw[Gz]|fail)<;>first|simp[e_,n_,s_]|simp[s_]|skip)
 |false=>
  rw[if_neg (by simp)]
  refine Pm Tryz.func82 fun hfit=> ?_
  simp[Tryz.f82]
  have s_:=q
  try simp[s_]
  repeat' ((first|((first|refine Tp ?_|refine Tn ?_|refine T2 ?_ ?_)<;>intro h_ e_ n_)|refine Pg h1 ?_|refine Pg h2 ?_|refine Pg h3 ?_|rw[Ip]|rw[In]|rw[Fz]|rw[Gz]|fail)<;>first|simp[e_,n_,s_]|simp[s_]|skip)
theorem Zvc (f:FSR) (c:CallR) (h:Zi f):Ze Tryz.prog 28 [encF f,encC c] (enc1 I (looksS f c)):=by
 unfold looksS
 by_cases q:c.kind=15
 ·rw[if_pos q]
  refine Pm Tryz.func28 fun hfit=> ?_
  simp[Tryz.f28]
  have s_:=An @q (@CallR.enc.eq_1)
  try simp[s_]
  repeat' ((first|((first|refine Tp ?_|refine Tn ?_|refine T2 ?_ ?_)<;>intro h_ e_ n_)|refine Dg 3 7 [] [] ?_|refine Dg 4 26 [] [] ?_|rw[Ip]|rw[In]|rw[Fz]|rw[Gz]|fail)<;>first|simp[e_,n_,s_]|simp[s_]|skip)
 rw[if_neg q]
 have w1:=Zdr [] c.ino rfl (by simp)
 obtain⟨a1,_⟩:=Zaq (l:=[]) rfl c.ino
 have l1:=Zbu [] c.ino
 have w2:=Zdr (withI [] c.ino) c.to_ a1 (by simp at l1;omega)
 obtain⟨a2,_⟩:=Zaq a1 c.to_
 have l2:=Zbu (withI [] c.ino) c.to_
 generalize withI [] c.ino=L1 at*
 generalize withI L1 c.to_=L2 at*
 simp only[List.length_nil] at l1
 have w3:=Zfr L2 f c.ino c.name h a2 (by omega)
 obtain⟨a3,_⟩:=ZbE a2 f c.ino c.name
 have l3:=Zco L2 f c.ino c.name
 generalize namedD L2 f c.ino c.name=L3 at*
 have w4:=Zfr L3 f c.ino c.name2 h a3 (by omega)
 obtain⟨a4,_⟩:=ZbE a3 f c.ino c.name2
 have l4:=Zco L3 f c.ino c.name2
 generalize namedD L3 f c.ino c.name2=L4 at*
 have w5:=Zfr L4 f c.to_ c.name h a4 (by omega)
 obtain⟨a5,_⟩:=ZbE a4 f c.to_ c.name
 have l5:=Zco L4 f c.to_ c.name
 generalize namedD L4 f c.to_ c.name=L5 at*
 have w6:=Zfr L5 f c.to_ c.name2 h a5 (by omega)
 generalize namedD L5 f c.to_ c.name2=L6 at*
 refine Pm Tryz.func28 fun hfit=> ?_
 simp[Tryz.f28]
 have s_:=An @q (@CallR.enc.eq_1)
 try simp[s_]
 repeat' ((first|((first|refine Tp ?_|refine Tn ?_|refine T2 ?_ ?_)<;>intro h_ e_ n_)|refine Sg w1 ?_|refine Pg w2 ?_|refine Pg w3 ?_|refine Pg w4 ?_|refine Pg w5 ?_|refine Pg w6 ?_|refine Dg 3 7 [] [] ?_|refine Dg 4 26 [] [] ?_|rw[Ip]|rw[In]|rw[Fz]|rw[Gz]|fail)<;>first|simp[e_,n_,s_]|simp[s_]|skip)
theorem Zkw (f:FSR) (c:CallR) (h:Zi f) (hb:f.next<4611686018427387904) (hk:c.kind=6∨c.kind=7∨c.kind=8):Ze Tryz.prog 91 [encF f,encC c] (rTup (doS f c)):=by
 have e5:=ZQ 5
 have hA:=fun n=>radd_ok f c.ino c.name n h hb
 have hE:=ZQ
 rcases hk with k|k|k
 ·rw[doS_6 k]
  have h1:=hA ⟨0,1,0,.empty,[]⟩
  unfold addO
  rw[if_neg (by decide)]
  have h2:=hE (addD f c.ino c.name ⟨0,1,0,.empty,[]⟩).2
  generalize addD f c.ino c.name ⟨0,1,0,.empty,[]⟩=A at*
  by_cases q:A.2=0
  ·rw[if_neg (by simpa using q)]
   refine Pm Tryz.func91 fun hfit=> ?_
   simp[Tryz.f91]
   have s_:=An @k (An @q (An @CallR.enc.eq_1 (An @NodeR.enc.eq_1 (An @FSR.enc.eq_1 (@ReplyR.enc.eq_1)))))
   try simp[s_]
   repeat' ((first|((first|refine Tp ?_|refine Tn ?_|refine T2 ?_ ?_)<;>intro h_ e_ n_)|refine Sg h1 ?_|refine Dg 12 5 [2] [] ?_|refine Dg 8 2 [] [] ?_|refine Dg 11 3 [] [] ?_|rw[Ip]|rw[In]|rw[Fz]|rw[Gz]|fail)<;>first|simp[e_,n_,s_]|simp[s_]|skip)
  ·rw[if_pos q]
   refine Pm Tryz.func91 fun hfit=> ?_
   simp[Tryz.f91]
   have s_:=An @k (An @q (An @CallR.enc.eq_1 (An @NodeR.enc.eq_1 (@FSR.enc.eq_1))))
   try simp[s_]
   repeat' ((first|((first|refine Tp ?_|refine Tn ?_|refine T2 ?_ ?_)<;>intro h_ e_ n_)|refine Sg h1 ?_|refine Pg h2 ?_|refine Dg 8 2 [] [] ?_|refine Dg 11 3 [] [] ?_|refine Dg 12 6 [] [] ?_|rw[Ip]|rw[In]|rw[Fz]|rw[Gz]|fail)<;>first|simp[e_,n_,s_]|simp[s_]|skip)
 ·rw[doS_7 k]
  have h1:=hA ⟨0,2,0,.empty,[]⟩
  unfold addO
  rw[if_neg (by decide)]
  have h2:=hE (addD f c.ino c.name ⟨0,2,0,.empty,[]⟩).2
  generalize addD f c.ino c.name ⟨0,2,0,.empty,[]⟩=A at*
  by_cases q:A.2=0
  ·rw[if_neg (by simpa using q)]
   refine Pm Tryz.func91 fun hfit=> ?_
   simp[Tryz.f91]
   have s_:=An @k (An @q (An @CallR.enc.eq_1 (An @NodeR.enc.eq_1 (An @FSR.enc.eq_1 (@ReplyR.enc.eq_1)))))
   try simp[s_]
   repeat' ((first|((first|refine Tp ?_|refine Tn ?_|refine T2 ?_ ?_)<;>intro h_ e_ n_)|refine Sg h1 ?_|refine Dg 12 5 [2] [] ?_|refine Dg 8 2 [] [] ?_|refine Dg 11 3 [] [] ?_|rw[Ip]|rw[In]|rw[Fz]|rw[Gz]|fail)<;>first|simp[e_,n_,s_]|simp[s_]|skip)
  ·rw[if_pos q]
   refine Pm Tryz.func91 fun hfit=> ?_
   simp[Tryz.f91]
   have s_:=An @k (An @q (An @CallR.enc.eq_1 (An @NodeR.enc.eq_1 (@FSR.enc.eq_1))))
   try simp[s_]
   repeat' ((first|((first|refine Tp ?_|refine Tn ?_|refine T2 ?_ ?_)<;>intro h_ e_ n_)|refine Sg h1 ?_|refine Pg h2 ?_|refine Dg 8 2 [] [] ?_|refine Dg 11 3 [] [] ?_|refine Dg 12 6 [] [] ?_|rw[Ip]|rw[In]|rw[Fz]|rw[Gz]|fail)<;>first|simp[e_,n_,s_]|simp[s_]|skip)
 ·rw[doS_8 k]
  have h1:=hA ⟨0,3,0,c.text,[]⟩
  unfold addO
  by_cases q0:4096<c.text.size
  ·rw[if_pos q0]
   refine Pm Tryz.func91 fun hfit=> ?_
   simp[Tryz.f91]
   have s_:=An @k (An @q0 (An @CallR.enc.eq_1 (An @NodeR.enc.eq_1 (@FSR.enc.eq_1))))
   try simp[s_]
   repeat' ((first|((first|refine Tp ?_|refine Tn ?_|refine T2 ?_ ?_)<;>intro h_ e_ n_)|refine Pg e5 ?_|refine Dg 8 2 [] [] ?_|refine Dg 11 3 [] [] ?_|refine Dg 12 6 [] [] ?_|rw[Ip]|rw[In]|rw[Fz]|rw[Gz]|fail)<;>first|simp[e_,n_,s_]|simp[s_]|skip)
  rw[if_neg q0]
  have h2:=hE (addD f c.ino c.name ⟨0,3,0,c.text,[]⟩).2
  generalize addD f c.ino c.name ⟨0,3,0,c.text,[]⟩=A at*
  by_cases q:A.2=0
  ·rw[if_neg (by simpa using q)]
   refine Pm Tryz.func91 fun hfit=> ?_
   simp[Tryz.f91]
   have s_:=An @k (An @q0 (An @q (An @CallR.enc.eq_1 (An @NodeR.enc.eq_1 (An @FSR.enc.eq_1 (@ReplyR.enc.eq_1))))))
   try simp[s_]
   repeat' ((first|((first|refine Tp ?_|refine Tn ?_|refine T2 ?_ ?_)<;>intro h_ e_ n_)|refine Sg h1 ?_|refine Dg 12 5 [2] [] ?_|refine Dg 8 2 [] [] ?_|refine Dg 11 3 [] [] ?_|rw[Ip]|rw[In]|rw[Fz]|rw[Gz]|fail)<;>first|simp[e_,n_,s_]|simp[s_]|skip)
  ·rw[if_pos q]
   refine Pm Tryz.func91 fun hfit=> ?_
   simp[Tryz.f91]
   have s_:=An @k (An @q0 (An @q (An @CallR.enc.eq_1 (An @NodeR.enc.eq_1 (@FSR.enc.eq_1)))))
   try simp[s_]
   repeat' ((first|((first|refine Tp ?_|refine Tn ?_|refine T2 ?_ ?_)<;>intro h_ e_ n_)|refine Sg h1 ?_|refine Pg h2 ?_|refine Dg 8 2 [] [] ?_|refine Dg 11 3 [] [] ?_|refine Dg 12 6 [] [] ?_|rw[Ip]|rw[In]|rw[Fz]|rw[Gz]|fail)<;>first|simp[e_,n_,s_]|simp[s_]|skip)
theorem Zml (f:FSR) (c:CallR) (h:Zi f) (hb:f.next<4611686018427387904) (hk:c.kind=9∨c.kind=10):Ze Tryz.prog 92 [encF f,encC c] (rTup (doS f c)):=by
 have h1:=Zfq f c.ino c.name h
 have h2:=Zxg f c.ino c.name h (by omega)
 have e8:=ZQ 8
 have e9:=ZQ 9
 have h3:=ZQ (lookD f c.ino c.name).2
 have h4:=ZQ (takeD f c.ino c.name).2
 have e:doS f c=removeO f c (decide (c.kind=10)):=by
  rcases hk with k|k
  ·rw[Zua k,k];rfl
  ·rw[ZlU k,k];rfl
 rw[e]
 unfold removeO
 generalize lookD f c.ino c.name=L at*
 generalize takeD f c.ino c.name=A at*
 by_cases q1:L.2=0
 case neg=>
  rw[if_pos q1]
  refine Pm Tryz.func92 fun hfit=> ?_
  simp[Tryz.f92]
  have s_:=An @q1 (@CallR.enc.eq_1)
  try simp[s_]
  repeat' ((first|((first|refine Tp ?_|refine Tn ?_|refine T2 ?_ ?_)<;>intro h_ e_ n_)|refine Pg h1 ?_|refine Pg h3 ?_|refine Dg 3 3 [] [] ?_|refine Dg 5 2 [] [] ?_|refine Dg 7 2 [] [] ?_|refine Dg 9 3 [] [] ?_|rw[Ip]|rw[In]|rw[Fz]|rw[Gz]|fail)<;>first|simp[e_,n_,s_]|simp[s_]|skip)
 rw[if_neg (by simpa using q1)]
 rcases hk with k|k<;>by_cases q2:L.1.kind=2
 all_goals
  simp only[k,q2]
  simp
  refine Pm Tryz.func92 fun hfit=> ?_
  simp[Tryz.f92]
  have s_:=An @q1 (An @q2 (An @k (@CallR.enc.eq_1)))
  try simp[s_]
  repeat' ((first|((first|refine Tp ?_|refine Tn ?_|refine T2 ?_ ?_)<;>intro h_ e_ n_)|refine Pg h1 ?_|refine Pg h2 ?_|refine Pg e8 ?_|refine Pg e9 ?_|refine Pg h4 ?_|refine Dg 3 3 [] [] ?_|refine Dg 5 2 [] [] ?_|refine Dg 7 2 [] [] ?_|refine Dg 9 3 [] [] ?_|rw[Ip]|rw[In]|rw[Fz]|rw[Gz]|fail)<;>first|simp[e_,n_,s_]|simp[s_]|skip)
theorem Zpy {f:FSR} {ino:Int} (h:(findB f.l ino).2=false) (k:Int):ofD f ino k=((findB f.l ino).1,6):=by unfold ofD;rw[if_pos h]
theorem Zpz {f:FSR} {ino k:Int} (h:(findB f.l ino).2=true) (hk:k≠0∧(findB f.l ino).1.kind≠k):ofD f ino k=((findB f.l ino).1,14):=by
 unfold ofD;rw[if_neg (by rw[h];simp),if_pos hk]
theorem Zvd {f:FSR} {ino k:Int} (h:(findB f.l ino).2=true) (hk:k=0∨(findB f.l ino).1.kind=k):ofD f ino k=((findB f.l ino).1,0):=by
 unfold ofD;rw[if_neg (by rw[h];simp),if_neg (fun g=>hk.elim g.1 g.2)]
theorem Zfs (f:FSR) (c:CallR) (h:Zi f) (hb:f.next<4611686018427387904) (hc:c.wf) (hk:c.kind=3∨c.kind=4∨c.kind=5∨c.kind=13):Ze Tryz.prog 90 [encF f,encC c] (rTup (doS f c)):=by
 have h1:=Zdx f c.ino h
 have e6:=ZQ 6
 have e14:=ZQ 14
 cases q1:(findB f.l c.ino).2 with
 |false=>
  have e:doS f c=(f,errR 6):=by
   have e3:=Zpy q1
   rcases hk with k|k|k|k
   ·rw[ZlT k,e3];rfl
   ·rw[Znx k];unfold textD;rw[e3];rfl
   ·rw[Zny k];unfold textD;rw[e3];rfl
   ·rw[ZhP k,e3];rfl
  rw[e]
  generalize findB f.l c.ino=N at*
  refine Pm Tryz.func90 fun hfit=> ?_
  simp[Tryz.f90]
  have s_:=An @q1 (@CallR.enc.eq_1)
  try simp[s_]
  repeat' ((first|((first|refine Tp ?_|refine Tn ?_|refine T2 ?_ ?_)<;>intro h_ e_ n_)|refine Pg h1 ?_|refine Pg e6 ?_|refine Dg 3 2 [] [] ?_|refine Dg 6 2 [] [] ?_|refine Dg 7 6 [] [] ?_|refine Dg 9 2 [] [] ?_|refine Dg 19 3 [] [] ?_|refine Dg 21 6 [] [] ?_|rw[Ip]|rw[In]|rw[Fz]|rw[Gz]|fail)<;>first|simp[e_,n_,s_]|simp[s_]|skip)
 |true=>
 by_cases k13:c.kind=13
 ·rw[ZhP k13]
  by_cases q2:(findB f.l c.ino).1.kind=3
  ·rw[Zvd q1 (.inr q2)]
   have e:toldR ⟨0,0,0,0,(findB f.l c.ino).1.text,[]⟩ 0=⟨0,0,0,0,(findB f.l c.ino).1.text,[]⟩:=rfl
   simp only[e]
   generalize findB f.l c.ino=N at*
   refine Pm Tryz.func90 fun hfit=> ?_
   simp[Tryz.f90]
   have s_:=An @q1 (An @k13 (An @q2 (An @CallR.enc.eq_1 (@ReplyR.enc.eq_1))))
   try simp[s_]
   repeat' ((first|((first|refine Tp ?_|refine Tn ?_|refine T2 ?_ ?_)<;>intro h_ e_ n_)|refine Pg h1 ?_|refine Pg e14 ?_|refine Dg 7 5 [2] [] ?_|refine Dg 3 2 [] [] ?_|refine Dg 6 2 [] [] ?_|refine Dg 9 2 [] [] ?_|refine Dg 19 3 [] [] ?_|refine Dg 21 6 [] [] ?_|rw[Ip]|rw[In]|rw[Fz]|rw[Gz]|fail)<;>first|simp[e_,n_,s_]|simp[s_]|skip)
  ·rw[Zpz q1 ⟨by decide,q2⟩]
   have e:toldR ⟨0,0,0,0,(findB f.l c.ino).1.text,[]⟩ 14=errR 14:=rfl
   simp only[e]
   generalize findB f.l c.ino=N at*
   refine Pm Tryz.func90 fun hfit=> ?_
   simp[Tryz.f90]
   have s_:=An @q1 (An @k13 (An @q2 (@CallR.enc.eq_1)))
   try simp[s_]
   repeat' ((first|((first|refine Tp ?_|refine Tn ?_|refine T2 ?_ ?_)<;>intro h_ e_ n_)|refine Pg h1 ?_|refine Pg e14 ?_|refine Dg 3 2 [] [] ?_|refine Dg 6 2 [] [] ?_|refine Dg 7 6 [] [] ?_|refine Dg 9 2 [] [] ?_|refine Dg 19 3 [] [] ?_|refine Dg 21 6 [] [] ?_|rw[Ip]|rw[In]|rw[Fz]|rw[Gz]|fail)<;>first|simp[e_,n_,s_]|simp[s_]|skip)
 have hk':c.kind=3∨c.kind=4∨c.kind=5:=by omega
 by_cases q2:(findB f.l c.ino).1.kind=1
 case neg=>
  have e:doS f c=(f,errR 14):=by
   have e3:=Zpz (k:=1) q1 ⟨by decide,q2⟩
   rcases hk' with k|k|k
   ·rw[ZlT k,e3];rfl
   ·rw[Znx k];unfold textD;rw[e3];rfl
   ·rw[Zny k];unfold textD;rw[e3];rfl
  rw[e]
  generalize findB f.l c.ino=N at*
  refine Pm Tryz.func90 fun hfit=> ?_
  simp[Tryz.f90]
  have s_:=An @q1 (An @q2 (An @k13 (@CallR.enc.eq_1)))
  try simp[s_]
  repeat' ((first|((first|refine Tp ?_|refine Tn ?_|refine T2 ?_ ?_)<;>intro h_ e_ n_)|refine Pg h1 ?_|refine Pg e14 ?_|refine Dg 3 2 [] [] ?_|refine Dg 6 2 [] [] ?_|refine Dg 7 6 [] [] ?_|refine Dg 9 2 [] [] ?_|refine Dg 19 3 [] [] ?_|refine Dg 21 6 [] [] ?_|rw[Ip]|rw[In]|rw[Fz]|rw[Gz]|fail)<;>first|simp[e_,n_,s_]|simp[s_]|skip)
 have e3:=Zvd q1 (.inr q2)
 have htx:=h.text c.ino
 have hnn:=h.num c.ino
 have hP:=fun t:List UInt8=>ZrO f {(findB f.l c.ino).1 with text:=T t} h ⟨by simp only;omega,by simp only;omega⟩ (by simp only;omega)
 have hcu:=rcut_ok (bs (findB f.l c.ino).1.text) c.many hc.2.2.2.2.1 (by rw[Zgr];omega)
 rw[T_bs] at hcu
 rcases hk' with k|k|k
 ·rw[ZlT k,e3]
  have h2:=ZwS (bs (findB f.l c.ino).1.text) c.at_ c.many hc.2.2.2.1 hc.2.2.2.2.1 (by rw[Zgr];omega)
  rw[T_bs] at h2
  rw[if_neg (by simp),Zuf]
  clear hP hcu
  generalize findB f.l c.ino=N at*
  generalize readT (bs N.1.text) c.at_ c.many=Q at*
  refine Pm Tryz.func90 fun hfit=> ?_
  simp[Tryz.f90]
  have s_:=An @q1 (An @q2 (An @k (An @CallR.enc.eq_1 (@ReplyR.enc.eq_1))))
  try simp[s_]
  repeat' ((first|((first|refine Tp ?_|refine Tn ?_|refine T2 ?_ ?_)<;>intro h_ e_ n_)|refine Pg h1 ?_|refine Pg h2 ?_|refine Dg 3 2 [] [] ?_|refine Dg 6 2 [] [] ?_|refine Dg 7 6 [] [] ?_|refine Dg 9 2 [] [] ?_|refine Dg 19 3 [] [] ?_|refine Dg 21 6 [] [] ?_|rw[Ip]|rw[In]|rw[Fz]|rw[Gz]|fail)<;>first|simp[e_,n_,s_]|simp[s_]|skip)
 ·have h2:=ZuQ (bs (findB f.l c.ino).1.text) c.at_ (bs c.text) hc.2.2.2.1 (by rw[Zgr];omega) (by have:=hc.2.2.2.2.2.2.2;simp only[maxLen] at this;rw[Zgr];omega)
  rw[T_bs,T_bs] at h2
  have h3:=hP (writeT (bs (findB f.l c.ino).1.text) c.at_ (bs c.text)).1
  rw[Znx k]
  unfold textD
  rw[e3]
  simp only
  clear hP e3
  generalize findB f.l c.ino=N at*
  generalize writeT (bs N.1.text) c.at_ (bs c.text)=Q at*
  generalize cutT (bs N.1.text) c.many=Cu at*
  generalize putB f {N.1 with text:=T Q.1}=K at*
  have h4:=ZQ Q.2
  by_cases q3:Q.2=0
  ·simp[q3,toldR]
   refine Pm Tryz.func90 fun hfit=> ?_
   simp[Tryz.f90]
   have s_:=An @q1 (An @q2 (An @k (An @q3 (An @CallR.enc.eq_1 (@ReplyR.enc.eq_1)))))
   try simp[s_]
   repeat' ((first|((first|refine Tp ?_|refine Tn ?_|refine T2 ?_ ?_)<;>intro h_ e_ n_)|refine Pg h1 ?_|refine Pg h2 ?_|refine Pg h3 ?_|refine Pg hcu ?_|refine Dg 21 5 [2] [] ?_|refine Dg 3 2 [] [] ?_|refine Dg 6 2 [] [] ?_|refine Dg 7 6 [] [] ?_|refine Dg 9 2 [] [] ?_|refine Dg 19 3 [] [] ?_|rw[Ip]|rw[In]|rw[Fz]|rw[Gz]|fail)<;>first|simp[e_,n_,s_]|simp[s_]|skip)
  ·simp[q3,toldR]
   refine Pm Tryz.func90 fun hfit=> ?_
   simp[Tryz.f90]
   have s_:=An @q1 (An @q2 (An @k (An @q3 (An @CallR.enc.eq_1 (@ReplyR.enc.eq_1)))))
   try simp[s_]
   repeat' ((first|((first|refine Tp ?_|refine Tn ?_|refine T2 ?_ ?_)<;>intro h_ e_ n_)|refine Pg h1 ?_|refine Pg h2 ?_|refine Pg h4 ?_|refine Pg hcu ?_|refine Dg 3 2 [] [] ?_|refine Dg 6 2 [] [] ?_|refine Dg 7 6 [] [] ?_|refine Dg 9 2 [] [] ?_|refine Dg 19 3 [] [] ?_|refine Dg 21 6 [] [] ?_|rw[Ip]|rw[In]|rw[Fz]|rw[Gz]|fail)<;>first|simp[e_,n_,s_]|simp[s_]|skip)
 ·have h3:=hP (cutT (bs (findB f.l c.ino).1.text) c.many).1
  rw[Zny k]
  unfold textD
  rw[e3]
  simp only
  clear hP e3
  generalize findB f.l c.ino=N at*
  generalize cutT (bs N.1.text) c.many=Q at*
  generalize putB f {N.1 with text:=T Q.1}=K at*
  have h4:=ZQ Q.2
  by_cases q3:Q.2=0
  ·simp[q3,errR]
   refine Pm Tryz.func90 fun hfit=> ?_
   simp[Tryz.f90]
   have s_:=An @q1 (An @q2 (An @k (An @q3 (An @CallR.enc.eq_1 (@ReplyR.enc.eq_1)))))
   try simp[s_]
   repeat' ((first|((first|refine Tp ?_|refine Tn ?_|refine T2 ?_ ?_)<;>intro h_ e_ n_)|refine Pg h1 ?_|refine Pg h3 ?_|refine Pg hcu ?_|refine Dg 21 5 [2] [] ?_|refine Dg 3 2 [] [] ?_|refine Dg 6 2 [] [] ?_|refine Dg 7 6 [] [] ?_|refine Dg 9 2 [] [] ?_|refine Dg 19 3 [] [] ?_|rw[Ip]|rw[In]|rw[Fz]|rw[Gz]|fail)<;>first|simp[e_,n_,s_]|simp[s_]|skip)
  ·simp[q3]
   refine Pm Tryz.func90 fun hfit=> ?_
   simp[Tryz.f90]
   have s_:=An @q1 (An @q2 (An @k (An @q3 (An @CallR.enc.eq_1 (@ReplyR.enc.eq_1)))))
   try simp[s_]
   repeat' ((first|((first|refine Tp ?_|refine Tn ?_|refine T2 ?_ ?_)<;>intro h_ e_ n_)|refine Pg h1 ?_|refine Pg h4 ?_|refine Pg hcu ?_|refine Dg 3 2 [] [] ?_|refine Dg 6 2 [] [] ?_|refine Dg 7 6 [] [] ?_|refine Dg 9 2 [] [] ?_|refine Dg 19 3 [] [] ?_|refine Dg 21 6 [] [] ?_|rw[Ip]|rw[In]|rw[Fz]|rw[Gz]|fail)<;>first|simp[e_,n_,s_]|simp[s_]|skip)
theorem ZpA (f:FSR) (c:CallR) (h:Zi f) (T:ZF f) (hb:f.next<4611686018427387904) (hc:c.wf):Ze Tryz.prog 34 [encF f,encC c] (rTup (doS f c)):=by
 rcases kind_cases c.kind with k|k|k|k|k|k|k|k|k|k|k|k|k|k|k|k
 ·have k1:¬c.kind=1:=by omega
  have k2:¬c.kind=2:=by omega
  have k3:¬c.kind=3:=by omega
  have k4:¬c.kind=4:=by omega
  have k5:¬c.kind=5:=by omega
  have k6:¬c.kind=6:=by omega
  have k7:¬c.kind=7:=by omega
  have k8:¬c.kind=8:=by omega
  have k9:¬c.kind=9:=by omega
  have k10:¬c.kind=10:=by omega
  have k11:¬c.kind=11:=by omega
  have k12:¬c.kind=12:=by omega
  have k13:¬c.kind=13:=by omega
  have k14:¬c.kind=14:=by omega
  have k15:¬c.kind=15:=by omega
  have h1:=ZQ 1
  rw[Zei k]
  refine Pm Tryz.func34 fun hfit=> ?_
  simp[Tryz.f34]
  have s_:=An @k1 (An @k2 (An @k3 (An @k4 (An @k5 (An @k6 (An @k7 (An @k8 (An @k9 (An @k10 (An @k11 (An @k12 (An @k13 (An @k14 (An @k15 (@CallR.enc.eq_1)))))))))))))))
  try simp[s_]
  repeat' ((first|((first|refine Tp ?_|refine Tn ?_|refine T2 ?_ ?_)<;>intro h_ e_ n_)|refine Pg h1 ?_|refine Dg 4 7 [] [] ?_|refine Dg 8 2 [] [] ?_|refine Dg 9 10 [] [] ?_|refine Dg 24 3 [] [] ?_|refine Dg 27 3 [] [] ?_|refine Dg 30 8 [] [] ?_|refine Dg 36 11 [] [] ?_|refine Dg 37 4 [] [] ?_|refine Dg 38 2 [] [] ?_|rw[Ip]|rw[In]|rw[Fz]|rw[Gz]|fail)<;>first|simp[e_,n_,s_]|simp[s_]|skip)
 ·have h1:=Zfq f c.ino c.name h
  rw[Zrl k,Zue]
  generalize lookD f c.ino c.name=L at*
  refine Pm Tryz.func34 fun hfit=> ?_
  simp[Tryz.f34]
  have s_:=An @k (An @CallR.enc.eq_1 (@ReplyR.enc.eq_1))
  try simp[s_]
  repeat' ((first|((first|refine Tp ?_|refine Tn ?_|refine T2 ?_ ?_)<;>intro h_ e_ n_)|refine Pg h1 ?_|refine Dg 4 6 [2] [] ?_|refine Dg 8 2 [] [] ?_|refine Dg 9 10 [] [] ?_|refine Dg 24 3 [] [] ?_|refine Dg 27 3 [] [] ?_|refine Dg 30 8 [] [] ?_|refine Dg 36 11 [] [] ?_|refine Dg 37 4 [] [] ?_|refine Dg 38 2 [] [] ?_|rw[Ip]|rw[In]|rw[Fz]|rw[Gz]|fail)<;>first|simp[e_,n_,s_]|simp[s_]|skip)
 ·have h1:=Zdx f c.ino h
  have h2:=ZuD (findB f.l c.ino).1
  have h3:=ZQ 6
  rw[Zrm k]
  cases q:(findB f.l c.ino).2 with
  |false=>
   rw[Zpy q]
   have e:toldR ⟨0,(findB f.l c.ino).1.kind,(findB f.l c.ino).1.links,sizeS (findB f.l c.ino).1,.empty,[]⟩ 6=errR 6:=rfl
   simp only[e]
   generalize findB f.l c.ino=N at*
   refine Pm Tryz.func34 fun hfit=> ?_
   simp[Tryz.f34]
   have s_:=An @k (An @q (@CallR.enc.eq_1))
   try simp[s_]
   repeat' ((first|((first|refine Tp ?_|refine Tn ?_|refine T2 ?_ ?_)<;>intro h_ e_ n_)|refine Pg h1 ?_|refine Pg h3 ?_|refine Dg 4 7 [] [] ?_|refine Dg 8 2 [] [] ?_|refine Dg 9 10 [] [] ?_|refine Dg 24 3 [] [] ?_|refine Dg 27 3 [] [] ?_|refine Dg 30 8 [] [] ?_|refine Dg 36 11 [] [] ?_|refine Dg 37 4 [] [] ?_|refine Dg 38 2 [] [] ?_|rw[Ip]|rw[In]|rw[Fz]|rw[Gz]|fail)<;>first|simp[e_,n_,s_]|simp[s_]|skip)
  |true=>
   rw[Zvd q (.inl rfl)]
   have e:toldR ⟨0,(findB f.l c.ino).1.kind,(findB f.l c.ino).1.links,sizeS (findB f.l c.ino).1,.empty,[]⟩ 0=⟨0,(findB f.l c.ino).1.kind,(findB f.l c.ino).1.links,sizeS (findB f.l c.ino).1,.empty,[]⟩:=rfl
   simp only[e]
   generalize findB f.l c.ino=N at*
   refine Pm Tryz.func34 fun hfit=> ?_
   simp[Tryz.f34]
   have s_:=An @k (An @q (An @CallR.enc.eq_1 (@ReplyR.enc.eq_1)))
   try simp[s_]
   repeat' ((first|((first|refine Tp ?_|refine Tn ?_|refine T2 ?_ ?_)<;>intro h_ e_ n_)|refine Pg h1 ?_|refine Pg h2 ?_|refine Dg 9 9 [2] [] ?_|refine Dg 4 7 [] [] ?_|refine Dg 8 2 [] [] ?_|refine Dg 24 3 [] [] ?_|refine Dg 27 3 [] [] ?_|refine Dg 30 8 [] [] ?_|refine Dg 36 11 [] [] ?_|refine Dg 37 4 [] [] ?_|refine Dg 38 2 [] [] ?_|rw[Ip]|rw[In]|rw[Fz]|rw[Gz]|fail)<;>first|simp[e_,n_,s_]|simp[s_]|skip)
 ·have h1:=Zfs f c h hb hc (.inl k)
  generalize doS f c=X at*
  refine Pm Tryz.func34 fun hfit=> ?_
  simp[Tryz.f34]
  have s_:=k
  try simp[s_]
  repeat' ((first|((first|refine Tp ?_|refine Tn ?_|refine T2 ?_ ?_)<;>intro h_ e_ n_)|refine Pg h1 ?_|refine Dg 4 7 [] [] ?_|refine Dg 8 2 [] [] ?_|refine Dg 9 10 [] [] ?_|refine Dg 24 3 [] [] ?_|refine Dg 27 3 [] [] ?_|refine Dg 30 8 [] [] ?_|refine Dg 36 11 [] [] ?_|refine Dg 37 4 [] [] ?_|refine Dg 38 2 [] [] ?_|rw[Ip]|rw[In]|rw[Fz]|rw[Gz]|fail)<;>first|simp[e_,n_,s_]|simp[s_]|skip)
 ·have h1:=Zfs f c h hb hc (.inr (.inl k))
  generalize doS f c=X at*
  refine Pm Tryz.func34 fun hfit=> ?_
  simp[Tryz.f34]
  have s_:=k
  try simp[s_]
  repeat' ((first|((first|refine Tp ?_|refine Tn ?_|refine T2 ?_ ?_)<;>intro h_ e_ n_)|refine Pg h1 ?_|refine Dg 4 7 [] [] ?_|refine Dg 8 2 [] [] ?_|refine Dg 9 10 [] [] ?_|refine Dg 24 3 [] [] ?_|refine Dg 27 3 [] [] ?_|refine Dg 30 8 [] [] ?_|refine Dg 36 11 [] [] ?_|refine Dg 37 4 [] [] ?_|refine Dg 38 2 [] [] ?_|rw[Ip]|rw[In]|rw[Fz]|rw[Gz]|fail)<;>first|simp[e_,n_,s_]|simp[s_]|skip)
 ·have h1:=Zfs f c h hb hc (.inr (.inr (.inl k)))
  generalize doS f c=X at*
  refine Pm Tryz.func34 fun hfit=> ?_
  simp[Tryz.f34]
  have s_:=k
  try simp[s_]
  repeat' ((first|((first|refine Tp ?_|refine Tn ?_|refine T2 ?_ ?_)<;>intro h_ e_ n_)|refine Pg h1 ?_|refine Dg 4 7 [] [] ?_|refine Dg 8 2 [] [] ?_|refine Dg 9 10 [] [] ?_|refine Dg 24 3 [] [] ?_|refine Dg 27 3 [] [] ?_|refine Dg 30 8 [] [] ?_|refine Dg 36 11 [] [] ?_|refine Dg 37 4 [] [] ?_|refine Dg 38 2 [] [] ?_|rw[Ip]|rw[In]|rw[Fz]|rw[Gz]|fail)<;>first|simp[e_,n_,s_]|simp[s_]|skip)
 ·have h1:=Zkw f c h hb (.inl k)
  generalize doS f c=X at*
  refine Pm Tryz.func34 fun hfit=> ?_
  simp[Tryz.f34]
  have s_:=k
  try simp[s_]
  repeat' ((first|((first|refine Tp ?_|refine Tn ?_|refine T2 ?_ ?_)<;>intro h_ e_ n_)|refine Pg h1 ?_|refine Dg 4 7 [] [] ?_|refine Dg 8 2 [] [] ?_|refine Dg 9 10 [] [] ?_|refine Dg 24 3 [] [] ?_|refine Dg 27 3 [] [] ?_|refine Dg 30 8 [] [] ?_|refine Dg 36 11 [] [] ?_|refine Dg 37 4 [] [] ?_|refine Dg 38 2 [] [] ?_|rw[Ip]|rw[In]|rw[Fz]|rw[Gz]|fail)<;>first|simp[e_,n_,s_]|simp[s_]|skip)
 ·have h1:=Zkw f c h hb (.inr (.inl k))
  generalize doS f c=X at*
  refine Pm Tryz.func34 fun hfit=> ?_
  simp[Tryz.f34]
  have s_:=k
  try simp[s_]
  repeat' ((first|((first|refine Tp ?_|refine Tn ?_|refine T2 ?_ ?_)<;>intro h_ e_ n_)|refine Pg h1 ?_|refine Dg 4 7 [] [] ?_|refine Dg 8 2 [] [] ?_|refine Dg 9 10 [] [] ?_|refine Dg 24 3 [] [] ?_|refine Dg 27 3 [] [] ?_|refine Dg 30 8 [] [] ?_|refine Dg 36 11 [] [] ?_|refine Dg 37 4 [] [] ?_|refine Dg 38 2 [] [] ?_|rw[Ip]|rw[In]|rw[Fz]|rw[Gz]|fail)<;>first|simp[e_,n_,s_]|simp[s_]|skip)
 ·have h1:=Zkw f c h hb (.inr (.inr k))
  generalize doS f c=X at*
  refine Pm Tryz.func34 fun hfit=> ?_
  simp[Tryz.f34]
  have s_:=k
  try simp[s_]
  repeat' ((first|((first|refine Tp ?_|refine Tn ?_|refine T2 ?_ ?_)<;>intro h_ e_ n_)|refine Pg h1 ?_|refine Dg 4 7 [] [] ?_|refine Dg 8 2 [] [] ?_|refine Dg 9 10 [] [] ?_|refine Dg 24 3 [] [] ?_|refine Dg 27 3 [] [] ?_|refine Dg 30 8 [] [] ?_|refine Dg 36 11 [] [] ?_|refine Dg 37 4 [] [] ?_|refine Dg 38 2 [] [] ?_|rw[Ip]|rw[In]|rw[Fz]|rw[Gz]|fail)<;>first|simp[e_,n_,s_]|simp[s_]|skip)
 ·have h1:=Zml f c h hb (.inl k)
  generalize doS f c=X at*
  refine Pm Tryz.func34 fun hfit=> ?_
  simp[Tryz.f34]
  have s_:=k
  try simp[s_]
  repeat' ((first|((first|refine Tp ?_|refine Tn ?_|refine T2 ?_ ?_)<;>intro h_ e_ n_)|refine Pg h1 ?_|refine Dg 4 7 [] [] ?_|refine Dg 8 2 [] [] ?_|refine Dg 9 10 [] [] ?_|refine Dg 24 3 [] [] ?_|refine Dg 27 3 [] [] ?_|refine Dg 30 8 [] [] ?_|refine Dg 36 11 [] [] ?_|refine Dg 37 4 [] [] ?_|refine Dg 38 2 [] [] ?_|rw[Ip]|rw[In]|rw[Fz]|rw[Gz]|fail)<;>first|simp[e_,n_,s_]|simp[s_]|skip)
 ·have h1:=Zml f c h hb (.inr k)
  generalize doS f c=X at*
  refine Pm Tryz.func34 fun hfit=> ?_
  simp[Tryz.f34]
  have s_:=k
  try simp[s_]
  repeat' ((first|((first|refine Tp ?_|refine Tn ?_|refine T2 ?_ ?_)<;>intro h_ e_ n_)|refine Pg h1 ?_|refine Dg 4 7 [] [] ?_|refine Dg 8 2 [] [] ?_|refine Dg 9 10 [] [] ?_|refine Dg 24 3 [] [] ?_|refine Dg 27 3 [] [] ?_|refine Dg 30 8 [] [] ?_|refine Dg 36 11 [] [] ?_|refine Dg 37 4 [] [] ?_|refine Dg 38 2 [] [] ?_|rw[Ip]|rw[In]|rw[Fz]|rw[Gz]|fail)<;>first|simp[e_,n_,s_]|simp[s_]|skip)
 ·have h1:=Zxf f c.ino c.name c.to_ h hb
  rw[ZlV k]
  generalize giveD f c.ino c.name c.to_=A at*
  have h2:=ZQ A.2
  refine Pm Tryz.func34 fun hfit=> ?_
  simp[Tryz.f34]
  have s_:=An @k (@CallR.enc.eq_1)
  try simp[s_]
  repeat' ((first|((first|refine Tp ?_|refine Tn ?_|refine T2 ?_ ?_)<;>intro h_ e_ n_)|refine Pg h1 ?_|refine Pg h2 ?_|refine Dg 4 7 [] [] ?_|refine Dg 8 2 [] [] ?_|refine Dg 9 10 [] [] ?_|refine Dg 24 3 [] [] ?_|refine Dg 27 3 [] [] ?_|refine Dg 30 8 [] [] ?_|refine Dg 36 11 [] [] ?_|refine Dg 37 4 [] [] ?_|refine Dg 38 2 [] [] ?_|rw[Ip]|rw[In]|rw[Fz]|rw[Gz]|fail)<;>first|simp[e_,n_,s_]|simp[s_]|skip)
 ·have h1:=Zxh f c.ino c.name c.to_ c.name2 h T hb
  rw[Zub k]
  generalize moveD f c.ino c.name c.to_ c.name2=A at*
  have h2:=ZQ A.2
  refine Pm Tryz.func34 fun hfit=> ?_
  simp[Tryz.f34]
  have s_:=An @k (@CallR.enc.eq_1)
  try simp[s_]
  repeat' ((first|((first|refine Tp ?_|refine Tn ?_|refine T2 ?_ ?_)<;>intro h_ e_ n_)|refine Pg h1 ?_|refine Pg h2 ?_|refine Dg 4 7 [] [] ?_|refine Dg 8 2 [] [] ?_|refine Dg 9 10 [] [] ?_|refine Dg 24 3 [] [] ?_|refine Dg 27 3 [] [] ?_|refine Dg 30 8 [] [] ?_|refine Dg 36 11 [] [] ?_|refine Dg 37 4 [] [] ?_|refine Dg 38 2 [] [] ?_|rw[Ip]|rw[In]|rw[Fz]|rw[Gz]|fail)<;>first|simp[e_,n_,s_]|simp[s_]|skip)
 ·have h1:=Zfs f c h hb hc (.inr (.inr (.inr k)))
  generalize doS f c=X at*
  refine Pm Tryz.func34 fun hfit=> ?_
  simp[Tryz.f34]
  have s_:=k
  try simp[s_]
  repeat' ((first|((first|refine Tp ?_|refine Tn ?_|refine T2 ?_ ?_)<;>intro h_ e_ n_)|refine Pg h1 ?_|refine Dg 4 7 [] [] ?_|refine Dg 8 2 [] [] ?_|refine Dg 9 10 [] [] ?_|refine Dg 24 3 [] [] ?_|refine Dg 27 3 [] [] ?_|refine Dg 30 8 [] [] ?_|refine Dg 36 11 [] [] ?_|refine Dg 37 4 [] [] ?_|refine Dg 38 2 [] [] ?_|rw[Ip]|rw[In]|rw[Fz]|rw[Gz]|fail)<;>first|simp[e_,n_,s_]|simp[s_]|skip)
 ·have h1:=Zij f c.ino h
  have hrow:=h.dirRow c.ino
  rw[Zjl k,ZwA]
  generalize dirD f c.ino=D at*
  have h2:=ZuK D.1.l (by have:=hrow.len;omega)
  generalize D.1.l.map (·.name)=M at*
  refine Pm Tryz.func34 fun hfit=> ?_
  simp[Tryz.f34]
  have s_:=An @k (An @CallR.enc.eq_1 (@ReplyR.enc.eq_1))
  try simp[s_]
  repeat' ((first|((first|refine Tp ?_|refine Tn ?_|refine T2 ?_ ?_)<;>intro h_ e_ n_)|refine Pg h1 ?_|refine Pg h2 ?_|refine Dg 30 7 [2] [] ?_|refine Dg 4 7 [] [] ?_|refine Dg 8 2 [] [] ?_|refine Dg 9 10 [] [] ?_|refine Dg 24 3 [] [] ?_|refine Dg 27 3 [] [] ?_|refine Dg 36 11 [] [] ?_|refine Dg 37 4 [] [] ?_|refine Dg 38 2 [] [] ?_|rw[Ip]|rw[In]|rw[Fz]|rw[Gz]|fail)<;>first|simp[e_,n_,s_]|simp[s_]|skip)
 ·rw[Zpf k]
  have hlen:=h.len
  have htx:∀n∈f.l,n.text.size≤4096:=fun n hn=>((Zo n).1 (h.ok n hn)).size
  clear h T hb
  obtain⟨l,next⟩:=f
  simp only at*
  refine Pm Tryz.func34 fun hfit=> ?_
  simp[Tryz.f34,FSR.enc]
  have s_:=An @k (An @CallR.enc.eq_1 (@FSR.enc.eq_1))
  try simp[s_]
  repeat' ((first|((first|refine Tp ?_|refine Tn ?_|refine T2 ?_ ?_)<;>intro h_ e_ n_)|refine Dg 4 7 [] [] ?_|refine Dg 8 2 [] [] ?_|refine Dg 9 10 [] [] ?_|refine Dg 24 3 [] [] ?_|refine Dg 27 3 [] [] ?_|refine Dg 30 8 [] [] ?_|refine Dg 36 11 [] [] ?_|refine Dg 37 4 [] [] ?_|refine Dg 38 2 [] [] ?_|rw[Ip]|rw[In]|rw[Fz]|rw[Gz]|fail)<;>first|simp[e_,n_,s_]|simp[s_]|skip)
  refine AW.loopG (lit:=fun _=>false) (fun i:Nat=>⟨161,pat [(2,.ptr 0 0 0),(4,.ptr 2 0 0),(5,.ptr 3 0 0),(16,.ptr 4 0 0),(17,I i)],[.cells 0 [encL NodeR.enc l,I next],.cells 0 c.enc,.cells 0 [.sl true 0 [],I 0],.cells 0 [I 0,I 0,I 0,I 0,S .empty,.sl true 0 []],.cells 0 [I 0,I l.length,I (sizesF (l.take i)),I 0,S .empty,.sl true 0 []]]⟩) (fun i=>l.length -i) (fun i=>i≤l.length) 0 ?_ ?_ ?_
  ·exact Wk.at _ rfl (by simp[sizesF,CallR.enc,k]) (by simp)
  ·simp
  rintro i g1 A hA
  by_cases hi:i<l.length
  case neg=>
   have e:List.take i l=l:=List.take_of_length_le (by omega)
   have s_:=An @hi (An @ReplyR.enc.eq_1 (An @FSR.enc.eq_1 (@e)))
   try simp[s_]
   repeat' ((first|((first|refine Tp ?_|refine Tn ?_|refine T2 ?_ ?_)<;>intro h_ e_ n_)|refine Dg 37 3 [2] [] ?_|refine Dg 4 7 [] [] ?_|refine Dg 8 2 [] [] ?_|refine Dg 9 10 [] [] ?_|refine Dg 24 3 [] [] ?_|refine Dg 27 3 [] [] ?_|refine Dg 30 8 [] [] ?_|refine Dg 36 11 [] [] ?_|refine Dg 38 2 [] [] ?_|rw[Ip]|rw[In]|rw[Fz]|rw[Gz]|fail)<;>first|simp[e_,n_,s_]|simp[s_]|skip)
  have hwi:=Zf hi (by simp only[maxLen];omega)
  have g2:=Zig (l.take (i+1)) fun n hn=>htx n (List.mem_of_mem_take hn)
  have g3:sizesF (l.take (i+1))=sizesF (l.take i)+l[i].text.size:=by
   rw[List.take_succ_eq_append_getElem hi]
   simp only[sizesF,List.map_append,List.sum_append,List.map_cons,List.map_nil,List.sum_cons,List.sum_nil]
   omega
  have hw2:IntKind.i64.wrap (sizesF (l.take i)+(l[i].text.size:Int))=sizesF (l.take (i+1)):=by
   rw[←g3,Zj (by omega) (by simp at g2;omega)]
  have s_:=An @hi (An @hwi (@hw2))
  try simp[s_]
  repeat' ((first|((first|refine Tp ?_|refine Tn ?_|refine T2 ?_ ?_)<;>intro h_ e_ n_)|(exact hA (i+1) _ Wc hi (by omega))|refine Dg 4 7 [] [] ?_|refine Dg 8 2 [] [] ?_|refine Dg 9 10 [] [] ?_|refine Dg 24 3 [] [] ?_|refine Dg 27 3 [] [] ?_|refine Dg 30 8 [] [] ?_|refine Dg 36 11 [] [] ?_|refine Dg 37 4 [] [] ?_|refine Dg 38 2 [] [] ?_|rw[Ip]|rw[In]|rw[Fz]|rw[Gz]|fail)<;>first|simp[e_,n_,s_]|simp[s_]|skip)
theorem ZpB (f:FSR) (l:List CallR) (R:Zi f) (T:ZF f) (hn:f.next+l.length<4611686018427387904) (hw:∀c∈l,c.wf) (hl:l.length≤100000):Ze Tryz.prog 40 [encF f,ZG l] (.tup [encF (playS f l).1,ZbB (playS f l).2]):=by
 refine Pm Tryz.func40 fun hfit=> ?_
 simp[Tryz.f40]
 refine AW.loopG (lit:=fun _=>false) (fun x:Nat×FSR×List ReplyR=>⟨32,pat [(1,ZG l),(2,.ptr 0 0 0),(4,.ptr 1 0 0),(6,.own 2 x.2.2.length 0 x.2.2.length 6),(7,I x.1)],[.cells 0 x.2.1.enc,.cells 0 [.sl true 0 [],I 0],.cells x.2.2.length (x.2.2.flatMap ReplyR.enc)]⟩) (fun x=>l.length -x.1)
  (fun x=>x.1≤l.length∧x.2.2.length=x.1∧(Zi x.2.1∧ZF x.2.1∧x.2.1.next≤f.next+x.1)∧(playS x.2.1 (l.drop x.1)).1=(playS f l).1∧x.2.2++(playS x.2.1 (l.drop x.1)).2=(playS f l).2) (0,f,[]) ?_ ?_ ?_
 ·exact Wk.trans (Wk.ownNil 6 6 (by simp)) Wa
 ·exact⟨by simp,rfl,⟨R,T,by simp⟩,by simp,by simp⟩
 rintro⟨i,g,acc⟩ ⟨g1,g2,⟨k1,k2,k3⟩,g4,g5⟩ A hA
 simp only at g1 g2 k1 k2 k3 g4 g5 hA
 by_cases hi:i<l.length
 case neg=>
  rw[List.drop_eq_nil_of_le (by omega)] at g4 g5
  simp only[playS,List.append_nil] at g4 g5
  rw[←g4,←g5]
  have s_:=hi
  try simp[s_]
  repeat' ((first|((first|refine Tp ?_|refine Tn ?_|refine T2 ?_ ?_)<;>intro h_ e_ n_)|rw[Ip]|rw[In]|rw[Fz]|rw[Gz]|fail)<;>first|simp[e_,n_,s_]|simp[s_]|skip)
 rw[List.drop_eq_getElem_cons hi] at g4 g5
 have hwi:=Zf hi (by simp only[maxLen];omega)
 have K:=Zdn k1 k2 l[i]
 have h1:=ZpA g l[i] k1 k2 (by omega) (hw _ (List.getElem_mem hi))
 simp only[playS] at g4 g5
 generalize doS g l[i]=X at*
 have hal:(acc++[X.2]).length=acc.length+1:=by simp
 have hm:acc.length+1≤maxLen:=by simp only[maxLen];omega
 have hkn:=K.next
 have s_:=An @hi (An @hwi (An @hm (@setF_enc)))
 try simp[s_]
 repeat' ((first|((first|refine Tp ?_|refine Tn ?_|refine T2 ?_ ?_)<;>intro h_ e_ n_)|(refine AW.room (AW.room (Dg 5 12 [3,4] [(9,.r 3),(10,.r 4)] ?_));simp[hi])|(exact hA (i+1,X.1,acc++[X.2]) _ Wc ⟨hi,by simp only[hal];omega,⟨K.rows,K.tree,by simp only;omega⟩,g4,by simpa using g5⟩ (by simp only;omega))|refine Pg h1 ?_|rw[Ip]|rw[In]|rw[Fz]|rw[Gz]|fail)<;>first|simp[e_,n_,s_]|simp[s_]|skip)
theorem ZpC (a b:List Int):Ze Tryz.prog 30 [enc1 I a,enc1 I b] (B (decide (a=b))):=by
 refine Pm Tryz.func30 fun hfit=> ?_
 simp at hfit
 simp[Tryz.f30]
 by_cases hl:a.length=b.length
 case neg=>
  have:¬a=b:=fun e=>hl (by rw[e])
  simp[hl,this]
 simp[hl]
 refine AW.loopF (lit:=fun _=>false) (fun i:Nat=>⟨26,pat [(0,enc1 I a),(1,enc1 I b),(5,I i)],[]⟩) (fun i=>b.length -i) (fun i=>i≤b.length∧a.take i=b.take i) 0 ?_ ?_ ?_
 ·exact Wz
 ·simp
 ·rintro i ⟨hi,ht⟩
  simp
  refine Zcg _ _ (fun h=> ?_) (fun h=> ?_)
  ·simp at h
   have ha:i<a.length:=by omega
   simp
   refine Dg _ 9 [] [] ?_
   have hb:i<b.length:=by omega
   simp[ha,hb]
   refine Zcg _ _ (fun h2=> ?_) (fun h2=> ?_)
   ·simp at h2
    have:¬a=b:=fun e=>by subst e;exact h2 rfl
    simp[this]
   ·simp at h2
    simp[Zf ha hfit.1]
    exact⟨i+1,Wz,⟨by omega,take_step ht ha hb h2⟩,by omega⟩
  ·simp at h
   have:=ZbM ht (by omega) (by omega)
   simp[this]
theorem ZnM (a b:FSR) (ha:Zi a) (hb:Zi b):Ze Tryz.prog 41 [encF a,encF b] (encL ChangeR.enc (changesS a b)):=by
 have hal:=ha.len
 have hbl:=hb.len
 have fa:=fun k=>Zdx a k ha
 have fb:=fun k=>Zdx b k hb
 have hg:∀k,changeS a b k=changeS a b k:=fun k=>rfl
 clear ha hb
 unfold changesS
 obtain⟨la,na⟩:=a
 obtain⟨lb,nb⟩:=b
 simp only at*
 refine Pm Tryz.func41 fun hfit=> ?_
 simp[Tryz.f41,FSR.enc]
 refine AW.loopG (lit:=fun _=>false) (fun x:Nat×List Int=>⟨98,pat [(2,.ptr 0 0 0),(3,.ptr 1 0 0),(5,enc1 I x.2),(6,I x.1)],[.cells 0 [encL NodeR.enc la,I na],.cells 0 [encL NodeR.enc lb,I nb]]⟩) (fun x=>la.length -x.1) (fun x=>x.1≤la.length∧ZL x.2=true∧x.2.length≤x.1∧x.2=((la.take x.1).map (·.ino)).foldl withI []) (0,[]) ?_ ?_ ?_
 ·exact Wk.cutLe _ rfl (by simp) (by simp) (by simp) (by simp[le.refl,le.loose,enc1])
 ·exact⟨by simp,rfl,by simp,by simp⟩
 rintro⟨i,acc⟩ ⟨g1,g2,g3,g4⟩ A hA
 simp only at g1 g2 g3 g4 hA
 by_cases hi:i<la.length
 case pos=>
  have hwi:=Zf hi (by simp only[maxLen];omega)
  have w:=Zdr acc la[i].ino g2 (by omega)
  obtain⟨r1,_⟩:=Zaq g2 la[i].ino
  have r2:=Zbu acc la[i].ino
  have r3:withI acc la[i].ino=((la.take (i+1)).map (·.ino)).foldl withI []:=by
   rw[List.take_succ_eq_append_getElem hi,List.map_append,List.foldl_append,←g4];rfl
  generalize withI acc la[i].ino=acc2 at*
  have s_:=An @hi (@hwi)
  try simp[s_]
  repeat' ((first|((first|refine Tp ?_|refine Tn ?_|refine T2 ?_ ?_)<;>intro h_ e_ n_)|(exact hA (i+1,acc2) _ Wc ⟨hi,r1,by simp only;omega,r3⟩ (by simp only;omega))|refine Pg w ?_|refine Dg 20 9 [] [] ?_|rw[Ip]|rw[In]|rw[Fz]|rw[Gz]|fail)<;>first|simp[e_,n_,s_]|simp[s_]|skip)
 have e1:la.take i=la:=List.take_of_length_le (by omega)
 rw[e1] at g4
 have s_:=hi
 try simp[s_]
 repeat' ((first|((first|refine Tp ?_|refine Tn ?_|refine T2 ?_ ?_)<;>intro h_ e_ n_)|refine Dg 20 9 [] [] ?_|rw[Ip]|rw[In]|rw[Fz]|rw[Gz]|fail)<;>first|simp[e_,n_,s_]|simp[s_]|skip)
 clear hA hi A
 refine AW.loopG (lit:=fun _=>false) (fun x:Nat×List Int=>⟨98,pat [(2,.ptr 0 0 0),(3,.ptr 1 0 0),(5,enc1 I x.2),(7,I x.1)],[.cells 0 [encL NodeR.enc la,I na],.cells 0 [encL NodeR.enc lb,I nb]]⟩) (fun x=>lb.length -x.1) (fun x=>x.1≤lb.length∧ZL x.2=true∧x.2.length≤la.length+x.1∧x.2=((lb.take x.1).map (·.ino)).foldl withI acc) (0,acc) ?_ ?_ ?_
 ·exact Wc
 ·exact⟨by simp,g2,by simp only;omega,by simp⟩
 rintro⟨j,all⟩ ⟨k1,k2,k3,k4⟩ A hA
 simp only at k1 k2 k3 k4 hA
 by_cases hj:j<lb.length
 case pos=>
  have hwi:=Zf hj (by simp only[maxLen];omega)
  have w:=Zdr all lb[j].ino k2 (by omega)
  obtain⟨r1,_⟩:=Zaq k2 lb[j].ino
  have r2:=Zbu all lb[j].ino
  have r3:withI all lb[j].ino=((lb.take (j+1)).map (·.ino)).foldl withI acc:=by
   rw[List.take_succ_eq_append_getElem hj,List.map_append,List.foldl_append,←k4];rfl
  generalize withI all lb[j].ino=acc2 at*
  have s_:=An @hj (@hwi)
  try simp[s_]
  repeat' ((first|((first|refine Tp ?_|refine Tn ?_|refine T2 ?_ ?_)<;>intro h_ e_ n_)|(exact hA (j+1,acc2) _ Wc ⟨hj,r1,by simp only;omega,r3⟩ (by simp only;omega))|refine Pg w ?_|refine Dg 20 9 [] [] ?_|rw[Ip]|rw[In]|rw[Fz]|rw[Gz]|fail)<;>first|simp[e_,n_,s_]|simp[s_]|skip)
 have e2:lb.take j=lb:=List.take_of_length_le (by omega)
 rw[e2,g4,←List.foldl_append] at k4
 have k4:all=numsS (la.map (·.ino)++lb.map (·.ino)):=k4
 rw[←k4]
 have s_:=hj
 try simp[s_]
 repeat' ((first|((first|refine Tp ?_|refine Tn ?_|refine T2 ?_ ?_)<;>intro h_ e_ n_)|refine Dg 20 9 [] [] ?_|rw[Ip]|rw[In]|rw[Fz]|rw[Gz]|fail)<;>first|simp[e_,n_,s_]|simp[s_]|skip)
 clear hA hj A e1 e2 g4
 refine AW.loopG (lit:=fun _=>false) (fun x:Nat×List ChangeR=>⟨98,pat [(2,.ptr 0 0 0),(3,.ptr 1 0 0),(5,enc1 I all),(8,.own 2 x.2.length 0 x.2.length 7),(9,I x.1)],[.cells 0 [encL NodeR.enc la,I na],.cells 0 [encL NodeR.enc lb,I nb],.cells x.2.length (x.2.flatMap ChangeR.enc)]⟩) (fun x=>all.length -x.1)
  (fun x=>x.1≤all.length∧x.2.length≤x.1∧x.2++(all.drop x.1).flatMap (changeS ⟨la,na⟩ ⟨lb,nb⟩)=all.flatMap (changeS ⟨la,na⟩ ⟨lb,nb⟩)) (0,[]) ?_ ?_ ?_
 ·exact Wk.trans (Wk.ownNil 8 7 (by simp)) Wa
 ·simp
 rintro⟨i,out⟩ ⟨m1,m2,m3⟩ A hA
 simp only at m1 m2 m3 hA
 by_cases hi:i<all.length
 case neg=>
  rw[List.drop_eq_nil_of_le (by omega),List.flatMap_nil,List.append_nil] at m3
  rw[←m3]
  have s_:=hi
  try simp[s_]
  repeat' ((first|((first|refine Tp ?_|refine Tn ?_|refine T2 ?_ ?_)<;>intro h_ e_ n_)|refine Dg 20 9 [] [] ?_|rw[Ip]|rw[In]|rw[Fz]|rw[Gz]|fail)<;>first|simp[e_,n_,s_]|simp[s_]|skip)
 rw[List.drop_eq_getElem_cons hi,List.flatMap_cons] at m3
 have hwi:=Zf hi (by simp only[maxLen];omega)
 have hm:out.length+1≤maxLen:=by simp only[maxLen];omega
 have hm':out.length+1≤17592186044416:=by omega
 have f1:Ze Tryz.prog 25 [.agg [encL NodeR.enc la,I na],I all[i]] (.tup [encN (findB la all[i]).1,B (findB la all[i]).2]):=fa all[i]
 have f2:Ze Tryz.prog 25 [.agg [encL NodeR.enc lb,I nb],I all[i]] (.tup [encN (findB lb all[i]).1,B (findB lb all[i]).2]):=fb all[i]
 have f3:=rnsame_ok (findB la all[i]).1 (findB lb all[i]).1
 have hal2:∀c:ChangeR,(out++[c]).length=out.length+1:=fun c=>by simp
 generalize hk:all[i]=k at*
 have hcs:∀v:List ChangeR,changeS ⟨la,na⟩ ⟨lb,nb⟩ k=v→out++(v++(all.drop (i+1)).flatMap (changeS ⟨la,na⟩ ⟨lb,nb⟩))=all.flatMap (changeS ⟨la,na⟩ ⟨lb,nb⟩):=fun v e=>by rw[←e];exact m3
 obtain⟨rc,hrc⟩:∃rc,rc=changeS ⟨la,na⟩ ⟨lb,nb⟩ k:=⟨_,rfl⟩
 have hcs:=hcs rc hrc.symm
 unfold changeS at hrc
 simp only at hrc
 clear m3 fa fb
 generalize hX:findB la k=X at*
 generalize hY:findB lb k=Y at*
 cases hb2:Y.2 with
 |false=>
  rw[if_pos hb2] at hrc
  subst hrc
  rw[hb2] at f2
  have s_:=An @hi (An @hwi (An @hm (An @hm' (An @hk (@hb2)))))
  try simp[s_]
  repeat' ((first|((first|refine Tp ?_|refine Tn ?_|refine T2 ?_ ?_)<;>intro h_ e_ n_)|refine Pg f1 ?_|refine Pg f2 ?_|refine Pg f3 ?_|refine AW.room (Dg 14 11 [3] [(9,.w)] ?_)|refine AW.room (Dg 15 11 [4] [(9,.w)] ?_)|refine Dg 20 9 [] [] ?_|rw[Ip]|rw[In]|rw[Fz]|rw[Gz]|fail)<;>first|simp[e_,n_,s_]|simp[s_]|skip)
  all_goals refine hA (i+1,out++[⟨k,true,.zero⟩]) _ (Wk.trans (Wk.softEnd 2 (out.length+1) (out.flatMap ChangeR.enc) (x':=[I k,B true,I 0,I 0,I 0,S .empty,.sl false 0 []]) rfl (by simp)) (Wk.cutAt _ rfl (by simp) ?_ (by simp) (by simp))) ⟨hi,by simp only[hal2];omega,by simpa using hcs⟩ (by simp only;omega)
  all_goals simp[ChangeR.enc,zeroN_enc]
 |true=>
  rw[hb2] at f2
  rw[if_neg (by rw[hb2];simp)] at hrc
  cases ha2:X.2 with
  |false=>
   rw[if_pos (.inl ha2)] at hrc
   subst hrc
   rw[ha2] at f1
   have s_:=An @hi (An @hwi (An @hm (An @hm' (An @hk (An @hb2 (An @ha2 (@chg_set)))))))
   try simp[s_]
   repeat' ((first|((first|refine Tp ?_|refine Tn ?_|refine T2 ?_ ?_)<;>intro h_ e_ n_)|(exact hA (i+1,out++[⟨k,false,Y.1⟩]) _ Wc ⟨hi,by simp only[hal2];omega,by simpa using hcs⟩ (by simp only;omega))|refine Pg f1 ?_|refine Pg f2 ?_|refine Pg f3 ?_|refine AW.room (Dg 14 11 [3] [(9,.w)] ?_)|refine AW.room (Dg 15 11 [4] [(9,.w)] ?_)|refine Dg 20 9 [] [] ?_|rw[Ip]|rw[In]|rw[Fz]|rw[Gz]|fail)<;>first|simp[e_,n_,s_]|simp[s_]|skip)
  |true=>
   rw[ha2] at f1
   by_cases hxy:X.1=Y.1
   ·rw[if_neg (by rw[ha2];simpa using hxy)] at hrc
    subst hrc
    rw[show decide (X.1=Y.1)=true from decide_eq_true hxy] at f3
    have s_:=An @hi (An @hwi (An @hm (An @hm' (An @hk (An @hb2 (An @ha2 (@chg_set)))))))
    try simp[s_]
    repeat' ((first|((first|refine Tp ?_|refine Tn ?_|refine T2 ?_ ?_)<;>intro h_ e_ n_)|(exact hA (i+1,out) _ Wc ⟨hi,by simp only;omega,by simpa using hcs⟩ (by simp only;omega))|refine Pg f1 ?_|refine Pg f2 ?_|refine Pg f3 ?_|refine AW.room (Dg 14 11 [3] [(9,.w)] ?_)|refine AW.room (Dg 15 11 [4] [(9,.w)] ?_)|refine Dg 20 9 [] [] ?_|rw[Ip]|rw[In]|rw[Fz]|rw[Gz]|fail)<;>first|simp[e_,n_,s_]|simp[s_]|skip)
   ·rw[if_pos (.inr hxy)] at hrc
    subst hrc
    rw[show decide (X.1=Y.1)=false from decide_eq_false hxy] at f3
    have s_:=An @hi (An @hwi (An @hm (An @hm' (An @hk (An @hb2 (An @ha2 (@chg_set)))))))
    try simp[s_]
    repeat' ((first|((first|refine Tp ?_|refine Tn ?_|refine T2 ?_ ?_)<;>intro h_ e_ n_)|(exact hA (i+1,out++[⟨k,false,Y.1⟩]) _ Wc ⟨hi,by simp only[hal2];omega,by simpa using hcs⟩ (by simp only;omega))|refine Pg f1 ?_|refine Pg f2 ?_|refine Pg f3 ?_|refine AW.room (Dg 14 11 [3] [(9,.w)] ?_)|refine AW.room (Dg 15 11 [4] [(9,.w)] ?_)|refine Dg 20 9 [] [] ?_|rw[Ip]|rw[In]|rw[Fz]|rw[Gz]|fail)<;>first|simp[e_,n_,s_]|simp[s_]|skip)
theorem stV_ok (v:VerR):Ze Tryz.prog 177 [.agg v.enc] (I v.stamp):=by
 refine Pm Tryz.func177 fun hfit=> ?_
 simp[Tryz.f177]
 try simp
 repeat' ((first|((first|refine Tp ?_|refine Tn ?_|refine T2 ?_ ?_)<;>intro h_ e_ n_)|rw[Ip]|rw[In]|rw[Fz]|rw[Gz]|fail)<;>first|simp[e_,n_]|simp|skip)
theorem atV_ok (l:List VerR) (st:Int):Ze Tryz.prog 176 [encL VerR.enc l,I st,.fn 177 []] (I (atS VerR.stamp l st)):=by
 obtain⟨F,hF⟩:∃F,atS VerR.stamp l st=F:=⟨_,rfl⟩
 rw[hF]
 unfold atS at hF
 refine Pm Tryz.func176 fun hfit=> ?_
 simp at hfit
 simp[Tryz.f176]
 refine AW.loopG (lit:=fun _=>false) (fun x:Nat×Int=>⟨25,pat [(1,I st),(2,.fn 177 []),(7,I x.2),(10,encL VerR.enc l),(11,I l.length),(12,I x.1)],[]⟩) (fun x=>l.length -x.1) (fun x=>x.1≤l.length∧atGo VerR.stamp st (l.drop x.1) x.1 x.2=F) (0,-1) ?_ ?_ ?_
 ·exact Wa
 ·exact⟨by simp,by simpa using hF⟩
 rintro⟨i,k⟩ ⟨g1,g2⟩ A hA
 simp only at g1 g2 hA
 by_cases hi:i<l.length
 case neg=>
  rw[List.drop_eq_nil_of_le (by omega),atGo] at g2
  rw[←g2]
  have s_:=hi
  try simp[s_]
  repeat' ((first|((first|refine Tp ?_|refine Tn ?_|refine T2 ?_ ?_)<;>intro h_ e_ n_)|rw[Ip]|rw[In]|rw[Fz]|rw[Gz]|fail)<;>first|simp[e_,n_,s_]|simp[s_]|skip)
 rw[List.drop_eq_getElem_cons hi,atGo] at g2
 have hwi:=Zf hi hfit.1
 have h1:=stV_ok l[i]
 by_cases q:l[i].stamp≤st
 ·rw[if_pos q] at g2
  have s_:=An @hi (An @hwi (@q))
  try simp[s_]
  repeat' ((first|((first|refine Tp ?_|refine Tn ?_|refine T2 ?_ ?_)<;>intro h_ e_ n_)|(exact hA (i+1,i) _ Wc ⟨hi,g2⟩ (by simp only;omega))|refine Pg h1 ?_|rw[Ip]|rw[In]|rw[Fz]|rw[Gz]|fail)<;>first|simp[e_,n_,s_]|simp[s_]|skip)
 ·rw[if_neg q] at g2
  have s_:=An @hi (An @hwi (@q))
  try simp[s_]
  repeat' ((first|((first|refine Tp ?_|refine Tn ?_|refine T2 ?_ ?_)<;>intro h_ e_ n_)|(exact hA (i+1,k) _ Wc ⟨hi,g2⟩ (by simp only;omega))|refine Pg h1 ?_|rw[Ip]|rw[In]|rw[Fz]|rw[Gz]|fail)<;>first|simp[e_,n_,s_]|simp[s_]|skip)
theorem stC_ok (v:CountR):Ze Tryz.prog 179 [.agg v.enc] (I v.stamp):=by
 refine Pm Tryz.func179 fun hfit=> ?_
 simp[Tryz.f179]
 try simp
 repeat' ((first|((first|refine Tp ?_|refine Tn ?_|refine T2 ?_ ?_)<;>intro h_ e_ n_)|rw[Ip]|rw[In]|rw[Fz]|rw[Gz]|fail)<;>first|simp[e_,n_]|simp|skip)
theorem atC_ok (l:List CountR) (st:Int):Ze Tryz.prog 178 [encL CountR.enc l,I st,.fn 179 []] (I (atS CountR.stamp l st)):=by
 obtain⟨F,hF⟩:∃F,atS CountR.stamp l st=F:=⟨_,rfl⟩
 rw[hF]
 unfold atS at hF
 refine Pm Tryz.func178 fun hfit=> ?_
 simp at hfit
 simp[Tryz.f178]
 refine AW.loopG (lit:=fun _=>false) (fun x:Nat×Int=>⟨25,pat [(1,I st),(2,.fn 179 []),(7,I x.2),(10,encL CountR.enc l),(11,I l.length),(12,I x.1)],[]⟩) (fun x=>l.length -x.1) (fun x=>x.1≤l.length∧atGo CountR.stamp st (l.drop x.1) x.1 x.2=F) (0,-1) ?_ ?_ ?_
 ·exact Wa
 ·exact⟨by simp,by simpa using hF⟩
 rintro⟨i,k⟩ ⟨g1,g2⟩ A hA
 simp only at g1 g2 hA
 by_cases hi:i<l.length
 case neg=>
  rw[List.drop_eq_nil_of_le (by omega),atGo] at g2
  rw[←g2]
  have s_:=hi
  try simp[s_]
  repeat' ((first|((first|refine Tp ?_|refine Tn ?_|refine T2 ?_ ?_)<;>intro h_ e_ n_)|rw[Ip]|rw[In]|rw[Fz]|rw[Gz]|fail)<;>first|simp[e_,n_,s_]|simp[s_]|skip)
 rw[List.drop_eq_getElem_cons hi,atGo] at g2
 have hwi:=Zf hi hfit.1
 have h1:=stC_ok l[i]
 by_cases q:l[i].stamp≤st
 ·rw[if_pos q] at g2
  have s_:=An @hi (An @hwi (@q))
  try simp[s_]
  repeat' ((first|((first|refine Tp ?_|refine Tn ?_|refine T2 ?_ ?_)<;>intro h_ e_ n_)|(exact hA (i+1,i) _ Wc ⟨hi,g2⟩ (by simp only;omega))|refine Pg h1 ?_|rw[Ip]|rw[In]|rw[Fz]|rw[Gz]|fail)<;>first|simp[e_,n_,s_]|simp[s_]|skip)
 ·rw[if_neg q] at g2
  have s_:=An @hi (An @hwi (@q))
  try simp[s_]
  repeat' ((first|((first|refine Tp ?_|refine Tn ?_|refine T2 ?_ ?_)<;>intro h_ e_ n_)|(exact hA (i+1,k) _ Wc ⟨hi,g2⟩ (by simp only;omega))|refine Pg h1 ?_|rw[Ip]|rw[In]|rw[Fz]|rw[Gz]|fail)<;>first|simp[e_,n_,s_]|simp[s_]|skip)
theorem Zxj (c:ChainR) (st:Int) (hl:c.l.length≤2000000):Ze Tryz.prog 112 [.agg c.enc,I st] (I (atS VerR.stamp c.l st)):=by
 have hu:=Zdo VerR.stamp c.l st
 generalize atS VerR.stamp c.l st=F at*
 obtain⟨ino,l⟩:=c
 simp only at hl hu
 have hw0:IntKind.i64.wrap ((l.length:Int) -1)=(l.length:Int) -1:=Zj (by omega) (by omega)
 refine Pm Tryz.func112 fun hfit=> ?_
 simp[Tryz.f112,ChainR.enc,hw0]
 refine AW.loopG (lit:=fun _=>false) (fun k:Int=>⟨25,pat [(1,I st),(2,.ptr 0 0 0),(5,I k)],[.cells 0 [I ino,encL VerR.enc l]]⟩) (fun k=>(k+1).toNat) (fun k=> -1≤k∧k<l.length∧∀(j:Nat) (h:j<l.length),k<j→st<l[j].stamp) ((l.length:Int) -1) ?_ ?_ ?_
 ·exact Wa
 ·exact⟨by omega,by omega,fun j h hj=>by omega⟩
 rintro k ⟨g1,g2,g3⟩ A hA
 by_cases h0:0≤k
 case neg=>
  have hk:k= -1:=by omega
  have e:F=k:=hu.uniq _ ⟨g1,g2,g3,fun h h0'=>absurd h0' h0⟩
  subst e hk
  try simp
  repeat' ((first|((first|refine Tp ?_|refine Tn ?_|refine T2 ?_ ?_)<;>intro h_ e_ n_)|rw[Ip]|rw[In]|rw[Fz]|rw[Gz]|fail)<;>first|simp[e_,n_]|simp|skip)
 obtain⟨j,rfl⟩:=Int.eq_ofNat_of_zero_le h0
 have hj:j<l.length:=by omega
 have hw:IntKind.i64.wrap ((j:Int) -1)=(j:Int) -1:=Zj (by omega) (by omega)
 by_cases q:st<l[j].stamp
 ·have s_:=An @hj (An @q (@hw))
  try simp[s_]
  repeat' ((first|((first|refine Tp ?_|refine Tn ?_|refine T2 ?_ ?_)<;>intro h_ e_ n_)|(exact hA ((j:Int) -1) _ Wc ⟨by omega,by omega,fun i h hi=>if e:i=j then by subst e;exact q else g3 i h (by omega)⟩ (by omega))|rw[Ip]|rw[In]|rw[Fz]|rw[Gz]|fail)<;>first|simp[e_,n_,s_]|simp[s_]|skip)
 ·have e:F=(j:Int):=hu.uniq _ ⟨g1,g2,g3,fun h h0'=>by simp only[Int.toNat_natCast];omega⟩
  subst e
  have s_:=An @hj (@q)
  try simp[s_]
  repeat' ((first|((first|refine Tp ?_|refine Tn ?_|refine T2 ?_ ?_)<;>intro h_ e_ n_)|rw[Ip]|rw[In]|rw[Fz]|rw[Gz]|fail)<;>first|simp[e_,n_,s_]|simp[s_]|skip)
theorem Zxk (s:StoreR) (st:Int) (hl:s.nexts.length≤2000000):Ze Tryz.prog 113 [.agg s.enc,I st] (I (atS CountR.stamp s.nexts st)):=by
 have hu:=Zdo CountR.stamp s.nexts st
 generalize atS CountR.stamp s.nexts st=F at*
 obtain⟨cs,l,stamp⟩:=s
 simp only at hl hu
 have hw0:IntKind.i64.wrap ((l.length:Int) -1)=(l.length:Int) -1:=Zj (by omega) (by omega)
 refine Pm Tryz.func113 fun hfit=> ?_
 simp[Tryz.f113,StoreR.enc,hw0]
 refine AW.loopG (lit:=fun _=>false) (fun k:Int=>⟨25,pat [(1,I st),(2,.ptr 0 0 0),(5,I k)],[.cells 0 [encL ChainR.enc cs,encL CountR.enc l,I stamp]]⟩) (fun k=>(k+1).toNat) (fun k=> -1≤k∧k<l.length∧∀(j:Nat) (h:j<l.length),k<j→st<l[j].stamp) ((l.length:Int) -1) ?_ ?_ ?_
 ·exact Wa
 ·exact⟨by omega,by omega,fun j h hj=>by omega⟩
 rintro k ⟨g1,g2,g3⟩ A hA
 by_cases h0:0≤k
 case neg=>
  have hk:k= -1:=by omega
  have e:F=k:=hu.uniq _ ⟨g1,g2,g3,fun h h0'=>absurd h0' h0⟩
  subst e hk
  try simp
  repeat' ((first|((first|refine Tp ?_|refine Tn ?_|refine T2 ?_ ?_)<;>intro h_ e_ n_)|rw[Ip]|rw[In]|rw[Fz]|rw[Gz]|fail)<;>first|simp[e_,n_]|simp|skip)
 obtain⟨j,rfl⟩:=Int.eq_ofNat_of_zero_le h0
 have hj:j<l.length:=by omega
 have hw:IntKind.i64.wrap ((j:Int) -1)=(j:Int) -1:=Zj (by omega) (by omega)
 by_cases q:st<l[j].stamp
 ·have s_:=An @hj (An @q (@hw))
  try simp[s_]
  repeat' ((first|((first|refine Tp ?_|refine Tn ?_|refine T2 ?_ ?_)<;>intro h_ e_ n_)|(exact hA ((j:Int) -1) _ Wc ⟨by omega,by omega,fun i h hi=>if e:i=j then by subst e;exact q else g3 i h (by omega)⟩ (by omega))|rw[Ip]|rw[In]|rw[Fz]|rw[Gz]|fail)<;>first|simp[e_,n_,s_]|simp[s_]|skip)
 ·have e:F=(j:Int):=hu.uniq _ ⟨g1,g2,g3,fun h h0'=>by simp only[Int.toNat_natCast];omega⟩
  subst e
  have s_:=An @hj (@q)
  try simp[s_]
  repeat' ((first|((first|refine Tp ?_|refine Tn ?_|refine T2 ?_ ?_)<;>intro h_ e_ n_)|rw[Ip]|rw[In]|rw[Fz]|rw[Gz]|fail)<;>first|simp[e_,n_,s_]|simp[s_]|skip)
theorem ZpD {c:ChainR} {st:Int} (h:atS VerR.stamp c.l st<0):Zad c st=[]:=by
 unfold Zad;rw[(ZgM VerR.stamp st c.l).1 h]
theorem ZpE {c:ChainR} {st:Int} {j:Nat} (h:atS VerR.stamp c.l st=j) (hj:j<c.l.length):Zad c st=if c.l[j].gone=true then[] else[c.l[j].node]:=by
 have:=(ZgM VerR.stamp st c.l).2 (by rw[h];exact hj) (by omega)
 simp only[h,Int.toNat_natCast] at this
 unfold Zad;rw[this]
theorem ZpF {l:List CountR} {st:Int} (h:atS CountR.stamp l st<0):nextAt l st=1:=by
 unfold nextAt;rw[(ZgM CountR.stamp st l).1 h]
theorem ZpG {l:List CountR} {st:Int} {j:Nat} (h:atS CountR.stamp l st=j) (hj:j<l.length):nextAt l st=l[j].next:=by
 have:=(ZgM CountR.stamp st l).2 (by rw[h];exact hj) (by omega)
 simp only[h,Int.toNat_natCast] at this
 unfold nextAt;rw[this]
theorem view_ok (s:StoreR) (st:Int) (hl:s.l.length≤2000000):Ze Tryz.prog 109 [.agg s.enc,I st] (encF (viewS s st)):=by
 obtain⟨cs,ns,stamp⟩:=s
 simp only at hl
 unfold viewS
 simp only
 obtain⟨F,hF⟩:∃F,(cs.flatMap fun c=>Zad c st)=F:=⟨_,rfl⟩
 rw[hF]
 have hC:=atC_ok ns st
 have hu:=Zdo CountR.stamp ns st
 have n1:=ZpF (l:=ns) (st:=st)
 have n2:=fun j=>ZpG (l:=ns) (st:=st) (j:=j)
 generalize atS CountR.stamp ns st=kn at*
 generalize nextAt ns st=nx at*
 refine Pm Tryz.func109 fun hfit=> ?_
 simp[Tryz.f109,StoreR.enc]
 refine AW.loopG (lit:=fun _=>false) (fun x:Nat×List NodeR=>⟨59,pat [(1,I st),(2,.ptr 0 0 0),(4,.ptr 1 0 0),(5,.ptr 2 0 0),(12,encL ChainR.enc cs),(13,I cs.length),(14,I x.1)],[.cells 0 [encL ChainR.enc cs,encL CountR.enc ns,I stamp],.cells 0 [.sl true 0 [],I 0],.cells 0 [.own 3 x.2.length 0 x.2.length 5,I 1],.cells x.2.length (x.2.flatMap NodeR.enc)]⟩) (fun x=>cs.length -x.1)
  (fun x=>x.1≤cs.length∧x.2.length≤x.1∧x.2++((cs.drop x.1).flatMap fun c=>Zad c st)=F) (0,[]) ?_ ?_ ?_
 ·exact Wk.trans (Wk.ownNilCell 2 0 0 5 rfl rfl) Wa
 ·exact⟨by simp,by simp,by simpa using hF⟩
 rintro⟨i,acc⟩ ⟨g1,g2,g3⟩ A hA
 simp only at g1 g2 g3 hA
 by_cases hi:i<cs.length
 case neg=>
  rw[List.drop_eq_nil_of_le (by omega),List.flatMap_nil,List.append_nil] at g3
  rw[←g3]
  by_cases h0:0≤kn
  ·obtain⟨j,rfl⟩:=Int.eq_ofNat_of_zero_le h0
   have hj:j<ns.length:=by have:=hu.hi;omega
   have n2:=n2 j rfl hj
   subst n2
   have s_:=An @hi (An @hj (@FSR.enc.eq_1))
   try simp[s_]
   repeat' ((first|((first|refine Tp ?_|refine Tn ?_|refine T2 ?_ ?_)<;>intro h_ e_ n_)|refine Pg hC ?_|refine Dg 7 11 [] [] ?_|rw[Ip]|rw[In]|rw[Fz]|rw[Gz]|fail)<;>first|simp[e_,n_,s_]|simp[s_]|skip)
  ·have n1:=n1 (by omega)
   subst n1
   have s_:=An @hi (@FSR.enc.eq_1)
   try simp[s_]
   repeat' ((first|((first|refine Tp ?_|refine Tn ?_|refine T2 ?_ ?_)<;>intro h_ e_ n_)|refine Pg hC ?_|refine Dg 7 11 [] [] ?_|rw[Ip]|rw[In]|rw[Fz]|rw[Gz]|fail)<;>first|simp[e_,n_,s_]|simp[s_]|skip)
 rw[List.drop_eq_getElem_cons hi,List.flatMap_cons] at g3
 have hwi:=Zf hi (by simp only[maxLen];omega)
 have hm:acc.length+1≤maxLen:=by simp only[maxLen];omega
 have hm':acc.length+1≤17592186044416:=by omega
 generalize hc:cs[i]=c at*
 have hV:=atV_ok c.l st
 have hv:=Zdo VerR.stamp c.l st
 have v1:=ZpD (c:=c) (st:=st)
 have v2:=fun j=>ZpE (c:=c) (st:=st) (j:=j)
 generalize atS VerR.stamp c.l st=kv at*
 by_cases h0:0≤kv
 case neg=>
  rw[v1 (by omega),List.nil_append] at g3
  have s_:=An @hi (An @hwi (An @hc (An @h0 (@ChainR.enc.eq_1))))
  try simp[s_]
  repeat' ((first|((first|refine Tp ?_|refine Tn ?_|refine T2 ?_ ?_)<;>intro h_ e_ n_)|(exact hA (i+1,acc) _ Wc ⟨hi,by simp only;omega,g3⟩ (by simp only;omega))|refine Pg hV ?_|refine Dg 7 11 [] [] ?_|rw[Ip]|rw[In]|rw[Fz]|rw[Gz]|fail)<;>first|simp[e_,n_,s_]|simp[s_]|skip)
 obtain⟨j,rfl⟩:=Int.eq_ofNat_of_zero_le h0
 have hj:j<c.l.length:=by have:=hv.hi;omega
 have v2:=v2 j rfl hj
 have hal:(acc++[c.l[j].node]).length=acc.length+1:=by simp
 cases hg:c.l[j].gone with
 |true=>
  rw[v2,if_pos hg,List.nil_append] at g3
  have s_:=An @hi (An @hwi (An @hc (An @hj (An @hg (@ChainR.enc.eq_1)))))
  try simp[s_]
  repeat' ((first|((first|refine Tp ?_|refine Tn ?_|refine T2 ?_ ?_)<;>intro h_ e_ n_)|(exact hA (i+1,acc) _ Wc ⟨hi,by simp only;omega,g3⟩ (by simp only;omega))|refine Pg hV ?_|refine Dg 7 11 [] [] ?_|rw[Ip]|rw[In]|rw[Fz]|rw[Gz]|fail)<;>first|simp[e_,n_,s_]|simp[s_]|skip)
 |false=>
  rw[v2,if_neg (by rw[hg];simp)] at g3
  have s_:=An @hi (An @hwi (An @hc (An @hj (An @hg (An @hm (An @hm' (@ChainR.enc.eq_1)))))))
  try simp[s_]
  repeat' ((first|((first|refine Tp ?_|refine Tn ?_|refine T2 ?_ ?_)<;>intro h_ e_ n_)|(exact hA (i+1,acc++[c.l[j].node]) _ Wc ⟨hi,by simp only[hal];omega,by simpa using g3⟩ (by simp only;omega))|refine Pg hV ?_|refine Dg 7 11 [] [] ?_|rw[Ip]|rw[In]|rw[Fz]|rw[Gz]|fail)<;>first|simp[e_,n_,s_]|simp[s_]|skip)
theorem ZbZ (s:StoreR) (st:Int) (hb:Zbd s):Ze Tryz.prog 57 [.agg s.enc,I st] (encF (viewS s st)):=by
 have hl:=hb.l
 have hnl:=hb.nexts
 have hcl:=hb.vers
 have hC:=Zxk s st (by omega)
 clear hb
 obtain⟨cs,ns,stamp⟩:=s
 simp only at hl hnl hcl hC
 unfold viewS
 simp only
 obtain⟨F,hF⟩:∃F,(cs.flatMap fun c=>Zad c st)=F:=⟨_,rfl⟩
 rw[hF]
 have hu:=Zdo CountR.stamp ns st
 have n1:=ZpF (l:=ns) (st:=st)
 have n2:=fun j=>ZpG (l:=ns) (st:=st) (j:=j)
 generalize atS CountR.stamp ns st=kn at*
 generalize nextAt ns st=nx at*
 refine Pm Tryz.func57 fun hfit=> ?_
 simp[Tryz.f57,StoreR.enc]
 refine AW.loopG (lit:=fun _=>false) (fun x:Nat×List NodeR=>⟨67,pat [(1,I st),(2,.ptr 0 0 0),(4,.ptr 1 0 0),(5,.ptr 2 0 0),(6,I x.1)],[.cells 0 [encL ChainR.enc cs,encL CountR.enc ns,I stamp],.cells 0 [.sl true 0 [],I 0],.cells 0 [.own 3 x.2.length 0 x.2.length 5,I 1],.cells x.2.length (x.2.flatMap NodeR.enc)]⟩) (fun x=>cs.length -x.1)
  (fun x=>x.1≤cs.length∧x.2.length≤x.1∧x.2++((cs.drop x.1).flatMap fun c=>Zad c st)=F) (0,[]) ?_ ?_ ?_
 ·exact Wk.trans (Wk.ownNilCell 2 0 0 5 rfl rfl) Wa
 ·exact⟨by simp,by simp,by simpa using hF⟩
 rintro⟨i,acc⟩ ⟨g1,g2,g3⟩ A hA
 simp only at g1 g2 g3 hA
 by_cases hi:i<cs.length
 case neg=>
  rw[List.drop_eq_nil_of_le (by omega),List.flatMap_nil,List.append_nil] at g3
  rw[←g3]
  by_cases h0:0≤kn
  ·obtain⟨j,rfl⟩:=Int.eq_ofNat_of_zero_le h0
   have hj:j<ns.length:=by have:=hu.hi;omega
   have n2:=n2 j rfl hj
   subst n2
   have s_:=An @hi (An @hj (An @FSR.enc.eq_1 (@StoreR.enc.eq_1)))
   try simp[s_]
   repeat' ((first|((first|refine Tp ?_|refine Tn ?_|refine T2 ?_ ?_)<;>intro h_ e_ n_)|refine Pg hC ?_|refine Dg 7 15 [] [] ?_|rw[Ip]|rw[In]|rw[Fz]|rw[Gz]|fail)<;>first|simp[e_,n_,s_]|simp[s_]|skip)
  ·have n1:=n1 (by omega)
   subst n1
   have s_:=An @hi (An @FSR.enc.eq_1 (@StoreR.enc.eq_1))
   try simp[s_]
   repeat' ((first|((first|refine Tp ?_|refine Tn ?_|refine T2 ?_ ?_)<;>intro h_ e_ n_)|refine Pg hC ?_|refine Dg 7 15 [] [] ?_|rw[Ip]|rw[In]|rw[Fz]|rw[Gz]|fail)<;>first|simp[e_,n_,s_]|simp[s_]|skip)
 rw[List.drop_eq_getElem_cons hi,List.flatMap_cons] at g3
 have hwi:=Zf hi (by simp only[maxLen];omega)
 have hm:acc.length+1≤maxLen:=by simp only[maxLen];omega
 have hm':acc.length+1≤17592186044416:=by omega
 have hV:=Zxj cs[i] st (by have:=hcl _ (List.getElem_mem hi);omega)
 generalize hc:cs[i]=c at*
 have hv:=Zdo VerR.stamp c.l st
 have v1:=ZpD (c:=c) (st:=st)
 have v2:=fun j=>ZpE (c:=c) (st:=st) (j:=j)
 generalize atS VerR.stamp c.l st=kv at*
 by_cases h0:0≤kv
 case neg=>
  rw[v1 (by omega),List.nil_append] at g3
  have s_:=An @hi (An @hwi (An @hc (@h0)))
  try simp[s_]
  repeat' ((first|((first|refine Tp ?_|refine Tn ?_|refine T2 ?_ ?_)<;>intro h_ e_ n_)|(exact hA (i+1,acc) _ Wc ⟨hi,by simp only;omega,g3⟩ (by simp only;omega))|refine Pg hV ?_|refine Dg 7 15 [] [] ?_|rw[Ip]|rw[In]|rw[Fz]|rw[Gz]|fail)<;>first|simp[e_,n_,s_]|simp[s_]|skip)
 obtain⟨j,rfl⟩:=Int.eq_ofNat_of_zero_le h0
 have hj:j<c.l.length:=by have:=hv.hi;omega
 have v2:=v2 j rfl hj
 have hal:(acc++[c.l[j].node]).length=acc.length+1:=by simp
 cases hg:c.l[j].gone with
 |true=>
  rw[v2,if_pos hg,List.nil_append] at g3
  have s_:=An @hi (An @hwi (An @hc (An @hj (@hg))))
  try simp[s_]
  repeat' ((first|((first|refine Tp ?_|refine Tn ?_|refine T2 ?_ ?_)<;>intro h_ e_ n_)|(exact hA (i+1,acc) _ Wc ⟨hi,by simp only;omega,g3⟩ (by simp only;omega))|refine Pg hV ?_|refine Dg 7 15 [] [] ?_|rw[Ip]|rw[In]|rw[Fz]|rw[Gz]|fail)<;>first|simp[e_,n_,s_]|simp[s_]|skip)
 |false=>
  rw[v2,if_neg (by rw[hg];simp)] at g3
  have s_:=An @hi (An @hwi (An @hc (An @hj (An @hg (An @hm (@hm'))))))
  try simp[s_]
  repeat' ((first|((first|refine Tp ?_|refine Tn ?_|refine T2 ?_ ?_)<;>intro h_ e_ n_)|(exact hA (i+1,acc++[c.l[j].node]) _ Wc ⟨hi,by simp only[hal];omega,by simpa using g3⟩ (by simp only;omega))|refine Pg hV ?_|refine Dg 7 15 [] [] ?_|rw[Ip]|rw[In]|rw[Fz]|rw[Gz]|fail)<;>first|simp[e_,n_,s_]|simp[s_]|skip)
theorem ZrP {c:ChainR} {last:Int} (h:Zes last c) (st:Int) (hl:c.l.length -1<c.l.length):ZbQ st c=decide (st<c.l[c.l.length -1].stamp):=by
 have hp:=List.pairwise_iff_getElem.1 h.rise
 unfold ZbQ
 by_cases q:st<c.l[c.l.length -1].stamp
 ·rw[decide_eq_true q]
  exact List.any_eq_true.2 ⟨_,List.getElem_mem hl,by simpa using q⟩
 ·rw[decide_eq_false q]
  rw[List.any_eq_false]
  intro v hv
  obtain⟨j,hj,rfl⟩:=List.getElem_of_mem hv
  rcases Nat.lt_or_ge j (c.l.length -1) with g|g
  ·have:=hp j (c.l.length -1) hj hl g
   simp;omega
  ·have:j=c.l.length -1:=by omega
   subst this;simpa using q
theorem ZrQ {s:StoreR} (h:ZJ s) (st:Int) (hl:s.nexts.length -1<s.nexts.length):(s.nexts.any fun c=>decide (st<c.stamp))=decide (st<s.nexts[s.nexts.length -1].stamp):=by
 have hp:=List.pairwise_iff_getElem.1 h.nrise
 by_cases q:st<s.nexts[s.nexts.length -1].stamp
 ·rw[decide_eq_true q]
  exact List.any_eq_true.2 ⟨_,List.getElem_mem hl,by simpa using q⟩
 ·rw[decide_eq_false q]
  rw[List.any_eq_false]
  intro v hv
  obtain⟨j,hj,rfl⟩:=List.getElem_of_mem hv
  rcases Nat.lt_or_ge j (s.nexts.length -1) with g|g
  ·have:=hp j (s.nexts.length -1) hj hl g
   simp;omega
  ·have:j=s.nexts.length -1:=by omega
   subst this;simpa using q
theorem Zxl (s:StoreR) (st:Int) (hP:ZJ s) (hb:Zbd s):Ze Tryz.prog 173 [.agg s.enc,I st] (enc1 I (sinceS s st)):=by
 have hl:=hb.l
 have hnl:=hb.nexts
 have hcl:=hb.vers
 have hcs:=hP.chain
 have hn0:s.nexts.length -1<s.nexts.length:=by have:=List.length_pos_iff.2 hP.some;omega
 have hnx:=ZrQ hP st hn0
 have hwn:IntKind.i64.wrap ((s.nexts.length:Int) -1)=((s.nexts.length -1:Nat):Int):=by rw[Zj (by omega) (by omega)];omega
 unfold sinceS Zbc
 rw[hnx]
 clear hb hnx
 obtain⟨cs,ns,stamp⟩:=s
 clear hP
 simp only at*
 obtain⟨F,hF⟩:∃F,(cs.filter (ZbQ st)).map (·.ino)=F:=⟨_,rfl⟩
 rw[hF]
 refine Ze.mk (fun t=>t==52) Tryz.func173 rfl rfl rfl (Ent.mk Tryz.func173 (by kernel_rfl) rfl) (by simp) (by simp) fun hfit=> ?_
 simp[Tryz.f173,StoreR.enc]
 refine AW.loopG (lit:=fun t=>t==52) (fun x:Nat×List Int=>⟨51,pat [(1,I st),(2,.ptr 0 0 0),(5,.own 1 x.2.length 0 x.2.length 1),(9,encL ChainR.enc cs),(10,I cs.length),(11,I x.1)],[.cells 0 [encL ChainR.enc cs,encL CountR.enc ns,I stamp],.cells x.2.length (x.2.map I)]⟩) (fun x=>cs.length -x.1)
  (fun x=>x.1≤cs.length∧x.2.length≤x.1∧x.2++((cs.drop x.1).filter (ZbQ st)).map (·.ino)=F) (0,[]) ?_ ?_ ?_
 ·exact Wk.trans (Wk.ownNil 5 1 (by simp)) Wa
 ·exact⟨by simp,by simp,by simpa using hF⟩
 rintro⟨i,acc⟩ ⟨g1,g2,g3⟩ A hA
 simp only at g1 g2 g3 hA
 have hm:acc.length+1≤maxLen:=by simp only[maxLen];omega
 have hm':acc.length+1≤17592186044416:=by omega
 by_cases hi:i<cs.length
 case neg=>
  rw[List.drop_eq_nil_of_le (by omega),List.filter_nil,List.map_nil,List.append_nil] at g3
  subst g3
  have hx:1+acc.length=acc.length+1:=by omega
  have hm2:1+acc.length≤maxLen:=by simp only[maxLen];omega
  have hm3:1+acc.length≤17592186044416:=by omega
  by_cases q1:acc=[]
  ·subst q1
   by_cases q2:st<ns[ns.length -1].stamp
   ·have s_:=An @hi (An @hn0 (An @hwn (@q2)))
    try simp[s_]
    repeat' ((first|((first|refine Tp ?_|refine Tn ?_|refine T2 ?_ ?_)<;>intro h_ e_ n_)|rw[Ip]|rw[In]|rw[Fz]|rw[Gz]|fail)<;>first|simp[e_,n_,s_]|simp[s_]|skip)
   ·have s_:=An @hi (An @hn0 (An @hwn (@q2)))
    try simp[s_]
    repeat' ((first|((first|refine Tp ?_|refine Tn ?_|refine T2 ?_ ?_)<;>intro h_ e_ n_)|rw[Ip]|rw[In]|rw[Fz]|rw[Gz]|fail)<;>first|simp[e_,n_,s_]|simp[s_]|skip)
  ·have q3:0<acc.length:=List.length_pos_iff.2 q1
   have s_:=An @hi (An @q1 (An @q3 (An @hm2 (An @hm3 (@hx)))))
   try simp[s_]
   repeat' ((first|((first|refine Tp ?_|refine Tn ?_|refine T2 ?_ ?_)<;>intro h_ e_ n_)|rw[Ip]|rw[In]|rw[Fz]|rw[Gz]|fail)<;>first|simp[e_,n_,s_]|simp[s_]|skip)
 rw[List.drop_eq_getElem_cons hi] at g3
 have hwi:=Zf hi (by simp only[maxLen];omega)
 have hP:=hcs _ (List.getElem_mem hi)
 have hvl:=hcl _ (List.getElem_mem hi)
 generalize hc:cs[i]=c at*
 have hv0:c.l.length -1<c.l.length:=by have:=List.length_pos_iff.2 hP.some;omega
 have hlt:=ZrP hP st hv0
 have hwv:IntKind.i64.wrap ((c.l.length:Int) -1)=((c.l.length -1:Nat):Int):=by rw[Zj (by omega) (by omega)];omega
 have hal:(acc++[c.ino]).length=acc.length+1:=by simp
 by_cases q:st<c.l[c.l.length -1].stamp
 ·rw[List.filter_cons_of_pos (by rw[hlt];simpa using q),List.map_cons] at g3
  have s_:=An @hi (An @hwi (An @hc (An @hv0 (An @hwv (An @q (An @hm (An @hm' (@ChainR.enc.eq_1))))))))
  try simp[s_]
  repeat' ((first|((first|refine Tp ?_|refine Tn ?_|refine T2 ?_ ?_)<;>intro h_ e_ n_)|(exact hA (i+1,acc++[c.ino]) _ Wc ⟨hi,by simp only[hal];omega,by simpa using g3⟩ (by simp only;omega))|rw[Ip]|rw[In]|rw[Fz]|rw[Gz]|fail)<;>first|simp[e_,n_,s_]|simp[s_]|skip)
 ·rw[List.filter_cons_of_neg (by rw[hlt];simpa using q)] at g3
  have s_:=An @hi (An @hwi (An @hc (An @hv0 (An @hwv (An @q (@ChainR.enc.eq_1))))))
  try simp[s_]
  repeat' ((first|((first|refine Tp ?_|refine Tn ?_|refine T2 ?_ ?_)<;>intro h_ e_ n_)|(exact hA (i+1,acc) _ Wc ⟨hi,by simp only;omega,g3⟩ (by simp only;omega))|rw[Ip]|rw[In]|rw[Fz]|rw[Gz]|fail)<;>first|simp[e_,n_,s_]|simp[s_]|skip)
theorem Zvf (s:StoreR) (st:Int) (hb:Zbd s):Ze Tryz.prog 108 [.agg s.enc,I st] (enc1 I (sinceS s st)):=by
 have hl:=hb.l
 have hnl:=hb.nexts
 have hcl:=hb.vers
 unfold sinceS Zbc
 clear hb
 obtain⟨cs,ns,stamp⟩:=s
 simp only at*
 obtain⟨F,hF⟩:∃F,(cs.filter (ZbQ st)).map (·.ino)=F:=⟨_,rfl⟩
 rw[hF]
 obtain⟨V,hV⟩:∃V,(if F≠[]∨(ns.any fun c=>decide (st<c.stamp))=true then 0::F else[])=V:=⟨_,rfl⟩
 rw[hV]
 refine Ze.mk (fun t=>t==52) Tryz.func108 rfl rfl rfl (Ent.mk Tryz.func108 (by kernel_rfl) rfl) (by simp) (by simp) fun hfit=> ?_
 simp[Tryz.f108,StoreR.enc]
 refine AW.loopG (lit:=fun t=>t==52) (fun x:Nat×List Int=>⟨76,pat [(1,I st),(2,.ptr 0 0 0),(5,.own 1 x.2.length 0 (x.2.length+1) 1),(6,B (decide (x.2≠[]))),(7,I x.1)],[.cells 0 [encL ChainR.enc cs,encL CountR.enc ns,I stamp],.cells x.2.length (I 0::x.2.map I)]⟩) (fun x=>cs.length -x.1)
  (fun x=>x.1≤cs.length∧x.2.length≤x.1∧x.2++((cs.drop x.1).filter (ZbQ st)).map (·.ino)=F) (0,[]) ?_ ?_ ?_
 ·exact Wa
 ·exact⟨by simp,by simp,by simpa using hF⟩
 rintro⟨i,acc⟩ ⟨g1,g2,g3⟩ A hA
 simp only at g1 g2 g3 hA
 have hm:acc.length+1+1≤maxLen:=by simp only[maxLen];omega
 have hm':acc.length+1+1≤17592186044416:=by omega
 by_cases hi:i<cs.length
 case neg=>
  rw[List.drop_eq_nil_of_le (by omega),List.filter_nil,List.map_nil,List.append_nil] at g3
  subst g3
  obtain⟨mo,hmo⟩:∃mo,decide (acc≠[])=mo:=⟨_,rfl⟩
  obtain⟨M,hM⟩:∃M,(mo||ns.any fun c=>decide (st<c.stamp))=M:=⟨_,rfl⟩
  have hc:(acc≠[]∨(ns.any fun c=>decide (st<c.stamp))=true)↔M=true:=by
   rw[←hM,Bool.or_eq_true,←hmo,decide_eq_true_eq]
  have hcM:(if acc≠[]∨(ns.any fun c=>decide (st<c.stamp))=true then 0::acc else[])=if M=true then 0::acc else[]:=by
   by_cases q:M=true
   ·rw[if_pos q,if_pos (hc.2 q)]
   ·rw[if_neg q,if_neg (fun g=>q (hc.1 g))]
  rw[hcM] at hV
  clear hcM
  rw[hmo]
  have s_:=hi
  try simp[s_]
  repeat' ((first|((first|refine Tp ?_|refine Tn ?_|refine T2 ?_ ?_)<;>intro h_ e_ n_)|rw[Ip]|rw[In]|rw[Fz]|rw[Gz]|fail)<;>first|simp[e_,n_,s_]|simp[s_]|skip)
  refine AW.loopG (lit:=fun t=>t==52) (fun x:Nat×Bool=>⟨76,pat [(2,.ptr 0 0 0),(1,I st),(5,.own 1 acc.length 0 (acc.length+1) 1),(6,B x.2),(10,I x.1)],[.cells 0 [encL ChainR.enc cs,encL CountR.enc ns,I stamp],.cells acc.length (I 0::acc.map I)]⟩) (fun x=>ns.length -x.1)
   (fun x=>x.1≤ns.length∧(x.2||(ns.drop x.1).any fun c=>decide (st<c.stamp))=M) (0,mo) ?_ ?_ ?_
  ·exact Wc
  ·exact⟨by simp,by simpa using hM⟩
  rintro⟨k,b⟩ ⟨k1,k2⟩ B hB
  simp only at k1 k2 hB
  by_cases hk:k<ns.length
  case neg=>
   rw[List.drop_eq_nil_of_le (by omega),List.any_nil,Bool.or_false] at k2
   subst k2
   cases b with
   |true=>
    rw[if_pos rfl] at hV
    subst hV
    have s_:=hk
    try simp[s_]
    repeat' ((first|((first|refine Tp ?_|refine Tn ?_|refine T2 ?_ ?_)<;>intro h_ e_ n_)|rw[Ip]|rw[In]|rw[Fz]|rw[Gz]|fail)<;>first|simp[e_,n_,s_]|simp[s_]|skip)
   |false=>
    rw[if_neg (by simp)] at hV
    subst hV
    have s_:=hk
    try simp[s_]
    repeat' ((first|((first|refine Tp ?_|refine Tn ?_|refine T2 ?_ ?_)<;>intro h_ e_ n_)|rw[Ip]|rw[In]|rw[Fz]|rw[Gz]|fail)<;>first|simp[e_,n_,s_]|simp[s_]|skip)
  have hwk:=Zf hk (by simp only[maxLen];omega)
  rw[List.drop_eq_getElem_cons hk,List.any_cons] at k2
  cases b with
  |true=>
   have s_:=An @hk (@hwk)
   try simp[s_]
   repeat' ((first|((first|refine Tp ?_|refine Tn ?_|refine T2 ?_ ?_)<;>intro h_ e_ n_)|(exact hB (k+1,true) _ Wc ⟨hk,by simpa using k2⟩ (by simp only;omega))|rw[Ip]|rw[In]|rw[Fz]|rw[Gz]|fail)<;>first|simp[e_,n_,s_]|simp[s_]|skip)
  |false=>
   by_cases q:st<ns[k].stamp
   ·rw[decide_eq_true q] at k2
    have s_:=An @hk (An @hwk (@q))
    try simp[s_]
    repeat' ((first|((first|refine Tp ?_|refine Tn ?_|refine T2 ?_ ?_)<;>intro h_ e_ n_)|(exact hB (k+1,true) _ Wc ⟨hk,by simpa using k2⟩ (by simp only;omega))|rw[Ip]|rw[In]|rw[Fz]|rw[Gz]|fail)<;>first|simp[e_,n_,s_]|simp[s_]|skip)
   ·rw[decide_eq_false q] at k2
    have s_:=An @hk (An @hwk (@q))
    try simp[s_]
    repeat' ((first|((first|refine Tp ?_|refine Tn ?_|refine T2 ?_ ?_)<;>intro h_ e_ n_)|(exact hB (k+1,false) _ Wc ⟨hk,by simpa using k2⟩ (by simp only;omega))|rw[Ip]|rw[In]|rw[Fz]|rw[Gz]|fail)<;>first|simp[e_,n_,s_]|simp[s_]|skip)
 rw[List.drop_eq_getElem_cons hi] at g3
 have hwi:=Zf hi (by simp only[maxLen];omega)
 have hvl:=hcl _ (List.getElem_mem hi)
 generalize hc:cs[i]=c at*
 have hal:(acc++[c.ino]).length=acc.length+1:=by simp
 have s_:=An @hi (@hc)
 try simp[s_]
 repeat' ((first|((first|refine Tp ?_|refine Tn ?_|refine T2 ?_ ?_)<;>intro h_ e_ n_)|rw[Ip]|rw[In]|rw[Fz]|rw[Gz]|fail)<;>first|simp[e_,n_,s_]|simp[s_]|skip)
 obtain⟨M,hM⟩:∃M,ZbQ st c=M:=⟨_,rfl⟩
 refine AW.loopG (lit:=fun t=>t==52) (fun x:Nat×Bool=>⟨76,pat [(1,I st),(2,.ptr 0 0 0),(5,.own 1 acc.length 0 (acc.length+1) 1),(6,B (decide (acc≠[]))),(7,I i),(8,B x.2),(9,I x.1)],[.cells 0 [encL ChainR.enc cs,encL CountR.enc ns,I stamp],.cells acc.length (I 0::acc.map I)]⟩) (fun x=>c.l.length -x.1)
  (fun x=>x.1≤c.l.length∧(x.2||(c.l.drop x.1).any fun v=>decide (st<v.stamp))=M) (0,false) ?_ ?_ ?_
 ·exact Wc
 ·exact⟨by simp,by simp only[List.drop_zero,Bool.false_or];exact hM⟩
 rintro⟨k,b⟩ ⟨k1,k2⟩ B hB
 simp only at k1 k2 hB
 by_cases hk:k<c.l.length
 case neg=>
  rw[List.drop_eq_nil_of_le (by omega),List.any_nil,Bool.or_false] at k2
  subst k2
  cases b with
  |true=>
   rw[List.filter_cons_of_pos hM,List.map_cons] at g3
   have s_:=An @hi (An @hwi (An @hc (An @hk (An @hm (An @hm' (@ChainR.enc.eq_1))))))
   try simp[s_]
   repeat' ((first|((first|refine Tp ?_|refine Tn ?_|refine T2 ?_ ?_)<;>intro h_ e_ n_)|(exact hA (i+1,acc++[c.ino]) _ Wc ⟨hi,by simp only[hal];omega,by simpa using g3⟩ (by simp only;omega))|rw[Ip]|rw[In]|rw[Fz]|rw[Gz]|fail)<;>first|simp[e_,n_,s_]|simp[s_]|skip)
  |false=>
   rw[List.filter_cons_of_neg (by rw[hM];simp)] at g3
   have s_:=An @hi (An @hwi (An @hc (@hk)))
   try simp[s_]
   repeat' ((first|((first|refine Tp ?_|refine Tn ?_|refine T2 ?_ ?_)<;>intro h_ e_ n_)|(exact hA (i+1,acc) _ Wc ⟨hi,by simp only;omega,g3⟩ (by simp only;omega))|rw[Ip]|rw[In]|rw[Fz]|rw[Gz]|fail)<;>first|simp[e_,n_,s_]|simp[s_]|skip)
 have hwk:=Zf hk (by simp only[maxLen];omega)
 rw[List.drop_eq_getElem_cons hk,List.any_cons] at k2
 cases b with
 |true=>
  have s_:=An @hi (An @hc (An @hk (An @hwk (@ChainR.enc.eq_1))))
  try simp[s_]
  repeat' ((first|((first|refine Tp ?_|refine Tn ?_|refine T2 ?_ ?_)<;>intro h_ e_ n_)|(exact hB (k+1,true) _ Wc ⟨hk,by simpa using k2⟩ (by simp only;omega))|rw[Ip]|rw[In]|rw[Fz]|rw[Gz]|fail)<;>first|simp[e_,n_,s_]|simp[s_]|skip)
 |false=>
  by_cases q:st<c.l[k].stamp
  ·rw[decide_eq_true q] at k2
   have s_:=An @hi (An @hc (An @hk (An @hwk (An @q (@ChainR.enc.eq_1)))))
   try simp[s_]
   repeat' ((first|((first|refine Tp ?_|refine Tn ?_|refine T2 ?_ ?_)<;>intro h_ e_ n_)|(exact hB (k+1,true) _ Wc ⟨hk,by simpa using k2⟩ (by simp only;omega))|rw[Ip]|rw[In]|rw[Fz]|rw[Gz]|fail)<;>first|simp[e_,n_,s_]|simp[s_]|skip)
  ·rw[decide_eq_false q] at k2
   have s_:=An @hi (An @hc (An @hk (An @hwk (An @q (@ChainR.enc.eq_1)))))
   try simp[s_]
   repeat' ((first|((first|refine Tp ?_|refine Tn ?_|refine T2 ?_ ?_)<;>intro h_ e_ n_)|(exact hB (k+1,false) _ Wc ⟨hk,by simpa using k2⟩ (by simp only;omega))|rw[Ip]|rw[In]|rw[Fz]|rw[Gz]|fail)<;>first|simp[e_,n_,s_]|simp[s_]|skip)
theorem Zvg (l:List ChainR) (hl:l.length≤1000000):XCall Tryz.prog 213 [encL ChainR.enc l] [] (.own 0 0 0 l.length 2) [.cells 0 (l.flatMap ChainR.enc)]:=by
 refine XCall.mkE 2 (fun _=>false) Tryz.func213 rfl rfl rfl (Ent.mk Tryz.func213 (by kernel_rfl) rfl) (by simp) (by simp) (by simp) (by simp) (by simp) fun hfit=> ?_
 simp at hfit
 simp[Tryz.f213]
 rw[if_pos (by simp only[maxLen];omega)]
 simp
 intro h0
 subst h0
 simp
theorem ZrR (l:List ChainR) (i:Nat) (x:ChainR) (hi:i≤l.length) (hl:l.length≤1000000):XCall Tryz.prog 214 [.own 0 0 0 l.length 2,I i,.sl true 1 x.enc] [.cells 0 (l.flatMap ChainR.enc)] (.own 0 1 0 (l.length+1) 2) [.cells 1 ((insL l i x).flatMap ChainR.enc)]:=by
 by_cases hi2:i=l.length
 case pos=>
  subst hi2
  refine XCall.mkG (fun s (_:Unit)=>s) (fun _=>false) Tryz.func214 rfl rfl rfl (Ent.mk Tryz.func214 (by kernel_rfl) rfl) (by simp) (by simp) (by simp) (by simp) (by simp) fun hfit=> ?_
  refine⟨WkE.one _ _,fun _=> ?_⟩
  simp[Tryz.f214]
  rw[if_pos (by simp only[maxLen];omega)]
  simp
  exact⟨_,Wk.refl _ _,by simp[Zkf]⟩
 have hi3:i<l.length:=by omega
 have hcp:∀cap,l.length≤cap→(l.length*2+(cap*2 -l.length*2))/2=cap:=fun cap h=>by omega
 have hw1:IntKind.i64.wrap ((l.length:Int)+1)=((l.length+1:Nat):Int):=by rw[Zj (by omega) (by omega)];omega
 have hw2:IntKind.i64.wrap ((i:Int)+1)=((i+1:Nat):Int):=by rw[Zj (by omega) (by omega)];omega
 have hw3:IntKind.i64.wrap ((l.length:Int)+1 -i)=((l.length+1 -i:Nat):Int):=by rw[Zj (by omega) (by omega)];omega
 have hw4:((i:Int)+((l.length+1 -i:Nat):Int)).toNat=l.length+1:=by omega
 have hm1:min 1 (l.length+1 -i)=1:=by omega
 have hm2:∀cap,l.length≤cap→min (i*2) (l.length*2+(cap*2 -l.length*2))=i*2:=fun cap h=>by omega
 have hov:∀(lb:Nat) (h:Zb) (y:ABlk) (Q:AV→Zb→Prop),h[0]? =some y→(blkCells y).map (·.1)=some 0→Q (B false) h→AInv Tryz.prog (.fn 238 []) [.sl true 1 x.enc,.own 0 0 (i+1) lb 2] h Q:=fun lb h y Q hy hv hq=>
  Zew Tryz.func238 (by kernel_rfl) rfl (by kernel_rfl) rfl rfl (by kernel_rfl) (k:=2) (by kernel_rfl) true 1 _ _ 0 0 (i+1) lb hy hv (by omega) Q hq
 refine XCall.mkG (fun s (cap:{cap:Nat//l.length≤cap∧cap≤maxLen})=>ZfF s 0 0 2 (l.flatMap ChainR.enc) cap.1) (fun _=>false) Tryz.func214 rfl rfl rfl (Ent.mk Tryz.func214 (by kernel_rfl) rfl) (by simp) (by simp) (by simp) (by simp) (by simp) fun hfit=> ?_
 refine⟨WkE.full (t:=0) (by simp) (by simp) (by omega) (by simp),?_⟩
 rintro⟨cap,hc1,hc2⟩
 have hcp1:=hcp cap hc1
 have hm3:=hm2 cap hc1
 have hi4:¬i=l.length:=by omega
 have hle:i≤l.length:=by omega
 generalize hA:List.replicate (cap*2 -l.length*2) AV.any=A
 have hAl:A.length=cap*2 -l.length*2:=by rw[←hA];simp
 have hLl:(l.flatMap ChainR.enc).length=l.length*2:=ZiN l
 have hta:(l.flatMap ChainR.enc++A).take (i*2)=(l.flatMap ChainR.enc).take (i*2):=List.take_append_of_le_length (by rw[hLl];omega)
 have hdr:(l.flatMap ChainR.enc).drop (i*2)=(l.drop i).flatMap ChainR.enc:=Zlk l i
 have hq0:(l.flatMap ChainR.enc++A).drop (i*2)=(l.drop i).flatMap ChainR.enc++A:=by rw[List.drop_append_of_le_length (by rw[hLl];omega),hdr]
 have hdl:((l.drop i).flatMap ChainR.enc).length=l.length*2 -i*2:=by rw[ZiN,List.length_drop];omega
 by_cases hr:l.length+1≤cap
 ·have hm4:min (l.length+1 -i) (l.length -i)=l.length -i:=by omega
  have hm5:min ((l.length+1 -i)*2) ((l.length -i)*2+(cap*2 -l.length*2))=(l.length+1 -i)*2:=by omega
  have hm6:min ((l.length+1 -i)*2) (l.length*2+(cap*2 -l.length*2) -i*2)=(l.length+1 -i)*2:=by omega
  have hq1:List.take ((l.length -i)*2) (List.take ((l.length+1 -i)*2) ((l.drop i).flatMap ChainR.enc++A))=(l.drop i).flatMap ChainR.enc:=by
   rw[List.take_take,Nat.min_eq_left (by omega),List.take_left' (by rw[hdl];omega)]
  have hq2:(putAt (l.flatMap ChainR.enc++A) ((i+1)*2) ((l.drop i).flatMap ChainR.enc)).length=cap*2:=by
   rw[Zak (by rw[List.length_append,hLl,hAl,hdl];omega),List.length_append,hLl,hAl];omega
  have hq3:(putAt (putAt (l.flatMap ChainR.enc++A) ((i+1)*2) ((l.drop i).flatMap ChainR.enc)) (i*2) x.enc).take ((l.length+1)*2)=(insL l i x).flatMap ChainR.enc:=by
   have:=Zkd (L:=l.flatMap ChainR.enc) (A:=A) (X:=x.enc) (a:=i*2) (k:=2) hLl (by omega) rfl (by rw[hAl];omega)
   rw[ZiR,hq0,List.take_left' (by rw[hdl])] at this
   rw[show(i+1)*2=i*2+2 by omega,show(l.length+1)*2=l.length*2+2 by omega]
   exact this
  have hone:∀y∈(l.drop i).flatMap ChainR.enc,ZH y=true:=List.all_eq_true.1 (ZiM _)
  simp[Tryz.f214,ZfF,hA]
  have s_:=An @hcp1 (An @hw1 (An @hw2 (An @hw3 (An @hw4 (An @hm1 (An @hm3 (An @hm4 (An @hq0 (An @hq1 (An @hq2 (An @hi3 (An @hi4 (An @hle (@hr))))))))))))))
  try simp[s_]
  repeat' ((first|((first|refine Tp ?_|refine Tn ?_|refine T2 ?_ ?_)<;>intro h_ e_ n_)|(refine hov _ _ _ _ rfl rfl ?_;simp)|(refine optBif ⟨rfl,by rw[List.length_append,hLl,hAl];omega,by rw[List.length_take,List.length_append,hdl,hAl];omega,by rw[hm4,hq1];exact hone⟩ ?_;simp)|refine Dg 11 9 [] [] ?_|refine Dg 15 9 [] [] ?_|rw[Ip]|rw[In]|rw[Fz]|rw[Gz]|fail)<;>first|simp[e_,n_,s_]|simp[s_]|skip)
  exact⟨_,Wk.trans (Wk.prefix 0 0 ((l.length+1)*2) rfl rfl) (Wk.bump 6 0 0 0 (l.length+1) 2 (by simp) rfl),by simp[hq3]⟩
 ·have hm5:min ((l.length -i)*2) ((l.length -i)*2+(cap*2 -l.length*2))=(l.length -i)*2:=by omega
  have hq1:List.take ((l.length -i)*2) (List.take ((l.length -i)*2) ((l.drop i).flatMap ChainR.enc++A))=(l.drop i).flatMap ChainR.enc:=by
   rw[List.take_take,Nat.min_self,List.take_left' (by rw[hdl];omega)]
  have hq4:List.take ((l.length -i)*2) ((l.drop i).flatMap ChainR.enc)=(l.drop i).flatMap ChainR.enc:=List.take_of_length_le (by rw[hdl];omega)
  have hone:∀y∈(l.drop i).flatMap ChainR.enc,ZH y=true:=List.all_eq_true.1 (ZiM _)
  simp[Tryz.f214,ZfF,hA]
  generalize hZ:(List.replicate (l.length+1 -i) [AV.val (Value.int IntKind.i64 0),AV.sl true 0 []]).flatten=Z
  have hZl:Z.length=(l.length+1 -i)*2:=by rw[←hZ];simp
  have hta':((l.flatMap ChainR.enc).take (i*2)).length=i*2:=by rw[List.length_take,hLl];omega
  have hq2:(putAt ((l.flatMap ChainR.enc).take (i*2)++Z) (i*2) x.enc).length=(l.length+1)*2:=by
   rw[Zak (by rw[List.length_append,hta',hZl,ZmW];omega),List.length_append,hta',hZl];omega
  have hq3:putAt (putAt ((l.flatMap ChainR.enc).take (i*2)++Z) (i*2) x.enc) ((i+1)*2) ((l.drop i).flatMap ChainR.enc)=(insL l i x).flatMap ChainR.enc:=by
   have:=Zke (L:=l.flatMap ChainR.enc) (A:=A) (X:=x.enc) (Z:=Z) (a:=i*2) (k:=2) hLl (by omega) rfl (by rw[hZl];omega)
   rw[ZiR,hta,hq0,List.take_left' (by rw[hdl])] at this
   rw[show(i+1)*2=i*2+2 by omega]
   exact this
  have s_:=An @hcp1 (An @hw1 (An @hw2 (An @hw3 (An @hw4 (An @hm1 (An @hm3 (An @hq0 (An @hq1 (An @hq4 (An @hta (An @hZ (An @hi3 (An @hi4 (An @hle (@hr)))))))))))))))
  try simp[s_]
  repeat' ((first|((first|refine Tp ?_|refine Tn ?_|refine T2 ?_ ?_)<;>intro h_ e_ n_)|(refine optBif ⟨by rw[hq2];omega,hone⟩ ?_;simp)|refine Dg 11 9 [] [] ?_|refine Dg 15 9 [] [] ?_|rw[Ip]|rw[In]|rw[Fz]|rw[Gz]|fail)<;>first|simp[e_,n_,s_]|simp[s_]|skip)
  exact⟨_,Wk.move 6 0 1 0 0 (l.length+1) 2 (by decide) (by simp;omega) rfl rfl rfl,by simp[hq3]⟩
theorem _root_.Go.Cx.XCall.soft {P:Program} {f:FuncId} {args args':List AV} {h0 h1:Zb} {v:AV} (h:XCall P f args' h0 v h1) (ha:args.all (refsLt h0.length)=true) (hs:∀Z w κ cs,Rs Z w κ args cs→Rs Z w κ args' cs):XCall P f args h0 v h1:=
 ⟨ha,h.heap,h.val,h.len,h.heap1,⟨h.call.1,fun Z κ w cargs r hr=>h.call.2 Z κ w cargs r (hs Z w κ cargs hr)⟩⟩
theorem insH_ok (l:List ChainR) (i:Nat) (ino:Int) (v:VerR) (hi:i≤l.length) (hl:l.length≤1000000):XCall Tryz.prog 214 [.own 0 0 0 l.length 2,I i,.sl true 1 [I ino,.sl true 1 v.enc]] [.cells 0 (l.flatMap ChainR.enc)] (.own 0 1 0 (l.length+1) 2) [.cells 1 ((insL l i ⟨ino,[v]⟩).flatMap ChainR.enc)]:=by
 refine(ZrR l i ⟨ino,[v]⟩ hi hl).soft (by simp) fun Z w κ cs h=> ?_
 cases h with
 |cons a h=>
  cases h with
  |cons b h=>
   cases h with
   |cons c h=>
    cases h
    refine .cons a (.cons b (.cons ?_ .nil))
    cases c with
    |sl h0 h1 h2 h3 h4 h5 h6=>
     cases h6 with
     |cons x y=>
      cases y with
      |cons y z=>
       cases z
       exact .sl h0 h1 h2 h3 h4 h5 (.cons x (.cons (by simpa[encL] using y.loose) .nil))
theorem Zxm {l:List ChainR} {i:Nat} (hi:i<l.length) (h:i*2<(l.flatMap ChainR.enc).length):(l.flatMap ChainR.enc)[i*2]=I l[i].ino:=by
 have h0:=Zfb hi
 have h1:=congrArg (fun x=>x[0]?) h0
 rw[List.getElem?_take_of_lt (by omega),List.getElem?_drop,Nat.add_zero,List.getElem?_eq_getElem h] at h1
 simpa[ChainR.enc] using h1
theorem chl_at {l:List ChainR} {i:Nat} (hi:i<l.length):(l.flatMap ChainR.enc)[i*2+1]? =some (encL VerR.enc l[i].l):=by
 have h0:=Zfb hi
 have h1:=congrArg (fun x=>x[1]?) h0
 rw[List.getElem?_take_of_lt (by omega),List.getElem?_drop] at h1
 simpa[ChainR.enc] using h1
theorem ZpH {h:Zb} {f:Nat} {x x':AV} (hx:frz h 0 (f+1) x=some x'):∀{cs:List AV} {j:Nat},cs.all neat=true→j<cs.length→frzs h 0 (f+1) (cs.set j x)=some (cs.set j x')
 |[],j,_,hj=>by simp at hj
 |c::cs,0,hc,_=>by
  rw[List.all_cons,Bool.and_eq_true] at hc
  rw[List.set_cons_zero,Zho,hx,ZbL hc.2];rfl
 |c::cs,j+1,hc,hj=>by
  rw[List.all_cons,Bool.and_eq_true] at hc
  rw[List.set_cons_succ,Zho,Zdf _ _ _ hc.1,ZpH hx hc.2 (by simpa using hj)];rfl
theorem frzOwn_set {h:Zb} {f ver m k j:Nat} {cs:List AV} {x x':AV} (hc:cs.all neat=true) (hl:cs.length=m*k) (hj:j<cs.length) (hm:m≠0) (hx:frz h 0 (f+1) x=some x'):
  Zeq h (f+1) ver 0 m k (some (.cells ver (cs.set j x)))=some (.sl false m (cs.set j x')):=by
 have hl':(cs.set j x).length=m*k:=by simpa using hl
 simp only[Zeq,true_and,Nat.zero_add,Nat.zero_mul,List.drop_zero]
 rw[if_pos (by omega),if_neg hm,List.take_of_length_le (by omega),ZpH hx hc hj];rfl
theorem Zmo:∀{l:List ChainR} {i:Nat} (hi:i<l.length) (y:List VerR),(l.flatMap ChainR.enc).set (i*2+1) (encL VerR.enc y)=(l.set i ⟨l[i].ino,y⟩).flatMap ChainR.enc
 |[],i,hi,_=>by simp at hi
 |c::l,0,_,y=>by simp[ChainR.enc]
 |c::l,i+1,hi,y=>by
  have ih:=Zmo (l:=l) (i:=i) (by simpa using hi) y
  have e:(i+1)*2+1=(i*2+1)+1+1:=by omega
  rw[e]
  simp only[List.flatMap_cons,ChainR.enc,List.cons_append,List.nil_append,List.set_cons_succ,List.getElem_cons_succ] at ih⊢
  rw[ih]
theorem ZjD {ino:Int} {v:VerR}:∀{l:List ChainR} {i:Nat},i≤l.length→(∀(j:Nat) (h:j<l.length),j<i→l[j].ino<ino)→withS l ino v=l.take i++withS (l.drop i) ino v
 |l,0,_,_=>by simp
 |[],i+1,h,_=>by simp at h
 |c::l,i+1,h,hj=>by
  have h0:=hj 0 (by simp) (by omega)
  simp only[List.getElem_cons_zero] at h0
  have ih:=ZjD (ino:=ino) (v:=v) (l:=l) (i:=i) (by simpa using h) fun j h hji=>by
   have:=hj (j+1) (by simpa using h) (by omega)
   simpa using this
  rw[withS,if_neg (by omega),if_neg (by omega),ih]
  simp
theorem Zvh {l:List VerR} {v:VerR} (hr:l.Pairwise fun a b=>a.stamp<b.stamp) (hm:∀x∈l,x.stamp≤v.stamp) (hl:l.length -1<l.length):addV l v=(if l[l.length -1].stamp=v.stamp then l.take (l.length -1) else l)++[v]:=by
 have hp:=List.pairwise_iff_getElem.1 hr
 unfold addV
 congr 1
 have hlt:∀(j:Nat) (h:j<l.length),j<l.length -1→l[j].stamp<v.stamp:=fun j h hj=>by
  have h1:=hp j (l.length -1) h hl hj
  have h2:=hm _ (List.getElem_mem hl)
  omega
 have e:l=l.take (l.length -1)++[l[l.length -1]]:=by
  rw[←List.take_succ_eq_append_getElem hl,List.take_of_length_le (by omega)]
 have hk:(l.take (l.length -1)).filter (fun x=> !decide (x.stamp=v.stamp))=l.take (l.length -1):=List.filter_eq_self.2 fun x hx=>by
  obtain⟨j,hj,rfl⟩:=List.getElem_of_mem hx
  rw[List.length_take] at hj
  rw[List.getElem_take]
  have:=hlt j (by omega) (by omega)
  simp;omega
 by_cases q:l[l.length -1].stamp=v.stamp
 ·rw[if_pos q]
  conv=>lhs;rw[e]
  rw[List.filter_append,hk,List.filter_cons_of_neg (by simpa using q)]
  simp
 ·rw[if_neg q]
  conv=>lhs;rw[e]
  rw[List.filter_append,hk,List.filter_cons_of_pos (by simpa using q)]
  exact e.symm
theorem ZrS (l:List ChainR) (ino:Int) (v:VerR) (hl:l.length≤500000) (hc:∀c∈l,c.l≠[]∧c.l.length≤2000000∧(c.l.Pairwise fun a b=>a.stamp<b.stamp)∧∀x∈c.l,x.stamp≤v.stamp):Ze Tryz.prog 170 [encL ChainR.enc l,I ino,.agg v.enc] (encL ChainR.enc (withS l ino v)):=by
 have hcl:=Zvg l (by omega)
 refine Pm Tryz.func170 fun hfit=> ?_
 simp[Tryz.f170]
 refine AW.scopeG (lit:=fun _=>false) 0 (fun _:Unit=>⟨0,fun _=> .any,[]⟩) (fun _=>0) (fun _=>False) rfl (fun A _=> ?_) (fun x h=>h.elim)
 simp
 try simp
 repeat' ((first|((first|refine Tp ?_|refine Tn ?_|refine T2 ?_ ?_)<;>intro h_ e_ n_)|(refine AInv.fresh [] hcl (by simp) (by simp) ?_;simp)|refine Dg 8 10 [] [] ?_|refine Dg 10 13 [] [] ?_|rw[Ip]|rw[In]|rw[Fz]|rw[Gz]|fail)<;>first|simp[e_,n_]|simp|skip)
 refine AW.loopG (lit:=fun _=>false) (fun i:Nat=>⟨75,pat [(0,.own 1 0 0 l.length 2),(1,I ino),(5,.ptr 0 0 0),(7,I i)],[.cells 0 v.enc,.cells 0 (l.flatMap ChainR.enc)]⟩) (fun i=>l.length -i) (fun i=>i≤l.length∧∀(j:Nat) (h:j<l.length),j<i→l[j].ino<ino) 0 ?_ ?_ ?_
 ·exact Wa
 ·exact⟨by simp,fun j h hj=>by omega⟩
 rintro i ⟨g1,g2⟩ B hB
 have hsk:=ZjD (v:=v) g1 g2
 have hins:=insH_ok l i ino v g1 (by omega)
 by_cases hi:i<l.length
 case neg=>
  have e:withS l ino v=insL l i ⟨ino,[v]⟩:=by
   rw[hsk,List.drop_eq_nil_of_le (by omega)]
   simp[withS,insL,List.drop_eq_nil_of_le (show l.length≤i by omega)]
  rw[e]
  have s_:=hi
  try simp[s_]
  repeat' ((first|((first|refine Tp ?_|refine Tn ?_|refine T2 ?_ ?_)<;>intro h_ e_ n_)|(refine AInv.fresh [1] hins (by simp) (by simp) ?_;simp)|refine Dg 8 10 [] [] ?_|refine Dg 10 13 [] [] ?_|rw[Ip]|rw[In]|rw[Fz]|rw[Gz]|fail)<;>first|simp[e_,n_,s_]|simp[s_]|skip)
 have hwi:=Zf hi (by simp only[maxLen];omega)
 have hcc:=hc l[i] (List.getElem_mem hi)
 have a0:=Zxm hi
 have a1:=chl_at hi
 rw[List.drop_eq_getElem_cons hi,withS] at hsk
 by_cases q1:ino<l[i].ino
 ·rw[if_pos q1] at hsk
  have e:withS l ino v=insL l i ⟨ino,[v]⟩:=by
   rw[hsk,insL,List.drop_eq_getElem_cons hi]
  rw[e]
  have s_:=An @hi (An @q1 (@a0))
  try simp[s_]
  repeat' ((first|((first|refine Tp ?_|refine Tn ?_|refine T2 ?_ ?_)<;>intro h_ e_ n_)|(refine AInv.fresh [1] hins (by simp) (by simp) ?_;simp)|refine Dg 8 10 [] [] ?_|refine Dg 10 13 [] [] ?_|rw[Ip]|rw[In]|rw[Fz]|rw[Gz]|fail)<;>first|simp[e_,n_,s_]|simp[s_]|skip)
 rw[if_neg q1] at hsk
 by_cases q2:l[i].ino<ino
 ·have g3:∀(j:Nat) (h:j<l.length),j<i+1→l[j].ino<ino:=fun j h hj=>by
   rcases Nat.lt_or_ge j i with g|g
   ·exact g2 j h g
   ·have:j=i:=by omega
    subst this;exact q2
  have s_:=An @hi (An @q1 (An @q2 (An @hwi (@a0))))
  try simp[s_]
  repeat' ((first|((first|refine Tp ?_|refine Tn ?_|refine T2 ?_ ?_)<;>intro h_ e_ n_)|(exact hB (i+1) _ Wc ⟨hi,g3⟩ (by omega))|refine Dg 8 10 [] [] ?_|refine Dg 10 13 [] [] ?_|rw[Ip]|rw[In]|rw[Fz]|rw[Gz]|fail)<;>first|simp[e_,n_,s_]|simp[s_]|skip)
 have q3:l[i].ino=ino:=by omega
 rw[if_pos q3] at hsk
 obtain⟨c1,c2,c3,c4⟩:=hcc
 have hv0:l[i].l.length -1<l[i].l.length:=by have:=List.length_pos_iff.2 c1;omega
 have hav:=Zvh c3 c4 hv0
 have hwv:IntKind.i64.wrap ((l[i].l.length:Int) -1)=((l[i].l.length -1:Nat):Int):=by rw[Zj (by omega) (by omega)];omega
 have hset:withS l ino v=l.set i ⟨l[i].ino,addV l[i].l v⟩:=by
  rw[hsk,List.set_eq_take_append_cons_drop,if_pos hi,q3]
 have hcs:=Zmo hi (addV l[i].l v)
 rw[←hset] at hcs
 have hlen:(withS l ino v).length=l.length:=by rw[hset];simp
 generalize withS l ino v=W at*
 clear hset hsk
 generalize hci:l[i]=c at*
 have b1:(c.l.length -1+1)*80≤140737488355328:=by omega
 have b2:c.l.length -1+1≤maxLen:=by simp only[maxLen];omega
 have b3:(c.l.length+1)*80≤140737488355328:=by omega
 have b4:c.l.length+1≤maxLen:=by simp only[maxLen];omega
 have z1:(c.l.take (c.l.length -1)).length=c.l.length -1:=by simp
 by_cases q4:c.l[c.l.length -1].stamp=v.stamp
 ·rw[if_pos q4] at hav
  have s_:=An @hi (An @q1 (An @q2 (An @hci (An @hv0 (An @hwv (An @q4 (An @a0 (An @a1 (An @b1 (@b2))))))))))
  try simp[s_]
  repeat' ((first|((first|refine Tp ?_|refine Tn ?_|refine T2 ?_ ?_)<;>intro h_ e_ n_)|(rw[frzOwn_set (x':=encL VerR.enc (addV c.l v)) (by simp) (by simp) (by simp;omega) (by omega) (by simp[Zqn];rw[Fz];simp[hav,encL,List.take_take])];simp[hcs,hlen,encL])|refine Dg 8 10 [] [] ?_|refine Dg 10 13 [] [] ?_|rw[Ip]|rw[In]|rw[Fz]|rw[Gz]|fail)<;>first|simp[e_,n_,s_]|simp[s_]|skip)
 ·rw[if_neg q4] at hav
  have s_:=An @hi (An @q1 (An @q2 (An @hci (An @hv0 (An @hwv (An @q4 (An @a0 (An @a1 (An @b3 (@b4))))))))))
  try simp[s_]
  repeat' ((first|((first|refine Tp ?_|refine Tn ?_|refine T2 ?_ ?_)<;>intro h_ e_ n_)|(rw[frzOwn_set (x':=encL VerR.enc (addV c.l v)) (by simp) (by simp) (by simp;omega) (by omega) (by simp;rw[Fz];simp[hav,encL])];simp[hcs,hlen,encL])|refine Dg 8 10 [] [] ?_|refine Dg 10 13 [] [] ?_|rw[Ip]|rw[In]|rw[Fz]|rw[Gz]|fail)<;>first|simp[e_,n_,s_]|simp[s_]|skip)
end Go.Proofs.YtdnfnddlciafmaaGreat
