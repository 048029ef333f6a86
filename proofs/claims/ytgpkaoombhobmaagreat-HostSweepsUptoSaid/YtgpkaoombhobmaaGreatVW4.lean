import Derived.Test.YtgpkaoombhobmaaGreatVW3
import Derived.Test.YtgpkaoombhobmaaGreatVP2
import Derived.Test.YtgpkaoombhobmaaGreatRows
import Derived.JoinedCond
import Derived.Test.YtgpkaoombhobmaaGreatVP1
set_option linter.unusedVariables false
set_option linter.unusedSimpArgs false
namespace Go.Proofs.YtgpkaoombhobmaaGreat
open Go.Cx Tab
set_option maxHeartbeats 400000
set_option maxRecDepth 40000
noncomputable def Zis (h:HostR):Bool:= @decide (Zir h) (Classical.propDecidable _)
theorem Zmd {h:HostR}:Zis h=true↔Zir h:=by simp[Zis]
theorem ZnJ {h:HostR} (n:¬Zir h):Zis h=false:=by simp[Zis,n]
structure _root_.Go.Cx.OpenQ (h:HostR) (i:Nat) (o:OpenR):Prop where
 p:OpenP h o
 prev:∀q,h.opens[i -1]? =some q->0<i->q.client<o.client
theorem ZnK (h:HostR) (hb:Zcb h.s):Zd Tryz.prog 12 [.agg h.enc] (B (Zis h)):=by
 have h1:=Zig h.s
 have h2:=ZnZ h.rows
 have h3:=ZgH h.s h.s.stamp hb
 have h4:=ZcZ (viewS h.s h.s.stamp)
 have hbad:∀(P:Zir h->False),Zis h=false:=λP=>ZnJ P
 have hend:(∀(j:Nat) (hj:j<h.opens.length),OpenQ h j h.opens[j])->h.opens.length<=64->0<=h.now->1<=h.lease->Zis h=(storeB h.s&&(rightT h.rows&&rightF (viewS h.s h.s.stamp))):=λg g1 g2 g3=>by
  have hr:Zn OpenR.client h.opens=true:=ZdH OpenR.client λj hj=>by
   have:=(g (j+1) hj).prev h.opens[j] (by simp) (by omega)
   exact this
  have ho:∀o∈h.opens,OpenP h o:=λo ho=>by
   obtain⟨j,hj,rfl⟩:=List.getElem_of_mem ho
   exact(g j hj).p
  rw[Bool.eq_iff_iff,Zmd]
  simp only[Bool.and_eq_true,Zjz,ZjA,ZhB]
  constructor
  ·intro H;exact⟨H.store,H.rows,H.vrows,H.vtree.right H.vrows⟩
  ·rintro⟨a,b,c,d⟩
   exact⟨a,c,Zdb.tree c d,b,g1,hr,ho,g2,g3⟩
 have hstep:∀(i:Nat) (hi:i<h.opens.length),¬OpenQ h i h.opens[i]->Zis h=false:=λi hi n=>hbad λH=>n ⟨H.open_ _ (List.getElem_mem hi),λq hq h0=>by
  obtain⟨h1,rfl⟩:=List.getElem?_eq_some_iff.1 hq
  exact Zag OpenR.client H.rise (i -1) i h1 hi (by omega)⟩
 by_cases q:h.opens.length<=64/\0<=h.now/\1<=h.lease
 case neg=>
  rw[hbad λH=>q ⟨H.few,H.now,H.lease⟩]
  clear hbad hend hstep
  have hq:(64<h.opens.length)\/(¬64<h.opens.length/\h.now<0)\/(¬64<h.opens.length/\¬h.now<0/\h.lease<1):=by omega
  rcases hq with c|c|c
  all_goals
   refine Pm Tryz.func12 λhfit=> ?_
   have d1_:=D0 8 47 [] []
   simp[Tryz.f12]
   have s_:=c
   exact WW
 obtain⟨q1,q2,q3⟩:=q
 generalize hB:Zis h=b at*
 refine Pm Tryz.func12 λhfit=> ?_
 have d1_:=D0 8 47 [] []
 simp[Tryz.f12]
 have c1:¬64<h.opens.length:=by omega
 have c2:¬h.now<0:=by omega
 have c3:¬h.lease<1:=by omega
 have s_:=An @c1 (An @c2 (@c3))
 try simp[s_]
 repeat' ((first|((first|refine Tp ?_|refine Tn ?_|refine T2 ?_ ?_)<;>intro h_ e_ n_)|refine Dg 8 47 [] [] ?_|rw[Ip]|rw[In]|rw[Fz]|rw[Gz]|fail)<;>first|simp[e_,n_,s_]|simp[s_]|skip)
 refine AW.loopG (lit:=λ_=>false) (λi:Nat=>⟨103,pat [(1,.ptr 0 0 0),(3,I i)],[.cells 0 h.enc]⟩) (λi=>h.opens.length -i) (λi=>i<=h.opens.length/\∀(j:Nat) (hj:j<h.opens.length),j<i->OpenQ h j h.opens[j]) 0 ?_ ?_ ?_
 ·exact Wa
 ·exact⟨by simp,λj hj g=>by omega⟩
 rintro i ⟨g1,g2⟩ A hA
 by_cases hi:i<h.opens.length
 case neg=>
  rw[hend (λj hj=>g2 j hj (by omega)) q1 q2 q3]
  clear hend hstep hbad g2 hA
  generalize storeB h.s=x1 at*
  generalize rightT h.rows=x2 at*
  generalize rightF (viewS h.s h.s.stamp)=x3 at*
  generalize viewS h.s h.s.stamp=v at*
  have s_:=hi
  exact WW
 have hwi:=Zh hi (by simp only[maxLen];omega)
 have hst:=hstep i hi
 have h5:=ZjB h.opens[i].t
 have hi1:i -1<h.opens.length:=by omega
 have hwm:0<i->IntKind.i64.wrap ((i:Int) -1)=((i -1:Nat):Int):=λhp=>by rw[Zf (by omega) (by omega)];omega
 have hnext:OpenQ h i h.opens[i]->∀(j:Nat) (hj:j<h.opens.length),j<i+1->OpenQ h j h.opens[j]:=λn j hj hji=>by
  rcases Nat.lt_or_ge j i with g|g
  ·exact g2 j hj g
  ·have:j=i:=by omega
   subst this;exact n
 cases hx:rightTx h.opens[i].t with
 |false=>
  rw[hx] at h5
  have e:=hst λn=>by have:=(ZhK _).2 n.p.t;rw[hx] at this;cases this
  subst e
  clear hend hstep hbad g2 hA hst hnext
  have s_:=hi
  exact WW
 |true=>
 rw[hx] at h5
 have hT:=(ZhK _).1 hx
 have hgood:0<=h.opens[i].client->1<=h.opens[i].epoch->1<=h.opens[i].seq->0<=h.opens[i].n->h.opens[i].t.stamp<=h.s.stamp->(i=0\/h.opens[i -1].client<h.opens[i].client)->OpenQ h i h.opens[i]:=λa1 a2 a3 a4 a5 a6=>⟨⟨a1,a2,a3,a4,hT,a5⟩,λq hq h0=>by
  obtain⟨_,rfl⟩:=List.getElem?_eq_some_iff.1 hq
  exact a6.resolve_left (by omega)⟩
 have hbad2:(h.opens[i].client<0\/h.opens[i].epoch<1\/h.opens[i].seq<1\/h.opens[i].n<0\/h.s.stamp<h.opens[i].t.stamp\/(0<i/\h.opens[i].client<=h.opens[i -1].client))->b=false:=λa=>hst λn=>by
  have c1:=n.p.client;have c2:=n.p.epoch;have c3:=n.p.seq;have c4:=n.p.n;have c5:=n.p.stamp
  rcases Nat.eq_zero_or_pos i with z|z
  ·omega
  ·have:=n.prev h.opens[i -1] (List.getElem?_eq_getElem hi1) z
   omega
 clear hend hstep hbad hst
 rcases Nat.eq_zero_or_pos i with z|z
 ·have z':¬0<i:=by omega
  have s_:=An @hi (An @hwi (@z'))
  try simp[s_]
  repeat' ((first|((first|refine Tp ?_|refine Tn ?_|refine T2 ?_ ?_)<;>intro h_ e_ n_)|(rw[hbad2 (by omega)])|(exact hA (i+1) _ Wc ⟨by omega,hnext (hgood (by omega) (by omega) (by omega) (by omega) (by omega) (.inl z))⟩ (by omega))|refine Pg h5 ?_|refine Dg 8 47 [] [] ?_|rw[Ip]|rw[In]|rw[Fz]|rw[Gz]|fail)<;>first|simp[e_,n_,s_]|simp[s_]|skip)
 ·have hwm:=hwm z
  have s_:=An @hi (An @hwi (An @z (An @hwm (@hi1))))
  try simp[s_]
  repeat' ((first|((first|refine Tp ?_|refine Tn ?_|refine T2 ?_ ?_)<;>intro h_ e_ n_)|(rw[hbad2 (by omega)])|(exact hA (i+1) _ Wc ⟨by omega,hnext (hgood (by omega) (by omega) (by omega) (by omega) (by omega) (.inr (by omega)))⟩ (by omega))|refine Pg h5 ?_|refine Dg 8 47 [] [] ?_|rw[Ip]|rw[In]|rw[Fz]|rw[Gz]|fail)<;>first|simp[e_,n_,s_]|simp[s_]|skip)
structure _root_.Go.Cx.GoodHP (h:HostR) (gs:Bool) (ft:Bool):Prop where
 store:gs=true
 rows:ft=true
 few:h.opens.length<=8
 now:h.now<1152921504606846976
 lease:h.lease<1152921504606846976
 opens:∀o∈h.opens,Zoc o.t=true/\o.last.names.length<=300
 host:Zir h
noncomputable def goodH (h:HostR):Bool:= @decide (GoodHP h (Zmq h.s) (fewT h.rows.length h.rows)) (Classical.propDecidable _)
theorem Zme {h:HostR}:goodH h=true↔GoodHP h (Zmq h.s) (fewT h.rows.length h.rows):=by simp[goodH]
theorem ZqV (h:HostR) (hb:Zcb h.s):Zd Tryz.prog 9 [.agg h.enc] (B (goodH h)):=by
 have h1:=Zxd h.s hb
 have h2:=ZwX h.rows
 have h3:=ZnK h hb
 have hbad:∀(P:GoodHP h (Zmq h.s) (fewT h.rows.length h.rows)->False),goodH h=false:=λP=>by simp[goodH];exact P
 have hend:Zmq h.s=true->fewT h.rows.length h.rows=true->h.opens.length<=8->h.now<1152921504606846976->h.lease<1152921504606846976->(∀o∈h.opens,Zoc o.t=true/\o.last.names.length<=300)->goodH h=Zis h:=λa1 a2 a3 a4 a5 a6=>by
  rw[Bool.eq_iff_iff,Zmd,Zme]
  exact⟨λg=>g.host,λg=>⟨a1,a2,a3,a4,a5,a6,g⟩⟩
 generalize goodH h=b at*
 generalize hg:Zmq h.s=gs at*
 generalize hf:fewT h.rows.length h.rows=ft at*
 by_cases q:gs=true/\ft=true/\h.opens.length<=8/\h.now<1152921504606846976/\h.lease<1152921504606846976
 case neg=>
  rw[hbad λG=>q ⟨G.store,G.rows,G.few,G.now,G.lease⟩]
  clear hbad hend
  have hq:(gs=false)\/(gs=true/\ft=false)\/(gs=true/\ft=true/\8<h.opens.length)\/(gs=true/\ft=true/\¬8<h.opens.length/\1152921504606846976<=h.now)\/(gs=true/\ft=true/\¬8<h.opens.length/\¬1152921504606846976<=h.now/\1152921504606846976<=h.lease):=by
   cases gs with
   |false=>exact .inl rfl
   |true=>
    cases ft with
    |false=>exact .inr (.inl ⟨rfl,rfl⟩)
    |true=>
     simp only[true_and] at q
     simp only[true_and]
     omega
  rcases hq with c|c|c|c|c
  all_goals
   refine Pm Tryz.func9 λhfit=> ?_
   simp[Tryz.f9]
   have s_:=c
   exact WW
 obtain⟨q1,q2,q3,q4,q5⟩:=q
 subst q1 q2
 have c1:¬8<h.opens.length:=by omega
 have c2:¬1152921504606846976<=h.now:=by omega
 have c3:¬1152921504606846976<=h.lease:=by omega
 refine Pm Tryz.func9 λhfit=> ?_
 simp[Tryz.f9]
 have s_:=An @c1 (An @c2 (@c3))
 try simp[s_]
 repeat' ((first|((first|refine Tp ?_|refine Tn ?_|refine T2 ?_ ?_)<;>intro h_ e_ n_)|refine Pg h1 ?_|refine Pg h2 ?_|rw[Ip]|rw[In]|rw[Fz]|rw[Gz]|fail)<;>first|simp[e_,n_,s_]|simp[s_]|skip)
 refine AW.loopG (lit:=λ_=>false) (λi:Nat=>⟨58,pat [(1,.ptr 0 0 0),(3,I i)],[.cells 0 h.enc]⟩) (λi=>h.opens.length -i) (λi=>i<=h.opens.length/\∀(j:Nat) (hj:j<h.opens.length),j<i->Zoc h.opens[j].t=true/\h.opens[j].last.names.length<=300) 0 ?_ ?_ ?_
 ·exact Wa
 ·exact⟨by simp,λj hj g=>by omega⟩
 rintro i ⟨g1,g2⟩ A hA
 by_cases hi:i<h.opens.length
 case neg=>
  rw[hend rfl rfl q3 q4 q5 λo ho=>by
   obtain⟨j,hj,rfl⟩:=List.getElem_of_mem ho
   exact g2 j hj (by omega)]
  have s_:=hi
  exact WW
 have hwi:=Zh hi (by simp only[maxLen];omega)
 have h5:=Zxe h.opens[i].t
 cases hx:Zoc h.opens[i].t with
 |false=>
  rw[hx] at h5
  have e:=hbad λG=>by have:=(G.opens _ (List.getElem_mem hi)).1;rw[hx] at this;cases this
  subst e
  have s_:=hi
  exact WW
 |true=>
 rw[hx] at h5
 by_cases z:300<h.opens[i].last.names.length
 ·have e:=hbad λG=>by have:=(G.opens _ (List.getElem_mem hi)).2;omega
  subst e
  have s_:=An @hi (@z)
  exact WW
 ·have s_:=An @hi (An @hwi (@z))
  have q1_:=λs w=>hA (i+1) s w ⟨by omega,λj hj hji=>by rcases Nat.lt_or_ge j i with g|g;(·exact g2 j hj g);(obtain rfl:j=i:=(by omega));exact⟨hx,by omega⟩⟩ (by omega)
  exact WW
end Go.Proofs.YtgpkaoombhobmaaGreat
namespace Go.Proofs.YtgpkaoombhobmaaGreat
open Go.Cx Tab
set_option maxHeartbeats 4000000
set_option maxRecDepth 40000
theorem ZtM (s:StoreR) (pins:List Int) (hp:pins.length<=100000) (hP:Zu s) (hb:Zcb s):Zd Tryz.prog 56 [.agg s.enc,enc1 I pins] (.agg (sweepS s pins).enc):=by
 have h1:=Zwo s.nexts (pins++[s.stamp]) (by simp;omega) (by have:=hb.nexts;omega)
 have hkc:∀c:ChainR,c∈s.l->Zd Tryz.prog 101 [encL VerR.enc c.l,enc1 I (pins++[s.stamp]),.fn 102 []] (encL VerR.enc (keptS VerR.stamp (pins++[s.stamp]) c.l)):=λc hc=>by
  have:=Zwn c.l (pins++[s.stamp]) (by simp;omega) (by have:=hb.vers c hc;omega)
  rwa[Zod (hP.chain c hc).rise] at this
 rw[Zod hP.nrise] at h1
 have hsl:(sweepS s pins).l=(s.l.map (Zbh (pins++[s.stamp]))).filter λc=> !decide (c.l=[]):=rfl
 have hsn:(sweepS s pins).nexts=keptS CountR.stamp (pins++[s.stamp]) s.nexts:=rfl
 have hss:(sweepS s pins).stamp=s.stamp:=rfl
 generalize sweepS s pins=S' at*
 obtain⟨l',n',st'⟩:=S'
 simp only at hsl hsn hss
 rw[<-hsn] at h1
 clear hsn
 subst hss
 refine Pm Tryz.func56 λhfit=> ?_
 have d1_:=D0 1 11 [] []
 simp[Tryz.f56]
 try simp
 repeat' ((first|((first|refine Tp ?_|refine Tn ?_|refine T2 ?_ ?_)<;>intro h_ e_ n_)|refine Dg 1 11 [] [] ?_|rw[Ip]|rw[In]|rw[Fz]|rw[Gz]|fail)<;>first|simp[e_,n_]|simp|skip)
 refine AW.wkZ (WkZ.freeze [2] 5 (enc1 I (pins++[s.stamp])) (by simp;rw[ZdN (by simp) (by simp)];simp)) ?_
 simp
 try simp
 repeat' ((first|((first|refine Tp ?_|refine Tn ?_|refine T2 ?_ ?_)<;>intro h_ e_ n_)|refine Pg h1 ?_|refine AW.room (Dg 2 9 [3] [(7,.w)] ?_)|refine Dg 1 11 [] [] ?_|rw[Ip]|rw[In]|rw[Fz]|rw[Gz]|fail)<;>first|simp[e_,n_]|simp|skip)
 refine AW.loopG (lit:=λ_=>false) (λx:Nat×List ChainR=>⟨65,pat [(2,.ptr 0 0 0),(4,.ptr 1 0 0),(5,enc1 I (pins++[s.stamp])),(6,.ptr 3 1 0),(27,encL ChainR.enc s.l),(28,I s.l.length),(29,I x.1)],[.cells 0 s.enc,.cells 0 [.sl true 0 [],.sl true 0 [],I 0],.dead,.cells 1 [.own 4 x.2.length 0 x.2.length 2,encL CountR.enc n',I s.stamp],.cells x.2.length (x.2.flatMap ChainR.enc)]⟩) (λx=>s.l.length -x.1) (λx=>x.1<=s.l.length/\x.2.length<=x.1/\x.2++(((s.l.drop x.1).map (Zbh (pins++[s.stamp]))).filter λc=> !decide (c.l=[]))=l') (0,[]) ?_ ?_ ?_
 ·exact Wk.trans (Wk.ownNilCell 3 1 0 2 rfl rfl) Wa
 ·exact⟨Nat.zero_le _,by simp,by simp[hsl]⟩
 rintro⟨i,acc⟩ ⟨g1,g2,g3⟩ A hA
 simp only at g1 g2 g3 hA
 by_cases hi:i<s.l.length
 case neg=>
  rw[List.drop_eq_nil_of_le (by omega)] at g3
  simp only[List.map_nil,List.filter_nil,List.append_nil] at g3
  subst g3
  have s_:=An @hi (@StoreR.enc.eq_1)
  exact WW
 have hl:=hb.l
 have hwi:=Zh hi (by simp only[maxLen];omega)
 have hm:acc.length+1<=maxLen:=by simp only[maxLen];have:=hb.l;omega
 have hal:∀c:ChainR,(acc++[c]).length=acc.length+1:=by simp
 have h2:=hkc s.l[i] (List.getElem_mem hi)
 rw[List.drop_eq_getElem_cons hi,List.map_cons,List.filter_cons] at g3
 have hsw:Zbh (pins++[s.stamp]) s.l[i]=⟨s.l[i].ino,ZbE (keptS VerR.stamp (pins++[s.stamp]) s.l[i].l)⟩:=rfl
 rw[hsw] at g3
 have hkl:(keptS VerR.stamp (pins++[s.stamp]) s.l[i].l).length<=1048576:=Nat.le_trans (ZbL _ _).length_le (hb.vers _ (List.getElem_mem hi))
 generalize keptS VerR.stamp (pins++[s.stamp]) s.l[i].l=K at*
 clear hsw
 have s_:=hi
 try simp[s_]
 repeat' ((first|((first|refine Tp ?_|refine Tn ?_|refine T2 ?_ ?_)<;>intro h_ e_ n_)|refine Pg h2 ?_|refine Dg 1 11 [] [] ?_|rw[Ip]|rw[In]|rw[Fz]|rw[Gz]|fail)<;>first|simp[e_,n_,s_]|simp[s_]|skip)
 refine AW.loopG (lit:=λ_=>false) (λy:List VerR=>⟨65,pat [(2,.ptr 0 0 0),(4,.ptr 1 0 0),(5,enc1 I (pins++[s.stamp])),(6,.ptr 3 1 0),(8,.ptr 5 0 0),(27,encL ChainR.enc s.l),(28,I s.l.length),(29,I i)],[.cells 0 s.enc,.cells 0 [.sl true 0 [],.sl true 0 [],I 0],.dead,.cells 1 [.own 4 acc.length 0 acc.length 2,encL CountR.enc n',I s.stamp],.cells acc.length (acc.flatMap ChainR.enc),.cells 0 [I s.l[i].ino,encL VerR.enc y]]⟩) (λy=>y.length) (λy=>ZbE y=ZbE K/\y.length<=1048576) K ?_ ?_ ?_
 ·exact Wk.at _ rfl (by simp[ChainR.enc]) (by simp)
 ·exact⟨rfl,hkl⟩
 rintro y ⟨k1,k2⟩ B hB
 rcases y with _|⟨v,r⟩
 ·rw[<-k1] at g3
  simp[ZbE] at g3
  have s_:=An @hwi (@hm)
  have q1_:=λs w=>hA (i+1,acc) s w ⟨hi,by simp only;omega,by simpa using g3⟩ (by simp only;omega)
  exact WW
 simp only[List.length_cons] at k2
 by_cases hg:v.gone=true
 ·have k3:ZbE r=ZbE K:=by rw[<-k1];simp[ZbE,hg]
  have e7:(List.flatMap VerR.enc (v::r)).drop 7=r.flatMap VerR.enc:=by rw[List.flatMap_cons];rfl
  have s_:=An @hg (An @hwi (An @hm (An @VerR.enc.eq_1 (@NodeR.enc.eq_1))))
  have q1_:=λs w=>hB r s w ⟨k3,by omega⟩ (by simp)
  exact WW
 ·rw[<-k1] at g3
  simp only[ZbE,List.dropWhile_cons,hg] at g3
  simp at g3
  have e8:(⟨s.l[i].ino,v::r⟩:ChainR).enc=[I s.l[i].ino,encL VerR.enc (v::r)]:=rfl
  have s_:=An @hg (An @hwi (An @hm (An @VerR.enc.eq_1 (@NodeR.enc.eq_1))))
  try simp[s_]
  repeat' ((first|((first|refine Tp ?_|refine Tn ?_|refine T2 ?_ ?_)<;>intro h_ e_ n_)|(exact hA (i+1,acc++[⟨s.l[i].ino,v::r⟩]) _ (Wk.cutAt _ rfl (by simp) (by simp[ChainR.enc,VerR.enc,NodeR.enc]) (by simp) (by simp)) ⟨hi,by simp only[hal];omega,by simpa using g3⟩ (by simp only;omega))|refine Dg 1 11 [] [] ?_|rw[Ip]|rw[In]|rw[Fz]|rw[Gz]|fail)<;>first|simp[e_,n_,s_]|simp[s_]|skip)
theorem ZqW (x:OpenR) (h:HostR):Zd Tryz.prog 55 [.agg x.enc,.fp h.enc] (B (decide (x.until_<h.now))):=by
 refine Pm Tryz.func55 λhfit=> ?_
 simp[Tryz.f55]
 try simp
 repeat' ((first|((first|refine Tp ?_|refine Tn ?_|refine T2 ?_ ?_)<;>intro h_ e_ n_)|rw[Ip]|rw[In]|rw[Fz]|rw[Gz]|fail)<;>first|simp[e_,n_]|simp|skip)
theorem Zmf (h:HostR) (hl:h.opens.length<=100000) (hP:Zu h.s) (hb:Zcb h.s):Zd Tryz.prog 22 [.agg h.enc] (.agg (sweepH h).enc):=by
 have hcl:=Zfw h.opens (by omega)
 have hdel:=ZhV h.opens 55 [.ptr 1 0 0] [.fp h.enc] [.cells 0 h.enc] (λx=>decide (x.until_<h.now)) (by simp) (by simp) (by simp) (λfu b0 tl=>by simp) (λx _=>ZqW x h) (by omega)
 refine Pm Tryz.func22 λhfit=> ?_
 simp[Tryz.f22]
 try simp
 repeat' ((first|((first|refine Tp ?_|refine Tn ?_|refine T2 ?_ ?_)<;>intro h_ e_ n_)|(refine AInv.fresh [] hcl (by simp) (by simp) ?_;simp)|(refine AInv.fresh [2,0] hdel (by simp) (by simp) ?_;simp)|rw[Ip]|rw[In]|rw[Fz]|rw[Gz]|fail)<;>first|simp[e_,n_]|simp|skip)
 have hK:(h.opens.filter λx=> !decide (x.until_<h.now))=staysS h:=rfl
 have h5:=ZtM h.s ((staysS h).map λo=>o.t.stamp) (by have:=List.length_filter_le (λo:OpenR=> !decide (o.until_<h.now)) h.opens;rw[List.length_map];rw[<-hK];omega) hP hb
 have hsl:(staysS h).length<=100000:=by have:=List.length_filter_le (λo:OpenR=> !decide (o.until_<h.now)) h.opens;rw[<-hK];omega
 have hS:sweepH h={h with opens:=staysS h,s:=sweepS h.s ((staysS h).map λo=>o.t.stamp)}:=rfl
 rw[hS]
 simp only[hK]
 clear hS hK hdel hcl
 generalize staysS h=K at*
 refine AW.loopG (lit:=λ_=>false) (λx:Nat×List Int=>⟨32,pat [(1,.ptr 0 0 0),(2,.ptr 1 0 0),(3,.own 3 x.2.length 0 x.2.length 1),(13,.own 2 0 0 K.length 17),(14,I K.length),(15,I x.1)],[.cells 0 [encL ChainR.enc h.s.l,encL CountR.enc h.s.nexts,I h.s.stamp,encL RowR.enc h.rows,.own 2 0 0 K.length 17,I h.now,I h.lease],.cells 0 [.sl true 0 [],.sl true 0 [],I 0,.sl true 0 [],.sl true 0 [],I 0,I 0],.cells 0 (K.flatMap OpenR.enc),.cells x.2.length (x.2.map I)]⟩) (λx=>K.length -x.1) (λx=>x.1<=K.length/\x.2=(K.take x.1).map (λo=>o.t.stamp)) (0,[]) ?_ ?_ ?_
 ·exact Wk.trans (Wk.ownNil 3 1 (by simp)) (Wk.at _ rfl (by simp[HostR.enc,StoreR.enc]) (by simp))
 ·exact⟨Nat.zero_le _,by simp⟩
 rintro⟨i,acc⟩ ⟨g1,g2⟩ A hA
 simp only at g1 g2 hA
 by_cases hi:i<K.length
 case neg=>
  have e:i=K.length:=by omega
  rw[e,List.take_length] at g2
  rw[<-g2] at h5⊢
  generalize sweepS h.s acc=S' at*
  have s_:=An @hi (An @HostR.enc.eq_1 (@StoreR.enc.eq_1))
  try simp[s_]
  repeat' ((first|((first|refine Tp ?_|refine Tn ?_|refine T2 ?_ ?_)<;>intro h_ e_ n_)|refine Gg [3] h5 ?_|rw[Ip]|rw[In]|rw[Fz]|rw[Gz]|fail)<;>first|simp[e_,n_,s_]|simp[s_]|skip)
 have hwi:=Zh hi (by simp only[maxLen];omega)
 have hal:acc.length=i:=by rw[g2];simp;omega
 have g3:acc++[K[i].t.stamp]=(K.take (i+1)).map (λo=>o.t.stamp):=by rw[List.take_succ_eq_append_getElem hi,List.map_append,g2];rfl
 have hm:acc.length+1<=maxLen:=by simp only[maxLen];omega
 have s_:=An @hi (An @hwi (@hm))
 try simp[s_]
 repeat' ((first|((first|refine Tp ?_|refine Tn ?_|refine T2 ?_ ?_)<;>intro h_ e_ n_)|(exact hA (i+1,acc++[K[i].t.stamp]) _ Wc ⟨hi,g3⟩ (by simp only;omega))|rw[Ip]|rw[In]|rw[Fz]|rw[Gz]|fail)<;>first|simp[e_,n_,s_]|simp[s_]|skip)
end Go.Proofs.YtgpkaoombhobmaaGreat
namespace Go.Proofs.YtgpkaoombhobmaaGreat
open Go.Cx Tab Go.ChangeShapes Go.WideShapes
set_option maxHeartbeats 1600000
set_option maxRecDepth 100000
theorem and_tt {a b:Bool} (ha:a=true) (hb:b=true):(a&&b)=true:=by rw[ha,hb];rfl
theorem own:ownKnob Tryz.prog.godebug=none:=by kernel_rfl
theorem laid:laidOutB Tryz.prog=true:=by kernel_rfl
mutual
theorem blk_le {H:Type}:∀d:DataW H,blk d<=Rows.uptoBulk d
 | .lit l=>by cases l<;>simp[blk,Rows.uptoBulk]
 | .nil=>by simp[blk,Rows.uptoBulk]
 | .ptr d=>by simp[blk,Rows.uptoBulk]
 | .slice elems spare=>by have:=ZfB elems;simp only[blk,Rows.uptoBulk];omega
 | .agg parts=>by have:=ZfB parts;simp only[blk,Rows.uptoBulk];omega
 | .iface t d=>by simp[blk,Rows.uptoBulk]
 | .map es=>by simp[blk,Rows.uptoBulk]
 | .held h=>by simp[blk,Rows.uptoBulk]
theorem ZfB {H:Type}:∀l:List (DataW H),blkAll l<=Rows.uptoBulkAll l
 |[]=>by simp[blkAll,Rows.uptoBulkAll]
 |d::r=>by have:=blk_le d;have:=ZfB r;simp only[blkAll,Rows.uptoBulkAll];omega
end
section
variable {W:World}
end
def Zib (c:EntryR):Nat:=c.name.size+1+1
def Zmm (c:NodeR):Nat:=c.text.size+1+(c.l.map Zib).sum+1+1
def wtFS (c:FSR):Nat:=(c.l.map Zmm).sum+1+1
def ZnT (c:VerR):Nat:=Zmm c.node+1
def Zda (c:ChainR):Nat:=(c.l.map ZnT).sum+1+1
def Zic (c:CountR):Nat:=1
def Zid (c:StoreR):Nat:=(c.l.map Zda).sum+1+(c.nexts.map Zic).sum+1+1
def wtTxn (c:TxnR):Nat:=wtFS c.was+wtFS c.now+c.looks.length+1+1
def Zgb (c:DecisionR):Nat:=1
def wtRow (c:RowR):Nat:=(c.l.map Zgb).sum+1+1
def ZnU (c:ReplyR):Nat:=c.text.size+1+c.names.length+1+1
def Zum (c:OpenR):Nat:=wtTxn c.t+ZnU c.last+1
def Zun (c:HostR):Nat:=Zid c.s+(c.rows.map wtRow).sum+1+(c.opens.map Zum).sum+1+1
section
variable {W:World}
theorem bEntry:OpnB Tryz.prog W 141 (λxs b=>∃c:EntryR,xs=c.enc/\c.wf/\Zib c<=b):=
 (ZO tst141 ts141 (.cons (ZeA tus9) ts9 (.cons ((ZN tui3).b) ts3 .nil))).mono λxs b h=>by
  obtain⟨b1,l1,⟨_,_,_,_,m0,⟨x0,rfl,h0,g0⟩,⟨_,_,_,_,m1,⟨x1,rfl,h1⟩,rfl,rfl⟩,rfl⟩⟩:=h
  exact⟨⟨x0,x1⟩,by simp[EntryR.enc],⟨h0,h1⟩,by simp only[Zib];omega⟩
theorem bNode:OpnB Tryz.prog W 99 (λxs b=>∃c:NodeR,xs=c.enc/\c.wf/\Zmm c<=b):=
 (ZO tst99 ts99 (.cons ((ZN tui3).b) ts3 (.cons ((ZN tui3).b) ts3 (.cons ((ZN tui3).b) ts3 (.cons (ZeA tus9) ts9 (.cons (Zbn te97 ts141 (by omega) bEntry) ts97 .nil)))))).mono λxs b h=>by
  obtain⟨b1,l1,⟨_,_,_,_,m0,⟨x0,rfl,h0⟩,⟨_,_,_,_,m1,⟨x1,rfl,h1⟩,⟨_,_,_,_,m2,⟨x2,rfl,h2⟩,⟨_,_,_,_,m3,⟨x3,rfl,h3,g3⟩,⟨_,_,_,_,m4,⟨x4,rfl,h4,g4⟩,rfl,rfl⟩,rfl⟩,rfl⟩,rfl⟩,rfl⟩⟩:=h
  exact⟨⟨x0,x1,x2,x3,x4⟩,by simp[NodeR.enc],⟨h0,h1,h2,h3,h4⟩,by simp only[Zmm];omega⟩
theorem bFS:OpnB Tryz.prog W 55 (λxs b=>∃c:FSR,xs=c.enc/\c.wf/\wtFS c<=b):=
 (ZO tst55 ts55 (.cons (Zbn te53 ts99 (by omega) bNode) ts53 (.cons ((ZN tui3).b) ts3 .nil))).mono λxs b h=>by
  obtain⟨b1,l1,⟨_,_,_,_,m0,⟨x0,rfl,h0,g0⟩,⟨_,_,_,_,m1,⟨x1,rfl,h1⟩,rfl,rfl⟩,rfl⟩⟩:=h
  exact⟨⟨x0,x1⟩,by simp[FSR.enc],⟨h0,h1⟩,by simp only[wtFS];omega⟩
theorem bVer:OpnB Tryz.prog W 101 (λxs b=>∃c:VerR,xs=c.enc/\c.wf/\ZnT c<=b):=
 (ZO tst101 ts101 (.cons ((ZN tui3).b) ts3 (.cons ((Zoy tub4).b) ts4 (.cons (bNode) ts99 .nil)))).mono λxs b h=>by
  obtain⟨b1,l1,⟨_,_,_,_,m0,⟨x0,rfl,h0⟩,⟨_,_,_,_,m1,⟨x1,rfl⟩,⟨_,_,_,_,m2,⟨x2,rfl,h2,g2⟩,rfl,rfl⟩,rfl⟩,rfl⟩⟩:=h
  exact⟨⟨x0,x1,x2⟩,by simp[VerR.enc],⟨h0,h2⟩,by simp only[ZnT];omega⟩
theorem bChain:OpnB Tryz.prog W 95 (λxs b=>∃c:ChainR,xs=c.enc/\c.wf/\Zda c<=b):=
 (ZO tst95 ts95 (.cons ((ZN tui3).b) ts3 (.cons (Zbn te93 ts101 (by omega) bVer) ts93 .nil))).mono λxs b h=>by
  obtain⟨b1,l1,⟨_,_,_,_,m0,⟨x0,rfl,h0⟩,⟨_,_,_,_,m1,⟨x1,rfl,h1,g1⟩,rfl,rfl⟩,rfl⟩⟩:=h
  exact⟨⟨x0,x1⟩,by simp[ChainR.enc],⟨h0,h1⟩,by simp only[Zda];omega⟩
theorem bCount:OpnB Tryz.prog W 92 (λxs b=>∃c:CountR,xs=c.enc/\c.wf/\Zic c<=b):=
 (ZO tst92 ts92 (.cons ((ZN tui3).b) ts3 (.cons ((ZN tui3).b) ts3 .nil))).mono λxs b h=>by
  obtain⟨b1,l1,⟨_,_,_,_,m0,⟨x0,rfl,h0⟩,⟨_,_,_,_,m1,⟨x1,rfl,h1⟩,rfl,rfl⟩,rfl⟩⟩:=h
  exact⟨⟨x0,x1⟩,by simp[CountR.enc],⟨h0,h1⟩,by simp only[Zic];omega⟩
theorem bStore:OpnB Tryz.prog W 25 (λxs b=>∃c:StoreR,xs=c.enc/\c.wf/\Zid c<=b):=
 (ZO tst25 ts25 (.cons (Zbn te22 ts95 (by omega) bChain) ts22 (.cons (Zbn te23 ts92 (by omega) bCount) ts23 (.cons ((ZN tui3).b) ts3 .nil)))).mono λxs b h=>by
  obtain⟨b1,l1,⟨_,_,_,_,m0,⟨x0,rfl,h0,g0⟩,⟨_,_,_,_,m1,⟨x1,rfl,h1,g1⟩,⟨_,_,_,_,m2,⟨x2,rfl,h2⟩,rfl,rfl⟩,rfl⟩,rfl⟩⟩:=h
  exact⟨⟨x0,x1,x2⟩,by simp[StoreR.enc],⟨h0,h1,h2⟩,by simp only[Zid];omega⟩
theorem bTxn:OpnB Tryz.prog W 58 (λxs b=>∃c:TxnR,xs=c.enc/\c.wf/\wtTxn c<=b):=
 (ZO tst58 ts58 (.cons ((ZN tui3).b) ts3 (.cons (bFS) ts55 (.cons (bFS) ts55 (.cons (ZtG te56 ts3 tui3) ts56 .nil))))).mono λxs b h=>by
  obtain⟨b1,l1,⟨_,_,_,_,m0,⟨x0,rfl,h0⟩,⟨_,_,_,_,m1,⟨x1,rfl,h1,g1⟩,⟨_,_,_,_,m2,⟨x2,rfl,h2,g2⟩,⟨_,_,_,_,m3,⟨x3,rfl,h3,g3⟩,rfl,rfl⟩,rfl⟩,rfl⟩,rfl⟩⟩:=h
  exact⟨⟨x0,x1,x2,x3⟩,by simp[TxnR.enc],⟨h0,h1,h2,h3⟩,by simp only[wtTxn];omega⟩
theorem Zuo:OpnB Tryz.prog W 126 (λxs b=>∃c:DecisionR,xs=c.enc/\c.wf/\Zgb c<=b):=
 (ZO tst126 ts126 (.cons ((ZN tui3).b) ts3 (.cons ((Zoy tub4).b) ts4 .nil))).mono λxs b h=>by
  obtain⟨b1,l1,⟨_,_,_,_,m0,⟨x0,rfl,h0⟩,⟨_,_,_,_,m1,⟨x1,rfl⟩,rfl,rfl⟩,rfl⟩⟩:=h
  exact⟨⟨x0,x1⟩,by simp[DecisionR.enc],h0,by simp only[Zgb];omega⟩
theorem bRow:OpnB Tryz.prog W 119 (λxs b=>∃c:RowR,xs=c.enc/\c.wf/\wtRow c<=b):=
 (ZO tst119 ts119 (.cons ((ZN tui3).b) ts3 (.cons ((ZN tui3).b) ts3 (.cons ((ZN tui3).b) ts3 (.cons (Zbn te117 ts126 (by omega) Zuo) ts117 .nil))))).mono λxs b h=>by
  obtain⟨b1,l1,⟨_,_,_,_,m0,⟨x0,rfl,h0⟩,⟨_,_,_,_,m1,⟨x1,rfl,h1⟩,⟨_,_,_,_,m2,⟨x2,rfl,h2⟩,⟨_,_,_,_,m3,⟨x3,rfl,h3,g3⟩,rfl,rfl⟩,rfl⟩,rfl⟩,rfl⟩⟩:=h
  exact⟨⟨x0,x1,x2,x3⟩,by simp[RowR.enc],⟨h0,h1,h2,h3⟩,by simp only[wtRow];omega⟩
theorem bReply:OpnB Tryz.prog W 41 (λxs b=>∃c:ReplyR,xs=c.enc/\c.wf/\ZnU c<=b):=
 (ZO tst41 ts41 (.cons ((ZN tui38).b) ts38 (.cons ((ZN tui3).b) ts3 (.cons ((ZN tui3).b) ts3 (.cons ((ZN tui3).b) ts3 (.cons (ZeA tus9) ts9 (.cons (Zmb te39 ts9 tus9) ts39 .nil))))))).mono λxs b h=>by
  obtain⟨b1,l1,⟨_,_,_,_,m0,⟨x0,rfl,h0⟩,⟨_,_,_,_,m1,⟨x1,rfl,h1⟩,⟨_,_,_,_,m2,⟨x2,rfl,h2⟩,⟨_,_,_,_,m3,⟨x3,rfl,h3⟩,⟨_,_,_,_,m4,⟨x4,rfl,h4,g4⟩,⟨_,_,_,_,m5,⟨x5,rfl,h5,g5⟩,rfl,rfl⟩,rfl⟩,rfl⟩,rfl⟩,rfl⟩,rfl⟩⟩:=h
  exact⟨⟨x0,x1,x2,x3,x4,x5⟩,by simp[ReplyR.enc],⟨h0,h1,h2,h3,h4,h5⟩,by simp only[ZnU];omega⟩
theorem bOpen:OpnB Tryz.prog W 60 (λxs b=>∃c:OpenR,xs=c.enc/\c.wf/\Zum c<=b):=
 (ZO tst60 ts60 (.cons ((ZN tui3).b) ts3 (.cons ((ZN tui3).b) ts3 (.cons ((ZN tui3).b) ts3 (.cons ((ZN tui3).b) ts3 (.cons (bTxn) ts58 (.cons (bReply) ts41 (.cons ((ZN tui3).b) ts3 .nil)))))))).mono λxs b h=>by
  obtain⟨b1,l1,⟨_,_,_,_,m0,⟨x0,rfl,h0⟩,⟨_,_,_,_,m1,⟨x1,rfl,h1⟩,⟨_,_,_,_,m2,⟨x2,rfl,h2⟩,⟨_,_,_,_,m3,⟨x3,rfl,h3⟩,⟨_,_,_,_,m4,⟨x4,rfl,h4,g4⟩,⟨_,_,_,_,m5,⟨x5,rfl,h5,g5⟩,⟨_,_,_,_,m6,⟨x6,rfl,h6⟩,rfl,rfl⟩,rfl⟩,rfl⟩,rfl⟩,rfl⟩,rfl⟩,rfl⟩⟩:=h
  exact⟨⟨x0,x1,x2,x3,x4,x5,x6⟩,by simp[OpenR.enc],⟨h0,h1,h2,h3,h4,h5,h6⟩,by simp only[Zum];omega⟩
theorem bHost:OpnB Tryz.prog W 29 (λxs b=>∃c:HostR,xs=c.enc/\c.wf/\Zun c<=b):=
 (ZO tst29 ts29 (.cons (bStore) ts25 (.cons (Zbn te26 ts119 (by omega) bRow) ts26 (.cons (Zbn te27 ts60 (by omega) bOpen) ts27 (.cons ((ZN tui3).b) ts3 (.cons ((ZN tui3).b) ts3 .nil)))))).mono λxs b h=>by
  obtain⟨b1,l1,⟨_,_,_,_,m0,⟨x0,rfl,h0,g0⟩,⟨_,_,_,_,m1,⟨x1,rfl,h1,g1⟩,⟨_,_,_,_,m2,⟨x2,rfl,h2,g2⟩,⟨_,_,_,_,m3,⟨x3,rfl,h3⟩,⟨_,_,_,_,m4,⟨x4,rfl,h4⟩,rfl,rfl⟩,rfl⟩,rfl⟩,rfl⟩,rfl⟩⟩:=h
  exact⟨⟨x0,x1,x2,x3,x4⟩,by simp[HostR.enc],⟨h0,h1,h2,h3,h4⟩,by simp only[Zun];omega⟩
end
theorem Zup {s:StoreR} (h:Zid s<=1048576):Zcb s:=by
 simp only[Zid] at h
 have h1:=Zmc (f:=Zda) (λc=>by simp only[Zda];omega) s.l
 have h2:=Zmc (f:=Zic) (λc=>by simp only[Zic];omega) s.nexts
 refine⟨by omega,by omega,λc hc=> ?_,λc hc v hv=> ?_⟩
 ·have g1:=Zpd (f:=Zda) hc
  have g2:=Zmc (f:=ZnT) (λc=>by simp only[ZnT];omega) c.l
  simp only[Zda] at g1
  omega
 ·have g1:=Zpd (f:=Zda) hc
  have g2:=Zpd (f:=ZnT) hv
  have g3:=Zmc (f:=Zib) (λc=>by simp only[Zib];omega) v.node.l
  simp only[Zda] at g1
  simp only[ZnT,Zmm] at g2
  omega
end Go.Proofs.YtgpkaoombhobmaaGreat
