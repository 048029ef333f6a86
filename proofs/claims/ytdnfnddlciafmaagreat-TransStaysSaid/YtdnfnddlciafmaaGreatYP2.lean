import Derived.Test.YtdnfnddlciafmaaGreatYP1
import Derived.Test.YtdnfnddlciafmaaGreatYBd
import Derived.Test.YtdnfnddlciafmaaGreatYBe
set_option linter.unusedVariables false
set_option linter.unusedSimpArgs false
namespace Go.Cx
structure Two (L:List Int) (f g f' g':FSR):Prop where
 fout:∀q,q∉L→findB f'.l q=findB f.l q
 gout:∀q,q∉L→findB g'.l q=findB g.l q
 same:∀q∈L,findB g'.l q=findB f'.l q
 fnext:f'.next=f.next
 gnext:g'.next=g.next
section
variable {f g:FSR} {c:CallR} (R:Zi f) (T:ZF f) (G:Zi g) (U:ZF g) (hk:c.kind≠15) (ha:∀y∈looksS f c,findB g.l y=findB f.l y)
include ha
theorem Two.still:Two (looksS f c) f g f g:=⟨fun _ _=>rfl,fun _ _=>rfl,ha,rfl,rfl⟩
include R G hk
theorem Zpl {turn:List UInt8→List UInt8×Int} (ht:∀s,s.length≤4096→(turn s).2=0→(turn s).1.length≤4096):Two (looksS f c) f g (textD f c.ino turn).1 (textD g c.ino turn).1:=by
 have hi:=ha _ (ZO hk)
 have h2:=ZhU hi turn
 by_cases h:(textD f c.ino turn).2=0
 ·obtain⟨m,hm,_,_,_,hs,hb⟩:=ZhR R h ht
  obtain⟨m',hm',_,_,_,hs',hb'⟩:=ZhR G (by rw[h2];exact h) ht
  rw[hi,hm] at hm'
  injection hm' with hm' _
  subst hm'
  refine⟨fun q hq=> ?_,fun q hq=> ?_,fun q hq=> ?_,hs.next,hs'.next⟩
  ·rw[hb,if_neg (fun e:q=c.ino=>hq (e▸ZO hk))]
  ·rw[hb',if_neg (fun e:q=c.ino=>hq (e▸ZO hk))]
  ·rw[hb,hb',ha q hq]
 ·rw[Zkp h,Zkp (by rw[h2];exact h)]
  exact .still ha
include T U
theorem ZwD:Two (looksS f c) f g (giveD f c.ino c.name c.to_).1 (giveD g c.ino c.name c.to_).1∧(giveD g c.ino c.name c.to_).2=(giveD f c.ino c.name c.to_).2:=by
 have hi:=ha _ (ZO hk)
 have ht:=ha _ (Zej hk)
 have h2:=Zrr (s:=c.name) hi ht
 by_cases h:giveE f c.ino c.name c.to_=0
 ·have h':giveE g c.ino c.name c.to_=0:=by rw[h2];exact h
  have e1:=ZhS R h
  have e2:=ZhS G h'
  rw[hi,ht] at e2
  refine⟨⟨fun q hq=> ?_,fun q hq=> ?_,fun q hq=> ?_,(ZhO R T h).2.1,(ZhO G U h').2.1⟩,?_⟩
  ·rw[e1,if_neg (fun e:q=c.to_=>hq (e▸Zej hk)),if_neg (fun e:q=c.ino=>hq (e▸ZO hk))]
  ·rw[e2,if_neg (fun e:q=c.to_=>hq (e▸Zej hk)),if_neg (fun e:q=c.ino=>hq (e▸ZO hk))]
  ·rw[e1,e2,ha q hq]
  ·rw[ZbY,ZbY,if_pos h,if_pos h']
 ·rw[ZbY,ZbY,h2,if_neg h,if_neg h];exact⟨.still ha,rfl⟩
theorem ZwE:Two (looksS f c) f g (takeD f c.ino c.name).1 (takeD g c.ino c.name).1∧(takeD g c.ino c.name).2=(takeD f c.ino c.name).2:=by
 have hi:=ha _ (ZO hk)
 have hlk:lookD g c.ino c.name=lookD f c.ino c.name:=ZfN hi fun y hy=>ha y (((Zbb f c).2 hk _).2 (.inl (.inl (.inl (.inr hy)))))
 unfold takeD
 rw[hlk]
 by_cases q1:(lookD f c.ino c.name).2=0
 case neg=>rw[if_pos q1,if_pos q1];exact⟨.still ha,rfl⟩
 have q1':¬(lookD f c.ino c.name).2≠0:=by simpa using q1
 rw[if_neg q1',if_neg q1']
 by_cases q2:0<(lookD f c.ino c.name).1.l.length
 ·rw[if_pos q2,if_pos q2];exact⟨.still ha,rfl⟩
 rw[if_neg q2,if_neg q2]
 refine⟨?_,rfl⟩
 have h0:(lookD f c.ino c.name).1.l=[]:=List.eq_nil_of_length_eq_zero (by omega)
 have A1:=ZdO R T q1 h0
 have A2:=ZdO G U (by rw[hlk];exact q1) (by rw[hlk];exact h0)
 rw[hlk] at A2
 have e1:=A1.find
 have e2:=A2.find
 rw[hi] at e2
 have hn:=Zjm R hk q1
 refine⟨fun q hq=> ?_,fun q hq=> ?_,fun q hq=> ?_,A1.next,A2.next⟩
 ·simp only
  rw[e1,if_neg (fun e:q=(lookD f c.ino c.name).1.ino=>hq (e▸hn)),if_neg (fun e:q=c.ino=>hq (e▸ZO hk))]
 ·simp only
  rw[e2,if_neg (fun e:q=(lookD f c.ino c.name).1.ino=>hq (e▸hn)),if_neg (fun e:q=c.ino=>hq (e▸ZO hk))]
 ·simp only
  rw[e1,e2,ha q hq]
theorem Zjr (b:Bool):Two (looksS f c) f g (removeO f c b).1 (removeO g c b).1∧(removeO g c b).2=(removeO f c b).2:=by
 have hi:=ha _ (ZO hk)
 have hlk:lookD g c.ino c.name=lookD f c.ino c.name:=ZfN hi fun y hy=>ha y (((Zbb f c).2 hk _).2 (.inl (.inl (.inl (.inr hy)))))
 obtain⟨t1,t2⟩:=ZwE R T G U hk ha
 unfold removeO
 rw[hlk]
 split
 ·exact⟨.still ha,rfl⟩
 split
 ·exact⟨.still ha,rfl⟩
 split
 ·exact⟨.still ha,rfl⟩
 ·exact⟨t1,by simp only[t2]⟩
omit hk in
theorem do_two (ht:touchK c=false):Two (looksS f c) f g (doS f c).1 (doS g c).1∧(doS g c).2=(doS f c).2:=by
 have hkk:c.kind≠6∧c.kind≠7∧c.kind≠8∧c.kind≠12∧c.kind≠15:=by
  simp only[touchK,Bool.or_eq_false_iff,decide_eq_false_iff_not] at ht
  exact⟨ht.1.1.1.1,ht.1.1.1.2,ht.1.1.2,ht.1.2,ht.2⟩
 obtain⟨k6,k7,k8,k12,hk⟩:=hkk
 have hi:=ha _ (ZO hk)
 have hlk:lookD g c.ino c.name=lookD f c.ino c.name:=ZfN hi fun y hy=>ha y (((Zbb f c).2 hk _).2 (.inl (.inl (.inl (.inr hy)))))
 have S:=Two.still ha
 rcases kind_cases c.kind with h|h|h|h|h|h|h|h|h|h|h|h|h|h|h|h
 ·rw[Zei h,Zei h];exact⟨S,rfl⟩
 ·rw[Zrl h,Zrl h];rw[hlk];exact⟨S,rfl⟩
 ·rw[Zrm h,Zrm h];rw[ZgL hi];exact⟨S,rfl⟩
 ·rw[ZlT h,ZlT h];rw[ZgL hi];exact⟨S,rfl⟩
 ·rw[Znx h,Znx h];exact⟨Zpl R G hk ha fun s hs h=>ZhK h hs,by simp only[ZhU hi]⟩
 ·rw[Zny h,Zny h];exact⟨Zpl R G hk ha fun s hs h=>Znw h,by simp only[ZhU hi]⟩
 ·exact absurd h k6
 ·exact absurd h k7
 ·exact absurd h k8
 ·rw[Zua h,Zua h];exact Zjr R T G U hk ha _
 ·rw[ZlU h,ZlU h];exact Zjr R T G U hk ha _
 ·rw[ZlV h,ZlV h];obtain⟨g1,g2⟩:=ZwD R T G U hk ha;exact⟨g1,by simp only[g2]⟩
 ·exact absurd h k12
 ·rw[ZhP h,ZhP h];rw[ZgL hi];exact⟨S,rfl⟩
 ·rw[Zjl h,Zjl h];rw[ZhT hi];exact⟨S,rfl⟩
 ·exact absurd h hk
end
theorem Zrx {f g h:FSR} {k:Int} (hg:Zi g) (hk:(findB f.l k).2=true∨(findB g.l k).2=true) (hh:ZB NodeR.ino h.l=true):
  ZB NodeR.ino ((changeS f g k).foldl applyOne h).l=true∧∀q,findB ((changeS f g k).foldl applyOne h).l q=if q=k∧findB f.l q≠findB g.l q then findB g.l q else findB h.l q:=by
 unfold changeS
 by_cases h1:(findB g.l k).2=false
 ·rw[if_pos h1]
  simp only[List.foldl_cons,List.foldl_nil,applyOne,if_true]
  have hz:findB g.l k=(.zero,false):=Prod.ext (ZaF h1) h1
  refine⟨ZaZ _ hh _,fun q=> ?_⟩
  rw[ZgH hh]
  by_cases e:q=k
  ·subst e
   have hne:findB f.l q≠findB g.l q:=fun e=>by
    rcases hk with hk|hk
    ·rw[e,h1] at hk;cases hk
    ·rw[h1] at hk;cases hk
   rw[if_pos rfl,if_pos ⟨rfl,hne⟩,hz]
  ·rw[if_neg e,if_neg fun g=>e g.1]
 rw[if_neg h1]
 have h1':(findB g.l k).2=true:=by simpa using h1
 obtain⟨m1,m2⟩:=Zn h1'
 by_cases h2:(findB f.l k).2=false∨(findB f.l k).1≠(findB g.l k).1
 ·rw[if_pos h2]
  simp only[List.foldl_cons,List.foldl_nil,applyOne,Bool.false_eq_true,if_false]
  refine⟨(Zcw hh _).1,fun q=> ?_⟩
  rw[ZaW hh]
  by_cases e:q=k
  ·subst e
   have hne:findB f.l q≠findB g.l q:=fun e=>by
    rcases h2 with h2|h2
    ·rw[e,h1'] at h2;cases h2
    ·exact h2 (congrArg Prod.fst e)
   rw[if_pos m2.symm,if_pos ⟨rfl,hne⟩]
   exact Prod.ext rfl h1'.symm
  ·rw[if_neg (fun e2=>e (e2.trans m2)),if_neg fun g=>e g.1]
 ·rw[if_neg h2]
  simp only[not_or,ne_eq,Decidable.not_not,Bool.not_eq_false] at h2
  refine⟨hh,fun q=> ?_⟩
  rw[if_neg]
  ·rfl
  ·rintro⟨rfl,hne⟩
   exact hne (Prod.ext h2.2 (h2.1.trans h1'.symm))
theorem Zjs {f g:FSR} (hg:Zi g):∀(ks:List Int) (h:FSR),(∀k∈ks,(findB f.l k).2=true∨(findB g.l k).2=true)→ZB NodeR.ino h.l=true→
  ZB NodeR.ino ((ks.flatMap (changeS f g)).foldl applyOne h).l=true∧∀q,findB ((ks.flatMap (changeS f g)).foldl applyOne h).l q=if q∈ks∧findB f.l q≠findB g.l q then findB g.l q else findB h.l q
 |[],h,_,hh=>⟨hh,fun q=>by simp⟩
 |k::ks,h,hk,hh=>by
  obtain⟨a1,a2⟩:=Zrx (h:=h) hg (hk k (by simp)) hh
  obtain⟨b1,b2⟩:=Zjs hg ks _ (fun k hk'=>hk k (by simp[hk'])) a1
  rw[List.flatMap_cons,List.foldl_append]
  refine⟨b1,fun q=> ?_⟩
  rw[b2,a2]
  by_cases n:findB f.l q≠findB g.l q
  ·by_cases e:q∈ks
   ·rw[if_pos ⟨e,n⟩,if_pos ⟨by simp[e],n⟩]
   ·rw[if_neg fun g=>e g.1]
    by_cases e2:q=k
    ·rw[if_pos ⟨e2,n⟩,if_pos ⟨by simp[e2],n⟩]
    ·rw[if_neg fun g=>e2 g.1,if_neg fun g=>by simp[e,e2] at g]
  ·rw[if_neg fun g=>n g.2,if_neg fun g=>n g.2,if_neg fun g=>n g.2]
theorem Zcp {f g:FSR} (hg:Zi g):∀c∈changesS f g,c.gone=false→c.node.ino+1≤g.next:=fun c hc h0=>by
 unfold changesS at hc
 obtain⟨k,hk,hc⟩:=List.mem_flatMap.1 hc
 have:=(hg.num k).2
 unfold changeS at hc
 split at hc
 ·simp only[List.mem_cons,List.not_mem_nil,or_false] at hc
  rw[hc] at h0;cases h0
 ·split at hc
  ·simp only[List.mem_cons,List.not_mem_nil,or_false] at hc
   rw[hc];simp only;omega
  ·cases hc
theorem ZfQ {f g h:FSR} (hf:Zi f) (hg:Zi g) (hh:ZB NodeR.ino h.l=true):
  ZB NodeR.ino (applyS h (changesS f g) g.next).l=true∧(∀q,findB (applyS h (changesS f g) g.next).l q=if findB f.l q=findB g.l q then findB h.l q else findB g.l q)∧(applyS h (changesS f g) g.next).next=max h.next g.next:=by
 obtain⟨r1,r2⟩:=Zai (f.l.map (·.ino)++g.l.map (·.ino))
 have hm:∀q,q∈numsS (f.l.map (·.ino)++g.l.map (·.ino))↔(∃n∈f.l,n.ino=q)∨∃n∈g.l,n.ino=q:=fun q=>by rw[r2];simp
 obtain⟨a1,a2⟩:=Zjs (f:=f) hg (numsS (f.l.map (·.ino)++g.l.map (·.ino))) h (fun k hk=>by
  rcases(hm k).1 hk with⟨n,hn,rfl⟩|⟨n,hn,rfl⟩
  ·left;rw[findB_of hf.rise hn]
  ·right;rw[findB_of hg.rise hn]) hh
 refine⟨a1,fun q=> ?_,ZfP _ h g.next (Zcp hg)⟩
 show findB ((changesS f g).foldl applyOne h).l q=_
 unfold changesS
 rw[a2]
 by_cases n:findB f.l q=findB g.l q
 ·rw[if_pos n,if_neg fun g=>g.2 n]
 ·rw[if_neg n]
  by_cases e:q∈numsS (f.l.map (·.ino)++g.l.map (·.ino))
  ·rw[if_pos ⟨e,n⟩]
  ·exfalso
   refine n ?_
   have h1:∀x∈f.l,x.ino≠q:=fun x hx e2=>e ((hm q).2 (.inl ⟨x,hx,e2⟩))
   have h2:∀x∈g.l,x.ino≠q:=fun x hx e2=>e ((hm q).2 (.inr ⟨x,hx,e2⟩))
   rw[Zca h1,Zca h2]
theorem Zmb {f g:FSR} (hf:Zi f) (hg:Zi g) {q:Int} (h:findB f.l q≠findB g.l q):∃c∈changesS f g,c.ino=q:=by
 have hq:(findB f.l q).2=true∨(findB g.l q).2=true:=by
  cases h1:(findB f.l q).2 with
  |true=>exact .inl rfl
  |false=>
   cases h2:(findB g.l q).2 with
   |true=>exact .inr rfl
   |false=>exact absurd ((Prod.ext (ZaF h1) h1:findB f.l q=(.zero,false)).trans (Prod.ext (ZaF h2) h2:findB g.l q=(.zero,false)).symm) h
 have hm:q∈numsS (f.l.map (·.ino)++g.l.map (·.ino)):=by
  rw[(Zai _).2,List.mem_append,List.mem_map,List.mem_map]
  rcases hq with hq|hq
  ·exact .inl ⟨_,(Zn hq).1,(Zn hq).2⟩
  ·exact .inr ⟨_,(Zn hq).1,(Zn hq).2⟩
 have:∃c∈changeS f g q,c.ino=q:=by
  unfold changeS
  split
  ·exact⟨_,List.mem_cons_self,rfl⟩
  ·rename_i h1
   have h1':(findB g.l q).2=true:=by simpa using h1
   split
   ·exact⟨_,List.mem_cons_self,rfl⟩
   ·rename_i h2
    simp only[not_or,ne_eq,Decidable.not_not,Bool.not_eq_false] at h2
    exact absurd (Prod.ext h2.2 (h2.1.trans h1'.symm)) h
 obtain⟨c,hc,e⟩:=this
 exact⟨c,List.mem_flatMap.2 ⟨q,hm,hc⟩,e⟩
theorem ZJ.cs {s:StoreR} (h:ZJ s):Zbw s.l:=fun c hc=>⟨(h.chain c hc).ino,fun v hv=>⟨((h.chain c hc).lo v hv).1,(h.chain c hc).ver v hv⟩⟩
theorem Zmc {α:Type} {f:α→Int} {l:List α} {st S:Int} (hS:st≤S) (h:∀x∈l,f x≤st):ZcK f l S=ZcK f l st:=by
 unfold ZcK
 have:∀k:List α,(∀x∈k,f x≤st)→(k.find? fun x=>decide (f x≤S))=k.find? fun x=>decide (f x≤st):=fun k=>by
  induction k with
  |nil=>intro _;rfl
  |cons a k ih=>
   intro hk
   have:=hk a (by simp)
   rw[List.find?_cons_of_pos (by simp;omega),List.find?_cons_of_pos (by simp;omega)]
 exact this _ fun x hx=>h x (by simpa using hx)
theorem Zuq {c:ChainR} {st:Int} (h:ZbQ st c=false):∀v∈c.l,v.stamp≤st:=fun v hv=>by
 unfold ZbQ at h
 rw[List.any_eq_false] at h
 have:=h v hv
 simp only[decide_eq_true_eq] at this;omega
theorem Zib {c:ChainR} {st S:Int} (hS:st≤S) (h:ZbQ st c=false):Zad c S=Zad c st:=by
 unfold Zad
 rw[Zmc hS (Zuq h)]
theorem Zic {s:StoreR} {st n:Int} (hn:1≤n):n∈sinceS s st↔n∈Zbc s st:=by
 unfold sinceS
 split
 ·rw[List.mem_cons]
  exact⟨fun h=>h.resolve_left (by omega),.inr⟩
 ·rename_i h
  simp only[not_or,ne_eq,Decidable.not_not] at h
  rw[h.1]
theorem Zjt {s:StoreR} (h:ZJ s) {st n:Int} (hn:n∈Zbc s st):1≤n:=by
 unfold Zbc at hn
 obtain⟨c,hc,rfl⟩:=List.mem_map.1 hn
 exact(h.chain c (List.mem_filter.1 hc).1).ino
theorem Zju {s:StoreR} {st:Int} (h:sinceS s st≠[]):0∈sinceS s st:=by
 unfold sinceS at h⊢
 split
 ·simp
 ·rename_i q;rw[if_neg q] at h;exact absurd rfl h
theorem Zid {s:StoreR} (h:ZJ s) (st:Int):ZB NodeR.ino (viewS s st).l=true:=ZfO h.rise h.cs st
theorem Zur {s:StoreR} (h:ZJ s) {st:Int} (hst:st≤s.stamp) {n:Int} (hn:n∉Zbc s st):findB (viewS s s.stamp).l n=findB (viewS s st).l n:=by
 refine ZfI (Zid h _) (Zid h _) fun x hx=> ?_
 have key:∀c∈s.l,c.ino=n→ZbQ st c=false:=fun c hc e=>by
  cases q:ZbQ st c with
  |false=>rfl
  |true=>exact absurd (List.mem_map.2 ⟨c,List.mem_filter.2 ⟨hc,q⟩,e⟩) hn
 show x∈Zda s.l s.stamp↔x∈Zda s.l st
 constructor
 ·intro hm
  obtain⟨c,hc,hm⟩:=List.mem_flatMap.1 hm
  have hi:=(Zcb h.cs hc hm).1
  rw[Zib hst (key c hc (by rw[←hi,hx]))] at hm
  exact List.mem_flatMap.2 ⟨c,hc,hm⟩
 ·intro hm
  obtain⟨c,hc,hm⟩:=List.mem_flatMap.1 hm
  have hi:=(Zcb h.cs hc hm).1
  rw[←Zib hst (key c hc (by rw[←hi,hx]))] at hm
  exact List.mem_flatMap.2 ⟨c,hc,hm⟩
theorem Zus {s:StoreR} {st:Int} (hst:st≤s.stamp) (h:sinceS s st=[]):viewS s s.stamp=viewS s st:=by
 unfold sinceS at h
 split at h
 ·cases h
 rename_i q
 simp only[not_or,ne_eq,Decidable.not_not] at q
 obtain⟨q1,q2⟩:=q
 unfold viewS
 congr 1
 ·refine ZdP fun c hc=>Zib hst ?_
  cases g:ZbQ st c with
  |false=>rfl
  |true=>
   have:c.ino∈Zbc s st:=List.mem_map.2 ⟨c,List.mem_filter.2 ⟨hc,g⟩,rfl⟩
   rw[q1] at this;cases this
 ·unfold nextAt
  rw[Zmc hst]
  intro x hx
  simp only[Bool.not_eq_true] at q2
  rw[List.any_eq_false] at q2
  have:=q2 x hx
  simp only[decide_eq_true_eq] at this;omega
theorem Zry {s:StoreR} (h:ZJ s):sinceS s s.stamp=[]:=by
 unfold sinceS
 have h1:Zbc s s.stamp=[]:=by
  unfold Zbc
  rw[List.map_eq_nil_iff,List.filter_eq_nil_iff]
  intro c hc hl
  unfold ZbQ at hl
  obtain⟨v,hv,hl⟩:=List.any_eq_true.1 hl
  have:=((h.chain c hc).lo v hv).2
  simp only[decide_eq_true_eq] at hl;omega
 have h2:(s.nexts.any fun c=>decide (s.stamp<c.stamp))=false:=by
  rw[List.any_eq_false]
  intro c hc
  have:=(h.count c hc).2.1
  simp only[decide_eq_true_eq];omega
 rw[if_neg]
 rw[h1,h2];simp
def ZeC (cs:List ChainR) (S n:Int):Prop:=∃c∈cs,c.ino=n∧∃v∈c.l,v.stamp=S
theorem Zut {cs:List ChainR} {S:Int} {B:Nat} (M:Mid cs S B) (x:ChangeR):ZeC (ZT S cs x) S x.ino∧∀n,ZeC cs S n→ZeC (ZT S cs x) S n:=by
 obtain⟨⟨c0,hc0,e0⟩,hat⟩:=Zks M.rise (ino:=x.ino) (v:=Zdp S x)
 have h1:ZeC (ZT S cs x) S x.ino:=by
  obtain⟨k,hk⟩:=hat c0 hc0 e0
  exact⟨c0,hc0,e0,Zdp S x,by rw[hk];simp,rfl⟩
 refine⟨h1,fun n hn=> ?_⟩
 by_cases e:n=x.ino
 ·rw[e];exact h1
 ·obtain⟨c,hc,e2,hv⟩:=hn
  exact⟨c,(ZgN M.rise c (by rw[e2];exact e)).2 hc,e2,hv⟩
theorem Zjv {S:Int}:∀(l:List ChangeR) {cs:List ChainR} {B:Nat},Mid cs S B→(∀x∈l,ZeC (l.foldl (ZT S) cs) S x.ino)∧∀n,ZeC cs S n→ZeC (l.foldl (ZT S) cs) S n
 |[],cs,B,M=>⟨by simp,fun _ h=>h⟩
 |x::l,cs,B,M=>by
  obtain⟨a1,a2⟩:=Zut M x
  obtain⟨b1,b2⟩:=Zjv l (M.more x.ino (v:=Zdp S x) rfl)
  refine⟨fun y hy=> ?_,fun n hn=>b2 n (a2 n hn)⟩
  rcases List.mem_cons.1 hy with rfl|hy
  ·exact b2 _ a1
  ·exact b1 y hy
theorem Zfo {s:StoreR} (h:ZJ s) {l:List ChangeR} {next:Int}:(∀x∈l,x.ino∈Zbc (installS s l next) s.stamp):=fun x hx=>by
 have M:Mid s.l (s.stamp+1) (s.l.length+(s.l.map fun c=>c.l.length).sum):=h.mid (Nat.le_add_right _ _) fun c hc=>by
  have:c.l.length≤(s.l.map fun c=>c.l.length).sum:=Zpj (List.mem_map_of_mem hc)
  omega
 obtain⟨c,hc,e,v,hv,hs⟩:=(Zjv l M).1 x hx
 refine List.mem_map.2 ⟨c,List.mem_filter.2 ⟨hc,?_⟩,e⟩
 unfold ZbQ
 exact List.any_eq_true.2 ⟨v,hv,by simp;omega⟩
theorem Zas:∀(l:List CallR) (t:TxnR),(stepsS t l).1.now=(playS t.now l).1∧(stepsS t l).2=(playS t.now l).2∧(stepsS t l).1.was=t.was∧(stepsS t l).1.stamp=t.stamp
 |[],t=>⟨rfl,rfl,rfl,rfl⟩
 |c::l,t=>by
  obtain⟨h1,h2,h3,h4⟩:=Zas l (stepS t c).1
  refine⟨h1,?_,h3,h4⟩
  simp only[stepsS,playS]
  rw[h2];rfl
theorem Zdb (t:TxnR) (c:CallR) (n:Int):n∈(stepS t c).1.looks↔n∈t.looks∨n∈touchS t.now c:=by
 show n∈numsS _↔_
 rw[(Zai _).2,List.mem_append]
theorem Zdq:∀(l:List CallR) (t:TxnR),∀n∈t.looks,n∈(stepsS t l).1.looks
 |[],t,n,h=>h
 |c::l,t,n,h=>Zdq l _ n ((Zdb t c n).2 (.inl h))
theorem do_next {f:FSR} (R:Zi f) (T:ZF f) {c:CallR} (h:touchK c=false):(doS f c).1.next=f.next:=(do_two R T R T (fun _ _=>rfl) h).1.fnext
theorem ZeD:∀(l:List CallR) {t:TxnR},TxnP t→(∀q,1≤q→findB (stepsS t l).1.now.l q≠findB t.now.l q→q∈(stepsS t l).1.looks∨t.now.next≤q)∧(t.now.next<(stepsS t l).1.now.next→0∈(stepsS t l).1.looks)
 |[],t,h=>⟨fun q _ hq=>absurd rfl hq,fun hq=>absurd hq (Int.lt_irrefl _)⟩
 |c::l,t,h=>by
  have h':=ZcZ h c
  obtain⟨i1,i2⟩:=ZeD l h'
  have K:=Zdn h.nrows h.ntree c
  have e:(stepS t c).1.now=(doS t.now c).1:=rfl
  obtain⟨L,H⟩:=Zuc h.nrows h.ntree c
  rw[e] at i1 i2
  refine⟨fun q hq hne=> ?_,fun hn=> ?_⟩
  ·by_cases g:findB (stepsS (stepS t c).1 l).1.now.l q=findB (doS t.now c).1.l q
   ·have hne':findB (doS t.now c).1.l q≠findB t.now.l q:=fun e2=>hne (g.trans e2)
    have hL:q∈L:=Decidable.byContradiction fun hL=>hne' (H.no q hL)
    rcases H.yes q hL with hl|hl
    ·exact .inl (Zdq l _ q ((Zdb t c q).2 (.inr (((touch_spec t.now c).2 q).2 (.inl ⟨hl,hq⟩)))))
    ·exact .inr hl
   ·rcases i1 q hq g with hl|hl
    ·exact .inl hl
    ·have:=K.next.1
     exact .inr (by omega)
  ·by_cases g:(doS t.now c).1.next=t.now.next
   ·rw[g] at i2
    exact i2 hn
   ·have hk:touchK c=true:=by
     cases q:touchK c with
     |true=>rfl
     |false=>exact absurd (do_next h.nrows h.ntree q) g
    exact Zdq l _ 0 ((Zdb t c 0).2 (.inr (((touch_spec t.now c).2 0).2 (.inr ⟨hk,rfl⟩))))
structure Inv (v v':FSR) (D:List Int) (f g:FSR):Prop where
 fR:Zi f
 fT:ZF f
 gR:Zi g
 gT:ZF g
 out:∀q,q∉D→findB g.l q=findB f.l q
 fin:∀q∈D,findB f.l q=findB v.l q
 gin:∀q∈D,findB g.l q=findB v'.l q
 fnext:f.next=v.next
 gnext:g.next=v'.next
theorem Inv.step {v v':FSR} {D:List Int} (hD:∀n∈D,1≤n) {f g:FSR} (I:Inv v v' D f g) {c:CallR} (h0:0∉touchS f c) (hd:∀n∈D,n∉touchS f c):Inv v v' D (doS f c).1 (doS g c).1∧(doS g c).2=(doS f c).2:=by
 have hk:touchK c=false:=by
  cases q:touchK c with
  |false=>rfl
  |true=>exact absurd (((touch_spec f c).2 0).2 (.inr ⟨q,rfl⟩)) h0
 have hl:∀y∈looksS f c,y∉D:=fun y hy hyD=>hd y hyD (((touch_spec f c).2 y).2 (.inl ⟨hy,hD y hyD⟩))
 obtain⟨A,B⟩:=do_two I.fR I.fT I.gR I.gT (fun y hy=>I.out y (hl y hy)) hk
 have K1:=Zdn I.fR I.fT c
 have K2:=Zdn I.gR I.gT c
 refine⟨⟨K1.rows,K1.tree,K2.rows,K2.tree,fun q hq=> ?_,fun q hq=> ?_,fun q hq=> ?_,A.fnext.trans I.fnext,A.gnext.trans I.gnext⟩,B⟩
 ·by_cases hq2:q∈looksS f c
  ·exact A.same q hq2
  ·rw[A.fout q hq2,A.gout q hq2];exact I.out q hq
 ·rw[A.fout q fun h=>hl q h hq];exact I.fin q hq
 ·rw[A.gout q fun h=>hl q h hq];exact I.gin q hq
theorem Inv.steps {v v':FSR} {D:List Int} (hD:∀n∈D,1≤n):∀(l:List CallR) {t:TxnR} {g:FSR},Inv v v' D t.now g→0∉(stepsS t l).1.looks→(∀n∈D,n∉(stepsS t l).1.looks)→Inv v v' D (stepsS t l).1.now (playS g l).1∧(playS g l).2=(stepsS t l).2
 |[],t,g,I,_,_=>⟨I,rfl⟩
 |c::l,t,g,I,h0,hd=>by
  have sub:∀n,n∈touchS t.now c→n∈(stepsS (stepS t c).1 l).1.looks:=fun n hn=>Zdq l _ n ((Zdb t c n).2 (.inr hn))
  obtain⟨A,B⟩:=I.step hD (fun h=>h0 (sub 0 h)) fun n hn h=>hd n hn (sub n h)
  obtain⟨A',B'⟩:=Inv.steps hD l (t:=(stepS t c).1) A h0 hd
  refine⟨A',?_⟩
  simp only[playS,stepsS]
  rw[B,B'];rfl
theorem Zie {s:StoreR} {t:TxnR} (h:clashS s t=false):∀n∈sinceS s t.stamp,n∉t.looks:=fun n hn hl=>by
 unfold clashS at h
 rw[List.any_eq_false] at h
 exact h n hn (by simpa using hl)
theorem ZfR {s:StoreR} (h:ZJ s) {t:TxnR} (ht:t.stamp=s.stamp):clashS s t=false:=by
 unfold clashS
 rw[ht,Zry h];rfl
structure Past (s k:StoreR) (B:Nat):Prop where
 right:ZJ k
 few:Zbv B k
 rows:Zi (viewS k k.stamp)
 tree:ZF (viewS k k.stamp)
 next:(viewS s s.stamp).next≤(viewS k k.stamp).next
 stamp:s.stamp≤k.stamp
 old:viewS k s.stamp=viewS s s.stamp
theorem Past.here {s:StoreR} {B:Nat} (h:ZJ s) (hb:Zbv B s) (R:Zi (viewS s s.stamp)) (T:ZF (viewS s s.stamp)):Past s s B:=⟨h,hb,R,T,Int.le_refl _,Int.le_refl _,rfl⟩
theorem ZbF {s:StoreR} (h:ZJ s) {B:Nat} (hb:Zbv B s) {t:TxnR} (T:TxnP t) (hw:t.was=viewS s s.stamp) (ht:t.stamp=s.stamp):
  (commitS s t).2=0∧Past s (commitS s t).1 (B+513)∧viewS (commitS s t).1 (commitS s t).1.stamp=t.now∧((commitS s t).1=s↔t.was=t.now)∧(commitS s t).1.stamp≤s.stamp+1∧(t.was≠t.now→(commitS s t).1=installS s (changesS t.was t.now) t.now.next):=by
 obtain⟨h1,h2,h3⟩:=ZbR h hb T
 have hc:=ZfR h ht
 by_cases q:t.was=t.now
 ·have e:commitS s t=(s,0):=by unfold commitS;rw[if_pos q]
  rw[e]
  refine⟨rfl,⟨h,hb.mono (by omega),hw▸T.wrows,hw▸T.wtree,Int.le_refl _,Int.le_refl _,rfl⟩,by rw[←hw,q],⟨fun _=>q,fun _=>rfl⟩,by simp only;omega,fun g=>absurd q g⟩
 ·have e:commitS s t=(installS s (changesS t.was t.now) t.now.next,0):=by unfold commitS;rw[if_neg q,hc,if_neg (by simp)]
  rw[e] at h1 h2⊢
  obtain⟨c1,c2⟩:=Zan T.wrows T.nrows
  have hv:viewS (installS s (changesS t.was t.now) t.now.next) (s.stamp+1)=t.now:=by
   rw[ZcA h c2 (Zcp T.nrows),←hw]
   exact ZtP T.wrows T.nrows T.next
  have hv':viewS (installS s (changesS t.was t.now) t.now.next) (installS s (changesS t.was t.now) t.now.next).stamp=t.now:=hv
  refine⟨rfl,⟨h1,h2,by simp only;rw[hv'];exact T.nrows,by simp only;rw[hv'];exact T.ntree,?_,by show s.stamp≤s.stamp+1;omega,Zpk (Int.le_refl _)⟩,hv',⟨fun g=> ?_,fun g=>absurd g q⟩,Int.le_refl _,fun _=>rfl⟩
  ·rw[hv',←hw];exact T.next
  ·have:=congrArg StoreR.stamp g
   simp only[installS] at this;omega
theorem ZbS {s:StoreR} (hP:ZJ s) (R:Zi (viewS s s.stamp)) (T:ZF (viewS s s.stamp)):TxnP (beginS s):=⟨R,T,R,T,Int.le_refl _,hP.stamp,rfl,by simp[beginS]⟩
theorem Zkt {s k:StoreR} {B:Nat} (P:Past s k B) (l:List CallR):Past s (runS k l).1 (B+513)∧(viewS (runS k l).1 (runS k l).1.stamp).next≤(viewS k k.stamp).next+l.length∧(runS k l).1.stamp≤k.stamp+1:=by
 have Tb:=ZbS P.right P.rows P.tree
 obtain⟨S1,S2,S3⟩:=Zv l Tb
 obtain⟨p1,p2,p3,p4⟩:=Zas l (beginS k)
 obtain⟨c1,c2,c3,c4,c5,c6⟩:=ZbF P.right P.few S1 p3 p4
 have e:(runS k l).1=(commitS k (stepsS (beginS k) l).1).1:=rfl
 rw[e]
 refine⟨⟨c2.right,c2.few,c2.rows,c2.tree,Int.le_trans P.next c2.next,Int.le_trans P.stamp c2.stamp,?_⟩,by rw[c3];exact S2,c5⟩
 by_cases q:(stepsS (beginS k) l).1.was=(stepsS (beginS k) l).1.now
 ·rw[c4.2 q];exact P.old
 ·rw[c6 q,Zpk P.stamp];exact P.old
def at0 (k:StoreR) (st:Int):TxnR:=⟨st,viewS k st,viewS k st,[]⟩
theorem serialK {k:StoreR} (hP:ZJ k) {st:Int} (h1:1≤st) (hst:st≤k.stamp) (R:Zi (viewS k st)) (T:ZF (viewS k st)) (R':Zi (viewS k k.stamp)) (T':ZF (viewS k k.stamp)) (hnx:(viewS k st).next≤(viewS k k.stamp).next) (l:List CallR)
  (hc:clashS k (stepsS (at0 k st) l).1=false) (hq:(stepsS (at0 k st) l).1.was≠(stepsS (at0 k st) l).1.now):
  (playS (viewS k k.stamp) l).2=(stepsS (at0 k st) l).2∧viewS (installS k (changesS (stepsS (at0 k st) l).1.was (stepsS (at0 k st) l).1.now) (stepsS (at0 k st) l).1.now.next) (k.stamp+1)=(playS (viewS k k.stamp) l).1∧
  ∀q,(findB (viewS k k.stamp).l q=findB (playS (viewS k k.stamp) l).1.l q∧findB (stepsS (at0 k st) l).1.was.l q=findB (stepsS (at0 k st) l).1.now.l q)∨(findB (viewS k k.stamp).l q=findB (stepsS (at0 k st) l).1.was.l q∧findB (playS (viewS k k.stamp) l).1.l q=findB (stepsS (at0 k st) l).1.now.l q):=by
 have Tb:TxnP (at0 k st):=⟨R,T,R,T,Int.le_refl _,h1,rfl,by simp[at0]⟩
 obtain⟨S1,S2,S3⟩:=Zv l Tb
 obtain⟨p1,p2,p3,p4⟩:=Zas l (at0 k st)
 have hn:=Zie hc
 have p4':(stepsS (at0 k st) l).1.stamp=st:=p4
 rw[p4'] at hn
 have p1':(stepsS (at0 k st) l).1.now=(playS (viewS k st) l).1:=p1
 have p2':(stepsS (at0 k st) l).2=(playS (viewS k st) l).2:=p2
 have p3':(stepsS (at0 k st) l).1.was=viewS k st:=p3
 obtain⟨c1,c2⟩:=Zan S1.wrows S1.nrows
 rw[ZcA hP c2 (Zcp S1.nrows)]
 by_cases q:sinceS k st=[]
 ·have e:viewS k k.stamp=viewS k st:=Zus hst q
  rw[e,p2']
  refine⟨rfl,?_,fun q=> .inr ⟨by rw[p3'],by rw[p1']⟩⟩
  rw[←p1',←p3']
  exact ZtP S1.wrows S1.nrows S1.next
 ·have h0:=hn 0 (Zju q)
  have hD:∀n∈Zbc k st,1≤n:=fun n hn=>Zjt hP hn
  have hout:∀q,q∉Zbc k st→findB (viewS k k.stamp).l q=findB (viewS k st).l q:=fun q hq=>Zur hP hst hq
  have I0:Inv (viewS k st) (viewS k k.stamp) (Zbc k st) (at0 k st).now (viewS k k.stamp):=⟨R,T,R',T',hout,fun _ _=>rfl,fun _ _=>rfl,rfl,rfl⟩
  obtain⟨I,E⟩:=Inv.steps hD l I0 h0 fun n hn'=>hn n ((Zic (hD n hn')).2 hn')
  have F:=ZfQ S1.wrows S1.nrows (Zid hP k.stamp)
  obtain⟨f1,f2,f3⟩:=F
  have K:=ZlX l (viewS k k.stamp) R' T'
  have el:(applyS (viewS k k.stamp) (changesS (stepsS (at0 k st) l).1.was (stepsS (at0 k st) l).1.now) (stepsS (at0 k st) l).1.now.next).l=(playS (viewS k k.stamp) l).1.l:=by
   refine ZaN NodeR.ino f1 K.1.rise fun n=> ?_
   rw[Zcy f1,Zcy K.1.rise,f2]
   suffices hh:(if findB (stepsS (at0 k st) l).1.was.l n.ino=findB (stepsS (at0 k st) l).1.now.l n.ino then findB (viewS k k.stamp).l n.ino else findB (stepsS (at0 k st) l).1.now.l n.ino)=findB (playS (viewS k k.stamp) l).1.l n.ino by rw[hh]
   by_cases hd:n.ino∈Zbc k st
   ·have h1:=I.fin _ hd
    rw[p3',if_pos h1.symm,I.gin _ hd]
   ·rw[I.out _ hd]
    split
    ·rename_i e2
     rw[hout _ hd,←e2,p3']
    ·rfl
  have en:(applyS (viewS k k.stamp) (changesS (stepsS (at0 k st) l).1.was (stepsS (at0 k st) l).1.now) (stepsS (at0 k st) l).1.now.next).next=(playS (viewS k k.stamp) l).1.next:=by
   rw[f3,I.gnext,I.fnext]
   omega
  refine⟨E,?_,fun q=> ?_⟩
  ·generalize applyS (viewS k k.stamp) (changesS (stepsS (at0 k st) l).1.was (stepsS (at0 k st) l).1.now) (stepsS (at0 k st) l).1.now.next=X at*
   generalize(playS (viewS k k.stamp) l).1=Y at*
   cases X;cases Y
   simp only at el en
   rw[el,en]
  ·by_cases hd:q∈Zbc k st
   ·exact .inl ⟨(I.gin _ hd).symm,by rw[p3'];exact(I.fin _ hd).symm⟩
   ·exact .inr ⟨by rw[p3'];exact hout _ hd,I.out _ hd⟩
theorem serial {s k:StoreR} {B:Nat} (h:ZJ s) (R:Zi (viewS s s.stamp)) (T:ZF (viewS s s.stamp)) (P:Past s k B) (l:List CallR)
  (hc:clashS k (stepsS (beginS s) l).1=false) (hq:(stepsS (beginS s) l).1.was≠(stepsS (beginS s) l).1.now):
  (playS (viewS k k.stamp) l).2=(stepsS (beginS s) l).2∧viewS (installS k (changesS (stepsS (beginS s) l).1.was (stepsS (beginS s) l).1.now) (stepsS (beginS s) l).1.now.next) (k.stamp+1)=(playS (viewS k k.stamp) l).1:=by
 have e:beginS s=at0 k s.stamp:=by unfold at0;rw[P.old];rfl
 rw[e] at hc hq⊢
 have S:=serialK P.right h.stamp P.stamp (by rw[P.old];exact R) (by rw[P.old];exact T) P.rows P.tree (by rw[P.old];exact P.next) l hc hq
 exact⟨S.1,S.2.1⟩
theorem apart {s:StoreR} (h:ZJ s) (R:Zi (viewS s s.stamp)) (T:ZF (viewS s s.stamp)) {B:Nat} (hb:Zbv B s) (a b:List CallR)
  (hx:(commitS (commitS s (stepsS (beginS s) a).1).1 (stepsS (beginS s) b).1).2=0) (hy:(commitS (commitS s (stepsS (beginS s) b).1).1 (stepsS (beginS s) a).1).2=0):
  viewS (commitS (commitS s (stepsS (beginS s) a).1).1 (stepsS (beginS s) b).1).1 (commitS (commitS s (stepsS (beginS s) a).1).1 (stepsS (beginS s) b).1).1.stamp=
  viewS (commitS (commitS s (stepsS (beginS s) b).1).1 (stepsS (beginS s) a).1).1 (commitS (commitS s (stepsS (beginS s) b).1).1 (stepsS (beginS s) a).1).1.stamp:=by
 have Tb:=ZbS h R T
 have X1:=(Zv a Tb).1
 have Y1:=(Zv b Tb).1
 obtain⟨_,_,x3,x4⟩:=Zas a (beginS s)
 obtain⟨_,_,y3,y4⟩:=Zas b (beginS s)
 have xm:=ZeD a Tb
 have ym:=ZeD b Tb
 generalize(stepsS (beginS s) a).1=x at*
 generalize(stepsS (beginS s) b).1=y at*
 have x3':x.was=viewS s s.stamp:=x3
 have y3':y.was=viewS s s.stamp:=y3
 have x4':x.stamp=s.stamp:=x4
 have y4':y.stamp=s.stamp:=y4
 obtain⟨cx1,cx2,cx3,cx4,cx5,cx6⟩:=ZbF h hb X1 x3' x4'
 obtain⟨cy1,cy2,cy3,cy4,cy5,cy6⟩:=ZbF h hb Y1 y3' y4'
 have idle:∀(k:StoreR) (t:TxnR),t.was=t.now→(commitS k t).1=k:=fun k t e=>by unfold commitS;rw[if_pos e]
 by_cases qx:x.was=x.now
 ·rw[idle _ x qx,idle _ x qx]
 by_cases qy:y.was=y.now
 ·rw[idle _ y qy,idle _ y qy]
 have ex:=cx6 qx
 have ey:=cy6 qy
 rw[ex] at hx cx2 cx3⊢
 rw[ey] at hy cy2 cy3⊢
 have com:∀{k:StoreR} {t:TxnR},t.was≠t.now→(commitS k t).2=0→clashS k t=false∧(commitS k t).1=installS k (changesS t.was t.now) t.now.next:=fun{k t} q g=>by
  unfold commitS at g⊢
  rw[if_neg q] at g⊢
  by_cases c:clashS k t=true
  ·rw[if_pos c] at g;exact absurd g (by simp)
  ·rw[if_neg c];exact⟨by simpa using c,rfl⟩
 obtain⟨dx,ex2⟩:=com qy hx
 obtain⟨dy,ey2⟩:=com qx hy
 rw[ex2,ey2]
 have hs1:(installS s (changesS x.was x.now) x.now.next).stamp=s.stamp+1:=rfl
 have hs2:(installS s (changesS y.was y.now) y.now.next).stamp=s.stamp+1:=rfl
 obtain⟨cx,gx⟩:=Zan X1.wrows X1.nrows
 obtain⟨cy,gy⟩:=Zan Y1.wrows Y1.nrows
 have V1:=ZcA cx2.right gy (Zcp Y1.nrows)
 have V2:=ZcA cy2.right gx (Zcp X1.nrows)
 rw[cx3] at V1
 rw[cy3] at V2
 have hV1:viewS (installS (installS s (changesS x.was x.now) x.now.next) (changesS y.was y.now) y.now.next) (installS (installS s (changesS x.was x.now) x.now.next) (changesS y.was y.now) y.now.next).stamp=applyS x.now (changesS y.was y.now) y.now.next:=V1
 have hV2:viewS (installS (installS s (changesS y.was y.now) y.now.next) (changesS x.was x.now) x.now.next) (installS (installS s (changesS y.was y.now) y.now.next) (changesS x.was x.now) x.now.next).stamp=applyS y.now (changesS x.was x.now) x.now.next:=V2
 rw[hV1,hV2]
 have nx:=Zie dx
 have ny:=Zie dy
 rw[y4'] at nx
 rw[x4'] at ny
 have sx:∀q,findB x.was.l q≠findB x.now.l q→q∈Zbc (installS s (changesS x.was x.now) x.now.next) s.stamp:=fun q hq=>by
  obtain⟨c,hc,e⟩:=Zmb X1.wrows X1.nrows hq
  rw[←e];exact Zfo h c hc
 have sy:∀q,findB y.was.l q≠findB y.now.l q→q∈Zbc (installS s (changesS y.was y.now) y.now.next) s.stamp:=fun q hq=>by
  obtain⟨c,hc,e⟩:=Zmb Y1.wrows Y1.nrows hq
  rw[←e];exact Zfo h c hc
 have both:∀q,findB x.was.l q≠findB x.now.l q→findB y.was.l q≠findB y.now.l q→False:=fun q h1 h2=>by
  have m1:=sx q h1
  have m2:=sy q h2
  have hq:=Zjt cx2.right m1
  have n1:=nx q ((Zic hq).2 m1)
  have n0:=nx 0 (Zju (List.ne_nil_of_mem ((Zic hq).2 m1)))
  have hw:(beginS s).now=y.was:=y3.symm
  rcases ym.1 q hq (by rw[hw];exact h2.symm) with g|g
  ·exact n1 g
  ·rw[hw] at g
   have hno:findB y.was.l q=(.zero,false):=Zca fun z hz e=>by have:=Y1.wrows.lt z hz;omega
   have hyes:(findB y.now.l q).2=true:=by
    cases e:(findB y.now.l q).2 with
    |true=>rfl
    |false=>exact absurd (hno.trans (Prod.ext (ZaF e) e:findB y.now.l q=(.zero,false)).symm) h2
   have hlt:=Y1.nrows.lt _ (Zn hyes).1
   rw[(Zn hyes).2] at hlt
   exact n0 (ym.2 (by rw[hw];omega))
 obtain⟨f1,f2,f3⟩:=ZfQ (h:=x.now) Y1.wrows Y1.nrows X1.nrows.rise
 obtain⟨g1,g2,g3⟩:=ZfQ (h:=y.now) X1.wrows X1.nrows Y1.nrows.rise
 have el:(applyS x.now (changesS y.was y.now) y.now.next).l=(applyS y.now (changesS x.was x.now) x.now.next).l:=by
  refine ZaN NodeR.ino f1 g1 fun n=> ?_
  rw[Zcy f1,Zcy g1,f2,g2]
  by_cases qa:findB y.was.l n.ino=findB y.now.l n.ino
  ·by_cases qb:findB x.was.l n.ino=findB x.now.l n.ino
   ·rw[if_pos qa,if_pos qb,←qa,←qb,x3',y3']
   ·rw[if_pos qa,if_neg qb]
  ·by_cases qb:findB x.was.l n.ino=findB x.now.l n.ino
   ·rw[if_neg qa,if_pos qb]
   ·exact(both _ qb qa).elim
 have en:(applyS x.now (changesS y.was y.now) y.now.next).next=(applyS y.now (changesS x.was x.now) x.now.next).next:=by
  rw[f3,g3];omega
 generalize applyS x.now (changesS y.was y.now) y.now.next=X at*
 generalize applyS y.now (changesS x.was x.now) x.now.next=Y at*
 cases X;cases Y
 simp only at el en
 rw[el,en]
end Go.Cx
namespace Go.Cx
open Go.ChangeShapes Go.WideShapes
variable {P:Program} {W:World}
theorem blk_pos {H:Type} (d:DataW H):1≤blk d:=by
 cases d with
 |lit l=>cases l<;>simp[blk]
 |slice e s=>simp[blk]
 |agg p=>simp[blk]
 |nil=>simp[blk]
 |ptr d=>simp[blk]
 |iface t d=>simp[blk]
 |map es=>simp[blk]
 |held h=>simp[blk]
theorem Opn.b1 {t:TypeId} {A:List AV→Prop} (h:Opn P W t A):OpnB P W t (fun as b=>A as∧1≤b):=fun H enc fuel cs x hx=>
 let⟨as,ha,hr⟩:=h H enc fuel cs x hx
 ⟨as,⟨ha,blk_pos _⟩,hr⟩
theorem ZwF {α:Type} (l:List α):(l.map fun _=>1).sum=l.length:=by induction l with|nil=>rfl|cons a l ih=>simp[ih];omega
theorem Zmd {α β:Type} (f:α→β):∀l:List α,(l.flatMap fun c=>[f c])=l.map f
 |[]=>rfl
 |a::l=>by rw[List.flatMap_cons,List.map_cons,Zmd f l];rfl
theorem Zrz {α:Type} {enc:α→AV} {p:α→Prop} {wt:α→Nat} {t e:TypeId} (ht:ZY P t=some e) (hk:Zd P e=some 1) (he:OpnB P W e (fun as b=>∃c,as=[enc c]∧p c∧wt c≤b)):
  OpnB P W t (fun as b=>∃cs:List α,as=[.sl false cs.length (cs.map enc)]∧(∀c∈cs,p c)∧(cs.map wt).sum+1≤b):=
 (ZbO (enc:=fun c=>[enc c]) ht hk (by omega) he).mono fun as b ⟨cs,h1,h2,h3⟩=>⟨cs,by rw[h1,Zmd],h2,h3⟩
theorem Zuu {t e:TypeId} (ht:ZY P t=some e) (hk:Zd P e=some 1) (hi:P.underlying e=some (.int .i64)):
  OpnB P W t (fun as b=>∃cs:List Int,as=[.sl false cs.length (cs.map I)]∧(∀c∈cs,inI c)∧cs.length+1≤b):=
 (Zrz (enc:=I) (p:=inI) (wt:=fun _=>1) ht hk ((ZI hi).b1.mono fun as b ⟨⟨n,h1,h2⟩,h3⟩=>⟨n,h1,h2,h3⟩)).mono fun as b ⟨cs,h1,h2,h3⟩=>⟨cs,h1,h2,by rwa[ZwF] at h3⟩
theorem Zpm {α:Type} {f:α→Nat}:∀{l:List α} {a:α},a∈l→f a≤(l.map f).sum
 |b::l,a,h=>by
  rw[List.map_cons,List.sum_cons]
  rcases List.mem_cons.1 h with rfl|h
  ·omega
  ·have:=Zpm (f:=f) h;omega
theorem Zme {α:Type} {f:α→Nat} (hf:∀a,1≤f a):∀l:List α,l.length≤(l.map f).sum
 |[]=>by simp
 |a::l=>by have:=Zme hf l;have:=hf a;simp only[List.length_cons,List.map_cons,List.sum_cons];omega
end Go.Cx
