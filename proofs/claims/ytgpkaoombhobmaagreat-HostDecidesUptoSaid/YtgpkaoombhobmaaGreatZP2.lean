import Derived.Test.YtgpkaoombhobmaaGreatZP1
import Derived.Laws.FloatArith
import Derived.Sort.Grow
import Derived.Test.YtgpkaoombhobmaaGreatZBe
import Derived.KernelRfl
import Derived.CallsIn
import Derived.Below
import Derived.RangeFuncWrites
import Derived.Test.YtgpkaoombhobmaaGreatZBd
set_option linter.unusedVariables false
set_option linter.unusedSimpArgs false
namespace Go.Cx
structure Two (L:List Int) (f g f' g':FSR):Prop where
 fout:∀q,q∉L→findB f'.l q=findB f.l q
 gout:∀q,q∉L→findB g'.l q=findB g.l q
 same:∀q∈L,findB g'.l q=findB f'.l q
 fnext:f'.next=f.next
 gnext:g'.next=g.next
section
variable {f g:FSR} {c:CallR} (R:Zg f) (T:ZI f) (G:Zg g) (U:ZI g) (hk:c.kind≠15) (ha:∀y∈looksS f c,findB g.l y=findB f.l y)
include ha
theorem Two.still:Two (looksS f c) f g f g:=⟨fun _ _=>rfl,fun _ _=>rfl,ha,rfl,rfl⟩
include R G hk
theorem ZoA {turn:List UInt8→List UInt8×Int} (ht:∀s,s.length≤4096→(turn s).2=0→(turn s).1.length≤4096):Two (looksS f c) f g (textD f c.ino turn).1 (textD g c.ino turn).1:=by
 have hi:=ha _ (ZN hk)
 have h2:=Zhw hi turn
 by_cases h:(textD f c.ino turn).2=0
 ·obtain⟨m,hm,_,_,_,hs,hb⟩:=Zht R h ht
  obtain⟨m',hm',_,_,_,hs',hb'⟩:=Zht G (by rw[h2];exact h) ht
  rw[hi,hm] at hm'
  injection hm' with hm' _
  subst hm'
  refine⟨fun q hq=> ?_,fun q hq=> ?_,fun q hq=> ?_,hs.next,hs'.next⟩
  ·rw[hb,if_neg (fun e:q=c.ino=>hq (e▸ZN hk))]
  ·rw[hb',if_neg (fun e:q=c.ino=>hq (e▸ZN hk))]
  ·rw[hb,hb',ha q hq]
 ·rw[ZjU h,ZjU (by rw[h2];exact h)]
  exact .still ha
include T U
theorem ZvB:Two (looksS f c) f g (giveD f c.ino c.name c.to_).1 (giveD g c.ino c.name c.to_).1∧(giveD g c.ino c.name c.to_).2=(giveD f c.ino c.name c.to_).2:=by
 have hi:=ha _ (ZN hk)
 have ht:=ha _ (ZdU hk)
 have h2:=Zqm (s:=c.name) hi ht
 by_cases h:giveE f c.ino c.name c.to_=0
 ·have h':giveE g c.ino c.name c.to_=0:=by rw[h2];exact h
  have e1:=Zhu R h
  have e2:=Zhu G h'
  rw[hi,ht] at e2
  refine⟨⟨fun q hq=> ?_,fun q hq=> ?_,fun q hq=> ?_,(Zhq R T h).2.1,(Zhq G U h').2.1⟩,?_⟩
  ·rw[e1,if_neg (fun e:q=c.to_=>hq (e▸ZdU hk)),if_neg (fun e:q=c.ino=>hq (e▸ZN hk))]
  ·rw[e2,if_neg (fun e:q=c.to_=>hq (e▸ZdU hk)),if_neg (fun e:q=c.ino=>hq (e▸ZN hk))]
  ·rw[e1,e2,ha q hq]
  ·rw[ZbG,ZbG,if_pos h,if_pos h']
 ·rw[ZbG,ZbG,h2,if_neg h,if_neg h];exact⟨.still ha,rfl⟩
theorem ZvC:Two (looksS f c) f g (takeD f c.ino c.name).1 (takeD g c.ino c.name).1∧(takeD g c.ino c.name).2=(takeD f c.ino c.name).2:=by
 have hi:=ha _ (ZN hk)
 have hlk:lookD g c.ino c.name=lookD f c.ino c.name:=ZfF hi fun y hy=>ha y (((Zbe f c).2 hk _).2 (.inl (.inl (.inl (.inr hy)))))
 unfold takeD
 rw[hlk]
 by_cases q1:(lookD f c.ino c.name).2=0
 case neg=>rw[if_pos q1,if_pos q1];exact⟨.still ha,rfl⟩
 have q1':¬(lookD f c.ino c.name).2≠0:=by simpa using q1
 rw[if_neg q1',if_neg q1']
 by_cases q2:0<(lookD f c.ino c.name).1.l.length
 ·rw[if_pos q2,if_pos q2];exact⟨.still ha,rfl⟩
 rw[if_neg q2,if_neg q2]
 refine⟨?_,rfl⟩
 have h0:(lookD f c.ino c.name).1.l=[]:=List.eq_nil_of_length_eq_zero (by omega)
 have A1:=Zdr R T q1 h0
 have A2:=Zdr G U (by rw[hlk];exact q1) (by rw[hlk];exact h0)
 rw[hlk] at A2
 have e1:=A1.find
 have e2:=A2.find
 rw[hi] at e2
 have hn:=ZiO R hk q1
 refine⟨fun q hq=> ?_,fun q hq=> ?_,fun q hq=> ?_,A1.next,A2.next⟩
 ·simp only
  rw[e1,if_neg (fun e:q=(lookD f c.ino c.name).1.ino=>hq (e▸hn)),if_neg (fun e:q=c.ino=>hq (e▸ZN hk))]
 ·simp only
  rw[e2,if_neg (fun e:q=(lookD f c.ino c.name).1.ino=>hq (e▸hn)),if_neg (fun e:q=c.ino=>hq (e▸ZN hk))]
 ·simp only
  rw[e1,e2,ha q hq]
theorem ZiT (b:Bool):Two (looksS f c) f g (removeO f c b).1 (removeO g c b).1∧(removeO g c b).2=(removeO f c b).2:=by
 have hi:=ha _ (ZN hk)
 have hlk:lookD g c.ino c.name=lookD f c.ino c.name:=ZfF hi fun y hy=>ha y (((Zbe f c).2 hk _).2 (.inl (.inl (.inl (.inr hy)))))
 obtain⟨t1,t2⟩:=ZvC R T G U hk ha
 unfold removeO
 rw[hlk]
 split
 ·exact⟨.still ha,rfl⟩
 split
 ·exact⟨.still ha,rfl⟩
 split
 ·exact⟨.still ha,rfl⟩
 ·exact⟨t1,by simp only[t2]⟩
omit hk in
theorem do_two (ht:touchK c=false):Two (looksS f c) f g (doS f c).1 (doS g c).1∧(doS g c).2=(doS f c).2:=by
 have hkk:c.kind≠6∧c.kind≠7∧c.kind≠8∧c.kind≠12∧c.kind≠15:=by
  simp only[touchK,Bool.or_eq_false_iff,decide_eq_false_iff_not] at ht
  exact⟨ht.1.1.1.1,ht.1.1.1.2,ht.1.1.2,ht.1.2,ht.2⟩
 obtain⟨k6,k7,k8,k12,hk⟩:=hkk
 have hi:=ha _ (ZN hk)
 have hlk:lookD g c.ino c.name=lookD f c.ino c.name:=ZfF hi fun y hy=>ha y (((Zbe f c).2 hk _).2 (.inl (.inl (.inl (.inr hy)))))
 have S:=Two.still ha
 rcases kind_cases c.kind with h|h|h|h|h|h|h|h|h|h|h|h|h|h|h|h
 ·rw[Zfh h,Zfh h];exact⟨S,rfl⟩
 ·rw[ZsK h,ZsK h];rw[hlk];exact⟨S,rfl⟩
 ·rw[ZsL h,ZsL h];rw[Zgp hi];exact⟨S,rfl⟩
 ·rw[ZsM h,ZsM h];rw[Zgp hi];exact⟨S,rfl⟩
 ·rw[Zvw h,Zvw h];exact⟨ZoA R G hk ha fun s hs h=>Zhm h hs,by simp only[Zhw hi]⟩
 ·rw[Zvx h,Zvx h];exact⟨ZoA R G hk ha fun s hs h=>ZmW h,by simp only[Zhw hi]⟩
 ·exact absurd h k6
 ·exact absurd h k7
 ·exact absurd h k8
 ·rw[Zvy h,Zvy h];exact ZiT R T G U hk ha _
 ·rw[Zou h,Zou h];exact ZiT R T G U hk ha _
 ·rw[Zov h,Zov h];obtain⟨g1,g2⟩:=ZvB R T G U hk ha;exact⟨g1,by simp only[g2]⟩
 ·exact absurd h k12
 ·rw[Zls h,Zls h];rw[Zgp hi];exact⟨S,rfl⟩
 ·rw[Zlt h,Zlt h];rw[Zhv hi];exact⟨S,rfl⟩
 ·exact absurd h hk
end
theorem Zqr {f g h:FSR} {k:Int} (hg:Zg g) (hk:(findB f.l k).2=true∨(findB g.l k).2=true) (hh:Zn NodeR.ino h.l=true):
  Zn NodeR.ino ((changeS f g k).foldl applyOne h).l=true∧∀q,findB ((changeS f g k).foldl applyOne h).l q=if q=k∧findB f.l q≠findB g.l q then findB g.l q else findB h.l q:=by
 unfold changeS
 by_cases h1:(findB g.l k).2=false
 ·rw[if_pos h1]
  simp only[List.foldl_cons,List.foldl_nil,applyOne,if_true]
  have hz:findB g.l k=(.zero,false):=Prod.ext (Zav h1) h1
  refine⟨Zan _ hh _,fun q=> ?_⟩
  rw[Zgm hh]
  by_cases e:q=k
  ·subst e
   have hne:findB f.l q≠findB g.l q:=fun e=>by
    rcases hk with hk|hk
    ·rw[e,h1] at hk;cases hk
    ·rw[h1] at hk;cases hk
   rw[if_pos rfl,if_pos ⟨rfl,hne⟩,hz]
  ·rw[if_neg e,if_neg fun g=>e g.1]
 rw[if_neg h1]
 have h1':(findB g.l k).2=true:=by simpa using h1
 obtain⟨m1,m2⟩:=Zk h1'
 by_cases h2:(findB f.l k).2=false∨(findB f.l k).1≠(findB g.l k).1
 ·rw[if_pos h2]
  simp only[List.foldl_cons,List.foldl_nil,applyOne,Bool.false_eq_true,if_false]
  refine⟨(ZcL hh _).1,fun q=> ?_⟩
  rw[ZaY hh]
  by_cases e:q=k
  ·subst e
   have hne:findB f.l q≠findB g.l q:=fun e=>by
    rcases h2 with h2|h2
    ·rw[e,h1'] at h2;cases h2
    ·exact h2 (congrArg Prod.fst e)
   rw[if_pos m2.symm,if_pos ⟨rfl,hne⟩]
   exact Prod.ext rfl h1'.symm
  ·rw[if_neg (fun e2=>e (e2.trans m2)),if_neg fun g=>e g.1]
 ·rw[if_neg h2]
  simp only[not_or,ne_eq,Decidable.not_not,Bool.not_eq_false] at h2
  refine⟨hh,fun q=> ?_⟩
  rw[if_neg]
  ·rfl
  ·rintro⟨rfl,hne⟩
   exact hne (Prod.ext h2.2 (h2.1.trans h1'.symm))
theorem ZiU {f g:FSR} (hg:Zg g):∀(ks:List Int) (h:FSR),(∀k∈ks,(findB f.l k).2=true∨(findB g.l k).2=true)→Zn NodeR.ino h.l=true→
  Zn NodeR.ino ((ks.flatMap (changeS f g)).foldl applyOne h).l=true∧∀q,findB ((ks.flatMap (changeS f g)).foldl applyOne h).l q=if q∈ks∧findB f.l q≠findB g.l q then findB g.l q else findB h.l q
 |[],h,_,hh=>⟨hh,fun q=>by simp⟩
 |k::ks,h,hk,hh=>by
  obtain⟨a1,a2⟩:=Zqr (h:=h) hg (hk k (by simp)) hh
  obtain⟨b1,b2⟩:=ZiU hg ks _ (fun k hk'=>hk k (by simp[hk'])) a1
  rw[List.flatMap_cons,List.foldl_append]
  refine⟨b1,fun q=> ?_⟩
  rw[b2,a2]
  by_cases n:findB f.l q≠findB g.l q
  ·by_cases e:q∈ks
   ·rw[if_pos ⟨e,n⟩,if_pos ⟨by simp[e],n⟩]
   ·rw[if_neg fun g=>e g.1]
    by_cases e2:q=k
    ·rw[if_pos ⟨e2,n⟩,if_pos ⟨by simp[e2],n⟩]
    ·rw[if_neg fun g=>e2 g.1,if_neg fun g=>by simp[e,e2] at g]
  ·rw[if_neg fun g=>n g.2,if_neg fun g=>n g.2,if_neg fun g=>n g.2]
theorem Zbb {f g:FSR} (hg:Zg g):∀c∈changesS f g,c.gone=false→c.node.ino+1≤g.next:=fun c hc h0=>by
 unfold changesS at hc
 obtain⟨k,hk,hc⟩:=List.mem_flatMap.1 hc
 have:=(hg.num k).2
 unfold changeS at hc
 split at hc
 ·simp only[List.mem_cons,List.not_mem_nil,or_false] at hc
  rw[hc] at h0;cases h0
 ·split at hc
  ·simp only[List.mem_cons,List.not_mem_nil,or_false] at hc
   rw[hc];simp only;omega
  ·cases hc
theorem ZcA {f g h:FSR} (hf:Zg f) (hg:Zg g) (hh:Zn NodeR.ino h.l=true):
  Zn NodeR.ino (applyS h (changesS f g) g.next).l=true∧(∀q,findB (applyS h (changesS f g) g.next).l q=if findB f.l q=findB g.l q then findB h.l q else findB g.l q)∧(applyS h (changesS f g) g.next).next=max h.next g.next:=by
 obtain⟨r1,r2⟩:=Zak (f.l.map (·.ino)++g.l.map (·.ino))
 have hm:∀q,q∈numsS (f.l.map (·.ino)++g.l.map (·.ino))↔(∃n∈f.l,n.ino=q)∨∃n∈g.l,n.ino=q:=fun q=>by rw[r2];simp
 obtain⟨a1,a2⟩:=ZiU (f:=f) hg (numsS (f.l.map (·.ino)++g.l.map (·.ino))) h (fun k hk=>by
  rcases(hm k).1 hk with⟨n,hn,rfl⟩|⟨n,hn,rfl⟩
  ·left;rw[findB_of hf.rise hn]
  ·right;rw[findB_of hg.rise hn]) hh
 refine⟨a1,fun q=> ?_,ZfI _ h g.next (Zbb hg)⟩
 show findB ((changesS f g).foldl applyOne h).l q=_
 unfold changesS
 rw[a2]
 by_cases n:findB f.l q=findB g.l q
 ·rw[if_pos n,if_neg fun g=>g.2 n]
 ·rw[if_neg n]
  by_cases e:q∈numsS (f.l.map (·.ino)++g.l.map (·.ino))
  ·rw[if_pos ⟨e,n⟩]
  ·exfalso
   refine n ?_
   have h1:∀x∈f.l,x.ino≠q:=fun x hx e2=>e ((hm q).2 (.inl ⟨x,hx,e2⟩))
   have h2:∀x∈g.l,x.ino≠q:=fun x hx e2=>e ((hm q).2 (.inr ⟨x,hx,e2⟩))
   rw[ZbI h1,ZbI h2]
theorem Zlz {f g:FSR} (hf:Zg f) (hg:Zg g) {q:Int} (h:findB f.l q≠findB g.l q):∃c∈changesS f g,c.ino=q:=by
 have hq:(findB f.l q).2=true∨(findB g.l q).2=true:=by
  cases h1:(findB f.l q).2 with
  |true=>exact .inl rfl
  |false=>
   cases h2:(findB g.l q).2 with
   |true=>exact .inr rfl
   |false=>exact absurd ((Prod.ext (Zav h1) h1:findB f.l q=(.zero,false)).trans (Prod.ext (Zav h2) h2:findB g.l q=(.zero,false)).symm) h
 have hm:q∈numsS (f.l.map (·.ino)++g.l.map (·.ino)):=by
  rw[(Zak _).2,List.mem_append,List.mem_map,List.mem_map]
  rcases hq with hq|hq
  ·exact .inl ⟨_,(Zk hq).1,(Zk hq).2⟩
  ·exact .inr ⟨_,(Zk hq).1,(Zk hq).2⟩
 have:∃c∈changeS f g q,c.ino=q:=by
  unfold changeS
  split
  ·exact⟨_,List.mem_cons_self,rfl⟩
  ·rename_i h1
   have h1':(findB g.l q).2=true:=by simpa using h1
   split
   ·exact⟨_,List.mem_cons_self,rfl⟩
   ·rename_i h2
    simp only[not_or,ne_eq,Decidable.not_not,Bool.not_eq_false] at h2
    exact absurd (Prod.ext h2.2 (h2.1.trans h1'.symm)) h
 obtain⟨c,hc,e⟩:=this
 exact⟨c,List.mem_flatMap.2 ⟨q,hm,hc⟩,e⟩
theorem ZG.cs {s:StoreR} (h:ZG s):Zbo s.l:=fun c hc=>⟨(h.chain c hc).ino,fun v hv=>⟨((h.chain c hc).lo v hv).1,(h.chain c hc).ver v hv⟩⟩
theorem ZlA {α:Type} {f:α→Int} {l:List α} {st S:Int} (hS:st≤S) (h:∀x∈l,f x≤st):Zcl f l S=Zcl f l st:=by
 unfold Zcl
 have:∀k:List α,(∀x∈k,f x≤st)→(k.find? fun x=>decide (f x≤S))=k.find? fun x=>decide (f x≤st):=fun k=>by
  induction k with
  |nil=>intro _;rfl
  |cons a k ih=>
   intro hk
   have:=hk a (by simp)
   rw[List.find?_cons_of_pos (by simp;omega),List.find?_cons_of_pos (by simp;omega)]
 exact this _ fun x hx=>h x (by simpa using hx)
theorem Zta {c:ChainR} {st:Int} (h:Zcf st c=false):∀v∈c.l,v.stamp≤st:=fun v hv=>by
 unfold Zcf at h
 rw[List.any_eq_false] at h
 have:=h v hv
 simp only[decide_eq_true_eq] at this;omega
theorem ZhB {c:ChainR} {st S:Int} (hS:st≤S) (h:Zcf st c=false):Zad c S=Zad c st:=by
 unfold Zad
 rw[ZlA hS (Zta h)]
theorem ZhC {s:StoreR} {st n:Int} (hn:1≤n):n∈sinceS s st↔n∈Zbn s st:=by
 unfold sinceS
 split
 ·rw[List.mem_cons]
  exact⟨fun h=>h.resolve_left (by omega),.inr⟩
 ·rename_i h
  simp only[not_or,ne_eq,Decidable.not_not] at h
  rw[h.1]
theorem ZiV {s:StoreR} (h:ZG s) {st n:Int} (hn:n∈Zbn s st):1≤n:=by
 unfold Zbn at hn
 obtain⟨c,hc,rfl⟩:=List.mem_map.1 hn
 exact(h.chain c (List.mem_filter.1 hc).1).ino
theorem ZiW {s:StoreR} {st:Int} (h:sinceS s st≠[]):0∈sinceS s st:=by
 unfold sinceS at h⊢
 split
 ·simp
 ·rename_i q;rw[if_neg q] at h;exact absurd rfl h
theorem Zdu {s:StoreR} (h:ZG s) (st:Int):Zn NodeR.ino (viewS s st).l=true:=ZfH h.rise h.cs st
theorem Ztb {s:StoreR} (h:ZG s) {st:Int} (hst:st≤s.stamp) {n:Int} (hn:n∉Zbn s st):findB (viewS s s.stamp).l n=findB (viewS s st).l n:=by
 refine ZfC (Zdu h _) (Zdu h _) fun x hx=> ?_
 have key:∀c∈s.l,c.ino=n→Zcf st c=false:=fun c hc e=>by
  cases q:Zcf st c with
  |false=>rfl
  |true=>exact absurd (List.mem_map.2 ⟨c,List.mem_filter.2 ⟨hc,q⟩,e⟩) hn
 show x∈Zcz s.l s.stamp↔x∈Zcz s.l st
 constructor
 ·intro hm
  obtain⟨c,hc,hm⟩:=List.mem_flatMap.1 hm
  have hi:=(ZbJ h.cs hc hm).1
  rw[ZhB hst (key c hc (by rw[←hi,hx]))] at hm
  exact List.mem_flatMap.2 ⟨c,hc,hm⟩
 ·intro hm
  obtain⟨c,hc,hm⟩:=List.mem_flatMap.1 hm
  have hi:=(ZbJ h.cs hc hm).1
  rw[←ZhB hst (key c hc (by rw[←hi,hx]))] at hm
  exact List.mem_flatMap.2 ⟨c,hc,hm⟩
theorem Ztc {s:StoreR} {st:Int} (hst:st≤s.stamp) (h:sinceS s st=[]):viewS s s.stamp=viewS s st:=by
 unfold sinceS at h
 split at h
 ·cases h
 rename_i q
 simp only[not_or,ne_eq,Decidable.not_not] at q
 obtain⟨q1,q2⟩:=q
 unfold viewS
 congr 1
 ·refine Zds fun c hc=>ZhB hst ?_
  cases g:Zcf st c with
  |false=>rfl
  |true=>
   have:c.ino∈Zbn s st:=List.mem_map.2 ⟨c,List.mem_filter.2 ⟨hc,g⟩,rfl⟩
   rw[q1] at this;cases this
 ·unfold nextAt
  rw[ZlA hst]
  intro x hx
  simp only[Bool.not_eq_true] at q2
  rw[List.any_eq_false] at q2
  have:=q2 x hx
  simp only[decide_eq_true_eq] at this;omega
theorem Zqs {s:StoreR} (h:ZG s):sinceS s s.stamp=[]:=by
 unfold sinceS
 have h1:Zbn s s.stamp=[]:=by
  unfold Zbn
  rw[List.map_eq_nil_iff,List.filter_eq_nil_iff]
  intro c hc hl
  unfold Zcf at hl
  obtain⟨v,hv,hl⟩:=List.any_eq_true.1 hl
  have:=((h.chain c hc).lo v hv).2
  simp only[decide_eq_true_eq] at hl;omega
 have h2:(s.nexts.any fun c=>decide (s.stamp<c.stamp))=false:=by
  rw[List.any_eq_false]
  intro c hc
  have:=(h.count c hc).2.1
  simp only[decide_eq_true_eq];omega
 rw[if_neg]
 rw[h1,h2];simp
def Zex (cs:List ChainR) (S n:Int):Prop:=∃c∈cs,c.ino=n∧∃v∈c.l,v.stamp=S
theorem Ztd {cs:List ChainR} {S:Int} {B:Nat} (M:Mid cs S B) (x:ChangeR):Zex (Zam S cs x) S x.ino∧∀n,Zex cs S n→Zex (Zam S cs x) S n:=by
 obtain⟨⟨c0,hc0,e0⟩,hat⟩:=ZjW M.rise (ino:=x.ino) (v:=Zed S x)
 have h1:Zex (Zam S cs x) S x.ino:=by
  obtain⟨k,hk⟩:=hat c0 hc0 e0
  exact⟨c0,hc0,e0,Zed S x,by rw[hk];simp,rfl⟩
 refine⟨h1,fun n hn=> ?_⟩
 by_cases e:n=x.ino
 ·rw[e];exact h1
 ·obtain⟨c,hc,e2,hv⟩:=hn
  exact⟨c,(Zgr M.rise c (by rw[e2];exact e)).2 hc,e2,hv⟩
theorem ZiX {S:Int}:∀(l:List ChangeR) {cs:List ChainR} {B:Nat},Mid cs S B→(∀x∈l,Zex (l.foldl (Zam S) cs) S x.ino)∧∀n,Zex cs S n→Zex (l.foldl (Zam S) cs) S n
 |[],cs,B,M=>⟨by simp,fun _ h=>h⟩
 |x::l,cs,B,M=>by
  obtain⟨a1,a2⟩:=Ztd M x
  obtain⟨b1,b2⟩:=ZiX l (M.more x.ino (v:=Zed S x) rfl)
  refine⟨fun y hy=> ?_,fun n hn=>b2 n (a2 n hn)⟩
  rcases List.mem_cons.1 hy with rfl|hy
  ·exact b2 _ a1
  ·exact b1 y hy
theorem Zfk {s:StoreR} (h:ZG s) {l:List ChangeR} {next:Int}:(∀x∈l,x.ino∈Zbn (installS s l next) s.stamp):=fun x hx=>by
 have M:Mid s.l (s.stamp+1) (s.l.length+(s.l.map fun c=>c.l.length).sum):=h.mid (Nat.le_add_right _ _) fun c hc=>by
  have:c.l.length≤(s.l.map fun c=>c.l.length).sum:=Zoy (List.mem_map_of_mem hc)
  omega
 obtain⟨c,hc,e,v,hv,hs⟩:=(ZiX l M).1 x hx
 refine List.mem_map.2 ⟨c,List.mem_filter.2 ⟨hc,?_⟩,e⟩
 unfold Zcf
 exact List.any_eq_true.2 ⟨v,hv,by simp;omega⟩
theorem ZdV:∀(l:List CallR) (t:TxnR),(stepsS t l).1.now=(playS t.now l).1∧(stepsS t l).2=(playS t.now l).2∧(stepsS t l).1.was=t.was∧(stepsS t l).1.stamp=t.stamp
 |[],t=>⟨rfl,rfl,rfl,rfl⟩
 |c::l,t=>by
  obtain⟨h1,h2,h3,h4⟩:=ZdV l (stepS t c).1
  refine⟨h1,?_,h3,h4⟩
  simp only[stepsS,playS]
  rw[h2];rfl
theorem ZdW (t:TxnR) (c:CallR) (n:Int):n∈(stepS t c).1.looks↔n∈t.looks∨n∈touchS t.now c:=by
 show n∈numsS _↔_
 rw[(Zak _).2,List.mem_append]
theorem ZcS:∀(l:List CallR) (t:TxnR),∀n∈t.looks,n∈(stepsS t l).1.looks
 |[],t,n,h=>h
 |c::l,t,n,h=>ZcS l _ n ((ZdW t c n).2 (.inl h))
theorem do_next {f:FSR} (R:Zg f) (T:ZI f) {c:CallR} (h:touchK c=false):(doS f c).1.next=f.next:=(do_two R T R T (fun _ _=>rfl) h).1.fnext
theorem Zey:∀(l:List CallR) {t:TxnR},TxnP t→(∀q,1≤q→findB (stepsS t l).1.now.l q≠findB t.now.l q→q∈(stepsS t l).1.looks∨t.now.next≤q)∧(t.now.next<(stepsS t l).1.now.next→0∈(stepsS t l).1.looks)
 |[],t,h=>⟨fun q _ hq=>absurd rfl hq,fun hq=>absurd hq (Int.lt_irrefl _)⟩
 |c::l,t,h=>by
  have h':=ZfG h c
  obtain⟨i1,i2⟩:=Zey l h'
  have K:=Zce h.nrows h.ntree c
  have e:(stepS t c).1.now=(doS t.now c).1:=rfl
  obtain⟨L,H⟩:=ZsP h.nrows h.ntree c
  rw[e] at i1 i2
  refine⟨fun q hq hne=> ?_,fun hn=> ?_⟩
  ·by_cases g:findB (stepsS (stepS t c).1 l).1.now.l q=findB (doS t.now c).1.l q
   ·have hne':findB (doS t.now c).1.l q≠findB t.now.l q:=fun e2=>hne (g.trans e2)
    have hL:q∈L:=Decidable.byContradiction fun hL=>hne' (H.no q hL)
    rcases H.yes q hL with hl|hl
    ·exact .inl (ZcS l _ q ((ZdW t c q).2 (.inr (((touch_spec t.now c).2 q).2 (.inl ⟨hl,hq⟩)))))
    ·exact .inr hl
   ·rcases i1 q hq g with hl|hl
    ·exact .inl hl
    ·have:=K.next.1
     exact .inr (by omega)
  ·by_cases g:(doS t.now c).1.next=t.now.next
   ·rw[g] at i2
    exact i2 hn
   ·have hk:touchK c=true:=by
     cases q:touchK c with
     |true=>rfl
     |false=>exact absurd (do_next h.nrows h.ntree q) g
    exact ZcS l _ 0 ((ZdW t c 0).2 (.inr (((touch_spec t.now c).2 0).2 (.inr ⟨hk,rfl⟩))))
structure Inv (v v':FSR) (D:List Int) (f g:FSR):Prop where
 fR:Zg f
 fT:ZI f
 gR:Zg g
 gT:ZI g
 out:∀q,q∉D→findB g.l q=findB f.l q
 fin:∀q∈D,findB f.l q=findB v.l q
 gin:∀q∈D,findB g.l q=findB v'.l q
 fnext:f.next=v.next
 gnext:g.next=v'.next
theorem Inv.step {v v':FSR} {D:List Int} (hD:∀n∈D,1≤n) {f g:FSR} (I:Inv v v' D f g) {c:CallR} (h0:0∉touchS f c) (hd:∀n∈D,n∉touchS f c):Inv v v' D (doS f c).1 (doS g c).1∧(doS g c).2=(doS f c).2:=by
 have hk:touchK c=false:=by
  cases q:touchK c with
  |false=>rfl
  |true=>exact absurd (((touch_spec f c).2 0).2 (.inr ⟨q,rfl⟩)) h0
 have hl:∀y∈looksS f c,y∉D:=fun y hy hyD=>hd y hyD (((touch_spec f c).2 y).2 (.inl ⟨hy,hD y hyD⟩))
 obtain⟨A,B⟩:=do_two I.fR I.fT I.gR I.gT (fun y hy=>I.out y (hl y hy)) hk
 have K1:=Zce I.fR I.fT c
 have K2:=Zce I.gR I.gT c
 refine⟨⟨K1.rows,K1.tree,K2.rows,K2.tree,fun q hq=> ?_,fun q hq=> ?_,fun q hq=> ?_,A.fnext.trans I.fnext,A.gnext.trans I.gnext⟩,B⟩
 ·by_cases hq2:q∈looksS f c
  ·exact A.same q hq2
  ·rw[A.fout q hq2,A.gout q hq2];exact I.out q hq
 ·rw[A.fout q fun h=>hl q h hq];exact I.fin q hq
 ·rw[A.gout q fun h=>hl q h hq];exact I.gin q hq
theorem Inv.steps {v v':FSR} {D:List Int} (hD:∀n∈D,1≤n):∀(l:List CallR) {t:TxnR} {g:FSR},Inv v v' D t.now g→0∉(stepsS t l).1.looks→(∀n∈D,n∉(stepsS t l).1.looks)→Inv v v' D (stepsS t l).1.now (playS g l).1∧(playS g l).2=(stepsS t l).2
 |[],t,g,I,_,_=>⟨I,rfl⟩
 |c::l,t,g,I,h0,hd=>by
  have sub:∀n,n∈touchS t.now c→n∈(stepsS (stepS t c).1 l).1.looks:=fun n hn=>ZcS l _ n ((ZdW t c n).2 (.inr hn))
  obtain⟨A,B⟩:=I.step hD (fun h=>h0 (sub 0 h)) fun n hn h=>hd n hn (sub n h)
  obtain⟨A',B'⟩:=Inv.steps hD l (t:=(stepS t c).1) A h0 hd
  refine⟨A',?_⟩
  simp only[playS,stepsS]
  rw[B,B'];rfl
theorem ZhD {s:StoreR} {t:TxnR} (h:ZaX s t=false):∀n∈sinceS s t.stamp,n∉t.looks:=fun n hn hl=>by
 unfold ZaX at h
 rw[List.any_eq_false] at h
 exact h n hn (by simpa using hl)
theorem Zqt {s:StoreR} (h:ZG s) {t:TxnR} (ht:t.stamp=s.stamp):ZaX s t=false:=by
 unfold ZaX
 rw[ht,Zqs h];rfl
structure Past (s k:StoreR) (B:Nat):Prop where
 right:ZG k
 few:ZaE B k
 rows:Zg (viewS k k.stamp)
 tree:ZI (viewS k k.stamp)
 next:(viewS s s.stamp).next≤(viewS k k.stamp).next
 stamp:s.stamp≤k.stamp
 old:viewS k s.stamp=viewS s s.stamp
theorem ZhE {s:StoreR} (h:ZG s) {B:Nat} (hb:ZaE B s) {t:TxnR} (T:TxnP t) (hw:t.was=viewS s s.stamp) (ht:t.stamp=s.stamp):
  (commitS s t).2=0∧Past s (commitS s t).1 (B+513)∧viewS (commitS s t).1 (commitS s t).1.stamp=t.now∧((commitS s t).1=s↔t.was=t.now)∧(commitS s t).1.stamp≤s.stamp+1∧(t.was≠t.now→(commitS s t).1=installS s (changesS t.was t.now) t.now.next):=by
 obtain⟨h1,h2,h3⟩:=Zdt h hb T
 have hc:=Zqt h ht
 by_cases q:t.was=t.now
 ·have e:commitS s t=(s,0):=by unfold commitS;rw[if_pos q]
  rw[e]
  refine⟨rfl,⟨h,hb.mono (by omega),hw▸T.wrows,hw▸T.wtree,Int.le_refl _,Int.le_refl _,rfl⟩,by rw[←hw,q],⟨fun _=>q,fun _=>rfl⟩,by simp only;omega,fun g=>absurd q g⟩
 ·have e:commitS s t=(installS s (changesS t.was t.now) t.now.next,0):=by unfold commitS;rw[if_neg q,hc,if_neg (by simp)]
  rw[e] at h1 h2⊢
  obtain⟨c1,c2⟩:=Zae T.wrows T.nrows
  have hv:viewS (installS s (changesS t.was t.now) t.now.next) (s.stamp+1)=t.now:=by
   rw[Zbf h c2 (Zbb T.nrows),←hw]
   exact Zsy T.wrows T.nrows T.next
  have hv':viewS (installS s (changesS t.was t.now) t.now.next) (installS s (changesS t.was t.now) t.now.next).stamp=t.now:=hv
  refine⟨rfl,⟨h1,h2,by simp only;rw[hv'];exact T.nrows,by simp only;rw[hv'];exact T.ntree,?_,by show s.stamp≤s.stamp+1;omega,Zoz (Int.le_refl _)⟩,hv',⟨fun g=> ?_,fun g=>absurd g q⟩,Int.le_refl _,fun _=>rfl⟩
  ·rw[hv',←hw];exact T.next
  ·have:=congrArg StoreR.stamp g
   simp only[installS] at this;omega
theorem Zte {s:StoreR} (hP:ZG s) (R:Zg (viewS s s.stamp)) (T:ZI (viewS s s.stamp)):TxnP (beginS s):=⟨R,T,R,T,Int.le_refl _,hP.stamp,rfl,by simp[beginS]⟩
def at0 (k:StoreR) (st:Int):TxnR:=⟨st,viewS k st,viewS k st,[]⟩
theorem serialK {k:StoreR} (hP:ZG k) {st:Int} (h1:1≤st) (hst:st≤k.stamp) (R:Zg (viewS k st)) (T:ZI (viewS k st)) (R':Zg (viewS k k.stamp)) (T':ZI (viewS k k.stamp)) (hnx:(viewS k st).next≤(viewS k k.stamp).next) (l:List CallR)
  (hc:ZaX k (stepsS (at0 k st) l).1=false) (hq:(stepsS (at0 k st) l).1.was≠(stepsS (at0 k st) l).1.now):
  (playS (viewS k k.stamp) l).2=(stepsS (at0 k st) l).2∧viewS (installS k (changesS (stepsS (at0 k st) l).1.was (stepsS (at0 k st) l).1.now) (stepsS (at0 k st) l).1.now.next) (k.stamp+1)=(playS (viewS k k.stamp) l).1∧
  ∀q,(findB (viewS k k.stamp).l q=findB (playS (viewS k k.stamp) l).1.l q∧findB (stepsS (at0 k st) l).1.was.l q=findB (stepsS (at0 k st) l).1.now.l q)∨(findB (viewS k k.stamp).l q=findB (stepsS (at0 k st) l).1.was.l q∧findB (playS (viewS k k.stamp) l).1.l q=findB (stepsS (at0 k st) l).1.now.l q):=by
 have Tb:TxnP (at0 k st):=⟨R,T,R,T,Int.le_refl _,h1,rfl,by simp[at0]⟩
 obtain⟨S1,S2,S3⟩:=Zba l Tb
 obtain⟨p1,p2,p3,p4⟩:=ZdV l (at0 k st)
 have hn:=ZhD hc
 have p4':(stepsS (at0 k st) l).1.stamp=st:=p4
 rw[p4'] at hn
 have p1':(stepsS (at0 k st) l).1.now=(playS (viewS k st) l).1:=p1
 have p2':(stepsS (at0 k st) l).2=(playS (viewS k st) l).2:=p2
 have p3':(stepsS (at0 k st) l).1.was=viewS k st:=p3
 obtain⟨c1,c2⟩:=Zae S1.wrows S1.nrows
 rw[Zbf hP c2 (Zbb S1.nrows)]
 by_cases q:sinceS k st=[]
 ·have e:viewS k k.stamp=viewS k st:=Ztc hst q
  rw[e,p2']
  refine⟨rfl,?_,fun q=> .inr ⟨by rw[p3'],by rw[p1']⟩⟩
  rw[←p1',←p3']
  exact Zsy S1.wrows S1.nrows S1.next
 ·have h0:=hn 0 (ZiW q)
  have hD:∀n∈Zbn k st,1≤n:=fun n hn=>ZiV hP hn
  have hout:∀q,q∉Zbn k st→findB (viewS k k.stamp).l q=findB (viewS k st).l q:=fun q hq=>Ztb hP hst hq
  have I0:Inv (viewS k st) (viewS k k.stamp) (Zbn k st) (at0 k st).now (viewS k k.stamp):=⟨R,T,R',T',hout,fun _ _=>rfl,fun _ _=>rfl,rfl,rfl⟩
  obtain⟨I,E⟩:=Inv.steps hD l I0 h0 fun n hn'=>hn n ((ZhC (hD n hn')).2 hn')
  have F:=ZcA S1.wrows S1.nrows (Zdu hP k.stamp)
  obtain⟨f1,f2,f3⟩:=F
  have K:=Zhs l (viewS k k.stamp) R' T'
  have el:(applyS (viewS k k.stamp) (changesS (stepsS (at0 k st) l).1.was (stepsS (at0 k st) l).1.now) (stepsS (at0 k st) l).1.now.next).l=(playS (viewS k k.stamp) l).1.l:=by
   refine Zai NodeR.ino f1 K.1.rise fun n=> ?_
   rw[Zcc f1,Zcc K.1.rise,f2]
   suffices hh:(if findB (stepsS (at0 k st) l).1.was.l n.ino=findB (stepsS (at0 k st) l).1.now.l n.ino then findB (viewS k k.stamp).l n.ino else findB (stepsS (at0 k st) l).1.now.l n.ino)=findB (playS (viewS k k.stamp) l).1.l n.ino by rw[hh]
   by_cases hd:n.ino∈Zbn k st
   ·have h1:=I.fin _ hd
    rw[p3',if_pos h1.symm,I.gin _ hd]
   ·rw[I.out _ hd]
    split
    ·rename_i e2
     rw[hout _ hd,←e2,p3']
    ·rfl
  have en:(applyS (viewS k k.stamp) (changesS (stepsS (at0 k st) l).1.was (stepsS (at0 k st) l).1.now) (stepsS (at0 k st) l).1.now.next).next=(playS (viewS k k.stamp) l).1.next:=by
   rw[f3,I.gnext,I.fnext]
   omega
  refine⟨E,?_,fun q=> ?_⟩
  ·generalize applyS (viewS k k.stamp) (changesS (stepsS (at0 k st) l).1.was (stepsS (at0 k st) l).1.now) (stepsS (at0 k st) l).1.now.next=X at*
   generalize(playS (viewS k k.stamp) l).1=Y at*
   cases X;cases Y
   simp only at el en
   rw[el,en]
  ·by_cases hd:q∈Zbn k st
   ·exact .inl ⟨(I.gin _ hd).symm,by rw[p3'];exact(I.fin _ hd).symm⟩
   ·exact .inr ⟨by rw[p3'];exact hout _ hd,I.out _ hd⟩
theorem apart {s:StoreR} (h:ZG s) (R:Zg (viewS s s.stamp)) (T:ZI (viewS s s.stamp)) {B:Nat} (hb:ZaE B s) (a b:List CallR)
  (hx:(commitS (commitS s (stepsS (beginS s) a).1).1 (stepsS (beginS s) b).1).2=0) (hy:(commitS (commitS s (stepsS (beginS s) b).1).1 (stepsS (beginS s) a).1).2=0):
  viewS (commitS (commitS s (stepsS (beginS s) a).1).1 (stepsS (beginS s) b).1).1 (commitS (commitS s (stepsS (beginS s) a).1).1 (stepsS (beginS s) b).1).1.stamp=
  viewS (commitS (commitS s (stepsS (beginS s) b).1).1 (stepsS (beginS s) a).1).1 (commitS (commitS s (stepsS (beginS s) b).1).1 (stepsS (beginS s) a).1).1.stamp:=by
 have Tb:=Zte h R T
 have X1:=(Zba a Tb).1
 have Y1:=(Zba b Tb).1
 obtain⟨_,_,x3,x4⟩:=ZdV a (beginS s)
 obtain⟨_,_,y3,y4⟩:=ZdV b (beginS s)
 have xm:=Zey a Tb
 have ym:=Zey b Tb
 generalize(stepsS (beginS s) a).1=x at*
 generalize(stepsS (beginS s) b).1=y at*
 have x3':x.was=viewS s s.stamp:=x3
 have y3':y.was=viewS s s.stamp:=y3
 have x4':x.stamp=s.stamp:=x4
 have y4':y.stamp=s.stamp:=y4
 obtain⟨cx1,cx2,cx3,cx4,cx5,cx6⟩:=ZhE h hb X1 x3' x4'
 obtain⟨cy1,cy2,cy3,cy4,cy5,cy6⟩:=ZhE h hb Y1 y3' y4'
 have idle:∀(k:StoreR) (t:TxnR),t.was=t.now→(commitS k t).1=k:=fun k t e=>by unfold commitS;rw[if_pos e]
 by_cases qx:x.was=x.now
 ·rw[idle _ x qx,idle _ x qx]
 by_cases qy:y.was=y.now
 ·rw[idle _ y qy,idle _ y qy]
 have ex:=cx6 qx
 have ey:=cy6 qy
 rw[ex] at hx cx2 cx3⊢
 rw[ey] at hy cy2 cy3⊢
 have com:∀{k:StoreR} {t:TxnR},t.was≠t.now→(commitS k t).2=0→ZaX k t=false∧(commitS k t).1=installS k (changesS t.was t.now) t.now.next:=fun{k t} q g=>by
  unfold commitS at g⊢
  rw[if_neg q] at g⊢
  by_cases c:ZaX k t=true
  ·rw[if_pos c] at g;exact absurd g (by simp)
  ·rw[if_neg c];exact⟨by simpa using c,rfl⟩
 obtain⟨dx,ex2⟩:=com qy hx
 obtain⟨dy,ey2⟩:=com qx hy
 rw[ex2,ey2]
 have hs1:(installS s (changesS x.was x.now) x.now.next).stamp=s.stamp+1:=rfl
 have hs2:(installS s (changesS y.was y.now) y.now.next).stamp=s.stamp+1:=rfl
 obtain⟨cx,gx⟩:=Zae X1.wrows X1.nrows
 obtain⟨cy,gy⟩:=Zae Y1.wrows Y1.nrows
 have V1:=Zbf cx2.right gy (Zbb Y1.nrows)
 have V2:=Zbf cy2.right gx (Zbb X1.nrows)
 rw[cx3] at V1
 rw[cy3] at V2
 have hV1:viewS (installS (installS s (changesS x.was x.now) x.now.next) (changesS y.was y.now) y.now.next) (installS (installS s (changesS x.was x.now) x.now.next) (changesS y.was y.now) y.now.next).stamp=applyS x.now (changesS y.was y.now) y.now.next:=V1
 have hV2:viewS (installS (installS s (changesS y.was y.now) y.now.next) (changesS x.was x.now) x.now.next) (installS (installS s (changesS y.was y.now) y.now.next) (changesS x.was x.now) x.now.next).stamp=applyS y.now (changesS x.was x.now) x.now.next:=V2
 rw[hV1,hV2]
 have nx:=ZhD dx
 have ny:=ZhD dy
 rw[y4'] at nx
 rw[x4'] at ny
 have sx:∀q,findB x.was.l q≠findB x.now.l q→q∈Zbn (installS s (changesS x.was x.now) x.now.next) s.stamp:=fun q hq=>by
  obtain⟨c,hc,e⟩:=Zlz X1.wrows X1.nrows hq
  rw[←e];exact Zfk h c hc
 have sy:∀q,findB y.was.l q≠findB y.now.l q→q∈Zbn (installS s (changesS y.was y.now) y.now.next) s.stamp:=fun q hq=>by
  obtain⟨c,hc,e⟩:=Zlz Y1.wrows Y1.nrows hq
  rw[←e];exact Zfk h c hc
 have both:∀q,findB x.was.l q≠findB x.now.l q→findB y.was.l q≠findB y.now.l q→False:=fun q h1 h2=>by
  have m1:=sx q h1
  have m2:=sy q h2
  have hq:=ZiV cx2.right m1
  have n1:=nx q ((ZhC hq).2 m1)
  have n0:=nx 0 (ZiW (List.ne_nil_of_mem ((ZhC hq).2 m1)))
  have hw:(beginS s).now=y.was:=y3.symm
  rcases ym.1 q hq (by rw[hw];exact h2.symm) with g|g
  ·exact n1 g
  ·rw[hw] at g
   have hno:findB y.was.l q=(.zero,false):=ZbI fun z hz e=>by have:=Y1.wrows.lt z hz;omega
   have hyes:(findB y.now.l q).2=true:=by
    cases e:(findB y.now.l q).2 with
    |true=>rfl
    |false=>exact absurd (hno.trans (Prod.ext (Zav e) e:findB y.now.l q=(.zero,false)).symm) h2
   have hlt:=Y1.nrows.lt _ (Zk hyes).1
   rw[(Zk hyes).2] at hlt
   exact n0 (ym.2 (by rw[hw];omega))
 obtain⟨f1,f2,f3⟩:=ZcA (h:=x.now) Y1.wrows Y1.nrows X1.nrows.rise
 obtain⟨g1,g2,g3⟩:=ZcA (h:=y.now) X1.wrows X1.nrows Y1.nrows.rise
 have el:(applyS x.now (changesS y.was y.now) y.now.next).l=(applyS y.now (changesS x.was x.now) x.now.next).l:=by
  refine Zai NodeR.ino f1 g1 fun n=> ?_
  rw[Zcc f1,Zcc g1,f2,g2]
  by_cases qa:findB y.was.l n.ino=findB y.now.l n.ino
  ·by_cases qb:findB x.was.l n.ino=findB x.now.l n.ino
   ·rw[if_pos qa,if_pos qb,←qa,←qb,x3',y3']
   ·rw[if_pos qa,if_neg qb]
  ·by_cases qb:findB x.was.l n.ino=findB x.now.l n.ino
   ·rw[if_neg qa,if_pos qb]
   ·exact(both _ qb qa).elim
 have en:(applyS x.now (changesS y.was y.now) y.now.next).next=(applyS y.now (changesS x.was x.now) x.now.next).next:=by
  rw[f3,g3];omega
 generalize applyS x.now (changesS y.was y.now) y.now.next=X at*
 generalize applyS y.now (changesS x.was x.now) x.now.next=Y at*
 cases X;cases Y
 simp only at el en
 rw[el,en]
end Go.Cx
namespace Go.Cx
def rep0:ReplyR:=⟨0,0,0,0,.empty,[]⟩
def repA (a:Int):ReplyR:=⟨0,a,0,0,.empty,[]⟩
def ZcT (h:HostR) (c:Int):Option OpenR:=ZW OpenR.client h.opens c
def withO (h:HostR) (o:OpenR):HostR:={h with opens:=putS OpenR.client h.opens o}
def isO (o:OpenR) (m:MsgR):Bool:=decide (o.epoch=m.epoch)&&decide (o.seq=m.seq)
def lateO (h:HostR) (o:OpenR) (m:MsgR):Bool:=decide (o.until_<h.now)||((decide (m.kind=2)||decide (m.kind=3))&& !decide (o.t.stamp=m.stamp))
def ownMsg (h:HostR) (m:MsgR):OpenR×Bool×Bool:=match ZcT h m.client with
 |none=>(.zero,false,false)
 |some o=>(o,isO o m,isO o m&&lateO h o m)
def openS (h:HostR) (m:MsgR):OpenR:=⟨m.client,m.epoch,m.seq,0,beginS h.s,rep0,h.now+h.lease⟩
def beginH (h:HostR) (m:MsgR):HostR×ReplyR:=match ZcT h m.client with
 |none=>if 64≤h.opens.length then(h,errR 12) else(withO h (openS h m),repA h.s.stamp)
 |some o=>if isO o m=true then(h,repA o.t.stamp) else if m.epoch≤o.epoch∧h.now≤o.until_ then(h,errR 20) else(withO h (openS h m),repA h.s.stamp)
def mayCallS (h:HostR) (m:MsgR):Int:=match ZcT h m.client with
 |none=>6
 |some o=>if isO o m=false then 6 else if lateO h o m=true then 16 else if m.n≠o.n∧m.n≠w64 (o.n+1) then 1 else 0
def ZcY (h:HostR) (o:OpenR) (m:MsgR):OpenR:={o with t:=(stepS o.t m.c).1,last:=(stepS o.t m.c).2,n:=m.n,until_:=h.now+h.lease}
def callS (h:HostR) (m:MsgR):HostR×ReplyR:=
 if mayCallS h m≠0 then(h,errR (mayCallS h m)) else match ZcT h m.client with
 |none=>(h,errR 6)
 |some o=>if m.n=o.n then(h,o.last) else(withO h (ZcY h o m),(ZcY h o m).last)
def tryS (h:HostR) (m:MsgR):StoreR×Bool:=match ZcT h m.client with
 |none=>(h.s,false)
 |some o=>if m.kind=3∧isO o m=true∧lateO h o m=false∧o.n=m.n∧(commitS h.s o.t).2=0 then((commitS h.s o.t).1,true) else(h.s,false)
def ZaK (h:HostR) (m:MsgR):HostR:=⟨(tryS h m).1,(decideS h.rows m.client m.epoch m.seq (tryS h m).2).1,if(ownMsg h m).2.1=true then h.opens.filter (fun o=> !decide (o.client=m.client)) else h.opens,h.now,h.lease⟩
def decideH (h:HostR) (m:MsgR):HostR×ReplyR:=
 if m.kind=5∧(ownMsg h m).2.1=true∧(ownMsg h m).2.2=false then(h,errR 20)
 else if(decideS h.rows m.client m.epoch m.seq (tryS h m).2).2.2≠0 then(h,errR (decideS h.rows m.client m.epoch m.seq (tryS h m).2).2.2)
 else(ZaK h m,if(tryS h m).2=true then rep0 else if m.kind=3∧(ownMsg h m).2.2=true then errR 16 else errR 15)
def answerS (h:HostR) (m:MsgR):HostR×ReplyR:=
 if m.kind=6 then({h with rows:=(forgetS h.rows m.client m.epoch m.seq).1},errR (forgetS h.rows m.client m.epoch m.seq).2)
 else if(askS h.rows m.client m.epoch m.seq).2≠0∧(askS h.rows m.client m.epoch m.seq).2≠6 then(h,errR (askS h.rows m.client m.epoch m.seq).2)
 else if m.kind<1∨5<m.kind then(h,errR 1)
 else if(askS h.rows m.client m.epoch m.seq).2=0 then(h,if m.kind≤2 then errR 7 else if(askS h.rows m.client m.epoch m.seq).1=true then rep0 else errR 15)
 else if m.kind=1 then beginH h m else if m.kind=2 then callS h m else decideH h m
def nS (h:HostR) (m:MsgR):Int:=if m.kind=2∧((askS h.rows m.client m.epoch m.seq).2≠6∨mayCallS h m≠0) then-1 else m.n
def handleS (h:HostR) (m:MsgR):HostR×RspR:=((answerS h m).1,⟨m.kind,m.client,m.epoch,m.seq,nS h m,(answerS h m).2⟩)
structure OpenP (h:HostR) (o:OpenR):Prop where
 client:0≤o.client
 epoch:1≤o.epoch
 seq:1≤o.seq
 n:0≤o.n
 t:TxnP o.t
 stamp:o.t.stamp≤h.s.stamp
structure ZhF (h:HostR):Prop where
 store:ZG h.s
 vrows:Zg (viewS h.s h.s.stamp)
 vtree:ZI (viewS h.s h.s.stamp)
 rows:Zaa h.rows
 few:h.opens.length≤64
 rise:Zn OpenR.client h.opens=true
 open_:∀o∈h.opens,OpenP h o
 now:0≤h.now
 lease:1≤h.lease
theorem ZlB {h:HostR} (hr:Zn OpenR.client h.opens=true) (o:OpenR) (c:Int):ZcT (withO h o) c=if c=o.client then some o else ZcT h c:=Zhc OpenR.client hr o c
theorem ZwM {l:List RowR} {c e n:Int}:(askS l c e n).2=0∨(askS l c e n).2=1∨(askS l c e n).2=6∨(askS l c e n).2=17∨(askS l c e n).2=18:=by
 have hw:whyS l c e n=0∨whyS l c e n=1∨whyS l c e n=6∨whyS l c e n=17:=by
  unfold whyS
  split
  ·simp
  ·split
   ·simp
   ·split
    ·simp
    ·split
     ·simp
     ·simp
 unfold askS
 split
 ·simp only;omega
 ·split
  ·simp
  ·split
   ·simp
   ·simp
theorem ZjX {h:HostR} {m:MsgR} (hm:mayCallS h m=0):∃o,ZcT h m.client=some o∧isO o m=true∧lateO h o m=false∧(m.n=o.n∨m.n=w64 (o.n+1)):=by
 unfold mayCallS at hm
 split at hm
 ·cases hm
 ·rename_i o ho
  split at hm
  ·cases hm
  ·split at hm
   ·cases hm
   ·split at hm
    ·cases hm
    ·rename_i h1 h2 h3
     exact⟨o,ho,by simpa using h1,by simpa using h2,(Decidable.em (m.n=o.n)).imp id fun g=>Decidable.byContradiction fun g2=>h3 ⟨g,g2⟩⟩
theorem ZfJ {h:HostR} {m:MsgR} (hf:ZcT h m.client=none):ownMsg h m=(.zero,false,false):=by unfold ownMsg;rw[hf]
theorem ZcB {h:HostR} {m:MsgR} {o:OpenR} (hf:ZcT h m.client=some o):ownMsg h m=(o,isO o m,isO o m&&lateO h o m):=by unfold ownMsg;rw[hf]
theorem ZlC {h:HostR} (H:ZhF h) (m:MsgR):(answerS (answerS h m).1 m).1=(answerS h m).1∧((answerS (answerS h m).1 m).2=(answerS h m).2∨((answerS h m).2.e=16∧m.kind=3∧(answerS (answerS h m).1 m).2.e=15))∧nS (answerS h m).1 m=nS h m:=by
 have still:answerS h m=(h,(answerS h m).2)→(answerS (answerS h m).1 m).1=(answerS h m).1∧((answerS (answerS h m).1 m).2=(answerS h m).2∨((answerS h m).2.e=16∧m.kind=3∧(answerS (answerS h m).1 m).2.e=15))∧nS (answerS h m).1 m=nS h m:=fun e=>by
  have e1:(answerS h m).1=h:=by rw[e]
  rw[e1,e1];exact⟨rfl,.inl rfl,rfl⟩
 by_cases k6:m.kind=6
 ·have hn:∀g:HostR,nS g m=m.n:=fun g=>by unfold nS;rw[if_neg (by omega)]
  have ha:∀g:HostR,answerS g m=({g with rows:=(forgetS g.rows m.client m.epoch m.seq).1},errR (forgetS g.rows m.client m.epoch m.seq).2):=fun g=>by unfold answerS;rw[if_pos k6]
  by_cases z:(forgetS h.rows m.client m.epoch m.seq).2=0
  ·have t:=Zld H.rows (ZpN z)
   rw[ha h,ha]
   simp only[t,z,hn]
   exact⟨trivial,.inl trivial,trivial⟩
  ·apply still
   rw[ha h,ZpM z]
 have hu:answerS h m=if(askS h.rows m.client m.epoch m.seq).2≠0∧(askS h.rows m.client m.epoch m.seq).2≠6 then(h,errR (askS h.rows m.client m.epoch m.seq).2)
   else if m.kind<1∨5<m.kind then(h,errR 1)
   else if(askS h.rows m.client m.epoch m.seq).2=0 then(h,if m.kind≤2 then errR 7 else if(askS h.rows m.client m.epoch m.seq).1=true then rep0 else errR 15)
   else if m.kind=1 then beginH h m else if m.kind=2 then callS h m else decideH h m:=by unfold answerS;rw[if_neg k6]
 by_cases a1:(askS h.rows m.client m.epoch m.seq).2≠0∧(askS h.rows m.client m.epoch m.seq).2≠6
 ·rw[if_pos a1] at hu
  exact still (by rw[hu])
 rw[if_neg a1] at hu
 by_cases a2:m.kind<1∨5<m.kind
 ·rw[if_pos a2] at hu
  exact still (by rw[hu])
 rw[if_neg a2] at hu
 by_cases a3:(askS h.rows m.client m.epoch m.seq).2=0
 ·rw[if_pos a3] at hu
  exact still (by rw[hu])
 rw[if_neg a3] at hu
 have a6:(askS h.rows m.client m.epoch m.seq).2=6:=by omega
 have again:∀g:HostR,g.rows=h.rows→answerS g m=if m.kind=1 then beginH g m else if m.kind=2 then callS g m else decideH g m:=fun g e=>by
  unfold answerS
  rw[if_neg k6,e,if_neg a1,if_neg a2,if_neg a3]
 by_cases k1:m.kind=1
 ·rw[if_pos k1] at hu
  have hn:∀g:HostR,nS g m=m.n:=fun g=>by unfold nS;rw[if_neg (by omega)]
  have opened:answerS h m=(withO h (openS h m),repA h.s.stamp)→(answerS (answerS h m).1 m).1=(answerS h m).1∧((answerS (answerS h m).1 m).2=(answerS h m).2∨((answerS h m).2.e=16∧m.kind=3∧(answerS (answerS h m).1 m).2.e=15))∧nS (answerS h m).1 m=nS h m:=fun e=>by
   rw[e]
   have hf:ZcT (withO h (openS h m)) m.client=some (openS h m):=by rw[ZlB H.rise,if_pos (show m.client=(openS h m).client from rfl)]
   have hi:isO (openS h m) m=true:=by simp[isO,openS]
   have e2:answerS (withO h (openS h m)) m=(withO h (openS h m),repA h.s.stamp):=by
    rw[again (withO h (openS h m)) rfl,if_pos k1]
    unfold beginH
    rw[hf]
    simp only
    rw[if_pos hi]
    rfl
   rw[e2,hn,hn]
   exact⟨rfl,.inl rfl,rfl⟩
  unfold beginH at hu
  split at hu
  ·split at hu
   ·exact still (by rw[hu])
   ·exact opened hu
  ·split at hu
   ·exact still (by rw[hu])
   ·split at hu
    ·exact still (by rw[hu])
    ·exact opened hu
 rw[if_neg k1] at hu
 by_cases k2:m.kind=2
 ·rw[if_pos k2] at hu
  unfold callS at hu
  by_cases c0:mayCallS h m≠0
  ·rw[if_pos c0] at hu
   exact still (by rw[hu])
  rw[if_neg c0] at hu
  obtain⟨o,ho,oi,ol,on⟩:=ZjX (by simpa using c0:mayCallS h m=0)
  rw[ho] at hu
  simp only at hu
  by_cases c1:m.n=o.n
  ·rw[if_pos c1] at hu
   exact still (by rw[hu])
  rw[if_neg c1] at hu
  rw[hu]
  obtain⟨hom,hoc⟩:=Zu OpenR.client ho
  have hf:ZcT (withO h (ZcY h o m)) m.client=some (ZcY h o m):=by rw[ZlB H.rise,if_pos (by show m.client=o.client;exact hoc.symm)]
  have hi:isO (ZcY h o m) m=true:=oi
  have hl:lateO (withO h (ZcY h o m)) (ZcY h o m) m=false:=by
   simp only[lateO,Bool.or_eq_false_iff,decide_eq_false_iff_not] at ol⊢
   refine⟨?_,ol.2⟩
   have:=H.lease
   show¬h.now+h.lease<h.now
   omega
  have hmz:mayCallS (withO h (ZcY h o m)) m=0:=by
   unfold mayCallS
   rw[hf]
   simp only
   rw[if_neg (by rw[hi];simp),if_neg (by rw[hl];simp),if_neg (by show¬(m.n≠m.n∧_);simp)]
  have e2:answerS (withO h (ZcY h o m)) m=(withO h (ZcY h o m),(ZcY h o m).last):=by
   rw[again (withO h (ZcY h o m)) rfl,if_neg k1,if_pos k2]
   unfold callS
   rw[if_neg (by simpa using hmz),hf]
   simp only
   rw[if_pos (show m.n=(ZcY h o m).n from rfl)]
  rw[e2]
  refine⟨rfl,.inl rfl,?_⟩
  unfold nS
  have a6':(askS (withO h (ZcY h o m)).rows m.client m.epoch m.seq).2=6:=a6
  rw[if_neg (by rw[a6',hmz];simp),if_neg (by rw[a6];simp only[ne_eq,not_true_eq_false,false_or];exact fun g=>c0 g.2)]
 rw[if_neg k2] at hu
 have hn:∀g:HostR,nS g m=m.n:=fun g=>by unfold nS;rw[if_neg (by omega)]
 unfold decideH at hu
 split at hu
 ·exact still (by rw[hu])
 split at hu
 ·exact still (by rw[hu])
 rename_i d0 d1
 have d1:(decideS h.rows m.client m.epoch m.seq (tryS h m).2).2.2=0:=by simpa using d1
 have hda:=ZpL H.rows d1
 have hyes:(decideS h.rows m.client m.epoch m.seq (tryS h m).2).2.1=(tryS h m).2:=by
  rcases decide_cases h.rows m.client m.epoch m.seq (tryS h m).2 with⟨g,_⟩|⟨_,_,g⟩|⟨_,_,g⟩
  ·exact absurd a6 g
  ·rw[g] at d1;cases d1
  ·rw[g]
 rw[hyes] at hda
 rw[hu]
 have hda':askS (ZaK h m).rows m.client m.epoch m.seq=((tryS h m).2,0):=hda
 have e2:answerS (ZaK h m) m=(ZaK h m,if(tryS h m).2=true then rep0 else errR 15):=by
  unfold answerS
  rw[if_neg k6,hda',if_neg (by simp),if_neg a2,if_pos rfl]
  rw[if_neg (by omega)]
 rw[e2,hn,hn]
 refine⟨rfl,?_,rfl⟩
 simp only
 by_cases y:(tryS h m).2=true
 ·rw[if_pos y,if_pos y];exact .inl rfl
 ·rw[if_neg y,if_neg y]
  by_cases z:m.kind=3∧(ownMsg h m).2.2=true
  ·rw[if_pos z];exact .inr ⟨rfl,z.1,rfl⟩
  ·rw[if_neg z];exact .inl rfl
theorem ZwN {l:List RowR} (R:Zaa l) {c e n:Int} {b:Bool} (ha:askS l c e n=(b,0)) {c' e' n':Int} (yes:Bool) (h:c'≠c∨e'≤e):askS (decideS l c' e' n' yes).1 c e n=(b,0):=by
 obtain⟨w1,w2⟩:=ZwD ha
 by_cases hc:c'=c
 ·subst hc
  have he:e'≤e:=h.resolve_left (by simp)
  by_cases hee:e'=e
  ·subst hee
   by_cases hnn:n'=n
   ·subst hnn
    rw[Zwz yes ha];exact ha
   ·by_cases hz:(decideS l c' e' n' yes).2.2=0
    ·rw[ZwF R (by rintro⟨_,g⟩;exact hnn g.symm) hz];exact ha
    ·rw[(Zwy hz).1];exact ha
  ·obtain⟨hb,r,hr,hre,_⟩:=Zom w1
   have hz:(decideS l c' e' n' yes).2.2≠0:=by
    intro hz
    obtain⟨hb',x,hx,hxe⟩:=ZwE R hz
    rcases decide_cases l c' e' n' yes with⟨_,g⟩|⟨_,_,g⟩|⟨g6,_,g⟩
    ·rw[g] at hx
     rw[hr] at hx
     injection hx with hx;subst hx;omega
    ·rw[g] at hz;cases hz
    ·obtain⟨q1,q2,q3⟩:=ZdO hb'
     have hw:=ZwG (l:=l) (c:=c') (e:=e') (n:=n') q1 q2 q3 hr
     rw[if_neg (by omega),if_pos (by omega)] at hw
     rw[ask_why (by rw[hw];decide),hw] at g6
     cases g6
   rw[(Zwy hz).1];exact ha
 ·by_cases hz:(decideS l c' e' n' yes).2.2=0
  ·rcases decide_cases l c' e' n' yes with⟨_,g⟩|⟨_,_,g⟩|⟨g6,_,g⟩
   ·rw[g];exact ha
   ·rw[g];exact ha
   ·rw[g]
    have hb:=(Zhe g6).1
    have hk:=(Zfb l hb).1
    rw[Zwv R (x:=decR _ _ _) (by show c≠(rowS l c' e' n').client;rw[hk];exact fun g=>hc g.symm)]
    exact ha
  ·rw[(Zwy hz).1];exact ha
theorem ZwB {l:List RowR} (R:Zaa l) {c e n:Int} {c' e' n':Int} (h:c'≠c):askS (forgetS l c' e' n').1 c e n=askS l c e n:=by
 by_cases hz:(forgetS l c' e' n').2=0
 ·have hw:=ZpN hz
  rw[Zes hw]
  obtain⟨hb,_⟩:=Zom hw
  have hk:=(Zfb l hb).1
  exact Zwv R (x:=forR _ _) (by show c≠(rowS l c' e' n').client;rw[hk];exact fun g=>h g.symm)
 ·rw[ZpM hz]
theorem answer_rows (h:HostR) (m:MsgR):(m.kind=6∧(answerS h m).1.rows=(forgetS h.rows m.client m.epoch m.seq).1)∨(m.kind≠6∧((answerS h m).1.rows=h.rows∨∃yes,(answerS h m).1.rows=(decideS h.rows m.client m.epoch m.seq yes).1)):=by
 by_cases k6:m.kind=6
 ·exact .inl ⟨k6,by unfold answerS;rw[if_pos k6]⟩
 ·refine .inr ⟨k6,?_⟩
  unfold answerS
  rw[if_neg k6]
  split
  ·exact .inl rfl
  split
  ·exact .inl rfl
  split
  ·exact .inl rfl
  split
  ·left;unfold beginH
   split
   ·split<;>rfl
   ·split
    ·rfl
    ·split<;>rfl
  split
  ·left;unfold callS
   split
   ·rfl
   ·split
    ·rfl
    ·split<;>rfl
  ·unfold decideH
   split
   ·exact .inl rfl
   split
   ·exact .inl rfl
   ·exact .inr ⟨_,rfl⟩
theorem ZwA {h:HostR} (R:Zaa h.rows) {c e n:Int} {b:Bool} (ha:askS h.rows c e n=(b,0)) {x:MsgR} (hx:¬(x.client=c∧(x.kind=6∨e<x.epoch))):askS (answerS h x).1.rows c e n=(b,0):=by
 rcases answer_rows h x with⟨k6,q⟩|⟨k6,q|⟨yes,q⟩⟩
 ·rw[q,ZwB R (fun g=>hx ⟨g,.inl k6⟩)];exact ha
 ·rw[q];exact ha
 ·rw[q]
  refine ZwN R ha yes ?_
  by_cases g:x.client=c
  ·right
   have:¬e<x.epoch:=fun g2=>hx ⟨g,.inr g2⟩
   omega
  ·exact .inl g
theorem commit_told {h:HostR} (H:ZhF h) {m:MsgR} (k3:m.kind=3):(((answerS h m).2.e≠0∧(answerS h m).2.e≠15∧(answerS h m).2.e≠16)∧(answerS h m).1=h)∨∃b:Bool,askS (answerS h m).1.rows m.client m.epoch m.seq=(b,0)∧((answerS h m).2.e=0↔b=true)∧((answerS h m).2.e=0∨(answerS h m).2.e=15∨(answerS h m).2.e=16):=by
 have hc:=ZwM (l:=h.rows) (c:=m.client) (e:=m.epoch) (n:=m.seq)
 unfold answerS
 rw[if_neg (by omega)]
 by_cases a1:(askS h.rows m.client m.epoch m.seq).2≠0∧(askS h.rows m.client m.epoch m.seq).2≠6
 ·rw[if_pos a1]
  left
  refine⟨?_,rfl⟩
  show((errR (askS h.rows m.client m.epoch m.seq).2).e≠0∧(errR (askS h.rows m.client m.epoch m.seq).2).e≠15∧(errR (askS h.rows m.client m.epoch m.seq).2).e≠16)
  simp only[errR]
  omega
 rw[if_neg a1,if_neg (by omega)]
 by_cases a3:(askS h.rows m.client m.epoch m.seq).2=0
 ·rw[if_pos a3,if_neg (by omega)]
  right
  refine⟨(askS h.rows m.client m.epoch m.seq).1,Prod.ext rfl a3,?_,?_⟩
  ·simp only
   split
   ·rename_i y;simp[rep0,y]
   ·rename_i y;simp[errR,y]
  ·simp only
   split
   ·exact .inl rfl
   ·exact .inr (.inl rfl)
 rw[if_neg a3,if_neg (by omega),if_neg (by omega)]
 have a6:(askS h.rows m.client m.epoch m.seq).2=6:=by omega
 unfold decideH
 rw[if_neg (by omega)]
 by_cases d:(decideS h.rows m.client m.epoch m.seq (tryS h m).2).2.2=0
 ·rw[if_neg (by simpa using d)]
  right
  have hda:=ZpL H.rows d
  have hyes:(decideS h.rows m.client m.epoch m.seq (tryS h m).2).2.1=(tryS h m).2:=by
   rcases decide_cases h.rows m.client m.epoch m.seq (tryS h m).2 with⟨g,_⟩|⟨_,_,g⟩|⟨_,_,g⟩
   ·exact absurd a6 g
   ·rw[g] at d;cases d
   ·rw[g]
  rw[hyes] at hda
  refine⟨(tryS h m).2,hda,?_,?_⟩
  ·simp only
   split
   ·rename_i y;simp[rep0,y]
   ·rename_i y
    split
    ·simp[errR,y]
    ·simp[errR,y]
  ·simp only
   split
   ·exact .inl rfl
   ·split
    ·exact .inr (.inr rfl)
    ·exact .inr (.inl rfl)
 ·rw[if_pos d]
  left
  refine⟨?_,rfl⟩
  have:(decideS h.rows m.client m.epoch m.seq (tryS h m).2).2.2=12:=by
   rcases decide_cases h.rows m.client m.epoch m.seq (tryS h m).2 with⟨g,_⟩|⟨_,_,g⟩|⟨_,_,g⟩
   ·exact absurd a6 g
   ·rw[g]
   ·rw[g] at d;exact absurd rfl d
  show((errR (decideS h.rows m.client m.epoch m.seq (tryS h m).2).2.2).e≠0∧(errR (decideS h.rows m.client m.epoch m.seq (tryS h m).2).2.2).e≠15∧(errR (decideS h.rows m.client m.epoch m.seq (tryS h m).2).2.2).e≠16)
  rw[this];decide
theorem ZwQ {h:HostR} {m:MsgR} (k5:m.kind=5) {b:Bool} (ha:askS h.rows m.client m.epoch m.seq=(b,0)):answerS h m=(h,if b=true then rep0 else errR 15):=by
 unfold answerS
 rw[if_neg (by omega),ha,if_neg (by simp),if_neg (by omega),if_pos rfl,if_neg (by omega)]
end Go.Cx
namespace Go.Cx
section
variable {α:Type} [DecidableEq α] (f:α→Int)
end
section
variable {α:Type} [DecidableEq α] {f:α→Int}
end
end Go.Cx
namespace Go.Cx
def chgS (x:NodeR×Bool) (q:Int):ChangeR:=if x.2=false then⟨q,true,.zero⟩ else⟨q,false,x.1⟩
theorem ZlD {l:List NodeR} {q:Int} (h:(findB l q).2=false):findB l q=(.zero,false):=Prod.ext (Zav h) h
theorem ZiY {f g:FSR} {q:Int} (hq:(findB f.l q).2=true∨(findB g.l q).2=true):changeS f g q=if findB f.l q=findB g.l q then[] else[chgS (findB g.l q) q]:=by
 unfold changeS chgS
 by_cases h1:(findB g.l q).2=false
 ·rw[if_pos h1,if_neg,if_pos h1]
  intro e
  rcases hq with hq|hq
  ·rw[e,h1] at hq;cases hq
  ·rw[h1] at hq;cases hq
 ·have h1':(findB g.l q).2=true:=by simpa using h1
  rw[if_neg h1,if_neg h1]
  by_cases h2:(findB f.l q).2=false∨(findB f.l q).1≠(findB g.l q).1
  ·rw[if_pos h2,if_neg]
   intro e
   rcases h2 with h2|h2
   ·rw[e,h1'] at h2;cases h2
   ·exact h2 (congrArg Prod.fst e)
  ·rw[if_neg h2,if_pos]
   simp only[not_or,ne_eq,Decidable.not_not,Bool.not_eq_false] at h2
   exact Prod.ext h2.2 (h2.1.trans h1'.symm)
theorem ZhG {f g:FSR} (hf:Zg f) (hg:Zg g) (c:ChangeR):c∈changesS f g↔∃q,findB f.l q≠findB g.l q∧c=chgS (findB g.l q) q:=by
 have hm:∀q,q∈numsS (f.l.map (·.ino)++g.l.map (·.ino))↔(findB f.l q).2=true∨(findB g.l q).2=true:=fun q=>by
  rw[(Zak _).2,List.mem_append,List.mem_map,List.mem_map]
  refine⟨fun h=>h.imp ?_ ?_,fun h=>h.imp ?_ ?_⟩
  ·rintro⟨n,hn,rfl⟩;rw[findB_of hf.rise hn]
  ·rintro⟨n,hn,rfl⟩;rw[findB_of hg.rise hn]
  ·exact fun h=>⟨_,(Zk h).1,(Zk h).2⟩
  ·exact fun h=>⟨_,(Zk h).1,(Zk h).2⟩
 unfold changesS
 rw[List.mem_flatMap]
 constructor
 ·rintro⟨q,hq,hc⟩
  rw[ZiY ((hm q).1 hq)] at hc
  split at hc
  ·cases hc
  ·rename_i n
   exact⟨q,n,by simpa using hc⟩
 ·rintro⟨q,hq,rfl⟩
  have hq':(findB f.l q).2=true∨(findB g.l q).2=true:=by
   cases h1:(findB f.l q).2 with
   |true=>exact .inl rfl
   |false=>
    cases h2:(findB g.l q).2 with
    |true=>exact .inr rfl
    |false=>exact absurd ((ZlD h1).trans (ZlD h2).symm) hq
  exact⟨q,(hm q).2 hq',by rw[ZiY hq',if_neg hq];simp⟩
theorem ZfZ (f g:FSR):Zn ChangeR.ino (changesS f g)=true:=by
 rw[ZH]
 unfold changesS
 rw[List.pairwise_flatMap]
 have hi:∀q,∀c∈changeS f g q,c.ino=q:=fun q c hc=>by
  unfold changeS at hc
  split at hc
  ·simp only[List.mem_cons,List.not_mem_nil,or_false] at hc;rw[hc]
  ·split at hc
   ·simp only[List.mem_cons,List.not_mem_nil,or_false] at hc;rw[hc]
   ·cases hc
 constructor
 ·intro q _
  have:=Zhj f g q
  generalize changeS f g q=l at*
  match l,this with
  |[],_=>simp
  |[a],_=>simp
 ·have:=(ZH idI _).1 (Zak (f.l.map (·.ino)++g.l.map (·.ino))).1
  refine this.imp fun{a b} hab x hx y hy=> ?_
  rw[hi a x hx,hi b y hy];exact hab
theorem Znd {f g f' g':FSR} (hf:Zg f) (hg:Zg g) (hf':Zg f') (hg':Zg g') (h:∀q,(findB f.l q=findB g.l q∧findB f'.l q=findB g'.l q)∨(findB f.l q=findB f'.l q∧findB g.l q=findB g'.l q)):changesS f g=changesS f' g':=by
 refine Zai ChangeR.ino (ZfZ f g) (ZfZ f' g') fun c=> ?_
 rw[ZhG hf hg,ZhG hf' hg']
 constructor
 ·rintro⟨q,hq,rfl⟩
  rcases h q with⟨a,_⟩|⟨a,b⟩
  ·exact absurd a hq
  ·exact⟨q,by rw[←a,←b];exact hq,by rw[b]⟩
 ·rintro⟨q,hq,rfl⟩
  rcases h q with⟨_,a⟩|⟨a,b⟩
  ·exact absurd a hq
  ·exact⟨q,by rw[a,b];exact hq,by rw[b]⟩
structure Born (s:StoreR) (t:TxnR):Prop where
 calls:∃l,t=(stepsS (at0 s t.stamp) l).1
 s1:1≤t.stamp
 stamp:t.stamp≤s.stamp
 rows:Zg (viewS s t.stamp)
 tree:ZI (viewS s t.stamp)
 next:(viewS s t.stamp).next≤(viewS s s.stamp).next
theorem ZiZ:∀(l:List CallR) (t:TxnR) (c:CallR),(stepsS t (l++[c])).1=(stepS (stepsS t l).1 c).1
 |[],t,c=>rfl
 |a::l,t,c=>ZiZ l (stepS t a).1 c
theorem Born.step {s:StoreR} {t:TxnR} (h:Born s t) (c:CallR):Born s (stepS t c).1:=by
 obtain⟨l,e⟩:=h.calls
 refine⟨⟨l++[c],?_⟩,h.s1,h.stamp,h.rows,h.tree,h.next⟩
 rw[ZiZ]
 show(stepS t c).1=(stepS (stepsS (at0 s t.stamp) l).1 c).1
 rw[←e]
theorem Born.txn {s:StoreR} {t:TxnR} (h:Born s t):TxnP t:=by
 obtain⟨l,e⟩:=h.calls
 have Tb:TxnP (at0 s t.stamp):=⟨h.rows,h.tree,h.rows,h.tree,Int.le_refl _,h.s1,rfl,by simp[at0]⟩
 rw[e];exact(Zba l Tb).1
structure Done (k:StoreR) (t:TxnR) (k':StoreR):Prop where
 right:ZG k'
 stamp:k'.stamp=k.stamp+1
 rows:Zg (viewS k' k'.stamp)
 tree:ZI (viewS k' k'.stamp)
 next:(viewS k' k'.stamp).next=max (viewS k k.stamp).next t.now.next
 changes:changesS (viewS k k.stamp) (viewS k' k'.stamp)=changesS t.was t.now
 old:∀st,st≤k.stamp→viewS k' st=viewS k st
theorem Zne {k:StoreR} (hP:ZG k) (R':Zg (viewS k k.stamp)) (T':ZI (viewS k k.stamp)) {t:TxnR} (h:Born k t) (hc:ZaX k t=false) (hq:t.was≠t.now):commitS k t=(installS k (changesS t.was t.now) t.now.next,0)∧Done k t (installS k (changesS t.was t.now) t.now.next):=by
 refine⟨by unfold commitS;rw[if_neg hq,hc,if_neg (by simp)],?_⟩
 have X:=h.txn
 obtain⟨c1,c2⟩:=Zae X.wrows X.nrows
 have V:=Zbf hP c2 (Zbb X.nrows) (next:=t.now.next)
 obtain⟨l,e⟩:=h.calls
 have S:=serialK hP h.s1 h.stamp h.rows h.tree R' T' h.next l (by rw[←e];exact hc) (by rw[←e];exact hq)
 rw[←e] at S
 obtain⟨_,s2,s3⟩:=S
 obtain⟨K1,K2,_⟩:=Zhs l (viewS k k.stamp) R' T'
 have ev:viewS (installS k (changesS t.was t.now) t.now.next) (installS k (changesS t.was t.now) t.now.next).stamp=(playS (viewS k k.stamp) l).1:=s2
 refine⟨ZcR hP c2,rfl,by rw[ev];exact K1,by rw[ev];exact K2,?_,?_,fun st hst=>Zoz hst⟩
 ·show(viewS _ (k.stamp+1)).next=_
  rw[V]
  exact(ZcA X.wrows X.nrows (Zdu hP k.stamp)).2.2
 ·rw[ev]
  exact Znd R' K1 X.wrows X.nrows fun q=>(s3 q).imp (fun g=>⟨g.1,g.2⟩) fun g=>⟨g.1,g.2⟩
theorem Born.later {k k':StoreR} {t u:TxnR} (h:Born k t) (D:Done k u k'):Born k' t:=by
 obtain⟨l,e⟩:=h.calls
 have ev:=D.old t.stamp h.stamp
 refine⟨⟨l,by unfold at0;rw[ev];exact e⟩,h.s1,by rw[D.stamp];have:=h.stamp;omega,by rw[ev];exact h.rows,by rw[ev];exact h.tree,?_⟩
 rw[ev,D.next]
 have:=h.next
 omega
theorem Born.new {s:StoreR} (h:ZG s) (R:Zg (viewS s s.stamp)) (T:ZI (viewS s s.stamp)):Born s (beginS s):=⟨⟨[],rfl⟩,h.stamp,Int.le_refl _,R,T,Int.le_refl _⟩
structure ZlE (h:HostR) (i:Nat) (o:OpenR):Prop where
 born:Born h.s o.t
 next:o.t.now.next≤2+i
 looks:o.t.looks.length≤7*i
 n:o.n≤i
 until_:o.until_=h.lease
structure ZbT (h:HostR) (i:Nat):Prop where
 host:ZhF h
 few:ZaE (10+513*i) h.s
 next:(viewS h.s h.s.stamp).next≤2+i
 stamp:h.s.stamp≤1+i
 now:h.now=0
 open_:∀o∈h.opens,ZlE h i o
theorem ZlE.more {h:HostR} {i:Nat} {o:OpenR} (A:ZlE h i o):ZlE h (i+1) o:=⟨A.born,by have:=A.next;omega,by have:=A.looks;omega,by have:=A.n;omega,A.until_⟩
theorem ZbT.more {h:HostR} {i:Nat} (A:ZbT h i):ZbT h (i+1):=⟨A.host,A.few.mono (by omega),by have:=A.next;omega,by have:=A.stamp;omega,A.now,fun o ho=>(A.open_ o ho).more⟩
theorem ZbT.rows {h:HostR} {i:Nat} (A:ZbT h i) {rows:List RowR} (R:Zaa rows):ZbT {h with rows:=rows} i:=
 ⟨⟨A.host.store,A.host.vrows,A.host.vtree,R,A.host.few,A.host.rise,fun o ho=>⟨(A.host.open_ o ho).client,(A.host.open_ o ho).epoch,(A.host.open_ o ho).seq,(A.host.open_ o ho).n,(A.host.open_ o ho).t,(A.host.open_ o ho).stamp⟩,A.host.now,A.host.lease⟩,A.few,A.next,A.stamp,A.now,fun o ho=>⟨(A.open_ o ho).born,(A.open_ o ho).next,(A.open_ o ho).looks,(A.open_ o ho).n,(A.open_ o ho).until_⟩⟩
theorem ZbT.with {h:HostR} {i:Nat} (A:ZbT h i) {o:OpenR} (P:OpenP h o) (O:ZlE h i o) (hl:(putS OpenR.client h.opens o).length≤64):ZbT (withO h o) i:=by
 obtain⟨p1,p2⟩:=putS_spec OpenR.client A.host.rise o
 have key:∀x∈(withO h o).opens,OpenP (withO h o) x∧ZlE (withO h o) i x:=fun x hx=>by
  rcases(p2 x).1 hx with rfl|⟨hx,_⟩
  ·exact⟨⟨P.client,P.epoch,P.seq,P.n,P.t,P.stamp⟩,⟨O.born,O.next,O.looks,O.n,O.until_⟩⟩
  ·have P:=A.host.open_ x hx
   have O:=A.open_ x hx
   exact⟨⟨P.client,P.epoch,P.seq,P.n,P.t,P.stamp⟩,⟨O.born,O.next,O.looks,O.n,O.until_⟩⟩
 exact⟨⟨A.host.store,A.host.vrows,A.host.vtree,A.host.rows,hl,p1,fun x hx=>(key x hx).1,A.host.now,A.host.lease⟩,A.few,A.next,A.stamp,A.now,fun x hx=>(key x hx).2⟩
theorem bad_not {l:List RowR} {c e n:Int} (h:(askS l c e n).2=6):0≤c∧1≤e∧1≤n:=by
 obtain⟨a,b,d⟩:=ZdO (Zhe h).1
 omega
theorem try_cases {h:HostR} {m:MsgR}:((tryS h m).1=h.s)∨∃o,ZcT h m.client=some o∧m.kind=3∧isO o m=true∧lateO h o m=false∧o.n=m.n∧(commitS h.s o.t).2=0∧tryS h m=((commitS h.s o.t).1,true):=by
 unfold tryS
 split
 ·exact .inl rfl
 ·rename_i o ho
  split
  ·rename_i q
   obtain⟨q1,q2,q3,q4,q5⟩:=q
   exact .inr ⟨o,ho,q1,q2,q3,q4,q5,rfl⟩
  ·exact .inl rfl
theorem ZbT.answer {h:HostR} {i:Nat} (A:ZbT h i) (hi:i≤1000000) (m:MsgR):ZbT (answerS h m).1 (i+1):=by
 have M:=A.more
 unfold answerS
 split
 ·exact M.rows (Zlc A.host.rows _ _ _)
 split
 ·exact M
 split
 ·exact M
 split
 ·exact M
 rename_i a1 a2 a3 a4
 have a6:(askS h.rows m.client m.epoch m.seq).2=6:=by omega
 obtain⟨b1,b2,b3⟩:=bad_not a6
 have hnew:OpenP h (openS h m)∧ZlE h (i+1) (openS h m):=by
  have B:=Born.new A.host.store A.host.vrows A.host.vtree
  refine⟨⟨b1,b2,b3,Int.le_refl _,B.txn,Int.le_refl _⟩,⟨B,?_,by show([]:List Int).length≤_;simp,by show(0:Int)≤_;omega,?_⟩⟩
  ·have:=M.next
   exact this
  ·show h.now+h.lease=h.lease
   rw[A.now];omega
 have hlen:=fun o=>ZcM OpenR.client A.host.rise o
 split
 ·unfold beginH
  split
  ·split
   ·exact M
   ·rename_i hf hl
    refine M.with hnew.1 hnew.2 ?_
    rw[hlen]
    split<;>omega
  ·rename_i o hf
   split
   ·exact M
   split
   ·exact M
   ·refine M.with hnew.1 hnew.2 ?_
    rw[hlen]
    have hf':ZW OpenR.client h.opens (openS h m).client=some o:=hf
    rw[hf']
    exact A.host.few
 split
 ·unfold callS
  split
  ·exact M
  rename_i c0
  obtain⟨o,ho,oi,ol,on⟩:=ZjX (by simpa using c0:mayCallS h m=0)
  rw[ho]
  simp only
  split
  ·exact M
  rename_i hne
  obtain⟨hom,hoc⟩:=Zu OpenR.client ho
  have P:=A.host.open_ o hom
  have O:=A.open_ o hom
  have hn1:=(Zce P.t.nrows P.t.ntree m.c).next.2
  have hw1:w64 (o.n+1)=o.n+1:=Zf (by have:=P.n;omega) (by have:=O.n;omega)
  rw[hw1] at on
  have hl1:(stepS o.t m.c).1.looks.length≤o.t.looks.length+7*1:=(Zba [m.c] P.t).2.2
  refine M.with (o:=ZcY h o m) ⟨P.client,P.epoch,P.seq,?_,ZfG P.t m.c,P.stamp⟩ ⟨O.born.step m.c,?_,?_,?_,?_⟩ ?_
  ·show 0≤m.n
   have:=P.n;omega
  ·show(doS o.t.now m.c).1.next≤_
   have:=O.next;omega
  ·show(stepS o.t m.c).1.looks.length≤_
   have:=O.looks;omega
  ·show m.n≤_
   have:=O.n;omega
  ·show h.now+h.lease=h.lease
   rw[A.now];omega
  ·rw[hlen]
   have hf':ZW OpenR.client h.opens (ZcY h o m).client=some o:=by
    show ZW OpenR.client h.opens o.client=some o
    rw[hoc];exact ho
   rw[hf']
   exact A.host.few
 ·unfold decideH
  split
  ·exact M
  split
  ·exact M
  have RD:=Zla A.host.rows m.client m.epoch m.seq (tryS h m).2
  have hs:∃s',(tryS h m).1=s'∧ZG s'∧Zg (viewS s' s'.stamp)∧ZI (viewS s' s'.stamp)∧ZaE (10+513*(i+1)) s'∧(viewS s' s'.stamp).next≤2+(i+1:Nat)∧s'.stamp≤1+(i+1:Nat)∧h.s.stamp≤s'.stamp∧∀o∈h.opens,Born s' o.t:=by
   have same:(tryS h m).1=h.s→∃s',(tryS h m).1=s'∧ZG s'∧Zg (viewS s' s'.stamp)∧ZI (viewS s' s'.stamp)∧ZaE (10+513*(i+1)) s'∧(viewS s' s'.stamp).next≤2+(i+1:Nat)∧s'.stamp≤1+(i+1:Nat)∧h.s.stamp≤s'.stamp∧∀o∈h.opens,Born s' o.t:=fun e=>
    ⟨h.s,e,A.host.store,A.host.vrows,A.host.vtree,M.few,M.next,M.stamp,Int.le_refl _,fun o ho=>(A.open_ o ho).born⟩
   rcases try_cases (h:=h) (m:=m) with e|⟨o,ho,k3,oi,ol,on,ce,te⟩
   ·exact same e
   ·obtain⟨hom,hoc⟩:=Zu OpenR.client ho
    have O:=A.open_ o hom
    by_cases q:o.t.was=o.t.now
    ·exact same (by rw[te];unfold commitS;rw[if_pos q])
    ·have hc:ZaX h.s o.t=false:=by
      cases hc:ZaX h.s o.t with
      |false=>rfl
      |true=>
       unfold commitS at ce
       rw[if_neg q,hc,if_pos rfl] at ce
       exact absurd ce (by simp)
     obtain⟨e,D⟩:=Zne A.host.store A.host.vrows A.host.vtree O.born hc q
     have CR:=(Zdt A.host.store A.few O.born.txn).2.1
     rw[e] at te CR
     rw[te]
     refine⟨_,rfl,D.right,D.rows,D.tree,CR.mono (by omega),?_,?_,?_,fun x hx=>(A.open_ x hx).born.later D⟩
     ·simp only
      rw[D.next]
      have:=A.next;have:=O.next;omega
     ·simp only
      rw[D.stamp]
      have:=A.stamp;omega
     ·simp only
      rw[D.stamp];omega
  obtain⟨s',e,g1,g2,g3,g4,g5,g6,g7,g8⟩:=hs
  have hsub:∀o∈(ZaK h m).opens,o∈h.opens:=fun o ho=>by
   unfold ZaK at ho
   simp only at ho
   split at ho
   ·exact(List.mem_filter.1 ho).1
   ·exact ho
  have hrise:Zn OpenR.client (ZaK h m).opens=true:=by
   unfold ZaK
   simp only
   split
   ·exact Zan OpenR.client A.host.rise _
   ·exact A.host.rise
  have hfew:(ZaK h m).opens.length≤64:=by
   unfold ZaK
   simp only
   split
   ·exact Nat.le_trans (List.length_filter_le _ _) A.host.few
   ·exact A.host.few
  have es:(ZaK h m).s=s':=e
  have key:∀o∈(ZaK h m).opens,OpenP (ZaK h m) o∧ZlE (ZaK h m) (i+1) o:=fun o ho=>by
   have P:=A.host.open_ o (hsub o ho)
   have O:=(A.open_ o (hsub o ho)).more
   refine⟨⟨P.client,P.epoch,P.seq,P.n,P.t,?_⟩,⟨?_,O.next,O.looks,O.n,O.until_⟩⟩
   ·rw[es];have:=P.stamp;omega
   ·rw[es];exact g8 o (hsub o ho)
  refine⟨⟨?_,?_,?_,RD,hfew,hrise,fun o ho=>(key o ho).1,A.host.now,A.host.lease⟩,?_,?_,?_,A.now,fun o ho=>(key o ho).2⟩
  ·rw[es];exact g1
  ·rw[es];exact g2
  ·rw[es];exact g3
  ·rw[es];exact g4
  ·rw[es];exact g5
  ·rw[es];exact g6
theorem host0 {s:StoreR} (hP:ZG s) (hb:ZaE 10 s) (R:Zg (viewS s s.stamp)) (T:ZI (viewS s s.stamp)) (hn:(viewS s s.stamp).next≤2) (hs:s.stamp≤1) {lease:Int} (hl:1≤lease):ZbT ⟨s,[],[],0,lease⟩ 0:=
 ⟨⟨hP,R,T,.nil,by simp,rfl,by simp,Int.le_refl _,hl⟩,hb,by simpa using hn,by simpa using hs,rfl,by simp⟩
structure Near (h:HostR) (B:Nat) (N:Int):Prop where
 vers:ZaE B h.s
 stamp:h.s.stamp≤N
 next:(viewS h.s h.s.stamp).next≤N
 opens:∀o∈h.opens,o.t.now.next≤N∧o.t.looks.length≤B
theorem Near.more {h:HostR} {B:Nat} {N:Int} (X:Near h B N):Near h (B+513) (N+1):=⟨X.vers.mono (by omega),by have:=X.stamp;omega,by have:=X.next;omega,fun o ho=>by have:=X.opens o ho;omega⟩
theorem Near.with {h:HostR} {B:Nat} {N:Int} (X:Near h B N) (hr:Zn OpenR.client h.opens=true) {o:OpenR} (ho:o.t.now.next≤N∧o.t.looks.length≤B):Near (withO h o) B N:=
 ⟨X.vers,X.stamp,X.next,fun x hx=>by
  rcases((putS_spec OpenR.client hr o).2 x).1 hx with rfl|⟨hx,_⟩
  ·exact ho
  ·exact X.opens x hx⟩
theorem Zel {h:HostR} (H:ZhF h) {B:Nat} {N:Int} (X:Near h B N) {o:OpenR} (ho:o∈h.opens):ZaE (B+513) (commitS h.s o.t).1∧(commitS h.s o.t).1.stamp≤N+1∧(viewS (commitS h.s o.t).1 (commitS h.s o.t).1.stamp).next≤N+1:=by
 have T:=(H.open_ o ho).t
 obtain⟨_,h2,h3⟩:=Zdt H.store X.vers T
 refine⟨h2,?_⟩
 rcases h3 with e|⟨_,_,e⟩
 ·rw[e];have:=X.stamp;have:=X.next;omega
 ·rw[e]
  obtain⟨c1,c2⟩:=Zae T.wrows T.nrows
  have V:=Zbf H.store c2 (Zbb T.nrows) (next:=o.t.now.next)
  have e2:(installS h.s (changesS o.t.was o.t.now) o.t.now.next).stamp=h.s.stamp+1:=rfl
  rw[e2]
  have V':viewS (installS h.s (changesS o.t.was o.t.now) o.t.now.next) (h.s.stamp+1)=applyS (viewS h.s h.s.stamp) (changesS o.t.was o.t.now) o.t.now.next:=V
  rw[V',(ZcA T.wrows T.nrows (Zdu H.store h.s.stamp)).2.2]
  have:=X.stamp;have:=X.next;have:=(X.opens o ho).1
  omega
theorem ZcE {h:HostR} (H:ZhF h) {B:Nat} {N:Int} (X:Near h B N) (m:MsgR):Near (answerS h m).1 (B+513) (N+1)∧(answerS h m).1.now=h.now∧(answerS h m).1.lease=h.lease:=by
 have M:=X.more
 unfold answerS
 split
 ·exact⟨⟨M.vers,M.stamp,M.next,M.opens⟩,rfl,rfl⟩
 split
 ·exact⟨M,rfl,rfl⟩
 split
 ·exact⟨M,rfl,rfl⟩
 split
 ·exact⟨M,rfl,rfl⟩
 have hnew:(openS h m).t.now.next≤N+1∧(openS h m).t.looks.length≤B+513:=⟨M.next,by show([]:List Int).length≤_;simp⟩
 split
 ·unfold beginH
  split
  ·split
   ·exact⟨M,rfl,rfl⟩
   ·exact⟨M.with H.rise hnew,rfl,rfl⟩
  ·split
   ·exact⟨M,rfl,rfl⟩
   split
   ·exact⟨M,rfl,rfl⟩
   ·exact⟨M.with H.rise hnew,rfl,rfl⟩
 split
 ·unfold callS
  split
  ·exact⟨M,rfl,rfl⟩
  split
  ·exact⟨M,rfl,rfl⟩
  ·rename_i o ho
   split
   ·exact⟨M,rfl,rfl⟩
   ·obtain⟨hom,hoc⟩:=Zu OpenR.client ho
    have P:=H.open_ o hom
    have hn1:=(Zce P.t.nrows P.t.ntree m.c).next.2
    have hl1:(stepS o.t m.c).1.looks.length≤o.t.looks.length+7*1:=(Zba [m.c] P.t).2.2
    have hx:=X.opens o hom
    refine⟨M.with H.rise ⟨?_,?_⟩,rfl,rfl⟩
    ·show(doS o.t.now m.c).1.next≤_;omega
    ·show(stepS o.t m.c).1.looks.length≤_;omega
 ·unfold decideH
  split
  ·exact⟨M,rfl,rfl⟩
  split
  ·exact⟨M,rfl,rfl⟩
  refine⟨⟨?_,?_,?_,fun o ho=> ?_⟩,rfl,rfl⟩
  ·rcases try_cases (h:=h) (m:=m) with e|⟨o,ho,_,_,_,_,_,te⟩
   ·show ZaE _ (tryS h m).1;rw[e];exact M.vers
   ·show ZaE _ (tryS h m).1;rw[te];exact(Zel H X (Zu OpenR.client ho).1).1
  ·rcases try_cases (h:=h) (m:=m) with e|⟨o,ho,_,_,_,_,_,te⟩
   ·show(tryS h m).1.stamp≤_;rw[e];exact M.stamp
   ·show(tryS h m).1.stamp≤_;rw[te];exact(Zel H X (Zu OpenR.client ho).1).2.1
  ·rcases try_cases (h:=h) (m:=m) with e|⟨o,ho,_,_,_,_,_,te⟩
   ·show(viewS (tryS h m).1 (tryS h m).1.stamp).next≤_;rw[e];exact M.next
   ·show(viewS (tryS h m).1 (tryS h m).1.stamp).next≤_;rw[te];exact(Zel H X (Zu OpenR.client ho).1).2.2
  ·have:o∈h.opens:=by
    unfold ZaK at ho
    simp only at ho
    split at ho
    ·exact(List.mem_filter.1 ho).1
    ·exact ho
   exact M.opens o this
def sto0:StoreR:=⟨[⟨1,[⟨1,false,⟨1,2,0,.empty,[]⟩⟩]⟩],[⟨1,2⟩],1⟩
theorem ZoW:ZG sto0:=by
 have hn:nodeOk ⟨1,2,0,.empty,[]⟩=true:=by decide+kernel
 refine⟨by decide,fun c hc=> ?_,by simp[sto0],by simp[sto0],by simp[sto0],fun c hc=> ?_⟩
 ·simp only[sto0,List.mem_cons,List.not_mem_nil,or_false] at hc
  subst hc
  refine⟨by decide,by simp,by simp,fun v hv=> ?_,fun v hv=> ?_⟩
  ·simp only[List.mem_cons,List.not_mem_nil,or_false] at hv
   subst hv;decide
  ·simp only[List.mem_cons,List.not_mem_nil,or_false] at hv
   subst hv
   exact⟨fun h=>(by cases h),fun _=>⟨hn,rfl⟩⟩
 ·simp only[sto0,List.mem_cons,List.not_mem_nil,or_false] at hc
  subst hc;decide
theorem Zug:ZaE 10 sto0:=⟨by decide,by decide,by decide+kernel,by decide+kernel⟩
theorem stoV:viewS sto0 sto0.stamp=newF:=by decide+kernel
theorem newR:Zg newF:=(Zgl newF).1 rowsN
theorem newP:ZI newF:=ZcW.tree newR ((Zho newF).1 (by decide+kernel:rightF newF=true)).2
theorem alive0 {lease:Int} (hl:1≤lease):ZbT ⟨sto0,[],[],0,lease⟩ 0:=
 host0 ZoW Zug (by rw[stoV];exact newR) (by rw[stoV];exact newP) (by rw[stoV];decide) (by decide) hl
def xm1:MsgR:=⟨1,1,1,1,0,0,⟨0,0,0,0,0,.empty,.empty,.empty⟩⟩
def xm2:MsgR:=⟨2,1,1,1,1,1,cA⟩
def xm3:MsgR:=⟨3,1,1,1,1,1,cA⟩
def xm4:MsgR:=⟨5,1,1,1,1,1,cA⟩
def xh0:HostR:=⟨sto0,[],[],0,5⟩
def xh1:=handleS xh0 xm1
def xh2:=handleS xh1.1 xm2
def xh3:=handleS xh2.1 xm3
def xh4:=handleS xh3.1 xm4
theorem xh_told:xh1.2.r.e=0∧xh1.2.r.a=1∧xh2.2.r.a=2∧xh3.2.r.e=0∧xh4.2.r.e=0∧xh3.1.s.stamp=2:=by decide+kernel
theorem alive_x:ZbT xh0 0∧ZbT xh1.1 1∧ZbT xh2.1 2∧ZbT xh3.1 3:=by
 have a0:ZbT xh0 0:=alive0 (by decide)
 have a1:ZbT xh1.1 1:=a0.answer (by omega) xm1
 have a2:ZbT xh2.1 2:=a1.answer (by omega) xm2
 exact⟨a0,a1,a2,a2.answer (by omega) xm3⟩
end Go.Cx
namespace Go.Cx
variable {P:Program}
end Go.Cx
set_option linter.unusedVariables false
set_option linter.unusedSimpArgs false
namespace Go.Cx
open Ieee
def FB (n:Nat):Nat:=FloatKind.f64.nearest (n:Int)
abbrev FL (n:Nat):AV:= .val (.float .f64 (FB n))
abbrev CL (a b:Nat):AV:= .val (.complex .f64 (FB a) (FB b))
theorem Zhf (way:Toward) (neg:Bool) (q drop:Nat) (h:drop≤(q*2^drop).log2+2∨q=0):way.cut neg (q*2^drop) drop=q:=by
 have key:∀g:Nat,0<g→(q*2^drop)%g=0→(q*2^drop)/g=q→(1<<<min drop ((q*2^drop).log2+2))=g→way.cut neg (q*2^drop) drop=q:=by
  intro g hg h1 h2 h3
  unfold Toward.cut
  simp only[h3,h1,h2]
  cases way<;>simp<;>omega
 rcases h with h|h
 ·refine key (2^drop) (Nat.two_pow_pos _) (by simp) (Nat.mul_div_cancel _ (Nat.two_pow_pos _)) ?_
  rw[Nat.min_eq_left h,Nat.shiftLeft_eq,Nat.one_mul]
 ·subst h
  refine key _ ?_ (by simp) (by simp) rfl
  rw[Nat.shiftLeft_eq,Nat.one_mul];exact Nat.two_pow_pos _
theorem Zle {n:Nat} (h:n<2^53) (h0:0<n):n.log2≤52:=by
 have:=(Nat.log2_lt (by omega)).2 h
 omega
theorem ZjO (n k:Nat) (h0:0<n):(n*2^k).log2=n.log2+k:=by
 rw[←Nat.shiftLeft_eq]
 induction k with
 |zero=>simp
 |succ k ih=>
  have e:n<<<(k+1)=2*(n<<<k):=by rw[Nat.shiftLeft_eq,Nat.shiftLeft_eq,Nat.pow_succ,←Nat.mul_assoc,Nat.mul_comm]
  have hp:0<n<<<k:=by rw[Nat.shiftLeft_eq];exact Nat.mul_pos h0 (Nat.two_pow_pos _)
  rw[e,Nat.log2_two_mul (by omega),ih];omega
theorem ZiB {n:Nat} (h:n<2^53) (h0:0<n) (k:Nat) (hk:k≤1074):
  double.nearest false (n*2^k) (-(k:Int))=(n.log2+1022)*2^52+n*2^(52 -n.log2):=by
 have hl:=Zle h h0
 have hm:n*2^k≠0:=Nat.ne_of_gt (Nat.mul_pos h0 (Nat.two_pow_pos _))
 have hlp:double.leastPlace= -1074:=by decide
 have hlast:max (-(k:Int)+((n*2^k).log2:Nat) -(52:Nat)) (-1074)=(n.log2:Int) -52:=by
  rw[ZjO n k h0];omega
 have hkept:Toward.even.cut false ((n*2^k)<<<(-(k:Int) -((n.log2:Int) -52)).toNat) (((n.log2:Int) -52) -(-(k:Int))).toNat=n*2^(52 -n.log2):=by
  rcases Nat.le_total k (52 -n.log2) with q|q
  ·have e1:(((n.log2:Int) -52) -(-(k:Int))).toNat=0:=by omega
   have e2:(-(k:Int) -((n.log2:Int) -52)).toNat=52 -n.log2 -k:=by omega
   have e3:(n*2^k)<<<(52 -n.log2 -k)=n*2^(52 -n.log2)*2^0:=by
    rw[Nat.pow_zero,Nat.mul_one,Nat.shiftLeft_eq,Nat.mul_assoc,←Nat.pow_add,show k+(52 -n.log2 -k)=52 -n.log2 by omega]
   rw[e1,e2,e3]
   have:=Zhf .even false (n*2^(52 -n.log2)) 0 (.inl (by omega))
   simpa using this
  ·have e1:(((n.log2:Int) -52) -(-(k:Int))).toNat=k -(52 -n.log2):=by omega
   have e2:(-(k:Int) -((n.log2:Int) -52)).toNat=0:=by omega
   have e3:(n*2^k)<<<0=n*2^(52 -n.log2)*2^(k -(52 -n.log2)):=by
    rw[Nat.shiftLeft_zero,Nat.mul_assoc,←Nat.pow_add,show 52 -n.log2+(k -(52 -n.log2))=k by omega]
   rw[e1,e2,e3]
   refine Zhf .even false _ _ (.inl ?_)
   rw[ZjO _ _ (Nat.mul_pos h0 (Nat.two_pow_pos _))];omega
 have hfr:double.fractionBits=52:=rfl
 unfold Format.nearest
 rw[if_neg hm,hfr,hlp]
 simp only[hlast,hkept]
 have hb:double.binade=2^52:=rfl
 have hi:double.infRung=2047*2^52:=by decide
 have hlow:n*2^(52 -n.log2)<2^53:=by
  have h1:n<2^(n.log2+1):=Nat.lt_log2_self
  calc n*2^(52 -n.log2)<2^(n.log2+1)*2^(52 -n.log2):=Nat.mul_lt_mul_of_pos_right h1 (Nat.two_pow_pos _)
   _=2^53:=by rw[←Nat.pow_add];congr 1;omega
 rw[hb,hi,show((n.log2:Int) -52 - -1074).toNat=n.log2+1022 by omega]
 simp only[Format.word,Bool.false_eq_true,if_false]
 rw[Nat.min_eq_left]
 omega
theorem FB_zero:FB 0=0:=by decide
theorem Zsv {n:Nat} (h:n<2^53) (h0:0<n):FB n=(n.log2+1022)*2^52+n*2^(52 -n.log2):=by
 have:=ZiB h h0 0 (by omega)
 simp only[Nat.pow_zero,Nat.mul_one] at this
 rw[←this]
 have:decide ((n:Int)<0)=false:=by simp
 simp only[FB,FloatKind.nearest,FloatKind.encode,FloatKind.format,Format.write,this]
 congr 1
theorem Zdn {n:Nat} (h:n<2^53):∃k:Nat,k≤1074∧double.read (FB n)= .number false (n*2^k) (-(k:Int)):=by
 rcases Nat.eq_zero_or_pos n with h0|h0
 ·subst h0
  obtain⟨k,hk⟩:∃k:Nat,k=1074:=⟨_,rfl⟩
  exact⟨k,by omega,by rw[FB_zero,Nat.zero_mul,hk];rfl⟩
 have hl:=Zle h h0
 refine⟨52 -n.log2,by omega,?_⟩
 have hlow:n*2^(52 -n.log2)<2^53:=by
  have h1:n<2^(n.log2+1):=Nat.lt_log2_self
  calc n*2^(52 -n.log2)<2^(n.log2+1)*2^(52 -n.log2):=Nat.mul_lt_mul_of_pos_right h1 (Nat.two_pow_pos _)
   _=2^53:=by rw[←Nat.pow_add];congr 1;omega
 have hge:2^52≤n*2^(52 -n.log2):=by
  have h1:2^n.log2≤n:=Nat.log2_self_le (by omega)
  calc 2^52=2^n.log2*2^(52 -n.log2):=by rw[←Nat.pow_add];congr 1;omega
   _≤n*2^(52 -n.log2):=Nat.mul_le_mul_right _ h1
 rw[Zsv h h0]
 generalize n*2^(52 -n.log2)=m at*
 have hs:double.signWeight=9223372036854775808:=rfl
 have hb:double.binade=4503599627370496:=rfl
 have hi:double.infRung=9218868437227405312:=by decide
 have hlp:double.leastPlace= -1074:=by decide
 have hp52:(2:Nat)^52=4503599627370496:=rfl
 have hp53:(2:Nat)^53=9007199254740992:=rfl
 simp only[Format.read,hs,hb,hi,hlp,hp52,hp53] at*
 generalize n.log2=L at*
 have e1:((L+1022)*4503599627370496+m)/9223372036854775808=0:=by omega
 have e2:((L+1022)*4503599627370496+m)%9223372036854775808=(L+1022)*4503599627370496+m:=by omega
 rw[e1,e2,if_neg (by omega),if_pos (by omega)]
 have e3:((L+1022)*4503599627370496+m)%4503599627370496=m -4503599627370496:=by omega
 have e4:((L+1022)*4503599627370496+m)/4503599627370496=L+1023:=by omega
 rw[e3,e4]
 have e5:4503599627370496+(m -4503599627370496)=m:=by omega
 rw[e5]
 have e6:(-1074:Int)+((L+1023 -1:Nat):Int)= -((52 -L:Nat):Int):=by omega
 rw[e6]
 rfl
theorem ZiC (n k:Nat) (b:Int) (hb:b≤-(k:Int)):(n*2^k)<<<(-(k:Int) -b).toNat=n*2^(-b).toNat:=by
 rw[Nat.shiftLeft_eq,Nat.mul_assoc,←Nat.pow_add]
 congr 2;omega
theorem Zgn {a b:Nat} (ha:a<2^53) (hb:b<2^53):double.order (FB a) (FB b)=some (compare a b):=by
 obtain⟨i,hi,h1⟩:=Zdn ha
 obtain⟨j,hj,h2⟩:=Zdn hb
 simp only[Format.order,h1,h2,Datum.order,signed,Bool.false_eq_true,if_false]
 rw[ZiC a i _ (Int.min_le_left ..),ZiC b j _ (Int.min_le_right ..)]
 generalize(-(min (-(i:Int)) (-(j:Int)))).toNat=k
 have hp:0<2^k:=Nat.two_pow_pos k
 congr 1
 rcases Nat.lt_trichotomy a b with h|h|h
 ·rw[Nat.compare_eq_lt.2 h]
  have:a*2^k<b*2^k:=Nat.mul_lt_mul_of_pos_right h hp
  exact Int.compare_eq_lt.2 (by omega)
 ·subst h;rw[Nat.compare_eq_eq.2 rfl];exact Int.compare_eq_eq.2 rfl
 ·rw[Nat.compare_eq_gt.2 h]
  have:b*2^k<a*2^k:=Nat.mul_lt_mul_of_pos_right h hp
  exact Int.compare_eq_gt.2 (by omega)
theorem Zon {n k:Nat} (h:n<2^53) (hk:k≤1074):double.nearest false (n*2^k) (-(k:Int))=FB n:=by
 rcases Nat.eq_zero_or_pos n with h0|h0
 ·subst h0;rw[FB_zero];simp[Format.nearest,Format.word]
 ·rw[ZiB h h0 k hk,Zsv h h0]
theorem add_FB {a b:Nat} (h:a+b<2^53):double.add (FB a) (FB b)=some (FB (a+b)):=by
 obtain⟨i,hi,h1⟩:=Zdn (n:=a) (by omega)
 obtain⟨j,hj,h2⟩:=Zdn (n:=b) (by omega)
 simp only[Format.add,h1,h2,Datum.sum,signed,Bool.false_eq_true,if_false]
 rw[ZiC a i _ (Int.min_le_left ..),ZiC b j _ (Int.min_le_right ..)]
 obtain⟨k,hk,e⟩:∃k:Nat,k≤1074∧min (-(i:Int)) (-(j:Int))= -(k:Int):=⟨max i j,by omega,by omega⟩
 rw[e]
 have e2:(- -(k:Int)).toNat=k:=by omega
 rw[e2]
 have e3:(((a*2^k:Nat):Int)+((b*2^k:Nat):Int))=(((a+b)*2^k:Nat):Int):=by rw[Nat.add_mul];omega
 simp only[e3,Int.natAbs_natCast,Option.map_some,Format.write]
 have e4:(if(((a+b)*2^k:Nat):Int)=0 then(false&&false) else decide ((((a+b)*2^k:Nat):Int)<0))=false:=by
  split
  ·rfl
  ·exact decide_eq_false (by omega)
 rw[e4,Zon h hk]
theorem sub_FB {a b:Nat} (h:a<2^53) (hb:b≤a):double.sub (FB a) (FB b)=some (FB (a -b)):=by
 obtain⟨i,hi,h1⟩:=Zdn (n:=a) (by omega)
 obtain⟨j,hj,h2⟩:=Zdn (n:=b) (by omega)
 simp only[Format.sub,h1,h2,Datum.opposite,Datum.sum,signed,Bool.false_eq_true,if_false,Bool.not_false,if_true]
 rw[ZiC a i _ (Int.min_le_left ..),ZiC b j _ (Int.min_le_right ..)]
 obtain⟨k,hk,e⟩:∃k:Nat,k≤1074∧min (-(i:Int)) (-(j:Int))= -(k:Int):=⟨max i j,by omega,by omega⟩
 rw[e]
 have e2:(- -(k:Int)).toNat=k:=by omega
 rw[e2]
 have hle:b*2^k≤a*2^k:=Nat.mul_le_mul_right _ hb
 have e3:(((a*2^k:Nat):Int)+ -((b*2^k:Nat):Int))=(((a -b)*2^k:Nat):Int):=by rw[Nat.sub_mul];omega
 simp only[e3,Int.natAbs_natCast,Option.map_some,Format.write]
 have e4:(if(((a -b)*2^k:Nat):Int)=0 then(false&&true) else decide ((((a -b)*2^k:Nat):Int)<0))=false:=by
  split
  ·rfl
  ·exact decide_eq_false (by omega)
 rw[e4,Zon (by omega) hk]
theorem int_FB {a:Nat} (h:a<2^53):(FloatKind.f64.decode (FB a)).toInt .zero=some (a:Int):=by
 obtain⟨i,hi,h1⟩:=Zdn h
 simp only[FloatKind.decode,FloatKind.format,h1,Datum.toInt,Datum.integral]
 have e1:(-(i:Int)).toNat=0:=by omega
 have e2:(- -(i:Int)).toNat=i:=by omega
 rw[e1,e2,Nat.shiftLeft_zero]
 have:=Zhf .zero false a i (by
  rcases Nat.eq_zero_or_pos a with h0|h0
  ·exact .inr h0
  ·left;rw[ZjO a i h0];omega)
 simp[this,signed]
theorem neg_FB {a:Nat} (h:a<2^53):(FloatKind.f64.decode (FB a)).neg=false:=by
 obtain⟨i,hi,h1⟩:=Zdn h
 simp only[FloatKind.decode,FloatKind.format,h1,Datum.neg]
section
variable {P:Program} (t:TypeId) (ox oy:Operand) {a b:Nat}
theorem Zoo (h:a+b<9007199254740992):abin P .add t ox oy (FL a) (FL b)=some (FL (a+b)):=by
 simp[abin,conc,eqGuard,binOp,Op.floatArith,FloatKind.format,add_FB (a:=a) (b:=b) h,ofV,Zag]
theorem Zvj (h:a<9007199254740992) (hb:b≤a):abin P .sub t ox oy (FL a) (FL b)=some (FL (a -b)):=by
 simp[abin,conc,eqGuard,binOp,Op.floatArith,FloatKind.format,sub_FB (a:=a) (b:=b) h hb,ofV,Zag]
theorem Zvk (ha:a<9007199254740992) (hb:b<9007199254740992):abin P .gtr t ox oy (FL a) (FL b)=some (.val (.bool (decide (b<a)))):=by
 have:(some (compare a b)==some Ordering.gt)=decide (b<a):=by
  rw[Bool.eq_iff_iff];simp[Nat.compare_eq_gt]
 simp[abin,conc,eqGuard,binOp,Op.floatCmp,FloatKind.format,Zgn (a:=a) (b:=b) ha hb,ofV,Zag,this]
theorem Zvl (ha:a<9007199254740992) (hb:b<9007199254740992):abin P .geq t ox oy (FL a) (FL b)=some (.val (.bool (decide (b≤a)))):=by
 have:(compare a b==Ordering.gt||compare a b==Ordering.eq)=decide (b≤a):=by
  rcases Nat.lt_trichotomy a b with h|h|h
  ·rw[Nat.compare_eq_lt.2 h,decide_eq_false (by omega)];rfl
  ·subst h;rw[Nat.compare_eq_eq.2 rfl,decide_eq_true (Nat.le_refl _)];rfl
  ·rw[Nat.compare_eq_gt.2 h,decide_eq_true (by omega)];rfl
 simp[abin,conc,eqGuard,binOp,Op.floatCmp,FloatKind.format,Zgn (a:=a) (b:=b) ha hb,ofV,Zag,this]
end
section
variable {P:Program} (h:Za) (t t' ty:TypeId) (cs:Array Bool) (a b:Nat)
@[simp] theorem evCall_real:ZaC P h .real [t] ty cs [CL a b]=some (FL a,h):=rfl
@[simp] theorem evCall_imag:ZaC P h .imag [t] ty cs [CL a b]=some (FL b,h):=rfl
@[simp] theorem Zuf:ZaC P h .complex [t,t'] ty cs [FL a,FL b]=some (CL a b,h):=rfl
@[simp] theorem ofV_complex (k:FloatKind) (x y:Nat):ofV (.complex k x y)= .val (.complex k x y):=rfl
@[simp] theorem ofV_float (k:FloatKind) (x:Nat):ofV (.float k x)= .val (.float k x):=rfl
theorem ZmE (ha:a<9007199254740992) (hb:b<9007199254740992):ZaC P h .max [t,t'] ty cs [FL a,FL b]=some (FL (max a b),h):=by
 have hn:=neg_FB (a:=a) ha
 have ho:=Zgn (a:=a) (b:=b) ha hb
 have e:Builtin.max2 (.float .f64 (FB a)) (.float .f64 (FB b))=pure (.float .f64 (FB (max a b))):=by
  simp only[Builtin.max2,FloatKind.format,ho]
  rcases Nat.lt_trichotomy a b with q|q|q
  ·rw[Nat.compare_eq_lt.2 q,Nat.max_eq_right (by omega)]
  ·subst q;rw[Nat.compare_eq_eq.2 rfl];simp
  ·rw[Nat.compare_eq_gt.2 q,Nat.max_eq_left (by omega)]
 simp[ZaC,ZbM,conc,builtin,Builtin.max_,e,ofV,Zag,pr]
theorem ZmF (ha:a<9007199254740992) (hb:b<9007199254740992):ZaC P h .min [t,t'] ty cs [FL a,FL b]=some (FL (min a b),h):=by
 have hn:=neg_FB (a:=a) ha
 have ho:=Zgn (a:=a) (b:=b) ha hb
 have e:Builtin.min2 (.float .f64 (FB a)) (.float .f64 (FB b))=pure (.float .f64 (FB (min a b))):=by
  simp only[Builtin.min2,FloatKind.format,ho]
  rcases Nat.lt_trichotomy a b with q|q|q
  ·rw[Nat.compare_eq_lt.2 q,Nat.min_eq_left (by omega)]
  ·subst q;rw[Nat.compare_eq_eq.2 rfl];simp
  ·rw[Nat.compare_eq_gt.2 q,Nat.min_eq_right (by omega)]
 simp[ZaC,ZbM,conc,builtin,Builtin.min_,e,ofV,Zag,pr]
theorem ZmG {src dst:TypeId} {k:IntKind} {n:Int} (hs:P.underlying src=some (.int k)) (hd:P.underlying dst=some (.float .f64)) (h0:0≤n):Zgb P src dst (.val (.int k n))=some (FL n.toNat):=by
 obtain⟨m,rfl⟩:=Int.eq_ofNat_of_zero_le h0
 have:pr P (convert src dst (.int k m))=some (.float .f64 (FB m)):=by
  unfold convert
  rw[pr_bind,Zy hs,Option.bind_some,pr_bind,Zy hd];rfl
 simp[Zgb,conc,this,ofV,Zag]
theorem ZmH {src dst:TypeId} {n:Nat} (hs:P.underlying src=some (.float .f64)) (hd:P.underlying dst=some (.int .i64)) (hn:n<9007199254740992):Zgb P src dst (FL n)=some (.val (.int .i64 n)):=by
 have hi:=int_FB (a:=n) hn
 have:pr P (convert src dst (.float .f64 (FB n)))=some (.int .i64 n):=by
  unfold convert
  rw[pr_bind,Zy hs,Option.bind_some,pr_bind,Zy hd,Option.bind_some]
  simp only[Conv.floatToInt,hi]
  have h1:IntKind.i64.min= -9223372036854775808:=by decide
  have h2:IntKind.i64.max=9223372036854775807:=by decide
  rw[if_pos (by rw[h1,h2];omega)];rfl
 simp[Zgb,conc,this,ofV,Zag]
end
end Go.Cx
set_option linter.unusedVariables false
set_option linter.unusedSimpArgs false
namespace Go.Cx
open Go.Sort
variable {P:Program}
theorem ZmI {Z:Nat→Prop} {w:World} {κ:Nat→Slot}:∀{l:List Int} {us:List Value},Rs Z w κ (l.map I) us→us=l.map (Value.int .i64)
 |[],_,.nil=>rfl
 |x::l,_,.cons h1 h2=>by
  cases h1 with
  |val _=>rw[ZmI h2];rfl
theorem ZmJ {Z:Nat→Prop} {w:World} {κ:Nat→Slot}:∀l:List Int,Rs Z w κ (l.map I) (l.map (Value.int .i64))
 |[]=> .nil
 |x::l=> .cons (.val rfl) (ZmJ l)
theorem Zei (enc:Int→Value) (w:World) (n blk off:Nat) (d:Array Int) (os:Array Obj) {b:Nat} (hb:b<w.heap.size) (h:b≠blk):(Go.Sort.grow (putRow enc (Sort.ahead w n) blk off d) os).heap[b]? =w.heap[b]? :=by
 simp only[Go.Sort.grow,putRow,mapBlock,Sort.ahead]
 rw[Array.getElem?_append_left (by simpa using hb),Array.getElem?_modify,if_neg (Ne.symm h)]
theorem ZcX (enc:Int→Value) (w:World) (n blk off:Nat) (d:Array Int) (os:Array Obj) {c:Array Value} {E:TypeId} {fr:Nat×Nat} (hb:w.heap[blk]? =some (.cells c E fr)):(Go.Sort.grow (putRow enc (Sort.ahead w n) blk off d) os).heap[blk]? =some (.cells (putCells enc off d c) E fr):=by
 have hlt:=(Array.getElem?_eq_some_iff.1 hb).1
 simp only[Go.Sort.grow,putRow,mapBlock,Sort.ahead]
 rw[Array.getElem?_append_left (by simpa using hlt),Array.getElem?_modify,if_pos rfl,hb]
 rfl
abbrev sortI (l:List Int):List Int:=l.mergeSort fun x y=>decide (x≤y)
theorem ZpP {f:FuncId} (he:Ent P f)
  (hs:∀(blk off cap:Nat) (zs:List Int) (w:World),Holds (Value.int .i64) w blk off zs.toArray→blk<w.heap.size→zs.length<4611686018427387904→Calls P f #[.slice (some ⟨blk,off,none⟩) zs.length cap] w fun e w'=>e= .returned (.tuple #[])∧∃n os,w'=Go.Sort.grow (putRow (Value.int .i64) (Sort.ahead w n) blk off (sortI zs).toArray) os)
  (h0:∀(p:Option Addr) (cap:Nat) (w:World),Calls P f #[.slice p 0 cap] w fun e w'=>e= .returned (.tuple #[])∧w'=w)
  (ver:Nat) (l:List Int) (hl:l.length<4611686018427387904):Zep P f [.own 0 ver 0 l.length 1] [.cells ver (l.map I)] (.tup []) [.cells ver ((sortI l).map I)]:=by
 refine⟨by simp,by simp,by simp,rfl,by simp,he,fun Z κ w cargs r hr=> ?_⟩
 cases hr with
 |cons h1 h2=>
 cases h2
 have same:∀{e:Ending} {w':World},l=[]→e= .returned (.tuple #[])→w'=w→∃v h' Z' κ' c,(v=AV.tup []∧h'=[ABlk.cells ver ((sortI l).map I)])∧e= .returned c∧Rel Z' κ' h' w'∧R Z' w' κ' v c∧Ext Z κ w Z' κ' w'∧ZR 1 κ κ':=by
  rintro e w' rfl rfl rfl
  refine⟨_,_,Z,κ,_,⟨rfl,rfl⟩,rfl,?_,.tup .nil,.refl _ _ _,.refl _ _⟩
  have:sortI []=[]:=by simp
  rw[this];exact r
 cases h1 with
 | @own _ _ _ _ _ A cap hn hcap hA h2=>
 obtain⟨ob,sz,hk,hblk⟩:=r.blk 0 _ rfl
 simp only[ZP,hk] at h2
 have h2:=h2.2 trivial
 by_cases hl0:l=[]
 ·subst hl0
  exact(h0 A cap w).mono fun e w' ⟨h3,h4⟩=>same rfl h3 h4
 have hlen:0<l.length:=List.length_pos_iff.2 hl0
 cases ob with
 |none=>obtain⟨_,q,_⟩:=h2;omega
 |some b=>
 obtain⟨e1,_,⟨a,rfl,ha⟩,e2⟩:=h2
 obtain rfl:=ha (by omega)
 obtain⟨c,E,us,⟨fr,g1,gf⟩,g2,g3,g4,g5⟩:=hblk
 have hus:=ZmI g5
 subst hus
 have hlt:=(Array.getElem?_eq_some_iff.1 g1).1
 simp only[Nat.zero_mul]
 refine(hs b 0 cap l w (fun j hj=> ?_) hlt hl).mono ?_
 ·have hj':j<l.length:=by simpa using hj
  have:=g4 j (Value.int .i64 l[j]) (by simp[hj'])
  refine⟨?_,?_⟩
  ·simp only[World.cell?,g1,Nat.zero_add]
   simp[this,hj']
  ·rcases gf with rfl|⟨_,gf⟩
   ·simp[World.frozen?,g1]
   ·have:j<c.size:=by simp at g3;omega
    simp[World.frozen?,g1];intro;omega
 rintro e w' ⟨rfl,n,os,rfl⟩
 have hsl:(sortI l).length=l.length:=List.length_mergeSort _
 have hal:ZO κ b:=⟨0,ver,sz,hk⟩
 have hsz:w.heap.size≤(Go.Sort.grow (putRow (Value.int .i64) (Sort.ahead w n) b 0 (sortI l).toArray) os).heap.size:=by rw[Go.Sort.size_grow,size_putRow];exact Nat.le_add_right _ _
 have ex:Ext Z κ w Z κ (Go.Sort.grow (putRow (Value.int .i64) (Sort.ahead w n) b 0 (sortI l).toArray) os):=
  ⟨rfl,rfl,rfl,hsz,fun b' hb' hn'=>Zei _ _ _ _ _ _ _ hb' (fun e=>hn' (e▸hal)),fun _ h=>h,fun _ h=> .inl h,fun _ h=> .inl h⟩
 refine⟨_,_,Z,κ,_,⟨rfl,rfl⟩,rfl,⟨fun b' hz=>Nat.lt_of_lt_of_le (r.zlt b' hz) hsz,r.za,fun id hid=>r.hole id hid,fun id x hx=> ?_,r.inj⟩,.tup .nil,ex,.refl _ _⟩
 cases id with
 |succ id=>simp at hx
 |zero=>
  simp at hx
  subst hx
  refine⟨some b,sz,hk,putCells (Value.int .i64) 0 (sortI l).toArray c,E,(sortI l).map (Value.int .i64),⟨fr,ZcX _ _ _ _ _ _ _ g1,by simpa[putCells] using gf⟩,?_,?_,?_,ZmJ _⟩
  ·simpa[putCells] using g2
  ·have:(l.map (Value.int .i64)).length=l.length:=by simp
   simp[putCells,hsl];omega
  ·intro j u hj
   have hj1:j<(sortI l).length:=by have:=(List.getElem?_eq_some_iff.1 hj).1;simpa using this
   have hjc:j<c.size:=by simp at g3;omega
   simp only[putCells,Array.getElem?_mapIdx,Array.getElem?_eq_getElem hjc,Option.map_some,Nat.zero_le,true_and,Nat.zero_add,List.size_toArray,Nat.sub_zero]
   rw[if_pos hj1]
   rw[List.getElem?_map,List.getElem?_eq_getElem hj1] at hj
   simp only[Option.map_some] at hj
   rw[←hj]
   rw[getElem!_pos _ j (by simpa using hj1)]
   simp
theorem ZjP {f:FuncId} (he:Ent P f) (cp:List Int→List Int) (hcp:∀zs,(cp zs).length≤zs.length) (hc0:∀zs,zs≠[]→cp zs≠[])
  (hs:∀(blk off cap:Nat) (zs:List Int) (w:World),Holds (Value.int .i64) w blk off zs.toArray→zs.length≤9223372036854775807→zs.length≤cap→Calls P f #[.slice (some ⟨blk,off,none⟩) zs.length cap] w fun e w'=>e= .returned (.slice (some ⟨blk,off,none⟩) (cp zs).length cap)∧∃n,w'=putRow (Value.int .i64) (Sort.ahead w n) blk off (cp zs++List.replicate (zs.length -(cp zs).length) 0).toArray)
  (h0:∀(p:Option Addr) (cap:Nat) (w:World),Calls P f #[.slice p 0 cap] w fun e w'=>e= .returned (.slice p 0 cap)∧w'=w)
  (ver:Nat) (l:List Int) (hl:l.length≤9223372036854775807):Zep P f [.own 0 ver 0 l.length 1] [.cells ver (l.map I)] (.own 0 ver 0 (cp l).length 1) [.cells ver ((cp l++List.replicate (l.length -(cp l).length) 0).map I)]:=by
 refine⟨by simp,by simp,by simp,rfl,by simp,he,fun Z κ w cargs r hr=> ?_⟩
 cases hr with
 |cons h1 h2=>
 cases h2
 have h1':=h1
 cases h1 with
 | @own _ _ _ _ _ A cap hn hcap hA h2=>
 obtain⟨ob,sz,hk,hblk⟩:=r.blk 0 _ rfl
 have h2o:=h2
 simp only[ZP,hk] at h2
 have h2:=h2.2 trivial
 by_cases hl0:l=[]
 ·subst hl0
  have hc:cp []=[]:=List.eq_nil_of_length_eq_zero (by have:=hcp [];simpa using this)
  refine(h0 A cap w).mono ?_
  rintro e w' ⟨rfl,rfl⟩
  refine⟨_,_,Z,κ,_,⟨rfl,rfl⟩,rfl,?_,?_,.refl _ _ _,.refl _ _⟩
  ·rw[hc];exact r
  ·rw[hc];exact h1'
 have hlen:0<l.length:=List.length_pos_iff.2 hl0
 cases ob with
 |none=>obtain⟨_,q,_⟩:=h2;omega
 |some b=>
 obtain⟨e1,_,⟨a,rfl,ha⟩,e2⟩:=h2
 obtain rfl:=ha (by omega)
 obtain⟨c,E,us,⟨fr,g1,gf⟩,g2,g3,g4,g5⟩:=hblk
 have hus:=ZmI g5
 subst hus
 simp only[Nat.zero_mul] at h2o h1'⊢
 refine(hs b 0 cap l w (fun j hj=> ?_) hl hn).mono ?_
 ·have hj':j<l.length:=by simpa using hj
  have:=g4 j (Value.int .i64 l[j]) (by simp[hj'])
  refine⟨?_,?_⟩
  ·simp only[World.cell?,g1,Nat.zero_add]
   simp[this,hj']
  ·rcases gf with rfl|⟨_,gf⟩
   ·simp[World.frozen?,g1]
   ·have:j<c.size:=by simp at g3;omega
    simp[World.frozen?,g1];intro;omega
 rintro e w' ⟨rfl,n,rfl⟩
 generalize hrr:cp l++List.replicate (l.length -(cp l).length) 0=rr
 have hsl:rr.length=l.length:=by rw[←hrr];have:=hcp l;simp;omega
 have eg:putRow (Value.int .i64) (Sort.ahead w n) b 0 rr.toArray=Go.Sort.grow (putRow (Value.int .i64) (Sort.ahead w n) b 0 rr.toArray) #[]:=by simp
 rw[eg]
 have hal:ZO κ b:=⟨0,ver,sz,hk⟩
 have hsz:w.heap.size≤(Go.Sort.grow (putRow (Value.int .i64) (Sort.ahead w n) b 0 rr.toArray) #[]).heap.size:=by rw[Go.Sort.size_grow,size_putRow];exact Nat.le_add_right _ _
 have ex:Ext Z κ w Z κ (Go.Sort.grow (putRow (Value.int .i64) (Sort.ahead w n) b 0 rr.toArray) #[]):=
  ⟨rfl,rfl,rfl,hsz,fun b' hb' hn'=>Zei _ _ _ _ _ _ _ hb' (fun e=>hn' (e▸hal)),fun _ h=>h,fun _ h=> .inl h,fun _ h=> .inl h⟩
 refine⟨_,_,Z,κ,_,⟨rfl,rfl⟩,rfl,⟨fun b' hz=>Nat.lt_of_lt_of_le (r.zlt b' hz) hsz,r.za,fun id hid=>r.hole id hid,fun id x hx=> ?_,r.inj⟩,.own (by have:=hcp l;omega) hcap (by simp) ?_,ex,.refl _ _⟩
 ·cases id with
  |succ id=>simp at hx
  |zero=>
   simp at hx
   subst hx
   refine⟨some b,sz,hk,putCells (Value.int .i64) 0 rr.toArray c,E,rr.map (Value.int .i64),⟨fr,ZcX _ _ _ _ _ _ _ g1,by simpa[putCells] using gf⟩,?_,?_,?_,ZmJ _⟩
   ·simpa[putCells] using g2
   ·have:(l.map (Value.int .i64)).length=l.length:=by simp
    simp[putCells,hsl];omega
   ·intro j u hj
    have hj1:j<rr.length:=by have:=(List.getElem?_eq_some_iff.1 hj).1;simpa using this
    have hjc:j<c.size:=by simp at g3;omega
    simp only[putCells,Array.getElem?_mapIdx,Array.getElem?_eq_getElem hjc,Option.map_some,Nat.zero_le,true_and,Nat.zero_add,List.size_toArray,Nat.sub_zero]
    rw[if_pos hj1]
    rw[List.getElem?_map,List.getElem?_eq_getElem hj1] at hj
    simp only[Option.map_some] at hj
    rw[←hj]
    rw[getElem!_pos _ j (by simpa using hj1)]
    simp
 ·simp only[ZP,hk]
  exact⟨Nat.le_refl _,fun _=>⟨by simpa using e1,by omega,⟨_,rfl,fun _=>by simp⟩,e2⟩⟩
end Go.Cx
namespace Go.Cx
theorem An {a b:Prop} (x:a) (y:b):a∧b:=⟨x,y⟩
variable {P:Program}
theorem ZjV {Z:Nat→Prop} {κ:Nat→Slot} {w:World}:∀(f:Nat) (v v':AV) (c:Value),frz [] 0 f v=some v'→R Z w κ v c→R Z w κ v' c
 |0,v,v',c,hf,hr=>by simp[frz] at hf
 |f+1,v,v',c,hf,hr=>by
  have ih:=fun a b c=>ZjV (Z:=Z) (κ:=κ) (w:=w) f a b c
  simp only[frz] at hf
  split at hf
  ·injection hf with hf
   subst hf
   exact hr
  ·split at hf
   ·rename_i v;injection hf with hf;subst hf;exact hr
   ·injection hf with hf;subst hf;exact .any
   ·obtain⟨bs,hb,rfl⟩:=Option.map_eq_some_iff.1 hf
    cases hr with|agg hs=>exact .agg (ZF ih hb hs)
   ·obtain⟨bs,hb,rfl⟩:=Option.map_eq_some_iff.1 hf
    cases hr with|tup hs=>exact .tup (ZF ih hb hs)
   ·obtain⟨bs,hb,rfl⟩:=Option.map_eq_some_iff.1 hf
    cases hr with
    |sl0 h1 h2=>simp at hb;subst hb;exact .sl0 (by simp) h2
    |sl h0 h1 h2 h3 h4 h5 h6=>exact .sl h0 h1 (by simp) h3 h4 h5 (ZF ih hb h6)
   ·obtain⟨bs,hb,rfl⟩:=Option.map_eq_some_iff.1 hf
    cases hr with|fp h1 h2 h3=>exact .fp h1 h2 (ZF ih hb h3)
   ·obtain⟨bs,hb,rfl⟩:=Option.map_eq_some_iff.1 hf
    cases hr with|fn hs=>exact .fn (ZF ih hb hs)
   ·obtain⟨ks',hk,hf⟩:=Option.bind_eq_some_iff.1 hf
    obtain⟨vs',hv,rfl⟩:=Option.map_eq_some_iff.1 hf
    cases hr with|fmap h1 h2 h3 h4 h5 h6=>exact .fmap h1 h2 h3 h4 (ZF ih hk h5) (ZF ih hv h6)
   ·simp at hf
   ·simp at hf
   ·simp at hf
theorem AInv.soft {h:Za} {f:FuncId} {cap args args':List AV} {v:AV} {Q:AV→Za→Prop} (hp:Zd P f args' v) (ha:(args++cap).mapM (frz [] 0 12)=some args') (hq:Q v h):AInv P (.fn f cap) args h Q:=by
 have hf:=hp.frame h
 refine .of ⟨hf.1,fun Z κ w cargs r hr=> ?_⟩
 exact(hf.2 Z κ w cargs r (ZF (fun a b c h1 h2=>ZjV 12 a b c h1 h2) ha hr)).mono fun e w' ⟨v',h',Z',κ',c,⟨e1,e2⟩,g⟩=>⟨v',h',Z',κ',c,by rw[e1,e2];exact hq,g⟩
theorem ADcall.soft {h:Za} {g:FuncId} {cap args args':List AV} {v:AV} {K:AV→Za→Prop} (hp:Zd P g args' v) (ha:(args++cap).mapM (frz [] 0 12)=some args') (hk:K v h) {D:List Nat}:ADcall P D .t (.fn g cap) args h K:=
 ⟨v,fun k=>AInv.soft hp ha ⟨rfl,rfl⟩,hk⟩
class Sc (G:Prop) (P:outParam Program) (f:outParam FuncId) (cap args:outParam (List AV)) (h:outParam Za) (K:outParam (AV→Za→Prop)):Prop where
 go:∀{args':List AV} {v:AV},Zd P f args' v→(args++cap).mapM (frz [] 0 12)=some args'→K v h→G
section
variable {f:FuncId} {cap args:List AV} {h:Za} {K:AV→Za→Prop} {D:List Nat}
instance:Sc (AInv P (.fn f cap) args h K) P f cap args h K:=⟨AInv.soft⟩
instance:Sc (ADcall P D .t (.fn f cap) args h K) P f cap args h K:=⟨fun hp ha hk=>ADcall.soft hp ha hk⟩
end
theorem ZsQ {Z:Nat→Prop} {κ:Nat→Slot} {w:World} {x x':List AV} (hm:x.mapM (frz [] 0 12)=some x'):∀{pre:List AV} {us:List Value},Rs Z w κ (pre++x) us→Rs Z w κ (pre++x') us
 |[],us,h=>ZF (fun a b c h1 h2=>ZjV 12 a b c h1 h2) hm h
 |a::pre,us,h=>by
  cases h with
  |cons h1 h2=>exact .cons h1 (ZsQ hm h2)
theorem Zvz {Z:Nat→Prop} {κ:Nat→Slot} {w:World} {id ver:Nat} {pre x x':List AV} (hm:x.mapM (frz [] 0 12)=some x') (h:ZaF Z w κ id (.cells ver (pre++x))):ZaF Z w κ id (.cells ver (pre++x')):=by
 obtain⟨ob,sz,h1,h2⟩:=h
 refine⟨ob,sz,h1,?_⟩
 cases ob with
 |none=>
  simp only at h2⊢
  obtain⟨rfl,rfl⟩:=List.append_eq_nil_iff.1 h2
  simp at hm
  subst hm
  rfl
 |some b=>
  obtain⟨c,E,us,h3,h4,h5,h6,h7⟩:=h2
  exact⟨c,E,us,h3,h4,h5,h6,ZsQ hm h7⟩
theorem Wk.softEnd {n:Nat} {s:Zb} (id ver:Nat) (pre:List AV) {x x':List AV} (hx:s.h[id]? =some (.cells ver (pre++x))) (hm:x.mapM (frz [] 0 12)=some x'):Wk n s ⟨s.N,s.T,s.h.set id (.cells ver (pre++x'))⟩:=
 Wk.blk id _ hx fun _ _ _ hb=>Zvz hm hb
end Go.Cx
set_option linter.unusedVariables false
set_option linter.unusedSimpArgs false
namespace Go.Cx
variable {P:Program} {n:Nat}
instance {t:Bool}:Nw (t=true) (t=true):=⟨id⟩
instance {t:Bool}:Nw (¬t=true) (t=false):=⟨fun h=>by simpa using h⟩
instance (priority:=low) {p:Prop}:Nw p True:=⟨fun _=>trivial⟩
instance (priority:=low) {G A B:Prop} {t:Bool} [h:TstB G t A B]:Tst G (t=true) A B:=
 ⟨fun h1 h2=>h.go (fun a _=>h1 a (eq_true a)) (fun a _=>h2 (by rw[a];decide) (by rw[a];decide))⟩
theorem Tp {G p A B q:Prop} [h:Tst G p A B] [a:Nw p q] (k:p→p=True→q→A) (hp:p:=by first|with_reducible assumption|omega):G:=h.go (fun g e=>k g e (a.nw g)) fun g _=>absurd hp g
theorem Tn {G p A B q:Prop} [h:Tst G p A B] [a:Nw (¬p) q] (k:¬p→p=False→q→B) (hp:¬p:=by first|with_reducible assumption|omega):G:=h.go (fun g _=>absurd g hp) fun g e=>k g e (a.nw g)
theorem T2 {G p A B q q':Prop} [h:Tst G p A B] [a:Nw p q] [b:Nw (¬p) q'] (k1:p→p=True→q→A) (k2:¬p→p=False→q'→B):G:=h.go (fun g e=>k1 g e (a.nw g)) fun g e=>k2 g e (b.nw g)
section
variable {G:Prop} {f:FuncId} {cap args args':List AV} {v:AV} {h:Za} {K:AV→Za→Prop}
theorem Pg [i:Pc G P f cap args h K] (hp:Zd P f args' v) (k:K v h) (ha:args++cap=args':=by first|rfl|(simp<;>fail)|(simp[s_]<;>fail)):G:=i.go hp ha k
theorem Sg [i:Sc G P f cap args h K] (hp:Zd P f args' v) (k:K v h) (ha:(args++cap).mapM (frz [] 0 12)=some args':=by first|(simp<;>fail)|(simp[s_]<;>fail)):G:=i.go hp ha k
theorem Lg [i:Lc G P f cap args h K] (hp:Zd P f args' v) (k:K v h) (hm:Zdf v=true:=by rfl)
  (ha:(args++cap).mapM (frz h 0 12)=some args':=by first|(simp<;>fail)|(simp[s_]<;>fail)|(simp;rw[Zap (by simp) (by simp<;>omega)];simp<;>fail)|(simp;rw[Zap (by simp) (by simp<;>omega)];simp[s_]<;>fail)):G:=i.go hp hm ha k
theorem Gg (D:List Nat) (hp:Zd P f args' v) (k:K v (kill D h))
  (ha:fzDs h D 12 (args++cap)=some args':=by first|(simp<;>fail)|(simp[s_]<;>fail)|(simp;rw[Zfy (by simp) (by simp<;>omega)];simp<;>fail)|(simp;rw[Zfy (by simp) (by simp<;>omega)];simp[s_]<;>fail)):AInv P (.fn f cap) args h K:=AInv.give D hp ha k
end
theorem Ip {α:Type} {c:Prop} [Decidable c] {a b:α} (h:c:=by first|omega|(simp only[maxLen];omega)):(if c then a else b)=a:=if_pos h
theorem In {α:Type} {c:Prop} [Decidable c] {a b:α} (h:¬c:=by first|omega|(simp only[maxLen];omega)):(if c then a else b)=b:=if_neg h
theorem Fz {h:Za} {f ver m k:Nat} {cs:List AV} (hc:cs.all neat=true:=by simp) (hl:cs.length=m*k:=by simp<;>omega):ZfR h (f+1) ver 0 m k (some (.cells ver cs))=some (.sl false m cs):=Zap hc hl
theorem Gz {h:Za} {D:List Nat} {f ver m k:Nat} {cs:List AV} (hc:cs.all neat=true:=by simp) (hl:cs.length=m*k:=by simp<;>omega):ZuQ h D (f+1) ver 0 m k (some (.cells ver cs))=some (.sl false m cs):=Zfy hc hl
class Mix (P:Program):Prop where
 m:P.follows .mixedOrders=true
theorem Dg [i:Mix P] (id m:Nat) (D:List Nat) (cc:CC) {ops:Array Oper} {Q:Exit→Zb→Prop} {s:Zb} (h:AD P (fun _=>false) D cc ops (AOps P (fun _=>false) ops (Q .normal) (ops.toList.drop m)) 0 (ops.toList.take m) s)
  (hok:ZnR (fun _=>false) cc m ops=true:=by kernel_rfl) (hcc:(cc.all fun p=>match p.2 with| .r id=>D.contains id|_=>true)=true:=by rfl):AW P n (.region id ops true) Q s:=
 AW.draw i.m (fun _=>false) D cc m hok h hcc
theorem Pm {f:FuncId} {fn:Func} {c:Code} {rs:List ResultVar} {N:Nat} {args:List AV} {v:AV} (hf:P.funcs[f]? =some fn) (hx:args.all fits=true→AX P (fun _=>false) 0 c (Zfu P rs 0 (fun v' _=>v'=v)) ⟨N,Zbj args,[]⟩)
  (hb : fn.body = some c := by exact rfl) (hrs : fn.results.toList = rs := by exact rfl) (hN : args.length + (fn.ntmps - args.length) = N := by exact rfl) (he1 : (fn.name == "runtime.NumGoroutine") = false := by kernel_rfl) (he2 : fn.body.isNone = false := by exact rfl) (ha : args.all neat = true := by simp) (hv : neat v = true := by simp) : Zd P f args v :=
 Zd.mk (fun _=>false) hf hb hrs hN (Ent.mk hf he1 he2) ha hv hx
theorem Wa {n N':Nat} {s:Zb} {h':Za} {l:List (Nat×AV)} (hN:s.N=N':=by exact rfl) (hh:s.h=h':=by simp) (hl:∀p∈l,s.T p.1=p.2:=by simp):Wk n s ⟨N',Cx.pat l,h'⟩:=Wk.at l hN hh hl
theorem Wc {n N':Nat} {s:Zb} {h':Za} {l:List (Nat×AV)} (hN:s.N=N':=by exact rfl) (hnm:n≤h'.length:=by simp) (hh:s.h.take h'.length=h':=by simp) (hc:h'.all (ABlk.refsLt h'.length)=true:=by simp) (hl:∀p∈l,s.T p.1=p.2∧refsLt h'.length p.2=true:=by simp):Wk n s ⟨N',Cx.pat l,h'⟩:=Wk.cutAt l hN hnm hh hc hl
theorem Wz {n:Nat} {s:Zb} {l:List (Nat×AV)} (hl:∀p∈l,s.T p.1=p.2:=by simp):Wk n s ⟨s.N,Cx.pat l,s.h⟩:=Wk.keep l hl
end Go.Cx
namespace Go.Cx
open Go.RowKit
variable {P:Program}
theorem Ext.of_below {Z:Nat→Prop} {κ:Nat→Slot} {w W:World} (b:Below w.heap.size w W):Ext Z κ w Z κ W:=⟨b.os,b.tape,b.output,b.size,fun k hk _=>b.block k hk,fun _ h=>h,fun _ h=> .inl h,fun _ h=> .inl h⟩
theorem Rel.later {Z:Nat→Prop} {κ:Nat→Slot} {w W:World} (r:Rel Z κ [] w) (b:Below w.heap.size w W):Rel Z κ [] W:=⟨fun b' hb=>Nat.lt_of_lt_of_le (r.zlt b' hb) b.size,r.za,r.hole,fun id x hx=>by simp at hx,r.inj⟩
theorem Zqn {Z:Nat→Prop} {κ:Nat→Slot} {w:World} (r:Rel Z κ [] w) (b:Nat):¬ZO κ b:=fun⟨id,ver,sz,hk⟩=>by rw[r.hole id (Nat.zero_le _)] at hk;cases hk
theorem Zd.raw {f:FuncId} {args:List AV} {v:AV} (hp:Zd P f args v) {n:Nat} {Z:Nat→Prop} {κ:Nat→Slot} {w W:World} {cargs:List Value} (r:Rel Z κ [] w) (hr:Rs Z w κ args cargs) (hb:Below w.heap.size w W):
  CallsIn Fence.wide n P f cargs.toArray W (fun e W'=>∃c Z' κ',e= .returned c∧R Z' W' κ' v c∧(∀b,Z' b→Z b∨W.heap.size≤b)∧Below W.heap.size W W'):=by
 refine callsIn_wide.2 ?_
 obtain⟨h1,h2,h3,h4⟩:=hp
 refine(h4 Z κ W cargs (r.later hb) (hr.ext r (Ext.of_below hb) (.refl _))).mono ?_
 rintro e W' ⟨v',h',Z',κ',c,⟨rfl,rfl⟩,rfl,r',hv,ex,st⟩
 have na:=Zqn (r.later hb)
 exact⟨c,Z',κ',rfl,hv,fun b hz=>by
  rcases ex.znew b hz with h|h|h
  ·exact .inl h
  ·exact absurd h (na b)
  ·exact .inr h,⟨ex.os,ex.tape,ex.output,ex.size,fun k hk=>ex.keep k hk (na k)⟩⟩
theorem Zow {Z:Nat→Prop} {w:World} {κ:Nat→Slot}:∀{xs:List Int} {us:List Value},Rs Z w κ (xs.map I) us→us=xs.map (.int .i64 ·)
 |[],_,.nil=>rfl
 |x::xs,_,h=>by
  rw[List.map_cons] at h
  cases h with
  |cons h1 h2=>
   cases h1 with
   |val _=>rw[Zow h2];rfl
theorem nums_inv {Z:Nat→Prop} {w:World} {κ:Nat→Slot} {xs:List Int} {c:Value} (h:R Z w κ (enc1 I xs) c):
  (xs=[]∧∃A cap,c= .slice A 0 cap)∨∃b off cap,c= .slice (some ⟨b,off,none⟩) xs.length cap∧Z b∧∀(j:Nat) (hj:j<xs.length),w.cell? ⟨b,off+j,none⟩=some (.int .i64 xs[j]):=by
 rcases R.sl_inv h with⟨h0,hcs,A,cap,rfl⟩|⟨h0,a,cap,us,rfl,hnc,hcm,hz,hat,hus⟩
 ·have:xs=[]:=List.eq_nil_of_length_eq_zero h0
  subst this
  exact .inl ⟨rfl,_,_,rfl⟩
 ·have hus:=Zow hus
  subst hus
  have hsp:a.spot=none:=ZkD (w:=w) (v:= .int .i64 xs[0]) (by
   have:=hat 0 (.int .i64 xs[0]) (by simp[h0])
   have e0:a.add 0=a:=by simp[Addr.add]
   rwa[e0] at this)
  obtain⟨b,off,sp⟩:=a
  simp only at hsp
  subst hsp
  refine .inr ⟨b,off,cap,rfl,hz,fun j hj=> ?_⟩
  have:=hat j (.int .i64 xs[j]) (by simp[hj])
  rwa[ZaM] at this
structure Zee (B:Nat) (W W':World):Prop where
 os:W'.os=W.os
 tape:W'.tape=W.tape
 output:W'.output=W.output
 size:W.heap.size≤W'.heap.size
 cells:∀(k:Nat) (o:Obj),k≠B→W.heap[k]? =some o→o.isCells=true→W'.heap[k]? =some o
theorem Zee.refl (B:Nat) (W:World):Zee B W W:=⟨rfl,rfl,rfl,Nat.le_refl _,fun _ _ _ h _=>h⟩
theorem Zee.trans {B:Nat} {A C D:World} (h:Zee B A C) (k:Zee B C D):Zee B A D:=
 ⟨k.os.trans h.os,k.tape.trans h.tape,k.output.trans h.output,Nat.le_trans h.size k.size,fun i o hi ho hc=>k.cells i o hi (h.cells i o hi ho hc) hc⟩
theorem Zee.put {B:Nat} (W:World) (l:Nat) (o o':Obj) (h:W.heap[l]? =some o) (hc:o.isCells=false):Zee B W (W.putObj l o'):=by
 obtain⟨g1,g2,g3,g4,g5⟩:=grownBy_putObj' W l o'
 refine⟨g1,g2,g3,g4,fun k x hk hx hxc=> ?_⟩
 have hlt:=(Array.getElem?_eq_some_iff.1 hx).1
 rw[g5 k hlt (fun e=>by injection e with e;subst e;rw[h] at hx;cases hx;rw[hc] at hxc;cases hxc)]
 exact hx
theorem Zee.cell {B:Nat} {W W':World} (h:Zee B W W') {k i:Nat} {v:Value} (hk:k≠B) (hc:W.cell? ⟨k,i,none⟩=some v):W'.cell? ⟨k,i,none⟩=some v:=by
 unfold World.cell? at hc⊢
 simp only at hc⊢
 cases ho:W.heap[k]? with
 |none=>rw[ho] at hc;simp at hc
 |some o=>
  cases o<;>rw[ho] at hc<;>simp at hc
  rw[h.cells k _ hk ho rfl]
  simpa using hc
end Go.Cx
namespace Go.Cx
open Go.ChangeShapes Go.WideShapes
variable {P:Program} {W:World}
theorem blk_pos {H:Type} (d:DataW H):1≤blk d:=by
 cases d with
 |lit l=>cases l<;>simp[blk]
 |slice e s=>simp[blk]
 |agg p=>simp[blk]
 |nil=>simp[blk]
 |ptr d=>simp[blk]
 |iface t d=>simp[blk]
 |map es=>simp[blk]
 |held h=>simp[blk]
theorem Opn.b1 {t:TypeId} {A:List AV→Prop} (h:Opn P W t A):OpnB P W t (fun as b=>A as∧1≤b):=fun H enc fuel cs x hx=>
 let⟨as,ha,hr⟩:=h H enc fuel cs x hx
 ⟨as,⟨ha,blk_pos _⟩,hr⟩
theorem ZoB {α:Type} (l:List α):(l.map fun _=>1).sum=l.length:=by induction l with|nil=>rfl|cons a l ih=>simp[ih];omega
theorem ZlF {α β:Type} (f:α→β):∀l:List α,(l.flatMap fun c=>[f c])=l.map f
 |[]=>rfl
 |a::l=>by rw[List.flatMap_cons,List.map_cons,ZlF f l];rfl
theorem Zja {α:Type} {enc:α→AV} {p:α→Prop} {wt:α→Nat} {t e:TypeId} (ht:ZV P t=some e) (hk:Zc P e=some 1) (he:OpnB P W e (fun as b=>∃c,as=[enc c]∧p c∧wt c≤b)):
  OpnB P W t (fun as b=>∃cs:List α,as=[.sl false cs.length (cs.map enc)]∧(∀c∈cs,p c)∧(cs.map wt).sum+1≤b):=
 (Zbl (enc:=fun c=>[enc c]) ht hk (by omega) he).mono fun as b ⟨cs,h1,h2,h3⟩=>⟨cs,by rw[h1,ZlF],h2,h3⟩
theorem Ztf {t e:TypeId} (ht:ZV P t=some e) (hk:Zc P e=some 1) (hi:P.underlying e=some (.int .i64)):
  OpnB P W t (fun as b=>∃cs:List Int,as=[.sl false cs.length (cs.map I)]∧(∀c∈cs,inI c)∧cs.length+1≤b):=
 (Zja (enc:=I) (p:=inI) (wt:=fun _=>1) ht hk ((Zt hi).b1.mono fun as b ⟨⟨n,h1,h2⟩,h3⟩=>⟨n,h1,h2,h3⟩)).mono fun as b ⟨cs,h1,h2,h3⟩=>⟨cs,h1,h2,by rwa[ZoB] at h3⟩
theorem ZlG {t e:TypeId} (ht:ZV P t=some e) (hk:Zc P e=some 1) (hi:P.underlying e=some .string):
  OpnB P W t (fun as b=>∃cs:List ByteArray,as=[.sl false cs.length (cs.map S)]∧(∀c∈cs,c.size≤maxLen)∧cs.length+1≤b):=
 (Zja (enc:=S) (p:=fun c=>c.size≤maxLen) (wt:=fun _=>1) ht hk ((ZdE hi).b1.mono fun as b ⟨⟨n,h1,h2⟩,h3⟩=>⟨n,h1,h2,h3⟩)).mono fun as b ⟨cs,h1,h2,h3⟩=>⟨cs,h1,h2,by rwa[ZoB] at h3⟩
theorem ZoC {α:Type} {f:α→Nat}:∀{l:List α} {a:α},a∈l→f a≤(l.map f).sum
 |b::l,a,h=>by
  rw[List.map_cons,List.sum_cons]
  rcases List.mem_cons.1 h with rfl|h
  ·omega
  ·have:=ZoC (f:=f) h;omega
theorem ZlH {α:Type} {f:α→Nat} (hf:∀a,1≤f a):∀l:List α,l.length≤(l.map f).sum
 |[]=>by simp
 |a::l=>by have:=ZlH hf l;have:=hf a;simp only[List.length_cons,List.map_cons,List.sum_cons];omega
end Go.Cx
