import Derived.Test.YtgpkaoombhobmaaGreatZW1
import Derived.RangeFuncBox
import Derived.RangeFuncLeaves
import Derived.Shelf.Abstract
import Derived.WalkKit
import Derived.OwnWalkIn
import Derived.TacticsInMore
import Derived.LoopNIn
import Derived.LoopIn
import Derived.Maps.AppendAt
import Derived.Test.YtgpkaoombhobmaaGreatZP1
import Derived.Test.YtgpkaoombhobmaaGreatZP2
set_option linter.unusedVariables false
set_option linter.unusedSimpArgs false
namespace Go.Proofs.YtgpkaoombhobmaaGreat
open Go.Cx Tab
set_option maxHeartbeats 400000
set_option maxRecDepth 40000
theorem cloneE_ok (l:List EntryR) (hl:l.length≤1000000):XCall Tryz.prog 341 [encL EntryR.enc l] [] (.own 0 0 0 l.length 2) [.cells 0 (l.flatMap EntryR.enc)]:=by
 refine XCall.mkE 2 (fun _=>false) Tryz.func341 rfl rfl rfl (Ent.mk Tryz.func341 (by kernel_rfl) rfl) (by simp) (by simp) (by simp) (by simp) (by simp) fun hfit=> ?_
 simp at hfit
 simp[Tryz.f341]
 rw[if_pos (by simp only[maxLen];omega)]
 simp
 intro h0
 subst h0
 simp
theorem Zto {l:List EntryR} (hr:Zaf l=true) {s:ByteArray} (hf:(findE l s).2=true):l.eraseIdx (plE l s)=outE l s:=by
 obtain⟨hp,e1,_⟩:=(Zgo hr s).2 hf
 generalize plE l s=q at*
 have hpw:=List.pairwise_iff_getElem.1 ((ZQ _).1 hr)
 have ha:(l.take q).filter (fun x=> !decide (x.name=s))=l.take q:=List.filter_eq_self.2 fun x hx=>by
  obtain⟨j,hj,rfl⟩:=List.getElem_of_mem hx
  rw[List.length_take] at hj
  have:=ZdP (hpw j q (by omega) hp (by omega))
  rw[e1] at this
  simpa using this
 have hb:(l.drop (q+1)).filter (fun x=> !decide (x.name=s))=l.drop (q+1):=List.filter_eq_self.2 fun x hx=>by
  obtain⟨j,hj,rfl⟩:=List.getElem_of_mem hx
  rw[List.length_drop] at hj
  have:=ZdP (hpw q (q+1+j) hp (by omega) (by omega))
  rw[e1] at this
  simpa using fun e=>this e.symm
 have e:l=l.take q++l[q]::l.drop (q+1):=by rw[←List.drop_eq_getElem_cons hp,List.take_append_drop]
 rw[List.eraseIdx_eq_take_drop_succ,outE]
 conv=>rhs;rw[e]
 rw[List.filter_append,List.filter_cons,ha,hb]
 simp[e1]
theorem ZvI (l:List EntryR) (s:ByteArray) (ino:Int) (hr:Zaf l=true) (hl:l.length≤100000):Zd Tryz.prog 338 [encL EntryR.enc l,S s,I ino] (.tup [encL EntryR.enc (enterE l s ino).1,I (enterE l s ino).2]):=by
 have h1:=ZjZ l s hr (by omega)
 have h2:=check_ok s
 simp only[enterE,ZmM]
 have hple:=plE_le l s
 generalize plE l s=q at*
 generalize(findE l s).2=is at*
 refine Pm Tryz.func338 fun hfit=> ?_
 simp[Tryz.f338]
 cases hn:nameOk s with
 |false=>
  have hc:checkS s=10:=by simp[checkS,hn]
  rw[hc] at h2
  have s_:=An @hn (@hc)
  try simp[s_]
  repeat' ((first|((first|refine Tp ?_|refine Tn ?_|refine T2 ?_ ?_)<;>intro h_ e_ n_)|refine Pg h1 ?_|refine Pg h2 ?_|rw[Ip]|rw[In]|rw[Fz]|rw[Gz]|fail)<;>first|simp[e_,n_,s_]|simp[s_]|skip)
 |true=>
  have hc:checkS s=0:=by simp[checkS,hn]
  rw[hc] at h2
  by_cases hi:ino<1
  ·have s_:=An @hn (An @hc (@hi))
   try simp[s_]
   repeat' ((first|((first|refine Tp ?_|refine Tn ?_|refine T2 ?_ ?_)<;>intro h_ e_ n_)|refine Pg h1 ?_|refine Pg h2 ?_|rw[Ip]|rw[In]|rw[Fz]|rw[Gz]|fail)<;>first|simp[e_,n_,s_]|simp[s_]|skip)
  cases is with
  |true=>
   have s_:=An @hn (An @hc (@hi))
   try simp[s_]
   repeat' ((first|((first|refine Tp ?_|refine Tn ?_|refine T2 ?_ ?_)<;>intro h_ e_ n_)|refine Pg h1 ?_|refine Pg h2 ?_|rw[Ip]|rw[In]|rw[Fz]|rw[Gz]|fail)<;>first|simp[e_,n_,s_]|simp[s_]|skip)
  |false=>
   by_cases h6:256≤l.length
   ·have h6':(256:Int)≤l.length:=by omega
    have s_:=An @hn (An @hc (An @hi (An @h6 (@h6'))))
    try simp[s_]
    repeat' ((first|((first|refine Tp ?_|refine Tn ?_|refine T2 ?_ ?_)<;>intro h_ e_ n_)|refine Pg h1 ?_|refine Pg h2 ?_|rw[Ip]|rw[In]|rw[Fz]|rw[Gz]|fail)<;>first|simp[e_,n_,s_]|simp[s_]|skip)
   ·have h6':¬(256:Int)≤l.length:=by omega
    have hins:=ZqC l q ⟨s,ino⟩ hple (by omega)
    simp only[EntryR.enc] at hins
    have s_:=An @hn (An @hc (An @hi (An @h6 (An @h6' (@EntryR.enc.eq_1)))))
    try simp[s_]
    repeat' ((first|((first|refine Tp ?_|refine Tn ?_|refine T2 ?_ ?_)<;>intro h_ e_ n_)|(refine AInv.fresh [] (cloneE_ok l (by omega)) (by simp) (by simp) ?_;simp)|(refine AInv.fresh [0] hins (by simp) (by simp) ?_;simp)|refine Pg h1 ?_|refine Pg h2 ?_|rw[Ip]|rw[In]|rw[Fz]|rw[Gz]|fail)<;>first|simp[e_,n_,s_]|simp[s_]|skip)
theorem ZoH (l:List EntryR) (s:ByteArray) (hr:Zaf l=true) (hl:l.length≤100000):Zd Tryz.prog 324 [encL EntryR.enc l,S s] (.tup [encL EntryR.enc (leaveE l s).1,I (leaveE l s).2.1,I (leaveE l s).2.2]):=by
 have h1:=ZjZ l s hr (by omega)
 have h2:=(Zgo hr s).2
 have h3:= @Zto l hr s
 simp only[leaveE]
 cases hf:(findE l s).2 with
 |false=>
  rw[hf] at h1
  refine Pm Tryz.func324 fun hfit=> ?_
  simp[Tryz.f324]
  try simp
  repeat' ((first|((first|refine Tp ?_|refine Tn ?_|refine T2 ?_ ?_)<;>intro h_ e_ n_)|refine Pg h1 ?_|refine Dg 4 14 [] [] ?_|rw[Ip]|rw[In]|rw[Fz]|rw[Gz]|fail)<;>first|simp[e_,n_]|simp|skip)
 |true=>
  rw[hf] at h1
  obtain⟨hp,e1,e2⟩:=h2 hf
  have h3:=h3 hf
  rw[e2,←h3]
  generalize plE l s=q at*
  have hcut:=ZqD l q hp (by omega)
  have hw:IntKind.i64.wrap ((q:Int)+1)=((q+1:Nat):Int):=by rw[Zf (by omega) (by omega)];omega
  refine Pm Tryz.func324 fun hfit=> ?_
  simp[Tryz.f324]
  have s_:=An @hp (An @hw (@EntryR.enc.eq_1))
  try simp[s_]
  repeat' ((first|((first|refine Tp ?_|refine Tn ?_|refine T2 ?_ ?_)<;>intro h_ e_ n_)|refine Pg h1 ?_|refine Dg 4 14 [] [(1,.e),(5,.e),(10,.t)] ?_|rw[Ip]|rw[In]|rw[Fz]|rw[Gz]|fail)<;>first|simp[e_,n_,s_]|simp[s_]|skip)
  refine ADcall.fresh [] (cloneE_ok l (by omega)) (by simp) (by simp) ?_
  simp[hw]
  refine ADcall.fresh [0] hcut (by simp) (by simp) ?_
  simp[hp,EntryR.enc]
  rw[Zap (by simp) (by simp[List.length_eraseIdx,hp])]
  simp[List.length_eraseIdx,hp]
end Go.Proofs.YtgpkaoombhobmaaGreat
namespace Go.Proofs.YtgpkaoombhobmaaGreat
open Go.RowKit Go.Shelf
attribute [local go_sem] Oper.semAt_some
abbrev PE:Type:=ByteArray×Int
def ZeA (f:Nat→PE) (k:Nat):List PE:=(List.range k).map f
theorem Zjd (f:Nat→PE) (k:Nat):ZeA f (k+1)=ZeA f k++[f k]:=by simp[ZeA,List.range_succ]
theorem ZlK (f:Nat→PE) (k:Nat):(ZeA f k).length=k:=by simp[ZeA]
set_option maxRecDepth 100000 in
set_option maxHeartbeats 2000000 in
theorem ZvJ (F:Fence) (n:Nat) (hf:F.fn 334) (hro:F.round=none) (hn:1≤n) (l Bs n₀ b off len cap:Nat) (zs:List PE) (hlen:len≤1000000) (hb:b<n₀) (hW0:n₀≤0+n₀) (J Jx:List PE→World→Prop)
  (W:World) (hJ:AbidesFrom W.heap.size J) (hn₀:n₀≤W.heap.size)
  (hY:∀pre x W,J pre W→pre.length<len→YieldAt F (n -1) Tryz.prog l #[.string x.1] W fun e W'=>
   (e= .returned (.bool true)∧J (pre++[x]) W'∧Below n₀ W W')∨(e= .returned (.bool false)∧Jx (pre++[x]) W'))
  (hBs:W.cell? ⟨Bs,0,none⟩=some (.slice (some ⟨b,off,none⟩) len cap)) (hc0:∀j,j<len→W.cell? ⟨b,off+j*2,none⟩=some (.string (zs[j]?.getD (.empty,0)).1)) (hc1:∀j,j<len→W.cell? ⟨b,off+j*2+1,none⟩=some (.int .i64 (zs[j]?.getD (.empty,0)).2)) (h0:J [] W):
  CallsIn F n Tryz.prog 334 #[.func (.yield l) #[] #[],.pointer (some ⟨Bs,0,none⟩)] W fun e W'=>(∃v,e= .returned v)∧
   ((∃ys,ys=ZeA (fun j=>zs[j]?.getD (.empty,0)) len∧J ys W')∨(∃pre,(∃k,k≤len∧pre=ZeA (fun j=>zs[j]?.getD (.empty,0)) k)∧Jx pre W')):=by
 refine callsIn_of_wp Tryz.func334 rfl hf ?_ hro
 simp only[Tryz.ntmps334,List.size_toArray,List.length_cons,List.length_nil,Nat.reduceAdd,Nat.reduceSub,Array.replicate_succ,Array.replicate_zero,List.push_toArray,List.append_toArray,List.nil_append,List.cons_append]
 gi_wp2
 gi_loopw [7] (fun i wr=>∃k:Nat,k≤len∧i= .int .i64 k∧J (ZeA (fun j=>zs[j]?.getD (.empty,0)) k) wr∧Below n₀ W wr)
  (fun i _=>len -(intOf i).toNat)
 case atStart=>exact⟨0,Nat.zero_le _,rfl,h0,Below.refl _ _⟩
 case round=>
  obtain⟨k,hk,rfl,hJs,hnx⟩:=hrel
  by_cases hlt:k<len
  ·have hcx0:wr.cell? ⟨b,off+k*2,none⟩=some (.string (zs[k]?.getD (.empty,0)).1):=(hnx.cell (p:=⟨b,off+k*2,none⟩) hb).trans (hc0 k hlt)
   have hcx1:wr.cell? ⟨b,off+k*2+1,none⟩=some (.int .i64 (zs[k]?.getD (.empty,0)).2):=(hnx.cell (p:=⟨b,off+k*2+1,none⟩) hb).trans (hc1 k hlt)
   have hJ2:=hJ _ wr (wr.alloc (.cells #[.string (zs[k]?.getD (.empty,0)).1,.int .i64 (zs[k]?.getD (.empty,0)).2] 141)) none hJs (World.grownBy_alloc wr _ none) (fun r e=>by cases e)
   have hsz:n₀≤wr.heap.size:=Nat.le_trans hn₀ hnx.size
   have hB2:=(Below.refl n₀ wr).alloc hsz (.cells #[.string (zs[k]?.getD (.empty,0)).1,.int .i64 (zs[k]?.getD (.empty,0)).2] 141)
   obtain⟨fn,tmps,assign,body,hy,hR⟩:=hY _ (zs[k]?.getD (.empty,0)) _ hJ2 (by rw[ZlK];exact hlt)
   gi_wp2
   refine hR.mono ?_
   rintro e W3 (⟨rfl,hJ3,hk3⟩|⟨rfl,hJx3⟩)
   ·gi_wp2
    go_roundw
    case rel=>exact⟨k+1,by omega,by simp,by rw[Zjd];exact hJ3,hnx.trans (hB2.trans hk3)⟩
    case measure=>simp[intOf];omega
   ·gi_wp2
    refine bodyPost_ret (results_none rfl _ _ _) rfl ?_
    exact⟨⟨_,rfl⟩,.inr ⟨_,⟨k+1,by omega,(Zjd _ _).symm⟩,hJx3⟩⟩
  ·obtain rfl:k=len:=by omega
   gi_wp2
   go_end0
   exact⟨⟨_,rfl⟩,.inl ⟨_,rfl,hJs⟩⟩
set_option maxRecDepth 100000 in
set_option maxHeartbeats 1000000 in
theorem ZlL (F:Fence) (n:Nat) (hf:F.fn 334) (hro:F.round=none) (l Bs:Nat) (A:Option Addr) (cap:Nat) (J:List PE→World→Prop) (W:World) (hBs:W.cell? ⟨Bs,0,none⟩=some (.slice A 0 cap)) (h0:J [] W):
  CallsIn F n Tryz.prog 334 #[.func (.yield l) #[] #[],.pointer (some ⟨Bs,0,none⟩)] W fun e W'=>(∃v,e= .returned v)∧J [] W':=by
 refine callsIn_of_wp Tryz.func334 rfl hf ?_ hro
 simp only[Tryz.ntmps334,List.size_toArray,List.length_cons,List.length_nil,Nat.reduceAdd,Nat.reduceSub,Array.replicate_succ,Array.replicate_zero,List.push_toArray,List.append_toArray,List.nil_append,List.cons_append]
 gi_wp2
 gi_loopw [7] (fun i wr=>i= .int .i64 0∧J [] wr) (fun _ _=>0)
 case atStart=>exact⟨rfl,h0⟩
 case round=>
  obtain⟨rfl,hJs⟩:=hrel
  gi_wp2
  go_end0
  exact⟨⟨_,rfl⟩,hJs⟩
set_option maxHeartbeats 1000000 in
theorem told_in (F:Fence) (n:Nat) (hf:F.fn 314) (hro:F.round=none) (a:Option Addr) (len cap:Nat) (w:World):
  CallsIn F n Tryz.prog 314 #[.slice a len cap] w fun e w'=>e= .returned (.func (.func 334) #[] #[.pointer (some ⟨w.heap.size,0,none⟩)])∧w'=w.alloc (.cells #[.slice a len cap] 97):=by
 refine callsIn_of_wp Tryz.func314 rfl hf ?_ hro
 simp only[Tryz.ntmps314,List.size_toArray,List.length_cons,List.length_nil,Nat.reduceAdd,Nat.reduceSub,Array.replicate_succ,Array.replicate_zero,List.push_toArray,List.append_toArray,List.nil_append,List.cons_append]
 gi_wp2
 go_ret
 exact⟨rfl,rfl⟩
theorem Ztp (zs:List PE):ZeA (fun j=>zs[j]?.getD (.empty,0)) zs.length=zs:=by
 apply List.ext_getElem
 ·simp[ZeA]
 ·intro i h1 h2
  simp[ZeA,h2]
theorem ZqE (zs:List PE) {k:Nat} (hk:k≤zs.length):ZeA (fun j=>zs[j]?.getD (.empty,0)) k=zs.take k:=by
 apply List.ext_getElem
 ·simp[ZeA,hk]
 ·intro i h1 h2
  have:i<zs.length:=by simp[ZeA] at h1;omega
  simp[ZeA,this]
def Zje (n₀:Nat) (W:World) (sv:Value) (zs:List PE):Prop:=
 (∃A cap,sv= .slice A 0 cap∧zs=[])∨∃b off cap,sv= .slice (some ⟨b,off,none⟩) zs.length cap∧b<n₀∧(∀j,j<zs.length→W.cell? ⟨b,off+j*2,none⟩=some (.string (zs[j]?.getD (.empty,0)).1))∧∀j,j<zs.length→W.cell? ⟨b,off+j*2+1,none⟩=some (.int .i64 (zs[j]?.getD (.empty,0)).2)
theorem Zje.below {n₀:Nat} {A B:World} (h:Below n₀ A B) {sv:Value} {zs:List PE}:Zje n₀ A sv zs→Zje n₀ B sv zs
 | .inl e=> .inl e
 | .inr ⟨b,off,cap,e,hb,hc,hd⟩=> .inr ⟨b,off,cap,e,hb,fun j hj=>(h.cell (p:=⟨b,off+j*2,none⟩) hb).trans (hc j hj),fun j hj=>(h.cell (p:=⟨b,off+j*2+1,none⟩) hb).trans (hd j hj)⟩
theorem ZqF (F:Fence) (n:Nat) (hf:F.fn 334) (hro:F.round=none) (hn:1≤n) (Bs n₀:Nat) (sv:Value) (zs:List PE) (hlen:zs.length≤1000000) (w:World) (hBs:Bs<w.heap.size) (hn₀:n₀≤w.heap.size)
  (hc:w.cell? ⟨Bs,0,none⟩=some sv) (hI:Zje n₀ w sv zs):
  SeqStopsK F n Tryz.prog 334 #[.pointer (some ⟨Bs,0,none⟩)] (fun x:PE=> #[Value.string x.1]) (Below n₀) (fun ys=>ys=zs) (fun pre=>pre<+:zs) zs.length w:=fun l J Jx W hW hJ _ hY h0=>by
 have hc':=(hW.cell (p:=⟨Bs,0,none⟩) hBs).trans hc
 rcases hI.below (hW.mono hn₀) with⟨A,cap,rfl,rfl⟩|⟨b,off,cap,rfl,hb,hcs,hds⟩
 ·exact(ZlL F n hf hro l Bs A cap J W hc' h0).mono fun e W' ⟨he,hj⟩=>⟨he,.inl ⟨_,rfl,hj⟩⟩
 ·refine(ZvJ F n hf hro hn l Bs n₀ b off zs.length cap zs hlen hb (by omega) J Jx W hJ (Nat.le_trans hn₀ hW.size) hY hc' hcs hds h0).mono ?_
  rintro e W' ⟨he,⟨ys,rfl,hj⟩|⟨pre,⟨k,hk,rfl⟩,hj⟩⟩
  ·exact⟨he,.inl ⟨_,Ztp zs,hj⟩⟩
  ·exact⟨he,.inr ⟨_,by rw[ZqE zs hk];exact List.take_prefix _ _,hj⟩⟩
theorem infoS:(Tryz.prog.info? 9).map (fun i=>(i.zero,i.size,i.bytes))=some (some (.string .empty),1,16):=by kernel_rfl
set_option maxRecDepth 100000 in
set_option maxHeartbeats 2000000 in
theorem ZvK (F:Fence) (n:Nat) (h3:F.fn 275) (h4:F.fn 314) (h5:F.fn 334) (hro:F.round=none) (hn:3≤n) (A:Option Addr) (cap:Nat) (zs:List PE) (hlen:zs.length≤1000000) (w:World) (hL:Zje w.heap.size w (.slice A zs.length cap) zs):
  CallsIn F n Tryz.prog 275 #[.slice A zs.length cap] w fun e W'=>∃v,e= .returned v∧W'.ownsRow w.heap.size 9 1 v zs.length (zs.map fun x=>Value.string x.1)∧Below w.heap.size w W':=by
 have h1:1≤n:=by omega
 obtain⟨i0,hi,hz0,hz1,hz2⟩:=info_parts infoS
 refine callsIn_of_wp_marks Tryz.func275 rfl h3 ?_ hro
 simp only[Tryz.ntmps275,List.size_toArray,List.length_cons,List.length_nil,Nat.reduceAdd,Nat.reduceSub,Array.replicate_succ,Array.replicate_zero,List.push_toArray,List.append_toArray,List.nil_append,List.cons_append]
 gi_wp2_with (gi_at_call 314;refine(told_in F (n -1) h4 hro _ _ _ _).mono ?_;rintro e w' ⟨rfl,rfl⟩)
 have bO:=Boxed.new w 39 (.slice none 0 0)
 have bN:=Boxed.new (w.alloc (.cells #[.slice none 0 0] 39)) 97 (.slice A zs.length cap)
 rw[World.size_alloc] at bN
 have hB0:Below w.heap.size w ((w.alloc (.cells #[.slice none 0 0] 39)).alloc (.cells #[.slice A zs.length cap] 97)):=((Below.refl _ w).alloc (Nat.le_refl _) _).alloc (by simp) _
 refine wpIn_rangeFunc_ownG hro h1 (gf:=334) (lb:= #[.pointer (some ⟨w.heap.size+1,0,none⟩)]) rfl h5 (enters_of Tryz.func334 (by kernel_rfl) rfl)
  (ZqF F (n -1) h5 hro (by omega) (w.heap.size+1) w.heap.size (.slice A zs.length cap) zs hlen _ (by simp) (by simp;omega) bN.cell (hL.below hB0)) belowK_t (belowK_b (by simp;omega)) (Below.refl _ _) (fun _=>rfl)
  (fun pre W=>(∃v,Boxed W w.heap.size 39 v∧W.ownsRow w.heap.size 9 1 v pre.length (pre.map fun x=>Value.string x.1)∧True)∧Below w.heap.size w W)
  (fun _ _ _=>False)
  (OwnFrom.and (Own.from (holdsRow_own w.heap.size w.heap.size 39 9 1 (fun pre:List PE=>pre.length) (fun pre=>pre.map fun x=>Value.string x.1) (fun pre v=>True)) _) (ownFrom_below (Nat.le_refl _) (by simp;omega)))
  (fun _ _ _ _ _ hs _ _=>hs)
  ⟨⟨_,bO.alloc _,World.ownsRow_nil _ _ _ _,trivial⟩,hB0⟩
  (fun x=>{tmps:= #[.slice A zs.length cap,undef,.slice none 0 0,.pointer (some ⟨w.heap.size,0,none⟩),.string x.1,.slice A zs.length cap,.func (.func 334) #[] #[.pointer (some ⟨w.heap.size+1,0,none⟩)],.string x.1,undef,undef,undef,undef,undef],defers:=[]}) ?assign ?body ?done ?stop
 case assign=>
  intro l x W K hK
  gi_wp2
  exact hK
 case body=>
  rintro l pre x W ⟨⟨v,hv,hrow,_⟩,hB⟩ hlt
  have hc:=hv.cell
  have hmx:zs.length≤maxLen:=by simp only[maxLen];omega
  gi_wp2_with (gi_at_builtin;refine wpListIn_append_own _ rfl _ _ 39 rfl w.heap.size 9 i0 (.string .empty) 1 16 Tryz.underlying39 hi hz0 hz1 hz2 rfl (by decide) _ _ _ rfl (hrow.alloc _) ⟨W.heap.size,0,none⟩ 1 1 [.string x.1] rfl rfl (cell_one_new _ _ _) (by simp[Value.oneCell']) (by omega) (by omega) (by have:=hB.size;simp;omega) ?_;intro v' w1 hown' hgrow _;obtain⟨g',cap',rfl⟩:=ownsRow_succ hown';obtain⟨hv1,hv2,hr2,hk2,hb2⟩:=hv.appended (by decide) hrow hB.size (Nat.le_refl _) hown' hgrow;have hc1:=hv1.cell;have hf1:=hv1.frozen)
  exact⟨hk2.from _,hb2,⟨_,hv2,by simpa using hr2,trivial⟩,hB.trans hb2⟩
 case done=>
  rintro D ys W hD rfl ⟨⟨v,hv,hrow,_⟩,hB⟩ hK
  have hc:=hv.cell
  gi_wp2
  refine⟨by simp,.inl ⟨_,_,rfl,run_takeDeferred hK,?_⟩⟩
  exact⟨_,results_tmp rfl _ _ _,v,rfl,ownsRow_putObj hrow _ hK rfl,hB.trans (belowK_b (w:=w) (Nat.le_refl _) W D _ _ (by simp at hD;omega) hK rfl rfl)⟩
 case stop=>
  rintro D c pre W _ _ h _
  exact h.elim
open Go.Cx in
theorem Zjf {Z:Nat→Prop} {w:World} {κ:Nat→Slot}:∀{l:List EntryR} {us:List Value},Rs Z w κ (l.flatMap EntryR.enc) us→us=l.flatMap fun x=>[Value.string x.name,.int .i64 x.ino]
 |[],_,.nil=>rfl
 |x::l,_,h=>by
  simp only[List.flatMap_cons,EntryR.enc,List.cons_append,List.nil_append] at h⊢
  cases h with
  |cons h1 h2=>
   cases h2 with
   |cons h2 h3=>
    cases h1 with
    |val _=>
     cases h2 with
     |val _=>rw[Zjf h3]
open Go.Cx in
theorem Ztq {Z:Nat→Prop} {w:World} {κ:Nat→Slot}:∀l:List EntryR,Rs Z w κ ((l.map (·.name)).map S) (l.map fun x=>Value.string x.name)
 |[]=> .nil
 |x::l=> .cons (.val rfl) (Ztq l)
open Go.Cx in
theorem flat2 (l:List EntryR):∀(j:Nat),(h:j<l.length)→(l.flatMap fun x=>[Value.string x.name,.int .i64 x.ino])[j*2]? =some (.string l[j].name)∧(l.flatMap fun x=>[Value.string x.name,.int .i64 x.ino])[j*2+1]? =some (.int .i64 l[j].ino):=by
 induction l with
 |nil=>intro j h;simp at h
 |cons x l ih=>
  intro j h
  cases j with
  |zero=>simp
  |succ j=>
   have:=ih j (by simpa using h)
   simp only[List.flatMap_cons,List.getElem_cons_succ]
   rw[show(j+1)*2=2+j*2 by omega,show 2+j*2+1=2+(j*2+1) by omega]
   constructor
   ·rw[List.getElem?_append_right (by simp)];simpa using this.1
   ·rw[List.getElem?_append_right (by simp)];simpa using this.2
open Go.Cx in
theorem ZvL (l:List EntryR) (hl:l.length≤1000000):Zd Tryz.prog 275 [encL EntryR.enc l] (enc1 S (l.map (·.name))):=by
 refine⟨by simp,by simp,Ent.mk Tryz.func275 (by kernel_rfl) rfl,fun Z κ w cargs r hr=> ?_⟩
 cases hr with
 |cons h1 h2=>
 cases h2
 have na:∀b,¬ZO κ b:=fun b ⟨id,ver,sz,hk⟩=>by rw[r.hole id (Nat.zero_le _)] at hk;cases hk
 let zs:List PE:=l.map fun x=>(x.name,x.ino)
 have hzl:zs.length=l.length:=by simp[zs]
 have hzm:zs.map (fun x=>Value.string x.1)=l.map fun x=>Value.string x.name:=by simp[zs,Function.comp_def]
 have main:∀(A:Option Addr) (cap:Nat) (c:Value),c= .slice A l.length cap→Zje w.heap.size w c zs→Calls Tryz.prog 275 [c].toArray w (fun e w'=>∃v h' Z' κ' c,(v=enc1 S (l.map (·.name))∧h'=[])∧e= .returned c∧Rel Z' κ' h' w'∧R Z' w' κ' v c∧Ext Z κ w Z' κ' w'∧ZR 0 κ κ'):=by
  rintro A cap c rfl hE
  rw[←hzl] at hE⊢
  refine(callsIn_wide.1 (ZvK Fence.wide 3 trivial trivial trivial rfl (by omega) A cap zs (by omega) w hE)).mono ?_
  rintro e w' ⟨v,rfl,⟨hx1,hown⟩,b⟩
  have ex:∀Z',(∀b,Z b→Z' b)→(∀b,Z' b→Z b∨ZO κ b∨w.heap.size≤b)→Ext Z κ w Z' κ w':=fun Z' h1 h2=>⟨b.os,b.tape,b.output,b.size,fun k hk _=>b.block k hk,h1,h2,fun _ h=> .inl h⟩
  rcases hown with⟨rfl,h0⟩|⟨g,cap',cur,rfl,hg,hgb,hnc,hcm,hcs,htk⟩
  ·have hl0:l=[]:=List.eq_nil_of_length_eq_zero (by omega)
   subst hl0
   exact⟨_,_,Z,κ,_,⟨rfl,rfl⟩,rfl,⟨fun b' hb=>Nat.lt_of_lt_of_le (r.zlt b' hb) b.size,r.za,r.hole,fun id x hx=>by simp at hx,r.inj⟩,.sl0 (by simp) (by simp[maxLen]),ex Z (fun _ h=>h) (fun _ h=> .inl h),.refl _ _⟩
  ·have hglt:=(Array.getElem?_eq_some_iff.1 hgb).1
   rw[hzm] at htk hx1
   refine⟨_,_,fun b=>Z b∨b=g,κ,_,⟨rfl,rfl⟩,rfl,⟨fun b' hb=> ?_,fun b' _=>na b',r.hole,fun id x hx=>by simp at hx,r.inj⟩,?_,ex _ (fun _ h=> .inl h) (fun b' h=>h.imp id fun e=> .inr (by omega)),.refl _ _⟩
   ·rcases hb with hb|rfl
    ·exact Nat.lt_of_lt_of_le (r.zlt b' hb) b.size
    ·exact hglt
   ·have hlen1:(l.map (·.name)).length=zs.length:=by simp[hzl]
    simp only[enc1,hlen1]
    rcases Nat.eq_zero_or_pos zs.length with h0|h0
    ·have hl0:l=[]:=List.eq_nil_of_length_eq_zero (by omega)
     subst hl0
     exact .sl0 (by simp) hcm
    ·refine .sl h0 hnc (by simp) hcm (.inr rfl) (fun j u hj=> ?_) (Ztq l)
     rw[ZaM,Nat.zero_add]
     have hjl:j<l.length:=by have:=(List.getElem?_eq_some_iff.1 hj).1;simpa using this
     rw[←htk] at hj
     rw[List.getElem?_take_of_lt (by omega)] at hj
     simp only[World.cell?,hgb]
     simpa using hj
 rcases R.sl_inv h1 with⟨h0,hcs,A,cap,rfl⟩|⟨h0,a,cap,us,rfl,hnc,hcm,hz,hat,hus⟩
 ·have hl0:l=[]:=List.eq_nil_of_length_eq_zero h0
  subst hl0
  exact main A cap _ rfl (.inl ⟨A,cap,rfl,rfl⟩)
 ·have hus:=Zjf hus
  subst hus
  have hsp:a.spot=none:=ZkD (w:=w) (v:= .string l[0].name) (by
   have:=hat 0 (.string l[0].name) (by have:=(flat2 l 0 h0).1;simpa using this)
   have e0:a.add 0=a:=by simp[Addr.add]
   rwa[e0] at this)
  obtain⟨b,off,sp⟩:=a
  simp only at hsp
  subst hsp
  have hget:∀j (h:j<l.length),zs[j]?.getD (.empty,0)=(l[j].name,l[j].ino):=fun j h=>by simp[zs,h]
  refine main _ cap _ rfl (.inr ⟨b,off,cap,by rw[hzl],r.zlt b hz,fun j hj=> ?_,fun j hj=> ?_⟩)
  ·have hj':j<l.length:=by omega
   have:=hat (j*2) (.string l[j].name) (flat2 l j hj').1
   rw[ZaM] at this
   rw[hget j hj'];exact this
  ·have hj':j<l.length:=by omega
   have:=hat (j*2+1) (.int .i64 l[j].ino) (flat2 l j hj').2
   rw[ZaM] at this
   rw[hget j hj'];exact this
end Go.Proofs.YtgpkaoombhobmaaGreat
namespace Go.Proofs.YtgpkaoombhobmaaGreat
open Go.Cx Tab
set_option maxHeartbeats 400000
set_option maxRecDepth 40000
theorem ZlM {n:Int} (h:0≤n):Zgb Tryz.prog 3 341 (I n)=some (FL n.toNat):=ZmG tui3 (by kernel_rfl) h
theorem ZlN {n:Nat} (h:n<9007199254740992):Zgb Tryz.prog 341 3 (FL n)=some (I n):=ZmH (by kernel_rfl) tui3 h
theorem ZvM (a m:Nat) (h:a+m≤1099511627776):Zd Tryz.prog 311 [I a,I m] (.tup [CL a m,I 0]):=by
 have h1:¬(1099511627776:Int)<a:=by omega
 have h2:¬(1099511627776:Int) -a<m:=by omega
 have h3:IntKind.i64.wrap (1099511627776 -(a:Int))=1099511627776 -(a:Int):=Zf (by omega) (by omega)
 have e1:=ZlM (n:=(a:Int)) (by omega)
 have e2:=ZlM (n:=(m:Int)) (by omega)
 simp only[Int.toNat_natCast] at e1 e2
 refine Pm Tryz.func311 fun hfit=> ?_
 simp[Tryz.f311]
 have s_:=An @h1 (An @h2 (An @h3 (An @e1 (@e2))))
 try simp[s_]
 repeat' ((first|((first|refine Tp ?_|refine Tn ?_|refine T2 ?_ ?_)<;>intro h_ e_ n_)|rw[Ip]|rw[In]|rw[Fz]|rw[Gz]|fail)<;>first|simp[e_,n_,s_]|simp[s_]|skip)
theorem Ztr (a m:Int) (ha:inI a) (h:a<0∨1099511627776<a∨m<0∨1099511627776 -a<m):Zd Tryz.prog 311 [I a,I m] (.tup [CL 0 0,I 1]):=by
 have hz:CL 0 0=AV.val (Value.complex .f64 0 0):=rfl
 refine Pm Tryz.func311 fun hfit=> ?_
 simp[Tryz.f311,FB_zero]
 by_cases h1:a<0
 ·have s_:=An @h1 (@FB_zero)
  try simp[s_]
  repeat' ((first|((first|refine Tp ?_|refine Tn ?_|refine T2 ?_ ?_)<;>intro h_ e_ n_)|rw[Ip]|rw[In]|rw[Fz]|rw[Gz]|fail)<;>first|simp[e_,n_,s_]|simp[s_]|skip)
 by_cases h2:1099511627776<a
 ·have s_:=An @h1 (An @h2 (@FB_zero))
  try simp[s_]
  repeat' ((first|((first|refine Tp ?_|refine Tn ?_|refine T2 ?_ ?_)<;>intro h_ e_ n_)|rw[Ip]|rw[In]|rw[Fz]|rw[Gz]|fail)<;>first|simp[e_,n_,s_]|simp[s_]|skip)
 by_cases h3:m<0
 ·have s_:=An @h1 (An @h2 (An @h3 (@FB_zero)))
  try simp[s_]
  repeat' ((first|((first|refine Tp ?_|refine Tn ?_|refine T2 ?_ ?_)<;>intro h_ e_ n_)|rw[Ip]|rw[In]|rw[Fz]|rw[Gz]|fail)<;>first|simp[e_,n_,s_]|simp[s_]|skip)
 have h4:IntKind.i64.wrap (1099511627776 -a)=1099511627776 -a:=Zf (by omega) (by omega)
 have h5:1099511627776 -a<m:=by omega
 have s_:=An @h1 (An @h2 (An @h3 (An @h4 (An @h5 (@FB_zero)))))
 try simp[s_]
 repeat' ((first|((first|refine Tp ?_|refine Tn ?_|refine T2 ?_ ?_)<;>intro h_ e_ n_)|rw[Ip]|rw[In]|rw[Fz]|rw[Gz]|fail)<;>first|simp[e_,n_,s_]|simp[s_]|skip)
theorem end_ok (a m:Nat) (h:a+m≤1099511627776):Zd Tryz.prog 333 [CL a m] (FL (a+m)):=by
 have e:∀t ox oy,abin Tryz.prog .add t ox oy (FL a) (FL m)=some (FL (a+m)):=fun t ox oy=>Zoo t ox oy (by omega)
 refine Pm Tryz.func333 fun hfit=> ?_
 simp[Tryz.f333]
 have s_:=e
 try simp[s_]
 repeat' ((first|((first|refine Tp ?_|refine Tn ?_|refine T2 ?_ ?_)<;>intro h_ e_ n_)|rw[Ip]|rw[In]|rw[Fz]|rw[Gz]|fail)<;>first|simp[e_,n_,s_]|simp[s_]|skip)
theorem ZvN (a m:Nat) (h:a+m≤1099511627776):Zd Tryz.prog 313 [CL a m] (.tup [I a,I m]):=by
 have e1:=ZlN (n:=a) (by omega)
 have e2:=ZlN (n:=m) (by omega)
 refine Pm Tryz.func313 fun hfit=> ?_
 simp[Tryz.f313]
 have s_:=An @e1 (@e2)
 try simp[s_]
 repeat' ((first|((first|refine Tp ?_|refine Tn ?_|refine T2 ?_ ?_)<;>intro h_ e_ n_)|rw[Ip]|rw[In]|rw[Fz]|rw[Gz]|fail)<;>first|simp[e_,n_,s_]|simp[s_]|skip)
theorem both_ok (a m b k:Nat) (h:a+m≤1099511627776) (h':b+k≤1099511627776):Zd Tryz.prog 312 [CL a m,CL b k] (if min (a+m) (b+k)≤max a b then .tup [CL 0 0,B false] else .tup [CL (max a b) (min (a+m) (b+k) -max a b),B true]):=by
 have h1:=end_ok a m h
 have h2:=end_ok b k h'
 have e1:∀(h:Za) t t' ty cs,ZaC Tryz.prog h .max [t,t'] ty cs [FL a,FL b]=some (FL (max a b),h):=fun h t t' ty cs=>ZmE h t t' ty cs a b (by omega) (by omega)
 have e2:∀(h:Za) t t' ty cs,ZaC Tryz.prog h .min [t,t'] ty cs [FL (a+m),FL (b+k)]=some (FL (min (a+m) (b+k)),h):=fun h t t' ty cs=>ZmF h t t' ty cs (a+m) (b+k) (by omega) (by omega)
 have e3:∀t ox oy,abin Tryz.prog .geq t ox oy (FL (max a b)) (FL (min (a+m) (b+k)))=some (B (decide (min (a+m) (b+k)≤max a b))):=fun t ox oy=>Zvl t ox oy (by omega) (by omega)
 by_cases hq:min (a+m) (b+k)≤max a b
 ·rw[if_pos hq]
  refine Pm Tryz.func312 fun hfit=> ?_
  simp[Tryz.f312,FB_zero]
  have s_:=An @e1 (An @e2 (An @e3 (An @hq (@FB_zero))))
  try simp[s_]
  repeat' ((first|((first|refine Tp ?_|refine Tn ?_|refine T2 ?_ ?_)<;>intro h_ e_ n_)|refine Pg h1 ?_|refine Pg h2 ?_|rw[Ip]|rw[In]|rw[Fz]|rw[Gz]|fail)<;>first|simp[e_,n_,s_]|simp[s_]|skip)
 ·have e4:∀t ox oy,abin Tryz.prog .sub t ox oy (FL (min (a+m) (b+k))) (FL (max a b))=some (FL (min (a+m) (b+k) -max a b)):=fun t ox oy=>Zvj t ox oy (by omega) (by omega)
  rw[if_neg hq]
  refine Pm Tryz.func312 fun hfit=> ?_
  simp[Tryz.f312]
  have s_:=An @e1 (An @e2 (An @e3 (An @e4 (@hq))))
  try simp[s_]
  repeat' ((first|((first|refine Tp ?_|refine Tn ?_|refine T2 ?_ ?_)<;>intro h_ e_ n_)|refine Pg h1 ?_|refine Pg h2 ?_|rw[Ip]|rw[In]|rw[Fz]|rw[Gz]|fail)<;>first|simp[e_,n_,s_]|simp[s_]|skip)
theorem part_T (s:List UInt8) (a b:Nat):(T s).extract a b=T ((s.take b).drop a):=by rw[T_ext]
theorem read_ok (s:List UInt8) (at_ many:Int) (h1:inI at_) (h2:inI many) (hs:s.length≤1099511627776):Zd Tryz.prog 271 [S (T s),I at_,I many] (.tup [S (T (readT s at_ many).1),I (readT s at_ many).2]):=by
 by_cases hb:at_<0∨1099511627776<at_∨many<0∨1099511627776 -at_<many
 ·have c1:=Ztr at_ many h1 hb
  simp only[readT,if_pos hb]
  refine Pm Tryz.func271 fun hfit=> ?_
  simp[Tryz.f271]
  try simp
  repeat' ((first|((first|refine Tp ?_|refine Tn ?_|refine T2 ?_ ?_)<;>intro h_ e_ n_)|refine Pg c1 ?_|rw[Ip]|rw[In]|rw[Fz]|rw[Gz]|fail)<;>first|simp[e_,n_]|simp|skip)
 have hb2:0≤at_∧0≤many∧at_+many≤1099511627776:=by omega
 obtain⟨b1,b2,b3⟩:=hb2
 obtain⟨a,rfl⟩:=Int.eq_ofNat_of_zero_le b1
 obtain⟨m,rfl⟩:=Int.eq_ofNat_of_zero_le b2
 have c1:=ZvM a m (by omega)
 have c2:=ZvM 0 s.length (by omega)
 have c3:=both_ok a m 0 s.length (by omega) (by omega)
 simp only[readT,if_neg hb,Int.toNat_natCast]
 by_cases hq:min (a+m) (0+s.length)≤max a 0
 ·rw[if_pos hq] at c3
  have e:(s.drop a).take m=[]:=by
   rcases Nat.lt_or_ge a s.length with q|q
   ·have:m=0:=by omega
    subst this;simp
   ·rw[List.drop_eq_nil_of_le q];simp
  rw[e]
  refine Pm Tryz.func271 fun hfit=> ?_
  simp[Tryz.f271]
  have s_:=T_size
  try simp[s_]
  repeat' ((first|((first|refine Tp ?_|refine Tn ?_|refine T2 ?_ ?_)<;>intro h_ e_ n_)|refine Pg c1 ?_|refine Pg c2 ?_|refine Pg c3 ?_|rw[Ip]|rw[In]|rw[Fz]|rw[Gz]|fail)<;>first|simp[e_,n_,s_]|simp[s_]|skip)
 ·rw[if_neg hq] at c3
  have c4:=ZvN (max a 0) (min (a+m) (0+s.length) -max a 0) (by omega)
  have e1:max a 0=a:=by omega
  rw[e1] at c3 c4
  generalize hn:min (a+m) (0+s.length) -a=n at*
  have hn1:a+n≤s.length:=by omega
  have hw:IntKind.i64.wrap ((a:Int)+n)=((a+n:Nat):Int):=by rw[Zf (by omega) (by omega)];omega
  have e:(T s).extract a (a+n)=T ((s.drop a).take m):=by
   rw[part_T]
   congr 1
   rw[List.drop_take,Nat.add_sub_cancel_left]
   rcases Nat.lt_or_ge (a+m) s.length with q|q
   ·have:n=m:=by omega
    rw[this]
   ·rw[List.take_of_length_le (by rw[List.length_drop];omega),List.take_of_length_le (by rw[List.length_drop];omega)]
  have hn2:(a:Int)≤((a+n:Nat):Int):=by omega
  have hn3:((a+n:Nat):Int)≤s.length:=by omega
  refine Pm Tryz.func271 fun hfit=> ?_
  simp[Tryz.f271]
  have e':(T s).extract a ((a:Int)+(n:Int)).toNat=T ((s.drop a).take m):=by rw[←e];congr 1
  have s_:=An @T_size (An @hw (An @e (An @e' (An @hn1 (An @hn2 (@hn3))))))
  try simp[s_]
  repeat' ((first|((first|refine Tp ?_|refine Tn ?_|refine T2 ?_ ?_)<;>intro h_ e_ n_)|refine Pg c1 ?_|refine Pg c2 ?_|refine Pg c3 ?_|refine Pg c4 ?_|rw[Ip]|rw[In]|rw[Fz]|rw[Gz]|fail)<;>first|simp[e_,n_,s_]|simp[s_]|skip)
theorem ZdY (s:List UInt8):ZgI (T s)=s.map yb:=rfl
theorem rep_yb (n:Nat):List.replicate n (AV.val (Value.int IntKind.u8 0))=(List.replicate n (0:UInt8)).map yb:=by
 rw[List.map_replicate];rfl
def ZhK (l:List UInt8) (k:Nat) (t:List UInt8):List UInt8:=l.take k++t++l.drop (k+t.length)
theorem Zts (l:List UInt8) (k:Nat) (t:List UInt8):putAt (l.map yb) k (t.map yb)=(ZhK l k t).map yb:=by simp[putAt,ZhK]
theorem cut_ok (s:List UInt8) (many:Int) (h2:inI many) (hs:s.length≤1099511627776):Zd Tryz.prog 283 [S (T s),I many] (.tup [S (T (cutT s many).1),I (cutT s many).2]):=by
 by_cases hb:many<0∨1099511627776<many
 ·have c1:=Ztr many 0 h2 (by omega)
  simp only[cutT,if_pos hb]
  refine Pm Tryz.func283 fun hfit=> ?_
  simp[Tryz.f283]
  try simp
  repeat' ((first|((first|refine Tp ?_|refine Tn ?_|refine T2 ?_ ?_)<;>intro h_ e_ n_)|refine Pg c1 ?_|rw[Ip]|rw[In]|rw[Fz]|rw[Gz]|fail)<;>first|simp[e_,n_]|simp|skip)
 obtain⟨m,rfl⟩:=Int.eq_ofNat_of_zero_le (show 0≤many by omega)
 have c1:=ZvM m 0 (by omega)
 by_cases hc:(4096:Int)<m
 ·simp only[cutT,if_neg hb,if_pos hc]
  have hc2:4096<m:=by omega
  refine Pm Tryz.func283 fun hfit=> ?_
  simp[Tryz.f283]
  have s_:=An @hc (@hc2)
  try simp[s_]
  repeat' ((first|((first|refine Tp ?_|refine Tn ?_|refine T2 ?_ ?_)<;>intro h_ e_ n_)|refine Pg c1 ?_|rw[Ip]|rw[In]|rw[Fz]|rw[Gz]|fail)<;>first|simp[e_,n_,s_]|simp[s_]|skip)
 simp only[cutT,if_neg hb,if_neg hc,Int.toNat_natCast]
 have hc2:¬4096<m:=by omega
 have hp:putAt (List.replicate m (AV.val (Value.int IntKind.u8 0))) 0 ((s.map yb).take (min s.length m))=(s.take m++List.replicate (m -s.length) 0).map yb:=by
  rw[rep_yb,←List.map_take,Zts]
  congr 1
  simp only[ZhK,List.take_zero,List.nil_append,Nat.zero_add,List.drop_replicate,List.length_take]
  rcases Nat.le_total s.length m with q|q
  ·rw[Nat.min_eq_left q,List.take_of_length_le (Nat.le_refl _),List.take_of_length_le q,Nat.min_self]
  ·rw[Nat.min_eq_right q]
   congr 2
   omega
 refine Pm Tryz.func283 fun hfit=> ?_
 simp[Tryz.f283]
 have s_:=An @hc (@hc2)
 try simp[s_]
 repeat' ((first|((first|refine Tp ?_|refine Tn ?_|refine T2 ?_ ?_)<;>intro h_ e_ n_)|refine Pg c1 ?_|rw[Ip]|rw[In]|rw[Fz]|rw[Gz]|fail)<;>first|simp[e_,n_,s_]|simp[s_]|skip)
 rw[if_pos ⟨by rw[ZdY,List.length_map];rfl,fun x hx=>List.all_eq_true.1 (Zmk s) x (List.mem_of_mem_take hx)⟩,ZdY,T_size,hp]
 have hXl:(s.take m++List.replicate (m -s.length) 0).length=m:=by simp;omega
 generalize s.take m++List.replicate (m -s.length) 0=X at*
 have hXt:List.take m (X.map yb)=X.map yb:=List.take_of_length_le (by simp[hXl])
 simp[hXl,hXt]
theorem over_eq (s:List UInt8) (k:Nat) (t:List UInt8) (ht:t≠[]):ZhK (ZhK (List.replicate (max s.length (k+t.length)) 0) 0 s) k t=overL s k t:=by
 have h1:ZhK (List.replicate (max s.length (k+t.length)) 0) 0 s=s++List.replicate (k+t.length -s.length) 0:=by
  simp only[ZhK,List.take_zero,List.nil_append,Nat.zero_add,List.drop_replicate]
  congr 2;omega
 rw[h1,ZhK,overL]
 congr 1
 ·congr 1
  have e:s++List.replicate (k+t.length -s.length) 0=(s++List.replicate (k -s.length) 0)++List.replicate (k+t.length -s.length -(k -s.length)) 0:=by
   rw[List.append_assoc,List.replicate_append_replicate];congr 2;omega
  rw[e,List.take_append_of_le_length (by simp;omega)]
 ·rw[List.drop_append]
  rw[show List.drop (k+t.length -s.length) (List.replicate (k+t.length -s.length) (0:UInt8))=[] by simp]
  simp
theorem Ztt (s:List UInt8) (k:Nat) (t:List UInt8):(overL s k t).length=max s.length (k+t.length):=by
 simp only[overL,List.length_append,List.length_take,List.length_replicate,List.length_drop];omega
theorem ZvO (s:List UInt8) (at_:Int) (t:List UInt8) (h1:inI at_) (hs:s.length≤1000000) (ht:t.length≤9223372036854775807):Zd Tryz.prog 280 [S (T s),I at_,S (T t)] (.tup [S (T (writeT s at_ t).1),I (writeT s at_ t).2]):=by
 by_cases hb:at_<0∨1099511627776 -t.length<at_
 ·have c1:=Ztr at_ t.length h1 (by omega)
  simp only[writeT,if_pos hb]
  refine Pm Tryz.func280 fun hfit=> ?_
  simp[Tryz.f280]
  have s_:=T_size
  try simp[s_]
  repeat' ((first|((first|refine Tp ?_|refine Tn ?_|refine T2 ?_ ?_)<;>intro h_ e_ n_)|refine Pg c1 ?_|rw[Ip]|rw[In]|rw[Fz]|rw[Gz]|fail)<;>first|simp[e_,n_,s_]|simp[s_]|skip)
 obtain⟨a,rfl⟩:=Int.eq_ofNat_of_zero_le (show 0≤at_ by omega)
 have c1:=ZvM a t.length (by omega)
 have e1:∀tt ox oy,abin Tryz.prog .add tt ox oy (FL a) (FL t.length)=some (FL (a+t.length)):=fun tt ox oy=>Zoo tt ox oy (by omega)
 have e2:∀tt ox oy,abin Tryz.prog .gtr tt ox oy (FL (a+t.length)) (.val (.float .f64 4661225614328463360))=some (B (decide (4096<a+t.length))):=fun tt ox oy=>by
  have:FB 4096=4661225614328463360:=by rw[Zsv (by decide) (by decide)];decide
  rw[←this]
  exact Zvk tt ox oy (by omega) (by decide)
 simp only[writeT,if_neg hb,Int.toNat_natCast]
 by_cases hc:(4096:Int)<a+t.length
 ·have hc2:4096<a+t.length:=by omega
  rw[if_pos hc]
  refine Pm Tryz.func280 fun hfit=> ?_
  simp[Tryz.f280]
  have s_:=An @hc (An @hc2 (An @e1 (An @e2 (@T_size))))
  try simp[s_]
  repeat' ((first|((first|refine Tp ?_|refine Tn ?_|refine T2 ?_ ?_)<;>intro h_ e_ n_)|refine Pg c1 ?_|rw[Ip]|rw[In]|rw[Fz]|rw[Gz]|fail)<;>first|simp[e_,n_,s_]|simp[s_]|skip)
 rw[if_neg hc]
 have hc2:¬4096<a+t.length:=by omega
 by_cases hn:t=[]
 ·subst hn
  have hn2:T ([]:List UInt8)=(⟨#[]⟩:ByteArray):=rfl
  rw[if_pos rfl]
  simp only[List.length_nil,Nat.add_zero] at*
  refine Pm Tryz.func280 fun hfit=> ?_
  simp[Tryz.f280]
  have s_:=An @hc (An @hc2 (An @e1 (An @e2 (An @hn2 (@T_size)))))
  try simp[s_]
  repeat' ((first|((first|refine Tp ?_|refine Tn ?_|refine T2 ?_ ?_)<;>intro h_ e_ n_)|refine Pg c1 ?_|rw[Ip]|rw[In]|rw[Fz]|rw[Gz]|fail)<;>first|simp[e_,n_,s_]|simp[s_]|skip)
 rw[if_neg hn]
 have hn2:¬T t=(⟨#[]⟩:ByteArray):=fun h=>hn (by have:=congrArg bs h;rw[bs_T] at this;exact this)
 have hw:IntKind.i64.wrap ((a:Int)+t.length)=(a:Int)+t.length:=by rw[Zf (by omega) (by omega)]
 have hov:=over_eq s a t hn
 have hol:=Ztt s a t
 have hl1:(ZhK (List.replicate (max s.length (a+t.length)) 0) 0 s).length=max s.length (a+t.length):=by simp[ZhK];omega
 generalize hM:max s.length (a+t.length)=M at*
 have hmx:max (s.length:Int) ((a:Int)+t.length)=(M:Int):=by omega
 have hM1:s.length≤M:=by omega
 have hM2:a+t.length≤M:=by omega
 generalize hX:ZhK (List.replicate M 0) 0 s=X at*
 generalize overL s a t=Y at*
 have hp:putAt (List.replicate M (AV.val (Value.int IntKind.u8 0))) 0 ((s.map yb).take (min s.length M))=X.map yb:=by
  rw[rep_yb,Nat.min_eq_left hM1,List.take_of_length_le (by simp),Zts,hX]
 have hp2:putAt (X.map yb) a ((t.map yb).take (min t.length (M -a)))=Y.map yb:=by
  rw[Nat.min_eq_left (by omega),List.take_of_length_le (by simp),Zts,hov]
 refine Pm Tryz.func280 fun hfit=> ?_
 simp[Tryz.f280]
 have s_:=An @hc (An @hc2 (An @e1 (An @e2 (An @hn2 (An @hw (An @hmx (@T_size)))))))
 try simp[s_]
 repeat' ((first|((first|refine Tp ?_|refine Tn ?_|refine T2 ?_ ?_)<;>intro h_ e_ n_)|refine Pg c1 ?_|rw[Ip]|rw[In]|rw[Fz]|rw[Gz]|fail)<;>first|simp[e_,n_,s_]|simp[s_]|skip)
 rw[if_pos ⟨by rw[ZdY,List.length_map],fun x hx=>List.all_eq_true.1 (Zmk s) x (List.mem_of_mem_take hx)⟩,ZdY,hp]
 have ha:a≤M:=by omega
 have ha2:(a:Int)≤M:=by omega
 simp[ha,ha2,hl1]
 have s_:=An @ha (An @ha2 (An @hl1 (@T_size)))
 try simp[s_]
 repeat' ((first|((first|refine Tp ?_|refine Tn ?_|refine T2 ?_ ?_)<;>intro h_ e_ n_)|rw[Ip]|rw[In]|rw[Fz]|rw[Gz]|fail)<;>first|simp[e_,n_,s_]|simp[s_]|skip)
 rw[if_pos ⟨by rw[ZdY,List.length_map],fun x hx=>List.all_eq_true.1 (Zmk t) x (List.mem_of_mem_take hx)⟩,ZdY,hp2]
 have hXt:List.take M (Y.map yb)=Y.map yb:=List.take_of_length_le (by simp[hol])
 simp[hol,hXt]
theorem Zbu (l:List Int) (hl:l.length≤1000000):Zd Tryz.prog 310 [enc1 I l] (I (firstS l)):=by
 refine Pm Tryz.func310 fun hfit=> ?_
 simp[Tryz.f310]
 refine AW.loopG (lit:=fun _=>false) (fun i:Nat=>⟨15,pat [(5,enc1 I l),(6,I l.length),(7,I i)],[]⟩) (fun i=>l.length -i) (fun i=>i≤l.length∧firstS (l.drop i)=firstS l) 0 ?_ ?_ ?_
 ·exact Wa
 ·simp
 rintro i ⟨h1,h2⟩ A hA
 by_cases hi:i<l.length
 case neg=>
  rw[List.drop_eq_nil_of_le (by omega)] at h2
  have s_:=An @hi (An (Eq.symm (h2)) (An @firstS.eq_1 (@firstS.eq_2)))
  try simp[s_]
  repeat' ((first|((first|refine Tp ?_|refine Tn ?_|refine T2 ?_ ?_)<;>intro h_ e_ n_)|rw[Ip]|rw[In]|rw[Fz]|rw[Gz]|fail)<;>first|simp[e_,n_,s_]|simp[s_]|skip)
 rw[List.drop_eq_getElem_cons hi] at h2
 have hwi:=Zi hi (by simp only[maxLen];omega)
 by_cases hk:l[i]=0
 ·have h3:firstS (l.drop (i+1))=firstS l:=by rw[←h2];simp[firstS,hk]
  have s_:=An @hi (An @hwi (@hk))
  try simp[s_]
  repeat' ((first|((first|refine Tp ?_|refine Tn ?_|refine T2 ?_ ?_)<;>intro h_ e_ n_)|(exact hA (i+1) _ Wa ⟨hi,h3⟩ (by omega))|rw[Ip]|rw[In]|rw[Fz]|rw[Gz]|fail)<;>first|simp[e_,n_,s_]|simp[s_]|skip)
 ·have h3:firstS l=l[i]:=by rw[←h2];simp[firstS,hk]
  have s_:=An @hi (An @hwi (An @hk (@h3)))
  try simp[s_]
  repeat' ((first|((first|refine Tp ?_|refine Tn ?_|refine T2 ?_ ?_)<;>intro h_ e_ n_)|rw[Ip]|rw[In]|rw[Fz]|rw[Gz]|fail)<;>first|simp[e_,n_,s_]|simp[s_]|skip)
theorem Zdv (b:Bool) (e:Int):Zd Tryz.prog 318 [B b,I e] (I (unlessS b e)):=by
 refine Pm Tryz.func318 fun hfit=> ?_
 simp[Tryz.f318,unlessS]
 cases b<;>simp
theorem ZoI (d:NodeR) (s:ByteArray) (hr:Zaf d.l=true) (hl:d.l.length≤1000000):Zd Tryz.prog 319 [encN d,S s] (B (findE d.l s).2):=by
 refine Pm Tryz.func319 fun hfit=> ?_
 simp[Tryz.f319]
 try simp
 repeat' ((first|((first|refine Tp ?_|refine Tn ?_|refine T2 ?_ ?_)<;>intro h_ e_ n_)|refine Pg (nfind_ok d.l s hr hl) ?_|rw[Ip]|rw[In]|rw[Fz]|rw[Gz]|fail)<;>first|simp[e_,n_]|simp|skip)
theorem zeroN_enc:NodeR.zero.enc=[I 0,I 0,I 0,S .empty,.sl false 0 []]:=rfl
theorem unl_t (e:Int):Zd Tryz.prog 318 [B true,I e] (I e):=Zdv true e
theorem unl_f (e:Int):Zd Tryz.prog 318 [B false,I e] (I 0):=Zdv false e
theorem over_ok (n old:NodeR):Zd Tryz.prog 322 [encN n,encN old] (I (overD n old)):=by
 have h4:∀a b c:Int,Zd Tryz.prog 310 [enc1 I [a,b,c]] (I (firstS [a,b,c])):=fun a b c=>Zbu [a,b,c] (by simp)
 have e8:Zd Tryz.prog 310 [enc1 I [8,0,0]] (I 8):=h4 8 0 0
 have e8':Zd Tryz.prog 310 [enc1 I [8,0,11]] (I 8):=h4 8 0 11
 have e9:Zd Tryz.prog 310 [enc1 I [0,9,0]] (I 9):=h4 0 9 0
 have e9':Zd Tryz.prog 310 [enc1 I [0,9,11]] (I 9):=h4 0 9 11
 have e0:Zd Tryz.prog 310 [enc1 I [0,0,0]] (I 0):=h4 0 0 0
 have e0':Zd Tryz.prog 310 [enc1 I [0,0,11]] (I 11):=h4 0 0 11
 by_cases q1:n.kind=2<;>by_cases q2:old.kind=2<;>by_cases q3:0<old.l.length
 all_goals
  refine Pm Tryz.func322 fun hfit=> ?_
  simp[Tryz.f322,overD,q1,q2,q3]
  have s_:=An @q1 (An @q2 (@q3))
  try simp[s_]
  repeat' ((first|((first|refine Tp ?_|refine Tn ?_|refine T2 ?_ ?_)<;>intro h_ e_ n_)|refine Pg (unl_t 8) ?_|refine Pg (unl_f 8) ?_|refine Pg (unl_t 9) ?_|refine Pg (unl_f 9) ?_|refine Pg (unl_t 11) ?_|refine Pg (unl_f 11) ?_|refine Lg e8 ?_|refine Sg e8 ?_|refine Lg e8' ?_|refine Sg e8' ?_|refine Lg e9 ?_|refine Sg e9 ?_|refine Lg e9' ?_|refine Sg e9' ?_|refine Lg e0 ?_|refine Sg e0 ?_|refine Lg e0' ?_|refine Sg e0' ?_|refine Dg 1 26 [] [] ?_|rw[Ip]|rw[In]|rw[Fz]|rw[Gz]|fail)<;>first|simp[e_,n_,s_]|simp[s_]|skip)
theorem ZlO (f:FSR) (d:Int) (h:f.l.length≤1000000):Zd Tryz.prog 274 [encF f,I d] (.tup [encN (dirD f d).1,I (dirD f d).2]):=by
 have h1:=find_ok f d h
 unfold dirD
 by_cases q1:(findB f.l d).2=false
 ·rw[if_pos q1]
  refine Pm Tryz.func274 fun hfit=> ?_
  simp[Tryz.f274]
  have s_:=An @q1 (@zeroN_enc)
  try simp[s_]
  repeat' ((first|((first|refine Tp ?_|refine Tn ?_|refine T2 ?_ ?_)<;>intro h_ e_ n_)|refine Pg h1 ?_|rw[Ip]|rw[In]|rw[Fz]|rw[Gz]|fail)<;>first|simp[e_,n_,s_]|simp[s_]|skip)
 by_cases q2:(findB f.l d).1.kind≠2
 ·rw[if_neg q1,if_pos q2]
  refine Pm Tryz.func274 fun hfit=> ?_
  simp[Tryz.f274]
  have s_:=An @q1 (An @q2 (@zeroN_enc))
  try simp[s_]
  repeat' ((first|((first|refine Tp ?_|refine Tn ?_|refine T2 ?_ ?_)<;>intro h_ e_ n_)|refine Pg h1 ?_|rw[Ip]|rw[In]|rw[Fz]|rw[Gz]|fail)<;>first|simp[e_,n_,s_]|simp[s_]|skip)
 ·rw[if_neg q1,if_neg q2]
  refine Pm Tryz.func274 fun hfit=> ?_
  simp[Tryz.f274]
  have s_:=An @q1 (@q2)
  try simp[s_]
  repeat' ((first|((first|refine Tp ?_|refine Tn ?_|refine T2 ?_ ?_)<;>intro h_ e_ n_)|refine Pg h1 ?_|rw[Ip]|rw[In]|rw[Fz]|rw[Gz]|fail)<;>first|simp[e_,n_,s_]|simp[s_]|skip)
theorem setF_enc (f k:FSR):setMany f.enc 0 k.enc=k.enc:=rfl
theorem ZbD (f:FSR) (d:Int) (s:ByteArray) (h:Zg f):Zd Tryz.prog 265 [encF f,I d,S s] (.tup [encN (lookD f d s).1,I (lookD f d s).2]):=by
 have hlen:=h.len
 have h1:=ZlO f d (by omega)
 have h2:=check_ok s
 have hrow:=h.dirRow d
 have h3:=nfind_ok (dirD f d).1.l s hrow.rise (by have:=hrow.len;omega)
 have h4:=find_ok f (findE (dirD f d).1.l s).1 (by omega)
 have h5:=Zbu [(dirD f d).2,checkS s] (by simp)
 unfold lookD
 generalize dirD f d=D at*
 generalize findE D.1.l s=E at*
 generalize findB f.l E.1=N at*
 obtain⟨D1,De⟩:=D
 obtain⟨E1,E2⟩:=E
 obtain⟨N1,N2⟩:=N
 simp only at*
 by_cases q1:De=0
 case neg=>
  rw[if_pos q1]
  refine Pm Tryz.func265 fun hfit=> ?_
  simp[Tryz.f265]
  have s_:=An @q1 (An @firstS.eq_1 (An @firstS.eq_2 (@zeroN_enc)))
  try simp[s_]
  repeat' ((first|((first|refine Tp ?_|refine Tn ?_|refine T2 ?_ ?_)<;>intro h_ e_ n_)|refine Pg h1 ?_|refine Pg h2 ?_|refine Lg h5 ?_|refine Sg h5 ?_|rw[Ip]|rw[In]|rw[Fz]|rw[Gz]|fail)<;>first|simp[e_,n_,s_]|simp[s_]|skip)
 rw[if_neg (by simpa using q1)]
 by_cases q2:checkS s=0
 case neg=>
  rw[if_pos q2]
  refine Pm Tryz.func265 fun hfit=> ?_
  simp[Tryz.f265]
  have s_:=An @q1 (An @q2 (An @firstS.eq_1 (An @firstS.eq_2 (@zeroN_enc))))
  try simp[s_]
  repeat' ((first|((first|refine Tp ?_|refine Tn ?_|refine T2 ?_ ?_)<;>intro h_ e_ n_)|refine Pg h1 ?_|refine Pg h2 ?_|refine Lg h5 ?_|refine Sg h5 ?_|rw[Ip]|rw[In]|rw[Fz]|rw[Gz]|fail)<;>first|simp[e_,n_,s_]|simp[s_]|skip)
 rw[if_neg (by simpa using q2)]
 cases E2 with
 |false=>
  rw[if_pos rfl]
  refine Pm Tryz.func265 fun hfit=> ?_
  simp[Tryz.f265]
  have s_:=An @q1 (An @q2 (An @firstS.eq_1 (An @firstS.eq_2 (@zeroN_enc))))
  try simp[s_]
  repeat' ((first|((first|refine Tp ?_|refine Tn ?_|refine T2 ?_ ?_)<;>intro h_ e_ n_)|refine Pg h1 ?_|refine Pg h2 ?_|refine Lg h5 ?_|refine Sg h5 ?_|refine Pg h3 ?_|refine Pg h4 ?_|rw[Ip]|rw[In]|rw[Fz]|rw[Gz]|fail)<;>first|simp[e_,n_,s_]|simp[s_]|skip)
 |true=>
  rw[if_neg (by simp)]
  cases N2 with
  |false=>
   rw[if_pos rfl]
   refine Pm Tryz.func265 fun hfit=> ?_
   simp[Tryz.f265]
   have s_:=An @q1 (An @q2 (An @firstS.eq_1 (An @firstS.eq_2 (@zeroN_enc))))
   try simp[s_]
   repeat' ((first|((first|refine Tp ?_|refine Tn ?_|refine T2 ?_ ?_)<;>intro h_ e_ n_)|refine Pg h1 ?_|refine Pg h2 ?_|refine Lg h5 ?_|refine Sg h5 ?_|refine Pg h3 ?_|refine Pg h4 ?_|rw[Ip]|rw[In]|rw[Fz]|rw[Gz]|fail)<;>first|simp[e_,n_,s_]|simp[s_]|skip)
  |true=>
   rw[if_neg (by simp)]
   refine Pm Tryz.func265 fun hfit=> ?_
   simp[Tryz.f265]
   have s_:=An @q1 (An @q2 (An @firstS.eq_1 (An @firstS.eq_2 (@zeroN_enc))))
   try simp[s_]
   repeat' ((first|((first|refine Tp ?_|refine Tn ?_|refine T2 ?_ ?_)<;>intro h_ e_ n_)|refine Pg h1 ?_|refine Pg h2 ?_|refine Lg h5 ?_|refine Sg h5 ?_|refine Pg h3 ?_|refine Pg h4 ?_|rw[Ip]|rw[In]|rw[Fz]|rw[Gz]|fail)<;>first|simp[e_,n_,s_]|simp[s_]|skip)
theorem ZfK (f:FSR) (d:NodeR) (s:ByteArray) (ino:Int) (hr:RowE d.l) (hl:f.l.length≤100000) (hn:inI d.ino) (hm:d.ino≠9223372036854775807):Zd Tryz.prog 320 [encF f,encN d,S s,I ino] (encF (putB f {d with l:=(enterE d.l s ino).1})):=by
 have h1:=ZvI d.l s ino hr.rise (by have:=hr.len;omega)
 have h2:=Zez f {d with l:=(enterE d.l s ino).1} hl hn hm
 generalize enterE d.l s ino=E at*
 refine Pm Tryz.func320 fun hfit=> ?_
 simp[Tryz.f320]
 try simp
 repeat' ((first|((first|refine Tp ?_|refine Tn ?_|refine T2 ?_ ?_)<;>intro h_ e_ n_)|refine Pg h1 ?_|refine Pg h2 ?_|rw[Ip]|rw[In]|rw[Fz]|rw[Gz]|fail)<;>first|simp[e_,n_]|simp|skip)
theorem Zjg (f:FSR) (dir:Int) (s:ByteArray) (n:NodeR) (h:Zg f) (hb:f.next≤4611686018427387904) (hd:(findB f.l dir).2=true) (hn:n=(findB f.l n.ino).1) (hf:(findB f.l n.ino).2=true) (hne:n.ino≠dir):Zd Tryz.prog 323 [encF f,I dir,S s,encN n] (encF (withoutD f dir s n.ino)):=by
 have hlen:=h.len
 have h1:=find_ok f dir (by omega)
 have hrow:=h.row dir
 have h2:=ZoH (findB f.l dir).1.l s hrow.rise (by have:=hrow.len;omega)
 have hnum:=h.num dir
 have hnn:=h.num n.ino
 have hlk:=h.links n.ino
 rw[←hn] at hnn hlk
 have hs:=ZbQ h hd s
 have h3:=Zez f {(findB f.l dir).1 with l:=(leaveE (findB f.l dir).1.l s).1} (by omega) ⟨by simp only;omega,by simp only;omega⟩ (by simp only;omega)
 have h4:=tout_ok (leftD f dir s) n.ino (by have:=hs.len;omega)
 have h5:=Zez (leftD f dir s) {n with links:=n.links -1} (by have:=hs.len;omega) ⟨by simp only;omega,by simp only;omega⟩ (by simp only;omega)
 have hw:IntKind.i64.wrap (n.links -1)=n.links -1:=Zf (by omega) (by omega)
 rw[Zqa h hd s hne,←hn]
 have e:putB f {(findB f.l dir).1 with l:=(leaveE (findB f.l dir).1.l s).1}=leftD f dir s:=rfl
 rw[e] at h3
 generalize leftD f dir s=K at*
 generalize leaveE (findB f.l dir).1.l s=L at*
 generalize findB f.l dir=D at*
 by_cases q:n.links≤1
 ·rw[if_pos q]
  refine Pm Tryz.func323 fun hfit=> ?_
  simp[Tryz.f323]
  have s_:=An @q (@setF_enc)
  try simp[s_]
  repeat' ((first|((first|refine Tp ?_|refine Tn ?_|refine T2 ?_ ?_)<;>intro h_ e_ n_)|refine Pg h1 ?_|refine Pg h2 ?_|refine Pg h3 ?_|refine Pg h4 ?_|rw[Ip]|rw[In]|rw[Fz]|rw[Gz]|fail)<;>first|simp[e_,n_,s_]|simp[s_]|skip)
 ·rw[if_neg q]
  refine Pm Tryz.func323 fun hfit=> ?_
  simp[Tryz.f323]
  have s_:=An @q (An @hw (@setF_enc))
  try simp[s_]
  repeat' ((first|((first|refine Tp ?_|refine Tn ?_|refine T2 ?_ ?_)<;>intro h_ e_ n_)|refine Pg h1 ?_|refine Pg h2 ?_|refine Pg h3 ?_|refine Pg h5 ?_|rw[Ip]|rw[In]|rw[Fz]|rw[Gz]|fail)<;>first|simp[e_,n_,s_]|simp[s_]|skip)
theorem take_ok (f:FSR) (dir:Int) (s:ByteArray) (h:Zg f) (hb:f.next≤4611686018427387904) (hne:(lookD f dir s).2=0→(lookD f dir s).1.ino≠dir):Zd Tryz.prog 317 [encF f,I dir,S s] (.tup [encF (takeD f dir s).1,I (takeD f dir s).2]):=by
 have h1:=ZbD f dir s h
 unfold takeD
 by_cases q1:(lookD f dir s).2=0
 case neg=>
  rw[if_pos q1]
  have h5:=Zbu [(lookD f dir s).2,0] (by simp)
  have h6:=Zbu [(lookD f dir s).2,11] (by simp)
  by_cases q2:0<(lookD f dir s).1.l.length
  ·refine Pm Tryz.func317 fun hfit=> ?_
   simp[Tryz.f317]
   have s_:=An @q1 (An @q2 (An @firstS.eq_1 (@firstS.eq_2)))
   try simp[s_]
   repeat' ((first|((first|refine Tp ?_|refine Tn ?_|refine T2 ?_ ?_)<;>intro h_ e_ n_)|refine Pg h1 ?_|refine Pg (unl_t 11) ?_|refine Pg (unl_f 11) ?_|refine Lg h5 ?_|refine Sg h5 ?_|refine Lg h6 ?_|refine Sg h6 ?_|rw[Ip]|rw[In]|rw[Fz]|rw[Gz]|fail)<;>first|simp[e_,n_,s_]|simp[s_]|skip)
  ·refine Pm Tryz.func317 fun hfit=> ?_
   simp[Tryz.f317]
   have s_:=An @q1 (An @q2 (An @firstS.eq_1 (@firstS.eq_2)))
   try simp[s_]
   repeat' ((first|((first|refine Tp ?_|refine Tn ?_|refine T2 ?_ ?_)<;>intro h_ e_ n_)|refine Pg h1 ?_|refine Pg (unl_t 11) ?_|refine Pg (unl_f 11) ?_|refine Lg h5 ?_|refine Sg h5 ?_|refine Lg h6 ?_|refine Sg h6 ?_|rw[Ip]|rw[In]|rw[Fz]|rw[Gz]|fail)<;>first|simp[e_,n_,s_]|simp[s_]|skip)
 rw[if_neg (by simpa using q1)]
 obtain⟨g1,g2,g3,g4,g5⟩:=ZdR q1
 obtain⟨g6,g7,g8⟩:=ZaZ g1
 have hi:(findB f.l (lookD f dir s).1.ino)=((lookD f dir s).1,true):=findB_of h.rise (Zfd q1)
 have h2:=Zjg f dir s (lookD f dir s).1 h hb g6 (by rw[hi]) (by rw[hi]) (hne q1)
 have h5:=Zbu [0,0] (by simp)
 have h6:=Zbu [0,11] (by simp)
 generalize lookD f dir s=L at*
 by_cases q2:0<L.1.l.length
 ·rw[if_pos q2]
  refine Pm Tryz.func317 fun hfit=> ?_
  simp[Tryz.f317]
  have s_:=An @q1 (An @q2 (An @firstS.eq_1 (@firstS.eq_2)))
  try simp[s_]
  repeat' ((first|((first|refine Tp ?_|refine Tn ?_|refine T2 ?_ ?_)<;>intro h_ e_ n_)|refine Pg h1 ?_|refine Pg (unl_t 11) ?_|refine Pg (unl_f 11) ?_|refine Lg h5 ?_|refine Sg h5 ?_|refine Lg h6 ?_|refine Sg h6 ?_|rw[Ip]|rw[In]|rw[Fz]|rw[Gz]|fail)<;>first|simp[e_,n_,s_]|simp[s_]|skip)
 ·rw[if_neg q2]
  refine Pm Tryz.func317 fun hfit=> ?_
  simp[Tryz.f317]
  have s_:=An @q1 (An @q2 (An @firstS.eq_1 (@firstS.eq_2)))
  try simp[s_]
  repeat' ((first|((first|refine Tp ?_|refine Tn ?_|refine T2 ?_ ?_)<;>intro h_ e_ n_)|refine Pg h1 ?_|refine Pg (unl_t 11) ?_|refine Pg (unl_f 11) ?_|refine Lg h5 ?_|refine Sg h5 ?_|refine Lg h6 ?_|refine Sg h6 ?_|refine Pg h2 ?_|rw[Ip]|rw[In]|rw[Fz]|rw[Gz]|fail)<;>first|simp[e_,n_,s_]|simp[s_]|skip)
theorem add1_ok (s:ByteArray) (d:NodeR) (f:FSR) (n:NodeR) (hr:RowE d.l):Zd Tryz.prog 337 [.fp [S s],.fp d.enc,.fp f.enc,.fp n.enc] (I (mayD f d s n)):=by
 have h1:=check_ok s
 have h2:=ZoI d s hr.rise (by have:=hr.len;omega)
 have h3:=Ztk n
 have e:∀a b c:Int,Zd Tryz.prog 310 [enc1 I [checkS s,a,b,c]] (I (firstS [checkS s,a,b,c])):=fun a b c=>Zbu [checkS s,a,b,c] (by simp)
 unfold mayD
 generalize checkS s=k at*
 generalize(findE d.l s).2=th at*
 generalize nodeOk n=ok at*
 cases th<;>cases ok<;>by_cases q1:256≤f.l.length<;>by_cases q2:256≤d.l.length<;>by_cases q3:0<n.l.length
 all_goals
  refine Pm Tryz.func337 fun hfit=> ?_
  simp[Tryz.f337,unlessS,q1,q2,q3]
  have s_:=An @q1 (An @q2 (An @q3 (@FSR.enc.eq_1)))
  try simp[s_]
  repeat' ((first|((first|refine Tp ?_|refine Tn ?_|refine T2 ?_ ?_)<;>intro h_ e_ n_)|refine Pg h1 ?_|refine Pg h2 ?_|refine Pg h3 ?_|refine Pg (unl_t 7) ?_|refine Pg (unl_f 7) ?_|refine Pg (unl_t 12) ?_|refine Pg (unl_f 12) ?_|refine Pg (unl_t 1) ?_|refine Pg (unl_f 1) ?_|refine Lg (e 0 0 0) ?_|refine Sg (e 0 0 0) ?_|refine Lg (e 0 0 1) ?_|refine Sg (e 0 0 1) ?_|refine Lg (e 0 12 0) ?_|refine Sg (e 0 12 0) ?_|refine Lg (e 0 12 1) ?_|refine Sg (e 0 12 1) ?_|refine Lg (e 7 0 0) ?_|refine Sg (e 7 0 0) ?_|refine Lg (e 7 0 1) ?_|refine Sg (e 7 0 1) ?_|refine Lg (e 7 12 0) ?_|refine Sg (e 7 12 0) ?_|refine Lg (e 7 12 1) ?_|refine Sg (e 7 12 1) ?_|refine Dg 1 30 [] [] ?_|rw[Ip]|rw[In]|rw[Fz]|rw[Gz]|fail)<;>first|simp[e_,n_,s_]|simp[s_]|skip)
theorem newN_enc (f:FSR) (n:NodeR):(n.enc.set 0 (AV.val (.int .i64 f.next))).set 2 (AV.val (.int .i64 1))=(newN f n).enc:=rfl
theorem add_ok (f:FSR) (dir:Int) (s:ByteArray) (n:NodeR) (h:Zg f) (hb:f.next<4611686018427387904):Zd Tryz.prog 316 [encF f,I dir,S s,encN n] (.tup [encF (addD f dir s n).1,I (addD f dir s n).2]):=by
 have hlen:=h.len
 have hnx:=h.next
 have hrow:=h.dirRow dir
 have h1:=ZlO f dir (by omega)
 have h2:=add1_ok s (dirD f dir).1 f (newN f n) hrow
 have h3:=Zbu [(dirD f dir).2,mayD f (dirD f dir).1 s (newN f n)] (by simp)
 rw[ZmR]
 by_cases q:firstS [(dirD f dir).2,mayD f (dirD f dir).1 s (newN f n)]=0
 ·obtain⟨q1,q2⟩:=Zlj q
  obtain⟨g1,g2,g3⟩:=ZaZ q1
  have hs:=ZaJ h g1 g2 s f.next
  have hn:=h.num dir
  rw[g3] at hrow
  have h4:=ZfK f (findB f.l dir).1 s f.next hrow (by omega) ⟨by omega,by omega⟩ (by omega)
  have e:putB f {(findB f.l dir).1 with l:=(enterE (findB f.l dir).1.l s f.next).1}=enteredD f dir s f.next:=rfl
  rw[e] at h4
  have h5:=Zez (enteredD f dir s f.next) (newN f n) (by have:=hs.len;omega) (by simp only[newN];exact⟨by omega,by omega⟩) (by simp only[newN];omega)
  rw[if_pos q]
  rw[g3] at h1 h2 h3 q
  rw[q] at h3
  generalize enteredD f dir s f.next=K at*
  generalize mayD f (findB f.l dir).1 s (newN f n)=m at*
  generalize(dirD f dir).2=De at*
  subst q1
  refine Pm Tryz.func316 fun hfit=> ?_
  simp[Tryz.f316]
  have s_:=An @newN_enc (@FSR.enc.eq_1)
  try simp[s_]
  repeat' ((first|((first|refine Tp ?_|refine Tn ?_|refine T2 ?_ ?_)<;>intro h_ e_ n_)|refine Pg h1 ?_|refine Lg h2 ?_|refine Sg h2 ?_|refine Lg h3 ?_|refine Sg h3 ?_|refine Pg h4 ?_|refine Pg h5 ?_|refine Dg 7 8 [] [] ?_|rw[Ip]|rw[In]|rw[Fz]|rw[Gz]|fail)<;>first|simp[e_,n_,s_]|simp[s_]|skip)
 ·rw[if_neg q]
  generalize mayD f (dirD f dir).1 s (newN f n)=m at*
  generalize dirD f dir=D at*
  generalize firstS [D.2,m]=r at*
  refine Pm Tryz.func316 fun hfit=> ?_
  simp[Tryz.f316]
  have s_:=An @q (An @newN_enc (@FSR.enc.eq_1))
  try simp[s_]
  repeat' ((first|((first|refine Tp ?_|refine Tn ?_|refine T2 ?_ ?_)<;>intro h_ e_ n_)|refine Pg h1 ?_|refine Lg h2 ?_|refine Sg h2 ?_|refine Lg h3 ?_|refine Sg h3 ?_|refine Dg 7 8 [] [] ?_|rw[Ip]|rw[In]|rw[Fz]|rw[Gz]|fail)<;>first|simp[e_,n_,s_]|simp[s_]|skip)
theorem ZvP (f:FSR) (dir:Int) (s:ByteArray) (ino:Int) (h:Zg f) (hb:f.next<4611686018427387904):Zd Tryz.prog 292 [encF f,I dir,S s,I ino] (.tup [encF (giveD f dir s ino).1,I (giveD f dir s ino).2]):=by
 have hlen:=h.len
 have hrow:=h.dirRow dir
 have h1:=ZlO f dir (by omega)
 have h2:=find_ok f ino (by omega)
 have h3:=check_ok s
 have h4:=ZoI (dirD f dir).1 s hrow.rise (by have:=hrow.len;omega)
 have hlk:=h.links ino
 have hnn:=h.num ino
 have h0:=ZmS (f:=f) (dir:=dir) (s:=s) (ino:=ino)
 have hG:∀a b c d:Int,Zd Tryz.prog 310 [enc1 I [(dirD f dir).2,a,b,checkS s,c,d]] (I (firstS [(dirD f dir).2,a,b,checkS s,c,d])):=fun a b c d=>Zbu [(dirD f dir).2,a,b,checkS s,c,d] (by simp)
 have h5:=hG (unlessS (!(findB f.l ino).2) 6) (unlessS (decide ((findB f.l ino).1.kind=2)) 9) (unlessS (findE (dirD f dir).1.l s).2 7) (unlessS (decide (256≤(dirD f dir).1.l.length)||decide (64≤(findB f.l ino).1.links)) 12)
 have e5:giveE f dir s ino=firstS [(dirD f dir).2,unlessS (!(findB f.l ino).2) 6,unlessS (decide ((findB f.l ino).1.kind=2)) 9,checkS s,unlessS (findE (dirD f dir).1.l s).2 7,unlessS (decide (256≤(dirD f dir).1.l.length)||decide (64≤(findB f.l ino).1.links)) 12]:=rfl
 rw[←e5] at h5
 rw[ZbG]
 have u1:=Zdv (!(findB f.l ino).2) 6
 have u2:=Zdv (decide ((findB f.l ino).1.kind=2)) 9
 have u3:=Zdv (findE (dirD f dir).1.l s).2 7
 have hw:IntKind.i64.wrap ((findB f.l ino).1.links+1)=(findB f.l ino).1.links+1:=Zf (by omega) (by omega)
 by_cases q:giveE f dir s ino=0
 ·obtain⟨g1,g2,g3,g4,g5,g6,g7⟩:=h0 q
  obtain⟨k1,k2,k3⟩:=ZaZ g1
  have hs:=ZaJ h k1 k2 s ino
  have hn:=h.num dir
  rw[k3] at hrow g6
  have h6:=ZfK f (findB f.l dir).1 s ino hrow (by omega) ⟨by omega,by omega⟩ (by omega)
  have e:putB f {(findB f.l dir).1 with l:=(enterE (findB f.l dir).1.l s ino).1}=enteredD f dir s ino:=rfl
  rw[e] at h6
  have h7:=Zez (enteredD f dir s ino) {(findB f.l ino).1 with links:=(findB f.l ino).1.links+1} (by have:=hs.len;omega) ⟨by simp only;omega,by simp only;omega⟩ (by simp only;omega)
  have p1:¬256≤(findB f.l dir).1.l.length:=by omega
  have p2:¬64≤(findB f.l ino).1.links:=by omega
  rw[if_pos q]
  clear e5 hG h0
  simp only[k3,g1,g2,g4,g5,q] at h1 h2 h3 h4 h5 u1 u2 u3
  generalize enteredD f dir s ino=K at*
  generalize findB f.l dir=D at*
  generalize findB f.l ino=N at*
  simp[unlessS,g3,p1,p2] at h5 u1 u2 u3
  refine Pm Tryz.func292 fun hfit=> ?_
  simp[Tryz.f292]
  have s_:=An @p1 (An @p2 (An @g3 (An @hw (@FSR.enc.eq_1))))
  try simp[s_]
  repeat' ((first|((first|refine Tp ?_|refine Tn ?_|refine T2 ?_ ?_)<;>intro h_ e_ n_)|refine Pg h1 ?_|refine Pg h2 ?_|refine Pg h3 ?_|refine Pg h4 ?_|refine Pg u1 ?_|refine Pg u2 ?_|refine Pg u3 ?_|refine Pg (unl_f 12) ?_|refine Lg h5 ?_|refine Sg h5 ?_|refine Pg h6 ?_|refine Pg h7 ?_|refine Dg 4 18 [] [] ?_|refine Dg 8 7 [] [] ?_|rw[Ip]|rw[In]|rw[Fz]|rw[Gz]|fail)<;>first|simp[e_,n_,s_]|simp[s_]|skip)
 ·rw[if_neg q]
  clear h0 e5 hG
  generalize giveE f dir s ino=r at*
  generalize dirD f dir=D at*
  generalize findB f.l ino=N at*
  generalize unlessS (!N.2) 6=a1 at*
  generalize unlessS (decide (N.1.kind=2)) 9=a2 at*
  generalize unlessS (findE D.1.l s).2 7=a3 at*
  by_cases q1:256≤D.1.l.length
  ·simp[unlessS,q1] at h5
   refine Pm Tryz.func292 fun hfit=> ?_
   simp[Tryz.f292]
   have s_:=An @q (An @q1 (@FSR.enc.eq_1))
   try simp[s_]
   repeat' ((first|((first|refine Tp ?_|refine Tn ?_|refine T2 ?_ ?_)<;>intro h_ e_ n_)|refine Pg h1 ?_|refine Pg h2 ?_|refine Pg h3 ?_|refine Pg h4 ?_|refine Pg u1 ?_|refine Pg u2 ?_|refine Pg u3 ?_|refine Pg (unl_t 12) ?_|refine Pg (unl_f 12) ?_|refine Lg h5 ?_|refine Sg h5 ?_|refine Dg 4 18 [] [] ?_|refine Dg 8 7 [] [] ?_|rw[Ip]|rw[In]|rw[Fz]|rw[Gz]|fail)<;>first|simp[e_,n_,s_]|simp[s_]|skip)
  by_cases q2:64≤N.1.links
  ·simp[unlessS,q1,q2] at h5
   refine Pm Tryz.func292 fun hfit=> ?_
   simp[Tryz.f292]
   have s_:=An @q (An @q1 (An @q2 (@FSR.enc.eq_1)))
   try simp[s_]
   repeat' ((first|((first|refine Tp ?_|refine Tn ?_|refine T2 ?_ ?_)<;>intro h_ e_ n_)|refine Pg h1 ?_|refine Pg h2 ?_|refine Pg h3 ?_|refine Pg h4 ?_|refine Pg u1 ?_|refine Pg u2 ?_|refine Pg u3 ?_|refine Pg (unl_t 12) ?_|refine Pg (unl_f 12) ?_|refine Lg h5 ?_|refine Sg h5 ?_|refine Dg 4 18 [] [] ?_|refine Dg 8 7 [] [] ?_|rw[Ip]|rw[In]|rw[Fz]|rw[Gz]|fail)<;>first|simp[e_,n_,s_]|simp[s_]|skip)
  ·simp[unlessS,q1,q2] at h5
   refine Pm Tryz.func292 fun hfit=> ?_
   simp[Tryz.f292]
   have s_:=An @q (An @q1 (An @q2 (@FSR.enc.eq_1)))
   try simp[s_]
   repeat' ((first|((first|refine Tp ?_|refine Tn ?_|refine T2 ?_ ?_)<;>intro h_ e_ n_)|refine Pg h1 ?_|refine Pg h2 ?_|refine Pg h3 ?_|refine Pg h4 ?_|refine Pg u1 ?_|refine Pg u2 ?_|refine Pg u3 ?_|refine Pg (unl_t 12) ?_|refine Pg (unl_f 12) ?_|refine Lg h5 ?_|refine Sg h5 ?_|refine Dg 4 18 [] [] ?_|refine Dg 8 7 [] [] ?_|rw[Ip]|rw[In]|rw[Fz]|rw[Gz]|fail)<;>first|simp[e_,n_,s_]|simp[s_]|skip)
theorem setN_enc (n m:NodeR):setMany n.enc 0 m.enc=m.enc:=rfl
theorem setN4_enc (n m:NodeR) (v:AV):setMany (n.enc.set 4 v) 0 m.enc=m.enc:=rfl
theorem move_ok (f:FSR) (dir:Int) (s:ByteArray) (to:Int) (t:ByteArray) (h:Zg f) (hb:f.next<4611686018427387904) (hT:(lookD f to t).2=0→(lookD f to t).1.ino≠to):
  Zd Tryz.prog 294 [encF f,I dir,S s,I to,S t] (.tup [encF (moveD f dir s to t).1,I (moveD f dir s to t).2]):=by
 have hlen:=h.len
 have h1:=ZbD f dir s h
 have h2:=ZlO f to (by omega)
 have h3:=check_ok t
 have h4:=Zbu [(lookD f dir s).2,(dirD f to).2,checkS t] (by simp)
 have h5:=ZvH f to (lookD f dir s).1.ino (by omega) (fun n hn=>((ZbB _).1 ((Zq n).1 (h.ok n hn)).row).len)
 have eb:decide (0<getM (Zdl f.l (lookD f dir s).1.ino) to)=belowD f to (lookD f dir s).1.ino:=rfl
 rw[eb] at h5
 have h6:=ZbD f to t h
 have h7:=over_ok (lookD f dir s).1 (lookD f to t).1
 unfold moveD
 by_cases q1:(lookD f dir s).2=0
 case neg=>
  rw[if_pos q1]
  generalize lookD f dir s=L at*
  generalize dirD f to=D at*
  refine Pm Tryz.func294 fun hfit=> ?_
  simp[Tryz.f294]
  have s_:=An @q1 (An @firstS.eq_1 (@firstS.eq_2))
  try simp[s_]
  repeat' ((first|((first|refine Tp ?_|refine Tn ?_|refine T2 ?_ ?_)<;>intro h_ e_ n_)|refine Pg h1 ?_|refine Pg h2 ?_|refine Pg h3 ?_|refine Lg h4 ?_|refine Sg h4 ?_|rw[Ip]|rw[In]|rw[Fz]|rw[Gz]|fail)<;>first|simp[e_,n_,s_]|simp[s_]|skip)
 rw[if_neg (by simpa using q1)]
 by_cases q2:(dirD f to).2=0
 case neg=>
  rw[if_pos q2]
  generalize lookD f dir s=L at*
  generalize dirD f to=D at*
  refine Pm Tryz.func294 fun hfit=> ?_
  simp[Tryz.f294]
  have s_:=An @q1 (An @q2 (An @firstS.eq_1 (@firstS.eq_2)))
  try simp[s_]
  repeat' ((first|((first|refine Tp ?_|refine Tn ?_|refine T2 ?_ ?_)<;>intro h_ e_ n_)|refine Pg h1 ?_|refine Pg h2 ?_|refine Pg h3 ?_|refine Lg h4 ?_|refine Sg h4 ?_|rw[Ip]|rw[In]|rw[Fz]|rw[Gz]|fail)<;>first|simp[e_,n_,s_]|simp[s_]|skip)
 rw[if_neg (by simpa using q2)]
 by_cases q3:checkS t=0
 case neg=>
  rw[if_pos q3]
  generalize lookD f dir s=L at*
  generalize dirD f to=D at*
  refine Pm Tryz.func294 fun hfit=> ?_
  simp[Tryz.f294]
  have s_:=An @q1 (An @q2 (An @q3 (An @firstS.eq_1 (@firstS.eq_2))))
  try simp[s_]
  repeat' ((first|((first|refine Tp ?_|refine Tn ?_|refine T2 ?_ ?_)<;>intro h_ e_ n_)|refine Pg h1 ?_|refine Pg h2 ?_|refine Pg h3 ?_|refine Lg h4 ?_|refine Sg h4 ?_|rw[Ip]|rw[In]|rw[Fz]|rw[Gz]|fail)<;>first|simp[e_,n_,s_]|simp[s_]|skip)
 rw[if_neg (by simpa using q3)]
 obtain⟨d1,d2,d3⟩:=ZaZ q2
 obtain⟨l1,l2,l3,l4,l5⟩:=ZdR q1
 obtain⟨c1,c2,c3⟩:=ZaZ l1
 by_cases q4:(lookD f dir s).1.kind=2∧((lookD f dir s).1.ino=to∨belowD f to (lookD f dir s).1.ino=true)
 ·rw[if_pos q4]
  obtain⟨q4,q5⟩:=q4
  generalize belowD f to (lookD f dir s).1.ino=bl at*
  generalize lookD f dir s=L at*
  generalize dirD f to=D at*
  by_cases q6:L.1.ino=to
  ·refine Pm Tryz.func294 fun hfit=> ?_
   simp[Tryz.f294]
   have s_:=An @q1 (An @q2 (An @q3 (An @q4 (An @q6 (An @firstS.eq_1 (@firstS.eq_2))))))
   try simp[s_]
   repeat' ((first|((first|refine Tp ?_|refine Tn ?_|refine T2 ?_ ?_)<;>intro h_ e_ n_)|refine Pg h1 ?_|refine Pg h2 ?_|refine Pg h3 ?_|refine Lg h4 ?_|refine Sg h4 ?_|rw[Ip]|rw[In]|rw[Fz]|rw[Gz]|fail)<;>first|simp[e_,n_,s_]|simp[s_]|skip)
  ·have q7:bl=true:=q5.resolve_left q6
   subst q7
   refine Pm Tryz.func294 fun hfit=> ?_
   simp[Tryz.f294]
   have s_:=An @q1 (An @q2 (An @q3 (An @q4 (An @q6 (An @firstS.eq_1 (@firstS.eq_2))))))
   try simp[s_]
   repeat' ((first|((first|refine Tp ?_|refine Tn ?_|refine T2 ?_ ?_)<;>intro h_ e_ n_)|refine Pg h1 ?_|refine Pg h2 ?_|refine Pg h3 ?_|refine Lg h4 ?_|refine Sg h4 ?_|refine Pg h5 ?_|rw[Ip]|rw[In]|rw[Fz]|rw[Gz]|fail)<;>first|simp[e_,n_,s_]|simp[s_]|skip)
 rw[if_neg q4]
 have q4':(lookD f dir s).1.kind≠2∨(lookD f dir s).1.kind=2∧(lookD f dir s).1.ino≠to∧belowD f to (lookD f dir s).1.ino=false:=by
  by_cases k:(lookD f dir s).1.kind=2
  ·exact .inr ⟨k,fun e=>q4 ⟨k,.inl e⟩,by
    cases hb:belowD f to (lookD f dir s).1.ino
    ·rfl
    ·exact absurd ⟨k,.inr hb⟩ q4⟩
  ·exact .inl k
 clear q4
 by_cases q5:(lookD f to t).2=0∧(lookD f to t).1.ino=(lookD f dir s).1.ino
 ·rw[if_pos q5]
  obtain⟨q5,q6⟩:=q5
  generalize belowD f to (lookD f dir s).1.ino=bl at*
  generalize lookD f dir s=L at*
  generalize lookD f to t=O at*
  generalize dirD f to=D at*
  rcases q4' with q4|⟨q4,q7,rfl⟩
  ·refine Pm Tryz.func294 fun hfit=> ?_
   simp[Tryz.f294]
   have s_:=An @q1 (An @q2 (An @q3 (An @q4 (An @q5 (An @q6 (An @firstS.eq_1 (@firstS.eq_2)))))))
   try simp[s_]
   repeat' ((first|((first|refine Tp ?_|refine Tn ?_|refine T2 ?_ ?_)<;>intro h_ e_ n_)|refine Pg h1 ?_|refine Pg h2 ?_|refine Pg h3 ?_|refine Lg h4 ?_|refine Sg h4 ?_|refine Pg h6 ?_|rw[Ip]|rw[In]|rw[Fz]|rw[Gz]|fail)<;>first|simp[e_,n_,s_]|simp[s_]|skip)
  ·refine Pm Tryz.func294 fun hfit=> ?_
   simp[Tryz.f294]
   have s_:=An @q1 (An @q2 (An @q3 (An @q4 (An @q5 (An @q6 (An @q7 (An @firstS.eq_1 (@firstS.eq_2))))))))
   try simp[s_]
   repeat' ((first|((first|refine Tp ?_|refine Tn ?_|refine T2 ?_ ?_)<;>intro h_ e_ n_)|refine Pg h1 ?_|refine Pg h2 ?_|refine Pg h3 ?_|refine Lg h4 ?_|refine Sg h4 ?_|refine Pg h5 ?_|refine Pg h6 ?_|rw[Ip]|rw[In]|rw[Fz]|rw[Gz]|fail)<;>first|simp[e_,n_,s_]|simp[s_]|skip)
 rw[if_neg q5]
 by_cases q8:(lookD f to t).2=0∧overD (lookD f dir s).1 (lookD f to t).1≠0
 ·rw[if_pos q8]
  obtain⟨q8,q9⟩:=q8
  have q6:¬(lookD f to t).1.ino=(lookD f dir s).1.ino:=fun e=>q5 ⟨q8,e⟩
  generalize belowD f to (lookD f dir s).1.ino=bl at*
  generalize overD (lookD f dir s).1 (lookD f to t).1=ov at*
  generalize lookD f dir s=L at*
  generalize lookD f to t=O at*
  generalize dirD f to=D at*
  rcases q4' with q4|⟨q4,q7,rfl⟩
  ·refine Pm Tryz.func294 fun hfit=> ?_
   simp[Tryz.f294]
   have s_:=An @q1 (An @q2 (An @q3 (An @q4 (An @q6 (An @q8 (An @q9 (An @firstS.eq_1 (@firstS.eq_2))))))))
   try simp[s_]
   repeat' ((first|((first|refine Tp ?_|refine Tn ?_|refine T2 ?_ ?_)<;>intro h_ e_ n_)|refine Pg h1 ?_|refine Pg h2 ?_|refine Pg h3 ?_|refine Lg h4 ?_|refine Sg h4 ?_|refine Pg h6 ?_|refine Pg h7 ?_|rw[Ip]|rw[In]|rw[Fz]|rw[Gz]|fail)<;>first|simp[e_,n_,s_]|simp[s_]|skip)
  ·refine Pm Tryz.func294 fun hfit=> ?_
   simp[Tryz.f294]
   have s_:=An @q1 (An @q2 (An @q3 (An @q4 (An @q6 (An @q7 (An @q8 (An @q9 (An @firstS.eq_1 (@firstS.eq_2)))))))))
   try simp[s_]
   repeat' ((first|((first|refine Tp ?_|refine Tn ?_|refine T2 ?_ ?_)<;>intro h_ e_ n_)|refine Pg h1 ?_|refine Pg h2 ?_|refine Pg h3 ?_|refine Lg h4 ?_|refine Sg h4 ?_|refine Pg h5 ?_|refine Pg h6 ?_|refine Pg h7 ?_|rw[Ip]|rw[In]|rw[Fz]|rw[Gz]|fail)<;>first|simp[e_,n_,s_]|simp[s_]|skip)
 rw[if_neg q8]
 have hK:=ZiF h to t
 have hkl:=hK.rows.len
 have hkn:=hK.next
 have h8:=find_ok (clearD f to t) to (by omega)
 have h9:=find_ok (clearD f to t) dir (by omega)
 have hC:=ZdS h to t dir (fun hl e=>by
  have ho:overD (lookD f dir s).1 (lookD f to t).1=0:=Decidable.byContradiction fun k=>q8 ⟨hl,k⟩
  have hi:=findB_of h.rise (Zfd hl)
  rw[←e] at hi
  have hl0:¬0<(lookD f to t).1.l.length:=fun k=>by
   unfold overD at ho
   rw[if_pos k] at ho
   split at ho
   ·simp at ho
   ·split at ho<;>simp at ho
  rw[c3,hi] at l3
  have:(lookD f to t).1.l=[]:=List.eq_nil_of_length_eq_zero (by omega)
  simp only[this] at l3
  simp[findE] at l3) hT
 have hfd:(findB (clearD f to t).l dir).2=true:=by
  rw[hC]
  split
  ·rfl
  ·exact c1
 have hrow:=hK.rows.row dir
 have hnum:=hK.rows.num dir
 have h10:=ZoH (findB (clearD f to t).l dir).1.l s hrow.rise (by have:=hrow.len;omega)
 have h11:=Zez (clearD f to t) {(findB (clearD f to t).l dir).1 with l:=(leaveE (findB (clearD f to t).l dir).1.l s).1} (by omega) ⟨by simp only;omega,by simp only;omega⟩ (by simp only;omega)
 have e11:putB (clearD f to t) {(findB (clearD f to t).l dir).1 with l:=(leaveE (findB (clearD f to t).l dir).1.l s).1}=leftD (clearD f to t) dir s:=rfl
 rw[e11] at h11
 have hM:=ZbQ hK.rows hfd s
 have hml:=hM.rows.len
 have hmn:=hM.next
 have h12:=find_ok (leftD (clearD f to t) dir s) to (by omega)
 have hrow2:=hM.rows.row to
 have hnum2:=hM.rows.num to
 have h13:=ZfK (leftD (clearD f to t) dir s) (findB (leftD (clearD f to t) dir s).l to).1 t (lookD f dir s).1.ino hrow2 (by omega) ⟨by omega,by omega⟩ (by omega)
 have e13:putB (leftD (clearD f to t) dir s) {(findB (leftD (clearD f to t) dir s).l to).1 with l:=(enterE (findB (leftD (clearD f to t) dir s).l to).1.l t (lookD f dir s).1.ino).1}=enteredD (leftD (clearD f to t) dir s) to t (lookD f dir s).1.ino:=rfl
 rw[e13] at h13
 by_cases q9:(lookD f to t).2=0
 ·have q6:¬(lookD f to t).1.ino=(lookD f dir s).1.ino:=fun e=>q5 ⟨q9,e⟩
  have ho:overD (lookD f dir s).1 (lookD f to t).1=0:=Decidable.byContradiction fun k=>q8 ⟨q9,k⟩
  have hi:=findB_of h.rise (Zfd q9)
  have h14:=Zjg f to t (lookD f to t).1 h (by omega) d1 (by rw[hi]) (by rw[hi]) (hT q9)
  have e14:withoutD f to t (lookD f to t).1.ino=clearD f to t:=by unfold clearD;rw[if_pos q9]
  rw[e14] at h14
  rw[ho] at h7
  clear e11 e13 e14 hC
  generalize enteredD (leftD (clearD f to t) dir s) to t (lookD f dir s).1.ino=R at*
  generalize leftD (clearD f to t) dir s=M at*
  generalize clearD f to t=K at*
  generalize belowD f to (lookD f dir s).1.ino=bl at*
  generalize lookD f dir s=L at*
  generalize lookD f to t=O at*
  generalize dirD f to=D at*
  by_cases r1:dir=to
  ·rw[if_neg (fun k=>k.1 r1)]
   subst r1
   rcases q4' with q4|⟨q4,q7,rfl⟩
   ·refine Pm Tryz.func294 fun hfit=> ?_
    simp[Tryz.f294]
    have s_:=An @q1 (An @q2 (An @q3 (An @q4 (An @q6 (An @q9 (An @firstS.eq_1 (An @firstS.eq_2 (An @setF_enc (An @setN_enc (@setN4_enc))))))))))
    try simp[s_]
    repeat' ((first|((first|refine Tp ?_|refine Tn ?_|refine T2 ?_ ?_)<;>intro h_ e_ n_)|refine Pg h1 ?_|refine Pg h2 ?_|refine Pg h3 ?_|refine Lg h4 ?_|refine Sg h4 ?_|refine Pg h6 ?_|refine Pg h7 ?_|refine Pg h14 ?_|refine Pg h8 ?_|refine Pg h9 ?_|refine Pg h10 ?_|refine Pg h11 ?_|refine Pg h12 ?_|refine Pg h13 ?_|rw[Ip]|rw[In]|rw[Fz]|rw[Gz]|fail)<;>first|simp[e_,n_,s_]|simp[s_]|skip)
   ·refine Pm Tryz.func294 fun hfit=> ?_
    simp[Tryz.f294]
    have s_:=An @q1 (An @q2 (An @q3 (An @q4 (An @q6 (An @q7 (An @q9 (An @firstS.eq_1 (An @firstS.eq_2 (An @setF_enc (An @setN_enc (@setN4_enc)))))))))))
    try simp[s_]
    repeat' ((first|((first|refine Tp ?_|refine Tn ?_|refine T2 ?_ ?_)<;>intro h_ e_ n_)|refine Pg h1 ?_|refine Pg h2 ?_|refine Pg h3 ?_|refine Lg h4 ?_|refine Sg h4 ?_|refine Pg h5 ?_|refine Pg h6 ?_|refine Pg h7 ?_|refine Pg h14 ?_|refine Pg h8 ?_|refine Pg h9 ?_|refine Pg h10 ?_|refine Pg h11 ?_|refine Pg h12 ?_|refine Pg h13 ?_|rw[Ip]|rw[In]|rw[Fz]|rw[Gz]|fail)<;>first|simp[e_,n_,s_]|simp[s_]|skip)
  by_cases r2:256≤(findB K.l to).1.l.length
  ·rw[if_pos ⟨r1,r2⟩]
   rcases q4' with q4|⟨q4,q7,rfl⟩
   ·refine Pm Tryz.func294 fun hfit=> ?_
    simp[Tryz.f294]
    have s_:=An @q1 (An @q2 (An @q3 (An @q4 (An @q6 (An @q9 (An @r1 (An @r2 (An @firstS.eq_1 (An @firstS.eq_2 (An @setF_enc (An @setN_enc (@setN4_enc))))))))))))
    try simp[s_]
    repeat' ((first|((first|refine Tp ?_|refine Tn ?_|refine T2 ?_ ?_)<;>intro h_ e_ n_)|refine Pg h1 ?_|refine Pg h2 ?_|refine Pg h3 ?_|refine Lg h4 ?_|refine Sg h4 ?_|refine Pg h6 ?_|refine Pg h7 ?_|refine Pg h14 ?_|refine Pg h8 ?_|rw[Ip]|rw[In]|rw[Fz]|rw[Gz]|fail)<;>first|simp[e_,n_,s_]|simp[s_]|skip)
   ·refine Pm Tryz.func294 fun hfit=> ?_
    simp[Tryz.f294]
    have s_:=An @q1 (An @q2 (An @q3 (An @q4 (An @q6 (An @q7 (An @q9 (An @r1 (An @r2 (An @firstS.eq_1 (An @firstS.eq_2 (An @setF_enc (An @setN_enc (@setN4_enc)))))))))))))
    try simp[s_]
    repeat' ((first|((first|refine Tp ?_|refine Tn ?_|refine T2 ?_ ?_)<;>intro h_ e_ n_)|refine Pg h1 ?_|refine Pg h2 ?_|refine Pg h3 ?_|refine Lg h4 ?_|refine Sg h4 ?_|refine Pg h5 ?_|refine Pg h6 ?_|refine Pg h7 ?_|refine Pg h14 ?_|refine Pg h8 ?_|rw[Ip]|rw[In]|rw[Fz]|rw[Gz]|fail)<;>first|simp[e_,n_,s_]|simp[s_]|skip)
  ·rw[if_neg (fun k=>r2 k.2)]
   rcases q4' with q4|⟨q4,q7,rfl⟩
   ·refine Pm Tryz.func294 fun hfit=> ?_
    simp[Tryz.f294]
    have s_:=An @q1 (An @q2 (An @q3 (An @q4 (An @q6 (An @q9 (An @r1 (An @r2 (An @firstS.eq_1 (An @firstS.eq_2 (An @setF_enc (An @setN_enc (@setN4_enc))))))))))))
    try simp[s_]
    repeat' ((first|((first|refine Tp ?_|refine Tn ?_|refine T2 ?_ ?_)<;>intro h_ e_ n_)|refine Pg h1 ?_|refine Pg h2 ?_|refine Pg h3 ?_|refine Lg h4 ?_|refine Sg h4 ?_|refine Pg h6 ?_|refine Pg h7 ?_|refine Pg h14 ?_|refine Pg h8 ?_|refine Pg h9 ?_|refine Pg h10 ?_|refine Pg h11 ?_|refine Pg h12 ?_|refine Pg h13 ?_|rw[Ip]|rw[In]|rw[Fz]|rw[Gz]|fail)<;>first|simp[e_,n_,s_]|simp[s_]|skip)
   ·refine Pm Tryz.func294 fun hfit=> ?_
    simp[Tryz.f294]
    have s_:=An @q1 (An @q2 (An @q3 (An @q4 (An @q6 (An @q7 (An @q9 (An @r1 (An @r2 (An @firstS.eq_1 (An @firstS.eq_2 (An @setF_enc (An @setN_enc (@setN4_enc)))))))))))))
    try simp[s_]
    repeat' ((first|((first|refine Tp ?_|refine Tn ?_|refine T2 ?_ ?_)<;>intro h_ e_ n_)|refine Pg h1 ?_|refine Pg h2 ?_|refine Pg h3 ?_|refine Lg h4 ?_|refine Sg h4 ?_|refine Pg h5 ?_|refine Pg h6 ?_|refine Pg h7 ?_|refine Pg h14 ?_|refine Pg h8 ?_|refine Pg h9 ?_|refine Pg h10 ?_|refine Pg h11 ?_|refine Pg h12 ?_|refine Pg h13 ?_|rw[Ip]|rw[In]|rw[Fz]|rw[Gz]|fail)<;>first|simp[e_,n_,s_]|simp[s_]|skip)
 ·have e14:clearD f to t=f:=by unfold clearD;rw[if_neg q9]
  rw[e14] at h8 h9 h10 h11 h12 h13⊢
  clear e11 e13 e14 hC
  generalize enteredD (leftD f dir s) to t (lookD f dir s).1.ino=R at*
  generalize leftD f dir s=M at*
  generalize belowD f to (lookD f dir s).1.ino=bl at*
  generalize lookD f dir s=L at*
  generalize lookD f to t=O at*
  generalize dirD f to=D at*
  by_cases r1:dir=to
  ·rw[if_neg (fun k=>k.1 r1)]
   subst r1
   rcases q4' with q4|⟨q4,q7,rfl⟩
   ·refine Pm Tryz.func294 fun hfit=> ?_
    simp[Tryz.f294]
    have s_:=An @q1 (An @q2 (An @q3 (An @q4 (An @q9 (An @firstS.eq_1 (An @firstS.eq_2 (An @setF_enc (An @setN_enc (@setN4_enc)))))))))
    try simp[s_]
    repeat' ((first|((first|refine Tp ?_|refine Tn ?_|refine T2 ?_ ?_)<;>intro h_ e_ n_)|refine Pg h1 ?_|refine Pg h2 ?_|refine Pg h3 ?_|refine Lg h4 ?_|refine Sg h4 ?_|refine Pg h6 ?_|refine Pg h8 ?_|refine Pg h9 ?_|refine Pg h10 ?_|refine Pg h11 ?_|refine Pg h12 ?_|refine Pg h13 ?_|rw[Ip]|rw[In]|rw[Fz]|rw[Gz]|fail)<;>first|simp[e_,n_,s_]|simp[s_]|skip)
   ·refine Pm Tryz.func294 fun hfit=> ?_
    simp[Tryz.f294]
    have s_:=An @q1 (An @q2 (An @q3 (An @q4 (An @q7 (An @q9 (An @firstS.eq_1 (An @firstS.eq_2 (An @setF_enc (An @setN_enc (@setN4_enc))))))))))
    try simp[s_]
    repeat' ((first|((first|refine Tp ?_|refine Tn ?_|refine T2 ?_ ?_)<;>intro h_ e_ n_)|refine Pg h1 ?_|refine Pg h2 ?_|refine Pg h3 ?_|refine Lg h4 ?_|refine Sg h4 ?_|refine Pg h5 ?_|refine Pg h6 ?_|refine Pg h8 ?_|refine Pg h9 ?_|refine Pg h10 ?_|refine Pg h11 ?_|refine Pg h12 ?_|refine Pg h13 ?_|rw[Ip]|rw[In]|rw[Fz]|rw[Gz]|fail)<;>first|simp[e_,n_,s_]|simp[s_]|skip)
  by_cases r2:256≤(findB f.l to).1.l.length
  ·rw[if_pos ⟨r1,r2⟩]
   rcases q4' with q4|⟨q4,q7,rfl⟩
   ·refine Pm Tryz.func294 fun hfit=> ?_
    simp[Tryz.f294]
    have s_:=An @q1 (An @q2 (An @q3 (An @q4 (An @q9 (An @r1 (An @r2 (An @firstS.eq_1 (An @firstS.eq_2 (An @setF_enc (An @setN_enc (@setN4_enc)))))))))))
    try simp[s_]
    repeat' ((first|((first|refine Tp ?_|refine Tn ?_|refine T2 ?_ ?_)<;>intro h_ e_ n_)|refine Pg h1 ?_|refine Pg h2 ?_|refine Pg h3 ?_|refine Lg h4 ?_|refine Sg h4 ?_|refine Pg h6 ?_|refine Pg h8 ?_|rw[Ip]|rw[In]|rw[Fz]|rw[Gz]|fail)<;>first|simp[e_,n_,s_]|simp[s_]|skip)
   ·refine Pm Tryz.func294 fun hfit=> ?_
    simp[Tryz.f294]
    have s_:=An @q1 (An @q2 (An @q3 (An @q4 (An @q7 (An @q9 (An @r1 (An @r2 (An @firstS.eq_1 (An @firstS.eq_2 (An @setF_enc (An @setN_enc (@setN4_enc))))))))))))
    try simp[s_]
    repeat' ((first|((first|refine Tp ?_|refine Tn ?_|refine T2 ?_ ?_)<;>intro h_ e_ n_)|refine Pg h1 ?_|refine Pg h2 ?_|refine Pg h3 ?_|refine Lg h4 ?_|refine Sg h4 ?_|refine Pg h5 ?_|refine Pg h6 ?_|refine Pg h8 ?_|rw[Ip]|rw[In]|rw[Fz]|rw[Gz]|fail)<;>first|simp[e_,n_,s_]|simp[s_]|skip)
  ·rw[if_neg (fun k=>r2 k.2)]
   rcases q4' with q4|⟨q4,q7,rfl⟩
   ·refine Pm Tryz.func294 fun hfit=> ?_
    simp[Tryz.f294]
    have s_:=An @q1 (An @q2 (An @q3 (An @q4 (An @q9 (An @r1 (An @r2 (An @firstS.eq_1 (An @firstS.eq_2 (An @setF_enc (An @setN_enc (@setN4_enc)))))))))))
    try simp[s_]
    repeat' ((first|((first|refine Tp ?_|refine Tn ?_|refine T2 ?_ ?_)<;>intro h_ e_ n_)|refine Pg h1 ?_|refine Pg h2 ?_|refine Pg h3 ?_|refine Lg h4 ?_|refine Sg h4 ?_|refine Pg h6 ?_|refine Pg h8 ?_|refine Pg h9 ?_|refine Pg h10 ?_|refine Pg h11 ?_|refine Pg h12 ?_|refine Pg h13 ?_|rw[Ip]|rw[In]|rw[Fz]|rw[Gz]|fail)<;>first|simp[e_,n_,s_]|simp[s_]|skip)
   ·refine Pm Tryz.func294 fun hfit=> ?_
    simp[Tryz.f294]
    have s_:=An @q1 (An @q2 (An @q3 (An @q4 (An @q7 (An @q9 (An @r1 (An @r2 (An @firstS.eq_1 (An @firstS.eq_2 (An @setF_enc (An @setN_enc (@setN4_enc))))))))))))
    try simp[s_]
    repeat' ((first|((first|refine Tp ?_|refine Tn ?_|refine T2 ?_ ?_)<;>intro h_ e_ n_)|refine Pg h1 ?_|refine Pg h2 ?_|refine Pg h3 ?_|refine Lg h4 ?_|refine Sg h4 ?_|refine Pg h5 ?_|refine Pg h6 ?_|refine Pg h8 ?_|refine Pg h9 ?_|refine Pg h10 ?_|refine Pg h11 ?_|refine Pg h12 ?_|refine Pg h13 ?_|rw[Ip]|rw[In]|rw[Fz]|rw[Gz]|fail)<;>first|simp[e_,n_,s_]|simp[s_]|skip)
abbrev encR (r:ReplyR):AV:= .agg r.enc
abbrev encC (c:CallR):AV:= .agg c.enc
theorem ZoJ (f:FSR) (ino kind:Int) (h:f.l.length≤1000000):Zd Tryz.prog 268 [encF f,I ino,I kind] (.tup [encN (ofD f ino kind).1,I (ofD f ino kind).2]):=by
 have h1:=find_ok f ino h
 unfold ofD
 generalize findB f.l ino=N at*
 obtain⟨n,is⟩:=N
 simp only at*
 cases is with
 |false=>
  refine Pm Tryz.func268 fun hfit=> ?_
  simp[Tryz.f268]
  try simp
  repeat' ((first|((first|refine Tp ?_|refine Tn ?_|refine T2 ?_ ?_)<;>intro h_ e_ n_)|refine Pg h1 ?_|rw[Ip]|rw[In]|rw[Fz]|rw[Gz]|fail)<;>first|simp[e_,n_]|simp|skip)
 |true=>
  by_cases q1:kind=0
  ·refine Pm Tryz.func268 fun hfit=> ?_
   simp[Tryz.f268,q1]
   have s_:=q1
   try simp[s_]
   repeat' ((first|((first|refine Tp ?_|refine Tn ?_|refine T2 ?_ ?_)<;>intro h_ e_ n_)|refine Pg h1 ?_|rw[Ip]|rw[In]|rw[Fz]|rw[Gz]|fail)<;>first|simp[e_,n_,s_]|simp[s_]|skip)
  ·by_cases q2:n.kind=kind
   ·refine Pm Tryz.func268 fun hfit=> ?_
    simp[Tryz.f268,q1,q2]
    have s_:=An @q1 (@q2)
    try simp[s_]
    repeat' ((first|((first|refine Tp ?_|refine Tn ?_|refine T2 ?_ ?_)<;>intro h_ e_ n_)|refine Pg h1 ?_|rw[Ip]|rw[In]|rw[Fz]|rw[Gz]|fail)<;>first|simp[e_,n_,s_]|simp[s_]|skip)
   ·refine Pm Tryz.func268 fun hfit=> ?_
    simp[Tryz.f268,q1,q2]
    have s_:=An @q1 (@q2)
    try simp[s_]
    repeat' ((first|((first|refine Tp ?_|refine Tn ?_|refine T2 ?_ ?_)<;>intro h_ e_ n_)|refine Pg h1 ?_|rw[Ip]|rw[In]|rw[Fz]|rw[Gz]|fail)<;>first|simp[e_,n_,s_]|simp[s_]|skip)
theorem Ztu (r:ReplyR) (e:Int):Zd Tryz.prog 266 [encR r,I e] (encR (toldR r e)):=by
 unfold toldR errR
 by_cases q:e=0
 ·refine Pm Tryz.func266 fun hfit=> ?_
  simp[Tryz.f266,q]
 ·refine Pm Tryz.func266 fun hfit=> ?_
  simp[Tryz.f266,q]
  have s_:=An @q (@ReplyR.enc.eq_1)
  try simp[s_]
  repeat' ((first|((first|refine Tp ?_|refine Tn ?_|refine T2 ?_ ?_)<;>intro h_ e_ n_)|rw[Ip]|rw[In]|rw[Fz]|rw[Gz]|fail)<;>first|simp[e_,n_,s_]|simp[s_]|skip)
theorem Zfm (a b n:Int) (t:ByteArray) (e:Int):Zd Tryz.prog 266 [.agg [I 0,I a,I b,I n,S t,.sl false 0 []],I e] (encR (toldR ⟨0,a,b,n,t,[]⟩ e)):=Ztu ⟨0,a,b,n,t,[]⟩ e
theorem ZoK (b:ByteArray):(bs b).length=b.size:=rfl
theorem Znn (f:FSR) (ino k:Int):(ofD f ino k).1=(findB f.l ino).1:=by
 unfold ofD
 split
 ·rfl
 ·split<;>rfl
theorem ZoL (f:FSR) (ino:Int) (g:List UInt8→List UInt8×Int) (fid:FuncId) (c:CallR) (hg:∀b:ByteArray,b.size≤4096→Zd Tryz.prog fid [S b,.fp c.enc] (.tup [S (T (g (bs b)).1),I (g (bs b)).2])) (h:Zg f) (hb:f.next<4611686018427387904):
  Zd Tryz.prog 278 [encF f,I ino,.fn fid [.fp c.enc]] (.tup [encF (textD f ino g).1,I (textD f ino g).2]):=by
 have hlen:=h.len
 have h1:=ZoJ f ino 1 (by omega)
 have hnum:=h.num ino
 have htx:=h.text ino
 have h2:=hg (findB f.l ino).1.text htx
 have h3:=Zez f {(findB f.l ino).1 with text:=T (g (bs (findB f.l ino).1.text)).1} (by omega) ⟨by simp only;omega,by simp only;omega⟩ (by simp only;omega)
 unfold textD
 rw[Znn] at h1
 simp only[Znn]
 generalize(ofD f ino 1).2=oe at*
 generalize findB f.l ino=N at*
 generalize g (bs N.1.text)=G at*
 by_cases q1:oe=0
 case neg=>
  rw[if_pos q1]
  refine Pm Tryz.func278 fun hfit=> ?_
  simp[Tryz.f278]
  have s_:=q1
  try simp[s_]
  repeat' ((first|((first|refine Tp ?_|refine Tn ?_|refine T2 ?_ ?_)<;>intro h_ e_ n_)|refine Pg h1 ?_|rw[Ip]|rw[In]|rw[Fz]|rw[Gz]|fail)<;>first|simp[e_,n_,s_]|simp[s_]|skip)
 rw[if_neg (by simpa using q1)]
 by_cases q2:G.2=0
 case neg=>
  rw[if_pos q2]
  refine Pm Tryz.func278 fun hfit=> ?_
  simp[Tryz.f278]
  have s_:=An @q1 (@q2)
  try simp[s_]
  repeat' ((first|((first|refine Tp ?_|refine Tn ?_|refine T2 ?_ ?_)<;>intro h_ e_ n_)|refine Pg h1 ?_|refine Pg h2 ?_|rw[Ip]|rw[In]|rw[Fz]|rw[Gz]|fail)<;>first|simp[e_,n_,s_]|simp[s_]|skip)
 rw[if_neg (by simpa using q2)]
 refine Pm Tryz.func278 fun hfit=> ?_
 simp[Tryz.f278]
 have s_:=An @q1 (@q2)
 try simp[s_]
 repeat' ((first|((first|refine Tp ?_|refine Tn ?_|refine T2 ?_ ?_)<;>intro h_ e_ n_)|refine Pg h1 ?_|refine Pg h2 ?_|refine Pg h3 ?_|rw[Ip]|rw[In]|rw[Fz]|rw[Gz]|fail)<;>first|simp[e_,n_,s_]|simp[s_]|skip)
theorem Zno (f:FSR) (c:CallR) (n:NodeR) (h:Zg f) (hb:f.next<4611686018427387904):Zd Tryz.prog 285 [encF f,encC c,encN n] (.tup [encF (addO f c n).1,encR (addO f c n).2]):=by
 have h1:=add_ok f c.ino c.name n h hb
 unfold addO
 generalize addD f c.ino c.name n=A at*
 by_cases q1:4096<n.text.size
 ·rw[if_pos q1]
  refine Pm Tryz.func285 fun hfit=> ?_
  simp[Tryz.f285]
  have s_:=An @q1 (An @errR.eq_1 (@ReplyR.enc.eq_1))
  try simp[s_]
  repeat' ((first|((first|refine Tp ?_|refine Tn ?_|refine T2 ?_ ?_)<;>intro h_ e_ n_)|refine Dg 6 6 [] [] ?_|rw[Ip]|rw[In]|rw[Fz]|rw[Gz]|fail)<;>first|simp[e_,n_,s_]|simp[s_]|skip)
 rw[if_neg q1]
 by_cases q2:A.2=0
 case neg=>
  rw[if_pos q2]
  refine Pm Tryz.func285 fun hfit=> ?_
  simp[Tryz.f285]
  have s_:=An @q1 (An @q2 (An @errR.eq_1 (@ReplyR.enc.eq_1)))
  try simp[s_]
  repeat' ((first|((first|refine Tp ?_|refine Tn ?_|refine T2 ?_ ?_)<;>intro h_ e_ n_)|refine Pg h1 ?_|refine Dg 6 6 [] [] ?_|rw[Ip]|rw[In]|rw[Fz]|rw[Gz]|fail)<;>first|simp[e_,n_,s_]|simp[s_]|skip)
 rw[if_neg (by simpa using q2)]
 refine Pm Tryz.func285 fun hfit=> ?_
 simp[Tryz.f285]
 have s_:=An @q1 (An @q2 (An @errR.eq_1 (@ReplyR.enc.eq_1)))
 try simp[s_]
 repeat' ((first|((first|refine Tp ?_|refine Tn ?_|refine T2 ?_ ?_)<;>intro h_ e_ n_)|refine Pg h1 ?_|refine Dg 6 5 [3] [] ?_|rw[Ip]|rw[In]|rw[Fz]|rw[Gz]|fail)<;>first|simp[e_,n_,s_]|simp[s_]|skip)
theorem Zjh (f:FSR) (c:CallR) (b:Bool) (h:Zg f) (hb:f.next<4611686018427387904) (hne:(lookD f c.ino c.name).2=0→(lookD f c.ino c.name).1.ino≠c.ino):
  Zd Tryz.prog 289 [encF f,encC c,B b] (.tup [encF (removeO f c b).1,encR (removeO f c b).2]):=by
 have h1:=ZbD f c.ino c.name h
 have h2:=take_ok f c.ino c.name h (by omega) hne
 unfold removeO
 generalize lookD f c.ino c.name=L at*
 generalize takeD f c.ino c.name=A at*
 by_cases q1:L.2=0
 case neg=>
  rw[if_pos q1]
  refine Pm Tryz.func289 fun hfit=> ?_
  simp[Tryz.f289]
  have s_:=An @q1 (An @errR.eq_1 (@ReplyR.enc.eq_1))
  try simp[s_]
  repeat' ((first|((first|refine Tp ?_|refine Tn ?_|refine T2 ?_ ?_)<;>intro h_ e_ n_)|refine Pg h1 ?_|rw[Ip]|rw[In]|rw[Fz]|rw[Gz]|fail)<;>first|simp[e_,n_,s_]|simp[s_]|skip)
 rw[if_neg (by simpa using q1)]
 by_cases q2:L.1.kind=2<;>cases b
 all_goals
  refine Pm Tryz.func289 fun hfit=> ?_
  simp[Tryz.f289,q2]
  have s_:=An @q1 (An @q2 (An @errR.eq_1 (@ReplyR.enc.eq_1)))
  try simp[s_]
  repeat' ((first|((first|refine Tp ?_|refine Tn ?_|refine T2 ?_ ?_)<;>intro h_ e_ n_)|refine Pg h1 ?_|refine Pg h2 ?_|rw[Ip]|rw[In]|rw[Fz]|rw[Gz]|fail)<;>first|simp[e_,n_,s_]|simp[s_]|skip)
abbrev aCap (f:FSR) (c:CallR):List AV:=[.fp f.enc,.fp c.enc]
theorem ZvQ (f:FSR) (c:CallR) (h:Zg f):Zd Tryz.prog 264 (aCap f c) (encR (toldR ⟨0,(lookD f c.ino c.name).1.ino,0,0,.empty,[]⟩ (lookD f c.ino c.name).2)):=by
 have h1:=ZbD f c.ino c.name h
 generalize lookD f c.ino c.name=L at*
 have h2:=Zfm L.1.ino 0 0 .empty L.2
 generalize toldR ⟨0,L.1.ino,0,0,.empty,[]⟩ L.2=R at*
 refine Pm Tryz.func264 fun hfit=> ?_
 simp[Tryz.f264]
 try simp
 repeat' ((first|((first|refine Tp ?_|refine Tn ?_|refine T2 ?_ ?_)<;>intro h_ e_ n_)|refine Pg h1 ?_|refine Sg h2 ?_|rw[Ip]|rw[In]|rw[Fz]|rw[Gz]|fail)<;>first|simp[e_,n_]|simp|skip)
theorem ZvR (f:FSR) (c:CallR) (h:Zg f):Zd Tryz.prog 267 (aCap f c) (encR (toldR ⟨0,(ofD f c.ino 0).1.kind,(ofD f c.ino 0).1.links,sizeS (ofD f c.ino 0).1,.empty,[]⟩ (ofD f c.ino 0).2)):=by
 have h1:=ZoJ f c.ino 0 (by have:=h.len;omega)
 generalize ofD f c.ino 0=L at*
 have h2:=Zfm L.1.kind L.1.links (sizeS L.1) .empty L.2
 have h3:=ZvE L.1
 generalize toldR ⟨0,L.1.kind,L.1.links,sizeS L.1,.empty,[]⟩ L.2=R at*
 refine Pm Tryz.func267 fun hfit=> ?_
 simp[Tryz.f267]
 try simp
 repeat' ((first|((first|refine Tp ?_|refine Tn ?_|refine T2 ?_ ?_)<;>intro h_ e_ n_)|refine Pg h1 ?_|refine Sg h2 ?_|refine Pg h3 ?_|refine Dg 2 9 [] [] ?_|rw[Ip]|rw[In]|rw[Fz]|rw[Gz]|fail)<;>first|simp[e_,n_]|simp|skip)
theorem ZvS (f:FSR) (c:CallR) (h:Zg f) (hc:c.wf):Zd Tryz.prog 270 (aCap f c) (encR (if(ofD f c.ino 1).2≠0 then errR (ofD f c.ino 1).2 else toldR ⟨0,0,0,0,T (readT (bs (ofD f c.ino 1).1.text) c.at_ c.many).1,[]⟩ (readT (bs (ofD f c.ino 1).1.text) c.at_ c.many).2)):=by
 have h1:=ZoJ f c.ino 1 (by have:=h.len;omega)
 have htx:=h.text c.ino
 rw[←Znn f c.ino 1] at htx
 generalize ofD f c.ino 1=L at*
 have h3:=read_ok (bs L.1.text) c.at_ c.many hc.2.2.2.1 hc.2.2.2.2.1 (by rw[ZoK];omega)
 rw[T_bs] at h3
 generalize readT (bs L.1.text) c.at_ c.many=Q at*
 have h2:=Zfm 0 0 0 (T Q.1) Q.2
 generalize toldR ⟨0,0,0,0,T Q.1,[]⟩ Q.2=R at*
 by_cases q:L.2=0
 case neg=>
  rw[if_pos q]
  refine Pm Tryz.func270 fun hfit=> ?_
  simp[Tryz.f270]
  have s_:=An @q (An @errR.eq_1 (@ReplyR.enc.eq_1))
  try simp[s_]
  repeat' ((first|((first|refine Tp ?_|refine Tn ?_|refine T2 ?_ ?_)<;>intro h_ e_ n_)|refine Pg h1 ?_|rw[Ip]|rw[In]|rw[Fz]|rw[Gz]|fail)<;>first|simp[e_,n_,s_]|simp[s_]|skip)
 rw[if_neg (by simpa using q)]
 refine Pm Tryz.func270 fun hfit=> ?_
 simp[Tryz.f270]
 have s_:=q
 try simp[s_]
 repeat' ((first|((first|refine Tp ?_|refine Tn ?_|refine T2 ?_ ?_)<;>intro h_ e_ n_)|refine Pg h1 ?_|refine Sg h2 ?_|refine Pg h3 ?_|rw[Ip]|rw[In]|rw[Fz]|rw[Gz]|fail)<;>first|simp[e_,n_,s_]|simp[s_]|skip)
theorem ZvT (f:FSR) (c:CallR) (h:Zg f):Zd Tryz.prog 272 (aCap f c) (encR (toldR ⟨0,0,0,0,(ofD f c.ino 3).1.text,[]⟩ (ofD f c.ino 3).2)):=by
 have h1:=ZoJ f c.ino 3 (by have:=h.len;omega)
 generalize ofD f c.ino 3=L at*
 have h2:=Zfm 0 0 0 L.1.text L.2
 generalize toldR ⟨0,0,0,0,L.1.text,[]⟩ L.2=R at*
 refine Pm Tryz.func272 fun hfit=> ?_
 simp[Tryz.f272]
 try simp
 repeat' ((first|((first|refine Tp ?_|refine Tn ?_|refine T2 ?_ ?_)<;>intro h_ e_ n_)|refine Pg h1 ?_|refine Sg h2 ?_|rw[Ip]|rw[In]|rw[Fz]|rw[Gz]|fail)<;>first|simp[e_,n_]|simp|skip)
theorem ZvU (f:FSR) (c:CallR) (h:Zg f):Zd Tryz.prog 273 (aCap f c) (encR (toldR ⟨0,0,0,0,.empty,(dirD f c.ino).1.l.map (·.name)⟩ (dirD f c.ino).2)):=by
 have h1:=ZlO f c.ino (by have:=h.len;omega)
 have hrow:=h.dirRow c.ino
 generalize dirD f c.ino=L at*
 have h3:=ZvL L.1.l (by have:=hrow.len;omega)
 generalize L.1.l.map (·.name)=M at*
 have h2:=Ztu ⟨0,0,0,0,.empty,M⟩ L.2
 generalize toldR ⟨0,0,0,0,.empty,M⟩ L.2=R at*
 refine Pm Tryz.func273 fun hfit=> ?_
 simp[Tryz.f273]
 try simp
 repeat' ((first|((first|refine Tp ?_|refine Tn ?_|refine T2 ?_ ?_)<;>intro h_ e_ n_)|refine Pg h1 ?_|refine Pg h2 ?_|refine Pg h3 ?_|rw[Ip]|rw[In]|rw[Fz]|rw[Gz]|fail)<;>first|simp[e_,n_]|simp|skip)
theorem Znp (l:List NodeR) (hl:∀n∈l,n.text.size≤4096):0≤sizesF l∧sizesF l≤l.length*4096:=by
 induction l with
 |nil=>simp[sizesF]
 |cons a l ih=>
  have h1:=hl a (by simp)
  have h2:=ih fun n hn=>hl n (by simp[hn])
  simp only[sizesF,List.map_cons,List.sum_cons,List.length_cons] at*
  omega
theorem ZvV (f:FSR) (h:Zg f):Zd Tryz.prog 276 [.fp f.enc] (encR ⟨0,f.l.length,sizesF f.l,0,.empty,[]⟩):=by
 have hlen:=h.len
 have htx:∀n∈f.l,n.text.size≤4096:=fun n hn=>((Zq n).1 (h.ok n hn)).size
 clear h
 obtain⟨l,next⟩:=f
 simp only at*
 refine Pm Tryz.func276 fun hfit=> ?_
 simp[Tryz.f276,FSR.enc]
 refine AW.loopG (lit:=fun _=>false) (fun i:Nat=>⟨25,pat [(1,.ptr 0 0 0),(2,.ptr 1 0 0),(10,encL NodeR.enc l),(11,I l.length),(12,I i)],[.cells 0 [I 0,I 0,I 0,I 0,S .empty,.sl true 0 []],.cells 0 [I 0,I l.length,I (sizesF (l.take i)),I 0,S .empty,.sl true 0 []]]⟩) (fun i=>l.length -i) (fun i=>i≤l.length) 0 ?_ ?_ ?_
 ·exact Wk.at _ rfl (by simp[sizesF]) (by simp)
 ·simp
 rintro i g1 A hA
 by_cases hi:i<l.length
 case neg=>
  have e:List.take i l=l:=List.take_of_length_le (by omega)
  have s_:=An @hi (An @ReplyR.enc.eq_1 (@e))
  try simp[s_]
  repeat' ((first|((first|refine Tp ?_|refine Tn ?_|refine T2 ?_ ?_)<;>intro h_ e_ n_)|rw[Ip]|rw[In]|rw[Fz]|rw[Gz]|fail)<;>first|simp[e_,n_,s_]|simp[s_]|skip)
 have hwi:=Zi hi (by simp only[maxLen];omega)
 have g2:=Znp (l.take (i+1)) fun n hn=>htx n (List.mem_of_mem_take hn)
 have g3:sizesF (l.take (i+1))=sizesF (l.take i)+l[i].text.size:=by
  rw[List.take_succ_eq_append_getElem hi]
  simp only[sizesF,List.map_append,List.sum_append,List.map_cons,List.map_nil,List.sum_cons,List.sum_nil]
  omega
 have hw2:IntKind.i64.wrap (sizesF (l.take i)+(l[i].text.size:Int))=sizesF (l.take (i+1)):=by
  rw[←g3,Zf (by omega) (by simp at g2;omega)]
 have s_:=An @hi (An @hwi (@hw2))
 try simp[s_]
 repeat' ((first|((first|refine Tp ?_|refine Tn ?_|refine T2 ?_ ?_)<;>intro h_ e_ n_)|(exact hA (i+1) _ Wc hi (by omega))|rw[Ip]|rw[In]|rw[Fz]|rw[Gz]|fail)<;>first|simp[e_,n_,s_]|simp[s_]|skip)
theorem ZqG (c:CallR) (hc:c.wf) (b:ByteArray) (hb:b.size≤4096):Zd Tryz.prog 279 [S b,.fp c.enc] (.tup [S (T (writeT (bs b) c.at_ (bs c.text)).1),I (writeT (bs b) c.at_ (bs c.text)).2]):=by
 have h1:=ZvO (bs b) c.at_ (bs c.text) hc.2.2.2.1 (by rw[ZoK];omega) (by rw[ZoK];have:=hc.2.2.2.2.2.2.2;simp only[maxLen] at this;omega)
 rw[T_bs,T_bs] at h1
 generalize writeT (bs b) c.at_ (bs c.text)=W at*
 refine Pm Tryz.func279 fun hfit=> ?_
 simp[Tryz.f279]
 try simp
 repeat' ((first|((first|refine Tp ?_|refine Tn ?_|refine T2 ?_ ?_)<;>intro h_ e_ n_)|refine Pg h1 ?_|rw[Ip]|rw[In]|rw[Fz]|rw[Gz]|fail)<;>first|simp[e_,n_]|simp|skip)
theorem ZqH (c:CallR) (hc:c.wf) (b:ByteArray) (hb:b.size≤4096):Zd Tryz.prog 282 [S b,.fp c.enc] (.tup [S (T (cutT (bs b) c.many).1),I (cutT (bs b) c.many).2]):=by
 have h1:=cut_ok (bs b) c.many hc.2.2.2.2.1 (by rw[ZoK];omega)
 rw[T_bs] at h1
 generalize cutT (bs b) c.many=W at*
 refine Pm Tryz.func282 fun hfit=> ?_
 simp[Tryz.f282]
 try simp
 repeat' ((first|((first|refine Tp ?_|refine Tn ?_|refine T2 ?_ ?_)<;>intro h_ e_ n_)|refine Pg h1 ?_|rw[Ip]|rw[In]|rw[Fz]|rw[Gz]|fail)<;>first|simp[e_,n_]|simp|skip)
abbrev rTup (x:FSR×ReplyR):AV:= .tup [encF x.1,encR x.2]
theorem Ztv (f:FSR) (c:CallR) (h:Zg f) (hb:f.next<4611686018427387904) (hc:c.wf):
  Zd Tryz.prog 277 (aCap f c) (rTup ((textD f c.ino fun s=>writeT s c.at_ (bs c.text)).1,toldR ⟨0,c.text.size,0,0,.empty,[]⟩ (textD f c.ino fun s=>writeT s c.at_ (bs c.text)).2)):=by
 have h1:=ZoL f c.ino (fun s=>writeT s c.at_ (bs c.text)) 279 c (fun b hb=>ZqG c hc b hb) h hb
 generalize(textD f c.ino fun s=>writeT s c.at_ (bs c.text))=X at*
 have h2:=Zfm c.text.size 0 0 .empty X.2
 generalize toldR ⟨0,c.text.size,0,0,.empty,[]⟩ X.2=R at*
 refine Pm Tryz.func277 fun hfit=> ?_
 simp[Tryz.f277]
 try simp
 repeat' ((first|((first|refine Tp ?_|refine Tn ?_|refine T2 ?_ ?_)<;>intro h_ e_ n_)|refine Pg h1 ?_|refine Sg h2 ?_|refine Dg 2 7 [] [] ?_|rw[Ip]|rw[In]|rw[Fz]|rw[Gz]|fail)<;>first|simp[e_,n_]|simp|skip)
theorem Ztw (f:FSR) (c:CallR) (h:Zg f) (hb:f.next<4611686018427387904) (hc:c.wf):
  Zd Tryz.prog 281 (aCap f c) (rTup ((textD f c.ino fun s=>cutT s c.many).1,errR (textD f c.ino fun s=>cutT s c.many).2)):=by
 have h1:=ZoL f c.ino (fun s=>cutT s c.many) 282 c (fun b hb=>ZqH c hc b hb) h hb
 generalize(textD f c.ino fun s=>cutT s c.many)=X at*
 refine Pm Tryz.func281 fun hfit=> ?_
 simp[Tryz.f281]
 have s_:=An @errR.eq_1 (@ReplyR.enc.eq_1)
 try simp[s_]
 repeat' ((first|((first|refine Tp ?_|refine Tn ?_|refine T2 ?_ ?_)<;>intro h_ e_ n_)|refine Pg h1 ?_|rw[Ip]|rw[In]|rw[Fz]|rw[Gz]|fail)<;>first|simp[e_,n_,s_]|simp[s_]|skip)
theorem Ztx (f:FSR) (c:CallR) (h:Zg f) (hb:f.next<4611686018427387904):Zd Tryz.prog 284 (aCap f c) (rTup (addO f c ⟨0,1,0,.empty,[]⟩)):=by
 have h1:=Zno f c ⟨0,1,0,.empty,[]⟩ h hb
 generalize addO f c ⟨0,1,0,.empty,[]⟩=X at*
 have h1:Zd Tryz.prog 285 [encF f,encC c,.agg [I 0,I 1,I 0,S .empty,.sl false 0 []]] (rTup X):=h1
 refine Pm Tryz.func284 fun hfit=> ?_
 simp[Tryz.f284]
 try simp
 repeat' ((first|((first|refine Tp ?_|refine Tn ?_|refine T2 ?_ ?_)<;>intro h_ e_ n_)|refine Sg h1 ?_|rw[Ip]|rw[In]|rw[Fz]|rw[Gz]|fail)<;>first|simp[e_,n_]|simp|skip)
theorem Zty (f:FSR) (c:CallR) (h:Zg f) (hb:f.next<4611686018427387904):Zd Tryz.prog 286 (aCap f c) (rTup (addO f c ⟨0,2,0,.empty,[]⟩)):=by
 have h1:=Zno f c ⟨0,2,0,.empty,[]⟩ h hb
 generalize addO f c ⟨0,2,0,.empty,[]⟩=X at*
 have h1:Zd Tryz.prog 285 [encF f,encC c,.agg [I 0,I 2,I 0,S .empty,.sl false 0 []]] (rTup X):=h1
 refine Pm Tryz.func286 fun hfit=> ?_
 simp[Tryz.f286]
 try simp
 repeat' ((first|((first|refine Tp ?_|refine Tn ?_|refine T2 ?_ ?_)<;>intro h_ e_ n_)|refine Sg h1 ?_|rw[Ip]|rw[In]|rw[Fz]|rw[Gz]|fail)<;>first|simp[e_,n_]|simp|skip)
theorem Ztz (f:FSR) (c:CallR) (h:Zg f) (hb:f.next<4611686018427387904):Zd Tryz.prog 287 (aCap f c) (rTup (addO f c ⟨0,3,0,c.text,[]⟩)):=by
 have h1:=Zno f c ⟨0,3,0,c.text,[]⟩ h hb
 generalize addO f c ⟨0,3,0,c.text,[]⟩=X at*
 have h1:Zd Tryz.prog 285 [encF f,encC c,.agg [I 0,I 3,I 0,S c.text,.sl false 0 []]] (rTup X):=h1
 refine Pm Tryz.func287 fun hfit=> ?_
 simp[Tryz.f287]
 try simp
 repeat' ((first|((first|refine Tp ?_|refine Tn ?_|refine T2 ?_ ?_)<;>intro h_ e_ n_)|refine Sg h1 ?_|rw[Ip]|rw[In]|rw[Fz]|rw[Gz]|fail)<;>first|simp[e_,n_]|simp|skip)
theorem ZtA (f:FSR) (c:CallR) (h:Zg f) (hb:f.next<4611686018427387904) (hne:(lookD f c.ino c.name).2=0→(lookD f c.ino c.name).1.ino≠c.ino):Zd Tryz.prog 288 (aCap f c) (rTup (removeO f c false)):=by
 have h1:=Zjh f c false h hb hne
 generalize removeO f c false=X at*
 refine Pm Tryz.func288 fun hfit=> ?_
 simp[Tryz.f288]
 try simp
 repeat' ((first|((first|refine Tp ?_|refine Tn ?_|refine T2 ?_ ?_)<;>intro h_ e_ n_)|refine Pg h1 ?_|rw[Ip]|rw[In]|rw[Fz]|rw[Gz]|fail)<;>first|simp[e_,n_]|simp|skip)
theorem ZtB (f:FSR) (c:CallR) (h:Zg f) (hb:f.next<4611686018427387904) (hne:(lookD f c.ino c.name).2=0→(lookD f c.ino c.name).1.ino≠c.ino):Zd Tryz.prog 290 (aCap f c) (rTup (removeO f c true)):=by
 have h1:=Zjh f c true h hb hne
 generalize removeO f c true=X at*
 refine Pm Tryz.func290 fun hfit=> ?_
 simp[Tryz.f290]
 try simp
 repeat' ((first|((first|refine Tp ?_|refine Tn ?_|refine T2 ?_ ?_)<;>intro h_ e_ n_)|refine Pg h1 ?_|rw[Ip]|rw[In]|rw[Fz]|rw[Gz]|fail)<;>first|simp[e_,n_]|simp|skip)
theorem ZtC (f:FSR) (c:CallR) (h:Zg f) (hb:f.next<4611686018427387904):Zd Tryz.prog 291 (aCap f c) (rTup ((giveD f c.ino c.name c.to_).1,errR (giveD f c.ino c.name c.to_).2)):=by
 have h1:=ZvP f c.ino c.name c.to_ h hb
 generalize giveD f c.ino c.name c.to_=X at*
 refine Pm Tryz.func291 fun hfit=> ?_
 simp[Tryz.f291]
 have s_:=An @errR.eq_1 (@ReplyR.enc.eq_1)
 try simp[s_]
 repeat' ((first|((first|refine Tp ?_|refine Tn ?_|refine T2 ?_ ?_)<;>intro h_ e_ n_)|refine Pg h1 ?_|rw[Ip]|rw[In]|rw[Fz]|rw[Gz]|fail)<;>first|simp[e_,n_,s_]|simp[s_]|skip)
theorem ZtD (f:FSR) (c:CallR) (h:Zg f) (hb:f.next<4611686018427387904) (hT:(lookD f c.to_ c.name2).2=0→(lookD f c.to_ c.name2).1.ino≠c.to_):Zd Tryz.prog 293 (aCap f c) (rTup ((moveD f c.ino c.name c.to_ c.name2).1,errR (moveD f c.ino c.name c.to_ c.name2).2)):=by
 have h1:=move_ok f c.ino c.name c.to_ c.name2 h hb hT
 generalize moveD f c.ino c.name c.to_ c.name2=X at*
 refine Pm Tryz.func293 fun hfit=> ?_
 simp[Tryz.f293]
 have s_:=An @errR.eq_1 (@ReplyR.enc.eq_1)
 try simp[s_]
 repeat' ((first|((first|refine Tp ?_|refine Tn ?_|refine T2 ?_ ?_)<;>intro h_ e_ n_)|refine Pg h1 ?_|rw[Ip]|rw[In]|rw[Fz]|rw[Gz]|fail)<;>first|simp[e_,n_,s_]|simp[s_]|skip)
abbrev asksM (f:FSR) (c:CallR):AV:= .fmap [I 1,I 2,I 3,I 13,I 14,I 15] [.fn 264 (aCap f c),.fn 267 (aCap f c),.fn 270 (aCap f c),.fn 272 (aCap f c),.fn 273 (aCap f c),.fn 276 [.fp f.enc]]
theorem asks_ok (f:FSR) (c:CallR):Zd Tryz.prog 237 [encF f,encC c] (asksM f c):=by
 refine Pm Tryz.func237 fun hfit=> ?_
 simp[Tryz.f237]
 try simp
 repeat' ((first|((first|refine Tp ?_|refine Tn ?_|refine T2 ?_ ?_)<;>intro h_ e_ n_)|rw[Ip]|rw[In]|rw[Fz]|rw[Gz]|fail)<;>first|simp[e_,n_]|simp|skip)
abbrev turnsM (f:FSR) (c:CallR):AV:= .fmap [I 4,I 5,I 6,I 7,I 8,I 9,I 10,I 11,I 12] [.fn 277 (aCap f c),.fn 281 (aCap f c),.fn 284 (aCap f c),.fn 286 (aCap f c),.fn 287 (aCap f c),.fn 288 (aCap f c),.fn 290 (aCap f c),.fn 291 (aCap f c),.fn 293 (aCap f c)]
theorem ZvW (f:FSR) (c:CallR):Zd Tryz.prog 238 [encF f,encC c] (turnsM f c):=by
 refine Pm Tryz.func238 fun hfit=> ?_
 simp[Tryz.f238]
 try simp
 repeat' ((first|((first|refine Tp ?_|refine Tn ?_|refine T2 ?_ ?_)<;>intro h_ e_ n_)|rw[Ip]|rw[In]|rw[Fz]|rw[Gz]|fail)<;>first|simp[e_,n_]|simp|skip)
theorem do_ok (f:FSR) (c:CallR) (h:Zg f) (hb:f.next<4611686018427387904) (hc:c.wf) (hk:CalmF f c):Zd Tryz.prog 207 [encF f,encC c] (rTup (doS f c)):=by
 have ha:=asks_ok f c
 have hu:=ZvW f c
 by_cases k1:c.kind=1
 ·have h1:=ZvQ f c h
  have e:doS f c=(f,toldR ⟨0,(lookD f c.ino c.name).1.ino,0,0,.empty,[]⟩ (lookD f c.ino c.name).2):=by unfold doS;rw[k1];rfl
  rw[e]
  generalize toldR ⟨0,(lookD f c.ino c.name).1.ino,0,0,.empty,[]⟩ (lookD f c.ino c.name).2=R at*
  refine Pm Tryz.func207 fun hfit=> ?_
  simp[Tryz.f207]
  have s_:=k1
  try simp[s_]
  repeat' ((first|((first|refine Tp ?_|refine Tn ?_|refine T2 ?_ ?_)<;>intro h_ e_ n_)|refine Pg ha ?_|refine Pg h1 ?_|refine Dg 1 11 [] [] ?_|refine Dg 3 3 [] [] ?_|refine Dg 4 11 [] [] ?_|rw[Ip]|rw[In]|rw[Fz]|rw[Gz]|fail)<;>first|simp[e_,n_,s_]|simp[s_]|skip)
 by_cases k2:c.kind=2
 ·have h1:=ZvR f c h
  have e:doS f c=(f,toldR ⟨0,(ofD f c.ino 0).1.kind,(ofD f c.ino 0).1.links,sizeS (ofD f c.ino 0).1,.empty,[]⟩ (ofD f c.ino 0).2):=by unfold doS;rw[k2];rfl
  rw[e]
  generalize toldR ⟨0,(ofD f c.ino 0).1.kind,(ofD f c.ino 0).1.links,sizeS (ofD f c.ino 0).1,.empty,[]⟩ (ofD f c.ino 0).2=R at*
  refine Pm Tryz.func207 fun hfit=> ?_
  simp[Tryz.f207]
  have s_:=k2
  try simp[s_]
  repeat' ((first|((first|refine Tp ?_|refine Tn ?_|refine T2 ?_ ?_)<;>intro h_ e_ n_)|refine Pg ha ?_|refine Pg h1 ?_|refine Dg 1 11 [] [] ?_|refine Dg 3 3 [] [] ?_|refine Dg 4 11 [] [] ?_|rw[Ip]|rw[In]|rw[Fz]|rw[Gz]|fail)<;>first|simp[e_,n_,s_]|simp[s_]|skip)
 by_cases k3:c.kind=3
 ·have h1:=ZvS f c h hc
  have e:doS f c=(f,if(ofD f c.ino 1).2≠0 then errR (ofD f c.ino 1).2 else toldR ⟨0,0,0,0,T (readT (bs (ofD f c.ino 1).1.text) c.at_ c.many).1,[]⟩ (readT (bs (ofD f c.ino 1).1.text) c.at_ c.many).2):=by unfold doS;rw[k3];rfl
  rw[e]
  generalize(if(ofD f c.ino 1).2≠0 then errR (ofD f c.ino 1).2 else toldR ⟨0,0,0,0,T (readT (bs (ofD f c.ino 1).1.text) c.at_ c.many).1,[]⟩ (readT (bs (ofD f c.ino 1).1.text) c.at_ c.many).2)=R at*
  refine Pm Tryz.func207 fun hfit=> ?_
  simp[Tryz.f207]
  have s_:=k3
  try simp[s_]
  repeat' ((first|((first|refine Tp ?_|refine Tn ?_|refine T2 ?_ ?_)<;>intro h_ e_ n_)|refine Pg ha ?_|refine Pg h1 ?_|refine Dg 1 11 [] [] ?_|refine Dg 3 3 [] [] ?_|refine Dg 4 11 [] [] ?_|rw[Ip]|rw[In]|rw[Fz]|rw[Gz]|fail)<;>first|simp[e_,n_,s_]|simp[s_]|skip)
 by_cases k4:c.kind=4
 ·have h1:=Ztv f c h hb hc
  have e:doS f c=((textD f c.ino fun s=>writeT s c.at_ (bs c.text)).1,toldR ⟨0,c.text.size,0,0,.empty,[]⟩ (textD f c.ino fun s=>writeT s c.at_ (bs c.text)).2):=by unfold doS;rw[k4];rfl
  rw[e]
  generalize((textD f c.ino fun s=>writeT s c.at_ (bs c.text)).1,toldR ⟨0,c.text.size,0,0,.empty,[]⟩ (textD f c.ino fun s=>writeT s c.at_ (bs c.text)).2)=X at*
  refine Pm Tryz.func207 fun hfit=> ?_
  simp[Tryz.f207]
  have s_:=k4
  try simp[s_]
  repeat' ((first|((first|refine Tp ?_|refine Tn ?_|refine T2 ?_ ?_)<;>intro h_ e_ n_)|refine Pg ha ?_|refine Pg hu ?_|refine Pg h1 ?_|refine Dg 1 11 [] [] ?_|refine Dg 3 3 [] [] ?_|refine Dg 4 11 [] [] ?_|rw[Ip]|rw[In]|rw[Fz]|rw[Gz]|fail)<;>first|simp[e_,n_,s_]|simp[s_]|skip)
 by_cases k5:c.kind=5
 ·have h1:=Ztw f c h hb hc
  have e:doS f c=((textD f c.ino fun s=>cutT s c.many).1,errR (textD f c.ino fun s=>cutT s c.many).2):=by unfold doS;rw[k5];rfl
  rw[e]
  generalize((textD f c.ino fun s=>cutT s c.many).1,errR (textD f c.ino fun s=>cutT s c.many).2)=X at*
  refine Pm Tryz.func207 fun hfit=> ?_
  simp[Tryz.f207]
  have s_:=k5
  try simp[s_]
  repeat' ((first|((first|refine Tp ?_|refine Tn ?_|refine T2 ?_ ?_)<;>intro h_ e_ n_)|refine Pg ha ?_|refine Pg hu ?_|refine Pg h1 ?_|refine Dg 1 11 [] [] ?_|refine Dg 3 3 [] [] ?_|refine Dg 4 11 [] [] ?_|rw[Ip]|rw[In]|rw[Fz]|rw[Gz]|fail)<;>first|simp[e_,n_,s_]|simp[s_]|skip)
 by_cases k6:c.kind=6
 ·have h1:=Ztx f c h hb
  have e:doS f c=addO f c ⟨0,1,0,.empty,[]⟩:=by unfold doS;rw[k6];rfl
  rw[e]
  generalize addO f c ⟨0,1,0,.empty,[]⟩=X at*
  refine Pm Tryz.func207 fun hfit=> ?_
  simp[Tryz.f207]
  have s_:=k6
  try simp[s_]
  repeat' ((first|((first|refine Tp ?_|refine Tn ?_|refine T2 ?_ ?_)<;>intro h_ e_ n_)|refine Pg ha ?_|refine Pg hu ?_|refine Pg h1 ?_|refine Dg 1 11 [] [] ?_|refine Dg 3 3 [] [] ?_|refine Dg 4 11 [] [] ?_|rw[Ip]|rw[In]|rw[Fz]|rw[Gz]|fail)<;>first|simp[e_,n_,s_]|simp[s_]|skip)
 by_cases k7:c.kind=7
 ·have h1:=Zty f c h hb
  have e:doS f c=addO f c ⟨0,2,0,.empty,[]⟩:=by unfold doS;rw[k7];rfl
  rw[e]
  generalize addO f c ⟨0,2,0,.empty,[]⟩=X at*
  refine Pm Tryz.func207 fun hfit=> ?_
  simp[Tryz.f207]
  have s_:=k7
  try simp[s_]
  repeat' ((first|((first|refine Tp ?_|refine Tn ?_|refine T2 ?_ ?_)<;>intro h_ e_ n_)|refine Pg ha ?_|refine Pg hu ?_|refine Pg h1 ?_|refine Dg 1 11 [] [] ?_|refine Dg 3 3 [] [] ?_|refine Dg 4 11 [] [] ?_|rw[Ip]|rw[In]|rw[Fz]|rw[Gz]|fail)<;>first|simp[e_,n_,s_]|simp[s_]|skip)
 by_cases k8:c.kind=8
 ·have h1:=Ztz f c h hb
  have e:doS f c=addO f c ⟨0,3,0,c.text,[]⟩:=by unfold doS;rw[k8];rfl
  rw[e]
  generalize addO f c ⟨0,3,0,c.text,[]⟩=X at*
  refine Pm Tryz.func207 fun hfit=> ?_
  simp[Tryz.f207]
  have s_:=k8
  try simp[s_]
  repeat' ((first|((first|refine Tp ?_|refine Tn ?_|refine T2 ?_ ?_)<;>intro h_ e_ n_)|refine Pg ha ?_|refine Pg hu ?_|refine Pg h1 ?_|refine Dg 1 11 [] [] ?_|refine Dg 3 3 [] [] ?_|refine Dg 4 11 [] [] ?_|rw[Ip]|rw[In]|rw[Fz]|rw[Gz]|fail)<;>first|simp[e_,n_,s_]|simp[s_]|skip)
 by_cases k9:c.kind=9
 ·have h1:=ZtA f c h hb (hk.here (.inl k9))
  have e:doS f c=removeO f c false:=by unfold doS;rw[k9];rfl
  rw[e]
  generalize removeO f c false=X at*
  refine Pm Tryz.func207 fun hfit=> ?_
  simp[Tryz.f207]
  have s_:=k9
  try simp[s_]
  repeat' ((first|((first|refine Tp ?_|refine Tn ?_|refine T2 ?_ ?_)<;>intro h_ e_ n_)|refine Pg ha ?_|refine Pg hu ?_|refine Pg h1 ?_|refine Dg 1 11 [] [] ?_|refine Dg 3 3 [] [] ?_|refine Dg 4 11 [] [] ?_|rw[Ip]|rw[In]|rw[Fz]|rw[Gz]|fail)<;>first|simp[e_,n_,s_]|simp[s_]|skip)
 by_cases k10:c.kind=10
 ·have h1:=ZtB f c h hb (hk.here (.inr k10))
  have e:doS f c=removeO f c true:=by unfold doS;rw[k10];rfl
  rw[e]
  generalize removeO f c true=X at*
  refine Pm Tryz.func207 fun hfit=> ?_
  simp[Tryz.f207]
  have s_:=k10
  try simp[s_]
  repeat' ((first|((first|refine Tp ?_|refine Tn ?_|refine T2 ?_ ?_)<;>intro h_ e_ n_)|refine Pg ha ?_|refine Pg hu ?_|refine Pg h1 ?_|refine Dg 1 11 [] [] ?_|refine Dg 3 3 [] [] ?_|refine Dg 4 11 [] [] ?_|rw[Ip]|rw[In]|rw[Fz]|rw[Gz]|fail)<;>first|simp[e_,n_,s_]|simp[s_]|skip)
 by_cases k11:c.kind=11
 ·have h1:=ZtC f c h hb
  have e:doS f c=((giveD f c.ino c.name c.to_).1,errR (giveD f c.ino c.name c.to_).2):=by unfold doS;rw[k11];rfl
  rw[e]
  generalize((giveD f c.ino c.name c.to_).1,errR (giveD f c.ino c.name c.to_).2)=X at*
  refine Pm Tryz.func207 fun hfit=> ?_
  simp[Tryz.f207]
  have s_:=k11
  try simp[s_]
  repeat' ((first|((first|refine Tp ?_|refine Tn ?_|refine T2 ?_ ?_)<;>intro h_ e_ n_)|refine Pg ha ?_|refine Pg hu ?_|refine Pg h1 ?_|refine Dg 1 11 [] [] ?_|refine Dg 3 3 [] [] ?_|refine Dg 4 11 [] [] ?_|rw[Ip]|rw[In]|rw[Fz]|rw[Gz]|fail)<;>first|simp[e_,n_,s_]|simp[s_]|skip)
 by_cases k12:c.kind=12
 ·have h1:=ZtD f c h hb (hk.there k12)
  have e:doS f c=((moveD f c.ino c.name c.to_ c.name2).1,errR (moveD f c.ino c.name c.to_ c.name2).2):=by unfold doS;rw[k12];rfl
  rw[e]
  generalize((moveD f c.ino c.name c.to_ c.name2).1,errR (moveD f c.ino c.name c.to_ c.name2).2)=X at*
  refine Pm Tryz.func207 fun hfit=> ?_
  simp[Tryz.f207]
  have s_:=k12
  try simp[s_]
  repeat' ((first|((first|refine Tp ?_|refine Tn ?_|refine T2 ?_ ?_)<;>intro h_ e_ n_)|refine Pg ha ?_|refine Pg hu ?_|refine Pg h1 ?_|refine Dg 1 11 [] [] ?_|refine Dg 3 3 [] [] ?_|refine Dg 4 11 [] [] ?_|rw[Ip]|rw[In]|rw[Fz]|rw[Gz]|fail)<;>first|simp[e_,n_,s_]|simp[s_]|skip)
 by_cases k13:c.kind=13
 ·have h1:=ZvT f c h
  have e:doS f c=(f,toldR ⟨0,0,0,0,(ofD f c.ino 3).1.text,[]⟩ (ofD f c.ino 3).2):=by unfold doS;rw[k13];rfl
  rw[e]
  generalize toldR ⟨0,0,0,0,(ofD f c.ino 3).1.text,[]⟩ (ofD f c.ino 3).2=R at*
  refine Pm Tryz.func207 fun hfit=> ?_
  simp[Tryz.f207]
  have s_:=k13
  try simp[s_]
  repeat' ((first|((first|refine Tp ?_|refine Tn ?_|refine T2 ?_ ?_)<;>intro h_ e_ n_)|refine Pg ha ?_|refine Pg h1 ?_|refine Dg 1 11 [] [] ?_|refine Dg 3 3 [] [] ?_|refine Dg 4 11 [] [] ?_|rw[Ip]|rw[In]|rw[Fz]|rw[Gz]|fail)<;>first|simp[e_,n_,s_]|simp[s_]|skip)
 by_cases k14:c.kind=14
 ·have h1:=ZvU f c h
  have e:doS f c=(f,toldR ⟨0,0,0,0,.empty,(dirD f c.ino).1.l.map (·.name)⟩ (dirD f c.ino).2):=by unfold doS;rw[k14];rfl
  rw[e]
  generalize toldR ⟨0,0,0,0,.empty,(dirD f c.ino).1.l.map (·.name)⟩ (dirD f c.ino).2=R at*
  refine Pm Tryz.func207 fun hfit=> ?_
  simp[Tryz.f207]
  have s_:=k14
  try simp[s_]
  repeat' ((first|((first|refine Tp ?_|refine Tn ?_|refine T2 ?_ ?_)<;>intro h_ e_ n_)|refine Pg ha ?_|refine Pg h1 ?_|refine Dg 1 11 [] [] ?_|refine Dg 3 3 [] [] ?_|refine Dg 4 11 [] [] ?_|rw[Ip]|rw[In]|rw[Fz]|rw[Gz]|fail)<;>first|simp[e_,n_,s_]|simp[s_]|skip)
 by_cases k15:c.kind=15
 ·have h1:=ZvV f h
  have e:doS f c=(f,(⟨0,f.l.length,sizesF f.l,0,.empty,[]⟩:ReplyR)):=by unfold doS;rw[k15];rfl
  rw[e]
  generalize(⟨0,f.l.length,sizesF f.l,0,.empty,[]⟩:ReplyR)=R at*
  refine Pm Tryz.func207 fun hfit=> ?_
  simp[Tryz.f207]
  have s_:=k15
  try simp[s_]
  repeat' ((first|((first|refine Tp ?_|refine Tn ?_|refine T2 ?_ ?_)<;>intro h_ e_ n_)|refine Pg ha ?_|refine Pg h1 ?_|refine Dg 1 11 [] [] ?_|refine Dg 3 3 [] [] ?_|refine Dg 4 11 [] [] ?_|rw[Ip]|rw[In]|rw[Fz]|rw[Gz]|fail)<;>first|simp[e_,n_,s_]|simp[s_]|skip)
 have e:doS f c=(f,errR 1):=by unfold doS;rw[if_neg k1,if_neg k2,if_neg k3,if_neg k4,if_neg k5,if_neg k6,if_neg k7,if_neg k8,if_neg k9,if_neg k10,if_neg k11,if_neg k12,if_neg k13,if_neg k14,if_neg k15]
 rw[e]
 have b1:(c.kind==1)=false:=by simpa using k1
 have b2:(c.kind==2)=false:=by simpa using k2
 have b3:(c.kind==3)=false:=by simpa using k3
 have b4:(c.kind==4)=false:=by simpa using k4
 have b5:(c.kind==5)=false:=by simpa using k5
 have b6:(c.kind==6)=false:=by simpa using k6
 have b7:(c.kind==7)=false:=by simpa using k7
 have b8:(c.kind==8)=false:=by simpa using k8
 have b9:(c.kind==9)=false:=by simpa using k9
 have b10:(c.kind==10)=false:=by simpa using k10
 have b11:(c.kind==11)=false:=by simpa using k11
 have b12:(c.kind==12)=false:=by simpa using k12
 have b13:(c.kind==13)=false:=by simpa using k13
 have b14:(c.kind==14)=false:=by simpa using k14
 have b15:(c.kind==15)=false:=by simpa using k15
 refine Pm Tryz.func207 fun hfit=> ?_
 simp[Tryz.f207]
 have s_:=An @b1 (An @b2 (An @b3 (An @b4 (An @b5 (An @b6 (An @b7 (An @b8 (An @b9 (An @b10 (An @b11 (An @b12 (An @b13 (An @b14 (An @b15 (An @errR.eq_1 (@ReplyR.enc.eq_1))))))))))))))))
 try simp[s_]
 repeat' ((first|((first|refine Tp ?_|refine Tn ?_|refine T2 ?_ ?_)<;>intro h_ e_ n_)|refine Pg ha ?_|refine Pg hu ?_|refine Dg 1 11 [] [] ?_|refine Dg 3 3 [] [] ?_|refine Dg 4 11 [] [] ?_|rw[Ip]|rw[In]|rw[Fz]|rw[Gz]|fail)<;>first|simp[e_,n_,s_]|simp[s_]|skip)
theorem ZqI (a b:List ByteArray):Zd Tryz.prog 85 [enc1 S a,enc1 S b] (B (decide (a=b))):=by
 refine Pm Tryz.func85 fun hfit=> ?_
 simp at hfit
 simp[Tryz.f85]
 by_cases hl:a.length=b.length
 case neg=>
  have:¬a=b:=fun e=>hl (by rw[e])
  simp[hl,this]
 simp[hl]
 refine AW.loopF (lit:=fun _=>false) (fun i:Nat=>⟨26,pat [(0,enc1 S a),(1,enc1 S b),(5,I i)],[]⟩) (fun i=>b.length -i) (fun i=>i≤b.length∧a.take i=b.take i) 0 ?_ ?_ ?_
 ·exact Wz
 ·simp
 ·rintro i ⟨hi,ht⟩
  simp
  refine ZcG _ _ (fun h=> ?_) (fun h=> ?_)
  ·simp at h
   have ha:i<a.length:=by omega
   simp
   refine Dg _ 9 [] [] ?_
   have hb:i<b.length:=by omega
   simp[ha,hb]
   refine ZcG _ _ (fun h2=> ?_) (fun h2=> ?_)
   ·simp at h2
    have:¬a=b:=fun e=>by subst e;exact h2 rfl
    simp[this]
   ·simp at h2
    simp[Zi ha hfit.1]
    exact⟨i+1,Wz,⟨by omega,take_step ht ha hb h2⟩,by omega⟩
  ·simp at h
   have:=ZbN ht (by omega) (by omega)
   simp[this]
theorem ZoM (a b:ReplyR):Zd Tryz.prog 44 [.agg a.enc,.agg b.enc] (B (decide (a=b))):=by
 refine Pm Tryz.func44 fun hfit=> ?_
 simp only[ReplyR.eq_iff]
 simp[ReplyR.enc,Tryz.f44]
 refine AInv.pure (ZqI a.names b.names) rfl ?_
 by_cases h1:a.names=b.names
 case neg=>simp[h1]
 by_cases h2:a.e=b.e
 case neg=>simp[h1,h2]
 by_cases h3:a.a=b.a
 case neg=>simp[h1,h2,h3]
 by_cases h4:a.b=b.b
 case neg=>simp[h1,h2,h3,h4]
 by_cases h5:a.n=b.n
 case neg=>simp[h1,h2,h3,h4,h5]
 simp[h1,h2,h3,h4,h5]
theorem ZvX (l:List CallR):Zd Tryz.prog 10 [Zgj l] (B (ZiG l)):=by
 refine Pm Tryz.func10 fun hfit=> ?_
 simp at hfit
 simp[Tryz.f10]
 refine AW.loopF (lit:=fun _=>false) (fun x:Nat×Int=>⟨46,pat [(0,Zgj l),(3,I x.2),(4,I x.1)],[]⟩) (fun x=>l.length -x.1) (fun x=>x.1≤l.length∧ZbR (l.drop x.1) x.2=ZbR l l.length) (0,l.length) ?_ ?_ ?_
 ·exact Wz
 ·simp
 ·rintro⟨i,n⟩ ⟨hi,ht⟩
  simp only at hi ht
  simp
  by_cases h:i<l.length
  case neg=>
   have:ZbR l l.length=n:=by rw[←ht,List.drop_eq_nil_of_le (by omega)];rfl
   by_cases h2:n≤2000
   ·by_cases h3:l.length≤30
    ·simp[h,h2,ZiG,this]
    ·simp[h,h2,ZiG,this]
   ·simp[h,h2,ZiG,this]
  by_cases h2:n≤2000
  case neg=>
   have:ZbR l l.length=n:=by rw[←ht,ZmT _ _ h2]
   simp[h,h2,ZiG,this]
  simp[h,h2]
  refine Dg _ 22 [] [] ?_
  simp[h,CallR.enc,Zi h hfit.1]
  refine⟨i+1,_,Wk.keep _ (by simp;rfl),⟨by omega,?_⟩,by omega⟩
  rw[←ht,Zlk h n h2]
theorem ZoN (ver:Nat) (l:List Int) (hl:l.length<4611686018427387904):Zep Tryz.prog 198 [.own 0 ver 0 l.length 1] [.cells ver (l.map I)] (.tup []) [.cells ver ((sortI l).map I)]:=
 ZpP (Ent.mk Tryz.func198 (by kernel_rfl) rfl) (fun blk off cap zs w h1 h2 h3=>Tryz.slices_Sort_int blk off cap zs w h1 h2 h3) (fun p cap w=>Tryz.slices_Sort_int_none p cap w) ver l hl
theorem ZhL (ver:Nat) (l:List Int) (hl:l.length≤9223372036854775807):Zep Tryz.prog 199 [.own 0 ver 0 l.length 1] [.cells ver (l.map I)] (.own 0 ver 0 (Lib.compact l).length 1) [.cells ver ((Lib.compact l++List.replicate (l.length -(Lib.compact l).length) 0).map I)]:=
 ZjP (Ent.mk Tryz.func199 (by kernel_rfl) rfl) Lib.compact Zhi (fun zs h=>ZmU h) (fun blk off cap zs w h1 h2 h3=>Tryz.slices_Compact_int blk off cap zs w h1 h2 h3) (fun p cap w=>Tryz.slices_Compact_int_empty p cap w) ver l hl
theorem Znq (ver:Nat) (l:List Int) (hl:l.length<4611686018427387904):Zep Tryz.prog 243 [.own 0 ver 0 l.length 1] [.cells ver (l.map I)] (.own 0 ver 0 (numsS l).length 1) [.cells ver ((numsS l++List.replicate (l.length -(numsS l).length) 0).map I)]:=by
 have h1:=ZoN ver l hl
 have hsl:(sortI l).length=l.length:=List.length_mergeSort _
 have h2:=ZhL ver (sortI l) (by omega)
 rw[show Lib.compact (sortI l)=numsS l from Zdo l,hsl] at h2
 generalize sortI l=z at*
 generalize numsS l=q at*
 refine Zep.mk' (fun _=>false) Tryz.func243 rfl rfl rfl (Ent.mk Tryz.func243 (by kernel_rfl) rfl) (by simp) (by simp) (by simp) (by simp) (by simp) fun hfit=> ?_
 simp[Tryz.f243]
 refine AInv.heap [0] h1 (by simp) (by simp) ?_
 simp
 refine AInv.heap [0] h2 (by simp) (by simp) ?_
 simp
theorem ZfL (ver:Nat) (l:List Int) (hl:l.length<4611686018427387904):Zep Tryz.prog 243 [.own 0 ver 0 l.length 1] [.cells ver (l.map I)] (.own 0 ver 0 (numsS l).length 1) [.cells ver ((numsS l).map I)]:=by
 obtain⟨h1,h2,h3,h4,h5,h6,h7⟩:=Znq ver l hl
 refine⟨h1,h2,h3,rfl,by simp,h6,fun Z κ w cargs r hr=> ?_⟩
 refine(h7 Z κ w cargs r hr).mono ?_
 rintro e w' ⟨v,h',Z',κ',c,⟨rfl,rfl⟩,he,r',hv,ex,st⟩
 have hb:=r'.blk 0 _ rfl
 have hp:=Zit (numsS l).length hb
 have e2:((numsS l++List.replicate (l.length -(numsS l).length) 0).map I).take (numsS l).length=(numsS l).map I:=by simp
 rw[e2] at hp
 have r2:=r'.reblk (id:=0) (by simp) hp
 exact⟨_,_,Z',κ',c,⟨rfl,rfl⟩,he,r2,hv,ex,st⟩
abbrev ZT (f:FSR) (d:Int) (s:ByteArray):List Int:=if(findE (findB f.l d).1.l s).2=true then[(findE (findB f.l d).1.l s).1] else[]
abbrev Zcg (f:FSR) (c:CallR) (d:Int):List Int:=[c.name,c.name2].flatMap (ZT f d)
def ZaL (f:FSR) (c:CallR):List Int:=[c.ino,c.to_]++[c.ino,c.to_].flatMap (Zcg f c)
theorem ZvY (l:List Int) (f:FSR) (d:Int) (s:ByteArray):ZbA l f d s=(ZT f d s).foldl Zbz l:=by
 unfold ZbA ZT
 split<;>rfl
theorem ZvZ (f:FSR) (c:CallR) (h:c.kind≠15):looksS f c=numsS (ZaL f c):=by
 unfold looksS
 rw[if_neg h]
 simp only[ZvY,numsS,ZaL,Zcg,List.flatMap_cons,List.flatMap_nil,List.append_nil,List.foldl_append,List.foldl_cons,List.foldl_nil]
theorem ZqJ (f:FSR) (c:CallR):(ZaL f c).length≤6:=by
 have h:∀d s,(ZT f d s).length≤1:=fun d s=>by unfold ZT;split<;>simp
 have h1:=h c.ino c.name
 have h2:=h c.ino c.name2
 have h3:=h c.to_ c.name
 have h4:=h c.to_ c.name2
 simp only[ZaL,Zcg,List.flatMap_cons,List.flatMap_nil,List.append_nil,List.length_append,List.length_cons,List.length_nil]
 omega
theorem Zwa (m:Nat) (hm:m≤1000000):XCall Tryz.prog 300 [.sl true 0 [],I m] [] (.own 0 0 0 0 5) [.cells 0 []]:=by
 have hw:IntKind.i64.wrap (m:Int)=m:=Zf (by omega) (by omega)
 by_cases h0:m=0
 ·subst h0
  refine XCall.mkG (fun s (_:Unit)=>s) (fun _=>false) Tryz.func300 rfl rfl rfl (Ent.mk Tryz.func300 (by kernel_rfl) rfl) (by simp) (by simp) (by simp) (by simp) (by simp) fun hfit=> ?_
  refine⟨WkE.one _ _,fun _=> ?_⟩
  have s_:=An (@Tryz.f300.eq_1) (@hw)
  try simp[s_]
  repeat' ((first|((first|refine Tp ?_|refine Tn ?_|refine T2 ?_ ?_)<;>intro h_ e_ n_)|rw[Ip]|rw[In]|rw[Fz]|rw[Gz]|fail)<;>first|simp[e_,n_,s_]|simp[s_]|skip)
  exact⟨_,Wk.ownNil 4 5 (by simp),by simp⟩
 ·refine XCall.mkG (fun s (_:Unit)=>s) (fun _=>false) Tryz.func300 rfl rfl rfl (Ent.mk Tryz.func300 (by kernel_rfl) rfl) (by simp) (by simp) (by simp) (by simp) (by simp) fun hfit=> ?_
  refine⟨WkE.one _ _,fun _=> ?_⟩
  have h1:0<m:=by omega
  have hx:m≤maxLen:=by simp only[maxLen];omega
  have s_:=An (@Tryz.f300.eq_1) (An @hw (An @h0 (An @h1 (@hx))))
  try simp[s_]
  repeat' ((first|((first|refine Tp ?_|refine Tn ?_|refine T2 ?_ ?_)<;>intro h_ e_ n_)|rw[Ip]|rw[In]|rw[Fz]|rw[Gz]|fail)<;>first|simp[e_,n_,s_]|simp[s_]|skip)
  exact⟨_,Wk.prefix 0 0 0 rfl rfl,by simp⟩
theorem ZqK (a b:List NodeR) (ha:a.length≤400000) (hb:b.length≤400000):Zd Tryz.prog 242 [.sl false 2 [encL NodeR.enc a,encL NodeR.enc b]] (encL NodeR.enc (a++b)):=by
 have hg:=Zwa (a.length+b.length) (by omega)
 have hw1:IntKind.i64.wrap (a.length:Int)=a.length:=Zf (by omega) (by omega)
 have hw2:IntKind.i64.wrap ((a.length:Int)+b.length)=((a.length+b.length:Nat):Int):=by rw[Zf (by omega) (by omega)];omega
 refine Pm Tryz.func242 fun hfit=> ?_
 simp[Tryz.f242]
 refine AW.loopG (lit:=fun _=>false) (fun i:Nat=>⟨36,pat [(0,.sl false 2 [encL NodeR.enc a,encL NodeR.enc b]),(3,I (if i=0 then 0 else if i=1 then a.length else a.length+b.length:Nat)),(9,.sl false 2 [encL NodeR.enc a,encL NodeR.enc b]),(10,I 2),(11,I i)],[]⟩) (fun i=>2 -i) (fun i=>i≤2) 0 ?_ ?_ ?_
 ·exact Wa
 ·simp
 rintro i g1 A hA
 have hi:i=0∨i=1∨i=2:=by omega
 rcases hi with rfl|rfl|rfl
 ·have s_:=hw1
  try simp[s_]
  repeat' ((first|((first|refine Tp ?_|refine Tn ?_|refine T2 ?_ ?_)<;>intro h_ e_ n_)|(exact hA 1 _ Wa (by simp) (by simp))|rw[Ip]|rw[In]|rw[Fz]|rw[Gz]|fail)<;>first|simp[e_,n_,s_]|simp[s_]|skip)
 ·have s_:=hw2
  try simp[s_]
  repeat' ((first|((first|refine Tp ?_|refine Tn ?_|refine T2 ?_ ?_)<;>intro h_ e_ n_)|(exact hA 2 _ Wa (by simp) (by simp))|rw[Ip]|rw[In]|rw[Fz]|rw[Gz]|fail)<;>first|simp[e_,n_,s_]|simp[s_]|skip)
 ·try simp
  repeat' ((first|((first|refine Tp ?_|refine Tn ?_|refine T2 ?_ ?_)<;>intro h_ e_ n_)|(refine AInv.fresh [] hg (by simp) (by simp) ?_;simp)|rw[Ip]|rw[In]|rw[Fz]|rw[Gz]|fail)<;>first|simp[e_,n_]|simp|skip)
  refine AW.loopG (lit:=fun _=>false) (fun x:Nat×Nat×List NodeR=>⟨36,pat [(6,.own 0 x.2.1 0 x.2.2.length 5),(25,.sl false 2 [encL NodeR.enc a,encL NodeR.enc b]),(26,I 2),(27,I x.1)],[.cells x.2.1 (x.2.2.flatMap NodeR.enc)]⟩) (fun x=>2 -x.1) (fun x=>x.1≤2∧x.2.2=if x.1=0 then[] else if x.1=1 then a else a++b) (0,0,[]) ?_ ?_ ?_
  ·exact Wa
  ·simp
  rintro⟨j,ver,acc⟩ ⟨k1,k2⟩ A2 hA2
  simp only at k1 k2 hA2
  have hj:j=0∨j=1∨j=2:=by omega
  rcases hj with rfl|rfl|rfl
  ·have k2:acc=[]:=k2
   subst k2
   have hx:a.length≤maxLen:=by simp only[maxLen];omega
   have s_:=hx
   try simp[s_]
   repeat' ((first|((first|refine Tp ?_|refine Tn ?_|refine T2 ?_ ?_)<;>intro h_ e_ n_)|(exact hA2 (1,ver+1,a) _ Wc ⟨by simp,by simp⟩ (by simp))|rw[Ip]|rw[In]|rw[Fz]|rw[Gz]|fail)<;>first|simp[e_,n_,s_]|simp[s_]|skip)
  ·have k2:acc=a:=k2
   subst k2
   have hx:acc.length+b.length≤maxLen:=by simp only[maxLen];omega
   have s_:=hx
   try simp[s_]
   repeat' ((first|((first|refine Tp ?_|refine Tn ?_|refine T2 ?_ ?_)<;>intro h_ e_ n_)|(exact hA2 (2,ver+1,acc++b) _ Wc ⟨by simp,by simp⟩ (by simp))|rw[Ip]|rw[In]|rw[Fz]|rw[Gz]|fail)<;>first|simp[e_,n_,s_]|simp[s_]|skip)
  ·have k2:acc=a++b:=k2
   subst k2
   try simp
   repeat' ((first|((first|refine Tp ?_|refine Tn ?_|refine T2 ?_ ?_)<;>intro h_ e_ n_)|rw[Ip]|rw[In]|rw[Fz]|rw[Gz]|fail)<;>first|simp[e_,n_]|simp|skip)
theorem chg_set (k:Int) (y:NodeR):setMany [AV.val (.int .i64 k),AV.val (.bool false),AV.val (.int .i64 0),AV.val (.int .i64 0),AV.val (.int .i64 0),AV.val (.string .empty),AV.sl true 0 []] 2 y.enc=(⟨k,false,y⟩:ChangeR).enc:=rfl
theorem ZqL (a b:FSR) (ha:a.l.length≤100000) (hb:b.l.length≤100000):Zd Tryz.prog 211 [encF a,encF b] (encL ChangeR.enc (changesS a b)):=by
 have hcc:=ZqK a.l b.l (by omega) (by omega)
 have hall:(a.l++b.l).length=a.l.length+b.l.length:=List.length_append
 have ech:changesS a b=(numsS ((a.l++b.l).map (·.ino))).flatMap (changeS a b):=by rw[changesS,List.map_append]
 rw[ech]
 generalize hL:a.l++b.l=L at*
 refine Pm Tryz.func211 fun hfit=> ?_
 simp[Tryz.f211,FSR.enc]
 try simp
 repeat' ((first|((first|refine Tp ?_|refine Tn ?_|refine T2 ?_ ?_)<;>intro h_ e_ n_)|refine Sg hcc ?_|rw[Ip]|rw[In]|rw[Fz]|rw[Gz]|fail)<;>first|simp[e_,n_]|simp|skip)
 refine AW.loopG (lit:=fun _=>false) (fun x:Nat×List Int=>⟨76,pat [(2,.ptr 0 0 0),(3,.ptr 1 0 0),(5,.own 2 x.2.length 0 x.2.length 1),(20,encL NodeR.enc L),(21,I L.length),(22,I x.1)],[.cells 0 [encL NodeR.enc a.l,I a.next],.cells 0 [encL NodeR.enc b.l,I b.next],.cells x.2.length (x.2.map I)]⟩) (fun x=>L.length -x.1) (fun x=>x.1≤L.length∧x.2.length=x.1∧x.2++(L.drop x.1).map (·.ino)=L.map (·.ino)) (0,[]) ?_ ?_ ?_
 ·exact Wk.trans (Wk.ownNil 5 1 (by simp)) Wa
 ·simp
 rintro⟨i,acc⟩ ⟨g1,g2,g3⟩ A hA
 simp only at g1 g2 g3 hA
 by_cases hi:i<L.length
 case pos=>
  have hwi:=Zi hi (by simp only[maxLen];omega)
  have hm:acc.length+1≤maxLen:=by simp only[maxLen];omega
  rw[List.drop_eq_getElem_cons hi,List.map_cons] at g3
  have hal:(acc++[L[i].ino]).length=acc.length+1:=by simp
  have s_:=An @hi (An @hwi (An @hm ((show acc.length+1≤17592186044416 by omega))))
  try simp[s_]
  repeat' ((first|((first|refine Tp ?_|refine Tn ?_|refine T2 ?_ ?_)<;>intro h_ e_ n_)|(exact hA (i+1,acc++[L[i].ino]) _ Wc ⟨hi,by simp only[hal];omega,by simpa using g3⟩ (by simp only;omega))|rw[Ip]|rw[In]|rw[Fz]|rw[Gz]|fail)<;>first|simp[e_,n_,s_]|simp[s_]|skip)
 rw[List.drop_eq_nil_of_le (by omega),List.map_nil,List.append_nil] at g3
 have hnum:=ZfL acc.length acc (by omega)
 obtain⟨q,hq⟩:∃q,q=numsS (L.map (·.ino)):=⟨_,rfl⟩
 rw[g3,←hq] at hnum
 rw[←hq]
 have hql:q.length≤1000000:=by
  have h1:=Zdo (L.map (·.ino))
  have h2:=Zhi ((L.map (·.ino)).mergeSort fun x y=>decide (x≤y))
  rw[h1,←hq,List.length_mergeSort,List.length_map] at h2
  omega
 rw[←g3] at hnum
 have s_:=hi
 try simp[s_]
 repeat' ((first|((first|refine Tp ?_|refine Tn ?_|refine T2 ?_ ?_)<;>intro h_ e_ n_)|(refine AInv.heap [2] hnum (by simp) (by simp) ?_;simp)|rw[Ip]|rw[In]|rw[Fz]|rw[Gz]|fail)<;>first|simp[e_,n_,s_]|simp[s_]|skip)
 generalize acc.length=ver at*
 refine AW.loopG (lit:=fun _=>false) (fun x:Nat×List ChangeR=>⟨76,pat [(2,.ptr 0 0 0),(3,.ptr 1 0 0),(8,.own 3 x.2.length 0 x.2.length 7),(33,.own 2 ver 0 q.length 1),(34,I q.length),(35,I x.1)],[.cells 0 [encL NodeR.enc a.l,I a.next],.cells 0 [encL NodeR.enc b.l,I b.next],.cells ver (q.map I),.cells x.2.length (x.2.flatMap ChangeR.enc)]⟩) (fun x=>q.length -x.1) (fun x=>x.1≤q.length∧x.2.length≤x.1∧x.2++(q.drop x.1).flatMap (changeS a b)=q.flatMap (changeS a b)) (0,[]) ?_ ?_ ?_
 ·exact Wk.trans (Wk.ownNil 8 7 (by simp)) Wa
 ·simp
 rintro⟨j,out⟩ ⟨k1,k2,k3⟩ A2 hA2
 simp only at k1 k2 k3 hA2
 by_cases hj:j<q.length
 case neg=>
  rw[List.drop_eq_nil_of_le (by omega),List.flatMap_nil,List.append_nil] at k3
  rw[←k3]
  have s_:=hj
  try simp[s_]
  repeat' ((first|((first|refine Tp ?_|refine Tn ?_|refine T2 ?_ ?_)<;>intro h_ e_ n_)|rw[Ip]|rw[In]|rw[Fz]|rw[Gz]|fail)<;>first|simp[e_,n_,s_]|simp[s_]|skip)
 rw[List.drop_eq_getElem_cons hj,List.flatMap_cons] at k3
 have hwj:=Zi hj (by simp only[maxLen];omega)
 have hm:out.length+1≤maxLen:=by simp only[maxLen];omega
 have f1:Zd Tryz.prog 120 [.agg [encL NodeR.enc a.l,I a.next],I q[j]] (.tup [encN (findB a.l q[j]).1,B (findB a.l q[j]).2]):=find_ok a q[j] (by omega)
 have f2:Zd Tryz.prog 120 [.agg [encL NodeR.enc b.l,I b.next],I q[j]] (.tup [encN (findB b.l q[j]).1,B (findB b.l q[j]).2]):=find_ok b q[j] (by omega)
 have f3:=ZoG (findB a.l q[j]).1 (findB b.l q[j]).1
 have hal:∀c:ChangeR,(out++[c]).length=out.length+1:=fun c=>by simp
 generalize hk:q[j]=k at*
 have hr:=show changeS a b k=_ from rfl
 cases hb2:(findB b.l k).2 with
 |false=>
  have e:changeS a b k=[⟨k,true,.zero⟩]:=by unfold changeS;rw[if_pos hb2]
  rw[e] at k3
  rw[hb2] at f2
  have s_:=An @hj (An @hwj (An @hm (@hk)))
  try simp[s_]
  repeat' ((first|((first|refine Tp ?_|refine Tn ?_|refine T2 ?_ ?_)<;>intro h_ e_ n_)|refine Pg f1 ?_|refine Pg f2 ?_|rw[Ip]|rw[In]|rw[Fz]|rw[Gz]|fail)<;>first|simp[e_,n_,s_]|simp[s_]|skip)
  refine hA2 (j+1,out++[⟨k,true,.zero⟩]) _ (Wk.trans (Wk.softEnd 3 (out.length+1) (out.flatMap ChangeR.enc) (x':=[I k,B true,I 0,I 0,I 0,S .empty,.sl false 0 []]) rfl (by simp)) (Wk.cutAt _ rfl (by simp) ?_ (by simp) (by simp))) ⟨hj,by simp only[hal];omega,by simpa using k3⟩ (by simp only;omega)
  simp[ChangeR.enc,zeroN_enc]
 |true=>
  rw[hb2] at f2
  cases ha2:(findB a.l k).2 with
  |false=>
   have e:changeS a b k=[⟨k,false,(findB b.l k).1⟩]:=by unfold changeS;rw[if_neg (by rw[hb2];simp),if_pos (.inl ha2)]
   rw[e] at k3
   rw[ha2] at f1
   generalize(findB b.l k).1=y at*
   have s_:=An @hj (An @hwj (An @hm (An @hk (@chg_set))))
   try simp[s_]
   repeat' ((first|((first|refine Tp ?_|refine Tn ?_|refine T2 ?_ ?_)<;>intro h_ e_ n_)|(exact hA2 (j+1,out++[⟨k,false,y⟩]) _ Wc ⟨hj,by simp only[hal];omega,by simpa using k3⟩ (by simp only;omega))|refine Pg f1 ?_|refine Pg f2 ?_|rw[Ip]|rw[In]|rw[Fz]|rw[Gz]|fail)<;>first|simp[e_,n_,s_]|simp[s_]|skip)
  |true=>
   rw[ha2] at f1
   by_cases hxy:(findB a.l k).1=(findB b.l k).1
   ·have e:changeS a b k=[]:=by unfold changeS;rw[if_neg (by rw[hb2];simp),if_neg (by rw[ha2];simpa using hxy)]
    rw[e,List.nil_append] at k3
    rw[show decide ((findB a.l k).1=(findB b.l k).1)=true from decide_eq_true hxy] at f3
    generalize(findB b.l k).1=y at*
    generalize(findB a.l k).1=z at*
    have s_:=An @hj (An @hwj (An @hm (An @hk (@chg_set))))
    try simp[s_]
    repeat' ((first|((first|refine Tp ?_|refine Tn ?_|refine T2 ?_ ?_)<;>intro h_ e_ n_)|(exact hA2 (j+1,out) _ Wc ⟨hj,by simp only;omega,k3⟩ (by simp only;omega))|refine Pg f1 ?_|refine Pg f2 ?_|refine Pg f3 ?_|rw[Ip]|rw[In]|rw[Fz]|rw[Gz]|fail)<;>first|simp[e_,n_,s_]|simp[s_]|skip)
   ·have e:changeS a b k=[⟨k,false,(findB b.l k).1⟩]:=by unfold changeS;rw[if_neg (by rw[hb2];simp),if_pos (.inr hxy)]
    rw[e] at k3
    rw[show decide ((findB a.l k).1=(findB b.l k).1)=false from decide_eq_false hxy] at f3
    generalize(findB b.l k).1=y at*
    generalize(findB a.l k).1=z at*
    have s_:=An @hj (An @hwj (An @hm (An @hk (@chg_set))))
    try simp[s_]
    repeat' ((first|((first|refine Tp ?_|refine Tn ?_|refine T2 ?_ ?_)<;>intro h_ e_ n_)|(exact hA2 (j+1,out++[⟨k,false,y⟩]) _ Wc ⟨hj,by simp only[hal];omega,by simpa using k3⟩ (by simp only;omega))|refine Pg f1 ?_|refine Pg f2 ?_|refine Pg f3 ?_|rw[Ip]|rw[In]|rw[Fz]|rw[Gz]|fail)<;>first|simp[e_,n_,s_]|simp[s_]|skip)
theorem Zji (f:FSR) (k:Int) (hr:Zn NodeR.ino f.l=true) (hl:f.l.length≤1000000):Zd Tryz.prog 50 [encF f,I k] (.tup [encN (findB f.l k).1,B (findB f.l k).2]):=by
 have hiff:=Zdm hr k
 have hnone:= @ZbI f.l k
 obtain⟨l,next⟩:=f
 simp only at*
 refine Pm Tryz.func50 fun hfit=> ?_
 simp[Tryz.f50,FSR.enc]
 refine AW.loopG (lit:=fun _=>false) (fun i:Nat=>⟨28,pat [(1,I k),(2,.ptr 0 0 0),(4,.ptr 1 0 0),(6,I i)],[.cells 0 [encL NodeR.enc l,I next],.cells 0 [I 0,I 0,I 0,S .empty,.sl true 0 []]]⟩) (fun i=>l.length -i) (fun i=>i≤l.length∧∀j (h:j<l.length),j<i→l[j].ino≠k) 0 ?_ ?_ ?_
 ·exact Wa
 ·simp
 rintro i ⟨g1,g2⟩ A hA
 by_cases hi:i<l.length
 case neg=>
  have e:findB l k=(.zero,false):=hnone fun n hn=>by
   obtain⟨j,hj,rfl⟩:=List.getElem_of_mem hn
   exact g2 j hj (by omega)
  rw[e]
  have s_:=An @hi (@zeroN_enc)
  try simp[s_]
  repeat' ((first|((first|refine Tp ?_|refine Tn ?_|refine T2 ?_ ?_)<;>intro h_ e_ n_)|rw[Ip]|rw[In]|rw[Fz]|rw[Gz]|fail)<;>first|simp[e_,n_,s_]|simp[s_]|skip)
 have hwi:=Zi hi (by simp only[maxLen];omega)
 by_cases hk:l[i].ino=k
 ·have e:findB l k=(l[i],true):=(hiff _).2 ⟨List.getElem_mem hi,hk⟩
  rw[e]
  have s_:=An @hi (@hk)
  try simp[s_]
  repeat' ((first|((first|refine Tp ?_|refine Tn ?_|refine T2 ?_ ?_)<;>intro h_ e_ n_)|rw[Ip]|rw[In]|rw[Fz]|rw[Gz]|fail)<;>first|simp[e_,n_,s_]|simp[s_]|skip)
 ·have g3:∀j (h:j<l.length),j<i+1→l[j].ino≠k:=fun j h hj=>by
   by_cases e:j=i
   ·subst e;exact hk
   ·exact g2 j h (by omega)
  have s_:=An @hi (An @hwi (@hk))
  try simp[s_]
  repeat' ((first|((first|refine Tp ?_|refine Tn ?_|refine T2 ?_ ?_)<;>intro h_ e_ n_)|(exact hA (i+1) _ Wa ⟨hi,g3⟩ (by omega))|rw[Ip]|rw[In]|rw[Fz]|rw[Gz]|fail)<;>first|simp[e_,n_,s_]|simp[s_]|skip)
theorem ZtE (l:List Int) (k:Int) (hl:l.length≤1000000):Zd Tryz.prog 84 [enc1 I l,I k] (B (decide (k∈l))):=by
 refine Pm Tryz.func84 fun hfit=> ?_
 simp[Tryz.f84]
 refine AW.loopG (lit:=fun _=>false) (fun i:Nat=>⟨18,pat [(0,enc1 I l),(1,I k),(5,I i)],[]⟩) (fun i=>l.length -i) (fun i=>i≤l.length∧∀j (h:j<l.length),j<i→l[j]≠k) 0 ?_ ?_ ?_
 ·exact Wa
 ·simp
 rintro i ⟨g1,g2⟩ A hA
 by_cases hi:i<l.length
 case neg=>
  have e:¬k∈l:=fun hm=>by
   obtain⟨j,hj,e⟩:=List.getElem_of_mem hm
   exact g2 j hj (by omega) e
  have s_:=An @hi (@e)
  try simp[s_]
  repeat' ((first|((first|refine Tp ?_|refine Tn ?_|refine T2 ?_ ?_)<;>intro h_ e_ n_)|rw[Ip]|rw[In]|rw[Fz]|rw[Gz]|fail)<;>first|simp[e_,n_,s_]|simp[s_]|skip)
 have hwi:=Zi hi (by simp only[maxLen];omega)
 by_cases hk:l[i]=k
 ·have e:k∈l:=hk▸List.getElem_mem hi
  have s_:=An @hi (An @hk (@e))
  try simp[s_]
  repeat' ((first|((first|refine Tp ?_|refine Tn ?_|refine T2 ?_ ?_)<;>intro h_ e_ n_)|rw[Ip]|rw[In]|rw[Fz]|rw[Gz]|fail)<;>first|simp[e_,n_,s_]|simp[s_]|skip)
 ·have g3:∀j (h:j<l.length),j<i+1→l[j]≠k:=fun j h hj=>by
   by_cases e:j=i
   ·subst e;exact hk
   ·exact g2 j h (by omega)
  have s_:=An @hi (An @hwi (@hk))
  try simp[s_]
  repeat' ((first|((first|refine Tp ?_|refine Tn ?_|refine T2 ?_ ?_)<;>intro h_ e_ n_)|(exact hA (i+1) _ Wa ⟨hi,g3⟩ (by omega))|rw[Ip]|rw[In]|rw[Fz]|rw[Gz]|fail)<;>first|simp[e_,n_,s_]|simp[s_]|skip)
theorem Znr (f:FSR) (k:Int) (hl:f.l.length≤256) (hE:∀n∈f.l,n.l.length≤256):Zd Tryz.prog 83 [encF f,I k] (I ((Zl f.l).count k:Nat)):=by
 have hak:=ZbH hE
 obtain⟨l,next⟩:=f
 simp only at*
 have hcl:=fun(L:List Int)=>List.count_le_length (a:=k) (l:=L)
 refine Pm Tryz.func83 fun hfit=> ?_
 simp[Tryz.f83,FSR.enc]
 refine AW.loopG (lit:=fun _=>false) (fun x:Nat×Nat=>⟨41,pat [(1,I k),(2,.ptr 0 0 0),(5,I x.2),(6,I x.1)],[.cells 0 [encL NodeR.enc l,I next]]⟩) (fun x=>l.length -x.1) (fun x=>x.1≤l.length∧x.2+(Zl (l.drop x.1)).count k=(Zl l).count k) (0,0) ?_ ?_ ?_
 ·exact Wa
 ·simp
 rintro⟨i,n⟩ ⟨g1,g2⟩ A hA
 simp only at g1 g2 hA
 by_cases hi:i<l.length
 case neg=>
  rw[List.drop_eq_nil_of_le (by omega)] at g2
  simp only[Zl,List.flatMap_nil,List.count_nil,Nat.add_zero] at g2
  have e:List.count k (Zl l)=n:=g2.symm
  have s_:=An @hi (@e)
  try simp[s_]
  repeat' ((first|((first|refine Tp ?_|refine Tn ?_|refine T2 ?_ ?_)<;>intro h_ e_ n_)|rw[Ip]|rw[In]|rw[Fz]|rw[Gz]|fail)<;>first|simp[e_,n_,s_]|simp[s_]|skip)
 have hwi:=Zi hi (by simp only[maxLen];omega)
 have g3:n+((l[i].l.map (·.ino)).count k+(Zl (l.drop (i+1))).count k)=(Zl l).count k:=by
  rw[←g2,List.drop_eq_getElem_cons hi]
  simp only[Zl,List.flatMap_cons,List.count_append]
 have hb:=hcl (Zl l)
 have hei:=hE l[i] (List.getElem_mem hi)
 have s_:=hi
 try simp[s_]
 repeat' ((first|((first|refine Tp ?_|refine Tn ?_|refine T2 ?_ ?_)<;>intro h_ e_ n_)|rw[Ip]|rw[In]|rw[Fz]|rw[Gz]|fail)<;>first|simp[e_,n_,s_]|simp[s_]|skip)
 refine AW.loopG (lit:=fun _=>false) (fun x:Nat×Nat=>⟨41,pat [(1,I k),(2,.ptr 0 0 0),(5,I x.2),(6,I i),(7,I x.1)],[.cells 0 [encL NodeR.enc l,I next]]⟩) (fun x=>l[i].l.length -x.1) (fun x=>x.1≤l[i].l.length∧x.2+(((l[i].l.drop x.1).map (·.ino)).count k+(Zl (l.drop (i+1))).count k)=(Zl l).count k) (0,n) ?_ ?_ ?_
 ·exact Wa
 ·exact⟨by simp,by simpa using g3⟩
 rintro⟨j,m⟩ ⟨k1,k2⟩ A2 hA2
 simp only at k1 k2 hA2
 by_cases hj:j<l[i].l.length
 case neg=>
  rw[List.drop_eq_nil_of_le (by omega)] at k2
  simp only[List.map_nil,List.count_nil,Nat.zero_add] at k2
  have s_:=An @hi (An @hj (@hwi))
  try simp[s_]
  repeat' ((first|((first|refine Tp ?_|refine Tn ?_|refine T2 ?_ ?_)<;>intro h_ e_ n_)|(exact hA (i+1,m) _ Wa ⟨hi,k2⟩ (by simp only;omega))|rw[Ip]|rw[In]|rw[Fz]|rw[Gz]|fail)<;>first|simp[e_,n_,s_]|simp[s_]|skip)
 have hwj:=Zi hj (by simp only[maxLen];omega)
 rw[List.drop_eq_getElem_cons hj,List.map_cons,List.count_cons] at k2
 by_cases hk:l[i].l[j].ino=k
 ·rw[if_pos (by simpa using hk)] at k2
  have hwm:IntKind.i64.wrap ((m:Int)+1)=((m+1:Nat):Int):=by rw[Zf (by omega) (by omega)];omega
  have s_:=An @hi (An @hj (An @hwi (An @hwj (An @hwm (@hk)))))
  try simp[s_]
  repeat' ((first|((first|refine Tp ?_|refine Tn ?_|refine T2 ?_ ?_)<;>intro h_ e_ n_)|(exact hA2 (j+1,m+1) _ Wa ⟨hj,by simp only;omega⟩ (by simp only;omega))|rw[Ip]|rw[In]|rw[Fz]|rw[Gz]|fail)<;>first|simp[e_,n_,s_]|simp[s_]|skip)
 ·rw[if_neg (by simpa using hk),Nat.add_zero] at k2
  have s_:=An @hi (An @hj (An @hwi (An @hwj (@hk))))
  try simp[s_]
  repeat' ((first|((first|refine Tp ?_|refine Tn ?_|refine T2 ?_ ?_)<;>intro h_ e_ n_)|(exact hA2 (j+1,m) _ Wa ⟨hj,k2⟩ (by simp only;omega))|rw[Ip]|rw[In]|rw[Fz]|rw[Gz]|fail)<;>first|simp[e_,n_,s_]|simp[s_]|skip)
theorem ZhM (o:List Int) (k:Int) (ks:List Int):ZaW o (k::ks)=ZaW (ZbS o k) ks:=rfl
theorem ZqM (f:FSR) (top:Int) (hr:Zn NodeR.ino f.l=true) (hl:f.l.length≤256) (hE:∀n∈f.l,n.l.length≤256):Zd Tryz.prog 82 [encF f,I top] (enc1 I (belowL f.l top)):=by
 have hak:=ZbH hE
 have hfind:=fun k=>Zji f k hr (by omega)
 have hkl:=Zer hE
 have hst:=Zhk f.l top
 obtain⟨l,next⟩:=f
 simp only at*
 have hkT:Zs l top=(findB l top).1.l.map (·.ino):=rfl
 have hU:=ZaD l
 have hkt:=hkl top
 rw[hkT,List.length_map] at hkt
 unfold belowL
 rw[hkT] at hst⊢
 have h1:=hfind top
 generalize hn:(findB l top)=Nd at*
 refine Pm Tryz.func82 fun hfit=> ?_
 simp[Tryz.f82,FSR.enc]
 have s_:= @FSR.enc.eq_1
 try simp[s_]
 repeat' ((first|((first|refine Tp ?_|refine Tn ?_|refine T2 ?_ ?_)<;>intro h_ e_ n_)|refine Pg h1 ?_|rw[Ip]|rw[In]|rw[Fz]|rw[Gz]|fail)<;>first|simp[e_,n_,s_]|simp[s_]|skip)
 refine AW.loopG (lit:=fun _=>false) (fun x:Nat×List Int×Nat=>⟨89,pat [(2,.ptr 0 0 0),(5,.own 2 x.2.2 0 x.2.1.length 1),(6,.ptr 1 0 0),(8,I x.1)],[.cells 0 [encL NodeR.enc l,I next],.cells 0 Nd.1.enc,.cells x.2.2 (x.2.1.map I)]⟩) (fun x=>Nd.1.l.length -x.1)
  (fun x=>x.1≤Nd.1.l.length∧x.2.1.length≤x.1∧ZaW x.2.1 ((Nd.1.l.drop x.1).map (·.ino))=ZaW [] (Nd.1.l.map (·.ino))) (0,[],0) ?_ ?_ ?_
 ·exact Wk.trans (Wk.ownNil 5 1 (by simp)) Wa
 ·simp
 rintro⟨i,acc,ver⟩ ⟨g1,g2,g3⟩ A hA
 simp only at g1 g2 g3 hA
 by_cases hi:i<Nd.1.l.length
 case pos=>
  have hwi:=Zi hi (by simp only[maxLen];omega)
  rw[List.drop_eq_getElem_cons hi,List.map_cons,ZhM] at g3
  have hh:=ZtE acc Nd.1.l[i].ino (by omega)
  have hm:acc.length+1≤maxLen:=by simp only[maxLen];omega
  by_cases hk:Nd.1.l[i].ino∈acc
  ·rw[show ZbS acc Nd.1.l[i].ino=acc from if_pos hk] at g3
   rw[show decide (Nd.1.l[i].ino∈acc)=true from decide_eq_true hk] at hh
   have s_:=An @hi (@hwi)
   try simp[s_]
   repeat' ((first|((first|refine Tp ?_|refine Tn ?_|refine T2 ?_ ?_)<;>intro h_ e_ n_)|(exact hA (i+1,acc,ver) _ Wc ⟨hi,by simp only;omega,g3⟩ (by simp only;omega))|refine Lg hh ?_|refine Sg hh ?_|rw[Ip]|rw[In]|rw[Fz]|rw[Gz]|fail)<;>first|simp[e_,n_,s_]|simp[s_]|skip)
  ·rw[show ZbS acc Nd.1.l[i].ino=acc++[Nd.1.l[i].ino] from if_neg hk] at g3
   rw[show decide (Nd.1.l[i].ino∈acc)=false from decide_eq_false hk] at hh
   have hal:(acc++[Nd.1.l[i].ino]).length=acc.length+1:=by simp
   have s_:=An @hi (An @hwi (An @hm ((show acc.length+1≤17592186044416 by omega))))
   try simp[s_]
   repeat' ((first|((first|refine Tp ?_|refine Tn ?_|refine T2 ?_ ?_)<;>intro h_ e_ n_)|(exact hA (i+1,acc++[Nd.1.l[i].ino],ver+1) _ Wc ⟨hi,by simp only[hal];omega,g3⟩ (by simp only;omega))|refine Lg hh ?_|refine Sg hh ?_|rw[Ip]|rw[In]|rw[Fz]|rw[Gz]|fail)<;>first|simp[e_,n_,s_]|simp[s_]|skip)
 rw[List.drop_eq_nil_of_le (by omega),List.map_nil] at g3
 have g4:acc=ZaW [] (Nd.1.l.map (·.ino)):=g3
 subst g4
 have s_:=hi
 try simp[s_]
 repeat' ((first|((first|refine Tp ?_|refine Tn ?_|refine T2 ?_ ?_)<;>intro h_ e_ n_)|rw[Ip]|rw[In]|rw[Fz]|rw[Gz]|fail)<;>first|simp[e_,n_,s_]|simp[s_]|skip)
 clear g1 g2 g3 hA hi
 obtain⟨N,hN⟩:∃N,N=(Zl l).length+1:=⟨_,rfl⟩
 rw[←hN]
 generalize hF:bfs (Zs l) N 0 (ZaW [] (Nd.1.l.map (·.ino)))=F at*
 refine AW.loopG (lit:=fun _=>false) (fun x:Nat×List Int×Nat=>⟨89,pat [(2,.ptr 0 0 0),(5,.own 2 x.2.2 0 x.2.1.length 1),(10,I x.1)],[.cells 0 [encL NodeR.enc l,I next],.cells 0 Nd.1.enc,.cells x.2.2 (x.2.1.map I)]⟩) (fun x=>N -x.1)
  (fun x=>x.1<N∧Bfs (Zs l) (Zl l) top x.1 x.2.1∧bfs (Zs l) (N -x.1) x.1 x.2.1=F) (0,ZaW [] (Nd.1.l.map (·.ino)),ver) ?_ ?_ ?_
 ·exact Wa
 ·exact⟨by simp only;omega,hst,hF⟩
 rintro⟨k,o,vo⟩ ⟨g1,g2,g3⟩ A hA
 simp only at g1 g2 g3 hA
 have hol:=ZjR g2.nodup g2.sub
 obtain⟨n',hn'⟩:∃n',N -k=n'+1:=⟨N -k -1,by omega⟩
 rw[hn',bfs] at g3
 by_cases hk:k<o.length
 case neg=>
  rw[List.getElem?_eq_none (by omega)] at g3
  have g3:o=F:=g3
  subst g3
  have s_:=hk
  try simp[s_]
  repeat' ((first|((first|refine Tp ?_|refine Tn ?_|refine T2 ?_ ?_)<;>intro h_ e_ n_)|rw[Ip]|rw[In]|rw[Fz]|rw[Gz]|fail)<;>first|simp[e_,n_,s_]|simp[s_]|skip)
 have hok:=List.getElem?_eq_getElem hk
 rw[hok] at g3
 have g3:bfs (Zs l) n' (k+1) (ZaW o (Zs l o[k]))=F:=g3
 have g4:=g2.next hU hok
 have hwk:=Zi hk (by simp only[maxLen];omega)
 have h2:=hfind o[k]
 have hkT2:Zs l o[k]=(findB l o[k]).1.l.map (·.ino):=rfl
 have hk2:=hkl o[k]
 rw[hkT2] at g3 g4 hk2
 rw[List.length_map] at hk2
 generalize hM:findB l o[k]=M at*
 have s_:=hk
 try simp[s_]
 repeat' ((first|((first|refine Tp ?_|refine Tn ?_|refine T2 ?_ ?_)<;>intro h_ e_ n_)|refine Pg h2 ?_|refine AW.room (Dg 12 11 [3] [(9,.w)] ?_)|rw[Ip]|rw[In]|rw[Fz]|rw[Gz]|fail)<;>first|simp[e_,n_,s_]|simp[s_]|skip)
 refine AW.loopG (lit:=fun _=>false) (fun x:Nat×List Int×Nat=>⟨89,pat [(2,.ptr 0 0 0),(5,.own 2 x.2.2 0 x.2.1.length 1),(10,I k),(11,.ptr 3 1 0),(13,I x.1)],[.cells 0 [encL NodeR.enc l,I next],.cells 0 Nd.1.enc,.cells x.2.2 (x.2.1.map I),.cells 1 M.1.enc]⟩) (fun x=>M.1.l.length -x.1)
  (fun x=>x.1≤M.1.l.length∧x.2.1.length≤o.length+x.1∧ZaW x.2.1 ((M.1.l.drop x.1).map (·.ino))=ZaW o (M.1.l.map (·.ino))) (0,o,vo) ?_ ?_ ?_
 ·exact Wa
 ·simp
 rintro⟨i,acc,v2⟩ ⟨k1,k2,k3⟩ A2 hA2
 simp only at k1 k2 k3 hA2
 by_cases hi:i<M.1.l.length
 case neg=>
  rw[List.drop_eq_nil_of_le (by omega),List.map_nil] at k3
  have k4:acc=ZaW o (M.1.l.map (·.ino)):=k3
  rw[←k4] at g3 g4
  have hsl:=ZjR g4.nodup g4.sub
  have hle:=g4.le
  have e5:N -(k+1)=n':=by omega
  have s_:=An @hi (@hwk)
  try simp[s_]
  repeat' ((first|((first|refine Tp ?_|refine Tn ?_|refine T2 ?_ ?_)<;>intro h_ e_ n_)|(exact hA (k+1,acc,v2) _ Wc ⟨by simp only;omega,g4,by simp only[e5];exact g3⟩ (by simp only;omega))|rw[Ip]|rw[In]|rw[Fz]|rw[Gz]|fail)<;>first|simp[e_,n_,s_]|simp[s_]|skip)
 have hwi:=Zi hi (by simp only[maxLen];omega)
 rw[List.drop_eq_getElem_cons hi,List.map_cons,ZhM] at k3
 have hh:=ZtE acc M.1.l[i].ino (by omega)
 have hm:acc.length+1≤maxLen:=by simp only[maxLen];omega
 by_cases hq:M.1.l[i].ino∈acc
 ·rw[show ZbS acc M.1.l[i].ino=acc from if_pos hq] at k3
  rw[show decide (M.1.l[i].ino∈acc)=true from decide_eq_true hq] at hh
  have s_:=An @hi (@hwi)
  try simp[s_]
  repeat' ((first|((first|refine Tp ?_|refine Tn ?_|refine T2 ?_ ?_)<;>intro h_ e_ n_)|(exact hA2 (i+1,acc,v2) _ Wc ⟨hi,by simp only;omega,k3⟩ (by simp only;omega))|refine Lg hh ?_|refine Sg hh ?_|rw[Ip]|rw[In]|rw[Fz]|rw[Gz]|fail)<;>first|simp[e_,n_,s_]|simp[s_]|skip)
 ·rw[show ZbS acc M.1.l[i].ino=acc++[M.1.l[i].ino] from if_neg hq] at k3
  rw[show decide (M.1.l[i].ino∈acc)=false from decide_eq_false hq] at hh
  have hal:(acc++[M.1.l[i].ino]).length=acc.length+1:=by simp
  have s_:=An @hi (An @hwi (An @hm ((show acc.length+1≤17592186044416 by omega))))
  try simp[s_]
  repeat' ((first|((first|refine Tp ?_|refine Tn ?_|refine T2 ?_ ?_)<;>intro h_ e_ n_)|(exact hA2 (i+1,acc++[M.1.l[i].ino],v2+1) _ Wc ⟨hi,by simp only[hal];omega,k3⟩ (by simp only;omega))|refine Lg hh ?_|refine Sg hh ?_|rw[Ip]|rw[In]|rw[Fz]|rw[Gz]|fail)<;>first|simp[e_,n_,s_]|simp[s_]|skip)
end Go.Proofs.YtgpkaoombhobmaaGreat
