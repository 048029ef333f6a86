import Derived.RangeFuncBox
import Derived.RangeFuncLeaves
import Derived.Shelf.Abstract
import Derived.WalkKit
import Derived.OwnWalkIn
import Derived.TacticsInMore
import Derived.LoopNIn
import Derived.LoopIn
import Derived.Maps.AppendAt
import Derived.Scope
import Derived.RangeFuncCalls
import Derived.Test.YtgpkaoombhobmaaGreatZW3
import Derived.Test.YtgpkaoombhobmaaGreatZP2
import Derived.Test.YtgpkaoombhobmaaGreatZW1
import Derived.Test.YtgpkaoombhobmaaGreatZP1
import Derived.Test.YtgpkaoombhobmaaGreatRows
import Derived.JoinedCond
set_option linter.unusedVariables false
set_option linter.unusedSimpArgs false
namespace Go.Proofs.YtgpkaoombhobmaaGreat
open Go.RowKit Go.Shelf
attribute [local go_sem] Oper.semAt_some
open Go.Cx in
theorem ZtV {s:StoreR} {t:TxnR} (hP:ZG s) (hb:Zcy s) {n:Nat} {Z:Nat→Prop} {κ:Nat→Slot} {w W:World} {v0 v1:Value} (r:Rel Z κ [] w) (hr:Rs Z w κ [.agg s.enc] [.agg #[v0,v1,.int .i64 s.stamp]]) (hB:Below w.heap.size w W) (B5:Nat) (h5:w.heap.size≤B5) (h5':B5<W.heap.size):
  CallsIn Fence.wide n Tryz.prog 296 #[.agg #[v0,v1,.int .i64 s.stamp],.int .i64 t.stamp] W (fun e W'=>∃A cap,e= .returned (.slice A (sinceS s t.stamp).length cap)∧
   (∀(j:Nat) (hj:j<(sinceS s t.stamp).length),∃b off,A=some ⟨b,off,none⟩∧b≠B5∧W'.cell? ⟨b,off+j,none⟩=some (.int .i64 (sinceS s t.stamp)[j]))∧Below W.heap.size W W'):=by
 have hr2:Rs Z w κ [.agg s.enc,I t.stamp] [.agg #[v0,v1,.int .i64 s.stamp],.int .i64 t.stamp]:=by
  cases hr with
  |cons a b=>exact .cons a (.cons (.val rfl) .nil)
 refine((Zwe s t.stamp hP hb).raw r hr2 hB).mono ?_
 rintro e W' ⟨c,Z',κ',rfl,hc,hz,hb'⟩
 rcases nums_inv hc with⟨h0,A,cap,rfl⟩|⟨b,off,cap,rfl,hzb,hat⟩
 ·exact⟨A,cap,by rw[h0];rfl,fun j hj=>by rw[h0] at hj;simp at hj,hb'⟩
 ·refine⟨_,cap,rfl,fun j hj=>⟨b,off,rfl,fun e=> ?_,hat j hj⟩,hb'⟩
  subst e
  rcases hz b hzb with h|h
  ·have:=r.zlt b h;omega
  ·omega
open Go.Cx in
set_option maxRecDepth 100000 in
set_option maxHeartbeats 2000000 in
theorem ZlV {s:StoreR} {t:TxnR} (hP:ZG s) (hb:Zcy s) (hl:(sinceS s t.stamp).length≤2000000) (n:Nat) (hn:1≤n) {Z:Nat→Prop} {κ:Nat→Slot} {w0 w:World} {v0 v1:Value} (r:Rel Z κ [] w0) (hr:Rs Z w0 κ [.agg s.enc] [.agg #[v0,v1,.int .i64 s.stamp]]) (hB:Below w0.heap.size w0 w)
  (Bs Bt B5:Nat) (hBs:Bs<w.heap.size) (hBt:Bt<w.heap.size) (h5:w0.heap.size≤B5) (h5':B5<w.heap.size)
  (hc0:w.cell? ⟨Bs,0,none⟩=some v0) (hc1:w.cell? ⟨Bs,1,none⟩=some v1) (hc2:w.cell? ⟨Bs,2,none⟩=some (.int .i64 s.stamp)) (hct:w.cell? ⟨Bt,0,none⟩=some (.int .i64 t.stamp)):
  SeqStopsK Fence.wide n Tryz.prog 295 #[.pointer (some ⟨Bs,0,none⟩),.pointer (some ⟨Bt,0,none⟩)] (fun x:Int=> #[Value.int .i64 x]) (Zee B5) (fun ys=>ys=sinceS s t.stamp) (fun pre=>pre<+:sinceS s t.stamp) (sinceS s t.stamp).length w:=fun l J Jx W hW hJ _ hY h0=>by
 have hc0':=(hW.cell (p:=⟨Bs,0,none⟩) hBs).trans hc0
 have hc1':=(hW.cell (p:=⟨Bs,1,none⟩) hBs).trans hc1
 have hc2':=(hW.cell (p:=⟨Bs,2,none⟩) hBs).trans hc2
 have hct':=(hW.cell (p:=⟨Bt,0,none⟩) hBt).trans hct
 have hBW:Below w0.heap.size w0 W:=hB.trans (hW.mono hB.size)
 have hS:=ZtV (t:=t) hP hb (n:=n -1) r hr hBW B5 h5 (Nat.lt_of_lt_of_le h5' hW.size)
 generalize sinceS s t.stamp=L at*
 have hf:Fence.wide.fn 296:=trivial
 refine callsIn_of_wp Tryz.func295 rfl trivial ?_ rfl
 simp only[Tryz.ntmps295,List.size_toArray,List.length_cons,List.length_nil,Nat.reduceAdd,Nat.reduceSub,Array.replicate_succ,Array.replicate_zero,List.push_toArray,List.append_toArray,List.nil_append,List.cons_append]
 gi_wp2_with (gi_at_call 296;refine hS.mono ?_;rintro e W1 ⟨A,cap,rfl,hA,hb1⟩)
 have hJ1:J [] W1:=hJ [] W W1 none h0 ⟨hb1.os,hb1.tape,hb1.output,hb1.size,fun k hk _=>hb1.block k hk⟩ (fun r e=>by cases e)
 gi_loopw [11] (fun i wr=>∃k:Nat,k≤L.length∧i= .int .i64 k∧J (L.take k) wr∧Zee B5 W1 wr) (fun i _=>L.length -(intOf i).toNat)
 case atStart=>exact⟨0,Nat.zero_le _,rfl,hJ1,Zee.refl _ _⟩
 case round=>
  obtain⟨k,hk,rfl,hJs,hK⟩:=hrel
  by_cases hlt:k<L.length
  ·obtain⟨b,off,rfl,hbne,hcell⟩:=hA k hlt
   have hcx:=hK.cell hbne hcell
   obtain⟨fn,tmps,assign,body,hy,hR⟩:=hY _ L[k] _ hJs (by rw[List.length_take];omega)
   gi_wp2
   refine hR.mono ?_
   rintro e W3 (⟨rfl,hJ3,hk3⟩|⟨rfl,hJx3⟩)
   ·gi_wp2
    go_roundw
    case rel=>exact⟨k+1,by omega,by simp,by rw[List.take_succ_eq_append_getElem hlt];exact hJ3,hK.trans hk3⟩
    case measure=>simp[intOf];omega
   ·gi_wp2
    refine bodyPost_ret (results_none rfl _ _ _) rfl ?_
    exact⟨⟨_,rfl⟩,.inr ⟨_,by rw[←List.take_succ_eq_append_getElem hlt];exact List.take_prefix _ _,hJx3⟩⟩
  ·obtain rfl:k=L.length:=by omega
   gi_wp2
   go_end0
   exact⟨⟨_,rfl⟩,.inl ⟨_,rfl,by rwa[List.take_length] at hJs⟩⟩
set_option maxHeartbeats 1000000 in
theorem later_in (n:Nat) (v0 v1 v2 u0 u1 u2 u3 u4 u5:Value) (w:World):
  CallsIn Fence.wide n Tryz.prog 239 #[.agg #[v0,v1,v2],.agg #[u0,u1,u2,u3,u4,u5]] w fun e w'=>e= .returned (.func (.func 295) #[] #[.pointer (some ⟨w.heap.size,0,none⟩),.pointer (some ⟨w.heap.size+1,0,none⟩)])∧w'=(w.alloc (.cells #[v0,v1,v2] 25)).alloc (.cells #[u0,u1,u2,u3,u4,u5] 58):=by
 refine callsIn_of_wp Tryz.func239 rfl trivial ?_ rfl
 simp only[Tryz.ntmps239,List.size_toArray,List.length_cons,List.length_nil,Nat.reduceAdd,Nat.reduceSub,Array.replicate_succ,Array.replicate_zero,List.push_toArray,List.append_toArray,List.nil_append,List.cons_append]
 gi_wp2
 go_ret
 exact⟨rfl,rfl⟩
theorem Zbv {β:Type} (k:Nat) (o:Obj) (ho:o.isCells=true):Own (fun(_:β) W=>W.heap[k]? =some o):=fun s X Y row h hg hrow=>by
 obtain⟨_,_,_,_,g5⟩:=hg
 show Y.heap[k]? =some o
 rw[g5 k (Array.getElem?_eq_some_iff.1 h).1 (fun e=>by
  obtain⟨o',ho',hc⟩:=hrow k e.symm
  rw[show X.heap[k]? =some o from h] at ho';cases ho';rw[ho] at hc;cases hc)]
 exact h
theorem ZlW {β:Type} (B:Nat) (p:β→Prop):OwnFrom B (fun(x:β) (_:World)=>p x):=fun _ _ _ _ h _ _=>h
theorem ZdZ {W:World} {k:Nat} {o:Obj} (h:W.heap[k]? =some o) (o':Obj):(W.alloc o').heap[k]? =some o:=by
 obtain⟨_,_,_,_,g5⟩:=World.grownBy_alloc W o' none
 rw[g5 k (Array.getElem?_eq_some_iff.1 h).1 (by simp)]
 exact h
theorem ZcD {W:World} {k i:Nat} {cs:Array Value} {t:TypeId} {fr:Nat×Nat} {v:Value} (h:W.heap[k]? =some (.cells cs t fr)) (hv:cs[i]? =some v):W.cell? ⟨k,i,none⟩=some v:=by
 simp[World.cell?,h,hv]
open Go.Cx in
theorem Zrd {t:TxnR} (hri:ZaI t.looks=true) (hk:t.looks.length≤1000000) {n:Nat} {Z:Nat→Prop} {κ:Nat→Slot} {w W:World} {u5:Value} (x:Int) (r:Rel Z κ [] w) (ht:Rs Z w κ [enc1 I t.looks] [u5]) (hB:Below w.heap.size w W):
  CallsIn Fence.wide n Tryz.prog 240 #[u5,.int .i64 x] W (fun e W'=>∃i,e= .returned (.tuple #[.int .i64 i,.bool (decide (x∈t.looks))])∧Below W.heap.size W W'):=by
 obtain⟨i,hf⟩:=Zwo t.looks x hri hk
 have hr2:Rs Z w κ [enc1 I t.looks,I x] [u5,.int .i64 x]:=by
  cases ht with
  |cons a b=>exact .cons a (.cons (.val rfl) .nil)
 refine(hf.raw r hr2 hB).mono ?_
 rintro e W' ⟨c,Z',κ',rfl,hc,hz,hb'⟩
 cases hc with
 |tup h=>
  cases h with
  |cons a h=>
   cases h with
   |cons b h=>
    cases h
    cases a with
    |val _=>cases b with
     |val _=>exact⟨i,rfl,hb'⟩
open Go.Cx in
set_option maxRecDepth 100000 in
set_option maxHeartbeats 2000000 in
theorem Zwt {s:StoreR} {t:TxnR} (hP:ZG s) (hb:Zcy s) (hl:(sinceS s t.stamp).length≤2000000) (hri:ZaI t.looks=true) (hk:t.looks.length≤1000000) (n:Nat) (hn:3≤n) {Z:Nat→Prop} {κ:Nat→Slot} {w:World} {v0 v1 u1 u2 u3 u4 u5:Value} (r:Rel Z κ [] w)
  (hs:Rs Z w κ [.agg s.enc] [.agg #[v0,v1,.int .i64 s.stamp]]) (ht:Rs Z w κ [enc1 I t.looks] [u5]):
  CallsIn Fence.wide n Tryz.prog 209 #[.agg #[v0,v1,.int .i64 s.stamp],.agg #[.int .i64 t.stamp,u1,u2,u3,u4,u5]] w fun e W'=>e= .returned (.bool (ZaX s t))∧Below w.heap.size w W':=by
 have h1:1≤n:=by omega
 have hf:Fence.wide.fn 239:=trivial
 have hf2:Fence.wide.fn 240:=trivial
 refine callsIn_of_wp_marks Tryz.func209 rfl trivial ?_ rfl
 simp only[Tryz.ntmps209,List.size_toArray,List.length_cons,List.length_nil,Nat.reduceAdd,Nat.reduceSub,Array.replicate_succ,Array.replicate_zero,List.push_toArray,List.append_toArray,List.nil_append,List.cons_append]
 gi_wp2
 refine wpIn_wide.2 (wp_scope_straight ((wpIn_wide (n:=n)).1 ?_))
 gi_wp2
 refine wpIn_label ?_
 gi_wp2_with (gi_at_call 239;refine(later_in (n -1) _ _ _ _ _ _ _ _ _ _).mono ?_;rintro e w' ⟨rfl,rfl⟩)
 have b0:Below w.heap.size w (((((w.alloc (.cells #[v0,v1,.int .i64 s.stamp] 25)).alloc (.cells #[.int .i64 t.stamp,u1,u2,u3,u4,u5] 58)).alloc (.cells #[.bool false] 4)).alloc (.cells #[v0,v1,.int .i64 s.stamp] 25)).alloc (.cells #[.int .i64 t.stamp,u1,u2,u3,u4,u5] 58)):=by
  refine(((((Below.refl _ w).alloc (Nat.le_refl _) _).alloc ?_ _).alloc ?_ _).alloc ?_ _).alloc ?_ _<;>simp<;>omega
 have c1:=World.alloc_heap_new (w.alloc (.cells #[v0,v1,.int .i64 s.stamp] 25)) (.cells #[.int .i64 t.stamp,u1,u2,u3,u4,u5] 58)
 have c2:=World.alloc_heap_new ((w.alloc (.cells #[v0,v1,.int .i64 s.stamp] 25)).alloc (.cells #[.int .i64 t.stamp,u1,u2,u3,u4,u5] 58)) (.cells #[.bool false] 4)
 have c3:=World.alloc_heap_new (((w.alloc (.cells #[v0,v1,.int .i64 s.stamp] 25)).alloc (.cells #[.int .i64 t.stamp,u1,u2,u3,u4,u5] 58)).alloc (.cells #[.bool false] 4)) (.cells #[v0,v1,.int .i64 s.stamp] 25)
 have c4:=World.alloc_heap_new ((((w.alloc (.cells #[v0,v1,.int .i64 s.stamp] 25)).alloc (.cells #[.int .i64 t.stamp,u1,u2,u3,u4,u5] 58)).alloc (.cells #[.bool false] 4)).alloc (.cells #[v0,v1,.int .i64 s.stamp] 25)) (.cells #[.int .i64 t.stamp,u1,u2,u3,u4,u5] 58)
 have c1:=ZdZ (ZdZ (ZdZ c1 (.cells #[.bool false] 4)) (.cells #[v0,v1,.int .i64 s.stamp] 25)) (.cells #[.int .i64 t.stamp,u1,u2,u3,u4,u5] 58)
 have c2:=ZdZ (ZdZ c2 (.cells #[v0,v1,.int .i64 s.stamp] 25)) (.cells #[.int .i64 t.stamp,u1,u2,u3,u4,u5] 58)
 have c3:=ZdZ c3 (.cells #[.int .i64 t.stamp,u1,u2,u3,u4,u5] 58)
 simp only[World.size_alloc] at c1 c2 c3 c4
 generalize hwr:(((((w.alloc (.cells #[v0,v1,.int .i64 s.stamp] 25)).alloc (.cells #[.int .i64 t.stamp,u1,u2,u3,u4,u5] 58)).alloc (.cells #[.bool false] 4)).alloc (.cells #[v0,v1,.int .i64 s.stamp] 25)).alloc (.cells #[.int .i64 t.stamp,u1,u2,u3,u4,u5] 58))=wr at*
 have z4:=(Array.getElem?_eq_some_iff.1 c4).1
 have hseq:=ZlV hP hb hl (n -1) (by omega) r hs b0 (w.heap.size+1+1+1) (w.heap.size+1+1+1+1) (w.heap.size+1+1) (by omega) z4 (by omega) (by omega) (ZcD c3 rfl) (ZcD c3 rfl) (ZcD c3 rfl) (ZcD c4 rfl)
 refine wpIn_rangeFunc_ownG rfl h1 (gf:=295) (lb:= #[.pointer (some ⟨w.heap.size+1+1+1,0,none⟩),.pointer (some ⟨w.heap.size+1+1+1+1,0,none⟩)]) rfl trivial (enters_of Tryz.func295 (by kernel_rfl) rfl)
  hseq (fun h k=>Zee.trans h k) (fun W l o o' _ h hc _=>Zee.put W l o o' h hc) (Below.refl _ _) (fun _=>rfl)
  (fun pre W=>(W.heap[w.heap.size+1+1]? =some (.cells #[.bool false] 4 (0,0))∧W.heap[w.heap.size+1]? =some (.cells #[.int .i64 t.stamp,u1,u2,u3,u4,u5] 58 (0,0)))∧Below w.heap.size w W∧(∀x∈pre,¬x∈t.looks))
  (fun c pre W=>(W.heap[w.heap.size+1+1]? =some (.cells #[.bool true] 4 (0,0))∧Below w.heap.size w W)∧c= .exit 0∧∃x∈pre,x∈t.looks)
  (OwnFrom.and (OwnFrom.and ((Zbv _ _ rfl).from _) ((Zbv _ _ rfl).from _)) (OwnFrom.and (ownFrom_below (Nat.le_refl _) (by omega)) (ZlW _ _)))
  (fun c=>OwnFrom.and (OwnFrom.and ((Zbv _ _ rfl).from _) (ownFrom_below (Nat.le_refl _) (by omega))) (ZlW _ _))
  ⟨⟨c2,c1⟩,b0,by simp⟩
  (fun x=>{tmps:= #[.agg #[v0,v1,.int .i64 s.stamp],.agg #[.int .i64 t.stamp,u1,u2,u3,u4,u5],.pointer (some ⟨w.heap.size,0,none⟩),.pointer (some ⟨w.heap.size+1,0,none⟩),.bool false,.pointer (some ⟨w.heap.size+1+1,0,none⟩),.int .i64 x,.agg #[v0,v1,.int .i64 s.stamp],.agg #[.int .i64 t.stamp,u1,u2,u3,u4,u5],.func (.func 295) #[] #[.pointer (some ⟨w.heap.size+1+1+1,0,none⟩),.pointer (some ⟨w.heap.size+1+1+1+1,0,none⟩)],.int .i64 x,undef,undef,undef,undef,undef,undef,undef,undef,undef],defers:=[]}) ?assign ?body ?done ?stop
 case assign=>
  intro l x W K hK
  gi_wp2
  exact hK
 case body=>
  rintro l pre x W ⟨⟨hbx,htx⟩,hB,hno⟩ hlt
  have hcx:=ZcD (i:=5) htx rfl
  have hbxl:=(Array.getElem?_eq_some_iff.1 hbx).1
  have hn3:1≤n -1 -1:=by omega
  have hf3:(Fence.wide.inRound l).fn 240:=trivial
  gi_wp2
  refine(CallsIn.inRound l (Zrd hri hk x r ht hB)).mono ?_
  rintro e W1 ⟨i,rfl,hb1⟩
  have hbx1:Boxed W1 (w.heap.size+1+1) 4 (.bool false):=(hb1.block _ hbxl).trans hbx
  have hcb:=hbx1.cell
  have hfb:=hbx1.frozen
  obtain⟨g1,g2,g3,g4,g5⟩:=grownBy_setCell' W1 (w.heap.size+1+1) (.bool (decide (x∈t.looks)))
  have hkeep:∀(k:Nat),k<W.heap.size→k≠w.heap.size+1+1→(W1.setCell ⟨w.heap.size+1+1,0,none⟩ (.bool (decide (x∈t.looks)))).heap[k]? =W.heap[k]? :=fun k hk hne=>by
   rw[g5 k (Nat.lt_of_lt_of_le hk hb1.size) (fun e=>hne (by injection e)),hb1.block k hk]
  have hsz:W.heap.size≤(W1.setCell ⟨w.heap.size+1+1,0,none⟩ (.bool (decide (x∈t.looks)))).heap.size:=Nat.le_trans hb1.size g4
  have hkf:KeepsFrom wr.heap.size W (W1.setCell ⟨w.heap.size+1+1,0,none⟩ (.bool (decide (x∈t.looks)))):=⟨hsz,fun k o _ ho hc=>by
   rw[hkeep k (Array.getElem?_eq_some_iff.1 ho).1 (fun e=>by subst e;rw[hbx] at ho;cases ho;cases hc)];exact ho⟩
  have hkc:Zee (w.heap.size+1+1) W (W1.setCell ⟨w.heap.size+1+1,0,none⟩ (.bool (decide (x∈t.looks)))):=⟨g1.trans hb1.os,g2.trans hb1.tape,g3.trans hb1.output,hsz,fun k o hne ho _=>by
   rw[hkeep k (Array.getElem?_eq_some_iff.1 ho).1 hne];exact ho⟩
  have hbel:Below w.heap.size w (W1.setCell ⟨w.heap.size+1+1,0,none⟩ (.bool (decide (x∈t.looks)))):=⟨hkc.os.trans hB.os,hkc.tape.trans hB.tape,hkc.output.trans hB.output,Nat.le_trans hB.size hsz,fun k hk=>by
   rw[hkeep k (Nat.lt_of_lt_of_le hk hB.size) (by omega),hB.block k hk]⟩
  have htx2:=(hkeep (w.heap.size+1) (Array.getElem?_eq_some_iff.1 htx).1 (by omega)).trans htx
  have hbt:Boxed _ _ _ _:=hbx1.set (.bool (decide (x∈t.looks)))
  have hct:=hbt.cell
  clear g1 g2 g3 g4 g5 hkeep hsz
  by_cases q:x∈t.looks
  ·rw[decide_eq_true q] at*
   gi_wp2
   exact⟨hkf,⟨hbt,hbel⟩,rfl,x,by simp,q⟩
  ·rw[decide_eq_false q] at*
   gi_wp2
   exact⟨hkf,hkc,⟨hbt,htx2⟩,hbel,fun y hy=>(List.mem_append.1 hy).elim (hno y) (fun h=>by rw[List.mem_singleton.1 h];exact q)⟩
 case done=>
  rintro D ys W hD rfl ⟨⟨hbx,htx⟩,hB,hno⟩ hK
  have hcb:=(show Boxed W _ _ _ from hbx).cell
  have e:ZaX s t=false:=by
   unfold ZaX
   rw[List.any_eq_false]
   intro x hx;simpa using hno x hx
  gi_wp2
  refine⟨by simp,.inl ⟨_,_,rfl,run_takeDeferred hK,?_⟩⟩
  rw[e]
  exact⟨_,results_tmp rfl _ _ _,rfl,hB.trans (belowK_b (w:=w) (Nat.le_refl _) W D _ _ (by omega) hK rfl rfl)⟩
 case stop=>
  rintro D c pre W hD hpre ⟨⟨hbx,hB⟩,rfl,hx⟩ hK
  have hcb:=(show Boxed W _ _ _ from hbx).cell
  have e:ZaX s t=true:=by
   unfold ZaX
   rw[List.any_eq_true]
   obtain⟨x,hx,hx2⟩:=hx
   exact⟨x,hpre.subset hx,by simpa using hx2⟩
  gi_wp2
  refine⟨by simp,.inl ⟨_,_,rfl,run_takeDeferred hK,?_⟩⟩
  rw[e]
  exact⟨_,results_tmp rfl _ _ _,rfl,hB.trans (belowK_b (w:=w) (Nat.le_refl _) W D _ _ (by omega) hK rfl rfl)⟩
open Go.Cx in
theorem Zwu (s:StoreR) (t:TxnR) (hP:ZG s) (hb:Zcy s) (hri:ZaI t.looks=true) (hk:t.looks.length≤1000000):Zd Tryz.prog 209 [.agg s.enc,.agg t.enc] (B (ZaX s t)):=by
 refine⟨by simp,by simp,Ent.mk Tryz.func209 (by kernel_rfl) rfl,fun Z κ w cargs r hr=> ?_⟩
 have hl:(sinceS s t.stamp).length≤2000000:=by have:=ZtT s t.stamp;have:=hb.l;omega
 cases hr with
 |cons h1 h2=>
 cases h2 with
 |cons h2 h3=>
 cases h3
 cases h1 with
 |agg h1=>
 cases h2 with
 |agg h2=>
 have h1':=h1
 have h2':=h2
 simp only[StoreR.enc] at h1'
 simp only[TxnR.enc,FSR.enc,List.cons_append,List.nil_append] at h2'
 cases h1' with
 |cons a0 h1'=>
 cases h1' with
 |cons a1 h1'=>
 cases h1' with
 |cons a2 h1'=>
 cases h1'
 cases a2 with
 |val _=>
 cases h2' with
 |cons c0 h2'=>
 cases c0 with
 |val _=>
 cases h2' with
 |cons c1 h2'=>
 cases h2' with
 |cons c2 h2'=>
 cases h2' with
 |cons c3 h2'=>
 cases h2' with
 |cons c4 h2'=>
 cases h2' with
 |cons c5 h2'=>
 cases h2'
 refine(callsIn_wide.1 (Zwt hP hb hl hri hk 3 (by omega) r (.cons (.agg h1) .nil) (.cons c5 .nil))).mono ?_
 rintro e W' ⟨rfl,hB⟩
 exact⟨_,_,Z,κ,_,⟨rfl,rfl⟩,rfl,r.later hB,.val rfl,Ext.of_below hB,.refl _ _⟩
end Go.Proofs.YtgpkaoombhobmaaGreat
namespace Go.Proofs.YtgpkaoombhobmaaGreat
open Go.Cx Tab
set_option maxHeartbeats 400000
set_option maxRecDepth 40000
abbrev hTup (x:HostR×ReplyR):AV:= .tup [.agg x.1.enc,encR x.2]
theorem setO_t (o:OpenR) (t:TxnR):setMany o.enc 4 t.enc=OpenR.enc {o with t:=t}:=rfl
theorem setO_last (o:OpenR) (r:ReplyR):setMany o.enc 10 r.enc=OpenR.enc {o with last:=r}:=rfl
theorem setO_n (o:OpenR) (n:Int):o.enc.set 3 (I n)=OpenR.enc {o with n:=n}:=rfl
theorem setO_until (o:OpenR) (n:Int):o.enc.set 16 (I n)=OpenR.enc {o with until_:=n}:=rfl
theorem setH_enc (f k:HostR):setMany f.enc 0 k.enc=k.enc:=rfl
theorem Ztg (h:HostR) (m:MsgR) (hr:Zn OpenR.client h.opens=true) (hl:h.opens.length≤100000) (hs:h.s.l.length≤2000000) (hw:IntKind.i64.wrap (h.now+h.lease)=h.now+h.lease):Zd Tryz.prog 148 [.agg h.enc,.agg m.enc] (hTup (beginH h m)):=by
 have h1:=ZoE h m.client hr (by omega)
 have h2:=Zfl h m hr (by omega)
 have h3:=ZC 12
 have h3b:=ZC 20
 have h4:=Zwq h.s hs
 have h5:=ZoF h (openS h m) hr hl
 have eo:AV.agg (openS h m).enc= .agg [I m.client,I m.epoch,I m.seq,I 0,I (beginS h.s).stamp,encL NodeR.enc (beginS h.s).was.l,I (beginS h.s).was.next,encL NodeR.enc (beginS h.s).now.l,I (beginS h.s).now.next,enc1 I (beginS h.s).looks,I 0,I 0,I 0,I 0,S .empty,.sl false 0 [],I (h.now+h.lease)]:=rfl
 unfold beginH
 generalize openS h m=u at*
 generalize beginS h.s=b at*
 generalize withO h u=k at*
 rw[eo] at h5
 cases hx:ZcT h m.client with
 |none=>
  rw[hx] at h1
  rw[ZfJ hx] at h2
  simp only[oTup,Option.getD_none,Option.isSome_none] at h1
  refine Pm Tryz.func148 fun hfit=> ?_
  simp[Tryz.f148]
  have s_:=An @hw (An @repA.eq_1 (An @TxnR.enc.eq_1 (An @FSR.enc.eq_1 (@ReplyR.enc.eq_1))))
  try simp[s_]
  repeat' ((first|((first|refine Tp ?_|refine Tn ?_|refine T2 ?_ ?_)<;>intro h_ e_ n_)|refine Pg h1 ?_|refine Pg h2 ?_|refine Pg h3 ?_|refine Pg h4 ?_|refine Sg h5 ?_|refine Dg 4 7 [2,3] [] ?_|refine Dg 6 4 [2,3] [] ?_|refine Dg 8 4 [2,3] [] ?_|refine Dg 9 23 [2,3] [] ?_|rw[Ip]|rw[In]|rw[Fz]|rw[Gz]|fail)<;>first|simp[e_,n_,s_]|simp[s_]|skip)
 |some o=>
  rw[hx] at h1
  rw[ZcB hx] at h2
  simp only[oTup,Option.getD_some,Option.isSome_some] at h1
  simp only at h2⊢
  generalize isO o m=is at*
  generalize lateO h o m=lt at*
  by_cases q1:m.epoch≤o.epoch
  all_goals
   refine Pm Tryz.func148 fun hfit=> ?_
   simp[Tryz.f148]
   have s_:=An @q1 (An @hw (An @repA.eq_1 (An @TxnR.enc.eq_1 (An @FSR.enc.eq_1 (@ReplyR.enc.eq_1)))))
   try simp[s_]
   repeat' ((first|((first|refine Tp ?_|refine Tn ?_|refine T2 ?_ ?_)<;>intro h_ e_ n_)|refine Pg h1 ?_|refine Pg h2 ?_|refine Pg h3b ?_|refine Pg h4 ?_|refine Sg h5 ?_|refine Dg 4 7 [2,3] [] ?_|refine Dg 6 4 [2,3] [] ?_|refine Dg 8 4 [2,3] [] ?_|refine Dg 9 23 [2,3] [] ?_|rw[Ip]|rw[In]|rw[Fz]|rw[Gz]|fail)<;>first|simp[e_,n_,s_]|simp[s_]|skip)
theorem Zth (h:HostR) (m:MsgR) (hr:Zn OpenR.client h.opens=true) (hl:h.opens.length≤100000):Zd Tryz.prog 37 [.agg h.enc,.agg m.enc] (I (mayCallS h m)):=by
 have h2:=Zfl h m hr (by omega)
 unfold mayCallS
 cases hx:ZcT h m.client with
 |none=>
  rw[ZfJ hx] at h2
  refine Pm Tryz.func37 fun hfit=> ?_
  simp[Tryz.f37]
  try simp
  repeat' ((first|((first|refine Tp ?_|refine Tn ?_|refine T2 ?_ ?_)<;>intro h_ e_ n_)|refine Pg h2 ?_|rw[Ip]|rw[In]|rw[Fz]|rw[Gz]|fail)<;>first|simp[e_,n_]|simp|skip)
 |some o=>
  rw[ZcB hx] at h2
  simp only at h2⊢
  generalize isO o m=is at*
  generalize lateO h o m=lt at*
  refine Pm Tryz.func37 fun hfit=> ?_
  simp[Tryz.f37]
  try simp
  repeat' ((first|((first|refine Tp ?_|refine Tn ?_|refine T2 ?_ ?_)<;>intro h_ e_ n_)|refine Pg h2 ?_|rw[Ip]|rw[In]|rw[Fz]|rw[Gz]|fail)<;>first|simp[e_,n_]|simp|skip)
structure _root_.Go.Cx.Fit (o:OpenR):Prop where
 t:TxnP o.t
 next:o.t.now.next<4611686018427387904
 looks:o.t.looks.length≤900000
theorem ZvD (h:HostR) (m:MsgR) (hr:Zn OpenR.client h.opens=true) (hl:h.opens.length≤100000) (hf:∀o∈h.opens,Fit o) (hm:m.c.wf) (hw:IntKind.i64.wrap (h.now+h.lease)=h.now+h.lease):Zd Tryz.prog 149 [.agg h.enc,.agg m.enc] (hTup (callS h m)):=by
 have h2:=Zfl h m hr (by omega)
 have h3:=Zth h m hr hl
 unfold callS
 by_cases q:mayCallS h m=0
 case neg=>
  have h4:=ZC (mayCallS h m)
  rw[if_pos q]
  generalize mayCallS h m=e at*
  generalize ownMsg h m=u at*
  refine Pm Tryz.func149 fun hfit=> ?_
  simp[Tryz.f149]
  have s_:=q
  try simp[s_]
  repeat' ((first|((first|refine Tp ?_|refine Tn ?_|refine T2 ?_ ?_)<;>intro h_ e_ n_)|refine Pg h2 ?_|refine Pg h3 ?_|refine Pg h4 ?_|refine Dg 4 5 [2,3] [] ?_|refine Dg 6 5 [2,3] [] ?_|refine Dg 8 11 [4] [] ?_|refine Dg 9 7 [2,3] [] ?_|rw[Ip]|rw[In]|rw[Fz]|rw[Gz]|fail)<;>first|simp[e_,n_,s_]|simp[s_]|skip)
 rw[if_neg (by simpa using q)]
 rw[q] at h3
 obtain⟨o,ho,oi,ol,_⟩:=ZjX q
 rw[ho]
 rw[ZcB ho,oi,ol] at h2
 simp only
 by_cases k:m.n=o.n
 ·rw[if_pos k]
  refine Pm Tryz.func149 fun hfit=> ?_
  simp[Tryz.f149]
  have s_:=k
  try simp[s_]
  repeat' ((first|((first|refine Tp ?_|refine Tn ?_|refine T2 ?_ ?_)<;>intro h_ e_ n_)|refine Pg h2 ?_|refine Pg h3 ?_|refine Dg 4 5 [2,3] [] ?_|refine Dg 6 5 [2,3] [] ?_|refine Dg 8 11 [4] [] ?_|refine Dg 9 7 [2,3] [] ?_|rw[Ip]|rw[In]|rw[Fz]|rw[Gz]|fail)<;>first|simp[e_,n_,s_]|simp[s_]|skip)
 rw[if_neg k]
 have F:=hf o (Zu OpenR.client ho).1
 have h5:=ZmB o.t m.c F.t.nrows F.t.ntree F.next (by have:=F.looks;omega) hm
 have h6:=ZoF h (ZcY h o m) hr hl
 unfold ZcY at h6⊢
 generalize stepS o.t m.c=X at*
 generalize hK:withO h _=K at*
 refine Pm Tryz.func149 fun hfit=> ?_
 simp[Tryz.f149]
 have s_:=An @k (An @hw (An @setO_t (An @setO_last (An @setO_n (@setO_until)))))
 try simp[s_]
 repeat' ((first|((first|refine Tp ?_|refine Tn ?_|refine T2 ?_ ?_)<;>intro h_ e_ n_)|refine Pg h2 ?_|refine Pg h3 ?_|refine Pg h5 ?_|refine Pg h6 ?_|refine Dg 4 5 [2,3] [] ?_|refine Dg 6 5 [2,3] [] ?_|refine Dg 8 11 [4] [] ?_|refine Dg 9 7 [2,3] [] ?_|rw[Ip]|rw[In]|rw[Fz]|rw[Gz]|fail)<;>first|simp[e_,n_,s_]|simp[s_]|skip)
theorem Znh (o:OpenR) (m:MsgR):Zd Tryz.prog 181 [.agg o.enc,.fp m.enc] (B (decide (o.client=m.client))):=by
 refine Pm Tryz.func181 fun hfit=> ?_
 simp[Tryz.f181]
theorem try_not {h:HostR} {m:MsgR} (hn:¬(m.kind=3∧(ownMsg h m).2.1=true∧(ownMsg h m).2.2=false∧(ownMsg h m).1.n=m.n)):tryS h m=(h.s,false):=by
 unfold tryS
 split
 ·rfl
 ·rename_i o ho
  rw[if_neg]
  rintro⟨h1,h2,h3,h4,_⟩
  rw[ZcB ho] at hn
  exact hn ⟨h1,h2,by simp[h2,h3],h4⟩
theorem try_yes {h:HostR} {m:MsgR} (hn:m.kind=3∧(ownMsg h m).2.1=true∧(ownMsg h m).2.2=false∧(ownMsg h m).1.n=m.n):ZcT h m.client=some (ownMsg h m).1∧tryS h m=if(commitS h.s (ownMsg h m).1.t).2=0 then((commitS h.s (ownMsg h m).1.t).1,true) else(h.s,false):=by
 unfold tryS
 obtain⟨h1,h2,h3,h4⟩:=hn
 cases hx:ZcT h m.client with
 |none=>rw[ZfJ hx] at h2;cases h2
 |some o=>
  rw[ZcB hx] at h2 h3 h4⊢
  simp only at h2 h3 h4⊢
  have h3':lateO h o m=false:=by rw[h2] at h3;simpa using h3
  refine⟨by first|trivial|rfl,?_⟩
  by_cases z:(commitS h.s o.t).2=0
  ·rw[if_pos ⟨h1,h2,h3',h4,z⟩,if_pos z]
  ·rw[if_neg (fun g=>z g.2.2.2.2),if_neg z]
theorem Zqw (h:HostR) (m:MsgR) (hr:Zn OpenR.client h.opens=true) (hl:h.opens.length≤100000) (hf:∀o∈h.opens,Fit o) (hP:ZG h.s) (hb:ZaE 90000 h.s) (hs:h.s.stamp<4611686018427387904) (hR:Zaa h.rows):Zd Tryz.prog 150 [.agg h.enc,.agg m.enc] (hTup (decideH h m)):=by
 have h2:=Zfl h m hr (by omega)
 have h3:=ZC 20
 have h4:=ZC 16
 have h5:=ZC 15
 have hdel:=Zng h.opens 181 [.ptr 1 0 0] [.fp m.enc] [.cells 0 m.enc] (fun x=>decide (x.client=m.client)) (by simp) (by simp) (by simp) (fun fu b0 tl=>by simp) (fun x _=>Znh x m) (by omega)
 have hcl:=cloneO_ok h.opens (by omega)
 by_cases hc:m.kind=3∧(ownMsg h m).2.1=true∧(ownMsg h m).2.2=false∧(ownMsg h m).1.n=m.n
 ·obtain⟨ho,ht⟩:=try_yes hc
  have F:=hf _ (Zu OpenR.client ho).1
  have h6:=ZtU h.s (ownMsg h m).1.t hP (hb.mono (by omega)) (by omega) F.t (Zwu h.s _ hP (hb.b (by omega)) F.t.rise (by have:=F.looks;omega))
  unfold decideH ZaK
  rw[ht]
  obtain⟨c1,c2,c3,c4⟩:=hc
  have c5:¬m.kind=5:=by omega
  rw[if_neg (fun g=>c5 g.1),c2]
  generalize ownMsg h m=u at*
  obtain⟨o,is,late⟩:=u
  simp only at c2 c3 c4 h6 F ho⊢
  subst c2 c3
  clear ho ht F
  by_cases z:(commitS h.s o.t).2=0
  ·rw[if_pos z]
   have h7:=ZhU h.rows m.client m.epoch m.seq true hR
   have h8:=ZC (decideS h.rows m.client m.epoch m.seq true).2.2
   generalize commitS h.s o.t=C at*
   generalize decideS h.rows m.client m.epoch m.seq true=D at*
   refine Pm Tryz.func150 fun hfit=> ?_
   simp[Tryz.f150]
   have s_:=An @c1 (An @c4 (An @z (An @encH7 (An @StoreR.enc.eq_1 (An @rep0.eq_1 (@ReplyR.enc.eq_1))))))
   try simp[s_]
   repeat' ((first|((first|refine Tp ?_|refine Tn ?_|refine T2 ?_ ?_)<;>intro h_ e_ n_)|(refine AInv.fresh [] hcl (by simp) (by simp) ?_;simp)|(refine AInv.fresh [7,1] hdel (by simp) (by simp) ?_;simp)|refine Pg h2 ?_|refine Pg h6 ?_|refine Pg h7 ?_|refine Pg h8 ?_|refine Dg 3 4 [2,3] [] ?_|refine Dg 13 5 [2,3] [] ?_|refine Dg 20 4 [2,3] [] ?_|refine Dg 21 4 [2,3] [] ?_|rw[Ip]|rw[In]|rw[Fz]|rw[Gz]|fail)<;>first|simp[e_,n_,s_]|simp[s_]|skip)
  ·rw[if_neg z]
   have h7:=ZhU h.rows m.client m.epoch m.seq false hR
   have h8:=ZC (decideS h.rows m.client m.epoch m.seq false).2.2
   generalize commitS h.s o.t=C at*
   generalize decideS h.rows m.client m.epoch m.seq false=D at*
   refine Pm Tryz.func150 fun hfit=> ?_
   simp[Tryz.f150]
   have s_:=An @c1 (An @c4 (An @z (@encH7)))
   try simp[s_]
   repeat' ((first|((first|refine Tp ?_|refine Tn ?_|refine T2 ?_ ?_)<;>intro h_ e_ n_)|(refine AInv.fresh [] hcl (by simp) (by simp) ?_;simp)|(refine AInv.fresh [7,1] hdel (by simp) (by simp) ?_;simp)|refine Pg h2 ?_|refine Pg h6 ?_|refine Pg h7 ?_|refine Pg h8 ?_|refine Pg h5 ?_|refine Dg 3 4 [2,3] [] ?_|refine Dg 13 5 [2,3] [] ?_|refine Dg 20 4 [2,3] [] ?_|refine Dg 21 4 [2,3] [] ?_|rw[Ip]|rw[In]|rw[Fz]|rw[Gz]|fail)<;>first|simp[e_,n_,s_]|simp[s_]|skip)
 ·unfold decideH ZaK
  rw[try_not hc]
  have h7:=ZhU h.rows m.client m.epoch m.seq false hR
  have h8:=ZC (decideS h.rows m.client m.epoch m.seq false).2.2
  generalize decideS h.rows m.client m.epoch m.seq false=D at*
  generalize ownMsg h m=u at*
  obtain⟨o,is,late⟩:=u
  simp only at hc h2⊢
  by_cases hx:m.kind=3∧is=true∧late=false
  ·obtain⟨c1,c2,c3⟩:=hx
   subst c2 c3
   have c4:¬o.n=m.n:=fun g=>hc ⟨c1,rfl,rfl,g⟩
   refine Pm Tryz.func150 fun hfit=> ?_
   simp[Tryz.f150]
   have s_:=An @c1 (An @c4 (@encH7))
   try simp[s_]
   repeat' ((first|((first|refine Tp ?_|refine Tn ?_|refine T2 ?_ ?_)<;>intro h_ e_ n_)|(refine AInv.fresh [] hcl (by simp) (by simp) ?_;simp)|(refine AInv.fresh [6,1] hdel (by simp) (by simp) ?_;simp)|refine Pg h2 ?_|refine Pg h7 ?_|refine Pg h8 ?_|refine Pg h5 ?_|refine Dg 3 4 [2,3] [] ?_|refine Dg 13 5 [2,3] [] ?_|refine Dg 20 4 [2,3] [] ?_|refine Dg 21 4 [2,3] [] ?_|rw[Ip]|rw[In]|rw[Fz]|rw[Gz]|fail)<;>first|simp[e_,n_,s_]|simp[s_]|skip)
  have hk:m.kind=3∨m.kind=5∨(¬m.kind=3∧¬m.kind=5):=by omega
  rcases hk with c1|c1|c1<;>cases is<;>cases late<;>first|(exfalso;exact hx ⟨c1,rfl,rfl⟩)|skip
  all_goals
   refine Pm Tryz.func150 fun hfit=> ?_
   simp[Tryz.f150]
   have s_:=An @c1 (@encH7)
   try simp[s_]
   repeat' ((first|((first|refine Tp ?_|refine Tn ?_|refine T2 ?_ ?_)<;>intro h_ e_ n_)|(refine AInv.fresh [] hcl (by simp) (by simp) ?_;simp)|(refine AInv.fresh [6,1] hdel (by simp) (by simp) ?_;simp)|refine Pg h2 ?_|refine Pg h3 ?_|refine Pg h4 ?_|refine Pg h7 ?_|refine Pg h8 ?_|refine Pg h5 ?_|refine Dg 3 4 [2,3] [] ?_|refine Dg 13 5 [2,3] [] ?_|refine Dg 20 4 [2,3] [] ?_|refine Dg 21 4 [2,3] [] ?_|rw[Ip]|rw[In]|rw[Fz]|rw[Gz]|fail)<;>first|simp[e_,n_,s_]|simp[s_]|skip)
abbrev waysM:AV:= .fmap [I 1,I 2,I 3,I 4,I 5] [.fn 148 [],.fn 149 [],.fn 150 [],.fn 150 [],.fn 150 []]
theorem ways_ok:Zd Tryz.prog 79 [] waysM:=by
 refine Pm Tryz.func79 fun hfit=> ?_
 simp[Tryz.f79]
structure _root_.Go.Cx.FitH (h:HostR):Prop where
 rise:Zn OpenR.client h.opens=true
 few:h.opens.length≤100000
 opens:∀o∈h.opens,Fit o
 store:ZG h.s
 vers:ZaE 90000 h.s
 stamp:h.s.stamp<4611686018427387904
 rows:Zaa h.rows
 lease:IntKind.i64.wrap (h.now+h.lease)=h.now+h.lease
theorem Zti (h:HostR) (m:MsgR) (F:FitH h) (hm:m.c.wf):Zd Tryz.prog 38 [.agg h.enc,.agg m.enc] (hTup (answerS h m)):=by
 have h0:=ways_ok
 have h1:=ZtP h.rows m.client m.epoch m.seq F.rows
 have h2:=ZtO h.rows m.client m.epoch m.seq F.rows
 have h3:=Ztg h m F.rise F.few (by have:=F.vers.l;omega) F.lease
 have h4:=ZvD h m F.rise F.few F.opens hm F.lease
 have h5:=Zqw h m F.rise F.few F.opens F.store F.vers F.stamp F.rows
 unfold answerS
 by_cases k6:m.kind=6
 ·have h6:=ZC (forgetS h.rows m.client m.epoch m.seq).2
  rw[if_pos k6]
  clear h2 h3 h4 h5 h0
  generalize forgetS h.rows m.client m.epoch m.seq=X at*
  refine Pm Tryz.func38 fun hfit=> ?_
  simp[Tryz.f38]
  have s_:=An @k6 (@encH7)
  try simp[s_]
  repeat' ((first|((first|refine Tp ?_|refine Tn ?_|refine T2 ?_ ?_)<;>intro h_ e_ n_)|refine Pg h1 ?_|refine Pg h6 ?_|refine Dg 4 5 [2,3] [] ?_|refine Dg 8 5 [2,3] [] ?_|refine Dg 10 4 [2,3] [] ?_|refine Dg 14 4 [2,3] [] ?_|refine Dg 17 4 [2,3] [] ?_|refine Dg 6 9 [] [] ?_|rw[Ip]|rw[In]|rw[Fz]|rw[Gz]|fail)<;>first|simp[e_,n_,s_]|simp[s_]|skip)
 rw[if_neg k6]
 clear h1
 have h6:=ZC (askS h.rows m.client m.epoch m.seq).2
 have h7:=ZC 1
 have h8:=ZC 7
 have h9:=ZC 15
 generalize askS h.rows m.client m.epoch m.seq=X at*
 obtain⟨y,e⟩:=X
 simp only at h2 h6⊢
 generalize beginH h m=b1 at*
 generalize callS h m=b2 at*
 generalize decideH h m=b3 at*
 have hk0:m.kind=1∨m.kind=2∨m.kind=3∨m.kind=4∨m.kind=5∨(¬m.kind=1∧¬m.kind=2∧¬m.kind=3∧¬m.kind=4∧¬m.kind=5∧(m.kind<1∨5<m.kind)):=by omega
 have hk:m.kind=1∨m.kind=2∨m.kind=3∨m.kind=4∨m.kind=5∨((m.kind==1)=false∧(m.kind==2)=false∧(m.kind==3)=false∧(m.kind==4)=false∧(m.kind==5)=false∧(m.kind<1∨5<m.kind)):=by
  simpa only[beq_eq_false_iff_ne,ne_eq] using hk0
 have he:(e=0)∨(e=6)∨(¬e=0∧¬e=6):=by omega
 rcases hk with c|c|c|c|c|c<;>rcases he with a|a|a<;>cases y
 all_goals
  refine Pm Tryz.func38 fun hfit=> ?_
  simp[Tryz.f38]
  have s_:=An @k6 (An @c (An @a (An @rep0.eq_1 (@ReplyR.enc.eq_1))))
  try simp[s_]
  repeat' ((first|((first|refine Tp ?_|refine Tn ?_|refine T2 ?_ ?_)<;>intro h_ e_ n_)|refine Pg h0 ?_|refine Pg h2 ?_|refine Pg h3 ?_|refine Pg h4 ?_|refine Pg h5 ?_|refine Pg h6 ?_|refine Pg h7 ?_|refine Pg h8 ?_|refine Pg h9 ?_|refine Dg 4 5 [2,3] [] ?_|refine Dg 8 5 [2,3] [] ?_|refine Dg 10 4 [2,3] [] ?_|refine Dg 14 4 [2,3] [] ?_|refine Dg 17 4 [2,3] [] ?_|refine Dg 6 9 [] [] ?_|rw[Ip]|rw[In]|rw[Fz]|rw[Gz]|fail)<;>first|simp[e_,n_,s_]|simp[s_]|skip)
theorem ZcC (h:HostR) (m:MsgR) (F:FitH h) (hm:m.c.wf):Zd Tryz.prog 11 [.agg h.enc,.agg m.enc] (.tup [.agg (handleS h m).1.enc,.agg (handleS h m).2.enc]):=by
 have h1:=ZtO h.rows m.client m.epoch m.seq F.rows
 have h2:=Zth h m F.rise F.few
 have h3:=Zti h m F hm
 unfold handleS nS
 generalize answerS h m=A at*
 generalize mayCallS h m=e at*
 generalize askS h.rows m.client m.epoch m.seq=X at*
 by_cases c:m.kind=2<;>by_cases a:X.2=6<;>by_cases b:e=0
 all_goals
  refine Pm Tryz.func11 fun hfit=> ?_
  simp[Tryz.f11]
  have s_:=An @c (An @a (An @b (An @setH_enc (An @RspR.enc.eq_1 (@ReplyR.enc.eq_1)))))
  try simp[s_]
  repeat' ((first|((first|refine Tp ?_|refine Tn ?_|refine T2 ?_ ?_)<;>intro h_ e_ n_)|refine Pg h1 ?_|refine Pg h2 ?_|refine Pg h3 ?_|refine Dg 6 14 [2,3] [] ?_|rw[Ip]|rw[In]|rw[Fz]|rw[Gz]|fail)<;>first|simp[e_,n_,s_]|simp[s_]|skip)
def fewT:Int→List RowR→Bool
 |n,[]=>decide (n≤400)
 |n,x::l=>if n≤400 then fewT (IntKind.i64.wrap (n+x.l.length)) l else false
theorem Zwk {l:List RowR} {n:Int} {i:Nat} (h:¬i<l.length):fewT n (l.drop i)=decide (n≤400):=by
 rw[List.drop_eq_nil_of_le (by omega),fewT]
theorem fewT_at {l:List RowR} {n:Int} {i:Nat} (h:i<l.length):fewT n (l.drop i)=if n≤400 then fewT (IntKind.i64.wrap (n+l[i].l.length)) (l.drop (i+1)) else false:=by
 rw[List.drop_eq_getElem_cons h,fewT]
theorem Zwl (l:List RowR):Zd Tryz.prog 26 [encL RowR.enc l] (B (fewT l.length l)):=by
 refine Pm Tryz.func26 fun hfit=> ?_
 simp at hfit
 have hll:=hfit.1
 simp only[maxLen] at hll
 simp[Tryz.f26]
 refine AW.loopG (lit:=fun _=>false) (fun x:Nat×Int=>⟨27,pat [(0,encL RowR.enc l),(3,I x.2),(4,I x.1)],[]⟩) (fun x=>l.length -x.1) (fun x=>x.1≤l.length∧fewT x.2 (l.drop x.1)=fewT l.length l) (0,(l.length:Int)) ?_ ?_ ?_
 ·exact Wa
 ·simp
 rintro⟨i,n⟩ ⟨h1,h2⟩ A hA
 simp only at h1 h2
 by_cases hi:i<l.length
 case neg=>
  rw[Zwk hi] at h2
  have s_:=An @hi (Eq.symm (h2))
  try simp[s_]
  repeat' ((first|((first|refine Tp ?_|refine Tn ?_|refine T2 ?_ ?_)<;>intro h_ e_ n_)|rw[Ip]|rw[In]|rw[Fz]|rw[Gz]|fail)<;>first|simp[e_,n_,s_]|simp[s_]|skip)
 rw[fewT_at hi] at h2
 by_cases hn:n≤400
 case neg=>
  rw[if_neg hn] at h2
  have s_:=An @hi (An @hn (Eq.symm (h2)))
  try simp[s_]
  repeat' ((first|((first|refine Tp ?_|refine Tn ?_|refine T2 ?_ ?_)<;>intro h_ e_ n_)|rw[Ip]|rw[In]|rw[Fz]|rw[Gz]|fail)<;>first|simp[e_,n_,s_]|simp[s_]|skip)
 rw[if_pos hn] at h2
 have hw2:=Zi hi hfit.1
 have s_:=An @hi (An @hn (An @RowR.enc.eq_1 (@hw2)))
 try simp[s_]
 repeat' ((first|((first|refine Tp ?_|refine Tn ?_|refine T2 ?_ ?_)<;>intro h_ e_ n_)|(exact hA (i+1,IntKind.i64.wrap (n+l[i].l.length)) _ Wa ⟨by simp only;omega,h2⟩ (by simp only;omega))|rw[Ip]|rw[In]|rw[Fz]|rw[Gz]|fail)<;>first|simp[e_,n_,s_]|simp[s_]|skip)
noncomputable def rightT (l:List RowR):Bool:= @decide (Zaa l) (Classical.propDecidable _)
theorem Zjl (l:List RowR):rightT l=true↔Zaa l:=by simp[rightT]
theorem Zdx {l:List RowR} (h:¬Zaa l):rightT l=false:=by simp[rightT,h]
theorem Zdy {α:Type} (key:α→Int):∀{l:List α},(∀i (h:i+1<l.length),key l[i]<key l[i+1])→Zn key l=true
 |[],_=>rfl
 |[_],_=>rfl
 |a::b::l,h=>by
  simp only[Zn,Bool.and_eq_true,decide_eq_true_eq]
  refine⟨by have:=h 0 (by simp);simpa using this,Zdy key fun i hi=> ?_⟩
  have:=h (i+1) (by simpa using hi)
  simpa using this
def _root_.Go.Cx.DecisionR.vals (c:DecisionR):List Value:=[.int .i64 c.seq,.bool c.yes]
abbrev decK:List TypeDesc:=[.int .i64,.bool]
theorem _root_.Go.Cx.DecisionR.kinds (c:DecisionR):ZbO decK c.vals:= .cons rfl (.cons rfl .nil)
theorem _root_.Go.Cx.DecisionR.vals_eq (a b:DecisionR):a.vals=b.vals↔a=b:=by
 cases a;cases b;simp[DecisionR.vals]
@[simp] theorem dec_neq {P:Program} {t:TypeId} (ox oy:Operand) (ht:ZhW P t=some decK) (hg:tagg P t=some true) (a b:DecisionR):abin P .neq t ox oy (.agg a.enc) (.agg b.enc)=some (.val (.bool (!decide (a=b)))):=by
 have:=(Zmi ht hg a.kinds b.kinds ox oy).2
 have e:decide (a.vals=b.vals)=decide (a=b):=by rw[decide_eq_decide];exact DecisionR.vals_eq a b
 rw[e] at this;exact this
theorem ZqZ (l:List RowR) (R:Zaa l):Zd Tryz.prog 43 [encL RowR.enc l,encL RowR.enc l] (B true):=by
 refine Pm Tryz.func43 fun hfit=> ?_
 simp at hfit
 simp[Tryz.f43]
 refine AW.loopG (lit:=fun _=>false) (fun i:Nat=>⟨97,pat [(0,encL RowR.enc l),(1,encL RowR.enc l),(5,I i)],[]⟩) (fun i=>l.length -i) (fun i=>i≤l.length) 0 ?_ ?_ ?_
 ·exact Wa
 ·simp
 rintro i h1 A hA
 by_cases hi:i<l.length
 case neg=>
  have s_:=hi
  try simp[s_]
  repeat' ((first|((first|refine Tp ?_|refine Tn ?_|refine T2 ?_ ?_)<;>intro h_ e_ n_)|refine Dg 6 52 [] [] ?_|refine Dg 11 17 [] [] ?_|rw[Ip]|rw[In]|rw[Fz]|rw[Gz]|fail)<;>first|simp[e_,n_,s_]|simp[s_]|skip)
 have hw2:=Zi hi hfit.1
 have hlen:=(R.ok _ (List.getElem_mem hi)).len
 have s_:=An @hi (@RowR.enc.eq_1)
 try simp[s_]
 repeat' ((first|((first|refine Tp ?_|refine Tn ?_|refine T2 ?_ ?_)<;>intro h_ e_ n_)|refine Dg 6 52 [] [] ?_|refine Dg 11 17 [] [] ?_|rw[Ip]|rw[In]|rw[Fz]|rw[Gz]|fail)<;>first|simp[e_,n_,s_]|simp[s_]|skip)
 refine AW.loopG (lit:=fun _=>false) (fun j:Nat=>⟨97,pat [(0,encL RowR.enc l),(1,encL RowR.enc l),(5,I i),(6,I j)],[]⟩) (fun j=>l[i].l.length -j) (fun j=>j≤l[i].l.length) 0 ?_ ?_ ?_
 ·exact Wa
 ·simp
 rintro j h2 A2 hA2
 by_cases hj:j<l[i].l.length
 case neg=>
  have s_:=An @hi (An @hj (An @hw2 (@RowR.enc.eq_1)))
  try simp[s_]
  repeat' ((first|((first|refine Tp ?_|refine Tn ?_|refine T2 ?_ ?_)<;>intro h_ e_ n_)|(exact hA (i+1) _ Wa hi (by omega))|refine Dg 6 52 [] [] ?_|refine Dg 11 17 [] [] ?_|rw[Ip]|rw[In]|rw[Fz]|rw[Gz]|fail)<;>first|simp[e_,n_,s_]|simp[s_]|skip)
 have hw3:=Zi hj (by simp only[maxLen];omega)
 have s_:=An @hi (An @hj (An @hw3 (An @RowR.enc.eq_1 (@decK.eq_1))))
 try simp[s_]
 repeat' ((first|((first|refine Tp ?_|refine Tn ?_|refine T2 ?_ ?_)<;>intro h_ e_ n_)|(exact hA2 (j+1) _ Wa hj (by omega))|refine Dg 6 52 [] [] ?_|refine Dg 11 17 [] [] ?_|rw[Ip]|rw[In]|rw[Fz]|rw[Gz]|fail)<;>first|simp[e_,n_,s_]|simp[s_]|skip)
theorem Zny (l:List RowR):Zd Tryz.prog 41 [encL RowR.enc l] (B (rightT l)):=by
 refine Pm Tryz.func41 fun hfit=> ?_
 simp at hfit
 simp[Tryz.f41]
 by_cases hl:64<l.length
 ·have hf:rightT l=false:=Zdx fun R=>by have:=R.len;omega
  have s_:=An @hl (@hf)
  try simp[s_]
  repeat' ((first|((first|refine Tp ?_|refine Tn ?_|refine T2 ?_ ?_)<;>intro h_ e_ n_)|refine Dg 7 34 [] [] ?_|refine Dg 12 29 [] [] ?_|rw[Ip]|rw[In]|rw[Fz]|rw[Gz]|fail)<;>first|simp[e_,n_,s_]|simp[s_]|skip)
 have s_:=hl
 try simp[s_]
 repeat' ((first|((first|refine Tp ?_|refine Tn ?_|refine T2 ?_ ?_)<;>intro h_ e_ n_)|refine Dg 7 34 [] [] ?_|refine Dg 12 29 [] [] ?_|rw[Ip]|rw[In]|rw[Fz]|rw[Gz]|fail)<;>first|simp[e_,n_,s_]|simp[s_]|skip)
 refine AW.loopG (lit:=fun _=>false) (fun i:Nat=>⟨89,pat [(0,encL RowR.enc l),(3,I i)],[]⟩) (fun i=>l.length -i) (fun i=>i≤l.length∧(∀k (h:k<l.length),k<i→Zhd l[k])∧(∀k (h:k+1<l.length),k+1<i→l[k].client<l[k+1].client)) 0 ?_ ?_ ?_
 ·exact Wa
 ·exact⟨by simp,fun k _ h=>by omega,fun k _ h=>by omega⟩
 rintro i ⟨h1,h2,h3⟩ A hA
 by_cases hi:i<l.length
 case neg=>
  have hf:rightT l=true:=(Zjl l).2 ⟨by omega,Zdy _ fun k h=>h3 k h (by omega),fun r hr=>by obtain⟨k,hk,rfl⟩:=List.getElem_of_mem hr;exact h2 k hk (by omega)⟩
  have s_:=An @hi (@hf)
  try simp[s_]
  repeat' ((first|((first|refine Tp ?_|refine Tn ?_|refine T2 ?_ ?_)<;>intro h_ e_ n_)|refine Dg 7 34 [] [] ?_|refine Dg 12 29 [] [] ?_|rw[Ip]|rw[In]|rw[Fz]|rw[Gz]|fail)<;>first|simp[e_,n_,s_]|simp[s_]|skip)
 have hw2:=Zi hi hfit.1
 have bad:¬Zhd l[i]→rightT l=false:=fun h=>Zdx fun R=>h (R.ok _ (List.getElem_mem hi))
 by_cases c1:l[i].client<0
 ·have hf:=bad fun o=>by have:=o.client;omega
  have s_:=An @hi (An @RowR.enc.eq_1 (An @c1 (@hf)))
  try simp[s_]
  repeat' ((first|((first|refine Tp ?_|refine Tn ?_|refine T2 ?_ ?_)<;>intro h_ e_ n_)|refine Dg 7 34 [] [] ?_|refine Dg 12 29 [] [] ?_|rw[Ip]|rw[In]|rw[Fz]|rw[Gz]|fail)<;>first|simp[e_,n_,s_]|simp[s_]|skip)
 by_cases c2:l[i].epoch<1
 ·have hf:=bad fun o=>by have:=o.epoch;omega
  have s_:=An @hi (An @RowR.enc.eq_1 (An @c1 (An @c2 (@hf))))
  try simp[s_]
  repeat' ((first|((first|refine Tp ?_|refine Tn ?_|refine T2 ?_ ?_)<;>intro h_ e_ n_)|refine Dg 7 34 [] [] ?_|refine Dg 12 29 [] [] ?_|rw[Ip]|rw[In]|rw[Fz]|rw[Gz]|fail)<;>first|simp[e_,n_,s_]|simp[s_]|skip)
 by_cases c3:l[i].done<0
 ·have hf:=bad fun o=>by have:=o.done;omega
  have s_:=An @hi (An @RowR.enc.eq_1 (An @c1 (An @c2 (An @c3 (@hf)))))
  try simp[s_]
  repeat' ((first|((first|refine Tp ?_|refine Tn ?_|refine T2 ?_ ?_)<;>intro h_ e_ n_)|refine Dg 7 34 [] [] ?_|refine Dg 12 29 [] [] ?_|rw[Ip]|rw[In]|rw[Fz]|rw[Gz]|fail)<;>first|simp[e_,n_,s_]|simp[s_]|skip)
 by_cases c4:256<l[i].l.length
 ·have hf:=bad fun o=>by have:=o.len;omega
  have s_:=An @hi (An @RowR.enc.eq_1 (An @c1 (An @c2 (An @c3 (An @c4 (@hf))))))
  try simp[s_]
  repeat' ((first|((first|refine Tp ?_|refine Tn ?_|refine T2 ?_ ?_)<;>intro h_ e_ n_)|refine Dg 7 34 [] [] ?_|refine Dg 12 29 [] [] ?_|rw[Ip]|rw[In]|rw[Fz]|rw[Gz]|fail)<;>first|simp[e_,n_,s_]|simp[s_]|skip)
 cases i with
 |zero=>
  have s_:=An @hi (An @hw2 (An @RowR.enc.eq_1 (An @c1 (An @c2 (An @c3 (@c4))))))
  try simp[s_]
  repeat' ((first|((first|refine Tp ?_|refine Tn ?_|refine T2 ?_ ?_)<;>intro h_ e_ n_)|refine Dg 7 34 [] [] ?_|refine Dg 12 29 [] [] ?_|rw[Ip]|rw[In]|rw[Fz]|rw[Gz]|fail)<;>first|simp[e_,n_,s_]|simp[s_]|skip)
  refine AW.loopG (lit:=fun _=>false) (fun j:Nat=>⟨89,pat [(0,encL RowR.enc l),(3,I ((0:Nat):Int)),(4,.ptr 0 0 0),(5,I j)],[.cells 0 [I l[0].client,I l[0].epoch,I l[0].done,encL DecisionR.enc l[0].l]]⟩) (fun j=>l[0].l.length -j) (fun j=>j≤l[0].l.length∧(∀k (h:k<l[0].l.length),k<j→l[0].done<l[0].l[k].seq)∧(∀k (h:k+1<l[0].l.length),k+1<j→l[0].l[k].seq<l[0].l[k+1].seq)) 0 ?_ ?_ ?_
  ·exact Wa
  ·exact⟨by simp,fun k _ h=>by omega,fun k _ h=>by omega⟩
  rintro j ⟨g1,g2,g3⟩ A2 hA2
  by_cases hj:j<l[0].l.length
  case neg=>
   have hok:Zhd l[0]:=⟨by omega,by omega,by omega,by omega,Zdy _ fun k h=>g3 k h (by omega),fun d hd=>by obtain⟨k,hk,rfl⟩:=List.getElem_of_mem hd;exact g2 k hk (by omega)⟩
   have s_:=An @hi (An @hj (@hw2))
   try simp[s_]
   repeat' ((first|((first|refine Tp ?_|refine Tn ?_|refine T2 ?_ ?_)<;>intro h_ e_ n_)|(exact hA (1) _ Wc ⟨hi,fun k h q=>by rcases Nat.lt_or_ge k 0 with q2|q2;(·exact h2 k h q2);(obtain rfl:k=0:=(by omega);exact hok),fun k h q=>by omega⟩ (by omega))|refine Dg 7 34 [] [] ?_|refine Dg 12 29 [] [] ?_|rw[Ip]|rw[In]|rw[Fz]|rw[Gz]|fail)<;>first|simp[e_,n_,s_]|simp[s_]|skip)
  have hjw:=Zi hj (by simp only[maxLen];omega)
  by_cases d1:l[0].l[j].seq≤l[0].done
  ·have hf:=bad fun o=>by have:=o.above _ (List.getElem_mem hj);omega
   have s_:=An @hi (An @hj (An @d1 (An @hf (@DecisionR.enc.eq_1))))
   try simp[s_]
   repeat' ((first|((first|refine Tp ?_|refine Tn ?_|refine T2 ?_ ?_)<;>intro h_ e_ n_)|refine Dg 7 34 [] [] ?_|refine Dg 12 29 [] [] ?_|rw[Ip]|rw[In]|rw[Fz]|rw[Gz]|fail)<;>first|simp[e_,n_,s_]|simp[s_]|skip)
  cases j with
  |zero=>
   have s_:=An @hi (An @hj (An @d1 (An @hjw (@DecisionR.enc.eq_1))))
   try simp[s_]
   repeat' ((first|((first|refine Tp ?_|refine Tn ?_|refine T2 ?_ ?_)<;>intro h_ e_ n_)|(exact hA2 1 _ Wa ⟨hj,fun k h q=>by obtain rfl:k=0:=(by omega);omega,fun k h q=>by omega⟩ (by omega))|refine Dg 7 34 [] [] ?_|refine Dg 12 29 [] [] ?_|rw[Ip]|rw[In]|rw[Fz]|rw[Gz]|fail)<;>first|simp[e_,n_,s_]|simp[s_]|skip)
  |succ j=>
   have hj0:j<l[0].l.length:=by omega
   have hj3:IntKind.i64.wrap ((j:Int)+1 -1)=(j:Int):=by rw[IntKind.wrap_i64];omega
   have hj4:IntKind.i64.wrap (j:Int)=(j:Int):=by rw[IntKind.wrap_i64];omega
   have hj5:IntKind.i64.wrap ((j:Int)+1+1)=(j:Int)+2:=by rw[IntKind.wrap_i64];omega
   by_cases d2:l[0].l[j+1].seq≤l[0].l[j].seq
   ·have hf:=bad fun o=>by have:=Zac _ o.rise j (j+1) hj0 hj (by omega);omega
    have s_:=An @hi (An @hj (An @hj0 (An @hj3 (An @hj4 (An @d1 (An @d2 (An @hf (@DecisionR.enc.eq_1))))))))
    try simp[s_]
    repeat' ((first|((first|refine Tp ?_|refine Tn ?_|refine T2 ?_ ?_)<;>intro h_ e_ n_)|refine Dg 7 34 [] [] ?_|refine Dg 12 29 [] [] ?_|rw[Ip]|rw[In]|rw[Fz]|rw[Gz]|fail)<;>first|simp[e_,n_,s_]|simp[s_]|skip)
   ·have s_:=An @hi (An @hj (An @hj0 (An @hj3 (An @hj4 (An @hj5 (An @d1 (An @d2 (@DecisionR.enc.eq_1))))))))
    try simp[s_]
    repeat' ((first|((first|refine Tp ?_|refine Tn ?_|refine T2 ?_ ?_)<;>intro h_ e_ n_)|(exact hA2 (j+2) _ Wa ⟨hj,fun k h q=>by rcases Nat.lt_or_ge k (j+1) with q2|q2;(·exact g2 k h q2);(obtain rfl:k=j+1:=(by omega);omega),fun k h q=>by rcases Nat.lt_or_ge (k+1) (j+1) with q2|q2;(·exact g3 k h q2);(obtain rfl:k=j:=(by omega);omega)⟩ (by omega))|refine Dg 7 34 [] [] ?_|refine Dg 12 29 [] [] ?_|rw[Ip]|rw[In]|rw[Fz]|rw[Gz]|fail)<;>first|simp[e_,n_,s_]|simp[s_]|skip)
 |succ i=>
  have hi0:i<l.length:=by omega
  have hi3:IntKind.i64.wrap ((i:Int)+1 -1)=(i:Int):=by rw[IntKind.wrap_i64];omega
  have hi4:IntKind.i64.wrap (i:Int)=(i:Int):=by rw[IntKind.wrap_i64];omega
  have hw2:IntKind.i64.wrap ((i:Int)+1+1)=(i:Int)+2:=by rw[IntKind.wrap_i64];omega
  by_cases c5:l[i+1].client≤l[i].client
  ·have hf:rightT l=false:=Zdx fun R=>by have:=Zac _ R.rise i (i+1) hi0 hi (by omega);omega
   have s_:=An @hi (An @hi0 (An @hi3 (An @hi4 (An @RowR.enc.eq_1 (An @c1 (An @c2 (An @c3 (An @c4 (An @c5 (@hf))))))))))
   try simp[s_]
   repeat' ((first|((first|refine Tp ?_|refine Tn ?_|refine T2 ?_ ?_)<;>intro h_ e_ n_)|refine Dg 7 34 [] [] ?_|refine Dg 12 29 [] [] ?_|rw[Ip]|rw[In]|rw[Fz]|rw[Gz]|fail)<;>first|simp[e_,n_,s_]|simp[s_]|skip)
  have s_:=An @hi (An @hw2 (An @RowR.enc.eq_1 (An @c1 (An @c2 (An @c3 (An @c4 (An @c5 (An @hi0 (An @hi3 (@hi4))))))))))
  try simp[s_]
  repeat' ((first|((first|refine Tp ?_|refine Tn ?_|refine T2 ?_ ?_)<;>intro h_ e_ n_)|refine Dg 7 34 [] [] ?_|refine Dg 12 29 [] [] ?_|rw[Ip]|rw[In]|rw[Fz]|rw[Gz]|fail)<;>first|simp[e_,n_,s_]|simp[s_]|skip)
  refine AW.loopG (lit:=fun _=>false) (fun j:Nat=>⟨89,pat [(0,encL RowR.enc l),(3,I ((i+1:Nat):Int)),(4,.ptr 0 0 0),(5,I j)],[.cells 0 [I l[i+1].client,I l[i+1].epoch,I l[i+1].done,encL DecisionR.enc l[i+1].l]]⟩) (fun j=>l[i+1].l.length -j) (fun j=>j≤l[i+1].l.length∧(∀k (h:k<l[i+1].l.length),k<j→l[i+1].done<l[i+1].l[k].seq)∧(∀k (h:k+1<l[i+1].l.length),k+1<j→l[i+1].l[k].seq<l[i+1].l[k+1].seq)) 0 ?_ ?_ ?_
  ·exact Wa
  ·exact⟨by simp,fun k _ h=>by omega,fun k _ h=>by omega⟩
  rintro j ⟨g1,g2,g3⟩ A2 hA2
  by_cases hj:j<l[i+1].l.length
  case neg=>
   have hok:Zhd l[i+1]:=⟨by omega,by omega,by omega,by omega,Zdy _ fun k h=>g3 k h (by omega),fun d hd=>by obtain⟨k,hk,rfl⟩:=List.getElem_of_mem hd;exact g2 k hk (by omega)⟩
   have s_:=An @hi (An @hj (@hw2))
   try simp[s_]
   repeat' ((first|((first|refine Tp ?_|refine Tn ?_|refine T2 ?_ ?_)<;>intro h_ e_ n_)|(exact hA (i+2) _ Wc ⟨hi,fun k h q=>by rcases Nat.lt_or_ge k (i+1) with q2|q2;(·exact h2 k h q2);(obtain rfl:k=i+1:=(by omega);exact hok),fun k h q=>by rcases Nat.lt_or_ge (k+1) (i+1) with q2|q2;(·exact h3 k h q2);(obtain rfl:k=i:=(by omega);omega)⟩ (by omega))|refine Dg 7 34 [] [] ?_|refine Dg 12 29 [] [] ?_|rw[Ip]|rw[In]|rw[Fz]|rw[Gz]|fail)<;>first|simp[e_,n_,s_]|simp[s_]|skip)
  have hjw:=Zi hj (by simp only[maxLen];omega)
  by_cases d1:l[i+1].l[j].seq≤l[i+1].done
  ·have hf:=bad fun o=>by have:=o.above _ (List.getElem_mem hj);omega
   have s_:=An @hi (An @hj (An @d1 (An @hf (@DecisionR.enc.eq_1))))
   try simp[s_]
   repeat' ((first|((first|refine Tp ?_|refine Tn ?_|refine T2 ?_ ?_)<;>intro h_ e_ n_)|refine Dg 7 34 [] [] ?_|refine Dg 12 29 [] [] ?_|rw[Ip]|rw[In]|rw[Fz]|rw[Gz]|fail)<;>first|simp[e_,n_,s_]|simp[s_]|skip)
  cases j with
  |zero=>
   have s_:=An @hi (An @hj (An @d1 (An @hjw (@DecisionR.enc.eq_1))))
   try simp[s_]
   repeat' ((first|((first|refine Tp ?_|refine Tn ?_|refine T2 ?_ ?_)<;>intro h_ e_ n_)|(exact hA2 1 _ Wa ⟨hj,fun k h q=>by obtain rfl:k=0:=(by omega);omega,fun k h q=>by omega⟩ (by omega))|refine Dg 7 34 [] [] ?_|refine Dg 12 29 [] [] ?_|rw[Ip]|rw[In]|rw[Fz]|rw[Gz]|fail)<;>first|simp[e_,n_,s_]|simp[s_]|skip)
  |succ j=>
   have hj0:j<l[i+1].l.length:=by omega
   have hj3:IntKind.i64.wrap ((j:Int)+1 -1)=(j:Int):=by rw[IntKind.wrap_i64];omega
   have hj4:IntKind.i64.wrap (j:Int)=(j:Int):=by rw[IntKind.wrap_i64];omega
   have hj5:IntKind.i64.wrap ((j:Int)+1+1)=(j:Int)+2:=by rw[IntKind.wrap_i64];omega
   by_cases d2:l[i+1].l[j+1].seq≤l[i+1].l[j].seq
   ·have hf:=bad fun o=>by have:=Zac _ o.rise j (j+1) hj0 hj (by omega);omega
    have s_:=An @hi (An @hj (An @hj0 (An @hj3 (An @hj4 (An @d1 (An @d2 (An @hf (@DecisionR.enc.eq_1))))))))
    try simp[s_]
    repeat' ((first|((first|refine Tp ?_|refine Tn ?_|refine T2 ?_ ?_)<;>intro h_ e_ n_)|refine Dg 7 34 [] [] ?_|refine Dg 12 29 [] [] ?_|rw[Ip]|rw[In]|rw[Fz]|rw[Gz]|fail)<;>first|simp[e_,n_,s_]|simp[s_]|skip)
   ·have s_:=An @hi (An @hj (An @hj0 (An @hj3 (An @hj4 (An @hj5 (An @d1 (An @d2 (@DecisionR.enc.eq_1))))))))
    try simp[s_]
    repeat' ((first|((first|refine Tp ?_|refine Tn ?_|refine T2 ?_ ?_)<;>intro h_ e_ n_)|(exact hA2 (j+2) _ Wa ⟨hj,fun k h q=>by rcases Nat.lt_or_ge k (j+1) with q2|q2;(·exact g2 k h q2);(obtain rfl:k=j+1:=(by omega);omega),fun k h q=>by rcases Nat.lt_or_ge (k+1) (j+1) with q2|q2;(·exact g3 k h q2);(obtain rfl:k=j:=(by omega);omega)⟩ (by omega))|refine Dg 7 34 [] [] ?_|refine Dg 12 29 [] [] ?_|rw[Ip]|rw[In]|rw[Fz]|rw[Gz]|fail)<;>first|simp[e_,n_,s_]|simp[s_]|skip)
theorem ZlR {α:Type} {a b:List α} (hl:a.length=b.length) (h:∀k (h1:k<a.length) (h2:k<b.length),a[k]=b[k]):a=b:=List.ext_getElem hl h
theorem Zra (a b:List RowR) (R:Zaa a) (hne:¬a=b):Zd Tryz.prog 43 [encL RowR.enc a,encL RowR.enc b] (B false):=by
 refine Pm Tryz.func43 fun hfit=> ?_
 simp at hfit
 simp[Tryz.f43]
 by_cases hl:a.length=b.length
 case neg=>
  have s_:=hl
  try simp[s_]
  repeat' ((first|((first|refine Tp ?_|refine Tn ?_|refine T2 ?_ ?_)<;>intro h_ e_ n_)|refine Dg 6 52 [] [] ?_|refine Dg 11 17 [] [] ?_|rw[Ip]|rw[In]|rw[Fz]|rw[Gz]|fail)<;>first|simp[e_,n_,s_]|simp[s_]|skip)
 have s_:=hl
 try simp[s_]
 repeat' ((first|((first|refine Tp ?_|refine Tn ?_|refine T2 ?_ ?_)<;>intro h_ e_ n_)|refine Dg 6 52 [] [] ?_|refine Dg 11 17 [] [] ?_|rw[Ip]|rw[In]|rw[Fz]|rw[Gz]|fail)<;>first|simp[e_,n_,s_]|simp[s_]|skip)
 refine AW.loopG (lit:=fun _=>false) (fun i:Nat=>⟨97,pat [(0,encL RowR.enc a),(1,encL RowR.enc b),(5,I i)],[]⟩) (fun i=>b.length -i) (fun i=>i≤b.length∧∀k (h1:k<a.length) (h2:k<b.length),k<i→a[k]=b[k]) 0 ?_ ?_ ?_
 ·exact Wk.at _ rfl (by simp[hl]) (by simp)
 ·exact⟨by simp,fun k _ _ h=>by omega⟩
 rintro i ⟨h1,h2⟩ A hA
 by_cases hi:i<b.length
 case neg=>exact absurd (ZlR hl fun k q1 q2=>h2 k q1 q2 (by omega)) hne
 have hi2:i<a.length:=by omega
 have hw2:=Zi hi (hl▸hfit.1.1)
 have hlen:=(R.ok _ (List.getElem_mem hi2)).len
 by_cases c1:a[i].client=b[i].client
 case neg=>
  have s_:=An @hi (An @hi2 (An @hl (An @RowR.enc.eq_1 (@c1))))
  try simp[s_]
  repeat' ((first|((first|refine Tp ?_|refine Tn ?_|refine T2 ?_ ?_)<;>intro h_ e_ n_)|refine Dg 6 52 [] [] ?_|refine Dg 11 17 [] [] ?_|rw[Ip]|rw[In]|rw[Fz]|rw[Gz]|fail)<;>first|simp[e_,n_,s_]|simp[s_]|skip)
 by_cases c2:a[i].epoch=b[i].epoch
 case neg=>
  have s_:=An @hi (An @hi2 (An @hl (An @RowR.enc.eq_1 (An @c1 (@c2)))))
  try simp[s_]
  repeat' ((first|((first|refine Tp ?_|refine Tn ?_|refine T2 ?_ ?_)<;>intro h_ e_ n_)|refine Dg 6 52 [] [] ?_|refine Dg 11 17 [] [] ?_|rw[Ip]|rw[In]|rw[Fz]|rw[Gz]|fail)<;>first|simp[e_,n_,s_]|simp[s_]|skip)
 by_cases c3:a[i].done=b[i].done
 case neg=>
  have s_:=An @hi (An @hi2 (An @hl (An @RowR.enc.eq_1 (An @c1 (An @c2 (@c3))))))
  try simp[s_]
  repeat' ((first|((first|refine Tp ?_|refine Tn ?_|refine T2 ?_ ?_)<;>intro h_ e_ n_)|refine Dg 6 52 [] [] ?_|refine Dg 11 17 [] [] ?_|rw[Ip]|rw[In]|rw[Fz]|rw[Gz]|fail)<;>first|simp[e_,n_,s_]|simp[s_]|skip)
 by_cases c4:a[i].l.length=b[i].l.length
 case neg=>
  have s_:=An @hi (An @hi2 (An @hl (An @RowR.enc.eq_1 (An @c1 (An @c2 (An @c3 (@c4)))))))
  try simp[s_]
  repeat' ((first|((first|refine Tp ?_|refine Tn ?_|refine T2 ?_ ?_)<;>intro h_ e_ n_)|refine Dg 6 52 [] [] ?_|refine Dg 11 17 [] [] ?_|rw[Ip]|rw[In]|rw[Fz]|rw[Gz]|fail)<;>first|simp[e_,n_,s_]|simp[s_]|skip)
 have s_:=An @hi (An @hi2 (An @hl (An @RowR.enc.eq_1 (An @c1 (An @c2 (An @c3 (@c4)))))))
 try simp[s_]
 repeat' ((first|((first|refine Tp ?_|refine Tn ?_|refine T2 ?_ ?_)<;>intro h_ e_ n_)|refine Dg 6 52 [] [] ?_|refine Dg 11 17 [] [] ?_|rw[Ip]|rw[In]|rw[Fz]|rw[Gz]|fail)<;>first|simp[e_,n_,s_]|simp[s_]|skip)
 refine AW.loopG (lit:=fun _=>false) (fun j:Nat=>⟨97,pat [(0,encL RowR.enc a),(1,encL RowR.enc b),(5,I i),(6,I j)],[]⟩) (fun j=>b[i].l.length -j) (fun j=>j≤b[i].l.length∧∀k (h1:k<a[i].l.length) (h2:k<b[i].l.length),k<j→a[i].l[k]=b[i].l[k]) 0 ?_ ?_ ?_
 ·exact Wk.at _ rfl (by simp[hl]) (by simp)
 ·exact⟨by simp,fun k _ _ h=>by omega⟩
 rintro j ⟨g1,g2⟩ A2 hA2
 by_cases hj:j<b[i].l.length
 case neg=>
  have he:a[i]=b[i]:=(RowR.eq_iff _ _).2 ⟨c1,c2,c3,ZlR c4 fun k q1 q2=>g2 k q1 q2 (by omega)⟩
  have s_:=An @hi (An @hi2 (An @hj (An @hl (An @hw2 (An @c4 (@RowR.enc.eq_1))))))
  try simp[s_]
  repeat' ((first|((first|refine Tp ?_|refine Tn ?_|refine T2 ?_ ?_)<;>intro h_ e_ n_)|(exact hA (i+1) _ (Wk.at _ rfl (by simp[hl]) (by simp)) ⟨hi,fun k q1 q2 q=>by rcases Nat.lt_or_ge k i with q3|q3;(·exact h2 k q1 q2 q3);(obtain rfl:k=i:=(by omega);exact he)⟩ (by omega))|refine Dg 6 52 [] [] ?_|refine Dg 11 17 [] [] ?_|rw[Ip]|rw[In]|rw[Fz]|rw[Gz]|fail)<;>first|simp[e_,n_,s_]|simp[s_]|skip)
 have hj2:j<a[i].l.length:=by omega
 have hw3:=Zi hj (by simp only[maxLen];omega)
 by_cases hs:a[i].l[j]=b[i].l[j]
 ·have s_:=An @hi (An @hi2 (An @hj (An @hj2 (An @hl (An @hw3 (An @hs (An @c4 (An @RowR.enc.eq_1 (@decK.eq_1)))))))))
  try simp[s_]
  repeat' ((first|((first|refine Tp ?_|refine Tn ?_|refine T2 ?_ ?_)<;>intro h_ e_ n_)|(exact hA2 (j+1) _ (Wk.at _ rfl (by simp[hl]) (by simp)) ⟨hj,fun k q1 q2 q=>by rcases Nat.lt_or_ge k j with q3|q3;(·exact g2 k q1 q2 q3);(obtain rfl:k=j:=(by omega);exact hs)⟩ (by omega))|refine Dg 6 52 [] [] ?_|refine Dg 11 17 [] [] ?_|rw[Ip]|rw[In]|rw[Fz]|rw[Gz]|fail)<;>first|simp[e_,n_,s_]|simp[s_]|skip)
 ·have s_:=An @hi (An @hi2 (An @hj (An @hj2 (An @hl (An @hs (An @c4 (An @RowR.enc.eq_1 (@decK.eq_1))))))))
  try simp[s_]
  repeat' ((first|((first|refine Tp ?_|refine Tn ?_|refine T2 ?_ ?_)<;>intro h_ e_ n_)|refine Dg 6 52 [] [] ?_|refine Dg 11 17 [] [] ?_|rw[Ip]|rw[In]|rw[Fz]|rw[Gz]|fail)<;>first|simp[e_,n_,s_]|simp[s_]|skip)
theorem Znz (a b:List RowR) (R:Zaa a):Zd Tryz.prog 43 [encL RowR.enc a,encL RowR.enc b] (B (decide (a=b))):=by
 by_cases h:a=b
 ·subst h;simpa using ZqZ a R
 ·rw[decide_eq_false h];exact Zra a b R h
theorem open_eq (x y:OpenR):decide (x=y)=(decide (x.t=y.t)&&(decide (x.last=y.last)&&(decide (x.client=y.client)&&(decide (x.epoch=y.epoch)&&(decide (x.seq=y.seq)&&(decide (x.n=y.n)&&decide (x.until_=y.until_))))))):=by
 rw[Bool.eq_iff_iff];simp only[Bool.and_eq_true,decide_eq_true_eq]
 cases x;cases y;simp only[OpenR.mk.injEq]
 constructor
 ·rintro⟨h1,h2,h3,h4,h5,h6,h7⟩;exact⟨h5,h6,h1,h2,h3,h4,h7⟩
 ·rintro⟨h5,h6,h1,h2,h3,h4,h7⟩;exact⟨h1,h2,h3,h4,h5,h6,h7⟩
theorem Zni (x y:OpenR):Zd Tryz.prog 24 [.agg x.enc,.agg y.enc] (B (decide (x=y))):=by
 have h1:=ZtS x.t y.t
 have h2:=ZoM x.last y.last
 rw[open_eq]
 generalize decide (x.t=y.t)=b1 at*
 generalize decide (x.last=y.last)=b2 at*
 refine Pm Tryz.func24 fun hfit=> ?_
 simp[Tryz.f24]
 try simp
 repeat' ((first|((first|refine Tp ?_|refine Tn ?_|refine T2 ?_ ?_)<;>intro h_ e_ n_)|refine Pg h1 ?_|refine Pg h2 ?_|rw[Ip]|rw[In]|rw[Fz]|rw[Gz]|fail)<;>first|simp[e_,n_]|simp|skip)
theorem Zjb (x y:RspR) (b:Bool) (hb:(x.r=y.r∧x.kind=y.kind∧x.client=y.client∧x.epoch=y.epoch∧x.seq=y.seq∧x.n=y.n)↔b=true):Zd Tryz.prog 14 [.agg x.enc,.agg y.enc] (B b):=by
 have h1:=ZoM x.r y.r
 have e:b=(decide (x.r=y.r)&&(decide (x.kind=y.kind)&&(decide (x.client=y.client)&&(decide (x.epoch=y.epoch)&&(decide (x.seq=y.seq)&&decide (x.n=y.n)))))):=by
  rw[Bool.eq_iff_iff,←hb];simp only[Bool.and_eq_true,decide_eq_true_eq]
 rw[e]
 clear hb e
 generalize decide (x.r=y.r)=b1 at*
 refine Pm Tryz.func14 fun hfit=> ?_
 simp[Tryz.f14]
 try simp
 repeat' ((first|((first|refine Tp ?_|refine Tn ?_|refine T2 ?_ ?_)<;>intro h_ e_ n_)|refine Pg h1 ?_|rw[Ip]|rw[In]|rw[Fz]|rw[Gz]|fail)<;>first|simp[e_,n_]|simp|skip)
theorem host_eq (a b:HostR):(a=b)↔(a.s=b.s∧a.rows=b.rows∧a.now=b.now∧a.lease=b.lease∧a.opens=b.opens):=by
 cases a;cases b;simp only[HostR.mk.injEq]
 constructor
 ·rintro⟨h1,h2,h3,h4,h5⟩;exact⟨h1,h2,h4,h5,h3⟩
 ·rintro⟨h1,h2,h4,h5,h3⟩;exact⟨h1,h2,h3,h4,h5⟩
theorem Zqx (a b:HostR) (hR:Zaa a.rows):Zd Tryz.prog 13 [.agg a.enc,.agg b.enc] (B (decide (a=b))):=by
 have h1:=ZqT a.s b.s
 have h2:=Znz a.rows b.rows hR
 have ha:=host_eq a b
 by_cases q:a.s=b.s∧a.rows=b.rows∧a.now=b.now∧a.lease=b.lease∧a.opens.length=b.opens.length
 case neg=>
  have hne:¬a=b:=fun e=>q (by subst e;exact⟨rfl,rfl,rfl,rfl,rfl⟩)
  have hq:((a.s=b.s)=False)∨((a.s=b.s)=True∧(a.rows=b.rows)=False)∨((a.s=b.s)=True∧(a.rows=b.rows)=True∧(a.now=b.now)=False)∨((a.s=b.s)=True∧(a.rows=b.rows)=True∧(a.now=b.now)=True∧(a.lease=b.lease)=False)∨((a.s=b.s)=True∧(a.rows=b.rows)=True∧(a.now=b.now)=True∧(a.lease=b.lease)=True∧(a.opens.length=b.opens.length)=False):=by
   simp only[eq_iff_iff,iff_true,iff_false]
   by_cases c1:a.s=b.s
   ·by_cases c2:a.rows=b.rows
    ·by_cases c3:a.now=b.now
     ·by_cases c4:a.lease=b.lease
      ·exact .inr (.inr (.inr (.inr ⟨c1,c2,c3,c4,fun c5=>q ⟨c1,c2,c3,c4,c5⟩⟩)))
      ·exact .inr (.inr (.inr (.inl ⟨c1,c2,c3,c4⟩)))
     ·exact .inr (.inr (.inl ⟨c1,c2,c3⟩))
    ·exact .inr (.inl ⟨c1,c2⟩)
   ·exact .inl c1
  rw[decide_eq_false hne]
  clear ha hne q
  rcases hq with c|c|c|c|c
  all_goals
   refine Pm Tryz.func13 fun hfit=> ?_
   simp[Tryz.f13]
   have s_:=c
   try simp[s_]
   repeat' ((first|((first|refine Tp ?_|refine Tn ?_|refine T2 ?_ ?_)<;>intro h_ e_ n_)|refine Pg h1 ?_|refine Pg h2 ?_|refine Dg 8 12 [] [] ?_|rw[Ip]|rw[In]|rw[Fz]|rw[Gz]|fail)<;>first|simp[e_,n_,s_]|simp[s_]|skip)
 obtain⟨c1,c2,c3,c4,c5⟩:=q
 have e:decide (a=b)=decide (a.opens=b.opens):=by
  rw[decide_eq_decide,ha]
  exact⟨fun g=>g.2.2.2.2,fun g=>⟨c1,c2,c3,c4,g⟩⟩
 rw[e]
 clear e ha
 have d1:=eq_true c1
 have d2:=eq_true c2
 have d3:=eq_true c3
 have d4:=eq_true c4
 have d5:=eq_true c5
 refine Pm Tryz.func13 fun hfit=> ?_
 simp[HostR.enc] at hfit
 simp[Tryz.f13]
 have s_:=An @d1 (An @d2 (An @d3 (An @d4 (@c5))))
 try simp[s_]
 repeat' ((first|((first|refine Tp ?_|refine Tn ?_|refine T2 ?_ ?_)<;>intro h_ e_ n_)|refine Pg h1 ?_|refine Pg h2 ?_|refine Dg 8 12 [] [] ?_|rw[Ip]|rw[In]|rw[Fz]|rw[Gz]|fail)<;>first|simp[e_,n_,s_]|simp[s_]|skip)
 refine AW.loopG (lit:=fun _=>false) (fun i:Nat=>⟨68,pat [(2,.ptr 0 0 0),(3,.ptr 1 0 0),(7,I i)],[.cells 0 a.enc,.cells 0 b.enc]⟩) (fun i=>b.opens.length -i) (fun i=>i≤b.opens.length∧a.opens.take i=b.opens.take i) 0 ?_ ?_ ?_
 ·exact Wa
 ·simp
 rintro i ⟨hi,ht⟩ A hA
 by_cases h:i<b.opens.length
 case neg=>
  have:=ZbN ht (by omega) (by omega)
  have g:¬i<a.opens.length:=by omega
  have s_:=An @g ((eq_true this))
  try simp[s_]
  repeat' ((first|((first|refine Tp ?_|refine Tn ?_|refine T2 ?_ ?_)<;>intro h_ e_ n_)|refine Dg 8 12 [] [] ?_|rw[Ip]|rw[In]|rw[Fz]|rw[Gz]|fail)<;>first|simp[e_,n_,s_]|simp[s_]|skip)
 have hia:i<a.opens.length:=by omega
 have hw:=Zi h (by have:=hfit.2;omega)
 have hk:=Zni a.opens[i] b.opens[i]
 by_cases z:a.opens[i]=b.opens[i]
 ·rw[decide_eq_true z] at hk
  have s_:=An @h (An @hia (@hw))
  try simp[s_]
  repeat' ((first|((first|refine Tp ?_|refine Tn ?_|refine T2 ?_ ?_)<;>intro h_ e_ n_)|(exact hA (i+1) _ Wa ⟨by omega,take_step ht hia h z⟩ (by omega))|refine Pg hk ?_|refine Dg 8 12 [] [] ?_|rw[Ip]|rw[In]|rw[Fz]|rw[Gz]|fail)<;>first|simp[e_,n_,s_]|simp[s_]|skip)
 ·rw[decide_eq_false z] at hk
  have hne:¬a.opens=b.opens:=fun e=>z (by simp only[e])
  have s_:=An @h (An @hia (An @hw ((eq_false hne))))
  try simp[s_]
  repeat' ((first|((first|refine Tp ?_|refine Tn ?_|refine T2 ?_ ?_)<;>intro h_ e_ n_)|refine Pg hk ?_|refine Dg 8 12 [] [] ?_|rw[Ip]|rw[In]|rw[Fz]|rw[Gz]|fail)<;>first|simp[e_,n_,s_]|simp[s_]|skip)
noncomputable def ZhH (h:HostR):Bool:= @decide (ZhF h) (Classical.propDecidable _)
theorem ZhI {h:HostR}:ZhH h=true↔ZhF h:=by simp[ZhH]
theorem Znj {h:HostR} (n:¬ZhF h):ZhH h=false:=by simp[ZhH,n]
structure _root_.Go.Cx.OpenQ (h:HostR) (i:Nat) (o:OpenR):Prop where
 p:OpenP h o
 prev:∀q,h.opens[i -1]? =some q→0<i→q.client<o.client
theorem ZhJ (h:HostR) (hb:Zcy h.s):Zd Tryz.prog 12 [.agg h.enc] (B (ZhH h)):=by
 have h1:=ZhS h.s
 have h2:=Zny h.rows
 have h3:=ZoS h.s h.s.stamp hb
 have h4:=ZcU (viewS h.s h.s.stamp)
 have hbad:∀(P:ZhF h→False),ZhH h=false:=fun P=>Znj P
 have hend:(∀(j:Nat) (hj:j<h.opens.length),OpenQ h j h.opens[j])→h.opens.length≤64→0≤h.now→1≤h.lease→ZhH h=(storeB h.s&&(rightT h.rows&&rightF (viewS h.s h.s.stamp))):=fun g g1 g2 g3=>by
  have hr:Zn OpenR.client h.opens=true:=Zdy OpenR.client fun j hj=>by
   have:=(g (j+1) hj).prev h.opens[j] (by simp) (by omega)
   exact this
  have ho:∀o∈h.opens,OpenP h o:=fun o ho=>by
   obtain⟨j,hj,rfl⟩:=List.getElem_of_mem ho
   exact(g j hj).p
  rw[Bool.eq_iff_iff,ZhI]
  simp only[Bool.and_eq_true,Zjk,Zjl,Zho]
  constructor
  ·intro H;exact⟨H.store,H.rows,H.vrows,H.vtree.right H.vrows⟩
  ·rintro⟨a,b,c,d⟩
   exact⟨a,c,ZcW.tree c d,b,g1,hr,ho,g2,g3⟩
 have hstep:∀(i:Nat) (hi:i<h.opens.length),¬OpenQ h i h.opens[i]→ZhH h=false:=fun i hi n=>hbad fun H=>n ⟨H.open_ _ (List.getElem_mem hi),fun q hq h0=>by
  obtain⟨h1,rfl⟩:=List.getElem?_eq_some_iff.1 hq
  exact Zac OpenR.client H.rise (i -1) i h1 hi (by omega)⟩
 by_cases q:h.opens.length≤64∧0≤h.now∧1≤h.lease
 case neg=>
  rw[hbad fun H=>q ⟨H.few,H.now,H.lease⟩]
  clear hbad hend hstep
  have hq:(64<h.opens.length)∨(¬64<h.opens.length∧h.now<0)∨(¬64<h.opens.length∧¬h.now<0∧h.lease<1):=by omega
  rcases hq with c|c|c
  all_goals
   refine Pm Tryz.func12 fun hfit=> ?_
   simp[Tryz.f12]
   have s_:=c
   try simp[s_]
   repeat' ((first|((first|refine Tp ?_|refine Tn ?_|refine T2 ?_ ?_)<;>intro h_ e_ n_)|refine Dg 8 47 [] [] ?_|rw[Ip]|rw[In]|rw[Fz]|rw[Gz]|fail)<;>first|simp[e_,n_,s_]|simp[s_]|skip)
 obtain⟨q1,q2,q3⟩:=q
 generalize hB:ZhH h=b at*
 refine Pm Tryz.func12 fun hfit=> ?_
 simp[Tryz.f12]
 have c1:¬64<h.opens.length:=by omega
 have c2:¬h.now<0:=by omega
 have c3:¬h.lease<1:=by omega
 have s_:=An @c1 (An @c2 (@c3))
 try simp[s_]
 repeat' ((first|((first|refine Tp ?_|refine Tn ?_|refine T2 ?_ ?_)<;>intro h_ e_ n_)|refine Dg 8 47 [] [] ?_|rw[Ip]|rw[In]|rw[Fz]|rw[Gz]|fail)<;>first|simp[e_,n_,s_]|simp[s_]|skip)
 refine AW.loopG (lit:=fun _=>false) (fun i:Nat=>⟨103,pat [(1,.ptr 0 0 0),(3,I i)],[.cells 0 h.enc]⟩) (fun i=>h.opens.length -i) (fun i=>i≤h.opens.length∧∀(j:Nat) (hj:j<h.opens.length),j<i→OpenQ h j h.opens[j]) 0 ?_ ?_ ?_
 ·exact Wa
 ·exact⟨by simp,fun j hj g=>by omega⟩
 rintro i ⟨g1,g2⟩ A hA
 by_cases hi:i<h.opens.length
 case neg=>
  rw[hend (fun j hj=>g2 j hj (by omega)) q1 q2 q3]
  clear hend hstep hbad g2 hA
  generalize storeB h.s=x1 at*
  generalize rightT h.rows=x2 at*
  generalize rightF (viewS h.s h.s.stamp)=x3 at*
  generalize viewS h.s h.s.stamp=v at*
  have s_:=hi
  try simp[s_]
  repeat' ((first|((first|refine Tp ?_|refine Tn ?_|refine T2 ?_ ?_)<;>intro h_ e_ n_)|refine Pg h1 ?_|refine Pg h2 ?_|refine Pg h3 ?_|refine Pg h4 ?_|refine Dg 8 47 [] [] ?_|rw[Ip]|rw[In]|rw[Fz]|rw[Gz]|fail)<;>first|simp[e_,n_,s_]|simp[s_]|skip)
 have hwi:=Zi hi (by simp only[maxLen];omega)
 have hst:=hstep i hi
 have h5:=Zjm h.opens[i].t
 have hi1:i -1<h.opens.length:=by omega
 have hwm:0<i→IntKind.i64.wrap ((i:Int) -1)=((i -1:Nat):Int):=fun hp=>by rw[Zf (by omega) (by omega)];omega
 have hnext:OpenQ h i h.opens[i]→∀(j:Nat) (hj:j<h.opens.length),j<i+1→OpenQ h j h.opens[j]:=fun n j hj hji=>by
  rcases Nat.lt_or_ge j i with g|g
  ·exact g2 j hj g
  ·have:j=i:=by omega
   subst this;exact n
 cases hx:rightTx h.opens[i].t with
 |false=>
  rw[hx] at h5
  have e:=hst fun n=>by have:=(Zhy _).2 n.p.t;rw[hx] at this;cases this
  subst e
  clear hend hstep hbad g2 hA hst hnext
  have s_:=hi
  try simp[s_]
  repeat' ((first|((first|refine Tp ?_|refine Tn ?_|refine T2 ?_ ?_)<;>intro h_ e_ n_)|refine Pg h5 ?_|refine Dg 8 47 [] [] ?_|rw[Ip]|rw[In]|rw[Fz]|rw[Gz]|fail)<;>first|simp[e_,n_,s_]|simp[s_]|skip)
 |true=>
 rw[hx] at h5
 have hT:=(Zhy _).1 hx
 have hgood:0≤h.opens[i].client→1≤h.opens[i].epoch→1≤h.opens[i].seq→0≤h.opens[i].n→h.opens[i].t.stamp≤h.s.stamp→(i=0∨h.opens[i -1].client<h.opens[i].client)→OpenQ h i h.opens[i]:=fun a1 a2 a3 a4 a5 a6=>⟨⟨a1,a2,a3,a4,hT,a5⟩,fun q hq h0=>by
  obtain⟨_,rfl⟩:=List.getElem?_eq_some_iff.1 hq
  exact a6.resolve_left (by omega)⟩
 have hbad2:(h.opens[i].client<0∨h.opens[i].epoch<1∨h.opens[i].seq<1∨h.opens[i].n<0∨h.s.stamp<h.opens[i].t.stamp∨(0<i∧h.opens[i].client≤h.opens[i -1].client))→b=false:=fun a=>hst fun n=>by
  have c1:=n.p.client;have c2:=n.p.epoch;have c3:=n.p.seq;have c4:=n.p.n;have c5:=n.p.stamp
  rcases Nat.eq_zero_or_pos i with z|z
  ·omega
  ·have:=n.prev h.opens[i -1] (List.getElem?_eq_getElem hi1) z
   omega
 clear hend hstep hbad hst
 rcases Nat.eq_zero_or_pos i with z|z
 ·have z':¬0<i:=by omega
  have s_:=An @hi (An @hwi (@z'))
  try simp[s_]
  repeat' ((first|((first|refine Tp ?_|refine Tn ?_|refine T2 ?_ ?_)<;>intro h_ e_ n_)|(rw[hbad2 (by omega)])|(exact hA (i+1) _ Wc ⟨by omega,hnext (hgood (by omega) (by omega) (by omega) (by omega) (by omega) (.inl z))⟩ (by omega))|refine Pg h5 ?_|refine Dg 8 47 [] [] ?_|rw[Ip]|rw[In]|rw[Fz]|rw[Gz]|fail)<;>first|simp[e_,n_,s_]|simp[s_]|skip)
 ·have hwm:=hwm z
  have s_:=An @hi (An @hwi (An @z (An @hwm (@hi1))))
  try simp[s_]
  repeat' ((first|((first|refine Tp ?_|refine Tn ?_|refine T2 ?_ ?_)<;>intro h_ e_ n_)|(rw[hbad2 (by omega)])|(exact hA (i+1) _ Wc ⟨by omega,hnext (hgood (by omega) (by omega) (by omega) (by omega) (by omega) (.inr (by omega)))⟩ (by omega))|refine Pg h5 ?_|refine Dg 8 47 [] [] ?_|rw[Ip]|rw[In]|rw[Fz]|rw[Gz]|fail)<;>first|simp[e_,n_,s_]|simp[s_]|skip)
structure _root_.Go.Cx.GoodHP (h:HostR) (gs:Bool) (ft:Bool):Prop where
 store:gs=true
 rows:ft=true
 few:h.opens.length≤8
 now:h.now<1152921504606846976
 lease:h.lease<1152921504606846976
 opens:∀o∈h.opens,ZnB o.t=true∧o.last.names.length≤300
 host:ZhF h
noncomputable def goodH (h:HostR):Bool:= @decide (GoodHP h (ZlT h.s) (fewT h.rows.length h.rows)) (Classical.propDecidable _)
theorem ZlI {h:HostR}:goodH h=true↔GoodHP h (ZlT h.s) (fewT h.rows.length h.rows):=by simp[goodH]
theorem Zqy (h:HostR) (hb:Zcy h.s):Zd Tryz.prog 9 [.agg h.enc] (B (goodH h)):=by
 have h1:=Zwr h.s hb
 have h2:=Zwl h.rows
 have h3:=ZhJ h hb
 have hbad:∀(P:GoodHP h (ZlT h.s) (fewT h.rows.length h.rows)→False),goodH h=false:=fun P=>by simp[goodH];exact P
 have hend:ZlT h.s=true→fewT h.rows.length h.rows=true→h.opens.length≤8→h.now<1152921504606846976→h.lease<1152921504606846976→(∀o∈h.opens,ZnB o.t=true∧o.last.names.length≤300)→goodH h=ZhH h:=fun a1 a2 a3 a4 a5 a6=>by
  rw[Bool.eq_iff_iff,ZhI,ZlI]
  exact⟨fun g=>g.host,fun g=>⟨a1,a2,a3,a4,a5,a6,g⟩⟩
 generalize goodH h=b at*
 generalize hg:ZlT h.s=gs at*
 generalize hf:fewT h.rows.length h.rows=ft at*
 by_cases q:gs=true∧ft=true∧h.opens.length≤8∧h.now<1152921504606846976∧h.lease<1152921504606846976
 case neg=>
  rw[hbad fun G=>q ⟨G.store,G.rows,G.few,G.now,G.lease⟩]
  clear hbad hend
  have hq:(gs=false)∨(gs=true∧ft=false)∨(gs=true∧ft=true∧8<h.opens.length)∨(gs=true∧ft=true∧¬8<h.opens.length∧1152921504606846976≤h.now)∨(gs=true∧ft=true∧¬8<h.opens.length∧¬1152921504606846976≤h.now∧1152921504606846976≤h.lease):=by
   cases gs with
   |false=>exact .inl rfl
   |true=>
    cases ft with
    |false=>exact .inr (.inl ⟨rfl,rfl⟩)
    |true=>
     simp only[true_and] at q
     simp only[true_and]
     omega
  rcases hq with c|c|c|c|c
  all_goals
   refine Pm Tryz.func9 fun hfit=> ?_
   simp[Tryz.f9]
   have s_:=c
   try simp[s_]
   repeat' ((first|((first|refine Tp ?_|refine Tn ?_|refine T2 ?_ ?_)<;>intro h_ e_ n_)|refine Pg h1 ?_|refine Pg h2 ?_|rw[Ip]|rw[In]|rw[Fz]|rw[Gz]|fail)<;>first|simp[e_,n_,s_]|simp[s_]|skip)
 obtain⟨q1,q2,q3,q4,q5⟩:=q
 subst q1 q2
 have c1:¬8<h.opens.length:=by omega
 have c2:¬1152921504606846976≤h.now:=by omega
 have c3:¬1152921504606846976≤h.lease:=by omega
 refine Pm Tryz.func9 fun hfit=> ?_
 simp[Tryz.f9]
 have s_:=An @c1 (An @c2 (@c3))
 try simp[s_]
 repeat' ((first|((first|refine Tp ?_|refine Tn ?_|refine T2 ?_ ?_)<;>intro h_ e_ n_)|refine Pg h1 ?_|refine Pg h2 ?_|rw[Ip]|rw[In]|rw[Fz]|rw[Gz]|fail)<;>first|simp[e_,n_,s_]|simp[s_]|skip)
 refine AW.loopG (lit:=fun _=>false) (fun i:Nat=>⟨58,pat [(1,.ptr 0 0 0),(3,I i)],[.cells 0 h.enc]⟩) (fun i=>h.opens.length -i) (fun i=>i≤h.opens.length∧∀(j:Nat) (hj:j<h.opens.length),j<i→ZnB h.opens[j].t=true∧h.opens[j].last.names.length≤300) 0 ?_ ?_ ?_
 ·exact Wa
 ·exact⟨by simp,fun j hj g=>by omega⟩
 rintro i ⟨g1,g2⟩ A hA
 by_cases hi:i<h.opens.length
 case neg=>
  rw[hend rfl rfl q3 q4 q5 fun o ho=>by
   obtain⟨j,hj,rfl⟩:=List.getElem_of_mem ho
   exact g2 j hj (by omega)]
  have s_:=hi
  try simp[s_]
  repeat' ((first|((first|refine Tp ?_|refine Tn ?_|refine T2 ?_ ?_)<;>intro h_ e_ n_)|refine Pg h3 ?_|rw[Ip]|rw[In]|rw[Fz]|rw[Gz]|fail)<;>first|simp[e_,n_,s_]|simp[s_]|skip)
 have hwi:=Zi hi (by simp only[maxLen];omega)
 have h5:=Zws h.opens[i].t
 cases hx:ZnB h.opens[i].t with
 |false=>
  rw[hx] at h5
  have e:=hbad fun G=>by have:=(G.opens _ (List.getElem_mem hi)).1;rw[hx] at this;cases this
  subst e
  have s_:=hi
  try simp[s_]
  repeat' ((first|((first|refine Tp ?_|refine Tn ?_|refine T2 ?_ ?_)<;>intro h_ e_ n_)|refine Pg h5 ?_|rw[Ip]|rw[In]|rw[Fz]|rw[Gz]|fail)<;>first|simp[e_,n_,s_]|simp[s_]|skip)
 |true=>
 rw[hx] at h5
 by_cases z:300<h.opens[i].last.names.length
 ·have e:=hbad fun G=>by have:=(G.opens _ (List.getElem_mem hi)).2;omega
  subst e
  have s_:=An @hi (@z)
  try simp[s_]
  repeat' ((first|((first|refine Tp ?_|refine Tn ?_|refine T2 ?_ ?_)<;>intro h_ e_ n_)|refine Pg h5 ?_|rw[Ip]|rw[In]|rw[Fz]|rw[Gz]|fail)<;>first|simp[e_,n_,s_]|simp[s_]|skip)
 ·have s_:=An @hi (An @hwi (@z))
  try simp[s_]
  repeat' ((first|((first|refine Tp ?_|refine Tn ?_|refine T2 ?_ ?_)<;>intro h_ e_ n_)|(exact hA (i+1) _ Wa ⟨by omega,fun j hj hji=>by rcases Nat.lt_or_ge j i with g|g;(·exact g2 j hj g);(obtain rfl:j=i:=(by omega));exact⟨hx,by omega⟩⟩ (by omega))|refine Pg h5 ?_|rw[Ip]|rw[In]|rw[Fz]|rw[Gz]|fail)<;>first|simp[e_,n_,s_]|simp[s_]|skip)
end Go.Proofs.YtgpkaoombhobmaaGreat
namespace Go.Proofs.YtgpkaoombhobmaaGreat
open Go.Cx Tab Go.ChangeShapes Go.WideShapes
set_option maxHeartbeats 1600000
set_option maxRecDepth 100000
theorem and_tt {a b:Bool} (ha:a=true) (hb:b=true):(a&&b)=true:=by rw[ha,hb];rfl
theorem own:ownKnob Tryz.prog.godebug=none:=by kernel_rfl
theorem laid:laidOutB Tryz.prog=true:=by kernel_rfl
mutual
theorem blk_le {H:Type}:∀d:DataW H,blk d≤Rows.uptoBulk d
 | .lit l=>by cases l<;>simp[blk,Rows.uptoBulk]
 | .nil=>by simp[blk,Rows.uptoBulk]
 | .ptr d=>by simp[blk,Rows.uptoBulk]
 | .slice elems spare=>by have:=Zfn elems;simp only[blk,Rows.uptoBulk];omega
 | .agg parts=>by have:=Zfn parts;simp only[blk,Rows.uptoBulk];omega
 | .iface t d=>by simp[blk,Rows.uptoBulk]
 | .map es=>by simp[blk,Rows.uptoBulk]
 | .held h=>by simp[blk,Rows.uptoBulk]
theorem Zfn {H:Type}:∀l:List (DataW H),blkAll l≤Rows.uptoBulkAll l
 |[]=>by simp[blkAll,Rows.uptoBulkAll]
 |d::r=>by have:=blk_le d;have:=Zfn r;simp only[blkAll,Rows.uptoBulkAll];omega
end
section
variable {W:World}
theorem oCall:Opn Tryz.prog W 31 (fun xs=>∃c:CallR,xs=c.enc∧c.wf):=
 (Zio tst31 ts31 (.cons (Zt tui3) ts3 (.cons (Zt tui3) ts3 (.cons (Zt tui3) ts3 (.cons (Zt tui3) ts3 (.cons (Zt tui3) ts3 (.cons (ZdE tus9) ts9 (.cons (ZdE tus9) ts9 (.cons (ZdE tus9) ts9 .nil))))))))).mono fun xs h=>by
  obtain⟨_,_,⟨x0,rfl,h0⟩,⟨_,_,⟨x1,rfl,h1⟩,⟨_,_,⟨x2,rfl,h2⟩,⟨_,_,⟨x3,rfl,h3⟩,⟨_,_,⟨x4,rfl,h4⟩,⟨_,_,⟨x5,rfl,h5⟩,⟨_,_,⟨x6,rfl,h6⟩,⟨_,_,⟨x7,rfl,h7⟩,rfl,rfl⟩,rfl⟩,rfl⟩,rfl⟩,rfl⟩,rfl⟩,rfl⟩,rfl⟩:=h
  exact⟨⟨x0,x1,x2,x3,x4,x5,x6,x7⟩,by simp[CallR.enc],h0,h1,h2,h3,h4,h5,h6,h7⟩
theorem oMsg:Opn Tryz.prog W 33 (fun xs=>∃c:MsgR,xs=c.enc∧c.wf):=
 (Zio tst33 ts33 (.cons (Zt tui3) ts3 (.cons (Zt tui3) ts3 (.cons (Zt tui3) ts3 (.cons (Zt tui3) ts3 (.cons (Zt tui3) ts3 (.cons (Zt tui3) ts3 (.cons (oCall) ts31 .nil)))))))).mono fun xs h=>by
  obtain⟨_,_,⟨x0,rfl,h0⟩,⟨_,_,⟨x1,rfl,h1⟩,⟨_,_,⟨x2,rfl,h2⟩,⟨_,_,⟨x3,rfl,h3⟩,⟨_,_,⟨x4,rfl,h4⟩,⟨_,_,⟨x5,rfl,h5⟩,⟨_,_,⟨x6,rfl,h6⟩,rfl,rfl⟩,rfl⟩,rfl⟩,rfl⟩,rfl⟩,rfl⟩,rfl⟩:=h
  exact⟨⟨x0,x1,x2,x3,x4,x5,x6⟩,by simp[MsgR.enc],h0,h1,h2,h3,h4,h5,h6⟩
end
def ZhN (c:EntryR):Nat:=c.name.size+1+1
def ZlP (c:NodeR):Nat:=c.text.size+1+(c.l.map ZhN).sum+1+1
def wtFS (c:FSR):Nat:=(c.l.map ZlP).sum+1+1
def Zns (c:VerR):Nat:=ZlP c.node+1
def ZcV (c:ChainR):Nat:=(c.l.map Zns).sum+1+1
def ZhO (c:CountR):Nat:=1
def ZhP (c:StoreR):Nat:=(c.l.map ZcV).sum+1+(c.nexts.map ZhO).sum+1+1
def wtTxn (c:TxnR):Nat:=wtFS c.was+wtFS c.now+c.looks.length+1+1
def ZfM (c:DecisionR):Nat:=1
def wtRow (c:RowR):Nat:=(c.l.map ZfM).sum+1+1
def Znt (c:ReplyR):Nat:=c.text.size+1+c.names.length+1+1
def ZtF (c:OpenR):Nat:=wtTxn c.t+Znt c.last+1
def ZtG (c:HostR):Nat:=ZhP c.s+(c.rows.map wtRow).sum+1+(c.opens.map ZtF).sum+1+1
section
variable {W:World}
theorem bEntry:OpnB Tryz.prog W 141 (fun xs b=>∃c:EntryR,xs=c.enc∧c.wf∧ZhN c≤b):=
 (ZM tst141 ts141 (.cons (Zeq tus9) ts9 (.cons ((Zt tui3).b) ts3 .nil))).mono fun xs b h=>by
  obtain⟨b1,l1,⟨_,_,_,_,m0,⟨x0,rfl,h0,g0⟩,⟨_,_,_,_,m1,⟨x1,rfl,h1⟩,rfl,rfl⟩,rfl⟩⟩:=h
  exact⟨⟨x0,x1⟩,by simp[EntryR.enc],⟨h0,h1⟩,by simp only[ZhN];omega⟩
theorem bNode:OpnB Tryz.prog W 99 (fun xs b=>∃c:NodeR,xs=c.enc∧c.wf∧ZlP c≤b):=
 (ZM tst99 ts99 (.cons ((Zt tui3).b) ts3 (.cons ((Zt tui3).b) ts3 (.cons ((Zt tui3).b) ts3 (.cons (Zeq tus9) ts9 (.cons (Zbl te97 ts141 (by omega) bEntry) ts97 .nil)))))).mono fun xs b h=>by
  obtain⟨b1,l1,⟨_,_,_,_,m0,⟨x0,rfl,h0⟩,⟨_,_,_,_,m1,⟨x1,rfl,h1⟩,⟨_,_,_,_,m2,⟨x2,rfl,h2⟩,⟨_,_,_,_,m3,⟨x3,rfl,h3,g3⟩,⟨_,_,_,_,m4,⟨x4,rfl,h4,g4⟩,rfl,rfl⟩,rfl⟩,rfl⟩,rfl⟩,rfl⟩⟩:=h
  exact⟨⟨x0,x1,x2,x3,x4⟩,by simp[NodeR.enc],⟨h0,h1,h2,h3,h4⟩,by simp only[ZlP];omega⟩
theorem bFS:OpnB Tryz.prog W 55 (fun xs b=>∃c:FSR,xs=c.enc∧c.wf∧wtFS c≤b):=
 (ZM tst55 ts55 (.cons (Zbl te53 ts99 (by omega) bNode) ts53 (.cons ((Zt tui3).b) ts3 .nil))).mono fun xs b h=>by
  obtain⟨b1,l1,⟨_,_,_,_,m0,⟨x0,rfl,h0,g0⟩,⟨_,_,_,_,m1,⟨x1,rfl,h1⟩,rfl,rfl⟩,rfl⟩⟩:=h
  exact⟨⟨x0,x1⟩,by simp[FSR.enc],⟨h0,h1⟩,by simp only[wtFS];omega⟩
theorem bVer:OpnB Tryz.prog W 101 (fun xs b=>∃c:VerR,xs=c.enc∧c.wf∧Zns c≤b):=
 (ZM tst101 ts101 (.cons ((Zt tui3).b) ts3 (.cons ((ZnX tub4).b) ts4 (.cons (bNode) ts99 .nil)))).mono fun xs b h=>by
  obtain⟨b1,l1,⟨_,_,_,_,m0,⟨x0,rfl,h0⟩,⟨_,_,_,_,m1,⟨x1,rfl⟩,⟨_,_,_,_,m2,⟨x2,rfl,h2,g2⟩,rfl,rfl⟩,rfl⟩,rfl⟩⟩:=h
  exact⟨⟨x0,x1,x2⟩,by simp[VerR.enc],⟨h0,h2⟩,by simp only[Zns];omega⟩
theorem bChain:OpnB Tryz.prog W 95 (fun xs b=>∃c:ChainR,xs=c.enc∧c.wf∧ZcV c≤b):=
 (ZM tst95 ts95 (.cons ((Zt tui3).b) ts3 (.cons (Zbl te93 ts101 (by omega) bVer) ts93 .nil))).mono fun xs b h=>by
  obtain⟨b1,l1,⟨_,_,_,_,m0,⟨x0,rfl,h0⟩,⟨_,_,_,_,m1,⟨x1,rfl,h1,g1⟩,rfl,rfl⟩,rfl⟩⟩:=h
  exact⟨⟨x0,x1⟩,by simp[ChainR.enc],⟨h0,h1⟩,by simp only[ZcV];omega⟩
theorem bCount:OpnB Tryz.prog W 92 (fun xs b=>∃c:CountR,xs=c.enc∧c.wf∧ZhO c≤b):=
 (ZM tst92 ts92 (.cons ((Zt tui3).b) ts3 (.cons ((Zt tui3).b) ts3 .nil))).mono fun xs b h=>by
  obtain⟨b1,l1,⟨_,_,_,_,m0,⟨x0,rfl,h0⟩,⟨_,_,_,_,m1,⟨x1,rfl,h1⟩,rfl,rfl⟩,rfl⟩⟩:=h
  exact⟨⟨x0,x1⟩,by simp[CountR.enc],⟨h0,h1⟩,by simp only[ZhO];omega⟩
theorem bStore:OpnB Tryz.prog W 25 (fun xs b=>∃c:StoreR,xs=c.enc∧c.wf∧ZhP c≤b):=
 (ZM tst25 ts25 (.cons (Zbl te22 ts95 (by omega) bChain) ts22 (.cons (Zbl te23 ts92 (by omega) bCount) ts23 (.cons ((Zt tui3).b) ts3 .nil)))).mono fun xs b h=>by
  obtain⟨b1,l1,⟨_,_,_,_,m0,⟨x0,rfl,h0,g0⟩,⟨_,_,_,_,m1,⟨x1,rfl,h1,g1⟩,⟨_,_,_,_,m2,⟨x2,rfl,h2⟩,rfl,rfl⟩,rfl⟩,rfl⟩⟩:=h
  exact⟨⟨x0,x1,x2⟩,by simp[StoreR.enc],⟨h0,h1,h2⟩,by simp only[ZhP];omega⟩
theorem bTxn:OpnB Tryz.prog W 58 (fun xs b=>∃c:TxnR,xs=c.enc∧c.wf∧wtTxn c≤b):=
 (ZM tst58 ts58 (.cons ((Zt tui3).b) ts3 (.cons (bFS) ts55 (.cons (bFS) ts55 (.cons (Ztf te56 ts3 tui3) ts56 .nil))))).mono fun xs b h=>by
  obtain⟨b1,l1,⟨_,_,_,_,m0,⟨x0,rfl,h0⟩,⟨_,_,_,_,m1,⟨x1,rfl,h1,g1⟩,⟨_,_,_,_,m2,⟨x2,rfl,h2,g2⟩,⟨_,_,_,_,m3,⟨x3,rfl,h3,g3⟩,rfl,rfl⟩,rfl⟩,rfl⟩,rfl⟩⟩:=h
  exact⟨⟨x0,x1,x2,x3⟩,by simp[TxnR.enc],⟨h0,h1,h2,h3⟩,by simp only[wtTxn];omega⟩
theorem ZtH:OpnB Tryz.prog W 126 (fun xs b=>∃c:DecisionR,xs=c.enc∧c.wf∧ZfM c≤b):=
 (ZM tst126 ts126 (.cons ((Zt tui3).b) ts3 (.cons ((ZnX tub4).b) ts4 .nil))).mono fun xs b h=>by
  obtain⟨b1,l1,⟨_,_,_,_,m0,⟨x0,rfl,h0⟩,⟨_,_,_,_,m1,⟨x1,rfl⟩,rfl,rfl⟩,rfl⟩⟩:=h
  exact⟨⟨x0,x1⟩,by simp[DecisionR.enc],h0,by simp only[ZfM];omega⟩
theorem bRow:OpnB Tryz.prog W 119 (fun xs b=>∃c:RowR,xs=c.enc∧c.wf∧wtRow c≤b):=
 (ZM tst119 ts119 (.cons ((Zt tui3).b) ts3 (.cons ((Zt tui3).b) ts3 (.cons ((Zt tui3).b) ts3 (.cons (Zbl te117 ts126 (by omega) ZtH) ts117 .nil))))).mono fun xs b h=>by
  obtain⟨b1,l1,⟨_,_,_,_,m0,⟨x0,rfl,h0⟩,⟨_,_,_,_,m1,⟨x1,rfl,h1⟩,⟨_,_,_,_,m2,⟨x2,rfl,h2⟩,⟨_,_,_,_,m3,⟨x3,rfl,h3,g3⟩,rfl,rfl⟩,rfl⟩,rfl⟩,rfl⟩⟩:=h
  exact⟨⟨x0,x1,x2,x3⟩,by simp[RowR.enc],⟨h0,h1,h2,h3⟩,by simp only[wtRow];omega⟩
theorem bReply:OpnB Tryz.prog W 41 (fun xs b=>∃c:ReplyR,xs=c.enc∧c.wf∧Znt c≤b):=
 (ZM tst41 ts41 (.cons ((Zt tui38).b) ts38 (.cons ((Zt tui3).b) ts3 (.cons ((Zt tui3).b) ts3 (.cons ((Zt tui3).b) ts3 (.cons (Zeq tus9) ts9 (.cons (ZlG te39 ts9 tus9) ts39 .nil))))))).mono fun xs b h=>by
  obtain⟨b1,l1,⟨_,_,_,_,m0,⟨x0,rfl,h0⟩,⟨_,_,_,_,m1,⟨x1,rfl,h1⟩,⟨_,_,_,_,m2,⟨x2,rfl,h2⟩,⟨_,_,_,_,m3,⟨x3,rfl,h3⟩,⟨_,_,_,_,m4,⟨x4,rfl,h4,g4⟩,⟨_,_,_,_,m5,⟨x5,rfl,h5,g5⟩,rfl,rfl⟩,rfl⟩,rfl⟩,rfl⟩,rfl⟩,rfl⟩⟩:=h
  exact⟨⟨x0,x1,x2,x3,x4,x5⟩,by simp[ReplyR.enc],⟨h0,h1,h2,h3,h4,h5⟩,by simp only[Znt];omega⟩
theorem bOpen:OpnB Tryz.prog W 60 (fun xs b=>∃c:OpenR,xs=c.enc∧c.wf∧ZtF c≤b):=
 (ZM tst60 ts60 (.cons ((Zt tui3).b) ts3 (.cons ((Zt tui3).b) ts3 (.cons ((Zt tui3).b) ts3 (.cons ((Zt tui3).b) ts3 (.cons (bTxn) ts58 (.cons (bReply) ts41 (.cons ((Zt tui3).b) ts3 .nil)))))))).mono fun xs b h=>by
  obtain⟨b1,l1,⟨_,_,_,_,m0,⟨x0,rfl,h0⟩,⟨_,_,_,_,m1,⟨x1,rfl,h1⟩,⟨_,_,_,_,m2,⟨x2,rfl,h2⟩,⟨_,_,_,_,m3,⟨x3,rfl,h3⟩,⟨_,_,_,_,m4,⟨x4,rfl,h4,g4⟩,⟨_,_,_,_,m5,⟨x5,rfl,h5,g5⟩,⟨_,_,_,_,m6,⟨x6,rfl,h6⟩,rfl,rfl⟩,rfl⟩,rfl⟩,rfl⟩,rfl⟩,rfl⟩,rfl⟩⟩:=h
  exact⟨⟨x0,x1,x2,x3,x4,x5,x6⟩,by simp[OpenR.enc],⟨h0,h1,h2,h3,h4,h5,h6⟩,by simp only[ZtF];omega⟩
theorem bHost:OpnB Tryz.prog W 29 (fun xs b=>∃c:HostR,xs=c.enc∧c.wf∧ZtG c≤b):=
 (ZM tst29 ts29 (.cons (bStore) ts25 (.cons (Zbl te26 ts119 (by omega) bRow) ts26 (.cons (Zbl te27 ts60 (by omega) bOpen) ts27 (.cons ((Zt tui3).b) ts3 (.cons ((Zt tui3).b) ts3 .nil)))))).mono fun xs b h=>by
  obtain⟨b1,l1,⟨_,_,_,_,m0,⟨x0,rfl,h0,g0⟩,⟨_,_,_,_,m1,⟨x1,rfl,h1,g1⟩,⟨_,_,_,_,m2,⟨x2,rfl,h2,g2⟩,⟨_,_,_,_,m3,⟨x3,rfl,h3⟩,⟨_,_,_,_,m4,⟨x4,rfl,h4⟩,rfl,rfl⟩,rfl⟩,rfl⟩,rfl⟩,rfl⟩⟩:=h
  exact⟨⟨x0,x1,x2,x3,x4⟩,by simp[HostR.enc],⟨h0,h1,h2,h3,h4⟩,by simp only[ZtG];omega⟩
end
theorem ZtI {s:StoreR} (h:ZhP s≤1048576):Zcy s:=by
 simp only[ZhP] at h
 have h1:=ZlH (f:=ZcV) (fun c=>by simp only[ZcV];omega) s.l
 have h2:=ZlH (f:=ZhO) (fun c=>by simp only[ZhO];omega) s.nexts
 refine⟨by omega,by omega,fun c hc=> ?_,fun c hc v hv=> ?_⟩
 ·have g1:=ZoC (f:=ZcV) hc
  have g2:=ZlH (f:=Zns) (fun c=>by simp only[Zns];omega) c.l
  simp only[ZcV] at g1
  omega
 ·have g1:=ZoC (f:=ZcV) hc
  have g2:=ZoC (f:=Zns) hv
  have g3:=ZlH (f:=ZhN) (fun c=>by simp only[ZhN];omega) v.node.l
  simp only[ZcV] at g1
  simp only[Zns,ZlP] at g2
  omega
end Go.Proofs.YtgpkaoombhobmaaGreat
