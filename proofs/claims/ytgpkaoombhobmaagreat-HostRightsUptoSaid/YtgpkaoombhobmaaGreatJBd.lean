import Derived.Test.YtgpkaoombhobmaaGreatJBc
import Derived.ChangeArms
import Derived.ChangeSame
import Derived.Carry
import Derived.RowKit
import Derived.Handed
import Derived.JoinedOf
import Derived.ScopeJumps
set_option linter.unusedVariables false
set_option linter.unusedSimpArgs false
namespace Go.Cx
open Go.ChangeShapes Go.WideShapes
variable {P:Program} {W:World}
def Zw (W:World):Nat->Prop:=λb=>b<W.heap.size
def noK:Nat->Slot:=λ_=> .hole
def Opn (P:Program) (W:World) (t:TypeId) (A:List AV->Prop):Prop:=
 ∀(H:Type) (enc:TypeId×Value->H) (fuel:Nat) (cs:List Value) (x:DataW H×List MemPlace),DataW.trod enc P W 0 (λ_=>true) true fuel t cs=some x->∃as,A as/\Rs (Zw W) W noK as cs
theorem ZoH {t:TypeId} (ht:P.underlying t=some .bool):Opn P W t (λas=>∃b,as=[.val (.bool b)]):=λH enc fuel cs x hx=>by
 obtain⟨b,rfl,_⟩:=DataW.trod_bool ht hx
 exact⟨_,⟨b,rfl⟩,.cons (.val rfl) .nil⟩
def inI (n:Int):Prop:= -9223372036854775808<=n/\n<9223372036854775808
theorem ZO {t:TypeId} (ht:P.underlying t=some (.int .i64)):Opn P W t (λas=>∃n,as=[.val (.int .i64 n)]/\inI n):=λH enc fuel cs x hx=>by
 obtain⟨n,rfl,_,hw⟩:=DataW.trod_int ht hx
 refine⟨_,⟨n,rfl,?_⟩,.cons (.val rfl) .nil⟩
 have h1:IntKind.i64.min= -9223372036854775808:=rfl
 have h2:IntKind.i64.max=9223372036854775807:=rfl
 simp only[Lit.wf,h1,h2,Bool.and_eq_true,decide_eq_true_eq] at hw
 simp only[inI];omega
theorem Zqv {t:TypeId} (ht:P.underlying t=some .string):Opn P W t (λas=>∃s:ByteArray,as=[.val (.string s)]/\s.size<=maxLen):=λH enc fuel cs x hx=>by
 obtain⟨s,rfl,_,hs⟩:=DataW.trod_string ht hx
 exact⟨_,⟨s,rfl,hs⟩,.cons (.val rfl) .nil⟩
theorem ZbR {t:TypeId} {k:Nat} (h:Zd P t=some k):P.cellsOf t=k:=by
 simp only[Zd] at h
 simp only[Program.cellsOf,h,Option.getD_some]
theorem Zhm {a:Addr} {n:Nat} {cs:List Value} (h:W.cells? 0 a n=some cs):cs.length=n/\∀j u,cs[j]? =some u->W.cell? (a.add j)=some u:=by
 simp only[World.cells?,Nat.zero_le,if_true] at h
 refine⟨by simpa using mapM_some_length h,λj u hj=> ?_⟩
 have hlt:j<n:=by
  have:=mapM_some_length h
  have h2:=(List.getElem?_eq_some_iff.1 hj).1
  simp at this;omega
 have:=mapM_some_get h j j (by simp[hlt])
 rw[this,hj]
theorem add2 (a:Addr) (m n:Nat):(a.add m).add n=a.add (m+n):=by
 unfold Addr.add
 by_cases h1:m=0
 ·simp[h1]
 ·by_cases h2:n=0
  ·simp[h2]
  ·simp[h1,h2,Nat.add_assoc]
theorem Ztu {a:Addr} {u:Value} (h:W.cell? a=some u):a.block<W.heap.size:=by
 unfold World.cell? at h
 rcases Nat.lt_or_ge a.block W.heap.size with h1|h1
 ·exact h1
 ·rw[Array.getElem?_eq_none h1] at h;simp at h
theorem opn_slice {t e:TypeId} {k:Nat} {A:List AV->Prop} (ht:Zab P t=some e) (hk:Zd P e=some k) (h0:0<k) (he:Opn P W e A):
  Opn P W t (λas=>∃l:List (List AV),(∀x∈l,A x/\x.length=k)/\as=[.sl false l.length l.flatten]):=λH enc fuel cs x hx=>by
 have hc:=ZbR hk
 rcases DataW.trod_slice (run_telem ht) hx with⟨rfl,_⟩|⟨a,len,cap,elems,rest,n,_,rfl,_,_,hlc,hcap,hel,hall,_,_⟩
 ·exact⟨_,⟨[],by simp,rfl⟩,.cons (.sl0 (by simp) (by simp[maxLen])) .nil⟩
 ·rw[hc] at hall
  have key:∀m,m<=len->∃(l:List (List AV)) (us:List Value),l.length=m/\(∀x∈l,A x/\x.length=k)/\us.length=m*k/\ZaF W a us/\Rs (Zw W) W noK l.flatten us:=by
   intro m
   induction m with
   |zero=>intro _;exact⟨[],[],rfl,by simp,by simp,λj u hj=>by simp at hj,.nil⟩
   |succ m ih=>
    intro hm
    obtain⟨l,us,h1,h2,h3,h4,h5⟩:=ih (by omega)
    have hm':=hall m (by omega)
    have hlt:m<elems.length:=by omega
    rw[List.getElem?_eq_getElem hlt] at hm'
    obtain⟨cs,hcs,htr⟩:=Option.bind_eq_some_iff.1 hm'
    obtain⟨as,ha,hr⟩:=he H enc n cs _ htr
    obtain⟨hl,hcell⟩:=Zhm hcs
    have hal:as.length=k:=by rw[hr.length,hl]
    refine⟨l++[as],us++cs,by simp[h1],?_,by simp[h3,hl,Nat.add_mul],λj u hj=> ?_,?_⟩
    ·intro x hx
     rcases List.mem_append.1 hx with h|h
     ·exact h2 x h
     ·rw[List.mem_singleton.1 h];exact⟨ha,hal⟩
    ·rcases Nat.lt_or_ge j us.length with hj1|hj1
     ·rw[List.getElem?_append_left hj1] at hj;exact h4 j u hj
     ·rw[List.getElem?_append_right hj1] at hj
      have:=hcell _ u hj
      rw[add2] at this
      rw[<-this];congr 2;omega
    ·rw[List.flatten_append]
     exact h5.append (by simpa using hr)
  obtain⟨l,us,h1,h2,h3,h4,h5⟩:=key len (Nat.le_refl _)
  refine⟨_,⟨l,h2,rfl⟩,.cons ?_ .nil⟩
  rcases Nat.eq_zero_or_pos len with hz|hz
  ·have:l=[]:=List.eq_nil_of_length_eq_zero (by omega)
   subst this
   subst hz
   exact .sl0 (by simp) hcap
  ·rw[h1]
   refine .sl hz hlc (by simp) hcap ?_ h4 h5
   have hpos:0<us.length:=by rw[h3];exact Nat.mul_pos hz h0
   have:=Ztu (h4 0 us[0] (by simp[hpos]))
   have e:(a.add 0).block=a.block:=by unfold Addr.add;split<;>rfl
   rw[e] at this
   exact this
def Zp (P:Program) (t:TypeId):Option (List (Nat×TypeId)):=
 match P.underlying t with
 |some (.struct fs)=>some (fs.toList.map λf=>(f.offset,f.type))
 |_=>none
theorem ZjZ {Z':Nat->Prop} {κ':Nat->Slot} {W':World} (e:Ext (Zw W) noK W Z' κ' W') {b:Nat} (hb:b<W.heap.size):W'.heap[b]? =W.heap[b]? :=e.keep b hb (Zfd b)
theorem ZwM {Z':Nat->Prop} {κ':Nat->Slot} {W':World} (e:Ext (Zw W) noK W Z' κ' W') (may:MemPlace->Prop):W.keptBut W' may:=by
 refine⟨e.os,e.output,λi hi=> ?_⟩
 rw[ZjZ e hi]
 cases W.heap[i]? with
 |none=>rfl
 |some o=>cases o with
  |cells c t fr=>exact⟨rfl,rfl,rfl,λ_ _=>rfl⟩
  |map es cl=>exact .inr ⟨rfl,rfl⟩
  |_=>rfl
theorem Ztv {Z':Nat->Prop} {κ':Nat->Slot} {W':World} (e:Ext (Zw W) noK W Z' κ' W'):RowKit.Below W.heap.size W W':=⟨e.os,e.tape,e.output,e.size,λk hk=>ZjZ e hk⟩
theorem Zqw {Z':Nat->Prop} {κ':Nat->Slot} {W':World} (e:Ext (Zw W) noK W Z' κ' W') {b off:Nat} (hb:b<W.heap.size):W'.frozen? ⟨b,off,none⟩=W.frozen? ⟨b,off,none⟩:=by
 simp only[World.frozen?,ZjZ e hb]
theorem Ztw {H:Type} {enc:TypeId×Value->H} {f:Func} {s:ChangeSpec} {apart fresh handsOn again:Bool} {args:Array Value} {ds gs:List (DataW H)} {before:List MemPlace} {Z':Nat->Prop} {κ':Nat->Slot} {W':World} {t:TypeId}
  (hW:DataW.Whole enc P f.params.toList s.vars apart W args.toList ds gs before) (e:Ext (Zw W) noK W Z' κ' W') (hvars:s.vars=[]) (hspec:s.fn H (ds++gs)={results:=[.lit (.bool true)],args:=ds})
  (hr:f.resultTypes= #[t]) (ht:P.underlying t=some .bool) (hl:laidOutB P=true) (hps:∀t∈f.params.toList,P.readableRec t=true/\t<P.types.size):s.post enc P f apart fresh handsOn again W args (.bool true) W':=by
 have hold:∀p∈before,(λb=>decide (b<W.heap.size)) p.block=true:=λp hp=>by simpa using hW.lt p hp
 have hW':=hW
 obtain⟨pa,pv,hA,hV,hpq,hz,hn⟩:=hW'
 rw[hvars] at hV
 obtain⟨hg,hpv⟩:gs=[]/\pv=[]:=trodVars_none hV
 subst hg hpv
 simp only[List.append_nil] at hpq
 subst hpq
 have hlt:∀p∈before,p.block<W.heap.size:=λp hp=>hW.lt p hp
 have stays:∀(sp:Nat->Bool),(∀p∈before,sp p.block=true)->DataW.TrodAll enc P W' 0 sp true f.params.toList args.toList ds before:=by
  intro sp hsp
  have go:∀(ts:List TypeId) (vs:List Value) (ds:List (DataW H)) (ps:List MemPlace),(∀t∈ts,P.readableRec t=true/\t<P.types.size)->(∀p∈ps,p.block<W.heap.size/\sp p.block=true)->DataW.TrodAll enc P W 0 (λ_=>true) true ts vs ds ps->DataW.TrodAll enc P W' 0 sp true ts vs ds ps:=by
   intro ts
   induction ts with
   |nil=>intro vs ds ps _ _ h;cases vs<;>cases ds<;>simp_all[DataW.TrodAll]
   |cons t ts ih=>
    intro vs ds ps ht hp h
    match vs,ds,h with
    |v::vs,d::ds,⟨p,q,h1,h2,hpq⟩=>
     subst hpq
     refine⟨p,q,WideElems.Trod_stays hl (ht t (by simp)).1 (ht t (by simp)).2 h1 (λx hx=>(Ztv e).same (hp x (by simp[hx])).1) (λx hx=>(hp x (by simp[hx])).2),ih vs ds q (λt' h'=>ht t' (by simp[h'])) (λx hx=>hp x (by simp[hx])) h2,rfl⟩
  exact go _ _ _ _ hps (λp hp=>⟨hlt p hp,hsp p hp⟩) hA
 have hres:∀(b:Nat) (sp:Nat->Bool),DataW.TrodAll enc P W' b sp true f.resultTypes.toList ((Value.bool true).resultList f.resultTypes.size) (s.fn H (ds++[])).results []:=by
  intro b sp
  rw[hspec,hr]
  exact trodAll_mk1 ⟨1,by simp[DataW.trod,Value.cells,ht]⟩
 have hres2:∀(b:Nat) (sp:Nat->Bool),DataW.TrodAll enc P W' b sp handsOn f.resultTypes.toList ((Value.bool true).resultList f.resultTypes.size) (s.fn H (ds++[])).results []:=by
  intro b sp
  rw[hspec,hr]
  exact trodAll_mk1 ⟨1,by simp[DataW.trod,Value.cells,ht]⟩
 have hargs:(s.fn H (ds++[])).args=ds:=by rw[hspec]
 have hv0:(s.fn H (ds++[])).vars=[]:=by rw[hspec]
 have hvs:∀sp:Nat->Bool,DataW.TrodVars enc P W' sp s.vars (s.fn H (ds++[])).vars []:=λsp=>by rw[hvars,hv0];rfl
 refine⟨ds,[],before,[],before,[],hW,hres2 _ _,by rw[hargs];exact stays _ hold,hvs _,World.keptBut_mono (λp hp=>⟨hp,?_⟩) (ZwM e (·∈before)),λ_=> ?_⟩
 ·exact .inr (.inl hp)
 ·refine⟨?_,_,_,([]++before)++[],⟨[]++before,[],trodAll_append (stays _ λ_ _=>rfl) (hres _ _),hvs _,rfl,?_,?_⟩,?_⟩
  ·exact RowKit.ok_one hr rfl (by simp[Value.okWide,ht,Cell.okWide,Cell.ok])
  ·intro b off hp
   have hp:MemPlace.cell b off∈before:=by simpa using hp
   have hb:b<W.heap.size:=hlt _ hp
   rw[Zqw e hb]
   exact hz b off hp
  ·intro ha;simpa using hn ha
  ·intro p hp _;simpa using hp
theorem Ztx {H:Type} {enc:TypeId×Value->H} {f:FuncId} {fn:Func} {s:ChangeSpec} {apart fresh handsOn again:Bool} {args:Array Value} {ds gs:List (DataW H)} {before:List MemPlace} {t:TypeId} {avs:List AV}
  (hp:Zb P f avs (.val (.bool true))) (hrs:Rs (Zw W) W noK avs args.toList)
  (hW:DataW.Whole enc P fn.params.toList s.vars apart W args.toList ds gs before) (hvars:s.vars=[]) (hspec:s.fn H (ds++gs)={results:=[.lit (.bool true)],args:=ds})
  (hr:fn.resultTypes= #[t]) (ht:P.underlying t=some .bool) (hl:laidOutB P=true) (hps:∀t∈fn.params.toList,P.readableRec t=true/\t<P.types.size):
  Calls P f args W λe W'=>∃v,e= .returned v/\s.post enc P fn apart fresh handsOn again W args v W':=by
 have h:=hp.2.2.2 (Zw W) noK W args.toList (Zhk λb hb=>hb) hrs
 have ea:args.toList.toArray=args:=by simp
 rw[ea] at h
 refine h.mono ?_
 rintro e W' ⟨v,h',Z',κ',c,⟨rfl,rfl⟩,rfl,r',hv,ex,st⟩
 have hc:c= .bool true:=Zaf hv rfl
 subst hc
 exact⟨_,rfl,Ztw hW ex hvars hspec hr ht hl hps⟩
end Go.Cx
set_option linter.unusedVariables false
set_option linter.unusedSimpArgs false
namespace Go.Cx
variable {P:Program}
noncomputable instance decV:DecidableEq Value:=λ_ _=>Classical.propDecidable _
def ZoI (P:Program) (F:TypeId->Option (List TypeDesc)):List Field->Nat->Option (List TypeDesc)
 |[],_=>some []
 | f :: fs, off => if f.name ≠ "_" ∧ f.offset = off then match F f.type, Zd P f.type with
   |some ds,some k=>if k=ds.length then(ZoI P F fs (off+k)).map λr=>ds++r else none
   |_,_=>none
  else none
def Zka (P:Program):Nat->TypeId->Option (List TypeDesc)
 |0,_=>none
 |d+1,t=>match P.underlying t with
  |some (.struct fs)=>if P.stoodInHeld t=true then none else ZoI P (Zka P d) fs.toList 0
  |some k=>if keyDesc k then some [k] else none
  |none=>none
inductive Zcc:List TypeDesc->List Value->Prop
 |nil:Zcc [] []
 |cons {d:TypeDesc} {ds:List TypeDesc} {v:Value} {vs:List Value}:isKeyB d v=true->Zcc ds vs->Zcc (d::ds) (v::vs)
theorem Zcc.len {ds:List TypeDesc} {vs:List Value} (h:Zcc ds vs):vs.length=ds.length:=by induction h<;>simp_all
theorem Zcc.take {r:List TypeDesc}:∀{ds:List TypeDesc} {vs:List Value},Zcc (ds++r) vs->Zcc ds (vs.take ds.length)/\Zcc r (vs.drop ds.length)
 |[],vs,h=>⟨.nil,h⟩
 |d::ds,_,.cons h1 h2=>⟨.cons h1 h2.take.1,h2.take.2⟩
def mkV (P:Program) (t:TypeId) (xs:List Value):Value:=if tagg P t=some true then .agg xs.toArray else xs.headD undef
theorem ZwN {t:TypeId} {g:Bool} (h:tagg P t=some g):pr P (isAgg t)=some g:=by
 obtain⟨d,hd,hg⟩:=Option.map_eq_some_iff.1 h
 simp only[isAgg,pr_bind,Zz hd,Option.bind_some]
 cases d<;>simp_all[aggDesc]
theorem Zty {t:TypeId} {k:Nat} (h:Zd P t=some k):pr P (sizeOf t)=some k:=by
 obtain⟨i,hi,hk⟩:=Option.map_eq_some_iff.1 h
 simp[sizeOf,typeInfo,pr_bind,program,pr,hi,hk]
theorem Ztz {d:Nat} {t:TypeId} {ds:List TypeDesc} (h:Zka P d t=some ds):∃g,tagg P t=some g/\(g=false->ds.length=1):=by
 cases d with
 |zero=>cases h
 |succ d=>
  simp only[Zka] at h
  split at h
  ·rename_i fs hu;exact⟨true,by simp[tagg,hu,aggDesc],by simp⟩
  ·rename_i k hn hu
   split at h
   ·rename_i hk
    injection h with h;subst h
    refine⟨false,?_,λ_=>rfl⟩
    cases k<;>simp[keyDesc] at hk<;>simp[tagg,hu,aggDesc]
   ·cases h
  ·cases h
theorem ZtA {t:TypeId} {d k off:Nat} {ds:List TypeDesc} {xs:List Value} (hf:Zka P d t=some ds) (hk:Zd P t=some k) (hkd:k=ds.length) (hx:Zcc ds ((xs.drop off).take k)):pr P (part t xs.toArray off)=some (mkV P t ((xs.drop off).take k)):=by
 obtain⟨g,hg,h1⟩:=Ztz hf
 unfold part mkV
 rw[pr_bind,ZwN hg,hg]
 cases g with
 |true=>
  simp only[Option.bind_some,if_true,pr_bind,Zty hk,ZaO]
  congr 2
  apply Array.ext'
  simp[Array.toList_extract,List.extract_eq_take_drop]
 |false=>
  have hl:=hx.len
  have h1:=h1 rfl
  simp only[Option.bind_some,Bool.false_eq_true,if_false,Option.some.injEq]
  have hlt:off<xs.length:=by
   rw[List.length_take,List.length_drop] at hl;omega
  have e:(xs.drop off).take k=[xs[off]]:=by
   rw[hkd,h1,List.drop_eq_getElem_cons hlt,List.take_succ_cons,List.take_zero]
  rw[e]
  simp[hlt]
theorem ZtB {d:Nat} {t:TypeId} {k:TypeDesc} {a b:Value} (hu:P.underlying t=some k) (hk:keyDesc k=true) (ha:isKeyB k a=true) (hb:isKeyB k b=true):pr P (Op.equalIn (d+1) t a b)=some (decide (a=b)):=by
 rw[Op.equalIn,pr_bind,Zz hu]
 cases k<;>simp[keyDesc] at hk<;>cases a<;>simp[isKeyB] at ha<;>cases b<;>simp[isKeyB] at hb
 ·simp only[Option.bind_some,ZaO];rename_i x y;cases x<;>cases y<;>simp
 ·subst ha hb
  simp only[Option.bind_some,if_true,ZaO,Value.int.injEq,true_and]
  rename_i n x y
  by_cases h:n=y<;>simp[h]
 ·simp only[Option.bind_some,ZaO,Value.string.injEq]
  rename_i x y
  by_cases h:x=y
  ·subst h
   have e:=(MapKept.bytes_beq x x).2 rfl
   rw[e];simp
  ·have e:(x==y)=false:=by
    cases hh:(x==y) with
    |false=>rfl
    |true=>exact absurd ((MapKept.bytes_beq x y).1 hh) h
   rw[e];simp[h]
theorem Zlf {d:Nat} {xs ys:List Value} (ih:∀(t:TypeId) (ds:List TypeDesc) (a b:List Value),Zka P d t=some ds->Zcc ds a->Zcc ds b->pr P (Op.equalIn d t (mkV P t a) (mkV P t b))=some (decide (a=b))):
  ∀(fs:List Field) (off:Nat) (r:List TypeDesc),ZoI P (Zka P d) fs off=some r->Zcc r (xs.drop off)->Zcc r (ys.drop off)->
   pr P (do
    let __s<-forIn fs ((none:Option Bool),()) λf __s=>
       if f.name ≠ "_" then do
        let a<-part f.type xs.toArray f.offset
        let b<-part f.type ys.toArray f.offset
        let c<-Op.equalIn d f.type a b
        if(!c)=true then pure (ForInStep.done (some false,())) else pure (ForInStep.yield (none,()))
       else pure (ForInStep.yield (none,()))
    match __s.fst with
     |some r=>pure r
     |none=>pure true)=some (decide (xs.drop off=ys.drop off))
 |[],off,r,hf,hx,hy=>by
  injection hf with hf;subst hf
  cases hxe:xs.drop off with
  |cons _ _=>rw[hxe] at hx;cases hx
  |nil=>cases hye:ys.drop off with
   |cons _ _=>rw[hye] at hy;cases hy
   |nil=>simp
 |f::fs,off,r,hf,hx,hy=>by
  simp only[ZoI] at hf
  split at hf
  ·rename_i hn
   obtain⟨hn,ho⟩:=hn
   split at hf
   ·rename_i ds k hd hk
    split at hf
    ·rename_i hkd
     obtain⟨r',hr',he⟩:=Option.map_eq_some_iff.1 hf
     subst he
     have hx1:=hx.take
     have hy1:=hy.take
     rw[List.drop_drop] at hx1 hy1
     have step:=Zlf ih fs (off+k) r' hr' (by rw[hkd];exact hx1.2) (by rw[hkd];exact hy1.2)
     have pa:=ZtA (xs:=xs) (off:=off) hd hk hkd (by rw[hkd];exact hx1.1)
     have pb:=ZtA (xs:=ys) (off:=off) hd hk hkd (by rw[hkd];exact hy1.1)
     have pe:=ih f.type ds _ _ hd (show Zcc ds ((xs.drop off).take k) by rw[hkd];exact hx1.1) (show Zcc ds ((ys.drop off).take k) by rw[hkd];exact hy1.1)
     have split:(xs.drop off=ys.drop off)↔((xs.drop off).take k=(ys.drop off).take k/\xs.drop (off+k)=ys.drop (off+k)):=by
      rw[<-List.drop_drop,<-List.drop_drop]
      refine⟨λh=>by rw[h];exact⟨rfl,rfl⟩,λ⟨h1,h2⟩=> ?_⟩
      rw[<-List.take_append_drop k (xs.drop off),<-List.take_append_drop k (ys.drop off),h1,h2]
     rw[List.forIn_cons]
     rw[if_pos hn,ho]
     simp only[pr_bind,pa,pb,pe,Option.bind_some]
     by_cases he:(xs.drop off).take k=(ys.drop off).take k
     ·simp only[he,decide_true,Bool.not_true,Bool.false_eq_true,if_false,ZaO,Option.bind_some]
      simp only[pr_bind] at step
      rw[step]
      simp[split,he]
     ·have:¬xs.drop off=ys.drop off:=λh=>he (split.1 h).1
      simp[he,this]
    ·cases hf
   ·cases hf
  ·cases hf
theorem ZtC:∀(d:Nat) (t:TypeId) (ds:List TypeDesc) (a b:List Value),Zka P d t=some ds->Zcc ds a->Zcc ds b->pr P (Op.equalIn d t (mkV P t a) (mkV P t b))=some (decide (a=b))
 |0,t,ds,a,b,h,_,_=>by cases h
 |d+1,t,ds,a,b,h,ha,hb=>by
  simp only[Zka] at h
  split at h
  ·rename_i fs hu
   split at h
   ·cases h
   ·rename_i hs
    have hg:tagg P t=some true:=by simp[tagg,hu,aggDesc]
    have hs':P.stoodInHeld t=false:=by simpa using hs
    have:=Zlf (xs:=a) (ys:=b) (ZtC d) fs.toList 0 ds h (by simpa using ha) (by simpa using hb)
    unfold mkV
    rw[if_pos hg,if_pos hg]
    rw[Op.equalIn,pr_bind,Zz hu]
    simp only[Option.bind_some]
    rw[pr_bind]
    have hp:pr P program=some P:=rfl
    rw[hp]
    simp only[Option.bind_some,hs',Bool.false_eq_true,if_false]
    rw[<-Array.forIn_toList]
    simp only[List.drop_zero] at this
    refine(congrArg (pr P) ?_).trans this
    congr 1
    funext ⟨o,u⟩
    cases o<;>rfl
  ·rename_i k hn hu
   split at h
   ·rename_i hk
    injection h with h;subst h
    have hg:tagg P t=some false:=by
     cases k<;>simp[keyDesc] at hk<;>simp[tagg,hu,aggDesc]
    cases ha with
    |cons h1 h2=>
     cases h2
     cases hb with
     |cons h3 h4=>
      cases h4
      unfold mkV
      simp only[hg,Option.some.injEq,Bool.false_eq_true,if_false,List.headD_cons]
      rw[ZtB hu hk h1 h3]
      simp
   ·cases h
  ·cases h
def Zir (P:Program) (t:TypeId):Option (List TypeDesc):=if P.eqGuardType P.depth t=true then none else Zka P Op.maxDepth t
theorem Zkb:∀xs:List Value,(xs.map AV.val).mapM concV=some xs
 |[]=>rfl
 |x::xs=>by simp[List.mapM_cons,Zkb xs,concV]
theorem ZmQ {t:TypeId} {ds:List TypeDesc} {xs ys:List Value} (ht:Zir P t=some ds) (hg:tagg P t=some true) (hx:Zcc ds xs) (hy:Zcc ds ys) (ox oy:Operand):
  abin P .eql t ox oy (.agg (xs.map .val)) (.agg (ys.map .val))=some (.val (.bool (decide (xs=ys))))/\abin P .neq t ox oy (.agg (xs.map .val)) (.agg (ys.map .val))=some (.val (.bool (!decide (xs=ys)))):=by
 unfold Zir at ht
 split at ht
 ·cases ht
 ·rename_i hq
  have hd:=ZtC Op.maxDepth t ds xs ys ht hx hy
  unfold mkV at hd
  rw[if_pos hg,if_pos hg] at hd
  have hq':P.eqGuardType P.depth t=false:=by simpa using hq
  have hp:pr P program=some P:=rfl
  have h2:∀op:BinOp,op= .eql\/op= .neq->pr P (eqGuard op t ox oy (.agg xs.toArray) (.agg ys.toArray))=some ():=by
   rintro op (rfl|rfl)<;>simp[eqGuard,pr_bind,hp,hq']
  have he:pr P (Op.equal t (.agg xs.toArray) (.agg ys.toArray))=some (decide (xs=ys)):=hd
  constructor
  ·have h1:pr P (binOp .eql t (.agg xs.toArray) (.agg ys.toArray))=some (.bool (decide (xs=ys))):=by
    show pr P (do pure (Value.bool (<-Op.equal t (.agg xs.toArray) (.agg ys.toArray))))=_
    rw[pr_bind,he];rfl
   simp only[abin,conc,Zkb,Option.map_some,h1,h2 .eql (.inl rfl)];rfl
  ·have h1:pr P (binOp .neq t (.agg xs.toArray) (.agg ys.toArray))=some (.bool (!decide (xs=ys))):=by
    show pr P (do pure (Value.bool (!(<-Op.equal t (.agg xs.toArray) (.agg ys.toArray)))))=_
    rw[pr_bind,he];rfl
   simp only[abin,conc,Zkb,Option.map_some,h1,h2 .neq (.inr rfl)];rfl
end Go.Cx
set_option linter.unusedVariables false
set_option linter.unusedSimpArgs false
namespace Go.Cx
variable {P:Program} {lit:TypeId->Bool} {n:Nat}
section
variable {Q:Exit->Zc->Prop} {s:Zc} {a b:Code} {p:Prop} [Decidable p] {t:Bool}
theorem ZtD (h1:p->p=True->AX P lit n a Q s) (h2:¬p->p=False->AX P lit n b Q s):Zfe P lit n a b Q s (.val (.bool (decide p))):=by
 by_cases h:p
 ·simpa[h] using h1 h (eq_true h)
 ·simpa[h] using h2 h (eq_false h)
theorem Zqx (h1:¬p->p=False->AX P lit n a Q s) (h2:p->p=True->AX P lit n b Q s):Zfe P lit n a b Q s (.val (.bool (!decide p))):=by
 by_cases h:p
 ·simpa[h] using h2 h (eq_true h)
 ·simpa[h] using h1 h (eq_false h)
theorem condK_b (h1:t=true->t=true->AX P lit n a Q s) (h2:t=false->t=false->AX P lit n b Q s):Zfe P lit n a b Q s (.val (.bool t)):=by
 cases t
 ·simpa using h2 rfl rfl
 ·simpa using h1 rfl rfl
theorem ZwO (h1:t=false->t=false->AX P lit n a Q s) (h2:t=true->t=true->AX P lit n b Q s):Zfe P lit n a b Q s (.val (.bool (!t))):=by
 cases t
 ·simpa using h1 rfl rfl
 ·simpa using h2 rfl rfl
end
section
variable {o:Oper} {s:Zc} {K:Zc->Prop} {i:Nat} {want:Bool} {p:Prop} [Decidable p] {t:Bool}
theorem gdK_dec (h1:p->p=True->gdK P lit o s i want K (.val (.bool true))) (h2:¬p->p=False->gdK P lit o s i want K (.val (.bool false))):gdK P lit o s i want K (.val (.bool (decide p))):=by
 by_cases h:p
 ·simpa[h] using h1 h (eq_true h)
 ·simpa[h] using h2 h (eq_false h)
theorem ZwP (h1:p->p=True->gdK P lit o s i want K (.val (.bool false))) (h2:¬p->p=False->gdK P lit o s i want K (.val (.bool true))):gdK P lit o s i want K (.val (.bool (!decide p))):=by
 by_cases h:p
 ·simpa[h] using h1 h (eq_true h)
 ·simpa[h] using h2 h (eq_false h)
theorem gdK_b (h1:t=true->t=true->gdK P lit o s i want K (.val (.bool true))) (h2:t=false->t=false->gdK P lit o s i want K (.val (.bool false))):gdK P lit o s i want K (.val (.bool t)):=by
 cases t
 ·exact h2 rfl rfl
 ·exact h1 rfl rfl
theorem gdK_nb (h1:t=false->t=false->gdK P lit o s i want K (.val (.bool true))) (h2:t=true->t=true->gdK P lit o s i want K (.val (.bool false))):gdK P lit o s i want K (.val (.bool (!t))):=by
 cases t
 ·exact h1 rfl rfl
 ·exact h2 rfl rfl
variable {D:List Nat} {cc:CC} {k:Nat}
theorem gdD_dec (h1:p->p=True->gdD P lit D cc k o s i want K (.val (.bool true))) (h2:¬p->p=False->gdD P lit D cc k o s i want K (.val (.bool false))):gdD P lit D cc k o s i want K (.val (.bool (decide p))):=by
 by_cases h:p
 ·simpa[h] using h1 h (eq_true h)
 ·simpa[h] using h2 h (eq_false h)
theorem ZwQ (h1:p->p=True->gdD P lit D cc k o s i want K (.val (.bool false))) (h2:¬p->p=False->gdD P lit D cc k o s i want K (.val (.bool true))):gdD P lit D cc k o s i want K (.val (.bool (!decide p))):=by
 by_cases h:p
 ·simpa[h] using h1 h (eq_true h)
 ·simpa[h] using h2 h (eq_false h)
theorem gdD_b (h1:t=true->t=true->gdD P lit D cc k o s i want K (.val (.bool true))) (h2:t=false->t=false->gdD P lit D cc k o s i want K (.val (.bool false))):gdD P lit D cc k o s i want K (.val (.bool t)):=by
 cases t
 ·exact h2 rfl rfl
 ·exact h1 rfl rfl
theorem gdD_nb (h1:t=false->t=false->gdD P lit D cc k o s i want K (.val (.bool true))) (h2:t=true->t=true->gdD P lit D cc k o s i want K (.val (.bool false))):gdD P lit D cc k o s i want K (.val (.bool (!t))):=by
 cases t
 ·exact h1 rfl rfl
 ·exact h2 rfl rfl
end
end Go.Cx
set_option linter.unusedVariables false
set_option linter.unusedSimpArgs false
namespace Go.Cx
variable {P:Program} {lit:TypeId->Bool} {n:Nat}
def Zis (l:Nat) (J:Zc->Prop) (Q:Exit->Zc->Prop):Exit->Zc->Prop
 | .goto l',s=>l'=l/\J s
 |e,s=>Q e s
section
variable (l:Nat) (J:Zc->Prop) (Q:Exit->Zc->Prop) (s:Zc)
@[simp] theorem jumpA_normal:Zis l J Q .normal s=Q .normal s:=rfl
@[simp] theorem jumpA_exit (id:Nat):Zis l J Q (.exit id) s=Q (.exit id) s:=rfl
@[simp] theorem jumpA_goto (l':Nat):Zis l J Q (.goto l') s=(l'=l/\J s):=rfl
@[simp] theorem jumpA_ret:Zis l J Q .ret s=Q .ret s:=rfl
end
theorem AW.scope {c rest:Code} {Q:Exit->Zc->Prop} {s:Zc} (l:Nat) (I:Zc->Prop) (μ:Zc->Nat) (hf:findLabel c l=some rest)
  (h0:AW P n c (Zis l (λs'=>∃s'',Wk n s' s''/\I s'') Q) s)
  (hr:∀s,I s->AW P n rest (Zis l (λs'=>∃s'',Wk n s' s''/\I s''/\μ s''<μ s) Q) s):AW P n (.scope c) Q s:=by
 intro Z κ a w r hn
 let J:Act->World->Nat->Prop:=λa' w' m=>Zcj n (λs'=>I s'/\μ s'=m) Z κ w a' w'
 let I':Act->World->Prop:=λa' w'=>∃m,J a' w' m
 have lst:∀a' w',I' a' w'->∃m,J a' w' m/\∀k,J a' w' k->m<=k:=by
  intro a' w' ⟨m,hm⟩
  induction m using Nat.strongRecOn with
  |_ m ih=>
   by_cases hex:∃k,k<m/\J a' w' k
   ·obtain⟨k,hk,hj⟩:=hex;exact ih k hk hj
   ·exact⟨m,hm,λk hk=>Nat.le_of_not_lt λhlt=>hex ⟨k,hlt,hk⟩⟩
 let μ':Act->World->Nat:=λa' w'=>Classical.epsilon λm=>J a' w' m/\∀k,J a' w' k->m<=k
 have hμ:∀a' w',I' a' w'->J a' w' (μ' a' w')/\∀k,J a' w' k->μ' a' w'<=k:=λa' w' hi=>Classical.epsilon_spec (lst a' w' hi)
 refine wp_scope_jumps l I' μ' hf ?_ λa' w' hi=> ?_
 ·refine wp_mono (h0 Z κ a w r hn) λe a2 w2 ha=> ?_
  cases e with
  |normal=>exact ha
  |exit id=>exact ha
  |goto l'=>
   obtain⟨s2,Z2,κ2,⟨hl,s3,hwk,hI3⟩,r2,e2,st2,n2⟩:=ha
   obtain⟨κ3,r3,e3,st3,n3⟩:=hwk Z2 κ2 a2 w2 r2 n2
   exact⟨hl,_,s3,Z2,κ3,⟨hI3,rfl⟩,r3,e2.trans e3,st2.trans st3,n3⟩
  |ret=>exact ha
  |panic ch=>exact ha
  |outgrown=>exact ha
 ·obtain⟨⟨s1,Z1,κ1,⟨hI,hm⟩,r1,e1,st1,n1⟩,hle⟩:=hμ a' w' hi
  refine wp_mono (hr s1 hI Z1 κ1 a' w' r1 n1) λe a2 w2 ha=> ?_
  have ha:=ha.trans e1 st1
  cases e with
  |normal=>exact ha
  |exit id=>exact ha
  |goto l'=>
   obtain⟨s2,Z2,κ2,⟨hl,s3,hwk,hI3,hlt⟩,r2,e2,st2,n2⟩:=ha
   obtain⟨κ3,r3,e3,st3,n3⟩:=hwk Z2 κ2 a2 w2 r2 n2
   have hj:J a2 w2 (μ s3):=⟨s3,Z2,κ3,⟨hI3,rfl⟩,r3,e2.trans e3,st2.trans st3,n3⟩
   refine⟨hl,⟨_,hj⟩,?_⟩
   have:=(hμ a2 w2 ⟨_,hj⟩).2 _ hj
   omega
  |ret=>exact ha
  |panic ch=>exact ha
  |outgrown=>exact ha
theorem AW.scopeF {α:Type} {c rest:Code} {Q:Exit->Zc->Prop} {s:Zc} (l:Nat) (S:α->Zc) (μ:α->Nat) (good:α->Prop) (hf:findLabel c l=some rest)
  (h0:AX P lit n c (Zis l (λs'=>∃x',Wk n s' (S x')/\good x') Q) s)
  (hr:∀x,good x->AX P lit n rest (Zis l (λs'=>∃x',Wk n s' (S x')/\good x'/\μ x'<μ x) Q) (S x)):AW P n (.scope c) Q s:=by
 let I:Zc->Prop:=λs=>∃x,good x/\S x=s
 let M:Zc->Nat->Prop:=λs m=>∃x,good x/\S x=s/\μ x=m
 have lst:∀s,I s->∃m,M s m/\∀k,M s k->m<=k:=by
  rintro s ⟨x,hg,hs⟩
  have:∀m,M s m->∃m,M s m/\∀k,M s k->m<=k:=by
   intro m
   induction m using Nat.strongRecOn with
   |_ m ih=>
    intro hm
    by_cases hex:∃k,k<m/\M s k
    ·obtain⟨k,hk,hj⟩:=hex;exact ih k hk hj
    ·exact⟨m,hm,λk hk=>Nat.le_of_not_lt λhlt=>hex ⟨k,hlt,hk⟩⟩
  exact this (μ x) ⟨x,hg,hs,rfl⟩
 let μ':Zc->Nat:=λs=>Classical.epsilon λm=>M s m/\∀k,M s k->m<=k
 have hμ:∀s,I s->M s (μ' s)/\∀k,M s k->μ' s<=k:=λs hi=>Classical.epsilon_spec (lst s hi)
 refine AW.scope l I μ' hf ?_ λs hi=> ?_
 ·intro Z κ a w r hn
  refine wp_mono (Zck c _ _ h0 Z κ a w r hn) λe a' w' ha=>ha.mono λs2 h2=> ?_
  cases e with
  |goto l'=>obtain⟨hl,x',hw,hg⟩:=h2;exact⟨hl,S x',hw,x',hg,rfl⟩
  |normal=>exact h2
  |exit id=>exact h2
  |ret=>exact h2
  |panic ch=>exact h2
  |outgrown=>exact h2
 ·obtain⟨⟨x,hg,hs,hm⟩,_⟩:=hμ s hi
  subst hs
  intro Z κ a w r hn
  refine wp_mono (Zck rest _ _ (hr x hg) Z κ a w r hn) λe a' w' ha=>ha.mono λs2 h2=> ?_
  cases e with
  |goto l'=>
   obtain⟨hl,x',hw,hg',hlt⟩:=h2
   refine⟨hl,S x',hw,⟨x',hg',rfl⟩,?_⟩
   have:=(hμ (S x') ⟨x',hg',rfl⟩).2 _ ⟨x',hg',rfl,rfl⟩
   omega
  |normal=>exact h2
  |exit id=>exact h2
  |ret=>exact h2
  |panic ch=>exact h2
  |outgrown=>exact h2
theorem Wk.at {n N':Nat} {s:Zc} {h':Za} (l:List (Nat×AV)) (hN:s.N=N') (hh:s.h=h') (hl:∀p∈l,s.T p.1=p.2):Wk n s ⟨N',Cx.pat l,h'⟩:=by
 subst hN hh
 exact Wk.keep l hl
theorem Wk.cutAt {n N':Nat} {s:Zc} {h':Za} (l:List (Nat×AV)) (hN:s.N=N') (hnm:n<=h'.length) (hh:s.h.take h'.length=h') (hc:h'.all (ABlk.refsLt h'.length)=true) (hl:∀p∈l,s.T p.1=p.2/\refsLt h'.length p.2=true):Wk n s ⟨N',Cx.pat l,h'⟩:=by
 subst hN
 have:=Wk.cut (s:=s) h'.length l hnm (by have:=congrArg List.length hh;simp at this;omega) (by rw[hh];exact hc) hl
 rwa[hh] at this
theorem AW.scopeG {α:Type} {c rest:Code} {Q:Exit->Zc->Prop} {s:Zc} (l:Nat) (S:α->Zc) (μ:α->Nat) (good:α->Prop) (hf:findLabel c l=some rest)
  (h0:∀A:Zc->Prop,(∀x' s',Wk n s' (S x')->good x'->A s')->AX P lit n c (Zis l A Q) s)
  (hr:∀x,good x->∀A:Zc->Prop,(∀x' s',Wk n s' (S x')->good x'->μ x'<μ x->A s')->AX P lit n rest (Zis l A Q) (S x)):AW P n (.scope c) Q s:=
 AW.scopeF (lit:=lit) l S μ good hf (h0 _ λx' s' h1 h2=>⟨x',h1,h2⟩) (λx hx=>hr x hx _ λx' s' h1 h2 h3=>⟨x',h1,h2,h3⟩)
theorem AW.loopG {α:Type} {c:Code} {Q:Exit->Zc->Prop} {s:Zc} (S:α->Zc) (μ:α->Nat) (good:α->Prop) (x0:α) (h0:Wk n s (S x0)) (g0:good x0)
  (hr:∀x,good x->∀A:Zc->Prop,(∀x' s',Wk n s' (S x')->good x'->μ x'<μ x->A s')->AX P lit n c (Zfb A Q) (S x)):AW P n (.loop c) Q s:=
 AW.loopF (lit:=lit) S μ good x0 h0 g0 (λx hx=>hr x hx _ λx' s' h1 h2 h3=>⟨x',h1,h2,h3⟩)
end Go.Cx
set_option linter.unusedVariables false
set_option linter.unusedSimpArgs false
namespace Go.Cx
variable {P:Program} {lit:TypeId->Bool} {n:Nat}
abbrev yb (b:UInt8):AV:= .val (.int .u8 (b.toNat:Int))
@[simp] theorem u8s_nil:u8s []=some []:=rfl
theorem Zkc (k:Int) (l:List AV):u8s (.val (.int .u8 k)::l)=(u8s l).map (UInt8.ofNat k.toNat:: ·):=by rw[u8s]
@[simp] theorem ZtE (l:List UInt8):u8s (l.map yb)=some l:=by
 induction l with
 |nil=>rfl
 |cons b l ih=>rw[List.map_cons,Zkc,ih];simp
@[simp] theorem u8s_one (k:Int):u8s [.val (.int .u8 k)]=some [UInt8.ofNat k.toNat]:=by rw[Zkc];rfl
theorem ZmR:∀{a b:List AV} {x y:List UInt8},u8s a=some x->u8s b=some y->u8s (a++b)=some (x++y)
 |[],b,x,y,ha,hb=>by simp at ha;subst ha;simpa using hb
 |v::a,b,x,y,ha,hb=>by
  unfold u8s at ha
  split at ha
  ·rename_i e;cases e
  ·rename_i k a' e
   injection e with e1 e2
   subst e1 e2
   obtain⟨x',hx,rfl⟩:=Option.map_eq_some_iff.1 ha
   rw[List.cons_append,Zkc,ZmR hx hb];rfl
  ·cases ha
@[simp] theorem u8s_snoc (l:List UInt8) (k:Int):u8s (l.map yb++[.val (.int .u8 k)])=some (l++[UInt8.ofNat k.toNat]):=ZmR (ZtE l) (u8s_one k)
@[simp] theorem u8s_both (l m:List UInt8):u8s (l.map yb++m.map yb)=some (l++m):=ZmR (ZtE l) (ZtE m)
@[simp] theorem isU8_u8:isU8 (.int .u8)=true/\isStr .string=true:=⟨rfl,rfl⟩
attribute [simp] Zha
@[simp high] theorem take_map1 {α β:Type} (f:α->β) (l:List α) (b:β):List.take (l.length+1) (l.map f++[b])=l.map f++[b]:=List.take_of_length_le (by simp)
@[simp high] theorem take_map0 {α β:Type} (f:α->β) (l:List α):List.take l.length (l.map f)=l.map f:=List.take_of_length_le (by simp)
@[simp] theorem all_ybs (l:List UInt8):(l.map yb).all neat=true:=by simp
@[simp high] theorem ZmS (l:List UInt8):(l.map yb).all Zy=true:=by simp[Zy]
abbrev T (l:List UInt8):ByteArray:=⟨l.toArray⟩
theorem T_size (a:List UInt8):(T a).size=a.length:=rfl
theorem T_ext (a:List UInt8) (i j:Nat):(T a).extract i j=T ((a.take j).drop i):=by
 apply ByteArray.ext
 rw[ByteArray.data_extract]
 apply Array.ext'
 simp[List.drop_take]
theorem pr_rtB {α:Type} (x y:Int) (b:Bool) (c:BoundsCode):pr P (runtimePanic (.bounds x y b c):Sem α)=none:=by
 unfold runtimePanic
 rw[pr_bind]
 cases pr P program with
 |none=>rfl
 |some p=>rfl
theorem ZwR {α:Type} (m:String):pr P (runtimePanic (.error m):Sem α)=none:=by
 unfold runtimePanic
 rw[pr_bind]
 cases pr P program with
 |none=>rfl
 |some p=>rfl
theorem Zhn {α:Type} (k:IntKind) (x y:Int) (c:BoundsCode):pr P (boundsPanic k x y c:Sem α)=none:=by
 unfold boundsPanic
 dsimp only
 rw[Zgm]
 simp only[pr_bind]
 have:∀o:Option Bool,(o.bind λs=>pr P (runtimePanic (.bounds (IntKind.i64.wrap x) y s c):Sem α))=none:=by
  intro o
  cases o with
  |none=>rfl
  |some b=>exact pr_rtB (P:=P) (IntKind.i64.wrap x) y b c
 split
 ·exact this _
 ·exact this _
theorem Zkd (k:IntKind) (x:Int) (top:Nat) (f:BoundsCode):pr P (Instr.sliceBound (.int k x) top f)=if 0<=x/\x<=top then some x.toNat else none:=by
 unfold Instr.sliceBound
 simp only[asIntOf,pr_bind,ZaO,Option.bind_some,Zgm,Zhn]
def Zev (s:ByteArray) (i:Nat):Nat:=(s.data.toList.getD i 0).toNat
section
variable {t:TypeId} (ht:P.underlying t=some .string) (s:ByteArray) (i lo hi:Int) (k k':IntKind)
include ht
@[simp] theorem index_str:Zdq P t (.val (.string s)) (.val (.int k i))=if 0<=i/\i<s.size then some (.val (.int .u8 (Zev s i.toNat))) else none:=by
 have hu:=Zz (P:=P) ht
 by_cases h0:0<=i
 ·by_cases h1:i<s.size
  ·have hlt:i.toNat<s.size:=by omega
   have hg:s[i.toNat]? =some (s[i.toNat]'hlt):=getElem?_pos s i.toNat hlt
   have hb:Zev s i.toNat=(s[i.toNat]'hlt).toNat:=by
    have hl:i.toNat<s.data.toList.length:=by simpa using hlt
    unfold Zev
    rw[List.getD_eq_getElem?_getD,List.getElem?_eq_getElem hl]
    rfl
   rw[if_pos ⟨h0,h1⟩,hb]
   simp only[Zdq,conc,Instr.index,asIntOf,pr_bind,ZaO,Option.bind_some,hu,if_pos h0,hg,Option.map_some,ofV,Zaj]
  ·rw[if_neg (by omega)]
   have hg:s[i.toNat]? =none:=getElem?_neg s i.toNat (show¬i.toNat<s.size by omega)
   simp only[Zdq,conc,Instr.index,asIntOf,pr_bind,ZaO,Option.bind_some,hu,if_pos h0,hg,Zhn,Option.map_none]
 ·rw[if_neg (by omega)]
  simp only[Zdq,conc,Instr.index,asIntOf,pr_bind,ZaO,Option.bind_some,hu,if_neg h0,Zhn,Option.map_none]
@[simp] theorem slice_from:Zca P t (.val (.string s)) (some (.val (.int k lo))) none none=if 0<=lo/\lo<=s.size then some (.val (.string (s.extract lo.toNat s.size))) else none:=by
 have hu:=Zz (P:=P) ht
 simp only[Zca,conc,ZkP,Option.map_some,Option.bind_some,Instr.sliceAt,Instr.slice,Instr.sliceBounds,pr_bind,ZaO,hu,Option.isSome_none,Bool.false_eq_true,if_false,Zkd]
 by_cases h:0<=lo/\lo<=s.size
 ·simp[h,ofV,Zaj]
 ·simp[h]
@[simp] theorem slice_to:Zca P t (.val (.string s)) none (some (.val (.int k hi))) none=if 0<=hi/\hi<=s.size then some (.val (.string (s.extract 0 hi.toNat))) else none:=by
 have hu:=Zz (P:=P) ht
 simp only[Zca,conc,ZkP,Option.map_some,Option.bind_some,Instr.sliceAt,Instr.slice,Instr.sliceBounds,pr_bind,ZaO,hu,Option.isSome_none,Bool.false_eq_true,if_false,Zkd]
 by_cases h:0<=hi/\hi<=s.size
 ·simp[h,ofV,Zaj]
 ·simp[h]
@[simp] theorem slice_both:Zca P t (.val (.string s)) (some (.val (.int k lo))) (some (.val (.int k' hi))) none=if(0<=hi/\hi<=s.size)/\0<=lo/\lo<=hi then some (.val (.string (s.extract lo.toNat hi.toNat))) else none:=by
 have hu:=Zz (P:=P) ht
 simp only[Zca,conc,ZkP,Option.map_some,Option.bind_some,Instr.sliceAt,Instr.slice,Instr.sliceBounds,pr_bind,ZaO,hu,Option.isSome_none,Bool.false_eq_true,if_false,Zkd]
 by_cases h:0<=hi/\hi<=s.size
 ·have e:max hi 0=hi:=by omega
  by_cases h2:0<=lo/\lo<=hi
  ·simp[h,e,h2,ofV,Zaj]
  ·have e2:¬(0<=lo/\lo<=(hi.toNat:Int)):=by omega
   have e3:¬((0<=hi/\hi<=(s.size:Int))/\0<=lo/\lo<=hi):=by omega
   rw[if_pos h,if_neg e3]
   simp only[Option.bind_some]
   rw[if_neg e2]
   rfl
 ·simp[h]
end
def Zac (x y:ByteArray):Bool:=Op.bytesLess x.toList y.toList
section
variable (t:TypeId) (ox oy:Operand) (x y:ByteArray)
@[simp] theorem bins_lss:abin P .lss t ox oy (.val (.string x)) (.val (.string y))=some (.val (.bool (Zac x y))):=by simp[abin,conc,eqGuard,binOp,Op.stringOp,ofV,Zaj,Zac]
@[simp] theorem bins_geq:abin P .geq t ox oy (.val (.string x)) (.val (.string y))=some (.val (.bool (!Zac x y))):=by simp[abin,conc,eqGuard,binOp,Op.stringOp,ofV,Zaj,Zac]
@[simp] theorem bins_leq:abin P .leq t ox oy (.val (.string x)) (.val (.string y))=some (.val (.bool (Zac x y||decide (x=y)))):=by rw[<-ZjT];simp[abin,conc,eqGuard,binOp,Op.stringOp,ofV,Zaj,Zac]
@[simp] theorem bins_gtr:abin P .gtr t ox oy (.val (.string x)) (.val (.string y))=some (.val (.bool (!(Zac x y||decide (x=y))))):=by rw[<-ZjT];simp[abin,conc,eqGuard,binOp,Op.stringOp,ofV,Zaj,Zac]
end
section
variable {k:IntKind} {a b:Int} (hk:k= .u8\/k= .u32\/k= .u64) (ha0:0<=a) (ha:a<(2^k.bits:Nat)) (hb0:0<=b) (hb:b<(2^k.bits:Nat))
include hk ha0 ha hb0 hb
end
@[simp] theorem fdiv_nat (n k:Nat):(n:Int).fdiv (no_index (@OfNat.ofNat Int k instOfNat))=((n/(@OfNat.ofNat Nat k (instOfNatNat k)):Nat):Int):=by
 show(n:Int).fdiv ((k:Nat):Int)=((n/k:Nat):Int)
 rw[Int.fdiv_eq_ediv_of_nonneg _ (Int.natCast_nonneg _)];rfl
section
variable (t:TypeId) (ox oy:Operand) (k k':IntKind) (a b:Int)
@[simp] theorem bin_quo:abin P .quo t ox oy (.val (.int k a)) (.val (.int k b))=if b=0 then none else some (.val (.int k (k.wrap (a.tdiv b)))):=by
 simp only[abin,conc,eqGuard,binOp,Op.intDiv,pr_bind,ZaO,Option.bind_some,Zgm,ZwR]
 by_cases h:b=0<;>simp[h,ofV,Zaj]
@[simp] theorem bin_rem:abin P .rem t ox oy (.val (.int k a)) (.val (.int k b))=if b=0 then none else some (.val (.int k (a.tmod b))):=by
 simp only[abin,conc,eqGuard,binOp,Op.intDiv,pr_bind,ZaO,Option.bind_some,Zgm,ZwR]
 by_cases h:b=0<;>simp[h,ofV,Zaj]
@[simp] theorem bins_plus (x y:ByteArray):abin P .add t ox oy (.val (.string x)) (.val (.string y))=if x.size+y.size<=9223372036854775807 then some (.val (.string (x++y))) else none:=by
 by_cases h:x.size+y.size<=9223372036854775807
 ·rw[if_pos h];exact Zws t ox oy (by omega)
 ·have h1:((9223372036854775807:Int)<(x.size:Int)+(y.size:Int)):=by omega
  rw[if_neg h]
  simp[abin,conc,eqGuard,binOp,Op.stringOp,Zgm,h1]
  rfl
@[simp] theorem tdiv_nat (n k:Nat):(n:Int).tdiv (no_index (@OfNat.ofNat Int k instOfNat))=((n/(@OfNat.ofNat Nat k (instOfNatNat k)):Nat):Int):=by
 show(n:Int).tdiv ((k:Nat):Int)=((n/k:Nat):Int)
 rfl
@[simp] theorem tmod_nat (n k:Nat):(n:Int).tmod (no_index (@OfNat.ofNat Int k instOfNat))=((n%(@OfNat.ofNat Nat k (instOfNatNat k)):Nat):Int):=by
 show(n:Int).tmod ((k:Nat):Int)=((n%k:Nat):Int)
 rfl
@[simp] theorem bin_shl:abin P .shl t ox oy (.val (.int k a)) (.val (.int k' b))=if b<0 then none else some (.val (.int k (k.wrap (a*2^min b.toNat k.bits)))):=by
 simp only[abin,conc,eqGuard,binOp,Op.shift,pr_bind,ZaO,Option.bind_some,Zgm,ZwR]
 by_cases h:b<0<;>simp[h,ofV,Zaj]
@[simp] theorem bin_shr:abin P .shr t ox oy (.val (.int k a)) (.val (.int k' b))=if b<0 then none else some (.val (.int k (a.fdiv (2^min b.toNat k.bits)))):=by
 simp only[abin,conc,eqGuard,binOp,Op.shift,pr_bind,ZaO,Option.bind_some,Zgm,ZwR]
 by_cases h:b<0<;>simp[h,ofV,Zaj]
end
section
variable {src dst:TypeId} {k':IntKind} (hs:(P.underlying src).isSome=true) (hd:P.underlying dst=some (.int k')) (k:IntKind) (a:Int)
include hs hd
@[simp] theorem conv_int:Zgy P src dst (.val (.int k a))=some (.val (.int k' (k'.wrap a))):=by
 obtain⟨u,hs⟩:=Option.isSome_iff_exists.1 hs
 simp only[Zgy,conc,convert,pr_bind,Zz hs,Zz hd,Option.bind_some,Conv.intToInt,ZaO,Option.map_some,ofV,Zaj]
end
@[simp] theorem wrap_u8 (a:Int):IntKind.u8.wrap a=a%256:=by
 simp[IntKind.wrap,IntKind.bits,IntKind.signed]
@[simp] theorem wrap_u64 (a:Int):IntKind.u64.wrap a=a%18446744073709551616:=by
 simp[IntKind.wrap,IntKind.bits,IntKind.signed]
@[simp] theorem wrap_u32 (a:Int):IntKind.u32.wrap a=a%4294967296:=by
 simp[IntKind.wrap,IntKind.bits,IntKind.signed]
@[simp] theorem wrap_l0:IntKind.i64.wrap 0=0:=by decide
@[simp] theorem wrap_l1:IntKind.i64.wrap 1=1:=by decide
@[simp] theorem wrap_l2:IntKind.i64.wrap 2=2:=by decide
@[simp] theorem wrap_l3:IntKind.i64.wrap 3=3:=by decide
@[simp] theorem wrap_l4:IntKind.i64.wrap 4=4:=by decide
@[simp] theorem wrap_l5:IntKind.i64.wrap 5=5:=by decide
@[simp] theorem wrap_l6:IntKind.i64.wrap 6=6:=by decide
@[simp] theorem wrap_l7:IntKind.i64.wrap 7=7:=by decide
@[simp] theorem wrap_l8:IntKind.i64.wrap 8=8:=by decide
@[simp] theorem wrap_l9:IntKind.i64.wrap 9=9:=by decide
@[simp] theorem wrap_l10:IntKind.i64.wrap 10=10:=by decide
@[simp] theorem wrap_l11:IntKind.i64.wrap 11=11:=by decide
@[simp] theorem wrap_l12:IntKind.i64.wrap 12=12:=by decide
@[simp] theorem wrap_l13:IntKind.i64.wrap 13=13:=by decide
@[simp] theorem wrap_l14:IntKind.i64.wrap 14=14:=by decide
@[simp] theorem wrap_l15:IntKind.i64.wrap 15=15:=by decide
@[simp] theorem wrap_l16:IntKind.i64.wrap 16=16:=by decide
@[simp] theorem wrap_l17:IntKind.i64.wrap 17=17:=by decide
@[simp] theorem wrap_l18:IntKind.i64.wrap 18=18:=by decide
@[simp] theorem wrap_l19:IntKind.i64.wrap 19=19:=by decide
@[simp] theorem wrap_l20:IntKind.i64.wrap 20=20:=by decide
@[simp] theorem wrap_l21:IntKind.i64.wrap 21=21:=by decide
@[simp] theorem wrap_l22:IntKind.i64.wrap 22=22:=by decide
@[simp] theorem wrap_l23:IntKind.i64.wrap 23=23:=by decide
@[simp] theorem wrap_l24:IntKind.i64.wrap 24=24:=by decide
@[simp] theorem wrap_l25:IntKind.i64.wrap 25=25:=by decide
@[simp] theorem wrap_l26:IntKind.i64.wrap 26=26:=by decide
@[simp] theorem wrap_l27:IntKind.i64.wrap 27=27:=by decide
@[simp] theorem wrap_l28:IntKind.i64.wrap 28=28:=by decide
@[simp] theorem wrap_l29:IntKind.i64.wrap 29=29:=by decide
@[simp] theorem wrap_l30:IntKind.i64.wrap 30=30:=by decide
@[simp] theorem wrap_l31:IntKind.i64.wrap 31=31:=by decide
@[simp] theorem wrap_l32:IntKind.i64.wrap 32=32:=by decide
@[simp] theorem wrap_l33:IntKind.i64.wrap 33=33:=by decide
@[simp] theorem wrap_l34:IntKind.i64.wrap 34=34:=by decide
@[simp] theorem wrap_l35:IntKind.i64.wrap 35=35:=by decide
@[simp] theorem wrap_l36:IntKind.i64.wrap 36=36:=by decide
@[simp] theorem wrap_l37:IntKind.i64.wrap 37=37:=by decide
@[simp] theorem wrap_l38:IntKind.i64.wrap 38=38:=by decide
@[simp] theorem wrap_l39:IntKind.i64.wrap 39=39:=by decide
@[simp] theorem wrap_l40:IntKind.i64.wrap 40=40:=by decide
@[simp] theorem wrap_lm1:IntKind.i64.wrap (-1)= -1:=by decide
@[simp] theorem bits_u64:IntKind.u64.bits=64/\IntKind.u32.bits=32/\IntKind.u8.bits=8/\IntKind.i64.bits=64:=⟨rfl,rfl,rfl,rfl⟩
@[simp] theorem cast_eq_lit (n k:Nat):((n:Int)=(no_index (@OfNat.ofNat Int k instOfNat)))=(n= @OfNat.ofNat Nat k (instOfNatNat k)):=propext Int.ofNat_inj
@[simp] theorem lit_eq_cast (n k:Nat):((no_index (@OfNat.ofNat Int k instOfNat))=(n:Int))=(@OfNat.ofNat Nat k (instOfNatNat k)=n):=propext Int.ofNat_inj
end Go.Cx
set_option linter.unusedVariables false
set_option linter.unusedSimpArgs false
namespace Go.Cx
variable {P:Program}
theorem Zb.ofCalls {f:FuncId} {args:List AV} {c:Value} (ha:args.all neat=true) (hc:plain c=true) (he:Ent P f)
  (h:∀(Z:Nat->Prop) (w:World) (cargs:List Value),(∀b,Z b->b<w.heap.size)->Rs Z w (λ_=> .hole) args cargs->Calls P f cargs.toArray w λe w'=>e= .returned c/\RowKit.Below w.heap.size w w'):Zb P f args (.val c):=by
 refine⟨ha,by simp,he,λZ κ w cargs r hr=> ?_⟩
 have hr':Rs Z w (λ_=> .hole) args cargs:=hr.noRef_any λa h1=>ZB a (List.all_eq_true.1 ha a h1)
 refine(h Z w cargs r.zlt hr').mono ?_
 rintro e w' ⟨rfl,b⟩
 have ex:Ext Z κ w Z κ w':=⟨b.os,b.tape,b.output,b.size,λk hk _=>b.block k hk,λ_ h=>h,λ_ h=> .inl h,λ_ h=> .inl h⟩
 refine⟨.val c,[],Z,κ,c,⟨rfl,rfl⟩,rfl,⟨λb hb=>Nat.lt_of_lt_of_le (r.zlt b hb) ex.size,r.za,r.hole,λid x hx=>by simp at hx,r.inj⟩,.val hc,ex,.refl _ _⟩
theorem R.sl_inv {Z:Nat->Prop} {w:World} {κ:Nat->Slot} {t:Bool} {n:Nat} {cs:List AV} {c:Value} (h:R Z w κ (.sl t n cs) c):
  (n=0/\cs=[]/\∃A cap,c= .slice A 0 cap)\/(0<n/\∃a cap us,c= .slice (some a) n cap/\n<=cap/\cap<=maxLen/\Z a.block/\ZaF w a us/\Rs Z w κ cs us):=by
 cases h with
 |sl0 q1 q2=>exact .inl ⟨rfl,rfl,_,_,rfl⟩
 |sl q0 q1 q2 q3 q4 q5 q6=>exact .inr ⟨q0,_,_,_,rfl,q1,q3,q4,q5,q6⟩
theorem Zlg {w:World} {A:Addr} {v:Value} (h:w.cell? A=some v):A.spot=none:=by
 unfold World.cell? at h
 split at h
 ·split at h
  ·cases h
  ·rename_i hs;simpa using hs
 ·cases h
end Go.Cx
set_option linter.unusedVariables false
set_option linter.unusedSimpArgs false
namespace Go.Cx
variable {P:Program} {Z:Nat->Prop} {κ:Nat->Slot} {h:Za} {w:World}
def ren (ρ:Nat->Nat):AV->AV
 | .val v=> .val v
 | .any=> .any
 | .agg cs=> .agg (cs.attach.map λ⟨c,_⟩=>ren ρ c)
 | .tup cs=> .tup (cs.attach.map λ⟨c,_⟩=>ren ρ c)
 | .sl t n cs=> .sl t n (cs.attach.map λ⟨c,_⟩=>ren ρ c)
 | .fp cs=> .fp (cs.attach.map λ⟨c,_⟩=>ren ρ c)
 | .fn f cs=> .fn f (cs.attach.map λ⟨c,_⟩=>ren ρ c)
 | .fmap ks vs=> .fmap (ks.attach.map λ⟨c,_⟩=>ren ρ c) (vs.attach.map λ⟨c,_⟩=>ren ρ c)
 | .own id ver off n k=> .own (ρ id) ver off n k
 | .ptr id ver off=> .ptr (ρ id) ver off
 | .mp id=> .mp (ρ id)
theorem ZaD {α β:Type} (l:List α) (f:α->β):(l.attach.map λ⟨c,_⟩=>f c)=l.map f:=by
 have:(l.attach.map λx=>f x.1)=(l.attach.map (·.1)).map f:=by rw[List.map_map];rfl
 rw[this,List.attach_map_subtype_val]
section
variable (ρ:Nat->Nat)
@[simp] theorem ZtF (v:Value):ren ρ (.val v)= .val v:=by rw[ren]
@[simp] theorem ren_any:ren ρ .any= .any:=by rw[ren]
@[simp] theorem ZmT (cs:List AV):ren ρ (.agg cs)= .agg (cs.map (ren ρ)):=by rw[ren,ZaD]
@[simp] theorem ZmU (cs:List AV):ren ρ (.tup cs)= .tup (cs.map (ren ρ)):=by rw[ren,ZaD]
@[simp] theorem ZoJ (t:Bool) (n:Nat) (cs:List AV):ren ρ (.sl t n cs)= .sl t n (cs.map (ren ρ)):=by rw[ren,ZaD]
@[simp] theorem ZtG (cs:List AV):ren ρ (.fp cs)= .fp (cs.map (ren ρ)):=by rw[ren,ZaD]
@[simp] theorem ZtH (f:FuncId) (cs:List AV):ren ρ (.fn f cs)= .fn f (cs.map (ren ρ)):=by rw[ren,ZaD]
@[simp] theorem Zke (ks vs:List AV):ren ρ (.fmap ks vs)= .fmap (ks.map (ren ρ)) (vs.map (ren ρ)):=by rw[ren,ZaD,ZaD]
@[simp] theorem ZtI (id ver off n k:Nat):ren ρ (.own id ver off n k)= .own (ρ id) ver off n k:=by rw[ren]
@[simp] theorem ZtJ (id ver off:Nat):ren ρ (.ptr id ver off)= .ptr (ρ id) ver off:=by rw[ren]
@[simp] theorem ren_mp (id:Nat):ren ρ (.mp id)= .mp (ρ id):=by rw[ren]
mutual
theorem Zlh:∀a:AV,neat a=true->ren ρ a=a
 | .val _,_=>by simp
 | .any,_=>by simp
 | .agg cs,h=>by rw[Zfc] at h;rw[ZmT,ZaV cs h]
 | .tup cs,h=>by rw[ZgD] at h;rw[ZmU,ZaV cs h]
 | .sl t n cs,h=>by rw[ZeC,Bool.and_eq_true] at h;rw[ZoJ,ZaV cs h.2]
 | .fp cs,h=>by rw[ZmM] at h;rw[ZtG,ZaV cs h]
 | .fn f cs,h=>by rw[Zhh] at h;rw[ZtH,ZaV cs h]
 | .fmap ks vs,h=>by rw[Zhi,Bool.and_eq_true] at h;rw[Zke,ZaV ks h.1,ZaV vs h.2]
 | .own ..,h=>by simp at h
 | .ptr ..,h=>by simp at h
 | .mp ..,h=>by simp at h
theorem ZaV:∀cs:List AV,cs.all neat=true->cs.map (ren ρ)=cs
 |[],_=>rfl
 |a::cs,h=>by
  rw[List.all_cons,Bool.and_eq_true] at h
  rw[List.map_cons,Zlh a h.1,ZaV cs h.2]
end
end
@[simp] theorem ren_neat {ρ:Nat->Nat} {a:AV} (h:neat a=true):ren ρ a=a:=Zlh ρ a h
@[simp] theorem ren_neats {ρ:Nat->Nat} {cs:List AV} (h:cs.all neat=true):cs.map (ren ρ)=cs:=ZaV ρ cs h
@[simp] theorem refsLt_val (L:Nat) (v:Value):refsLt L (.val v)=true:=by rw[refsLt]
@[simp] theorem refsLt_any (L:Nat):refsLt L .any=true:=by rw[refsLt]
@[simp] theorem refsLt_tup (L:Nat) (cs:List AV):refsLt L (.tup cs)=cs.all (refsLt L):=by rw[refsLt,Zl]
@[simp] theorem refsLt_fp (L:Nat) (cs:List AV):refsLt L (.fp cs)=cs.all (refsLt L):=by rw[refsLt,Zl]
@[simp] theorem Zho (L:Nat) (ks vs:List AV):refsLt L (.fmap ks vs)=(ks.all (refsLt L)&&vs.all (refsLt L)):=by rw[refsLt,Zl,Zl]
theorem ZdQ {κ κ':Nat->Slot} {id id' ver:Nat} {p:Option Nat->Nat->Prop} (hk:κ' id'=κ id) (h:ZV κ id ver p):ZV κ' id' ver p:=by
 unfold ZV at*;rw[hk];exact h
mutual
theorem R.ren {κ0:Nat->Slot} {ρ:Nat->Nat} {k:Nat} (hk:∀i,i<k->κ (ρ i)=κ0 i) {a:AV} {v:Value} (hr:R Z w κ0 a v) (hl:refsLt k a=true):R Z w κ (Cx.ren ρ a) v:=by
 cases hr with
 |val h=>rw[ZtF];exact .val h
 |any=>rw[ren_any];exact .any
 |agg h=>rw[ZmT];exact .agg (h.ren hk (by simpa using hl))
 |tup h=>rw[ZmU];exact .tup (h.ren hk (by simpa using hl))
 |sl0 h1 h2=>rw[ZoJ];exact .sl0 h1 h2
 |sl h0 h1 h2 h3 h4 h5 h6=>rw[ZoJ];exact .sl h0 h1 h2 h3 h4 h5 (h6.ren hk (by simpa using hl))
 |fp h1 h2 h3=>rw[ZtG];exact .fp h1 h2 (h3.ren hk (by simpa using hl))
 |fn h=>rw[ZtH];exact .fn (h.ren hk (by simpa using hl))
 |fmap h1 h2 h3 h4 h5 h6=>
  rw[Zho,Bool.and_eq_true] at hl
  rw[Zke]
  exact .fmap h1 h2 h3 h4 (h5.ren hk hl.1) (h6.ren hk hl.2)
 |own h0 h1 hA h2=>rw[ZtI];rw[ZiK,decide_eq_true_eq] at hl;exact .own h0 h1 hA (ZdQ (hk _ hl) h2)
 |ptr h2=>rw[ZtJ];rw[ZiJ,decide_eq_true_eq] at hl;exact .ptr (ZdQ (hk _ hl) h2)
 |mp h2=>rw[ren_mp];rw[Zle,decide_eq_true_eq] at hl;exact .mp (ZdQ (hk _ hl) h2)
theorem Rs.ren {κ0:Nat->Slot} {ρ:Nat->Nat} {k:Nat} (hk:∀i,i<k->κ (ρ i)=κ0 i) {as:List AV} {vs:List Value} (hr:Rs Z w κ0 as vs) (hl:as.all (refsLt k)=true):Rs Z w κ (as.map (Cx.ren ρ)) vs:=by
 cases hr with
 |nil=>exact .nil
 |cons h1 h2=>rw[List.all_cons,Bool.and_eq_true] at hl;exact .cons (h1.ren hk hl.1) (h2.ren hk hl.2)
end
mutual
theorem R.unren {κ0:Nat->Slot} {ρ:Nat->Nat} {k:Nat} (hk:∀i,i<k->κ0 i=κ (ρ i)):∀(a:AV) {v:Value},R Z w κ (Cx.ren ρ a) v->refsLt k a=true->R Z w κ0 a v
 | .val u,v,hr,hl=>by rw[ZtF] at hr;cases hr with|val h=>exact .val h
 | .any,v,hr,hl=> .any
 | .agg cs,v,hr,hl=>by rw[ZmT] at hr;cases hr with|agg h=>exact .agg (Rs.unren hk cs h (by simpa using hl))
 | .tup cs,v,hr,hl=>by rw[ZmU] at hr;cases hr with|tup h=>exact .tup (Rs.unren hk cs h (by simpa using hl))
 | .sl t n cs,v,hr,hl=>by
  rw[ZoJ] at hr
  generalize hcs:cs.map (Cx.ren ρ)=ds at hr
  cases hr with
  |sl0 h1 h2=>
   have:cs=[]:=by cases cs<;>simp at hcs;rfl
   subst this
   exact .sl0 h1 h2
  |sl h0 h1 h2 h3 h4 h5 h6=>subst hcs;exact .sl h0 h1 h2 h3 h4 h5 (Rs.unren hk cs h6 (by simpa using hl))
 | .fp cs,v,hr,hl=>by rw[ZtG] at hr;cases hr with|fp h1 h2 h3=>exact .fp h1 h2 (Rs.unren hk cs h3 (by simpa using hl))
 | .fn f cs,v,hr,hl=>by rw[ZtH] at hr;cases hr with|fn h=>exact .fn (Rs.unren hk cs h (by simpa using hl))
 | .fmap ks vs,v,hr,hl=>by
  rw[Zke] at hr
  rw[Zho,Bool.and_eq_true] at hl
  cases hr with|fmap h1 h2 h3 h4 h5 h6=>exact .fmap h1 h2 h3 h4 (Rs.unren hk ks h5 hl.1) (Rs.unren hk vs h6 hl.2)
 | .own id ver off n m,v,hr,hl=>by
  rw[ZtI] at hr;rw[ZiK,decide_eq_true_eq] at hl
  cases hr with|own h0 h1 hA h2=>exact .own h0 h1 hA (ZdQ (hk _ hl) h2)
 | .ptr id ver off,v,hr,hl=>by
  rw[ZtJ] at hr;rw[ZiJ,decide_eq_true_eq] at hl
  cases hr with|ptr h2=>exact .ptr (ZdQ (hk _ hl) h2)
 | .mp id,v,hr,hl=>by
  rw[ren_mp] at hr;rw[Zle,decide_eq_true_eq] at hl
  cases hr with|mp h2=>exact .mp (ZdQ (hk _ hl) h2)
theorem Rs.unren {κ0:Nat->Slot} {ρ:Nat->Nat} {k:Nat} (hk:∀i,i<k->κ0 i=κ (ρ i)):∀(as:List AV) {vs:List Value},Rs Z w κ (as.map (Cx.ren ρ)) vs->as.all (refsLt k)=true->Rs Z w κ0 as vs
 |[],_,hr,_=>by cases hr;exact .nil
 |a::as,_,hr,hl=>by
  rw[List.all_cons,Bool.and_eq_true] at hl
  cases hr with
  |cons h1 h2=>exact .cons (R.unren hk a h1 hl.1) (Rs.unren hk as h2 hl.2)
end
def renB (ρ:Nat->Nat):ABlk->ABlk
 | .dead=> .dead
 | .cells ver cs=> .cells ver (cs.map (ren ρ))
 | .full ver cs=> .full ver (cs.map (ren ρ))
 | .typed E ver cs=> .typed E ver (cs.map (ren ρ))
 | .map ks vs=> .map (ks.map (ren ρ)) (vs.map (ren ρ))
 | .iter ks vs todo cur=> .iter (ks.map (ren ρ)) (vs.map (ren ρ)) todo cur
theorem Zhp {κ0:Nat->Slot} {ρ:Nat->Nat} {k i:Nat} (hi:i<k) (hk:∀i,i<k->κ (ρ i)=κ0 i) {x:ABlk} (hx:ZaM Z w κ0 i x) (hl:x.refsLt k=true):ZaM Z w κ (ρ i) (renB ρ x):=by
 cases x with
 |dead=>simp only[ZaM,renB] at*;rw[hk i hi];exact hx
 |cells ver cs=>
  obtain⟨ob,sz,h1,h2⟩:=hx
  refine⟨ob,sz,(hk i hi).trans h1,?_⟩
  cases ob with
  |none=>subst h2;rfl
  |some b=>
   obtain⟨c,E,us,h3,h4,h5,h6,h7⟩:=h2
   exact⟨c,E,us,h3,h4,h5,h6,h7.ren hk hl⟩
 |full ver cs=>
  obtain⟨b,c,E,h1,h2,h3,h4⟩:=hx
  exact⟨b,c,E,(hk i hi).trans h1,h2,h3.ren hk hl,h4⟩
 |typed E ver cs=>
  obtain⟨ob,sz,h1,h2⟩:=hx
  refine⟨ob,sz,(hk i hi).trans h1,?_⟩
  cases ob with
  |none=>subst h2;rfl
  |some b=>
   obtain⟨c,us,h3,h4,h5,h6,h7⟩:=h2
   exact⟨c,us,h3,h4,h5,h6,h7.ren hk hl⟩
 |map ks vs=>
  obtain⟨b,es,cl,h1,h2,h3,h4⟩:=hx
  simp only[ABlk.refsLt,Bool.and_eq_true] at hl
  exact⟨b,es,cl,(hk i hi).trans h1,h2,h3.ren hk hl.1,h4.ren hk hl.2⟩
 |iter ks vs todo cur=>
  obtain⟨b,mb,es,cl,sn,la,h1,h2,h3,h4,h5,h6,h7⟩:=hx
  simp only[ABlk.refsLt,Bool.and_eq_true] at hl
  exact⟨b,mb,es,cl,sn,la,(hk i hi).trans h1,h2,h3,h4,h5.ren hk hl.1,h6.ren hk hl.2,h7⟩
theorem Zhq {κ0:Nat->Slot} {ρ:Nat->Nat} {k i:Nat} (hi:i<k) (hk:∀i,i<k->κ0 i=κ (ρ i)) {x:ABlk} (hx:ZaM Z w κ (ρ i) (renB ρ x)) (hl:x.refsLt k=true):ZaM Z w κ0 i x:=by
 cases x with
 |dead=>simp only[ZaM,renB] at*;rw[hk i hi];exact hx
 |cells ver cs=>
  obtain⟨ob,sz,h1,h2⟩:=hx
  refine⟨ob,sz,(hk i hi).trans h1,?_⟩
  cases ob with
  |none=>cases cs<;>simp at h2;rfl
  |some b=>
   obtain⟨c,E,us,h3,h4,h5,h6,h7⟩:=h2
   exact⟨c,E,us,h3,h4,h5,h6,Rs.unren hk cs h7 hl⟩
 |full ver cs=>
  obtain⟨b,c,E,h1,h2,h3,h4⟩:=hx
  exact⟨b,c,E,(hk i hi).trans h1,h2,Rs.unren hk cs h3 hl,h4⟩
 |typed E ver cs=>
  obtain⟨ob,sz,h1,h2⟩:=hx
  refine⟨ob,sz,(hk i hi).trans h1,?_⟩
  cases ob with
  |none=>cases cs<;>simp at h2;rfl
  |some b=>
   obtain⟨c,us,h3,h4,h5,h6,h7⟩:=h2
   exact⟨c,us,h3,h4,h5,h6,Rs.unren hk cs h7 hl⟩
 |map ks vs=>
  obtain⟨b,es,cl,h1,h2,h3,h4⟩:=hx
  simp only[ABlk.refsLt,Bool.and_eq_true] at hl
  exact⟨b,es,cl,(hk i hi).trans h1,h2,Rs.unren hk ks h3 hl.1,Rs.unren hk vs h4 hl.2⟩
 |iter ks vs todo cur=>
  obtain⟨b,mb,es,cl,sn,la,h1,h2,h3,h4,h5,h6,h7⟩:=hx
  simp only[ABlk.refsLt,Bool.and_eq_true] at hl
  exact⟨b,mb,es,cl,sn,la,(hk i hi).trans h1,h2,h3,h4,Rs.unren hk ks h5 hl.1,Rs.unren hk vs h6 hl.2,h7⟩
structure Zeq (P:Program) (f:FuncId) (args:List AV) (h0:Za) (v:AV) (h1:Za):Prop where
 hargs:args.all (refsLt h0.length)=true
 heap:h0.all (ABlk.refsLt h0.length)=true
 val:refsLt h0.length v=true
 len:h1.length=h0.length
 heap1:h1.all (ABlk.refsLt h0.length)=true
 call:ZaX P f args h0 (λv' h'=>v'=v/\h'=h1)
def lay (ρ:Nat->Nat):Nat->Za->Za->Za
 |_,[],h=>h
 |i,x::xs,h=>lay ρ (i+1) xs (h.set (ρ i) (renB ρ x))
theorem ZmV (ρ:Nat->Nat):∀(xs:Za) (i:Nat) (h:Za),(lay ρ i xs h).length=h.length
 |[],_,_=>rfl
 |x::xs,i,h=>by rw[lay,ZmV ρ xs];simp
theorem Zkf (ρ:Nat->Nat):∀(xs:Za) (i:Nat) (h:Za) (j:Nat),(∀m,m<xs.length->ρ (i+m)≠j)->(lay ρ i xs h)[j]? =h[j]?
 |[],_,_,_,_=>rfl
 |x::xs,i,h,j,hj=>by
  rw[lay,Zkf ρ xs (i+1) _ j λm hm=>by have:=hj (m+1) (by simpa using hm);rwa[show i+(m+1)=i+1+m by omega] at this]
  rw[List.getElem?_set_ne]
  have:=hj 0 (by simp)
  simpa using this
theorem ZtK (ρ:Nat->Nat):∀(xs:Za) (i:Nat) (h:Za) (m:Nat),m<xs.length->(∀a b,a<xs.length->b<xs.length->ρ (i+a)=ρ (i+b)->a=b)->(∀a,a<xs.length->ρ (i+a)<h.length)->(lay ρ i xs h)[ρ (i+m)]? =xs[m]?.map (renB ρ)
 |[],_,_,m,hm,_,_=>by simp at hm
 |x::xs,i,h,0,hm,hinj,hlt=>by
  rw[lay,Zkf ρ xs (i+1) _ _ λa ha=>λe=>by
   have:=hinj (a+1) 0 (by simpa using ha) (by simp) (by rw[show i+(a+1)=i+1+a by omega];simpa using e)
   omega]
  have hl:=hlt 0 (by simp)
  rw[Nat.add_zero] at hl⊢
  rw[List.getElem?_set_self hl];rfl
 |x::xs,i,h,m+1,hm,hinj,hlt=>by
  rw[lay]
  have:=ZtK ρ xs (i+1) (h.set (ρ i) (renB ρ x)) m (by simpa using hm)
   (λa b ha hb e=>by
    have:=hinj (a+1) (b+1) (by simpa using ha) (by simpa using hb) (by rw[show i+(a+1)=i+1+a by omega,show i+(b+1)=i+1+b by omega];exact e)
    omega)
   (λa ha=>by
    have:=hlt (a+1) (by simpa using ha)
    rw[show i+(a+1)=i+1+a by omega] at this
    simpa using this)
  rw[show i+(m+1)=i+1+m by omega]
  simpa using this
theorem ZaX.reloc {f:FuncId} {args:List AV} {h0 h1:Za} {v:AV} (hc:Zeq P f args h0 v h1) (ρ:Nat->Nat) (hinj:∀i j,i<h0.length->j<h0.length->ρ i=ρ j->i=j)
  (hlt:∀i,i<h0.length->ρ i<h.length) (hb:∀i x,h0[i]? =some x->h[ρ i]? =some (renB ρ x)):ZaX P f (args.map (ren ρ)) h (λv' h'=>v'=ren ρ v/\h'=lay ρ 0 h1 h):=by
 obtain⟨ha,hh,hv,hlen,hh1,he,hcall⟩:=hc
 refine⟨he,λZ κ w cargs r hr=> ?_⟩
 let κ0:Nat->Slot:=λi=>if i<h0.length then κ (ρ i) else .hole
 have hk0:∀i,i<h0.length->κ0 i=κ (ρ i):=λi hi=>by simp[κ0,hi]
 have hal:∀b,ZT κ0 b->∃i ver sz,i<h0.length/\κ (ρ i)= .live ver (some b) sz:=by
  rintro b ⟨i,ver,sz,hk⟩
  by_cases hi:i<h0.length
  ·exact⟨i,ver,sz,hi,by rw[<-hk0 i hi];exact hk⟩
  ·simp[κ0,hi] at hk
 have hal':∀b,ZT κ0 b->ZT κ b:=λb hb=>by obtain⟨i,ver,sz,_,hk⟩:=hal b hb;exact⟨_,ver,sz,hk⟩
 have r0:Rel Z κ0 h0 w:=by
  refine⟨r.zlt,λb hz hb=>r.za b hz (hal' b hb),λi hi=>by simp[κ0,Nat.not_lt.2 hi],λi x hx=> ?_,?_⟩
  ·have hi:=(List.getElem?_eq_some_iff.1 hx).1
   exact Zhq hi hk0 (r.blk _ _ (hb i x hx)) (List.all_eq_true.1 hh x (List.mem_of_getElem? hx))
  ·intro i j ver ver' b sz sz' h1 h2
   by_cases hi:i<h0.length
   ·by_cases hj:j<h0.length
    ·rw[hk0 i hi] at h1;rw[hk0 j hj] at h2
     exact hinj i j hi hj (r.inj _ _ _ _ _ _ _ h1 h2)
    ·simp[κ0,hj] at h2
   ·simp[κ0,hi] at h1
 refine(hcall Z κ0 w cargs r0 (Rs.unren hk0 args hr ha)).mono ?_
 rintro e w' ⟨v',h',Z',κ0',c,⟨rfl,rfl⟩,rfl,r',hv',ex,st⟩
 have img:∀id,(∃i,i<h0.length/\ρ i=id)\/¬(∃i,i<h0.length/\ρ i=id):=λid=>Classical.em _
 let κ':Nat->Slot:=λid=>if hx:∃i,i<h0.length/\ρ i=id then κ0' (Classical.choose hx) else κ id
 have hin:∀i,i<h0.length->κ' (ρ i)=κ0' i:=by
  intro i hi
  have hx:∃j,j<h0.length/\ρ j=ρ i:=⟨i,hi,rfl⟩
  have hs:=Classical.choose_spec hx
  have:Classical.choose hx=i:=hinj _ _ hs.1 hi hs.2
  simp only[κ',dif_pos hx,this]
 have hout:∀id,¬(∃i,i<h0.length/\ρ i=id)->κ' id=κ id:=λid hx=>by simp only[κ',dif_neg hx]
 have hal2:∀b,ZT κ' b->ZT κ0' b\/∃id ver sz,¬(∃i,i<h0.length/\ρ i=id)/\κ id= .live ver (some b) sz:=by
  rintro b ⟨id,ver,sz,hk⟩
  rcases img id with⟨i,hi,rfl⟩|hx
  ·rw[hin i hi] at hk;exact .inl ⟨i,ver,sz,hk⟩
  ·rw[hout id hx] at hk;exact .inr ⟨id,ver,sz,hx,hk⟩
 have E:Ext Z κ w Z' κ' w':=by
  refine⟨ex.os,ex.tape,ex.output,ex.size,λb hbl hn=>ex.keep b hbl (λha=>hn (hal' b ha)),ex.zin,λb hz=> ?_,λb ha=> ?_⟩
  ·rcases ex.znew b hz with h1|h1|h1
   ·exact .inl h1
   ·exact .inr (.inl (hal' b h1))
   ·exact .inr (.inr h1)
  ·rcases hal2 b ha with h1|⟨id,ver,sz,_,h1⟩
   ·rcases ex.anew b h1 with h2|h2
    ·exact .inl (hal' b h2)
    ·exact .inr h2
   ·exact .inl ⟨id,ver,sz,h1⟩
 have S:Zq κ κ':=by
  intro id
  rcases img id with⟨i,hi,rfl⟩|hx
  ·right;rw[hin i hi,<-hk0 i hi];exact st i hi
  ·right;rw[hout id hx];exact Slot.step_refl _
 have apart:∀b id ver sz,¬(∃i,i<h0.length/\ρ i=id)->κ id= .live ver (some b) sz->¬ZT κ0 b:=by
  intro b id ver sz hx hk ha
  obtain⟨i,ver',sz',hi,hk'⟩:=hal b ha
  exact hx ⟨i,hi,r.inj _ _ _ _ _ _ _ hk' hk⟩
 have r2:Rel Z' κ' (lay ρ 0 h' h) w':=by
  refine⟨r'.zlt,λb hz ha=> ?_,λid hid=> ?_,λid x hx=> ?_,?_⟩
  ·rcases hal2 b ha with h1|⟨id,ver,sz,hx,hk⟩
   ·exact r'.za b hz h1
   ·rcases ex.znew b hz with h1|h1|h1
    ·exact r.za b h1 ⟨id,ver,sz,hk⟩
    ·exact apart b id ver sz hx hk h1
    ·have:=ZA r ⟨id,ver,sz,hk⟩;omega
  ·rw[ZmV] at hid
   have hx:¬(∃i,i<h0.length/\ρ i=id):=by
    rintro⟨i,hi,rfl⟩;have:=hlt i hi;omega
   rw[hout id hx];exact r.hole id hid
  ·rcases img id with⟨i,hi,rfl⟩|hn
   ·have hl:=ZtK ρ h' 0 h i (by omega) (λa b ha hb e=>hinj a b (by omega) (by omega) (by simpa using e)) (λa ha=>by have:=hlt a (by omega);simpa using this)
    rw[Nat.zero_add] at hl
    rw[hl] at hx
    obtain⟨y,hy,rfl⟩:=Option.map_eq_some_iff.1 hx
    exact Zhp hi hin (r'.blk i y hy) (List.all_eq_true.1 hh1 y (List.mem_of_getElem? hy))
   ·have hl:=Zkf ρ h' 0 h id (λm hm e=>hn ⟨m,by omega,by simpa using e⟩)
    rw[hl] at hx
    exact(r.blk id x hx).ext r E S (hout id hn) λver b sz hk=>ex.keep b (ZA r ⟨id,ver,sz,hk⟩) (apart b id ver sz hn hk)
  ·intro id id' ver ver' b sz sz' h1 h2
   rcases img id with⟨i,hi,rfl⟩|hn
   ·rw[hin i hi] at h1
    rcases img id' with⟨j,hj,rfl⟩|hn'
    ·rw[hin j hj] at h2
     rw[r'.inj _ _ _ _ _ _ _ h1 h2]
    ·rw[hout id' hn'] at h2
     rcases ex.anew b ⟨i,ver,sz,h1⟩ with h3|h3
     ·exact absurd h3 (apart b id' _ _ hn' h2)
     ·have:=ZA r ⟨id',_,_,h2⟩;omega
   ·rw[hout id hn] at h1
    rcases img id' with⟨j,hj,rfl⟩|hn'
    ·rw[hin j hj] at h2
     rcases ex.anew b ⟨j,ver',sz',h2⟩ with h3|h3
     ·exact absurd h3 (apart b id _ _ hn h1)
     ·have:=ZA r ⟨id,_,_,h1⟩;omega
    ·rw[hout id' hn'] at h2
     exact r.inj _ _ _ _ _ _ _ h1 h2
 exact⟨_,_,Z',κ',c,⟨rfl,rfl⟩,rfl,r2,hv'.ren hin hv,E,S.lt r (Nat.le_refl _)⟩
end Go.Cx
set_option linter.unusedVariables false
set_option linter.unusedSimpArgs false
namespace Go.Cx
variable {P:Program} {h:Za}
theorem Zeq.mk' {f:FuncId} {fn:Func} {c:Code} {rs:List ResultVar} {N:Nat} {args:List AV} {h0 h1:Za} {v:AV} (lit:TypeId->Bool) (hf:P.funcs[f]? =some fn) (hb:fn.body=some c) (hrs:fn.results.toList=rs) (hN:args.length+(fn.ntmps -args.length)=N) (he:Ent P f)
  (ha:args.all (refsLt h0.length)=true) (hh:h0.all (ABlk.refsLt h0.length)=true) (hv:refsLt h0.length v=true) (hl:h1.length=h0.length) (hh1:h1.all (ABlk.refsLt h0.length)=true)
  (hx:args.all fits=true->AX P lit h0.length c (ZfP P rs h0.length (λv' h'=>v'=v/\h'=h1)) ⟨N,Zbr args,h0⟩):Zeq P f args h0 v h1:=by
 refine⟨ha,hh,hv,hl,hh1,?_⟩
 by_cases hfit:args.all fits=true
 ·exact ZaX.intro lit hf hb hrs hN he (hx hfit)
 ·exact⟨he,λZ κ w cargs r hr=>absurd hr.fits hfit⟩
def retN (P:Program) (rs:List ResultVar) (n:Nat) (s:Zc):Option AV:=(rs.mapM (resA P s)).bind λvs=>frz s.h n 12 (resV vs)
theorem PostA_n (rs:List ResultVar) (n:Nat) (v:AV) (h1:Za) (e:Exit) (s:Zc):ZfP P rs n (λv' h'=>v'=v/\h'=h1) e s=(Zbs e=true/\retN P rs n s=some v/\(s.h.take n).all (ABlk.refsLt n)=true/\s.h.take n=h1):=by
 apply propext
 constructor
 ·rintro⟨he,vs,v',h1,h2,h3,rfl,rfl⟩
  exact⟨he,by simp only[retN,h1,Option.bind_some];exact h2,h3,rfl⟩
 ·rintro⟨he,h1,h2,h3⟩
  obtain⟨vs,hvs,hz⟩:=Option.bind_eq_some_iff.1 h1
  exact⟨he,vs,v,hvs,hz,h2,rfl,h3⟩
@[simp] theorem PostA_n1 (rs:List ResultVar) (v:AV) (h1:Za) (e:Exit) (s:Zc):ZfP P rs 1 (λv' h'=>v'=v/\h'=h1) e s=(Zbs e=true/\retN P rs 1 s=some v/\(s.h.take 1).all (ABlk.refsLt 1)=true/\s.h.take 1=h1):=PostA_n ..
@[simp] theorem PostA_n2 (rs:List ResultVar) (v:AV) (h1:Za) (e:Exit) (s:Zc):ZfP P rs 2 (λv' h'=>v'=v/\h'=h1) e s=(Zbs e=true/\retN P rs 2 s=some v/\(s.h.take 2).all (ABlk.refsLt 2)=true/\s.h.take 2=h1):=PostA_n ..
@[simp] theorem PostA_n3 (rs:List ResultVar) (v:AV) (h1:Za) (e:Exit) (s:Zc):ZfP P rs 3 (λv' h'=>v'=v/\h'=h1) e s=(Zbs e=true/\retN P rs 3 s=some v/\(s.h.take 3).all (ABlk.refsLt 3)=true/\s.h.take 3=h1):=PostA_n ..
section
variable (s:Zc) (n:Nat) (r r' r2:ResultVar)
@[simp] theorem retN_zero:retN P [] n s=frz s.h n 12 (.tup []):=by simp only[retN,List.mapM_nil];rfl
@[simp] theorem retN_one:retN P [r] n s=(resA P s r).bind λx=>frz s.h n 12 x:=by
 simp only[retN,List.mapM_cons,List.mapM_nil]
 cases resA P s r<;>rfl
@[simp] theorem retN_two:retN P [r,r'] n s=(resA P s r).bind λx=>(resA P s r').bind λy=>frz s.h n 12 (.tup [x,y]):=by
 simp only[retN,List.mapM_cons,List.mapM_nil]
 cases resA P s r<;>cases resA P s r'<;>rfl
end
def frzOwnN (h:Za) (n f ver off m k:Nat):Option ABlk->Option AV
 |some (.cells ver' cs)=>if ver=ver'/\(off+m)*k<=cs.length then(if m=0 then some (.sl false 0 []) else(frzs h n f ((cs.drop (off*k)).take (m*k))).map (.sl false m)) else none
 |_=>none
@[simp] theorem frz_ownN (n f id ver off m k:Nat):frz h (n+1) (f+1) (.own id ver off m k)=if id<n+1 then some (.own id ver off m k) else frzOwnN h (n+1) f ver off m k h[id]? :=by
 rw[frz]
 simp only[ZjS,Bool.false_eq_true,if_false]
 split
 ·rfl
 ·cases h[id]? with
  |none=>rfl
  |some b=>cases b<;>rfl
def atB (ρ:Nat->Nat) (h:Za):Nat->Za->Prop
 |_,[]=>True
 |i,x::xs=>h[ρ i]? =some (renB ρ x)/\atB ρ h (i+1) xs
theorem ZmW (ρ:Nat->Nat):∀(xs:Za) (i:Nat),atB ρ h i xs->∀m x,xs[m]? =some x->h[ρ (i+m)]? =some (renB ρ x)
 |[],_,_,m,x,hm=>by simp at hm
 |y::xs,i,⟨h1,h2⟩,0,x,hm=>by simp at hm;subst hm;exact h1
 |y::xs,i,⟨h1,h2⟩,m+1,x,hm=>by
  have:=ZmW ρ xs (i+1) h2 m x (by simpa using hm)
  rwa[show i+1+m=i+(m+1) by omega] at this
abbrev ρL (L:List Nat):Nat->Nat:=λi=>L.getD i 0
theorem ρL_inj {L:List Nat} (hn:L.Nodup):∀i j,i<L.length->j<L.length->ρL L i=ρL L j->i=j:=by
 intro i j hi hj e
 simp only[ρL,List.getD_eq_getElem?_getD,List.getElem?_eq_getElem hi,List.getElem?_eq_getElem hj,Option.getD_some] at e
 exact(List.getElem_inj hn).1 e
theorem Zeq.at {f:FuncId} {args args':List AV} {h0 h1:Za} {v:AV} (hc:Zeq P f args h0 v h1) (L:List Nat) (hn:L.Nodup) (hl:L.length=h0.length) (ha:args'=args.map (ren (ρL L))) (hb:atB (ρL L) h 0 h0):
  ZaX P f args' h (λv' h'=>v'=ren (ρL L) v/\h'=Cx.lay (ρL L) 0 h1 h):=by
 subst ha
 have hget:∀i x,h0[i]? =some x->h[ρL L i]? =some (renB (ρL L) x):=λi x hx=>by
  have:=ZmW (ρL L) h0 0 hb i x hx
  rwa[Nat.zero_add] at this
 exact ZaX.reloc hc (ρL L) (λi j hi hj=>ρL_inj hn i j (by omega) (by omega)) (λi hi=>(List.getElem?_eq_some_iff.1 (hget i h0[i] (by simp[hi]))).1) hget
theorem AInv.heap {f:FuncId} {cap args args0:List AV} {h0 h1:Za} {v:AV} {Q:AV->Za->Prop} (L:List Nat) (hc:Zeq P f args0 h0 v h1) (ha:args++cap=args0.map (ren (ρL L))) (hb:atB (ρL L) h 0 h0) (hq:Q (ren (ρL L) v) (Cx.lay (ρL L) 0 h1 h)) (hn:L.Nodup:=by decide) (hl:L.length=h0.length:=by rfl):AInv P (.fn f cap) args h Q:=
 .of ((hc.at L hn hl ha hb).mono λv' h' ⟨h1,h2⟩=>by rw[h1,h2];exact hq)
attribute [simp] atB Cx.lay renB
@[simp] theorem ρL_app (L:List Nat) (i:Nat):ρL L i=L.getD i 0:=rfl
def wk:AV->AV
 | .agg cs=> .agg (cs.attach.map λ⟨c,_⟩=>wk c)
 | .tup cs=> .tup (cs.attach.map λ⟨c,_⟩=>wk c)
 | .sl _ n cs=> .sl false n (cs.attach.map λ⟨c,_⟩=>wk c)
 |a=>a
@[simp] theorem wk_val (v:Value):wk (.val v)= .val v:=by rw[wk]<;>simp
@[simp] theorem wk_agg (cs:List AV):wk (.agg cs)= .agg (cs.map wk):=by rw[wk,ZaD]
@[simp] theorem wk_tup (cs:List AV):wk (.tup cs)= .tup (cs.map wk):=by rw[wk,ZaD]
@[simp] theorem wk_sl (t:Bool) (n:Nat) (cs:List AV):wk (.sl t n cs)= .sl false n (cs.map wk):=by rw[wk,ZaD]
theorem Wk.room (n:Nat) (s:Zc):Wk n s ⟨s.N,s.T,s.h++[.cells 0 []]⟩:=by
 intro Z κ a w r hn
 have hh:=r.rel.hole s.h.length (Nat.le_refl _)
 have hs:Zq κ (upd κ s.h.length (.live 0 none 0)):= .upd (.inl hh)
 have hal:∀b,ZT (upd κ s.h.length (.live 0 none 0)) b->ZT κ b:=by
  rintro b ⟨id,ver,sz,hk⟩
  by_cases hid:id=s.h.length
  ·subst hid;rw[Zk] at hk;cases hk
  ·rw[Zr _ _ hid] at hk;exact⟨id,ver,sz,hk⟩
 have e:Ext Z κ w Z (upd κ s.h.length (.live 0 none 0)) w:=⟨rfl,rfl,rfl,Nat.le_refl _,λ_ _ _=>rfl,λ_ h=>h,λ_ h=> .inl h,λb ha=> .inl (hal b ha)⟩
 refine⟨_,⟨⟨r.rel.zlt,λb hz ha=>r.rel.za b hz (hal b ha),λid hid=> ?_,λid x hx=> ?_,?_⟩,r.size,λj=>(r.tmps j).ext r.rel e hs,r.defers⟩,e,hs.lt r.rel hn,by simp;omega⟩
 ·simp at hid
  rw[Zr _ _ (by omega)];exact r.rel.hole id (by omega)
 ·by_cases hid:id=s.h.length
  ·subst hid
   simp at hx
   subst hx
   exact⟨none,0,Zk _ _ _,rfl⟩
  ·have hlt:id<s.h.length:=by
    have:=(List.getElem?_eq_some_iff.1 hx).1
    simp at this;omega
   rw[List.getElem?_append_left hlt] at hx
   exact(r.rel.blk id x hx).ext r.rel e hs (Zr _ _ hid) λ_ _ _ _=>rfl
 ·intro id id' ver ver' b sz sz' h1 h2
  by_cases hid:id=s.h.length
  ·subst hid;rw[Zk] at h1;cases h1
  ·by_cases hid':id'=s.h.length
   ·subst hid';rw[Zk] at h2;cases h2
   ·rw[Zr _ _ hid] at h1;rw[Zr _ _ hid'] at h2
    exact r.rel.inj _ _ _ _ _ _ _ h1 h2
theorem AW.room {n:Nat} {c:Code} {Q:Exit->Zc->Prop} {s:Zc} (hx:AW P n c Q ⟨s.N,s.T,s.h++[.cells 0 []]⟩):AW P n c Q s:=AW.wk (Wk.room n s) hx
end Go.Cx
set_option linter.unusedVariables false
set_option linter.unusedSimpArgs false
namespace Go.Cx
open Go.ChangeShapes Go.WideShapes
variable {P:Program} {W:World}
mutual
def blk {H:Type}:DataW H->Nat
 | .lit (.string bytes)=>bytes.length+1
 | .slice elems _=>blkAll elems+1
 | .agg parts=>blkAll parts+1
 |_=>1
def blkAll {H:Type}:List (DataW H)->Nat
 |[]=>0
 |d::r=>blk d+blkAll r
end
theorem Zfi {H:Type}:∀l r:List (DataW H),blkAll (l++r)=blkAll l+blkAll r
 |[],r=>by simp[blkAll]
 |d::l,r=>by rw[List.cons_append,blkAll,blkAll,Zfi l r];omega
def OpnB (P:Program) (W:World) (t:TypeId) (A:List AV->Nat->Prop):Prop:=
 ∀(H:Type) (enc:TypeId×Value->H) (fuel:Nat) (cs:List Value) (x:DataW H×List MemPlace),DataW.trod enc P W 0 (λ_=>true) true fuel t cs=some x->∃as,A as (blk x.1)/\Rs (Zw W) W noK as cs
theorem OpnB.mono {t:TypeId} {A B:List AV->Nat->Prop} (h:OpnB P W t A) (hab:∀as b,A as b->B as b):OpnB P W t B:=λH enc fuel cs x hx=>
 let⟨as,ha,hr⟩:=h H enc fuel cs x hx
 ⟨as,hab as _ ha,hr⟩
theorem Opn.b {t:TypeId} {A:List AV->Prop} (h:Opn P W t A):OpnB P W t (λas _=>A as):=λH enc fuel cs x hx=>h H enc fuel cs x hx
theorem ZeD {t:TypeId} (ht:P.underlying t=some .string):OpnB P W t (λas b=>∃s:ByteArray,as=[.val (.string s)]/\s.size<=maxLen/\s.size+1<=b):=λH enc fuel cs x hx=>by
 obtain⟨s,rfl,rfl,hs⟩:=DataW.trod_string ht hx
 exact⟨_,⟨s,rfl,hs,by simp[blk]⟩,.cons (.val rfl) .nil⟩
inductive ZiL (P:Program) (W:World):List (Nat×TypeId)->Nat->Nat->(List AV->Nat->Prop)->Prop
 |nil {n:Nat}:ZiL P W [] n n (λas _=>as=[])
 |cons {off k n:Nat} {ft:TypeId} {fs:List (Nat×TypeId)} {A B:List AV->Nat->Prop}:OpnB P W ft A->Zd P ft=some k->ZiL P W fs (off+k) n B->
   ZiL P W ((off,ft)::fs) off n (λas b=>∃a c b1 b2,b1+b2<=b/\A a b1/\B c b2/\as=a++c)
theorem ZiL.rs {fs:List (Nat×TypeId)} {off n:Nat} {B:List AV->Nat->Prop} (h:ZiL P W fs off n B):∀(H:Type) (enc:TypeId×Value->H) (fuel:Nat) (cs:List Value) (xs:List (DataW H×List MemPlace)),cs.length=n->xs.length=fs.length->
  (∀(i:Nat) p,fs[i]? =some p->DataW.trod enc P W 0 (λ_=>true) true fuel p.2 ((cs.drop p.1).take (P.cellsOf p.2))=xs[i]?)->∃as,B as (blkAll (xs.map (·.1)))/\Rs (Zw W) W noK as (cs.drop off):=by
 induction h with
 |nil=>intro H enc fuel cs xs hl _ _;exact⟨[],rfl,by rw[List.drop_eq_nil_of_le (by omega)];exact .nil⟩
 | @cons off k n ft fs A B ha hk hfs ih=>
  intro H enc fuel cs xs hl hxl hall
  cases xs with
  |nil=>simp at hxl
  |cons x xs=>
   have hx:=hall 0 (off,ft) rfl
   simp only[List.getElem?_cons_zero] at hx
   obtain⟨a,hA,hr⟩:=ha H enc fuel _ x hx
   obtain⟨b,hB,hr2⟩:=ih H enc fuel cs xs hl (by simpa using hxl) λi p hp=>by simpa using hall (i+1) p (by simpa using hp)
   refine⟨a++b,⟨a,b,_,_,Nat.le_of_eq (by simp[blkAll]),hA,hB,rfl⟩,?_⟩
   rw[ZbR hk] at hr
   have:cs.drop off=(cs.drop off).take k++cs.drop (off+k):=by
    rw[<-List.drop_drop,List.take_append_drop]
   rw[this]
   exact hr.append hr2
theorem ZP {t:TypeId} {fs:List (Nat×TypeId)} {n:Nat} {B:List AV->Nat->Prop} (ht:Zp P t=some fs) (hs:Zd P t=some n) (h:ZiL P W fs 0 n B):OpnB P W t (λas b=>∃b',b'+1<=b/\B as b'):=λH enc fuel cs x hx=>by
 unfold Zp at ht
 split at ht
 ·rename_i fa hu
  injection ht with ht;subst ht
  obtain⟨xs,m,_,rfl,hl,hxl,hall⟩:=DataW.trod_struct hu hx
  rw[ZbR hs] at hl
  have:=h.rs H enc m cs xs hl (by simpa using hxl) λi p hp=>by
   rw[List.getElem?_map] at hp
   obtain⟨f,hf,rfl⟩:=Option.map_eq_some_iff.1 hp
   exact hall i f (by simpa using hf)
  obtain⟨as,hB,hr⟩:=this
  exact⟨as,⟨_,by simp[blk],hB⟩,by simpa using hr⟩
 ·cases ht
theorem Zqy {t e:TypeId} {k:Nat} {A:List AV->Nat->Prop} (ht:Zab P t=some e) (hk:Zd P e=some k) (h0:0<k) (he:OpnB P W e A):
  OpnB P W t (λas b=>∃l:List (List AV×Nat),(∀x∈l,A x.1 x.2/\x.1.length=k)/\(l.map (·.2)).sum+1<=b/\as=[.sl false l.length (l.map (·.1)).flatten]):=λH enc fuel cs x hx=>by
 have hc:=ZbR hk
 rcases DataW.trod_slice (run_telem ht) hx with⟨rfl,rfl⟩|⟨a,len,cap,elems,rest,n,_,rfl,rfl,_,hlc,hcap,hel,hall,_,_⟩
 ·exact⟨_,⟨[],by simp,by simp[blk],rfl⟩,.cons (.sl0 (by simp) (by simp[maxLen])) .nil⟩
 ·rw[hc] at hall
  have key:∀m,m<=len->∃(l:List (List AV×Nat)) (us:List Value),l.length=m/\(∀x∈l,A x.1 x.2/\x.1.length=k)/\(l.map (·.2)).sum=blkAll ((elems.take m).map (·.1))/\us.length=m*k/\ZaF W a us/\Rs (Zw W) W noK (l.map (·.1)).flatten us:=by
   intro m
   induction m with
   |zero=>intro _;exact⟨[],[],rfl,by simp,by simp[blkAll],by simp,λj u hj=>by simp at hj,.nil⟩
   |succ m ih=>
    intro hm
    obtain⟨l,us,h1,h2,hb,h3,h4,h5⟩:=ih (by omega)
    have hm':=hall m (by omega)
    have hlt:m<elems.length:=by omega
    rw[List.getElem?_eq_getElem hlt] at hm'
    obtain⟨cs,hcs,htr⟩:=Option.bind_eq_some_iff.1 hm'
    obtain⟨as,ha,hr⟩:=he H enc n cs _ htr
    obtain⟨hl,hcell⟩:=Zhm hcs
    have hal:as.length=k:=by rw[hr.length,hl]
    refine⟨l++[(as,blk (elems[m]).1)],us++cs,by simp[h1],?_,?_,by simp[h3,hl,Nat.add_mul],λj u hj=> ?_,?_⟩
    ·intro x hx
     rcases List.mem_append.1 hx with h|h
     ·exact h2 x h
     ·rw[List.mem_singleton.1 h];exact⟨ha,hal⟩
    ·rw[List.take_succ_eq_append_getElem hlt,List.map_append,List.map_append,Zfi,List.sum_append,hb]
     simp[blkAll]
    ·rcases Nat.lt_or_ge j us.length with hj1|hj1
     ·rw[List.getElem?_append_left hj1] at hj;exact h4 j u hj
     ·rw[List.getElem?_append_right hj1] at hj
      have:=hcell _ u hj
      rw[add2] at this
      rw[<-this];congr 2;omega
    ·rw[List.map_append,List.flatten_append]
     exact h5.append (by simpa using hr)
  obtain⟨l,us,h1,h2,hb,h3,h4,h5⟩:=key len (Nat.le_refl _)
  refine⟨_,⟨l,h2,?_,rfl⟩,.cons ?_ .nil⟩
  ·rw[hb,List.take_of_length_le (by omega)];simp[blk]
  ·rcases Nat.eq_zero_or_pos len with hz|hz
   ·have:l=[]:=List.eq_nil_of_length_eq_zero (by omega)
    subst this
    subst hz
    exact .sl0 (by simp) hcap
   ·rw[h1]
    refine .sl hz hlc (by simp) hcap ?_ h4 h5
    have hpos:0<us.length:=by rw[h3];exact Nat.mul_pos hz h0
    have:=Ztu (h4 0 us[0] (by simp[hpos]))
    have e:(a.add 0).block=a.block:=by unfold Addr.add;split<;>rfl
    rw[e] at this
    exact this
theorem ZoK {α:Type} {enc:α->List AV} {p:α->Nat->Prop}:∀l:List (List AV×Nat),(∀x∈l,∃c,x.1=enc c/\p c x.2)->∃cs:List (α×Nat),l.map (·.1)=cs.map (λc=>enc c.1)/\l.map (·.2)=cs.map (·.2)/\∀c∈cs,p c.1 c.2
 |[],_=>⟨[],rfl,rfl,by simp⟩
 |x::l,h=>by
  obtain⟨c,hc,hp⟩:=h x (by simp)
  obtain⟨cs,h1,h2,hps⟩:=ZoK l λy hy=>h y (by simp[hy])
  refine⟨(c,x.2)::cs,by simp[hc,h1],by simp[h2],?_⟩
  intro y hy
  rcases List.mem_cons.1 hy with rfl|hy
  ·exact hp
  ·exact hps y hy
theorem Zbt {α:Type} {enc:α->List AV} {p:α->Prop} {wt:α->Nat} {t e:TypeId} {k:Nat} (ht:Zab P t=some e) (hk:Zd P e=some k) (h0:0<k) (he:OpnB P W e (λas b=>∃c,as=enc c/\p c/\wt c<=b)):
  OpnB P W t (λas b=>∃cs:List α,as=[.sl false cs.length (cs.flatMap enc)]/\(∀c∈cs,p c)/\(cs.map wt).sum+1<=b):=
 (Zqy ht hk h0 he).mono λas b ⟨l,hl,hb,ha⟩=>by
  obtain⟨cs,h1,h2,hp⟩:=ZoK (p:=λc b=>p c/\wt c<=b) l λx hx=>by
   obtain⟨c,h1,h2,h3⟩:=(hl x hx).1
   exact⟨c,h1,h2,h3⟩
  have hlen:l.length=cs.length:=by have:=congrArg List.length h1;simpa using this
  have hsum:((cs.map (·.1)).map wt).sum<=(cs.map (·.2)).sum:=by
   clear h1 h2 hlen ha
   induction cs with
   |nil=>simp
   |cons c cs ih=>
    have:=(hp c (by simp)).2
    have:=ih λx hx=>hp x (by simp[hx])
    simp at this⊢
    omega
  refine⟨cs.map (·.1),?_,?_,?_⟩
  ·rw[ha,h1,hlen];simp[List.flatMap_def,List.map_map,Function.comp_def]
  ·intro c hc
   obtain⟨y,hy,rfl⟩:=List.mem_map.1 hc
   exact(hp y hy).1
  ·rw[h2] at hb;omega
theorem ZmX {H:Type} {enc:TypeId×Value->H} {base:Nat} {t:TypeId} {fs:List (Nat×TypeId)} {v:Value} {d:DataW H} {ps:List MemPlace} {A:List AV->Nat->Prop} (ht:Zp P t=some fs) (hv:Value.okWide P W .any base t v) (h:DataW.Trod enc P W 0 (λ_=>true) true t v d ps) (ha:OpnB P W t A):
  ∃as,A as (blk d)/\R (Zw W) W noK (.agg as) v:=by
 unfold Zp at ht
 split at ht
 ·rename_i fa hu
  obtain⟨cs,rfl,_⟩:=okWide_struct hu hv
  obtain⟨fuel,hf⟩:=h
  obtain⟨as,hA,hr⟩:=ha H enc fuel _ _ hf
  exact⟨as,hA,by have:=R.agg hr;simpa[Value.cells] using this⟩
 ·cases ht
end Go.Cx
set_option linter.unusedVariables false
set_option linter.unusedSimpArgs false
namespace Go.Cx
variable {P:Program} {Z:Nat->Prop} {κ:Nat->Slot} {h:Za} {w:World}
structure XCall (P:Program) (f:FuncId) (args:List AV) (h0:Za) (v:AV) (h1:Za):Prop where
 hargs:args.all (refsLt h0.length)=true
 heap:h0.all (ABlk.refsLt h0.length)=true
 val:refsLt h1.length v=true
 len:h0.length<=h1.length
 heap1:h1.all (ABlk.refsLt h1.length)=true
 call:ZaX P f args h0 (λv' h'=>v'=v/\h'=h1)
def grow (ρ:Nat->Nat) (k n:Nat):Nat->Nat:=λi=>if i<k then ρ i else n+(i -k)
theorem ZaX.grow {f:FuncId} {args:List AV} {h0 h1:Za} {v:AV} (hc:XCall P f args h0 v h1) (ρ:Nat->Nat) (hinj:∀i j,i<h0.length->j<h0.length->ρ i=ρ j->i=j)
  (hlt:∀i,i<h0.length->ρ i<h.length) (hb:∀i x,h0[i]? =some x->h[ρ i]? =some (renB ρ x)):
  ZaX P f (args.map (ren ρ)) h (λv' h'=>v'=ren (Cx.grow ρ h0.length h.length) v/\h'=lay (Cx.grow ρ h0.length h.length) 0 (h1.take h0.length) h++(h1.drop h0.length).map (renB (Cx.grow ρ h0.length h.length))):=by
 obtain⟨ha,hh,hv,hlen,hh1,he,hcall⟩:=hc
 let g:=Cx.grow ρ h0.length h.length
 have g0:∀i,i<h0.length->g i=ρ i:=λi hi=>by simp only[g,Cx.grow,if_pos hi]
 have g1:∀i,h0.length<=i->g i=h.length+(i -h0.length):=λi hi=>by simp only[g,Cx.grow];rw[if_neg (by omega)]
 refine⟨he,λZ κ w cargs r hr=> ?_⟩
 let κ0:Nat->Slot:=λi=>if i<h0.length then κ (ρ i) else .hole
 have hk0:∀i,i<h0.length->κ0 i=κ (ρ i):=λi hi=>by simp[κ0,hi]
 have hal:∀b,ZT κ0 b->∃i ver sz,i<h0.length/\κ (ρ i)= .live ver (some b) sz:=by
  rintro b ⟨i,ver,sz,hk⟩
  by_cases hi:i<h0.length
  ·exact⟨i,ver,sz,hi,by rw[<-hk0 i hi];exact hk⟩
  ·simp[κ0,hi] at hk
 have hal':∀b,ZT κ0 b->ZT κ b:=λb hb=>by obtain⟨i,ver,sz,_,hk⟩:=hal b hb;exact⟨_,ver,sz,hk⟩
 have r0:Rel Z κ0 h0 w:=by
  refine⟨r.zlt,λb hz hb=>r.za b hz (hal' b hb),λi hi=>by simp[κ0,Nat.not_lt.2 hi],λi x hx=> ?_,?_⟩
  ·have hi:=(List.getElem?_eq_some_iff.1 hx).1
   exact Zhq hi hk0 (r.blk _ _ (hb i x hx)) (List.all_eq_true.1 hh x (List.mem_of_getElem? hx))
  ·intro i j ver ver' b sz sz' h1 h2
   by_cases hi:i<h0.length
   ·by_cases hj:j<h0.length
    ·rw[hk0 i hi] at h1;rw[hk0 j hj] at h2
     exact hinj i j hi hj (r.inj _ _ _ _ _ _ _ h1 h2)
    ·simp[κ0,hj] at h2
   ·simp[κ0,hi] at h1
 refine(hcall Z κ0 w cargs r0 (Rs.unren hk0 args hr ha)).mono ?_
 rintro e w' ⟨v',h',Z',κ0',c,⟨rfl,rfl⟩,rfl,r',hv',ex,st⟩
 have img:∀id,(∃i,i<h0.length/\ρ i=id)\/¬(∃i,i<h0.length/\ρ i=id):=λid=>Classical.em _
 let κ':Nat->Slot:=λid=>if hx:∃i,i<h0.length/\ρ i=id then κ0' (Classical.choose hx) else if h.length<=id then κ0' (h0.length+(id -h.length)) else κ id
 have hin0:∀i,i<h0.length->κ' (ρ i)=κ0' i:=by
  intro i hi
  have hx:∃j,j<h0.length/\ρ j=ρ i:=⟨i,hi,rfl⟩
  have hs:=Classical.choose_spec hx
  have:Classical.choose hx=i:=hinj _ _ hs.1 hi hs.2
  simp only[κ',dif_pos hx,this]
 have hnew:∀id,h.length<=id->κ' id=κ0' (h0.length+(id -h.length)):=by
  intro id hid
  have hx:¬(∃i,i<h0.length/\ρ i=id):=by rintro⟨i,hi,rfl⟩;have:=hlt i hi;omega
  simp only[κ',dif_neg hx,if_pos hid]
 have hin:∀i,i<h'.length->κ' (g i)=κ0' i:=by
  intro i _
  by_cases hi:i<h0.length
  ·rw[g0 i hi];exact hin0 i hi
  ·rw[g1 i (by omega),hnew _ (by omega)];congr 1;omega
 have hout:∀id,¬(∃i,i<h0.length/\ρ i=id)->id<h.length->κ' id=κ id:=λid hx hl=>by simp only[κ',dif_neg hx];rw[if_neg (by omega)]
 have split:∀id,(∃i,i<h0.length/\ρ i=id)\/h.length<=id\/(¬(∃i,i<h0.length/\ρ i=id)/\id<h.length):=λid=>by
  rcases img id with h1|h1
  ·exact .inl h1
  ·rcases Nat.lt_or_ge id h.length with h2|h2
   ·exact .inr (.inr ⟨h1,h2⟩)
   ·exact .inr (.inl h2)
 have hfrom:∀id,(∃j,g j=id/\κ' id=κ0' j/\(j<h0.length->id<h.length))\/(¬(∃i,i<h0.length/\ρ i=id)/\id<h.length/\κ' id=κ id):=λid=>by
  rcases split id with⟨i,hi,rfl⟩|h1|⟨h1,h2⟩
  ·exact .inl ⟨i,g0 i hi,hin0 i hi,λ_=>hlt i hi⟩
  ·exact .inl ⟨h0.length+(id -h.length),by rw[g1 _ (by omega)];omega,hnew id h1,λh2=>by omega⟩
  ·exact .inr ⟨h1,h2,hout id h1 h2⟩
 have hal2:∀b,ZT κ' b->ZT κ0' b\/∃id ver sz,¬(∃i,i<h0.length/\ρ i=id)/\κ id= .live ver (some b) sz:=by
  rintro b ⟨id,ver,sz,hk⟩
  rcases hfrom id with⟨j,_,hj,_⟩|⟨h1,_,h3⟩
  ·rw[hj] at hk;exact .inl ⟨j,ver,sz,hk⟩
  ·rw[h3] at hk;exact .inr ⟨id,ver,sz,h1,hk⟩
 have E:Ext Z κ w Z' κ' w':=by
  refine⟨ex.os,ex.tape,ex.output,ex.size,λb hbl hn=>ex.keep b hbl (λha=>hn (hal' b ha)),ex.zin,λb hz=> ?_,λb ha=> ?_⟩
  ·rcases ex.znew b hz with h1|h1|h1
   ·exact .inl h1
   ·exact .inr (.inl (hal' b h1))
   ·exact .inr (.inr h1)
  ·rcases hal2 b ha with h1|⟨id,ver,sz,_,h1⟩
   ·rcases ex.anew b h1 with h2|h2
    ·exact .inl (hal' b h2)
    ·exact .inr h2
   ·exact .inl ⟨id,ver,sz,h1⟩
 have S:Zq κ κ':=by
  intro id
  rcases split id with⟨i,hi,rfl⟩|h1|⟨h1,h2⟩
  ·right;rw[hin0 i hi,<-hk0 i hi];exact st i hi
  ·left;exact r.hole id h1
  ·right;rw[hout id h1 h2];exact Slot.step_refl _
 have apart:∀b id ver sz,¬(∃i,i<h0.length/\ρ i=id)->κ id= .live ver (some b) sz->¬ZT κ0 b:=by
  intro b id ver sz hx hk ha
  obtain⟨i,ver',sz',hi,hk'⟩:=hal b ha
  exact hx ⟨i,hi,r.inj _ _ _ _ _ _ _ hk' hk⟩
 have r2:Rel Z' κ' (lay g 0 (h'.take h0.length) h++(h'.drop h0.length).map (renB g)) w':=by
  have hll:(lay g 0 (h'.take h0.length) h).length=h.length:=ZmV g _ _ _
  have htl:(h'.take h0.length).length=h0.length:=by rw[List.length_take];omega
  refine⟨r'.zlt,λb hz ha=> ?_,λid hid=> ?_,λid x hx=> ?_,?_⟩
  ·rcases hal2 b ha with h1|⟨id,ver,sz,hx,hk⟩
   ·exact r'.za b hz h1
   ·rcases ex.znew b hz with h1|h1|h1
    ·exact r.za b h1 ⟨id,ver,sz,hk⟩
    ·exact apart b id ver sz hx hk h1
    ·have:=ZA r ⟨id,ver,sz,hk⟩;omega
  ·simp only[List.length_append,hll,List.length_map,List.length_drop] at hid
   rw[hnew id (by omega)]
   exact r'.hole _ (by omega)
  ·rcases Nat.lt_or_ge id h.length with hidl|hidl
   ·rw[List.getElem?_append_left (by omega)] at hx
    rcases img id with⟨i,hi,rfl⟩|hn
    ·have hl:=ZtK g (h'.take h0.length) 0 h i (by omega) (λa b ha hb e=>by
       rw[htl] at ha hb
       simp only[Nat.zero_add] at e
       rw[g0 a ha,g0 b hb] at e
       exact hinj a b ha hb e) (λa ha=>by rw[htl] at ha;simp only[Nat.zero_add];rw[g0 a ha];exact hlt a ha)
     rw[Nat.zero_add,g0 i hi] at hl
     rw[hl,List.getElem?_take_of_lt hi] at hx
     obtain⟨y,hy,rfl⟩:=Option.map_eq_some_iff.1 hx
     have:=Zhp (κ:=κ') (ρ:=g) (k:=h'.length) (i:=i) (by omega) hin (r'.blk i y hy) (List.all_eq_true.1 hh1 y (List.mem_of_getElem? hy))
     rwa[g0 i hi] at this
    ·have hl:=Zkf g (h'.take h0.length) 0 h id (λm hm e=>hn ⟨m,by omega,by rw[<-g0 m (by omega)];simpa using e⟩)
     rw[hl] at hx
     exact(r.blk id x hx).ext r E S (hout id hn hidl) λver b sz hk=>ex.keep b (ZA r ⟨id,ver,sz,hk⟩) (apart b id ver sz hn hk)
   ·rw[List.getElem?_append_right (by omega),hll,List.getElem?_map,List.getElem?_drop] at hx
    obtain⟨y,hy,rfl⟩:=Option.map_eq_some_iff.1 hx
    have hi:=(List.getElem?_eq_some_iff.1 hy).1
    have:=Zhp (κ:=κ') (ρ:=g) (k:=h'.length) (i:=h0.length+(id -h.length)) hi hin (r'.blk _ y hy) (List.all_eq_true.1 hh1 y (List.mem_of_getElem? hy))
    rw[g1 _ (by omega)] at this
    rwa[show h.length+(h0.length+(id -h.length) -h0.length)=id by omega] at this
  ·intro id id' ver ver' b sz sz' h1 h2
   rcases hfrom id with⟨i,e1,k1,l1⟩|⟨n1,l1,k1⟩
   ·rw[k1] at h1
    rcases hfrom id' with⟨j,e2,k2,l2⟩|⟨n2,l2,k2⟩
    ·rw[k2] at h2
     have:=r'.inj _ _ _ _ _ _ _ h1 h2
     rw[<-e1,<-e2,this]
    ·rw[k2] at h2
     rcases ex.anew b ⟨i,ver,sz,h1⟩ with h3|h3
     ·exact absurd h3 (apart b id' _ _ n2 h2)
     ·have:=ZA r ⟨id',_,_,h2⟩;omega
   ·rw[k1] at h1
    rcases hfrom id' with⟨j,e2,k2,l2⟩|⟨n2,l2,k2⟩
    ·rw[k2] at h2
     rcases ex.anew b ⟨j,ver',sz',h2⟩ with h3|h3
     ·exact absurd h3 (apart b id _ _ n1 h1)
     ·have:=ZA r ⟨id,_,_,h1⟩;omega
    ·rw[k2] at h2
     exact r.inj _ _ _ _ _ _ _ h1 h2
 exact⟨_,_,Z',κ',c,⟨rfl,rfl⟩,rfl,r2,hv'.ren hin hv,E,S.lt r (Nat.le_refl _)⟩
def ZmY (P:Program) (rs:List ResultVar) (v:AV) (h1:Za) (e:Exit) (s:Zc):Prop:=
 Zbs e=true/\(rs.mapM (resA P s)).map resV=some v/\s.h.take h1.length=h1
theorem ZaX.own {f:FuncId} {fn:Func} {c:Code} {rs:List ResultVar} {N:Nat} {args:List AV} {h1:Za} {v:AV} (lit:TypeId->Bool) (hf:P.funcs[f]? =some fn) (hb:fn.body=some c) (hrs:fn.results.toList=rs) (hN:args.length+(fn.ntmps -args.length)=N) (he:Ent P f)
  (hv:refsLt h1.length v=true) (hl:h.length<=h1.length) (hh1:h1.all (ABlk.refsLt h1.length)=true)
  (hx:AX P lit h.length c (ZmY P rs v h1) ⟨N,Zbr args,h⟩):ZaX P f args h (λv' h'=>v'=v/\h'=h1):=by
 subst hrs hN
 refine⟨he,λZ κ w cargs r hr=> ?_⟩
 refine calls_of_wp hf hb (wp_mono (Zck c _ _ hx Z κ _ w ?_ (Nat.le_refl _)) ?_)
 ·have hl:=hr.length
  refine⟨r,by simp[hl],λj=> ?_,rfl⟩
  simp only[Zbr,Array.getD_eq_getD_getElem?,Array.getElem?_append,List.size_toArray,List.getD]
  by_cases hj:j<cargs.length
  ·rw[if_pos hj]
   obtain⟨v,hv,hvr⟩:=hr.get j (args[j]'(by omega)) (by simp[hl▸hj])
   have:args[j]? =some (args[j]'(by omega)):=by simp[hl▸hj]
   rw[this]
   simpa[hv] using hvr
  ·rw[if_neg hj]
   have:args[j]? =none:=List.getElem?_eq_none (by omega)
   rw[this]
   exact .any
 ·intro e a' w' ha
  obtain⟨s',Z',κ',hq,r',ex,st,hn⟩:=ha
  obtain⟨he',hm,hz⟩:=hq
  obtain⟨vs,hm,hvs⟩:=Option.map_eq_some_iff.1 hm
  obtain⟨cv,hrun,hcv⟩:=ZdM (P:=P) r' hm
  obtain⟨r2,e2⟩:=ZfO r'.rel (n:=h1.length) (by rw[hz];exact hh1)
  rw[hz] at r2
  rw[hvs] at hcv
  have hcv2:R (cutZ h1.length Z' κ') w' (cutK h1.length κ') v cv:=
   (hcv.lt hv (λj hj=>show cutK h1.length κ' j=κ' j by simp[cutK,hj])).imp (λb hz=>⟨.inl hz,rfl⟩) (λj=> .inr (Slot.step_refl _))
  have fin:∃v' h' Z2 κ2 c,(v'=v/\h'=h1)/\Ending.returned cv= .returned c/\Rel Z2 κ2 h' w'/\R Z2 w' κ2 v' c/\Ext Z κ w Z2 κ2 w'/\ZX h.length κ κ2:=
   ⟨v,h1,_,_,cv,⟨rfl,rfl⟩,rfl,r2,hcv2,ex.trans e2,st.trans ((ZcE h1.length κ').mono hl)⟩
  cases e with
  |normal=>exact⟨r'.defers,cv,hrun,fin⟩
  |ret=>exact⟨r'.defers,cv,hrun,fin⟩
  |exit id=>simp[Zbs] at he'
  |goto l=>simp[Zbs] at he'
  |panic ch=>simp[Zbs] at he'
  |outgrown=>simp[Zbs] at he'
theorem XCall.mk' {f:FuncId} {fn:Func} {c:Code} {rs:List ResultVar} {N:Nat} {args:List AV} {h0 h1:Za} {v:AV} (lit:TypeId->Bool) (hf:P.funcs[f]? =some fn) (hb:fn.body=some c) (hrs:fn.results.toList=rs) (hN:args.length+(fn.ntmps -args.length)=N) (he:Ent P f)
  (ha:args.all (refsLt h0.length)=true) (hh:h0.all (ABlk.refsLt h0.length)=true) (hv:refsLt h1.length v=true) (hl:h0.length<=h1.length) (hh1:h1.all (ABlk.refsLt h1.length)=true)
  (hx:args.all fits=true->AX P lit h0.length c (ZmY P rs v h1) ⟨N,Zbr args,h0⟩):XCall P f args h0 v h1:=by
 refine⟨ha,hh,hv,hl,hh1,?_⟩
 by_cases hfit:args.all fits=true
 ·exact ZaX.own lit hf hb hrs hN he hv hl hh1 (hx hfit)
 ·exact⟨he,λZ κ w cargs r hr=>absurd hr.fits hfit⟩
@[simp] theorem PostO_def (rs:List ResultVar) (v:AV) (h1:Za) (e:Exit) (s:Zc):ZmY P rs v h1 e s=(Zbs e=true/\(rs.mapM (resA P s)).map resV=some v/\s.h.take h1.length=h1):=rfl
def ZwS (P:Program) (rs:List ResultVar) (k:Nat) (v:AV) (h1:Za) (e:Exit) (s:Zc):Prop:=
 ZmY P rs v h1 e s\/∃t,rs=[.tmp t]/\s.T t= .sl true 0 []/\Zbs e=true/\v= .own s.h.length 0 0 0 k/\h1=s.h++[.cells 0 []]
theorem AX.postE {n:Nat} {lit:TypeId->Bool} {c:Code} {rs:List ResultVar} {k:Nat} {v:AV} {h1:Za} {s:Zc} (hx:AX P lit n c (ZwS P rs k v h1) s) {Z:Nat->Prop} {κ:Nat->Slot} {a:Act} {w:World} (r:SRel Z κ s a w) (hn:n<=s.h.length):
  c.wp P (λe a' w'=>Zcj n (ZmY P rs v h1 e) Z κ w a' w') a w:=by
 refine wp_mono (Zck c _ _ hx Z κ a w r hn) λe a' w' ha=> ?_
 obtain⟨s',Z',κ',hq,r',ex,st,hn'⟩:=ha
 rcases hq with hq|⟨t,rfl,ht,he,rfl,rfl⟩
 ·exact⟨s',Z',κ',hq,r',ex,st,hn'⟩
 ·obtain⟨κ2,r2,e2,st2,hn2⟩:=Wk.ownNil (n:=n) (s:=s') t k ht Z' κ' a' w' r' hn'
  refine⟨_,Z',κ2,⟨he,?_,List.take_of_length_le (by simp)⟩,r2,ex.trans e2,st.trans st2,hn2⟩
  simp[resA,resV,Zco]
theorem ZaX.ownE (k:Nat) {f:FuncId} {fn:Func} {c:Code} {rs:List ResultVar} {N:Nat} {args:List AV} {h1:Za} {v:AV} (lit:TypeId->Bool) (hf:P.funcs[f]? =some fn) (hb:fn.body=some c) (hrs:fn.results.toList=rs) (hN:args.length+(fn.ntmps -args.length)=N) (he:Ent P f)
  (hv:refsLt h1.length v=true) (hl:h.length<=h1.length) (hh1:h1.all (ABlk.refsLt h1.length)=true)
  (hx:AX P lit h.length c (ZwS P rs k v h1) ⟨N,Zbr args,h⟩):ZaX P f args h (λv' h'=>v'=v/\h'=h1):=by
 subst hrs hN
 refine⟨he,λZ κ w cargs r hr=> ?_⟩
 refine calls_of_wp hf hb (wp_mono (AX.postE hx (Z:=Z) (κ:=κ) ?_ (Nat.le_refl _)) ?_)
 ·have hl:=hr.length
  refine⟨r,by simp[hl],λj=> ?_,rfl⟩
  simp only[Zbr,Array.getD_eq_getD_getElem?,Array.getElem?_append,List.size_toArray,List.getD]
  by_cases hj:j<cargs.length
  ·rw[if_pos hj]
   obtain⟨v,hv,hvr⟩:=hr.get j (args[j]'(by omega)) (by simp[hl▸hj])
   have:args[j]? =some (args[j]'(by omega)):=by simp[hl▸hj]
   rw[this]
   simpa[hv] using hvr
  ·rw[if_neg hj]
   have:args[j]? =none:=List.getElem?_eq_none (by omega)
   rw[this]
   exact .any
 ·intro e a' w' ha
  obtain⟨s',Z',κ',hq,r',ex,st,hn⟩:=ha
  obtain⟨he',hm,hz⟩:=hq
  obtain⟨vs,hm,hvs⟩:=Option.map_eq_some_iff.1 hm
  obtain⟨cv,hrun,hcv⟩:=ZdM (P:=P) r' hm
  obtain⟨r2,e2⟩:=ZfO r'.rel (n:=h1.length) (by rw[hz];exact hh1)
  rw[hz] at r2
  rw[hvs] at hcv
  have hcv2:R (cutZ h1.length Z' κ') w' (cutK h1.length κ') v cv:=
   (hcv.lt hv (λj hj=>show cutK h1.length κ' j=κ' j by simp[cutK,hj])).imp (λb hz=>⟨.inl hz,rfl⟩) (λj=> .inr (Slot.step_refl _))
  have fin:∃v' h' Z2 κ2 c,(v'=v/\h'=h1)/\Ending.returned cv= .returned c/\Rel Z2 κ2 h' w'/\R Z2 w' κ2 v' c/\Ext Z κ w Z2 κ2 w'/\ZX h.length κ κ2:=
   ⟨v,h1,_,_,cv,⟨rfl,rfl⟩,rfl,r2,hcv2,ex.trans e2,st.trans ((ZcE h1.length κ').mono hl)⟩
  cases e with
  |normal=>exact⟨r'.defers,cv,hrun,fin⟩
  |ret=>exact⟨r'.defers,cv,hrun,fin⟩
  |exit id=>simp[Zbs] at he'
  |goto l=>simp[Zbs] at he'
  |panic ch=>simp[Zbs] at he'
  |outgrown=>simp[Zbs] at he'
theorem XCall.mkE (k:Nat) {f:FuncId} {fn:Func} {c:Code} {rs:List ResultVar} {N:Nat} {args:List AV} {h0 h1:Za} {v:AV} (lit:TypeId->Bool) (hf:P.funcs[f]? =some fn) (hb:fn.body=some c) (hrs:fn.results.toList=rs) (hN:args.length+(fn.ntmps -args.length)=N) (he:Ent P f)
  (ha:args.all (refsLt h0.length)=true) (hh:h0.all (ABlk.refsLt h0.length)=true) (hv:refsLt h1.length v=true) (hl:h0.length<=h1.length) (hh1:h1.all (ABlk.refsLt h1.length)=true)
  (hx:args.all fits=true->AX P lit h0.length c (ZwS P rs k v h1) ⟨N,Zbr args,h0⟩):XCall P f args h0 v h1:=by
 refine⟨ha,hh,hv,hl,hh1,?_⟩
 by_cases hfit:args.all fits=true
 ·exact ZaX.ownE k lit hf hb hrs hN he hv hl hh1 (hx hfit)
 ·exact⟨he,λZ κ w cargs r hr=>absurd hr.fits hfit⟩
@[simp] theorem PostE_def (rs:List ResultVar) (k:Nat) (v:AV) (h1:Za) (e:Exit) (s:Zc):ZwS P rs k v h1 e s=(ZmY P rs v h1 e s\/∃t,rs=[.tmp t]/\s.T t= .sl true 0 []/\Zbs e=true/\v= .own s.h.length 0 0 0 k/\h1=s.h++[.cells 0 []]):=rfl
theorem XCall.at {f:FuncId} {args args':List AV} {h0 h1:Za} {v:AV} (hc:XCall P f args h0 v h1) (L:List Nat) (hn:L.Nodup) (hl:L.length=h0.length) (ha:args'=args.map (ren (ρL L))) (hb:atB (ρL L) h 0 h0):
  ZaX P f args' h (λv' h'=>v'=ren (Cx.grow (ρL L) h0.length h.length) v/\h'=Cx.lay (Cx.grow (ρL L) h0.length h.length) 0 (h1.take h0.length) h++(h1.drop h0.length).map (renB (Cx.grow (ρL L) h0.length h.length))):=by
 subst ha
 have hget:∀i x,h0[i]? =some x->h[ρL L i]? =some (renB (ρL L) x):=λi x hx=>by
  have:=ZmW (ρL L) h0 0 hb i x hx
  rwa[Nat.zero_add] at this
 exact ZaX.grow hc (ρL L) (λi j hi hj=>ρL_inj hn i j (by omega) (by omega)) (λi hi=>(List.getElem?_eq_some_iff.1 (hget i h0[i] (by simp[hi]))).1) hget
theorem AInv.fresh {f:FuncId} {cap args args0:List AV} {h0 h1:Za} {v:AV} {Q:AV->Za->Prop} (L:List Nat) (hc:XCall P f args0 h0 v h1) (ha:args++cap=args0.map (ren (ρL L))) (hb:atB (ρL L) h 0 h0)
  (hq:Q (ren (Cx.grow (ρL L) h0.length h.length) v) (Cx.lay (Cx.grow (ρL L) h0.length h.length) 0 (h1.take h0.length) h++(h1.drop h0.length).map (renB (Cx.grow (ρL L) h0.length h.length)))) (hn:L.Nodup:=by decide) (hl:L.length=h0.length:=by rfl):AInv P (.fn f cap) args h Q:=
 .of ((hc.at L hn hl ha hb).mono λv' h' ⟨h1,h2⟩=>by rw[h1,h2];exact hq)
attribute [simp] Cx.grow
end Go.Cx
