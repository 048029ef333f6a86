import Derived.WalkKit
import Derived.Orders
import Derived.Laws.BytesString
import Derived.MapKept
import Derived.Laws.MakeOwn
import Derived.Laws.IdiomStrings
import Derived.Maps.RangeRun
set_option linter.unusedVariables false
namespace Go.Cx
inductive AV where
 |val (v:Value)
 |any
 |agg (cs:List AV)
 |tup (vs:List AV)
 |sl (tight:Bool) (n:Nat) (cs:List AV)
 |fp (cs:List AV)
 |fn (f:FuncId) (cap:List AV)
 |fmap (ks vs:List AV)
 |own (id ver off n k:Nat)
 |ptr (id ver off:Nat)
 |mp (id:Nat)
inductive Slot where
 |hole
 |dead
 |live (ver:Nat) (b:Option Nat) (sz:Nat)
abbrev one:Value->Bool:=Value.oneCell'
def plain:Value->Bool
 | .bool _| .int _ _| .float _ _| .complex _ _ _| .string _| .pointer none| .map none| .nilFunc| .nilIface=>true
 |_=>false
theorem Zgl {v:Value} (h:plain v=true):one v=true:=by
 cases v<;>simp_all[plain,one,Value.oneCell']
def ZV (κ:Nat->Slot) (id ver:Nat) (p:Option Nat->Nat->Prop):Prop:=
 match κ id with
 | .hole=>False
 | .dead=>True
 | .live ver' b sz=>ver<=ver'/\(ver=ver'->p b sz)
def Zdm (off n k:Nat) (A:Option Addr) (cap:Nat):Option Nat->Nat->Prop
 |none,_=>off=0/\n=0/\cap=0
 |some b,sz=>(off+cap)*k=sz/\0<k/\(∃a,A=some a/\(0<cap->a=⟨b,off*k,none⟩))/\off+cap<=maxLen
def ZmF (off:Nat) (a:Addr):Option Nat->Nat->Prop
 |none,_=>False
 |some b,sz=>a=⟨b,off,none⟩
def ZpZ (r:Nat):Option Nat->Nat->Prop
 |none,_=>False
 |some b,_=>r=b
def Zqa (w:World) (b:Nat) (es:Array MapEntry) (clock:Nat):Prop:=w.heap[b]? =some (.map es clock)/\(es.toList.map (·.born)).Nodup/\∀e∈es.toList,e.born<clock
theorem Zqa.of {w w':World} {b:Nat} {es:Array MapEntry} {clock:Nat} (h:Zqa w b es clock) (hb:w'.heap[b]? =w.heap[b]?):Zqa w' b es clock:=⟨hb.trans h.1,h.2⟩
def ZaF (w:World) (a:Addr) (us:List Value):Prop:=∀j u,us[j]? =some u->w.cell? (a.add j)=some u
mutual
inductive R (Z:Nat->Prop) (w:World) (κ:Nat->Slot):AV->Value->Prop
 |val {v:Value}:plain v=true->R Z w κ (.val v) v
 |any {v:Value}:R Z w κ .any v
 |agg {cs:List AV} {vs:List Value}:Rs Z w κ cs vs->R Z w κ (.agg cs) (.agg vs.toArray)
 |tup {cs:List AV} {vs:List Value}:Rs Z w κ cs vs->R Z w κ (.tup cs) (.tuple vs.toArray)
 |sl0 {t:Bool} {A:Option Addr} {cap:Nat}:(t=true->cap=0)->cap<=maxLen->R Z w κ (.sl t 0 []) (.slice A 0 cap)
 |sl {t:Bool} {n:Nat} {cs:List AV} {a:Addr} {cap:Nat} {us:List Value}:0<n->n<=cap->(t=true->cap=n)->cap<=maxLen->Z a.block->ZaF w a us->Rs Z w κ cs us->
   R Z w κ (.sl t n cs) (.slice (some a) n cap)
 |fp {cs:List AV} {a:Addr} {us:List Value}:Z a.block->ZaF w a us->Rs Z w κ cs us->R Z w κ (.fp cs) (.pointer (some a))
 |fn {f:FuncId} {cs:List AV} {vs:List Value}:Rs Z w κ cs vs->R Z w κ (.fn f cs) (.func (.func f) #[] vs.toArray)
 |fmap {ks vs:List AV} {b clock:Nat} {es:Array MapEntry} {xs ys:List Value}:Z b->Zqa w b es clock->es.toList.map (·.key)=xs->es.toList.map (·.val)=ys->
   Rs Z w κ ks xs->Rs Z w κ vs ys->R Z w κ (.fmap ks vs) (.map (some b))
 |own {id ver off n k:Nat} {A:Option Addr} {cap:Nat}:n<=cap->cap<=maxLen->(0<n->A≠none)->ZV κ id ver (Zdm off n k A cap)->R Z w κ (.own id ver off n k) (.slice A n cap)
 |ptr {id ver off:Nat} {a:Addr}:ZV κ id ver (ZmF off a)->R Z w κ (.ptr id ver off) (.pointer (some a))
 |mp {id b:Nat}:ZV κ id 0 (ZpZ b)->R Z w κ (.mp id) (.map (some b))
inductive Rs (Z:Nat->Prop) (w:World) (κ:Nat->Slot):List AV->List Value->Prop
 |nil:Rs Z w κ [] []
 |cons {a:AV} {v:Value} {as:List AV} {vs:List Value}:R Z w κ a v->Rs Z w κ as vs->Rs Z w κ (a::as) (v::vs)
end
def Slot.step:Slot->Slot->Prop
 | .hole,.hole=>True
 | .dead,.dead=>True
 | .live _ _ _,.dead=>True
 | .live v b s,.live v' b' s'=>v<v'\/(v=v'/\b=b'/\s=s')
 |_,_=>False
theorem Slot.step_refl (s:Slot):s.step s:=by
 cases s<;>simp[Slot.step]
theorem Slot.step_trans {a b c:Slot} (h:a.step b) (k:b.step c):a.step c:=by
 cases a<;>cases b<;>cases c<;>simp_all[Slot.step]
 rename_i v1 b1 s1 v2 b2 s2 v3 b3 s3
 rcases h with h|⟨rfl,rfl,rfl⟩
 ·rcases k with k|⟨rfl,rfl,rfl⟩
  ·exact .inl (by omega)
  ·exact .inl h
 ·exact k
theorem ZV.step {κ κ':Nat->Slot} {id ver:Nat} {p:Option Nat->Nat->Prop} (h:ZV κ id ver p) (hs:(κ id).step (κ' id)):ZV κ' id ver p:=by
 unfold ZV at*
 cases h1:κ id<;>cases h2:κ' id<;>simp_all[Slot.step]
 rename_i v1 b1 s1 v2 b2 s2
 rcases hs with hs|⟨rfl,rfl,rfl⟩
 ·exact⟨by omega,λe=>by omega⟩
 ·exact h
theorem ZaF.mono {w w':World} {a:Addr} {us:List Value} (h:ZaF w a us) (hb:w'.heap[a.block]? =w.heap[a.block]?):ZaF w' a us:=by
 intro j u hj
 rw[<-h j u hj]
 have:(a.add j).block=a.block:=by unfold Addr.add;split<;>rfl
 simp only[World.cell?,this,hb]
def ZbO:AV->Bool
 | .val _| .any=>true
 | .agg cs=>cs.attach.all λ⟨c,_⟩=>ZbO c
 | .tup cs=>cs.attach.all λ⟨c,_⟩=>ZbO c
 | .sl _ _ cs=>cs.attach.all λ⟨c,_⟩=>ZbO c
 | .fp cs=>cs.attach.all λ⟨c,_⟩=>ZbO c
 | .fn _ cs=>cs.attach.all λ⟨c,_⟩=>ZbO c
 | .fmap ks vs=>(ks.attach.all λ⟨c,_⟩=>ZbO c)&&(vs.attach.all λ⟨c,_⟩=>ZbO c)
 | .own .. | .ptr .. | .mp .. =>false
def refsLt (L:Nat):AV->Bool
 | .val _| .any=>true
 | .agg cs=>cs.attach.all λ⟨c,_⟩=>refsLt L c
 | .tup cs=>cs.attach.all λ⟨c,_⟩=>refsLt L c
 | .sl _ _ cs=>cs.attach.all λ⟨c,_⟩=>refsLt L c
 | .fp cs=>cs.attach.all λ⟨c,_⟩=>refsLt L c
 | .fn _ cs=>cs.attach.all λ⟨c,_⟩=>refsLt L c
 | .fmap ks vs=>(ks.attach.all λ⟨c,_⟩=>refsLt L c)&&(vs.attach.all λ⟨c,_⟩=>refsLt L c)
 | .own id _ _ _ _| .ptr id _ _| .mp id=>decide (id<L)
theorem Zl {α:Type} (l:List α) (p:α->Bool):(l.attach.all λ⟨c,_⟩=>p c)=l.all p:=by
 have:(l.attach.all λx=>p x.1)=(l.attach.map (·.1)).all p:=by rw[List.all_map];rfl
 rw[this,List.attach_map_subtype_val]
mutual
theorem R.imp {Z Z':Nat->Prop} {w w':World} {κ κ':Nat->Slot} {a:AV} {v:Value} (h:R Z w κ a v) (hz:∀b,Z b->Z' b/\w'.heap[b]? =w.heap[b]?)
  (hk:∀id,κ id= .hole\/(κ id).step (κ' id)):R Z' w' κ' a v:=by
 cases h with
 |val h=>exact .val h
 |any=>exact .any
 |agg h=>exact .agg (h.imp hz hk)
 |tup h=>exact .tup (h.imp hz hk)
 |sl0 h h'=>exact .sl0 h h'
 |sl h0 h1 h2 h3 h4 h5 h6=>exact .sl h0 h1 h2 h3 (hz _ h4).1 (h5.mono (hz _ h4).2) (h6.imp hz hk)
 |fp h4 h5 h6=>exact .fp (hz _ h4).1 (h5.mono (hz _ h4).2) (h6.imp hz hk)
 |fn h=>exact .fn (h.imp hz hk)
 |fmap h1 h2 h3 h4 h5 h6=>exact .fmap (hz _ h1).1 (h2.of (hz _ h1).2) h3 h4 (h5.imp hz hk) (h6.imp hz hk)
 |own h0 h1 hA h2=>exact .own h0 h1 hA (h2.step ((hk _).resolve_left λe=>by simp[ZV,e] at h2))
 |ptr h2=>exact .ptr (h2.step ((hk _).resolve_left λe=>by simp[ZV,e] at h2))
 |mp h2=>exact .mp (h2.step ((hk _).resolve_left λe=>by simp[ZV,e] at h2))
theorem Rs.imp {Z Z':Nat->Prop} {w w':World} {κ κ':Nat->Slot} {as:List AV} {vs:List Value} (h:Rs Z w κ as vs) (hz:∀b,Z b->Z' b/\w'.heap[b]? =w.heap[b]?)
  (hk:∀id,κ id= .hole\/(κ id).step (κ' id)):Rs Z' w' κ' as vs:=by
 cases h with
 |nil=>exact .nil
 |cons h1 h2=>exact .cons (h1.imp hz hk) (h2.imp hz hk)
end
mutual
theorem R.lt {Z:Nat->Prop} {w:World} {κ κ':Nat->Slot} {L:Nat} {a:AV} {v:Value} (h:R Z w κ a v) (hl:refsLt L a=true) (hk:∀id,id<L->κ' id=κ id):R Z w κ' a v:=by
 cases h with
 |val h=>exact .val h
 |any=>exact .any
 |agg h=>exact .agg (h.lt (by simpa[refsLt] using hl) hk)
 |tup h=>exact .tup (h.lt (by simpa[refsLt] using hl) hk)
 |sl0 h h'=>exact .sl0 h h'
 |sl h0 h1 h2 h3 h4 h5 h6=>exact .sl h0 h1 h2 h3 h4 h5 (h6.lt (by simpa[refsLt] using hl) hk)
 |fp h4 h5 h6=>exact .fp h4 h5 (h6.lt (by simpa[refsLt] using hl) hk)
 |fn h=>exact .fn (h.lt (by simpa[refsLt] using hl) hk)
 |fmap h1 h2 h3 h4 h5 h6=>
  have hl':=hl
  simp only[refsLt,Bool.and_eq_true] at hl'
  exact .fmap h1 h2 h3 h4 (h5.lt (by simpa using hl'.1) hk) (h6.lt (by simpa using hl'.2) hk)
 |own h0 h1 hA h2=>exact .own h0 h1 hA (by simp[refsLt] at hl;unfold ZV at*;rw[hk _ hl];exact h2)
 |ptr h2=>exact .ptr (by simp[refsLt] at hl;unfold ZV at*;rw[hk _ hl];exact h2)
 |mp h2=>exact .mp (by simp[refsLt] at hl;unfold ZV at*;rw[hk _ hl];exact h2)
theorem Rs.lt {Z:Nat->Prop} {w:World} {κ κ':Nat->Slot} {L:Nat} {as:List AV} {vs:List Value} (h:Rs Z w κ as vs) (hl:∀a,a∈as->refsLt L a=true) (hk:∀id,id<L->κ' id=κ id):Rs Z w κ' as vs:=by
 cases h with
 |nil=>exact .nil
 |cons h1 h2=>exact .cons (h1.lt (hl _ (by simp)) hk) (h2.lt (λa ha=>hl a (by simp[ha])) hk)
end
theorem ZM (L:Nat):∀a:AV,ZbO a=true->refsLt L a=true
 | .val _,_| .any,_=>by simp[refsLt]
 | .agg cs,h=>by simp only[ZbO,refsLt,Zl,List.all_eq_true] at*;exact λc hc=>ZM L c (h c hc)
 | .tup cs,h=>by simp only[ZbO,refsLt,Zl,List.all_eq_true] at*;exact λc hc=>ZM L c (h c hc)
 | .sl _ _ cs,h=>by simp only[ZbO,refsLt,Zl,List.all_eq_true] at*;exact λc hc=>ZM L c (h c hc)
 | .fp cs,h=>by simp only[ZbO,refsLt,Zl,List.all_eq_true] at*;exact λc hc=>ZM L c (h c hc)
 | .fn _ cs,h=>by simp only[ZbO,refsLt,Zl,List.all_eq_true] at*;exact λc hc=>ZM L c (h c hc)
 | .fmap ks vs,h=>by
  simp only[ZbO,refsLt,Zl,List.all_eq_true,Bool.and_eq_true] at*
  exact⟨λc hc=>ZM L c (h.1 c hc),λc hc=>ZM L c (h.2 c hc)⟩
 | .own ..,h| .ptr ..,h| .mp ..,h=>by simp[ZbO] at h
theorem R.noRef_any {Z:Nat->Prop} {w:World} {κ κ':Nat->Slot} {a:AV} {v:Value} (h:R Z w κ a v) (hl:ZbO a=true):R Z w κ' a v:=
 h.lt (L:=0) (ZM 0 a hl) (λid hid=>by omega)
theorem Rs.noRef_any {Z:Nat->Prop} {w:World} {κ κ':Nat->Slot} {as:List AV} {vs:List Value} (h:Rs Z w κ as vs) (hl:∀a,a∈as->ZbO a=true):Rs Z w κ' as vs:=
 h.lt (L:=0) (λa ha=>ZM 0 a (hl a ha)) (λid hid=>by omega)
theorem Rs.length {Z:Nat->Prop} {w:World} {κ:Nat->Slot}:∀{as:List AV} {vs:List Value},Rs Z w κ as vs->as.length=vs.length
 |_,_,.nil=>rfl
 |_,_,.cons _ h=>by simp[h.length]
theorem Rs.get {Z:Nat->Prop} {w:World} {κ:Nat->Slot}:∀{as:List AV} {vs:List Value},Rs Z w κ as vs->∀(i:Nat) (a:AV),as[i]? =some a->∃v,vs[i]? =some v/\R Z w κ a v
 |_,_,.nil,i,a,h=>by simp at h
 |_,_,.cons h1 h2,0,a,h=>by simp at h;subst h;exact⟨_,by simp,h1⟩
 |_,_,.cons h1 h2,i+1,a,h=>by
  obtain⟨v,hv,hr⟩:=h2.get i a (by simpa using h)
  exact⟨v,by simpa using hv,hr⟩
theorem Rs.append {Z:Nat->Prop} {w:World} {κ:Nat->Slot}:∀{as:List AV} {vs:List Value} {bs:List AV} {us:List Value},Rs Z w κ as vs->Rs Z w κ bs us->Rs Z w κ (as++bs) (vs++us)
 |_,_,_,_,.nil,h=>h
 |_,_,_,_,.cons h1 h2,h=> .cons h1 (h2.append h)
theorem Rs.take {Z:Nat->Prop} {w:World} {κ:Nat->Slot}:∀{as:List AV} {vs:List Value},Rs Z w κ as vs->∀n,Rs Z w κ (as.take n) (vs.take n)
 |_,_,.nil,n=>by simp[Rs.nil]
 |_,_,.cons h1 h2,0=> .nil
 |_,_,.cons h1 h2,n+1=> .cons h1 (h2.take n)
theorem Rs.drop {Z:Nat->Prop} {w:World} {κ:Nat->Slot}:∀{as:List AV} {vs:List Value},Rs Z w κ as vs->∀n,Rs Z w κ (as.drop n) (vs.drop n)
 |_,_,.nil,n=>by simp[Rs.nil]
 |_,_,.cons h1 h2,0=> .cons h1 h2
 |_,_,.cons h1 h2,n+1=>h2.drop n
theorem Rs.set {Z:Nat->Prop} {w:World} {κ:Nat->Slot} {a:AV} {v:Value} (h:R Z w κ a v):∀{as:List AV} {vs:List Value},Rs Z w κ as vs->∀n,Rs Z w κ (as.set n a) (vs.set n v)
 |_,_,.nil,n=>by simp[Rs.nil]
 |_,_,.cons h1 h2,0=> .cons h h2
 |_,_,.cons h1 h2,n+1=> .cons h1 (Rs.set h h2 n)
theorem Rs.replicate {Z:Nat->Prop} {w:World} {κ:Nat->Slot} {a:AV} {v:Value} (h:R Z w κ a v):∀n,Rs Z w κ (List.replicate n a) (List.replicate n v)
 |0=> .nil
 |n+1=> .cons h (Rs.replicate h n)
end Go.Cx
set_option linter.unusedVariables false
namespace Go.Cx
inductive ABlk where
 |dead
 |cells (ver:Nat) (cs:List AV)
 |full (ver:Nat) (cs:List AV)
 |map (ks vs:List AV)
 |iter (ks vs:List AV) (todo:List Nat) (cur:Option Nat)
 |typed (E:TypeId) (ver:Nat) (cs:List AV)
abbrev Za:=List ABlk
def bigV:Nat:=1000000
def ZaG (w:World) (ver b:Nat) (c:Array Value) (E:TypeId):Prop:=∃fr:Nat×Nat,w.heap[b]? =some (.cells c E fr)/\(fr=(0,0)\/bigV<=ver/\c.size<=fr.1)
theorem ZaG.of {w:World} {b:Nat} {c:Array Value} {E:TypeId} (h:w.heap[b]? =some (.cells c E (0,0))) (ver:Nat):ZaG w ver b c E:=⟨_,h,.inl rfl⟩
theorem ZaG.to {w w':World} {ver b:Nat} {c:Array Value} {E:TypeId} (h:ZaG w ver b c E) (hk:w'.heap[b]? =w.heap[b]?):ZaG w' ver b c E:=by
 obtain⟨fr,h1,h2⟩:=h
 exact⟨fr,hk.trans h1,h2⟩
theorem ZaG.up {w:World} {ver ver' b:Nat} {c:Array Value} {E:TypeId} (h:ZaG w ver b c E) (hv:ver<=ver'):ZaG w ver' b c E:=by
 obtain⟨fr,h1,h2⟩:=h
 exact⟨fr,h1,h2.imp id λh=>⟨Nat.le_trans h.1 hv,h.2⟩⟩
theorem ZaG.lt {w:World} {ver b:Nat} {c:Array Value} {E:TypeId} (h:ZaG w ver b c E):b<w.heap.size:=by
 obtain⟨fr,h1,h2⟩:=h
 exact(Array.getElem?_eq_some_iff.1 h1).1
theorem ZaG.strict {w:World} {ver b:Nat} {c:Array Value} {E:TypeId} (h:ZaG w ver b c E) (hv:ver<bigV):w.heap[b]? =some (.cells c E (0,0)):=by
 obtain⟨fr,h1,h2⟩:=h
 rcases h2 with rfl|h2
 ·exact h1
 ·exact absurd h2.1 (Nat.not_le.2 hv)
def ZT (κ:Nat->Slot) (b:Nat):Prop:=∃id ver sz,κ id= .live ver (some b) sz
def ZaM (Z:Nat->Prop) (w:World) (κ:Nat->Slot) (id:Nat):ABlk->Prop
 | .dead=>κ id= .dead
 | .cells ver cs=>∃ob sz,κ id= .live ver ob sz/\match ob with
   |none=>cs=[]
   |some b=>∃(c:Array Value) (E:TypeId) (us:List Value),ZaG w ver b c E/\c.size=sz/\us.length<=c.size/\(∀(j:Nat) (u:Value),us[j]? =some u->c[j]? =some u)/\Rs Z w κ cs us
 | .typed E ver cs=>∃ob sz,κ id= .live ver ob sz/\match ob with
   |none=>cs=[]
   |some b=>∃(c:Array Value) (us:List Value),w.heap[b]? =some (.cells c E (0,0))/\c.size=sz/\us.length<=c.size/\(∀(j:Nat) (u:Value),us[j]? =some u->c[j]? =some u)/\Rs Z w κ cs us
 | .full ver cs=>∃(b:Nat) (c:Array Value) (E:TypeId),κ id= .live ver (some b) c.size/\w.heap[b]? =some (.cells c E (0,0))/\Rs Z w κ cs c.toList/\ver<bigV
 | .iter ks vs todo cur=>∃(b mb:Nat) (es:Array MapEntry) (clock:Nat) (seen:Array Nat) (last:Nat),κ id= .live 0 (some b) 0/\w.heap[b]? =some (.mapIter (some mb) clock seen last)/\Z mb/\Zqa w mb es clock/\
   Rs Z w κ ks (es.toList.map (·.key))/\Rs Z w κ vs (es.toList.map (·.val))/\todo.Nodup/\(∀i∈todo,i<es.size)/\(∀(i:Nat) (e:MapEntry),es[i]? =some e->(i∈todo↔e.born∉seen))/\
   last=clock/\(∀i,cur=some i->∃(e:MapEntry) (sn:Array Nat),es[i]? =some e/\seen=sn.push e.born)
 | .map ks vs=>∃(b:Nat) (es:Array MapEntry) (clock:Nat),κ id= .live 0 (some b) 0/\Zqa w b es clock/\Rs Z w κ ks (es.toList.map (·.key))/\Rs Z w κ vs (es.toList.map (·.val))
structure Rel (Z:Nat->Prop) (κ:Nat->Slot) (h:Za) (w:World):Prop where
 zlt:∀b,Z b->b<w.heap.size
 za:∀b,Z b->¬ZT κ b
 hole:∀id,h.length<=id->κ id= .hole
 blk:∀id x,h[id]? =some x->ZaM Z w κ id x
 inj:∀id id' ver ver' b sz sz',κ id= .live ver (some b) sz->κ id'= .live ver' (some b) sz'->id=id'
structure Ext (Z:Nat->Prop) (κ:Nat->Slot) (w:World) (Z':Nat->Prop) (κ':Nat->Slot) (w':World):Prop where
 os:w'.os=w.os
 tape:w'.tape=w.tape
 output:w'.output=w.output
 size:w.heap.size<=w'.heap.size
 keep:∀b,b<w.heap.size->¬ZT κ b->w'.heap[b]? =w.heap[b]?
 zin:∀b,Z b->Z' b
 znew:∀b,Z' b->Z b\/ZT κ b\/w.heap.size<=b
 anew:∀b,ZT κ' b->ZT κ b\/w.heap.size<=b
def Zq (κ κ':Nat->Slot):Prop:=∀id,κ id= .hole\/(κ id).step (κ' id)
def ZX (n:Nat) (κ κ':Nat->Slot):Prop:=∀id,id<n->(κ id).step (κ' id)
theorem Zq.refl (κ:Nat->Slot):Zq κ κ:=λ_=> .inr (Slot.step_refl _)
theorem Ext.refl (Z:Nat->Prop) (κ:Nat->Slot) (w:World):Ext Z κ w Z κ w:=
 ⟨rfl,rfl,rfl,Nat.le_refl _,λ_ _ _=>rfl,λ_ h=>h,λ_ h=> .inl h,λ_ h=> .inl h⟩
theorem Ext.trans {Z Z' Z'':Nat->Prop} {κ κ' κ'':Nat->Slot} {w w' w'':World} (h:Ext Z κ w Z' κ' w') (k:Ext Z' κ' w' Z'' κ'' w''):Ext Z κ w Z'' κ'' w'' where
 os:=k.os.trans h.os
 tape:=k.tape.trans h.tape
 output:=k.output.trans h.output
 size:=Nat.le_trans h.size k.size
 keep:=λb hb hn=>(k.keep b (Nat.lt_of_lt_of_le hb h.size) (λha=>(h.anew b ha).elim hn (by omega))).trans (h.keep b hb hn)
 zin:=λb hz=>k.zin b (h.zin b hz)
 znew:=λb hz=>by
  rcases k.znew b hz with h1|h1|h1
  ·exact h.znew b h1
  ·exact .inr (h.anew b h1)
  ·exact .inr (.inr (Nat.le_trans h.size h1))
 anew:=λb ha=>by
  rcases k.anew b ha with h1|h1
  ·exact h.anew b h1
  ·exact .inr (Nat.le_trans h.size h1)
theorem ZA {Z:Nat->Prop} {κ:Nat->Slot} {h:Za} {w:World} (r:Rel Z κ h w) {b:Nat} (ha:ZT κ b):b<w.heap.size:=by
 obtain⟨id,ver,sz,hk⟩:=ha
 have hid:id<h.length:=by
  rcases Nat.lt_or_ge id h.length with h1|h1
  ·exact h1
  ·rw[r.hole id h1] at hk;cases hk
 have hx:=r.blk id h[id] (by simp[hid])
 cases hb:h[id] with
 |dead=>rw[hb] at hx;simp only[ZaM] at hx;rw[hx] at hk;cases hk
 |cells v cs=>
  rw[hb] at hx
  obtain⟨ob,sz',h1,h2⟩:=hx
  rw[hk] at h1
  injection h1 with e1 e2 e3
  subst e2
  obtain⟨c,E,us,h3,_⟩:=h2
  exact h3.lt
 |typed E v cs=>
  rw[hb] at hx
  obtain⟨ob,sz',h1,h2⟩:=hx
  rw[hk] at h1
  injection h1 with e1 e2 e3
  subst e2
  obtain⟨c,us,h3,_⟩:=h2
  exact(Array.getElem?_eq_some_iff.1 h3).1
 |full v cs=>
  rw[hb] at hx
  obtain⟨b',c,E,h1,h2,_⟩:=hx
  rw[hk] at h1
  injection h1 with e1 e2 e3
  injection e2 with e2
  subst e2
  exact(Array.getElem?_eq_some_iff.1 h2).1
 |map ks vs=>
  rw[hb] at hx
  obtain⟨b',es,cl,h1,h2,_⟩:=hx
  rw[hk] at h1
  injection h1 with e1 e2 e3
  injection e2 with e2
  subst e2
  exact(Array.getElem?_eq_some_iff.1 h2.1).1
 |iter ks vs todo cur=>
  rw[hb] at hx
  obtain⟨b',mb,es,cl,sn,la,h1,h2,_⟩:=hx
  rw[hk] at h1
  injection h1 with e1 e2 e3
  injection e2 with e2
  subst e2
  exact(Array.getElem?_eq_some_iff.1 h2).1
theorem R.ext {Z Z':Nat->Prop} {κ κ':Nat->Slot} {h:Za} {w w':World} {a:AV} {v:Value} (hr:R Z w κ a v) (r:Rel Z κ h w) (e:Ext Z κ w Z' κ' w') (hs:Zq κ κ'):R Z' w' κ' a v:=
 hr.imp (λb hz=>⟨e.zin b hz,e.keep b (r.zlt b hz) (r.za b hz)⟩) hs
theorem Rs.ext {Z Z':Nat->Prop} {κ κ':Nat->Slot} {h:Za} {w w':World} {a:List AV} {v:List Value} (hr:Rs Z w κ a v) (r:Rel Z κ h w) (e:Ext Z κ w Z' κ' w') (hs:Zq κ κ'):Rs Z' w' κ' a v:=
 hr.imp (λb hz=>⟨e.zin b hz,e.keep b (r.zlt b hz) (r.za b hz)⟩) hs
def upd (κ:Nat->Slot) (id:Nat) (s:Slot):Nat->Slot:=λj=>if j=id then s else κ j
theorem Zk (κ:Nat->Slot) (id:Nat) (s:Slot):upd κ id s id=s:=by simp[upd]
theorem Zr (κ:Nat->Slot) {id j:Nat} (s:Slot) (h:j≠id):upd κ id s j=κ j:=by simp[upd,h]
theorem Zq.upd {κ:Nat->Slot} {id:Nat} {s:Slot} (h:κ id= .hole\/(κ id).step s):Zq κ (upd κ id s):=λj=>by
 by_cases hj:j=id
 ·subst hj;rw[Zk];exact h
 ·rw[Zr κ s hj];exact .inr (Slot.step_refl _)
theorem ZG (w:World) (o:Obj) {b:Nat} (h:b<w.heap.size):(w.alloc o).heap[b]? =w.heap[b]? :=RowKit.Below.heap_alloc w o b h
theorem Zal (w:World) (o:Obj):(w.alloc o).heap[w.heap.size]? =some o:=by show(w.heap.push o)[w.heap.size]? =_;simp
theorem ZaM.ext {Z Z':Nat->Prop} {κ κ':Nat->Slot} {h:Za} {w w':World} {id:Nat} {x:ABlk} (hx:ZaM Z w κ id x) (r:Rel Z κ h w) (e:Ext Z κ w Z' κ' w') (hs:Zq κ κ') (hk:κ' id=κ id)
  (hw:∀ver b sz,κ id= .live ver (some b) sz->w'.heap[b]? =w.heap[b]?):ZaM Z' w' κ' id x:=by
 cases x with
 |dead=>simp only[ZaM] at*;rw[hk];exact hx
 |cells ver cs=>
  obtain⟨ob,sz,h1,h2⟩:=hx
  refine⟨ob,sz,hk.trans h1,?_⟩
  cases ob with
  |none=>exact h2
  |some b=>
   obtain⟨c,E,us,h3,h4,h5,h6,h7⟩:=h2
   exact⟨c,E,us,h3.to (hw _ _ _ h1),h4,h5,h6,h7.ext r e hs⟩
 |typed E ver cs=>
  obtain⟨ob,sz,h1,h2⟩:=hx
  refine⟨ob,sz,hk.trans h1,?_⟩
  cases ob with
  |none=>exact h2
  |some b=>
   obtain⟨c,us,h3,h4,h5,h6,h7⟩:=h2
   exact⟨c,us,(hw _ _ _ h1).trans h3,h4,h5,h6,h7.ext r e hs⟩
 |full ver cs=>
  obtain⟨b,c,E,h1,h2,h3,h4⟩:=hx
  exact⟨b,c,E,hk.trans h1,(hw _ _ _ h1).trans h2,h3.ext r e hs,h4⟩
 |map ks vs=>
  obtain⟨b,es,cl,h1,h2,h3,h4⟩:=hx
  exact⟨b,es,cl,hk.trans h1,h2.of (hw _ _ _ h1),h3.ext r e hs,h4.ext r e hs⟩
 |iter ks vs todo cur=>
  obtain⟨b,mb,es,cl,sn,la,h1,h2,h3,h4,h5,h6,h7⟩:=hx
  exact⟨b,mb,es,cl,sn,la,hk.trans h1,(hw _ _ _ h1).trans h2,e.zin _ h3,h4.of (e.keep mb (r.zlt _ h3) (r.za _ h3)),h5.ext r e hs,h6.ext r e hs,h7⟩
theorem Zdn {Z:Nat->Prop} {κ:Nat->Slot} {h:Za} {w:World} (r:Rel Z κ h w) {cs:List AV} {us:List Value} (hu:Rs Z w κ cs us) (c:Array Value) (E:TypeId) (hc:us.length<=c.size) (hcu:∀(j:Nat) (u:Value),us[j]? =some u->c[j]? =some u):
  Rel Z (upd κ h.length (.live 0 (some w.heap.size) c.size)) (h++[.cells 0 cs]) (w.alloc (.cells c E))/\
  Ext Z κ w Z (upd κ h.length (.live 0 (some w.heap.size) c.size)) (w.alloc (.cells c E))/\Zq κ (upd κ h.length (.live 0 (some w.heap.size) c.size)):=by
 have hh:=r.hole h.length (Nat.le_refl _)
 have hs:Zq κ (upd κ h.length (.live 0 (some w.heap.size) c.size)):= .upd (.inl hh)
 have hal:∀b,ZT (upd κ h.length (.live 0 (some w.heap.size) c.size)) b->ZT κ b\/w.heap.size<=b:=by
  rintro b ⟨id,ver,sz,hk⟩
  by_cases hid:id=h.length
  ·subst hid;rw[Zk] at hk;injection hk with _ h2 _;injection h2 with h2;exact .inr (by omega)
  ·rw[Zr _ _ hid] at hk;exact .inl ⟨id,ver,sz,hk⟩
 have e:Ext Z κ w Z (upd κ h.length (.live 0 (some w.heap.size) c.size)) (w.alloc (.cells c E)):=
  ⟨rfl,rfl,rfl,by simp,λb hb _=>ZG w _ hb,λ_ h=>h,λ_ h=> .inl h,hal⟩
 refine⟨⟨λb hz=>by have:=r.zlt b hz;simp;omega,λb hz ha=> ?_,λid hid=> ?_,λid x hx=> ?_,?_⟩,e,hs⟩
 ·rcases hal b ha with h1|h1
  ·exact r.za b hz h1
  ·have:=r.zlt b hz;omega
 ·simp at hid
  rw[Zr _ _ (by omega)];exact r.hole id (by omega)
 ·by_cases hid:id=h.length
  ·subst hid
   simp at hx
   subst hx
   exact⟨some w.heap.size,c.size,Zk _ _ _,c,E,us,.of (Zal w _) _,rfl,hc,hcu,hu.ext r e hs⟩
  ·have hlt:id<h.length:=by
    have:=(List.getElem?_eq_some_iff.1 hx).1
    simp at this;omega
   rw[List.getElem?_append_left hlt] at hx
   exact(r.blk id x hx).ext r e hs (Zr _ _ hid) λver b sz hk=>ZG w _ (ZA r ⟨id,ver,sz,hk⟩)
 ·intro id id' ver ver' b sz sz' h1 h2
  by_cases hid:id=h.length<;>by_cases hid':id'=h.length
  ·omega
  ·subst hid
   rw[Zk] at h1;rw[Zr _ _ hid'] at h2
   injection h1 with _ h1 _;injection h1 with h1
   have:=ZA r ⟨id',ver',sz',h2⟩;omega
  ·subst hid'
   rw[Zk] at h2;rw[Zr _ _ hid] at h1
   injection h2 with _ h2 _;injection h2 with h2
   have:=ZA r ⟨id,ver,sz,h1⟩;omega
  ·rw[Zr _ _ hid] at h1;rw[Zr _ _ hid'] at h2
   exact r.inj _ _ _ _ _ _ _ h1 h2
theorem Zqb {Z:Nat->Prop} {κ:Nat->Slot} {h:Za} {w:World} (r:Rel Z κ h w) (o:Obj):
  Rel (λb=>Z b\/b=w.heap.size) κ h (w.alloc o)/\Ext Z κ w (λb=>Z b\/b=w.heap.size) κ (w.alloc o):=by
 have e:Ext Z κ w (λb=>Z b\/b=w.heap.size) κ (w.alloc o):=
  ⟨rfl,rfl,rfl,by simp,λb hb _=>ZG w _ hb,λ_ h=> .inl h,λb h=>h.imp id (λh=> .inr (by omega)),λ_ h=> .inl h⟩
 refine⟨⟨?_,?_,r.hole,λid x hx=> ?_,r.inj⟩,e⟩
 ·rintro b (hz|hz)
  ·have:=r.zlt b hz;simp;omega
  ·simp;omega
 ·rintro b (hz|hz) ha
  ·exact r.za b hz ha
  ·have:=ZA r ha;omega
 ·exact(r.blk id x hx).ext r e (.refl _) rfl λver b sz hk=>ZG w _ (ZA r ⟨id,ver,sz,hk⟩)
theorem ZjL (w:World) (b j:Nat) (u:Value) {c:Array Value} {E:TypeId} {fr:Nat×Nat} (h:w.heap[b]? =some (.cells c E fr)):(w.setCell ⟨b,j,none⟩ u).heap[b]? =some (.cells (c.setIfInBounds j u) E fr):=by
 simp[World.setCell,Array.getElem?_modify,h]
theorem ZgO (w:World) (b j:Nat) (u:Value) {b':Nat} (h:b'≠b):(w.setCell ⟨b,j,none⟩ u).heap[b']? =w.heap[b']? :=RowKit.Below.heap_setCell w _ u b' h
theorem Zqc {Z:Nat->Prop} {κ:Nat->Slot} {h:Za} {w:World} (r:Rel Z κ h w) {id ver b sz j:Nat} {cs:List AV} (hx:h[id]? =some (.cells ver cs)) (hk:κ id= .live ver (some b) sz) (hj:j<cs.length)
  {a:AV} {u:Value} (hu:R Z w κ a u):
  Rel Z κ (h.set id (.cells ver (cs.set j a))) (w.setCell ⟨b,j,none⟩ u)/\Ext Z κ w Z κ (w.setCell ⟨b,j,none⟩ u)/\(∃v,w.cell? ⟨b,j,none⟩=some v)/\w.frozen? ⟨b,j,none⟩=false:=by
 have hal:ZT κ b:=⟨id,ver,sz,hk⟩
 have e:Ext Z κ w Z κ (w.setCell ⟨b,j,none⟩ u):=
  ⟨rfl,rfl,rfl,by simp,λb' hb' hn=>ZgO w b j u (λe=>hn (e▸hal)),λ_ h=>h,λ_ h=> .inl h,λ_ h=> .inl h⟩
 have hx':=r.blk id _ hx
 obtain⟨ob,sz',h1,h2⟩:=hx'
 rw[hk] at h1
 injection h1 with e1 e2 e3
 subst e2 e3
 obtain⟨c,E,us,⟨fr,h3,h3f⟩,h4,h5,h6,h7⟩:=h2
 have hl:=h7.length
 refine⟨⟨λb hz=>by have:=r.zlt b hz;simpa using this,r.za,λid' hid'=>r.hole id' (by simpa using hid'),λid' x hx'=> ?_,r.inj⟩,e,?_,?_⟩
 ·by_cases hid:id'=id
  ·subst hid
   have hlt:=(List.getElem?_eq_some_iff.1 hx).1
   rw[List.getElem?_set_self hlt] at hx'
   injection hx' with hx'
   subst hx'
   refine⟨some b,sz,hk,c.setIfInBounds j u,E,us.set j u,⟨_,ZjL w b j u h3,by simpa using h3f⟩,by simpa using h4,by simpa using h5,λi v hi=> ?_,(Rs.set hu h7 j).ext r e (.refl _)⟩
   by_cases hij:i=j
   ·subst hij
    rw[List.getElem?_set_self (by omega)] at hi
    rw[Array.getElem?_setIfInBounds_self_of_lt (by omega)]
    exact hi
   ·rw[List.getElem?_set_ne (Ne.symm hij)] at hi
    rw[Array.getElem?_setIfInBounds_ne (Ne.symm hij)]
    exact h6 i v hi
  ·rw[List.getElem?_set_ne (Ne.symm hid)] at hx'
   refine(r.blk id' x hx').ext r e (.refl _) rfl λver' b' sz' hk'=>ZgO w b j u λeb=>hid ?_
   subst eb
   exact r.inj _ _ _ _ _ _ _ hk' hk
 ·refine⟨c[j],?_⟩
  simp[World.cell?,h3]
 ·rcases h3f with rfl|⟨_,h3f⟩
  ·simp[World.frozen?,h3]
  ·simp[World.frozen?,h3];intro;omega
end Go.Cx
set_option linter.unusedVariables false
namespace Go.Cx
def Zd (P:Program) (t:TypeId):Option Nat:=(P.info? t).map (·.size)
def aggDesc:TypeDesc->Bool
 | .struct _| .array _ _=>true
 |_=>false
def tagg (P:Program) (t:TypeId):Option Bool:=(P.underlying t).map aggDesc
def Zaj:Value->AV
 | .bool b=> .val (.bool b)
 | .int k n=> .val (.int k n)
 | .float k n=> .val (.float k n)
 | .complex k a b=> .val (.complex k a b)
 | .string s=> .val (.string s)
 | .pointer none=> .val (.pointer none)
 | .map none=> .val (.map none)
 | .nilFunc=> .val .nilFunc
 | .nilIface=> .val .nilIface
 | .slice none 0 0=> .sl true 0 []
 |_=> .any
def ZU (P:Program) (t:TypeId):Option (List AV):=((P.info? t).bind (·.zero)).map λz=>z.cells.toList.map Zaj
def sliceElem:TypeDesc->Option TypeId
 | .slice e=>some e
 |_=>none
def Zab (P:Program) (t:TypeId):Option TypeId:=(P.underlying t).bind sliceElem
def structField (i:Nat):TypeDesc->Option Field
 | .struct fs=>fs[i]?
 |_=>none
def Zf (P:Program) (t:TypeId) (i:Nat):Option (Nat×TypeId×Nat):=((P.underlying t).bind (structField i)).bind λf=>(P.info? f.type).map λu=>(f.offset,f.type,u.size)
variable {P:Program} {Z:Nat->Prop} {κ:Nat->Slot} {h:Za} {w:World}
theorem ZsD (v:Value):R Z w κ (Zaj v) v:=by
 unfold Zaj
 split
 all_goals first
  |exact .val rfl
  |exact .sl0 (λ_=>rfl) (by simp[maxLen])
  |exact .any
theorem ZbB:∀l:List Value,Rs Z w κ (l.map Zaj) l
 |[]=> .nil
 |v::l=> .cons (ZsD v) (ZbB l)
def ofV:Value->AV
 | .agg cs=> .agg (cs.toList.map Zaj)
 | .tuple cs=> .tup (cs.toList.map Zaj)
 |v=>Zaj v
theorem ZkE (v:Value):R Z w κ (ofV v) v:=by
 unfold ofV
 split
 ·exact .agg (ZbB _)
 ·exact .tup (ZbB _)
 ·exact ZsD _
def Zy:AV->Bool
 | .any| .agg _| .tup _=>false
 |_=>true
theorem one_of {a:AV} {v:Value} (hr:R Z w κ a v) (hi:Zy a=true):v.oneCell'=true:=by
 cases hr<;>first
  |(simp[Zy] at hi;done)
  |rfl
  |(rename_i hp;exact Zgl hp)
def cellsOf:AV->Option (List AV)
 | .agg cs=>some cs
 | .any| .tup _=>none
 |a=>some [a]
theorem ZkF {v:Value} (hv:v.oneCell'=true):v.cells= #[v]:=by
 cases v<;>first|rfl|(simp[Value.oneCell'] at hv)
theorem ZfJ {a:AV} {v:Value} {cs:List AV} (hr:R Z w κ a v) (hc:cellsOf a=some cs):∃us:List Value,v.cells=us.toArray/\Rs Z w κ cs us:=by
 cases hr with
 |agg h=>simp only[cellsOf,Option.some.injEq] at hc;subst hc;exact⟨_,rfl,h⟩
 |any=>simp[cellsOf] at hc
 |tup h=>simp[cellsOf] at hc
 |val hp=>simp only[cellsOf,Option.some.injEq] at hc;subst hc;exact⟨[v],by rw[ZkF (Zgl hp)],.cons (.val hp) .nil⟩
 |sl0 h1 h2=>simp only[cellsOf,Option.some.injEq] at hc;subst hc;exact⟨[_],rfl,.cons (.sl0 h1 h2) .nil⟩
 |sl h0 h1 h2 h3 h4 h5 h6=>simp only[cellsOf,Option.some.injEq] at hc;subst hc;exact⟨[_],rfl,.cons (.sl h0 h1 h2 h3 h4 h5 h6) .nil⟩
 |fp h1 h2 h3=>simp only[cellsOf,Option.some.injEq] at hc;subst hc;exact⟨[_],rfl,.cons (.fp h1 h2 h3) .nil⟩
 |fn h1=>simp only[cellsOf,Option.some.injEq] at hc;subst hc;exact⟨[_],rfl,.cons (.fn h1) .nil⟩
 |fmap h1 h2 h3 h4 h5 h6=>simp only[cellsOf,Option.some.injEq] at hc;subst hc;exact⟨[_],rfl,.cons (.fmap h1 h2 h3 h4 h5 h6) .nil⟩
 |own h0 h1 hA h2=>simp only[cellsOf,Option.some.injEq] at hc;subst hc;exact⟨[_],rfl,.cons (.own h0 h1 hA h2) .nil⟩
 |ptr h2=>simp only[cellsOf,Option.some.injEq] at hc;subst hc;exact⟨[_],rfl,.cons (.ptr h2) .nil⟩
 |mp h2=>simp only[cellsOf,Option.some.injEq] at hc;subst hc;exact⟨[_],rfl,.cons (.mp h2) .nil⟩
theorem run_tsize {t:TypeId} {k:Nat} (ht:Zd P t=some k) (w:World):(sizeOf t).run P w= .ok k w:=by
 obtain⟨i,hi,hk⟩:=Option.map_eq_some_iff.1 ht
 simp[sizeOf,typeInfo,hi,hk]
theorem ZgB {t:TypeId} {g:Bool} (ht:tagg P t=some g) (w:World):(isAgg t).run P w= .ok g w:=by
 obtain⟨d,hd,hg⟩:=Option.map_eq_some_iff.1 ht
 simp only[isAgg,Sem.run_bind,run_underlying hd,Result.andThen_ok]
 cases d<;>simp_all[aggDesc]
theorem run_telem {t e:TypeId} (ht:Zab P t=some e):P.underlying t=some (.slice e):=by
 obtain⟨d,hd,hg⟩:=Option.bind_eq_some_iff.1 ht
 cases d<;>simp_all[sliceElem]
theorem Zdo {t:TypeId} {zs:List AV} (ht:ZU P t=some zs) (w:World):∃z:Value,(zeroValue t).run P w= .ok z w/\zs=z.cells.toList.map Zaj:=by
 obtain⟨z,hz,hg⟩:=Option.map_eq_some_iff.1 ht
 obtain⟨i,hi,hz⟩:=Option.bind_eq_some_iff.1 hz
 exact⟨z,by simp[zeroValue,typeInfo,hi,hz],hg.symm⟩
def Out (Z:Nat->Prop) (κ:Nat->Slot) (w:World) (v:AV) (h':Za) (r:Result Next):Prop:=
 ∃c w' Z' κ',(r= .ok (.value c) w'\/r= .ok .skip w'/\c=undef)/\Rel Z' κ' h' w'/\R Z' w' κ' v c/\Ext Z κ w Z' κ' w'/\Zq κ κ'
def blkCells:ABlk->Option (Nat×List AV)
 | .cells ver cs=>some (ver,cs)
 | .full ver cs=>some (ver,cs)
 | .typed _ ver cs=>some (ver,cs)
 |_=>none
def setBlk (cs:List AV):ABlk->ABlk
 | .cells ver _=> .cells ver cs
 | .full ver _=> .full ver cs
 | .typed E ver _=> .typed E ver cs
 |b=>b
theorem Rel.reblk (r:Rel Z κ h w) {id:Nat} {y:ABlk} (hid:id<h.length) (hy:ZaM Z w κ id y):Rel Z κ (h.set id y) w:=
 ⟨r.zlt,r.za,λj hj=>r.hole j (by simpa using hj),λj x hx=>by
  by_cases hj:j=id
  ·subst hj
   rw[List.getElem?_set_self hid] at hx
   injection hx with hx;subst hx;exact hy
  ·rw[List.getElem?_set_ne (Ne.symm hj)] at hx
   exact r.blk j x hx,r.inj⟩
theorem Zqd {id ver:Nat} {cs:List AV} (h:ZaM Z w κ id (.full ver cs)):ZaM Z w κ id (.cells ver cs):=by
 obtain⟨b,c,E,h1,h2,h3,_⟩:=h
 exact⟨some b,c.size,h1,c,E,c.toList,.of h2 _,rfl,by simp,λj u hj=>by simpa using hj,h3⟩
theorem ZmG {id ver:Nat} {E:TypeId} {cs:List AV} (h:ZaM Z w κ id (.typed E ver cs)):ZaM Z w κ id (.cells ver cs):=by
 obtain⟨ob,sz,h1,h2⟩:=h
 refine⟨ob,sz,h1,?_⟩
 cases ob with
 |none=>exact h2
 |some b=>
  obtain⟨c,us,h3,h4⟩:=h2
  exact⟨c,E,us,.of h3 _,h4⟩
theorem Zwa {id ver b:Nat} {cs:List AV} (h:ZaM Z w κ id (.cells ver cs)) (hk:κ id= .live ver (some b) cs.length) (hv:ver<bigV):ZaM Z w κ id (.full ver cs):=by
 obtain⟨ob,sz,h1,h2⟩:=h
 rw[hk] at h1
 injection h1 with _ e1 e2
 subst e1 e2
 obtain⟨c,E,us,h3,h4,h5,h6,h7⟩:=h2
 have hl:=h7.length
 have:us=c.toList:=by
  apply List.ext_getElem?
  intro j
  by_cases hj:j<us.length
  ·have:=h6 j us[j] (by simp[hj])
   simpa[hj] using this.symm
  ·rw[List.getElem?_eq_none (by omega),List.getElem?_eq_none (by simp;omega)]
 subst this
 exact⟨b,c,E,by rw[hk,h4],h3.strict hv,h7,hv⟩
theorem ZgP {id ver:Nat} {cs:List AV} {x:ABlk} (h:ZaM Z w κ id x) (hx:blkCells x=some (ver,cs)):ZaM Z w κ id (.cells ver cs):=by
 cases x<;>simp only[blkCells,Option.some.injEq,Prod.mk.injEq,reduceCtorEq] at hx
 ·obtain⟨rfl,rfl⟩:=hx;exact h
 ·obtain⟨rfl,rfl⟩:=hx;exact Zqd h
 ·obtain⟨rfl,rfl⟩:=hx;exact ZmG h
theorem ZgC {id:Nat} {x:ABlk} (hx:h[id]? =some x):h.set id x=h:=by
 apply List.ext_getElem?
 intro j
 by_cases hj:j=id
 ·subst hj;rw[List.getElem?_set_self (List.getElem?_eq_some_iff.1 hx).1,hx]
 ·rw[List.getElem?_set_ne (Ne.symm hj)]
theorem ZeS (r:Rel Z κ h w) {id ver:Nat} {cs:List AV} {x:ABlk} (hx:h[id]? =some x) (hc:blkCells x=some (ver,cs)):Rel Z κ (h.set id (.cells ver cs)) w:=
 r.reblk (List.getElem?_eq_some_iff.1 hx).1 (ZgP (r.blk id x hx) hc)
def Ziy (g:Bool) (k:Nat) (cs:List AV):Option AV:=if g then(if k<=cs.length then some (.agg (cs.take k)) else none) else cs.head?
def Zdp (P:Program) (t:TypeId) (p:AV) (h:Za):Option AV:=
 match tagg P t,Zd P t with
 |some g,some k=>match p with
  | .ptr id ver off=>match h[id]? with
   |some x=>match blkCells x with
    |some (ver',cs)=>if ver=ver' then Ziy g k (cs.drop off) else none
    |none=>none
   |none=>none
  | .fp cs=>Ziy g k cs
  |_=>none
 |_,_=>none
theorem ZkG {t:TypeId} {g:Bool} {k:Nat} {cs:List AV} {v:AV} {us:List Value} {a:Addr} (h1:tagg P t=some g) (h2:Zd P t=some k) (hv:Ziy g k cs=some v) (hu:Rs Z w κ cs us) (ha:ZaF w a us):
  ∃c,(loadVar t a).run P w= .ok c w/\R Z w κ v c:=by
 unfold Ziy at hv
 cases g with
 |true=>
  simp only[if_true] at hv
  split at hv
  ·rename_i hk
   injection hv with hv
   subst hv
   have hl:=hu.length
   have hlen:(us.take k).length=k:=by simp;omega
   have hload:=run_loadCells_list (P:=P) w a (us.take k) (λj v hj=>by
    have hjk:j<k:=by have:=(List.getElem?_eq_some_iff.1 hj).1;simp at this;omega
    rw[List.getElem?_take_of_lt hjk] at hj
    exact ha j v hj)
   rw[hlen] at hload
   exact⟨_,by simp only[loadVar,Sem.run_bind,ZgB h1,run_tsize h2,Result.andThen_ok,if_true,hload,Sem.run_pure],.agg (hu.take k)⟩
  ·cases hv
 |false=>
  simp only[Bool.false_eq_true,if_false] at hv
  cases hu with
  |nil=>simp at hv
  |cons h3 h4=>
   simp at hv
   subst hv
   rename_i u _ us'
   have h0:=ha 0 u (by simp)
   have e0:a.add 0=a:=by simp[Addr.add]
   rw[e0] at h0
   exact⟨u,by simp[loadVar,Sem.run_bind,ZgB h1,h0],h3⟩
theorem ZbE (r:Rel Z κ h w) {id ver off:Nat} {cs:List AV} {c:Value} (hp:R Z w κ (.ptr id ver off) c) (hx:h[id]? =some (.cells ver cs)):
  ∃b sz arr E us,κ id= .live ver (some b) sz/\c= .pointer (some ⟨b,off,none⟩)/\ZaG w ver b arr E/\arr.size=sz/\us.length<=arr.size/\(∀(j:Nat) (u:Value),us[j]? =some u->arr[j]? =some u)/\Rs Z w κ cs us:=by
 cases hp with
 |ptr h2=>
  obtain⟨ob,sz,h3,h4⟩:=r.blk id _ hx
  simp only[ZV,h3] at h2
  have h5:=h2.2 trivial
  cases ob with
  |none=>exact h5.elim
  |some b=>
   obtain⟨arr,E,us,h6,h7,h8,h9,h10⟩:=h4
   exact⟨b,sz,arr,E,us,h3,by rw[show _=_ from h5],h6,h7,h8,h9,h10⟩
theorem ZaT (b o j:Nat):(⟨b,o,none⟩:Addr).add j=⟨b,o+j,none⟩:=by unfold Addr.add;split<;>simp_all
theorem ZaC {b:Nat} {arr:Array Value} {E:TypeId} {us:List Value} {ver:Nat} (h1:ZaG w ver b arr E) (h2:∀(j:Nat) (u:Value),us[j]? =some u->arr[j]? =some u) (off:Nat):ZaF w ⟨b,off,none⟩ (us.drop off):=by
 intro j u hj
 rw[List.getElem?_drop] at hj
 rw[ZaT]
 obtain⟨fr,h1,_⟩:=h1
 simp[World.cell?,h1,h2 _ _ hj]
theorem Zon {t:TypeId} {p v:AV} {c:Value} (r:Rel Z κ h w) (hp:R Z w κ p c) (hv:Zdp P t p h=some v):∃u,(Instr.loadAt t c).run P w= .ok u w/\R Z w κ v u:=by
 unfold Zdp at hv
 split at hv
 ·rename_i g k h1 h2
  split at hv
  ·rename_i id ver off
   split at hv
   ·rename_i x hx
    split at hv
    ·rename_i ver' cs hxc
     split at hv
     ·rename_i he
      subst he
      obtain⟨b,sz,arr,E,us,h3,rfl,h5,h6,h7,h8,h9⟩:=ZbE (ZeS r hx hxc) hp (List.getElem?_set_self (List.getElem?_eq_some_iff.1 hx).1)
      obtain⟨u,hu,hr⟩:=ZkG h1 h2 hv (h9.drop off) (ZaC h5 h8 off)
      exact⟨u,by simp only[Instr.loadAt,Instr.sureAddr,Sem.run_bind,Sem.run_pure,Result.andThen_ok,hu],hr⟩
     ·cases hv
    ·cases hv
   ·cases hv
  ·rename_i cs
   cases hp with
   |fp h3 h4 h5=>
    obtain⟨u,hu,hr⟩:=ZkG h1 h2 hv h5 h4
    exact⟨u,by simp only[Instr.loadAt,Instr.sureAddr,Sem.run_bind,Sem.run_pure,Result.andThen_ok,hu],hr⟩
  ·cases hv
 ·cases hv
def setMany (cs:List AV) (off:Nat):List AV->List AV
 |[]=>cs
 |v::vs=>setMany (cs.set off v) (off+1) vs
def ZgQ (P:Program) (t:TypeId) (p v:AV) (h:Za):Option Za:=
 match p,cellsOf v,Zd P t with
 | .ptr id ver off,some vs,some k=>match h[id]? with
  |some (.cells ver' cs)=>if ver=ver'/\vs.length=k/\off+k<=cs.length/\vs.all Zy=true then some (h.set id (.cells ver (setMany cs off vs))) else none
  |_=>none
 |_,_,_=>none
theorem Zbn {id ver b sz:Nat} (hk:κ id= .live ver (some b) sz):∀(vs:List AV) (us:List Value) (i off:Nat) (cs:List AV) (h:Za) (w:World),Rel Z κ h w->h[id]? =some (.cells ver cs)->Rs Z w κ vs us->
  off+i+vs.length<=cs.length->vs.all Zy=true->∃w',(storeCells ⟨b,off,none⟩ us i).run P w= .ok () w'/\Rel Z κ (h.set id (.cells ver (setMany cs (off+i) vs))) w'/\Ext Z κ w Z κ w'
 |[],us,i,off,cs,h,w,r,hx,hu,hl,ho=>by
  cases hu
  refine⟨w,by simp[storeCells],?_,.refl _ _ _⟩
  have:h.set id (.cells ver cs)=h:=by
   apply List.ext_getElem?
   intro j
   by_cases hj:j=id
   ·subst hj;rw[List.getElem?_set_self (List.getElem?_eq_some_iff.1 hx).1,hx]
   ·rw[List.getElem?_set_ne (Ne.symm hj)]
  simpa[setMany,this] using r
 |v::vs,us,i,off,cs,h,w,r,hx,hu,hl,ho=>by
  cases hu with
  |cons h1 h2=>
   rename_i u us'
   simp only[List.all_cons,Bool.and_eq_true] at ho
   have hj:off+i<cs.length:=by simp at hl;omega
   obtain⟨r',e,⟨u0,hc⟩,hf⟩:=Zqc r hx hk hj h1
   have h3:(h.set id (.cells ver (cs.set (off+i) v)))[id]? =some (.cells ver (cs.set (off+i) v)):=List.getElem?_set_self (List.getElem?_eq_some_iff.1 hx).1
   obtain⟨w',h4,h5,h6⟩:=Zbn hk vs us' (i+1) off _ _ _ r' h3 (h2.ext r e (.refl _)) (by simp at hl⊢;omega) ho.2
   refine⟨w',?_,?_,e.trans h6⟩
   ·simp only[storeCells,Sem.run_bind,ZaT,run_store P w _ _ _ (one_of h1 ho.1),hc,hf,Bool.false_eq_true,if_false,Result.andThen_ok,h4]
   ·rw[List.set_set] at h5
    exact h5
theorem ZsE {t:TypeId} {p v:AV} {c d:Value} {h':Za} (r:Rel Z κ h w) (hp:R Z w κ p c) (hd:R Z w κ v d) (hv:ZgQ P t p v h=some h'):
  ∃w',(Instr.storeAt t c d).run P w= .ok () w'/\Rel Z κ h' w'/\Ext Z κ w Z κ w':=by
 unfold ZgQ at hv
 split at hv
 ·rename_i id ver off vs k h1 h2
  split at hv
  ·rename_i ver' cs hx
   split at hv
   ·rename_i he
    obtain⟨rfl,h3,h4,h5⟩:=he
    injection hv with hv
    subst hv
    obtain⟨b,sz,arr,E,us,h6,rfl,h7,h8,h9,h10,h11⟩:=ZbE r hp hx
    obtain⟨ds,hds,hrs⟩:=ZfJ hd h1
    obtain⟨w',h12,h13,h14⟩:=Zbn (P:=P) h6 vs ds 0 off cs h w r hx hrs (by omega) h5
    refine⟨w',?_,by simpa using h13,h14⟩
    have hsz:ds.length=k:=by rw[<-h3,hrs.length]
    simp only[Instr.storeAt,Instr.sureAddr,Sem.run_bind,Sem.run_pure,Result.andThen_ok,storeVar,run_tsize h2,hds]
    simpa[hsz] using h12
   ·cases hv
  ·cases hv
 ·cases hv
def ZkH (P:Program) (t:TypeId) (p:AV) (i:Nat):Option AV:=
 match Zf P t i with
 |some (off,_,k)=>if k=0 then none else match p with
  | .ptr id ver o=>some (.ptr id ver (o+off))
  | .fp cs=>some (.fp (cs.drop off))
  |_=>none
 |none=>none
theorem Ziz {t:TypeId} {i off ft k:Nat} (ht:Zf P t i=some (off,ft,k)):∃fs f,P.underlying t=some (.struct fs)/\fs[i]? =some f/\f.offset=off/\f.type=ft/\Zd P ft=some k:=by
 obtain⟨f,hf,hi⟩:=Option.bind_eq_some_iff.1 ht
 obtain⟨d,hd,hf⟩:=Option.bind_eq_some_iff.1 hf
 cases d<;>simp only[structField,reduceCtorEq] at hf
 rename_i fs
 obtain⟨u,hu,he⟩:=Option.map_eq_some_iff.1 hi
 injection he with h1 h2
 injection h2 with h2 h3
 exact⟨fs,f,hd,hf,h1,h2,by rw[<-h2];simp[Zd,hu,h3]⟩
theorem ZaF.drop {a:Addr} {us:List Value} (hc:ZaF w a us) (n:Nat):ZaF w (a.add n) (us.drop n):=by
 intro j u hj
 rw[List.getElem?_drop] at hj
 have:=hc (n+j) u hj
 have e:(a.add n).add j=a.add (n+j):=by
  unfold Addr.add
  by_cases h1:n=0<;>by_cases h2:j=0<;>simp[h1,h2,Nat.add_assoc]
 rw[e];exact this
theorem ZgR (a:Addr) (n:Nat):(a.add n).block=a.block:=by unfold Addr.add;split<;>rfl
theorem ZsF {id ver off n:Nat} {a:Addr} (hp:R Z w κ (.ptr id ver off) (.pointer (some a))):R Z w κ (.ptr id ver (off+n)) (.pointer (some (a.add n))):=by
 cases hp with
 |ptr h2=>
  refine .ptr ?_
  unfold ZV at*
  split at h2
  ·exact h2
  ·trivial
  ·rename_i v b sz hk
   refine⟨h2.1,λhe=> ?_⟩
   have h3:=h2.2 he
   cases b with
   |none=>exact h3.elim
   |some b=>
    simp only[ZmF] at h3⊢
    rw[h3,ZaT]
theorem ZsG {t:TypeId} {p v:AV} {c:Value} {i:Nat} (hp:R Z w κ p c) (hv:ZkH P t p i=some v):
  ∃u,(Instr.fieldAt t c i).run P w= .ok u w/\R Z w κ v u:=by
 unfold ZkH at hv
 split at hv
 ·rename_i off ft k ht
  split at hv
  ·cases hv
  ·rename_i hk
   obtain⟨fs,f,h1,h2,rfl,rfl,h3⟩:=Ziz ht
   have key:∀a:Addr,c= .pointer (some a)->(Instr.fieldAt t c i).run P w= .ok (.pointer (some (a.add f.offset))) w:=by
    rintro a rfl
    simp only[Instr.fieldAt,Sem.run_bind,run_underlying h1,Result.andThen_ok,h2,Instr.sureAddr,Sem.run_pure,fieldPlace,run_tsize h3,hk,if_false]
   split at hv
   ·rename_i id ver o
    injection hv with hv
    subst hv
    have hp':=hp
    cases hp with
    |ptr h2=>exact⟨_,key _ rfl,ZsF hp'⟩
   ·rename_i cs
    injection hv with hv
    subst hv
    cases hp with
    |fp h4 h5 h6=>exact⟨_,key _ rfl,.fp (by rw[ZgR];exact h4) (h5.drop _) (h6.drop _)⟩
   ·cases hv
 ·cases hv
end Go.Cx
set_option linter.unusedVariables false
namespace Go.Cx
variable {P:Program} {Z:Nat->Prop} {κ:Nat->Slot} {h:Za} {w:World}
theorem ZaF.take {a:Addr} {us:List Value} (hc:ZaF w a us) (n:Nat):ZaF w a (us.take n):=λj u hj=>by
 refine hc j u ?_
 rw[List.getElem?_take] at hj
 split at hj
 ·exact hj
 ·cases hj
def ZL (P:Program) (t:TypeId):Option Nat:=(Zab P t).bind (Zd P)
theorem ZaN {t:TypeId} {k:Nat} (ht:ZL P t=some k):∃e,P.underlying t=some (.slice e)/\Zd P e=some k:=by
 obtain⟨e,he,hk⟩:=Option.bind_eq_some_iff.1 ht
 exact⟨e,run_telem he,hk⟩
def ZkI (P:Program) (t:TypeId) (x i:AV):Option AV:=
 match ZL P t,i with
 |some k,.val (.int _ n)=>match x with
  | .sl _ len cs=>if 0<=n/\n<len then some (.fp ((cs.drop (n.toNat*k)).take k)) else none
  | .own id ver off len k'=>if 0<=n/\n<len/\k'=k then some (.ptr id ver ((off+n.toNat)*k)) else none
  |_=>none
 |_,_=>none
theorem ZsH {t:TypeId} {x i v:AV} {c d:Value} (hx:R Z w κ x c) (hi:R Z w κ i d) (hv:ZkI P t x i=some v):∃u,(Instr.indexAt t c d).run P w= .ok u w/\R Z w κ v u:=by
 unfold ZkI at hv
 split at hv
 ·rename_i k ki n h1
  obtain⟨e,he,hk⟩:=ZaN h1
  cases hi with
  |val hp=>
   have key:∀(a:Addr) (len cap:Nat),0<=n->n<len->(Instr.indexAt t (.slice (some a) len cap) (.int ki n)).run P w= .ok (.pointer (some (a.add (n.toNat*k)))) w:=by
    intro a len cap h0 h2
    simp only[Instr.indexAt,asIntOf,Sem.run_bind,Sem.run_pure,Result.andThen_ok,run_underlying he]
    simp[h0,h2,run_tsize hk]
   split at hv
   ·rename_i tt len cs
    split at hv
    ·rename_i hn
     injection hv with hv
     subst hv
     cases hx with
     |sl0=>omega
     |sl h2 h3 h4 h5 h6 h7 h8=>exact⟨_,key _ _ _ hn.1 hn.2,.fp (by rw[ZgR];exact h6) ((h7.drop _).take _) ((h8.drop _).take _)⟩
    ·cases hv
   ·rename_i id ver off len k'
    split at hv
    ·rename_i hn
     obtain⟨hn0,hn1,rfl⟩:=hn
     injection hv with hv
     subst hv
     cases hx with
     |own h2 h3 h4 h5=>
      rename_i A cap
      obtain⟨a,rfl⟩:∃a,A=some a:=by
       have:=h4 (by omega)
       cases A with
       |none=>exact absurd rfl this
       |some a=>exact⟨a,rfl⟩
      refine⟨_,key _ _ _ hn0 hn1,.ptr ?_⟩
      unfold ZV at*
      split at h5
      ·exact h5
      ·trivial
      ·rename_i v b sz hk'
       refine⟨h5.1,λe=> ?_⟩
       have h6:=h5.2 e
       cases b with
       |none=>simp only[Zdm] at h6;omega
       |some b=>
        simp only[Zdm,ZmF] at h6⊢
        obtain⟨_,_,⟨a',h7,h8⟩,_⟩:=h6
        injection h7 with h7
        subst h7
        rw[h8 (by omega),ZaT,Nat.add_mul]
    ·cases hv
   ·cases hv
 ·cases hv
def ZgS:AV->Option Int
 | .val (.int _ n)=>some n
 |_=>none
def ZaH (d:Int):Option AV->Option Int
 |none=>some d
 |some v=>ZgS v
def ZgT (P:Program) (t:TypeId) (x:AV) (lo hi mx:Option AV):Option AV:=
 match ZL P t,x with
 |some k,.sl tight len cs=>match ZaH 0 lo,ZaH len hi,mx with
  |some l,some h,none=>if 0<=l/\l<=h/\h<=len then some (.sl (tight&&decide (h=len)) (h.toNat -l.toNat) ((cs.drop (l.toNat*k)).take ((h.toNat -l.toNat)*k))) else none
  |some l,some h,some m=>match ZgS m with
   |some m=>if 0<=l/\l<=h/\h<=m/\m<=len/\hi.isSome then some (.sl (decide (m=h)) (h.toNat -l.toNat) ((cs.drop (l.toNat*k)).take ((h.toNat -l.toNat)*k))) else none
   |none=>none
  |_,_,_=>none
 |some k,.own id ver off len k'=>match ZaH 0 lo,ZaH len hi,mx with
  |some l,some h,none=>if 0<=l/\l<=h/\h<=len/\k'=k then some (.own id ver (off+l.toNat) (h.toNat -l.toNat) k) else none
  |some l,some h,some m=>match ZgS m with
   |some m=>if 0<=l/\l<=h/\h<=m/\m<=len/\hi.isSome then some .any else none
   |none=>none
  |_,_,_=>none
 |_,_=>none
inductive Ro (Z:Nat->Prop) (w:World) (κ:Nat->Slot):Option AV->Option Value->Prop
 |none:Ro Z w κ none none
 |some {a:AV} {v:Value}:R Z w κ a v->Ro Z w κ (some a) (some v)
theorem ZdL {x:AV} {c:Value} {n:Int} {y:Nat} {code:BoundsCode} (hx:R Z w κ x c) (hi:ZgS x=some n) (h0:0<=n) (h1:n<=y):(Instr.sliceBound c y code).run P w= .ok n.toNat w:=by
 unfold ZgS at hi
 split at hi
 ·injection hi with hi
  subst hi
  cases hx with
  |val hp=>simp[Instr.sliceBound,asIntOf,h0,h1]
 ·cases hi
theorem ZkJ {lo hi mx:Option AV} {cl ch cm:Option Value} {len cap:Nat} {l h m:Int} (hlo:Ro Z w κ lo cl) (hhi:Ro Z w κ hi ch) (hmx:Ro Z w κ mx cm) (h1:ZaH 0 lo=some l) (h2:ZaH len hi=some h)
  (h3:ZaH cap mx=some m) (hm:mx.isSome->hi.isSome) (a:0<=l) (b:l<=h) (c:h<=m) (d:m<=cap):(Instr.sliceBounds true len cap cl ch cm).run P w= .ok (l.toNat,h.toNat,m.toNat) w:=by
 unfold Instr.sliceBounds
 have eh:((h.toNat:Nat):Int)=h:=by omega
 cases hmx with
 |none=>
  simp only[ZaH,Option.some.injEq] at h3
  subst h3
  cases hhi with
  |none=>
   simp only[ZaH,Option.some.injEq] at h2
   subst h2
   cases hlo with
   |none=>simp only[ZaH,Option.some.injEq] at h1;subst h1;simp
   |some hr=>simp[ZdL (P:=P) (y:=len) hr h1 a (by omega)]
  |some hr2=>
   have e2:=λcode=>ZdL (P:=P) (y:=cap) (code:=code) hr2 h2 (by omega) (by omega)
   cases hlo with
   |none=>simp only[ZaH,Option.some.injEq] at h1;subst h1;simp[e2]
   |some hr=>simp[e2,ZdL (P:=P) (y:=h.toNat) hr h1 a (by omega)]
 |some hr3=>
  have e3:=λcode=>ZdL (P:=P) (y:=cap) (code:=code) hr3 h3 (by omega) (by omega)
  cases hhi with
  |none=>simp at hm
  |some hr2=>
   have e2:=λcode=>ZdL (P:=P) (y:=m.toNat) (code:=code) hr2 h2 (by omega) (by omega)
   cases hlo with
   |none=>simp only[ZaH,Option.some.injEq] at h1;subst h1;simp[e2,e3]
   |some hr=>simp[e2,e3,ZdL (P:=P) (y:=h.toNat) hr h1 a (by omega)]
theorem ZsI {t:TypeId} {x v:AV} {lo hi mx:Option AV} {c:Value} {cl ch cm:Option Value} (hx:R Z w κ x c) (hlo:Ro Z w κ lo cl) (hhi:Ro Z w κ hi ch) (hmx:Ro Z w κ mx cm) (hv:ZgT P t x lo hi mx=some v):
  ∃u,(Instr.sliceAt t c cl ch cm).run P w= .ok u w/\R Z w κ v u:=by
 have key:∀(e:TypeId) (k:Nat) (A:Option Addr) (len cap:Nat) (l h m:Int),P.underlying t=some (.slice e)->Zd P e=some k->ZaH 0 lo=some l->ZaH len hi=some h->ZaH cap mx=some m->(mx.isSome->hi.isSome)->0<=l->l<=h->h<=m->m<=cap->
   (Instr.sliceAt t (.slice A len cap) cl ch cm).run P w= .ok (.slice (if m.toNat=l.toNat then A else A.map (·.add (l.toNat*k))) (h.toNat -l.toNat) (m.toNat -l.toNat)) w:=by
  intro e k A len cap l h m he hk h1 h2 h3 h4 h5 h6 h7 h8
  have hb:=ZkJ (P:=P) hlo hhi hmx h1 h2 h3 h4 h5 h6 h7 h8
  simp only[Instr.sliceAt,Instr.slice,Sem.run_bind,run_underlying he,Result.andThen_ok,hb,run_tsize hk,Sem.run_pure]
 unfold ZgT at hv
 split at hv
 ·rename_i k tight len cs h1
  obtain⟨e,he,hk⟩:=ZaN h1
  have fin:∀(A:Option Addr) (cap:Nat) (l h m:Int) (tt:Bool),R Z w κ (.sl tight len cs) (.slice A len cap)->0<=l->l<=h->h<=m->h<=len->m<=cap->(tt=true->m=h)->
    R Z w κ (.sl tt (h.toNat -l.toNat) ((cs.drop (l.toNat*k)).take ((h.toNat -l.toNat)*k))) (.slice (if m.toNat=l.toNat then A else A.map (·.add (l.toNat*k))) (h.toNat -l.toNat) (m.toNat -l.toNat)):=by
   intro A cap l h m tt hr a b c d e ht
   rcases Nat.eq_zero_or_pos (h.toNat -l.toNat) with hz|hz
   ·rw[hz]
    simp only[Nat.zero_mul,List.take_zero]
    refine .sl0 (λh'=>by have:=ht h';omega) ?_
    cases hr with
    |sl0 _ h'=>omega
    |sl _ _ _ h'=>omega
   ·cases hr with
    |sl0=>simp at d;omega
    |sl h2 h3 h4 h5 h6 h7 h8=>
     rw[if_neg (by omega)]
     exact .sl hz (by omega) (λh'=>by have:=ht h';omega) (by omega) (by rw[ZgR];exact h6) ((h7.drop _).take _) ((h8.drop _).take _)
  have shape:∃A cap,c= .slice A len cap/\len<=cap/\(tight=true->cap=len):=by
   cases hx with
   |sl0 h2=>exact⟨_,_,rfl,by omega,h2⟩
   |sl h2 h3 h4=>exact⟨_,_,rfl,h3,h4⟩
  obtain⟨A,cap,rfl,hcap,htight⟩:=shape
  split at hv
  ·rename_i l hh h2 h3
   split at hv
   ·rename_i hc
    injection hv with hv
    subst hv
    cases hmx
    refine⟨_,key e k A len cap l hh cap he hk h2 h3 rfl (by simp) hc.1 hc.2.1 (by omega) (Int.le_refl _),?_⟩
    exact fin A cap l hh cap _ hx hc.1 hc.2.1 (by omega) hc.2.2 (Int.le_refl _) (λh'=>by
     simp only[Bool.and_eq_true,decide_eq_true_eq] at h'
     have:=htight h'.1;omega)
   ·cases hv
  ·rename_i l hh m h2 h3
   split at hv
   ·rename_i mm h4
    split at hv
    ·rename_i hc
     injection hv with hv
     subst hv
     refine⟨_,key e k A len cap l hh mm he hk h2 h3 h4 (λ_=>hc.2.2.2.2) hc.1 hc.2.1 hc.2.2.1 (by omega),?_⟩
     exact fin A cap l hh mm _ hx hc.1 hc.2.1 hc.2.2.1 (by omega) (by omega) (λh'=>by simpa using h')
    ·cases hv
   ·cases hv
  ·cases hv
 ·rename_i k id ver off len k' h1
  obtain⟨e,he,hk⟩:=ZaN h1
  split at hv
  ·rename_i l hh h2 h3
   split at hv
   ·rename_i hc
    obtain⟨c1,c2,c3,rfl⟩:=hc
    injection hv with hv
    subst hv
    cases hmx
    cases hx with
    |own h4 h5 h6 h7=>
     rename_i A cap
     refine⟨_,key e _ A len cap l hh cap he hk h2 h3 rfl (by simp) c1 c2 (by omega) (Int.le_refl _),.own (by omega) (by omega) ?_ ?_⟩
     ·intro hn
      have:=h6 (by omega)
      rw[if_neg (by omega)]
      cases A with
      |none=>exact absurd rfl this
      |some a=>simp
     ·unfold ZV at*
      split at h7
      ·exact h7
      ·trivial
      ·rename_i v b sz hk'
       refine⟨h7.1,λe=> ?_⟩
       have h8:=h7.2 e
       cases b with
       |none=>
        simp only[Zdm] at h8⊢
        obtain⟨r1,r2,r4⟩:=h8
        exact⟨by omega,by omega,by omega⟩
       |some b=>
        simp only[Zdm] at h8⊢
        obtain⟨r1,r2,⟨a,r3,r4⟩,r5⟩:=h8
        refine⟨?_,r2,?_,by omega⟩
        ·rw[<-r1];congr 1;omega
        ·by_cases hcl:(((cap:Nat):Int).toNat)=l.toNat
         ·rw[if_pos hcl];exact⟨a,r3,λh=>by omega⟩
         ·rw[if_neg hcl]
          refine⟨a.add (l.toNat*k'),by rw[r3];rfl,λh=> ?_⟩
          rw[r4 (by omega),ZaT,Nat.add_mul]
   ·cases hv
  ·rename_i l hh m h2 h3
   split at hv
   ·rename_i mm h4
    split at hv
    ·rename_i hc
     injection hv with hv
     subst hv
     cases hx with
     |own g1 g2 g3 g4=>
      rename_i A cap
      exact⟨_,key e _ A len cap l hh mm he hk h2 h3 h4 (λ_=>hc.2.2.2.2) hc.1 hc.2.1 hc.2.2.1 (by omega),.any⟩
    ·cases hv
   ·cases hv
  ·cases hv
 ·cases hv
end Go.Cx
set_option linter.unusedVariables false
namespace Go.Cx
variable {P:Program} {Z:Nat->Prop} {κ:Nat->Slot} {h:Za} {w:World}
def ZgU (P:Program) (t:TypeId) (x:AV) (i:Nat):Option AV:=
 match Zf P t i,x with
 |some (off,ft,k),.agg cs=>match tagg P ft with
  |some true=>if off+k<=cs.length then some (.agg ((cs.drop off).take k)) else none
  |some false=>cs[off]?
  |none=>none
 |_,_=>none
theorem Zqe {t:TypeId} {x v:AV} {c:Value} {i:Nat} (hx:R Z w κ x c) (hv:ZgU P t x i=some v):∃u,(Instr.field t c i).run P w= .ok u w/\R Z w κ v u:=by
 unfold ZgU at hv
 split at hv
 ·rename_i off ft k cs ht
  obtain⟨fs,f,h1,h2,rfl,rfl,h3⟩:=Ziz ht
  cases hx with
  |agg hr=>
   rename_i vs
   have hl:=hr.length
   split at hv
   ·rename_i hg
    split at hv
    ·rename_i hk
     injection hv with hv
     subst hv
     have e:vs.toArray.extract f.offset (f.offset+k)=((vs.drop f.offset).take k).toArray:=by
      apply Array.ext'
      simp
     refine⟨_,?_,.agg ((hr.drop f.offset).take k)⟩
     simp only[Instr.field,Sem.run_bind,run_underlying h1,Result.andThen_ok,h2,asAgg,Sem.run_pure,part,ZgB hg,if_true,run_tsize h3,e]
    ·cases hv
   ·rename_i hg
    obtain⟨u,hu,hru⟩:=hr.get _ _ hv
    refine⟨u,?_,hru⟩
    simp[Instr.field,Sem.run_bind,run_underlying h1,h2,asAgg,part,ZgB hg,hu]
   ·cases hv
 ·cases hv
def ZeT:AV->Nat->Option AV
 | .tup vs,i=>vs[i]?
 |_,_=>none
theorem ZmH {x v:AV} {c:Value} {i:Nat} (hx:R Z w κ x c) (hv:ZeT x i=some v):∃u,(Instr.extract c i).run P w= .ok u w/\R Z w κ v u:=by
 unfold ZeT at hv
 split at hv
 ·cases hx with
  |tup hr=>
   obtain⟨u,hu,hru⟩:=hr.get _ _ hv
   exact⟨u,by simp[Instr.extract,hu],hru⟩
 ·cases hv
theorem Zoo {α β:Type} (f:α->Sem β) (g:α->Option β) (hfg:∀x y,g x=some y->(f x).run P w= .ok y w):∀(l:List α) (ys:List β),l.mapM g=some ys->(l.mapM f).run P w= .ok ys w
 |[],ys,h=>by simp at h;subst h;simp
 |x::l,ys,h=>by
  simp only[List.mapM_cons,Option.pure_def,Option.bind_eq_bind] at h
  obtain⟨y,hy,h⟩:=Option.bind_eq_some_iff.1 h
  obtain⟨ys',hys,h⟩:=Option.bind_eq_some_iff.1 h
  injection h with h
  subst h
  simp[List.mapM_cons,Sem.run_bind,hfg x y hy,Zoo f g hfg l ys' hys]
def structPlaces (P:Program):TypeDesc->Option (List (Nat×Nat))
 | .struct fs=>fs.toList.mapM λf=>(Zd P f.type).map λk=>(f.offset,k)
 |_=>none
def Zt (P:Program) (t:TypeId):Option (List (Nat×Nat)):=(P.underlying t).bind (structPlaces P)
def afill (place:Nat->Option (Nat×Nat)) (cs:List AV):List (Nat×AV)->Option (List AV)
 |[]=>some cs
 |(i,v)::rest=>match place i,cellsOf v with
  |some (off,k),some vs=>if vs.length=k/\off+k<=cs.length then afill place (setMany cs off vs) rest else none
  |_,_=>none
theorem Zeu:∀(vs:List AV) (cs:List AV) (off:Nat),(setMany cs off vs).length=cs.length
 |[],_,_=>rfl
 |v::vs,cs,off=>by simp[setMany,Zeu vs]
theorem Zop:∀(us:List Value) (cells:Array Value) (off j:Nat) (vs:List AV) (cs:List AV),Rs Z w κ vs us->Rs Z w κ cs cells.toList->
  Rs Z w κ (setMany cs (off+j) vs) ((us.zipIdx j).foldl (fun(cs:Array Value) (x:Value×Nat)=>cs.setIfInBounds (off+x.2) x.1) cells).toList
 |[],cells,off,j,vs,cs,hv,hc=>by cases hv;simpa[setMany] using hc
 |u::us,cells,off,j,vs,cs,hv,hc=>by
  cases hv with
  |cons h1 h2=>
   simp only[List.zipIdx_cons,List.foldl_cons,setMany]
   exact Zop us _ off (j+1) _ _ h2 (by simpa using Rs.set h1 hc (off+j))
theorem ZkK (us:List Value) (cells:Array Value) (off:Nat):((us.toArray.zipIdx).foldl (fun(cs:Array Value) (x:Value×Nat)=>cs.setIfInBounds (off+x.2) x.1) cells)=((us.zipIdx 0).foldl (fun(cs:Array Value) (x:Value×Nat)=>cs.setIfInBounds (off+x.2) x.1) cells):=by
 rw[<-Array.foldl_toList]
 simp
inductive Rp (Z:Nat->Prop) (w:World) (κ:Nat->Slot):List (Nat×AV)->List (Nat×Value)->Prop
 |nil:Rp Z w κ [] []
 |cons {i:Nat} {a:AV} {v:Value} {as:List (Nat×AV)} {vs:List (Nat×Value)}:R Z w κ a v->Rp Z w κ as vs->Rp Z w κ ((i,a)::as) ((i,v)::vs)
theorem ZjM {place:Nat->Option (Nat×Nat)}:∀{ps:List (Nat×AV)} {qs:List (Nat×Value)} {cs cs':List AV} {cells:Array Value},Rp Z w κ ps qs->Rs Z w κ cs cells.toList->afill place cs ps=some cs'->
  ∃cells',Instr.fill place cells qs=some cells'/\Rs Z w κ cs' cells'.toList
 |_,_,cs,cs',cells,.nil,hc,hv=>by simp only[afill,Option.some.injEq] at hv;subst hv;exact⟨cells,rfl,hc⟩
 |_,_,cs,cs',cells,.cons h1 h2,hc,hv=>by
  rename_i i a v as vs'
  simp only[afill] at hv
  split at hv
  ·rename_i off k vs h3 h4
   split at hv
   ·rename_i h5
    obtain⟨us,hu,hru⟩:=ZfJ h1 h4
    have hl:=hru.length
    have hl2:=hc.length
    have hcs:cells.size=cs.length:=by rw[hl2];simp
    have hf:=Zop us cells off 0 vs cs hru hc
    obtain⟨cells',h6,h7⟩:=ZjM (cells:=(us.zipIdx 0).foldl (fun(cs:Array Value) (x:Value×Nat)=>cs.setIfInBounds (off+x.2) x.1) cells) h2 hf hv
    refine⟨cells',?_,h7⟩
    simp only[Instr.fill,h3,hu]
    rw[if_neg (by simp;omega),ZkK]
    exact h6
   ·cases hv
  ·cases hv
def ZkL (P:Program) (t:TypeId) (parts:List (Nat×AV)):Option AV:=
 match ZU P t,Zt P t with
 |some zs,some pl=>(afill (λi=>pl[i]?) zs parts).map .agg
 |_,_=>none
theorem ZsJ {t:TypeId} {ps:List (Nat×AV)} {qs:Array (Nat×Value)} {v:AV} (hp:Rp Z w κ ps qs.toList) (hv:ZkL P t ps=some v):∃u,(Instr.build t qs).run P w= .ok u w/\R Z w κ v u:=by
 unfold ZkL at hv
 split at hv
 ·rename_i zs pl h1 h2
  obtain⟨cs,hcs,rfl⟩:=Option.map_eq_some_iff.1 hv
  obtain⟨z,hz,rfl⟩:=Zdo h1 w
  obtain⟨d,hd,hpl⟩:=Option.bind_eq_some_iff.1 h2
  cases d<;>simp only[structPlaces,reduceCtorEq] at hpl
  rename_i fs
  have hm:=Zoo (P:=P) (w:=w) (λf:Field=>do pure (f.offset,<-sizeOf f.type)) (λf=>(Zd P f.type).map λk=>(f.offset,k)) (λf y hy=>by
   obtain⟨k,hk,rfl⟩:=Option.map_eq_some_iff.1 hy
   simp[run_tsize hk]) fs.toList pl hpl
  obtain⟨cells',h6,h7⟩:=ZjM (cells:=z.cells) hp (ZbB _) hcs
  refine⟨.agg cells',?_,by simpa using R.agg h7⟩
  have h6':Instr.fill (λx=>pl.toArray[x]?) z.cells qs.toList=some cells':=by simpa using h6
  simp only[Instr.build,Sem.run_bind,hz,Result.andThen_ok,run_underlying hd,Array.mapM_eq_mapM_toList,map_eq_pure_bind,hm,Sem.run_pure,h6']
 ·cases hv
theorem Out.alloc (r:Rel Z κ h w) {cs:List AV} {us:List Value} (hu:Rs Z w κ cs us) (c:Array Value) (E:TypeId) (hc:us.length<=c.size) (hcu:∀(j:Nat) (u:Value),us[j]? =some u->c[j]? =some u)
  {v:AV} {x:Value} (hv:∀κ':Nat->Slot,κ' h.length= .live 0 (some w.heap.size) c.size->R Z (w.alloc (.cells c E)) κ' v x):Out Z κ w v (h++[.cells 0 cs]) (.ok (.value x) (w.alloc (.cells c E))):=by
 obtain⟨r',e,hs⟩:=Zdn r hu c E hc hcu
 exact⟨x,_,Z,_,.inl rfl,r',hv _ (Zk _ _ _),e,hs⟩
theorem Zoq {id b sz:Nat} {κ':Nat->Slot} {w':World} (hk:κ' id= .live 0 (some b) sz):R Z w' κ' (.ptr id 0 0) (.pointer (some ⟨b,0,none⟩)):=by
 refine .ptr ?_
 simp[ZV,hk,ZmF]
theorem ZeU {id b sz n k cap:Nat} {κ':Nat->Slot} {w':World} (hk:κ' id= .live 0 (some b) sz) (hn:n<=cap) (hc:cap<=maxLen) (hs:cap*k=sz) (h0:0<k):R Z w' κ' (.own id 0 0 n k) (.slice (some ⟨b,0,none⟩) n cap):=by
 refine .own hn hc (by simp) ?_
 simp only[ZV,hk,Zdm]
 exact⟨Nat.le_refl _,λ_=>⟨by simpa using hs,h0,⟨_,rfl,λ_=>by simp⟩,by omega⟩⟩
theorem Zwb {t:TypeId} {zs:List AV} (r:Rel Z κ h w) (hz:ZU P t=some zs) (o:Oper) (ho:o.op= .alloc t) (ρ:Operand->Value):Out Z κ w (.ptr h.length 0 0) (h++[.cells 0 zs]) ((execOp ρ o).run P w):=by
 obtain⟨z,hz1,rfl⟩:=Zdo hz w
 have:(execOp ρ o).run P w= .ok (.value (.pointer (some ⟨w.heap.size,0,none⟩))) (w.alloc (.cells z.cells t)):=by
  simp only[execOp,ho,Sem.run_bind,Instr.alloc,hz1,Result.andThen_ok,newVar,newRow,run_newObj_alloc,Sem.run_pure]
 rw[this]
 exact Out.alloc r (ZbB z.cells.toList) z.cells t (by simp) (λj u hj=>by simpa using hj) (λκ' hk=>Zoq hk)
theorem box_ok {t:TypeId} {x:Operand} {a:AV} {cs:List AV} (r:Rel Z κ h w) (o:Oper) (ho:o.op= .box t x) (ρ:Operand->Value) (ha:R Z w κ a (ρ x)) (hc:cellsOf a=some cs):Out Z κ w (.ptr h.length 0 0) (h++[.cells 0 cs]) ((execOp ρ o).run P w):=by
 obtain⟨us,hu,hru⟩:=ZfJ ha hc
 have:(execOp ρ o).run P w= .ok (.value (.pointer (some ⟨w.heap.size,0,none⟩))) (w.alloc (.cells us.toArray t)):=by
  simp only[execOp,ho,Sem.run_bind,Instr.box,newVar,newRow,run_newObj_alloc,Sem.run_pure,Result.andThen_ok,hu]
 rw[this]
 exact Out.alloc r hru us.toArray t (by simp) (λj u hj=>by simpa using hj) (λκ' hk=>Zoq hk)
theorem Out.frozen (r:Rel Z κ h w) {cs:List AV} {us:List Value} (hu:Rs Z w κ cs us) (E:TypeId) {n:Nat} (hn:n<=maxLen) (h0:n=0->cs=[]):Out Z κ w (.sl true n cs) h (.ok (.value (.slice (some ⟨w.heap.size,0,none⟩) n n)) (w.alloc (.cells us.toArray E))):=by
 obtain⟨r',e⟩:=Zqb r (.cells us.toArray E)
 refine⟨_,_,_,κ,.inl rfl,r',?_,e,.refl _⟩
 rcases Nat.eq_zero_or_pos n with hz|hz
 ·subst hz;rw[h0 rfl];exact .sl0 (λ_=>rfl) (by simp[maxLen])
 ·refine .sl hz (Nat.le_refl _) (λ_=>rfl) hn (.inr rfl) (λj u hj=> ?_) (hu.ext r e (.refl _))
  rw[ZaT,Nat.zero_add]
  simpa using hj
def zeros (zs:List AV) (len:Nat):List AV:=(List.replicate len zs).flatten
def abuildSlice (P:Program) (t:TypeId) (len:Nat) (parts:List (Nat×AV)):Option (List AV×Nat):=
 match Zab P t with
 |some e=>match Zd P e,ZU P e with
  |some k,some zs=>if 0<k/\zs.length=k/\len*k<=16777216 then(afill (λi=>some (i*k,k)) (zeros zs len) parts).map λcs=>(cs,k) else none
  |_,_=>none
 |none=>none
theorem ZbF {α:Type} (zs:List α) (d:α):∀(len j:Nat),j<len*zs.length->(List.replicate len zs).flatten[j]? =some (zs.getD (j%zs.length) d)
 |0,j,h=>by simp at h
 |len+1,j,h=>by
  have hp:0<zs.length:=Nat.pos_of_ne_zero λh0=>by simp[h0] at h
  rw[List.replicate_succ,List.flatten_cons]
  by_cases hj:j<zs.length
  ·rw[List.getElem?_append_left hj,Nat.mod_eq_of_lt hj];simp[hj]
  ·rw[List.getElem?_append_right (by omega),ZbF zs d len (j -zs.length) (by rw[Nat.add_mul] at h;omega)]
   have e:(j -zs.length)%zs.length=j%zs.length:=by
    conv=>rhs;rw[show j=(j -zs.length)+zs.length by omega,Nat.add_mod_right]
   rw[e]
theorem ZkM (z:Array Value) (len:Nat) (hz:0<z.size):((Array.range (len*z.size)).map (z[·%z.size]!)).toList=(List.replicate len z.toList).flatten:=by
 apply List.ext_getElem?
 intro j
 by_cases hj:j<len*z.size
 ·rw[ZbF z.toList undef len j (by simpa using hj)]
  have hm:j%z.size<z.size:=Nat.mod_lt _ hz
  simp[hj,hm]
 ·rw[List.getElem?_eq_none (by simp;omega),List.getElem?_eq_none (by simp;omega)]
theorem ZY {zs:List AV} {us:List Value} (hr:Rs Z w κ zs us):∀len,Rs Z w κ (List.replicate len zs).flatten (List.replicate len us).flatten
 |0=>by simp[Rs.nil]
 |len+1=>by rw[List.replicate_succ,List.replicate_succ,List.flatten_cons,List.flatten_cons];exact hr.append (ZY hr len)
theorem ZgV {t:TypeId} {len k:Nat} {ps:List (Nat×AV)} {qs:Array (Nat×Value)} {cs:List AV} (hp:Rp Z w κ ps qs.toList) (hv:abuildSlice P t len ps=some (cs,k)):
  ∃us E,(Instr.buildSlice t len qs).run P w= .ok (.slice (some ⟨w.heap.size,0,none⟩) len len) (w.alloc (.cells us.toArray E))/\Rs Z w κ cs us/\cs.length=len*k/\0<k/\len*k<=16777216:=by
 unfold abuildSlice at hv
 split at hv
 ·rename_i e he
  split at hv
  ·rename_i k' zs h1 h2
   split at hv
   ·rename_i hc
    obtain⟨hk0,hzl,hle⟩:=hc
    obtain⟨cs',hcs,he'⟩:=Option.map_eq_some_iff.1 hv
    injection he' with e1 e2
    subst e1 e2
    obtain⟨z,hz,rfl⟩:=Zdo h2 w
    have hzs:z.cells.size=k':=by simpa using hzl
    have hz0:Rs Z w κ (zeros (z.cells.toList.map Zaj) len) ((Array.range (len*z.cells.size)).map (z.cells[·%z.cells.size]!)).toList:=by
     rw[ZkM _ _ (by omega)]
     exact ZY (ZbB _) len
    obtain⟨cells',h6,h7⟩:=ZjM hp hz0 hcs
    have hlen:cs'.length=len*k':=by
     have hl:∀(ps:List (Nat×AV)) (cs cs':List AV),afill (λi=>some (i*k',k')) cs ps=some cs'->cs'.length=cs.length:=by
      intro ps
      induction ps with
      |nil=>intro cs cs' h;simp only[afill,Option.some.injEq] at h;rw[h]
      |cons p ps ih=>
       intro cs cs' h
       obtain⟨i,v⟩:=p
       simp only[afill] at h
       split at h
       ·split at h
        ·rw[ih _ _ h,Zeu]
        ·cases h
       ·cases h
     rw[hl _ _ _ hcs]
     simp[zeros,hzs]
    refine⟨cells'.toList,e,?_,h7,hlen,hk0,hle⟩
    rw[<-hzs] at h6 h1 hle
    simp only[Instr.buildSlice,Sem.run_bind,run_underlying (run_telem he),Result.andThen_ok,run_tsize h1]
    rw[Sem.run_ite,if_neg (by omega)]
    by_cases hl0:len=0
    ·subst hl0
     have er:∀f:Nat->Value,Array.map f (Array.range 0)= #[]:=λf=>by apply Array.ext';simp
     have h6':Instr.fill (λi=>some (i*z.cells.size,z.cells.size)) #[] qs.toList=some cells':=by rw[<-h6,Nat.zero_mul,er]
     simp[er,h6',newRow]
    ·have hne:¬(len*z.cells.size=0):=by
      intro h0
      rcases Nat.mul_eq_zero.1 h0 with h0|h0
      ·exact hl0 h0
      ·omega
     simp only[hne,if_false,Sem.run_bind,hz,Result.andThen_ok,Sem.run_pure,h6,newRow,run_newObj_alloc]
   ·cases hv
  ·cases hv
 ·cases hv
end Go.Cx
set_option linter.unusedVariables false
namespace Go.Cx
variable {P:Program} {Z:Nat->Prop} {κ:Nat->Slot} {h:Za} {w:World}
def Zcn (k:Nat) (h:Za):AV->Option (Nat×List AV)
 | .sl _ m ys=>some (m,ys)
 | .own id ver off m k'=>match h[id]? with
  |some (.cells ver' cs)=>if ver=ver'/\k'=k/\(off+m)*k<=cs.length then some (m,(cs.drop (off*k)).take (m*k)) else none
  |_=>none
 |_=>none
theorem own_slice (r:Rel Z κ h w) {id ver off n k:Nat} {cs:List AV} {c:Value} (hp:R Z w κ (.own id ver off n k) c) (hx:h[id]? =some (.cells ver cs)):
  (∃sz A,κ id= .live ver none sz/\c= .slice A 0 0/\off=0/\n=0/\cs=[])\/
  ∃b sz arr E us cap a,κ id= .live ver (some b) sz/\c= .slice (some a) n cap/\n<=cap/\(off+cap)*k=sz/\0<k/\(0<cap->a=⟨b,off*k,none⟩)/\off+cap<=maxLen/\
   ZaG w ver b arr E/\arr.size=sz/\us.length<=arr.size/\(∀(j:Nat) (u:Value),us[j]? =some u->arr[j]? =some u)/\Rs Z w κ cs us:=by
 cases hp with
 |own h0 h1 hA h2=>
  rename_i A cap
  obtain⟨ob,sz,h3,h4⟩:=r.blk id _ hx
  simp only[ZV,h3] at h2
  have h5:=h2.2 trivial
  cases ob with
  |none=>
   simp only[Zdm] at h5
   obtain⟨e1,e2,rfl⟩:=h5
   subst e2
   exact .inl ⟨sz,A,h3,rfl,e1,rfl,h4⟩
  |some b=>
   simp only[Zdm] at h5
   obtain⟨e1,e2,⟨a,rfl,e3⟩,e4⟩:=h5
   obtain⟨arr,E,us,h6,h7,h8,h9,h10⟩:=h4
   exact .inr ⟨b,sz,arr,E,us,cap,a,h3,rfl,h0,e1,e2,e3,e4,h6,h7,h8,h9,h10⟩
theorem ZgW (r:Rel Z κ h w) {k m:Nat} {x:AV} {c:Value} {ys:List AV} (hx:R Z w κ x c) (hs:Zcn k h x=some (m,ys)) (hm:0<m):
  ∃a cap us,c= .slice (some a) m cap/\ZaF w a us/\Rs Z w κ ys us:=by
 unfold Zcn at hs
 split at hs
 ·simp only[Option.some.injEq,Prod.mk.injEq] at hs
  obtain⟨rfl,rfl⟩:=hs
  cases hx with
  |sl0=>omega
  |sl h2 h3 h4 h5 h6 h7 h8=>exact⟨_,_,_,rfl,h7,h8⟩
 ·rename_i id ver off m' k'
  split at hs
  ·rename_i ver' cs hh
   split at hs
   ·rename_i hc
    obtain⟨rfl,rfl,hlen⟩:=hc
    simp only[Option.some.injEq,Prod.mk.injEq] at hs
    obtain⟨rfl,rfl⟩:=hs
    rcases own_slice r hx hh with⟨_,_,_,_,_,h0,_⟩|⟨b,sz,arr,E,us,cap,a,e1,e2,e3,e4,e5,e6,e7,e8,e9,e10,e11,e12⟩
    ·omega
    ·refine⟨a,cap,(us.drop (off*k')).take (m'*k'),e2,?_,(e12.drop _).take _⟩
     rw[e6 (by omega)]
     exact(ZaC e8 e11 (off*k')).take _
   ·cases hs
  ·cases hs
 ·cases hs
def ZaZ (P:Program) (t:TypeId):Option Nat:=(P.info? t).map (·.bytes)
def ZgX (P:Program) (t:TypeId) (s x:AV) (h:Za):Option (AV×Za):=
 match Zab P t with
 |none=>none
 |some e=>match Zd P e,ZU P e,ZaZ P e with
  |some k,some zs,some by_=>match Zcn k h x with
   |none=>none
   |some (m,ys)=>
    if 0<k/\zs.length=k/\ys.length=m*k/\ys.all Zy=true then
     match s with
     | .sl true n cs=>if(0<m\/n=0)/\cs.length=n*k/\(n+m)*by_<=140737488355328/\n+m<=maxLen then some (.own h.length 0 0 (n+m) k,h++[.cells 0 (cs++ys)]) else none
     | .own id ver 0 n k'=>match h[id]? with
      |some (.cells ver' cs)=>if ver=ver'/\k'=k/\cs.length=n*k/\(n+m)*by_<=140737488355328/\n+m<=maxLen then some (.own id (ver+1) 0 (n+m) k,h.set id (.cells (ver+1) (cs++ys))) else none
      |_=>none
     |_=>none
    else none
  |_,_,_=>none
theorem ZjN:∀{vs:List AV} {us:List Value},Rs Z w κ vs us->vs.all Zy=true->∀u∈us,u.oneCell'=true
 |_,_,.nil,_,u,hu=>by simp at hu
 |_,_,.cons h1 h2,ho,u,hu=>by
  simp only[List.all_cons,Bool.and_eq_true] at ho
  simp only[List.mem_cons] at hu
  rcases hu with rfl|hu
  ·exact one_of h1 ho.1
  ·exact ZjN h2 ho.2 u hu
theorem Ziq (w:World) (g:Nat) (cs:Array Value) {b:Nat} (hb:b≠g):(w.setRow g cs).heap[b]? =w.heap[b]? :=setRow_other w g b cs hb
theorem ZfK (r:Rel Z κ h w) {id ver:Nat} {cs ys:List AV} (hx:h[id]? =some (.cells ver cs)) {b':Nat} {arr':Array Value} {E:TypeId} {w':World}
  (hb:(∃sz,κ id= .live ver (some b') sz)\/w.heap.size<=b')
  (hos:w'.os=w.os) (htape:w'.tape=w.tape) (hout:w'.output=w.output) (hsz:w.heap.size<=w'.heap.size)
  (hkeep:∀b,b<w.heap.size->b≠b'->w'.heap[b]? =w.heap[b]?) (hnew:ZaG w' (ver+1) b' arr' E)
  {us ws:List Value} (hus:Rs Z w κ cs us) (hws:Rs Z w κ ys ws) (hlen:(us++ws).length<=arr'.size) (hcell:∀(j:Nat) (u:Value),(us++ws)[j]? =some u->arr'[j]? =some u):
  Rel Z (upd κ id (.live (ver+1) (some b') arr'.size)) (h.set id (.cells (ver+1) (cs++ys))) w'/\Ext Z κ w Z (upd κ id (.live (ver+1) (some b') arr'.size)) w'/\Zq κ (upd κ id (.live (ver+1) (some b') arr'.size)):=by
 obtain⟨ob,sz,h3,h4⟩:=r.blk id _ hx
 have hid:=(List.getElem?_eq_some_iff.1 hx).1
 have hst:Zq κ (upd κ id (.live (ver+1) (some b') arr'.size)):= .upd (.inr (by rw[h3];simp[Slot.step]))
 have hal:∀b,ZT (upd κ id (.live (ver+1) (some b') arr'.size)) b->ZT κ b\/w.heap.size<=b:=by
  rintro b ⟨j,v,s,hk⟩
  by_cases hj:j=id
  ·subst hj;rw[Zk] at hk;injection hk with _ h2 _;injection h2 with h2;subst h2
   rcases hb with⟨sz,hb⟩|hb
   ·exact .inl ⟨j,_,_,hb⟩
   ·exact .inr hb
  ·rw[Zr _ _ hj] at hk;exact .inl ⟨j,v,s,hk⟩
 have hb'al:∀b,b<w.heap.size->¬ZT κ b->b≠b':=by
  rintro b hbl hn rfl
  rcases hb with⟨sz,hb⟩|hb
  ·exact hn ⟨id,_,_,hb⟩
  ·omega
 have e:Ext Z κ w Z (upd κ id (.live (ver+1) (some b') arr'.size)) w':=
  ⟨hos,htape,hout,hsz,λb hbl hn=>hkeep b hbl (hb'al b hbl hn),λ_ h=>h,λ_ h=> .inl h,hal⟩
 refine⟨⟨λb hz=>Nat.lt_of_lt_of_le (r.zlt b hz) hsz,λb hz ha=> ?_,λj hj=> ?_,λj x hj=> ?_,?_⟩,e,hst⟩
 ·rcases hal b ha with h1|h1
  ·exact r.za b hz h1
  ·have:=r.zlt b hz;omega
 ·simp at hj
  rw[Zr _ _ (by omega)];exact r.hole j hj
 ·by_cases hji:j=id
  ·subst hji
   rw[List.getElem?_set_self hid] at hj
   injection hj with hj
   subst hj
   exact⟨some b',arr'.size,Zk _ _ _,arr',E,us++ws,hnew,rfl,hlen,hcell,(hus.append hws).ext r e hst⟩
  ·rw[List.getElem?_set_ne (Ne.symm hji)] at hj
   refine(r.blk j x hj).ext r e hst (Zr _ _ hji) λv b s hk=>hkeep b (ZA r ⟨j,v,s,hk⟩) ?_
   rintro rfl
   rcases hb with⟨sz,hb⟩|hb
   ·exact hji (r.inj _ _ _ _ _ _ _ hk hb)
   ·have:=ZA r ⟨j,v,s,hk⟩;omega
 ·intro j j' v v' b s s' h1 h2
  by_cases hj:j=id<;>by_cases hj':j'=id
  ·rw[hj,hj']
  ·subst hj
   rw[Zk] at h1;rw[Zr _ _ hj'] at h2
   injection h1 with _ h1 _;injection h1 with h1;subst h1
   rcases hb with⟨sz,hb⟩|hb
   ·exact(r.inj _ _ _ _ _ _ _ hb h2)
   ·have:=ZA r ⟨j',v',s',h2⟩;omega
  ·subst hj'
   rw[Zk] at h2;rw[Zr _ _ hj] at h1
   injection h2 with _ h2 _;injection h2 with h2;subst h2
   rcases hb with⟨sz,hb⟩|hb
   ·exact(r.inj _ _ _ _ _ _ _ h1 hb)
   ·have:=ZA r ⟨j,v,s,h1⟩;omega
  ·rw[Zr _ _ hj] at h1;rw[Zr _ _ hj'] at h2
   exact r.inj _ _ _ _ _ _ _ h1 h2
theorem ZcB (P:Program) (g o:Nat) (t:TypeId) (fr:Nat×Nat):∀(vs:List Value) (i:Nat) (cur:Array Value) (w:World),w.heap[g]? =some (.cells cur t fr)->(fr=(0,0)\/cur.size<=fr.1)->o+i+vs.length<=cur.size->(∀v∈vs,v.oneCell'=true)->
  (storeCells ⟨g,o,none⟩ vs i).run P w= .ok () (w.setRow g (cur.toList.take (o+i)++vs++cur.toList.drop (o+i+vs.length)).toArray)
 |[],i,cur,w,hg,hfr,hl,h1=>by
  simp only[storeCells,List.append_nil,List.length_nil,Nat.add_zero,List.take_append_drop,Array.toArray_toList]
  rw[setRow_self w g cur t fr hg]
  rfl
 |v::rest,i,cur,w,hg,hfr,hl,h1=>by
  have hj:o+i<cur.size:=by simp at hl;omega
  have hc:w.cell? ⟨g,o+i,none⟩=some cur[o+i]:=by simp[World.cell?,hg,hj]
  have hf:w.frozen? ⟨g,o+i,none⟩=false:=by
   rcases hfr with rfl|hfr
   ·simp[World.frozen?,hg]
   ·simp[World.frozen?,hg];intro;omega
  have hst:(store ((⟨g,o,none⟩:Addr).add i) v).run P w= .ok () (w.setRow g (cur.setIfInBounds (o+i) v)):=by
   rw[ZaT,run_store P w _ v _ (h1 v (by simp)),hc]
   simp[hf,setCell_eq_setRow w g (o+i) cur t fr v hg]
  have ih:=ZcB P g o t fr rest (i+1) (cur.setIfInBounds (o+i) v) (w.setRow g (cur.setIfInBounds (o+i) v)) (setRow_heap w g cur _ t _ hg) (by simpa using hfr) (by simp at hl⊢;omega) (λx hx=>h1 x (by simp[hx]))
  simp only[storeCells,Sem.run_bind,hst,Result.andThen_ok,ih,setRow_setRow]
  congr 3
  have e:=list_seg_step cur.toList (o+i) v rest (by simp at hl⊢;omega)
  simpa[Array.toList_setIfInBounds,Nat.add_assoc] using e
theorem Zgx (t ty e:TypeId) (i:TypeInfo) (ht:P.underlying t=some (.slice e)) (hi:P.info? e=some i)
  (g sLen sCap:Nat) (cur:Array Value) (E:TypeId) (fr:Nat×Nat) (hg:w.heap[g]? =some (.cells cur E fr)) (hfr:fr=(0,0)\/cur.size<=fr.1)
  (a:Addr) (m c:Nat) (news:List Value) (hl:news.length=m*i.size) (hnews:∀j u,news[j]? =some u->w.cell? (a.add j)=some u) (h1:∀u∈news,u.oneCell'=true)
  (hroom:sLen+m<=sCap) (hfit:sLen*i.size+news.length<=cur.size):
  (Builtin.append_ #[t,t] ty #[.slice (some ⟨g,0,none⟩) sLen sCap,.slice (some a) m c]).run P w=
   .ok (.slice (some ⟨g,0,none⟩) (sLen+m) sCap) (w.setRow g (cur.toList.take (sLen*i.size)++news++cur.toList.drop (sLen*i.size+news.length)).toArray):=by
 have hf:=run_firstCells_some (P:=P) w i.size m a m c news hl hnews
 have hst:=ZcB P g (sLen*i.size) E fr news 0 cur w hg hfr (by simpa using hfit) h1
 simp only[Nat.add_zero] at hst
 simp[Builtin.append_,run_underlying ht,sizeOf,typeInfo,hi,Builtin.lenOf,hroom,hf,Addr.add_lit,hst]
theorem Zqf {cur:Array Value} {us ws:List Value} {n:Nat} (hn:us.length=n) (h1:n+ws.length<=cur.size) (h2:∀(j:Nat) (u:Value),us[j]? =some u->cur[j]? =some u):
  ∀(j:Nat) (u:Value),(us++ws)[j]? =some u->((cur.toList.take n++ws++cur.toList.drop (n+ws.length)).toArray)[j]? =some u:=by
 intro j u hj
 have htl:(cur.toList.take n).length=n:=by simp;omega
 by_cases hjn:j<n
 ·rw[List.getElem?_append_left (by omega)] at hj
  have:=h2 j u hj
  simp only[List.getElem?_toArray,List.append_assoc]
  rw[List.getElem?_append_left (by omega),List.getElem?_take_of_lt hjn]
  simpa using this
 ·rw[List.getElem?_append_right (by omega),hn] at hj
  have hjl:=(List.getElem?_eq_some_iff.1 hj).1
  simp only[List.getElem?_toArray,List.append_assoc]
  rw[List.getElem?_append_right (by omega),htl,List.getElem?_append_left hjl]
  exact hj
theorem ZcT {us ws:List Value} {z:Array Value} {x:Nat}:∀(j:Nat) (u:Value),(us++ws)[j]? =some u->(us.toArray++ws.toArray++Builtin.zeroCells z x)[j]? =some u:=by
 intro j u hj
 have hlt:=(List.getElem?_eq_some_iff.1 hj).1
 have e:(us.toArray++ws.toArray++Builtin.zeroCells z x)=((us++ws)++(Builtin.zeroCells z x).toList).toArray:=by
  apply Array.ext'
  simp
 rw[e,List.getElem?_toArray,List.getElem?_append_left hlt]
 exact hj
theorem ZsK {k:Nat} {x:AV} {c:Value} {ys:List AV} (hx:R Z w κ x c) (hs:Zcn k h x=some (0,ys)):∃A cap,c= .slice A 0 cap:=by
 unfold Zcn at hs
 split at hs
 ·simp only[Option.some.injEq,Prod.mk.injEq] at hs
  obtain⟨rfl,rfl⟩:=hs
  cases hx with
  |sl0=>exact⟨_,_,rfl⟩
  |sl h2=>exact absurd h2 (by omega)
 ·split at hs
  ·split at hs
   ·simp only[Option.some.injEq,Prod.mk.injEq] at hs
    obtain⟨rfl,rfl⟩:=hs
    cases hx with
    |own=>exact⟨_,_,rfl⟩
   ·cases hs
  ·cases hs
 ·cases hs
theorem ZbZ (t ty e:TypeId) (i:TypeInfo) (ht:P.underlying t=some (.slice e)) (hi:P.info? e=some i) (A:Option Addr) (n cap:Nat) (hn:n<=cap) (A':Option Addr) (c':Nat):
  (Builtin.append_ #[t,t] ty #[.slice A n cap,.slice A' 0 c']).run P w= .ok (.slice A n cap) w:=by
 have hf:(Builtin.firstCells i.size 0 (.slice A' 0 c')).run P w= .ok #[] w:=by
  cases A' with
  |none=>simp[Builtin.firstCells]
  |some a=>simpa using run_firstCells_some (P:=P) w i.size 0 a 0 c' [] (by simp) (by intro j v hj;simp at hj)
 cases A with
 |none=>simp[Builtin.append_,run_underlying ht,sizeOf,typeInfo,hi,Builtin.lenOf,hn,hf]
 |some a=>simp[Builtin.append_,run_underlying ht,sizeOf,typeInfo,hi,Builtin.lenOf,hn,hf,storeCells]
theorem ZkN (r:Rel Z κ h w):Rel Z (upd κ h.length (.live 0 none 0)) (h++[.cells 0 []]) w/\Ext Z κ w Z (upd κ h.length (.live 0 none 0)) w/\Zq κ (upd κ h.length (.live 0 none 0)):=by
 have hh:=r.hole h.length (Nat.le_refl _)
 have hs:Zq κ (upd κ h.length (.live 0 none 0)):= .upd (.inl hh)
 have hal:∀b,ZT (upd κ h.length (.live 0 none 0)) b->ZT κ b:=by
  rintro b ⟨id,ver,sz,hk⟩
  by_cases hid:id=h.length
  ·subst hid;rw[Zk] at hk;cases hk
  ·rw[Zr _ _ hid] at hk;exact⟨id,ver,sz,hk⟩
 have e:Ext Z κ w Z (upd κ h.length (.live 0 none 0)) w:=⟨rfl,rfl,rfl,Nat.le_refl _,λ_ _ _=>rfl,λ_ h=>h,λ_ h=> .inl h,λb ha=> .inl (hal b ha)⟩
 refine⟨⟨r.zlt,λb hz ha=>r.za b hz (hal b ha),λid hid=> ?_,λid x hx=> ?_,?_⟩,e,hs⟩
 ·simp at hid
  rw[Zr _ _ (by omega)];exact r.hole id (by omega)
 ·by_cases hid:id=h.length
  ·subst hid
   simp at hx
   subst hx
   exact⟨none,0,Zk _ _ _,rfl⟩
  ·have hlt:id<h.length:=by
    have:=(List.getElem?_eq_some_iff.1 hx).1
    simp at this;omega
   rw[List.getElem?_append_left hlt] at hx
   exact(r.blk id x hx).ext r e hs (Zr _ _ hid) λ_ _ _ _=>rfl
 ·intro id id' ver ver' b sz sz' h1 h2
  by_cases hid:id=h.length
  ·subst hid;rw[Zk] at h1;cases h1
  ·by_cases hid':id'=h.length
   ·subst hid';rw[Zk] at h2;cases h2
   ·rw[Zr _ _ hid] at h1;rw[Zr _ _ hid'] at h2
    exact r.inj _ _ _ _ _ _ _ h1 h2
theorem ZjO (r:Rel Z κ h w) {id ver sz:Nat} {ob:Option Nat} {cs:List AV} (hx:h[id]? =some (.cells ver cs)) (hk:κ id= .live ver ob sz):
  Rel Z (upd κ id (.live (ver+1) ob sz)) (h.set id (.cells (ver+1) cs)) w/\Ext Z κ w Z (upd κ id (.live (ver+1) ob sz)) w/\Zq κ (upd κ id (.live (ver+1) ob sz)):=by
 have hid:=(List.getElem?_eq_some_iff.1 hx).1
 have hst:Zq κ (upd κ id (.live (ver+1) ob sz)):= .upd (.inr (by rw[hk];simp[Slot.step]))
 have hal:∀b,ZT (upd κ id (.live (ver+1) ob sz)) b->ZT κ b:=by
  rintro b ⟨j,v,s,hkj⟩
  by_cases hj:j=id
  ·subst hj;rw[Zk] at hkj;injection hkj with _ h2 _;subst h2;exact⟨j,_,_,hk⟩
  ·rw[Zr _ _ hj] at hkj;exact⟨j,v,s,hkj⟩
 have e:Ext Z κ w Z (upd κ id (.live (ver+1) ob sz)) w:=⟨rfl,rfl,rfl,Nat.le_refl _,λ_ _ _=>rfl,λ_ h=>h,λ_ h=> .inl h,λb ha=> .inl (hal b ha)⟩
 refine⟨⟨r.zlt,λb hz ha=>r.za b hz (hal b ha),λj hj=> ?_,λj x hj=> ?_,?_⟩,e,hst⟩
 ·simp at hj
  rw[Zr _ _ (by omega)];exact r.hole j hj
 ·by_cases hji:j=id
  ·subst hji
   rw[List.getElem?_set_self hid] at hj
   injection hj with hj
   subst hj
   obtain⟨ob',sz',h1,h2⟩:=r.blk j _ hx
   rw[hk] at h1
   injection h1 with e1 e2 e3
   subst e2 e3
   refine⟨ob,sz,Zk _ _ _,?_⟩
   cases ob with
   |none=>exact h2
   |some b=>
    obtain⟨c,E,us,h3,h4,h5,h6,h7⟩:=h2
    exact⟨c,E,us,h3.up (Nat.le_succ _),h4,h5,h6,h7.ext r e hst⟩
  ·rw[List.getElem?_set_ne (Ne.symm hji)] at hj
   exact(r.blk j x hj).ext r e hst (Zr _ _ hji) λ_ _ _ _=>rfl
 ·intro j j' v v' b s s' h1 h2
  by_cases hj:j=id<;>by_cases hj':j'=id
  ·rw[hj,hj']
  ·subst hj
   rw[Zk] at h1;rw[Zr _ _ hj'] at h2
   injection h1 with _ h1 _;subst h1
   exact r.inj _ _ _ _ _ _ _ hk h2
  ·subst hj'
   rw[Zk] at h2;rw[Zr _ _ hj] at h1
   injection h2 with _ h2 _;subst h2
   exact r.inj _ _ _ _ _ _ _ h1 hk
  ·rw[Zr _ _ hj] at h1;rw[Zr _ _ hj'] at h2
   exact r.inj _ _ _ _ _ _ _ h1 h2
def app0 (k:Nat) (s:AV) (h:Za):Option (AV×Za):=
 match s with
 | .sl true n cs=>if n=0/\cs.length=n*k then some (AV.own h.length 0 0 (n+0) k,h++[ABlk.cells 0 (cs++[])]) else none
 | .own id ver 0 n k'=>match h[id]? with
  |some (.cells ver' cs)=>if ver=ver'/\k'=k/\cs.length=n*k then some (AV.own id (ver+1) 0 (n+0) k,h.set id (ABlk.cells (ver+1) (cs++[]))) else none
  |_=>none
 |_=>none
theorem Zqg {t ty e:TypeId} {i:TypeInfo} {s x v:AV} {c d:Value} {h':Za} {ys:List AV} (r:Rel Z κ h w) (hs:R Z w κ s c) (hx:R Z w κ x d) (ht:P.underlying t=some (.slice e)) (hi:P.info? e=some i)
  (hsrc:Zcn i.size h x=some (0,ys)) (h0:0<i.size) (hy:ys=[])
  (hv:app0 i.size s h=some (v,h')):
  ∃u w' κ',(Builtin.append_ #[t,t] ty #[c,d]).run P w= .ok u w'/\Rel Z κ' h' w'/\R Z w' κ' v u/\Ext Z κ w Z κ' w'/\Zq κ κ':=by
 subst hy
 obtain⟨A',c',rfl⟩:=ZsK hx hsrc
 unfold app0 at hv
 split at hv
 ·rename_i n cs
  split at hv
  ·rename_i hc
   obtain⟨hn0,hl⟩:=hc
   subst hn0
   have:cs=[]:=List.eq_nil_of_length_eq_zero (by rw[hl];simp)
   subst this
   simp only[Option.some.injEq,Prod.mk.injEq] at hv
   obtain⟨rfl,rfl⟩:=hv
   cases hs with
   |sl0 h2 h3=>
    rename_i A cap
    have hz:=h2 rfl
    subst hz
    obtain⟨r',e',s'⟩:=ZkN r
    refine⟨_,w,_,ZbZ t ty e i ht hi A 0 0 (Nat.le_refl _) A' c',r',?_,e',s'⟩
    refine .own (Nat.le_refl _) h3 (by simp) ?_
    simp[ZV,Zk,Zdm]
   |sl h2=>exact absurd h2 (by omega)
  ·cases hv
 ·rename_i id ver n k'
  split at hv
  ·rename_i ver' cs hh
   split at hv
   ·rename_i hc
    obtain⟨rfl,rfl,hcl⟩:=hc
    simp only[Option.some.injEq,Prod.mk.injEq] at hv
    obtain⟨rfl,rfl⟩:=hv
    rcases own_slice r hs hh with⟨sz,A0,q1,rfl,_,rfl,rfl⟩|⟨b,sz,arr,E,us,cap,a0,q1,rfl,q3,q4,q5,q6,q7,q8,q9,q10,q11,q12⟩
    ·obtain⟨r',e',s'⟩:=ZjO r hh q1
     refine⟨_,w,_,ZbZ t ty e i ht hi A0 0 0 (Nat.le_refl _) A' c',by simpa using r',?_,e',s'⟩
     refine .own (Nat.le_refl _) (by simp[maxLen]) (by simp) ?_
     simp[ZV,Zk,Zdm]
    ·obtain⟨r',e',s'⟩:=ZjO r hh q1
     refine⟨_,w,_,ZbZ t ty e i ht hi (some a0) n cap q3 A' c',by simpa using r',?_,e',s'⟩
     refine .own q3 (by omega) (by simp) ?_
     simp only[ZV,Zk,Zdm]
     exact⟨Nat.le_refl _,λ_=>⟨q4,q5,⟨a0,rfl,q6⟩,q7⟩⟩
   ·cases hv
  ·cases hv
 ·cases hv
theorem Zqh {t ty:TypeId} {s x v:AV} {c d:Value} {h':Za} (r:Rel Z κ h w) (hs:R Z w κ s c) (hx:R Z w κ x d) (hv:ZgX P t s x h=some (v,h')):
  ∃u w' κ',(Builtin.append_ #[t,t] ty #[c,d]).run P w= .ok u w'/\Rel Z κ' h' w'/\R Z w' κ' v u/\Ext Z κ w Z κ' w'/\Zq κ κ':=by
 unfold ZgX at hv
 split at hv
 ·cases hv
 ·rename_i e he
  have ht:=run_telem he
  split at hv
  ·rename_i k zs by_ hk hz hby
   split at hv
   ·cases hv
   ·rename_i m ys hsrc
    split at hv
    ·rename_i hc
     obtain⟨hk0,hzl,hyl,hone⟩:=hc
     obtain⟨i,hi,rfl⟩:=Option.map_eq_some_iff.1 hk
     rcases Nat.eq_zero_or_pos m with hm|hm
     ·subst hm
      have hy:ys=[]:=List.eq_nil_of_length_eq_zero (by rw[hyl];simp)
      subst hy
      refine Zqg (ty:=ty) r hs hx ht hi hsrc hk0 rfl ?_
      unfold app0
      split at hv
      ·split at hv
       ·rename_i hc
        rw[if_pos ⟨by omega,hc.2.1⟩];exact hv
       ·cases hv
      ·split at hv
       ·rename_i hh
        split at hv
        ·rename_i hc
         rw[if_pos ⟨hc.1,hc.2.1,hc.2.2.1⟩];exact hv
        ·cases hv
       ·cases hv
      ·cases hv
     obtain⟨a,ca,ws,rfl,hat,hws⟩:=ZgW r hx hsrc hm
     obtain⟨i2,hi2,rfl⟩:=Option.map_eq_some_iff.1 hby
     have:i2=i:=by rw[hi] at hi2;injection hi2 with hi2;exact hi2.symm
     subst this
     obtain⟨z,hz',rfl⟩:=Option.map_eq_some_iff.1 hz
     obtain⟨i3,hi3,hz'⟩:=Option.bind_eq_some_iff.1 hz'
     have:i3=i2:=by rw[hi] at hi3;injection hi3 with hi3;exact hi3.symm
     subst this
     have hwl:ws.length=m*i3.size:=by rw[<-hws.length];exact hyl
     have hwone:=ZjN hws hone
     have hzs:z.cells.size=i3.size:=by simpa using hzl
     have szz:∀(us:List Value) (n need cap:Nat),us.length=n*i3.size->need=n+m->need<=cap->(us.toArray++ws.toArray++Builtin.zeroCells z.cells (cap -need)).size=cap*i3.size:=by
      intro us n need cap h1 h2 h3
      simp only[Array.size_append,List.size_toArray,size_zeroCells,hzs,h1,hwl,<-Nat.add_mul]
      congr 1;omega
     split at hv
     ·rename_i n cs
      split at hv
      ·rename_i hc
       obtain⟨hmn,hcl,hb1,hb2⟩:=hc
       simp only[Option.some.injEq,Prod.mk.injEq] at hv
       obtain⟨rfl,rfl⟩:=hv
       have hml:n+m<=9223372036854775807:=by simp only[maxLen] at hb2;omega
       have shape:∃A us,c= .slice A n n/\Rs Z w κ cs us/\(Builtin.append_ #[t,t] ty #[c,.slice (some a) m ca]).run P w= .ok (.slice (some ⟨w.heap.size,0,none⟩) (n+m) (grownCap w (n+m) n e)) (w.drew.alloc (.cells (us.toArray++ws.toArray++Builtin.zeroCells z.cells (grownCap w (n+m) n e -(n+m))) e)):=by
        cases hs with
        |sl0 h2 h3=>
         rename_i A cap
         have h0:=h2 rfl
         subst h0
         refine⟨A,[],rfl,.nil,?_⟩
         cases A with
         |none=>
          have:=run_append_nil (P:=P) w t ty e i3 z ht hi hz' a m ca ws hwl hat hm (by omega) (by simp only[Nat.zero_add] at hb1;omega)
          simpa using this
         |some a0=>
          have:=run_append_grow (P:=P) w t ty e i3 z ht hi hz' a0 0 0 [] (by simp) (by intro j v hj;simp at hj) a m ca ws hwl hat (by omega) (by omega) (growslice_fits (by omega) hb1)
          simpa using this
        |sl h2 h3 h4 h5 h6 h7 h8=>
         rename_i a0 cap0 us
         have h0:=h4 rfl
         subst h0
         refine⟨some a0,us,rfl,h8,?_⟩
         exact run_append_grow (P:=P) w t ty e i3 z ht hi hz' a0 _ _ us (by rw[<-h8.length];exact hcl) h7 a m ca ws hwl hat (by omega) (by omega) (growslice_fits (by omega) hb1)
       obtain⟨A,us,rfl,hus,hrun⟩:=shape
       have hge:=grownCap_ge w (n+m) n e
       have hcm:=grownCap_le_maxLen w (n+m) n e hb2
       have hul:us.length=n*i3.size:=by rw[<-hus.length];exact hcl
       have r1:Rel Z κ h w.drew:=⟨r.zlt,r.za,r.hole,λid x hx=>(r.blk id x hx).ext r ⟨rfl,rfl,rfl,Nat.le_refl _,λ_ _ _=>rfl,λ_ h=>h,λ_ h=> .inl h,λ_ h=> .inl h⟩ (.refl _) rfl (λ_ _ _ _=>rfl),r.inj⟩
       have e1:Ext Z κ w Z κ w.drew:=⟨rfl,rfl,rfl,Nat.le_refl _,λ_ _ _=>rfl,λ_ h=>h,λ_ h=> .inl h,λ_ h=> .inl h⟩
       have hsize:=szz us n (n+m) (grownCap w (n+m) n e) hul rfl hge
       obtain⟨r2,e2,s2⟩:=Zdn r1 ((hus.append hws).ext r e1 (.refl _)) (us.toArray++ws.toArray++Builtin.zeroCells z.cells (grownCap w (n+m) n e -(n+m))) e (by rw[hsize,List.length_append,hul,hwl,<-Nat.add_mul];exact Nat.mul_le_mul_right _ hge) ZcT
       refine⟨_,_,_,hrun,r2,?_,e1.trans e2,s2⟩
       exact ZeU (Zk _ _ _) hge hcm hsize.symm hk0
      ·cases hv
     ·rename_i id ver n k'
      split at hv
      ·rename_i ver' cs hh
       split at hv
       ·rename_i hc
        obtain⟨rfl,rfl,hcl,hb1,hb2⟩:=hc
        simp only[Option.some.injEq,Prod.mk.injEq] at hv
        obtain⟨rfl,rfl⟩:=hv
        have hml:n+m<=9223372036854775807:=by simp only[maxLen] at hb2;omega
        have grow:∀(old:Nat) (us:List Value),us.length=n*i3.size->Rs Z w κ cs us->(Builtin.append_ #[t,t] ty #[c,.slice (some a) m ca]).run P w= .ok (.slice (some ⟨w.heap.size,0,none⟩) (n+m) (grownCap w (n+m) old e)) (w.drew.alloc (.cells (us.toArray++ws.toArray++Builtin.zeroCells z.cells (grownCap w (n+m) old e -(n+m))) e))->
          ∃u w' κ',(Builtin.append_ #[t,t] ty #[c,.slice (some a) m ca]).run P w= .ok u w'/\Rel Z κ' (h.set id (.cells (ver+1) (cs++ys))) w'/\R Z w' κ' (.own id (ver+1) 0 (n+m) i3.size) u/\Ext Z κ w Z κ' w'/\Zq κ κ':=by
         intro old us hul hus hrun
         have hge:=grownCap_ge w (n+m) old e
         have hcm:=grownCap_le_maxLen w (n+m) old e hb2
         have hsize:=szz us n (n+m) (grownCap w (n+m) old e) hul rfl hge
         obtain⟨r2,e2,s2⟩:=ZfK r hh (b':=w.heap.size) (E:=e) (w':=w.drew.alloc (.cells (us.toArray++ws.toArray++Builtin.zeroCells z.cells (grownCap w (n+m) old e -(n+m))) e)) (.inr (Nat.le_refl _)) rfl rfl rfl (by simp) (λb hb _=>ZG w.drew _ hb) (.of (Zal w.drew _) _) hus hws
          (by rw[hsize,List.length_append,hul,hwl,<-Nat.add_mul];exact Nat.mul_le_mul_right _ hge) ZcT
         refine⟨_,_,_,hrun,r2,?_,e2,s2⟩
         refine .own hge hcm (by simp) ?_
         simp only[ZV,Zk,Zdm]
         exact⟨Nat.le_refl _,λ_=>⟨by simpa using hsize.symm,hk0,⟨_,rfl,λ_=>by simp⟩,by omega⟩⟩
        rcases own_slice r hs hh with⟨sz,A0,q1,rfl,_,rfl,rfl⟩|⟨b,sz,arr,E,us,cap,a0,q1,rfl,q3,q4,q5,q6,q7,q8,q9,q10,q11,q12⟩
        ·cases A0 with
         |none=>
          have:=run_append_nil (P:=P) w t ty e i3 z ht hi hz' a m ca ws hwl hat hm (by omega) (by simp only[Nat.zero_add] at hb1;omega)
          exact grow 0 [] (by simp) .nil (by simpa using this)
         |some a0=>
          have:=run_append_grow (P:=P) w t ty e i3 z ht hi hz' a0 0 0 [] (by simp) (by intro j v hj;simp at hj) a m ca ws hwl hat (by omega) (by omega) (growslice_fits (by omega) hb1)
          exact grow 0 [] (by simp) .nil (by simpa using this)
        ·have hul:us.length=n*i3.size:=by rw[<-q12.length];exact hcl
         by_cases hroom:n+m<=cap
         ·have ha0:a0=⟨b,0,none⟩:=by simpa using q6 (by omega)
          subst ha0
          have harr:arr.size=cap*i3.size:=by rw[q9,<-q4];simp
          have hfit:n*i3.size+ws.length<=arr.size:=by rw[hwl,harr,<-Nat.add_mul];exact Nat.mul_le_mul_right _ hroom
          obtain⟨fr,q8,q8f⟩:=q8
          have hrun:=Zgx (P:=P) t ty e i3 ht hi b n cap arr E fr q8 (q8f.imp (λe=>e) (·.2)) a m ca ws hwl hat hwone hroom hfit
          have hsz':(arr.toList.take (n*i3.size)++ws++arr.toList.drop (n*i3.size+ws.length)).toArray.size=arr.size:=by
           simp only[List.size_toArray,List.length_append,List.length_take,List.length_drop,Array.length_toList];omega
          obtain⟨r2,e2,s2⟩:=ZfK r hh (b':=b) (E:=E) (w':=w.setRow b (arr.toList.take (n*i3.size)++ws++arr.toList.drop (n*i3.size+ws.length)).toArray) (.inl ⟨sz,q1⟩) rfl rfl rfl (by simp) (λb' hb' hne=>Ziq w b _ hne) ⟨fr,setRow_heap w b arr _ E _ q8,q8f.imp (λe=>e) λg=>⟨Nat.le_trans g.1 (Nat.le_succ _),hsz'▸g.2⟩⟩ q12 hws
           (by rw[hsz',List.length_append,hul];exact hfit) (Zqf hul hfit q11)
          refine⟨_,_,_,hrun,r2,?_,e2,s2⟩
          refine .own hroom (by omega) (by simp) ?_
          simp only[ZV,Zk,Zdm]
          exact⟨Nat.le_refl _,λ_=>⟨by rw[hsz',harr];simp,hk0,⟨_,rfl,λ_=>by simp⟩,by omega⟩⟩
         ·have hfirst:∀j u,us[j]? =some u->w.cell? (a0.add j)=some u:=by
           intro j u hj
           have hjl:=(List.getElem?_eq_some_iff.1 hj).1
           have hn0:0<n:=Nat.pos_of_ne_zero λh0=>by subst h0;rw[Nat.zero_mul] at hul;omega
           rw[q6 (by omega)]
           have:=ZaC q8 q11 0 j u (by simpa using hj)
           simpa using this
          exact grow cap us hul q12 (run_append_grow (P:=P) w t ty e i3 z ht hi hz' a0 n cap us hul hfirst a m ca ws hwl hat (by omega) (by omega) (growslice_fits (by omega) hb1))
       ·cases hv
      ·cases hv
     ·cases hv
    ·cases hv
  ·cases hv
end Go.Cx
set_option linter.unusedVariables false
namespace Go.Cx
variable {P:Program} {Z:Nat->Prop} {κ:Nat->Slot} {h:Za} {w:World}
def pr (P:Program) {α:Type}:Sem α->Option α
 | .pure a=>some a
 | .program k=>pr P (k P)
 | .mark _ k=>pr P k
 |_=>none
theorem ZiA {α:Type} (s:Sem α):∀{a:α},pr P s=some a->s.run P w= .ok a w:=by
 induction s with
 |pure a=>intro b hb;simp only[pr,Option.some.injEq] at hb;subst hb;rfl
 |program k ih=>intro b hb;exact ih P hb
 |mark m k ih=>intro b hb;exact ih hb
 |_=>intro b hb;simp[pr] at hb
@[simp] theorem ZaO {α:Type} (a:α):pr P (Pure.pure a:Sem α)=some a:=rfl
@[simp] theorem pr_pure' {α:Type} (a:α):pr P (Sem.pure a:Sem α)=some a:=rfl
@[simp] theorem pr_bind {α β:Type} (x:Sem α) (f:α->Sem β):pr P (x>>=f)=(pr P x).bind λa=>pr P (f a):=by
 show pr P (Sem.bind x f)=_
 induction x with
 |program k ih=>simpa[Sem.bind,pr] using ih P
 |mark m k ih=>simpa[Sem.bind,pr] using ih
 |_=>simp[Sem.bind,pr]
theorem Zgm {α:Type} (c:Prop) [Decidable c] (x y:Sem α):pr P (if c then x else y)=if c then pr P x else pr P y:=by split<;>rfl
theorem Zz {t:TypeId} {d:TypeDesc} (hd:P.underlying t=some d):pr P (underlying t)=some d:=by
 simp[underlying,program,pr,hd]
def concV:AV->Option Value
 | .val v=>some v
 |_=>none
def conc:AV->Option Value
 | .val v=>some v
 | .agg cs=>(cs.mapM concV).map λl=> .agg l.toArray
 |_=>none
theorem Zaf {a:AV} {c v:Value} (hr:R Z w κ a c) (hc:concV a=some v):c=v:=by
 cases hr<;>simp[concV] at hc
 exact hc
theorem Zor:∀{as:List AV} {cs vs:List Value},Rs Z w κ as cs->as.mapM concV=some vs->cs=vs
 |_,_,vs,.nil,hc=>by simp at hc;exact hc.symm
 |_,_,vs,.cons h1 h2,hc=>by
  simp only[List.mapM_cons,Option.pure_def,Option.bind_eq_bind] at hc
  obtain⟨y,hy,hc⟩:=Option.bind_eq_some_iff.1 hc
  obtain⟨ys,hys,hc⟩:=Option.bind_eq_some_iff.1 hc
  injection hc with hc
  rw[<-hc,Zaf h1 hy,Zor h2 hys]
theorem Zbx {a:AV} {c v:Value} (hr:R Z w κ a c) (hc:conc a=some v):c=v:=by
 cases hr with
 |val h=>simp only[conc,Option.some.injEq] at hc;exact hc
 |agg h=>
  simp only[conc] at hc
  obtain⟨l,hl,rfl⟩:=Option.map_eq_some_iff.1 hc
  rw[Zor h hl]
 |_=>simp[conc] at hc
def abin (P:Program) (op:BinOp) (t:TypeId) (ox oy:Operand) (x y:AV):Option AV:=
 match conc x,conc y with
 |some a,some b=>((pr P (eqGuard op t ox oy a b)).bind λ_=>pr P (binOp op t a b)).map ofV
 |_,_=>none
theorem abin_ok {op:BinOp} {t:TypeId} {ox oy:Operand} {x y v:AV} {c d:Value} (hx:R Z w κ x c) (hy:R Z w κ y d) (hv:abin P op t ox oy x y=some v):
  ∃u,((do eqGuard op t ox oy c d;binOp op t c d:Sem Value)).run P w= .ok u w/\R Z w κ v u:=by
 unfold abin at hv
 split at hv
 ·rename_i a b h1 h2
  obtain⟨u,hu,rfl⟩:=Option.map_eq_some_iff.1 hv
  rw[Zbx hx h1,Zbx hy h2]
  exact⟨u,ZiA _ (by rw[pr_bind];exact hu),ZkE u⟩
 ·cases hv
def aun (P:Program) (op:UnOp) (x:AV):Option AV:=
 match conc x with
 |some a=>(pr P (Op.unary op a)).map ofV
 |none=>none
theorem aun_ok {op:UnOp} {x v:AV} {c:Value} (hx:R Z w κ x c) (hv:aun P op x=some v):∃u,(Op.unary op c).run P w= .ok u w/\R Z w κ v u:=by
 unfold aun at hv
 split at hv
 ·rename_i a h1
  obtain⟨u,hu,rfl⟩:=Option.map_eq_some_iff.1 hv
  rw[Zbx hx h1]
  exact⟨u,ZiA _ hu,ZkE u⟩
 ·cases hv
def Zgy (P:Program) (src dst:TypeId) (x:AV):Option AV:=
 match conc x with
 |some a=>(pr P (convert src dst a)).map ofV
 |none=>none
theorem Zwc {src dst:TypeId} {x v:AV} {c:Value} (hx:R Z w κ x c) (hv:Zgy P src dst x=some v):∃u,(convert src dst c).run P w= .ok u w/\R Z w κ v u:=by
 unfold Zgy at hv
 split at hv
 ·rename_i a h1
  obtain⟨u,hu,rfl⟩:=Option.map_eq_some_iff.1 hv
  rw[Zbx hx h1]
  exact⟨u,ZiA _ hu,ZkE u⟩
 ·cases hv
def u8s:List AV->Option (List UInt8)
 |[]=>some []
 | .val (.int .u8 n)::l=>(u8s l).map (UInt8.ofNat n.toNat:: ·)
 |_=>none
theorem u8s_ok:∀{ys:List AV} {us:List Value} {l:List UInt8},u8s ys=some l->Rs Z w κ ys us->∃ns:List Int,us=ns.map (Value.int .u8)/\l=ns.map λn=>UInt8.ofNat n.toNat
 |[],us,l,hu,hr=>by cases hr;simp[u8s] at hu;subst hu;exact⟨[],rfl,rfl⟩
 |a::ys,us,l,hu,hr=>by
  unfold u8s at hu
  split at hu
  ·rename_i e;cases e
  ·rename_i n l' e
   injection e with e1 e2
   subst e1 e2
   obtain⟨l2,h2,rfl⟩:=Option.map_eq_some_iff.1 hu
   cases hr with
   |cons h3 h4=>
    obtain⟨ns,rfl,rfl⟩:=u8s_ok h2 h4
    have:=Zbx h3 (v:= .int .u8 n) rfl
    subst this
    exact⟨n::ns,rfl,rfl⟩
  ·cases hu
theorem ZgY:∀(ns:List Int) (r:ByteArray),ns.foldl (λr n=>r.push (UInt8.ofNat n.toNat)) r=⟨r.data++(ns.map λn=>UInt8.ofNat n.toNat).toArray⟩
 |[],r=>by simp
 |b::l,r=>by
  simp only[List.foldl_cons,List.map_cons]
  rw[ZgY l]
  simp[ByteArray.push]
def isU8:TypeDesc->Bool
 | .int .u8=>true
 |_=>false
def isStr:TypeDesc->Bool
 | .string=>true
 |_=>false
def ZgZ:AV->Bool
 | .own .. =>false
 |_=>true
def Zha (P:Program) (src dst:TypeId) (x:AV) (h:Za):Option AV:=
 match Zab P src with
 |some e=>if(P.underlying e).map isU8=some true/\(P.underlying dst).map isStr=some true then match Zcn 1 h x with
   |some (m,ys)=>if ys.length=m then(u8s ys).map λl=> .val (.string ⟨l.toArray⟩) else none
   |none=>none
  else none
 |none=>none
def ZeV (P:Program) (src dst:TypeId) (x:AV) (h:Za):Option AV:=
 match x with
 | .sl t n cs=>Zha P src dst (.sl t n cs) h
 | .own id ver off n k=>Zha P src dst (.own id ver off n k) h
 |x=>Zgy P src dst x
theorem ZkO {src dst:TypeId} {x v:AV} {c:Value} (r:Rel Z κ h w) (hx:R Z w κ x c) (hv:Zha P src dst x h=some v):∃u,(convert src dst c).run P w= .ok u w/\R Z w κ v u:=by
 unfold Zha at hv
 split at hv
 ·rename_i e he
  split at hv
  ·rename_i hc
   obtain⟨h1,h2⟩:=hc
   obtain⟨d1,hd1,hd1'⟩:=Option.map_eq_some_iff.1 h1
   obtain⟨d2,hd2,hd2'⟩:=Option.map_eq_some_iff.1 h2
   have hu8:P.underlying e=some (.int .u8):=by
    rw[hd1];cases d1<;>simp[isU8] at hd1'
    rename_i k;cases k<;>simp at hd1'<;>rfl
   have hst:P.underlying dst=some .string:=by rw[hd2];cases d2<;>simp[isStr] at hd2'<;>rfl
   split at hv
   ·rename_i m ys hs
    split at hv
    ·rename_i hl
     obtain⟨l,hl2,rfl⟩:=Option.map_eq_some_iff.1 hv
     rcases Nat.eq_zero_or_pos m with hm|hm
     ·subst hm
      have:ys=[]:=List.eq_nil_of_length_eq_zero hl
      subst this
      simp only[u8s,Option.some.injEq] at hl2
      subst hl2
      obtain⟨A,cap,rfl⟩:=ZsK hx hs
      refine⟨.string .empty,?_,.val rfl⟩
      rw[run_convert_bytes_string w src dst e _ 0 cap (run_telem he) hu8 hst]
      cases A with
      |none=>simp[Conv.bytesToString]
      |some a=>
       have hload:=run_loadCells_list (P:=P) w a [] (λj v hj=>by simp at hj)
       have:=run_bytesToString w a 0 cap [] (by simpa using hload)
       simpa using this
     ·obtain⟨a,cap,us,rfl,hat,hus⟩:=ZgW r hx hs hm
      obtain⟨ns,rfl,rfl⟩:=u8s_ok hl2 hus
      have hn:ns.length=m:=by have:=hus.length;simp at this;omega
      have hload:=run_loadCells_list (P:=P) w a (ns.map (Value.int .u8)) hat
      simp only[List.length_map] at hload
      rw[hn] at hload
      refine⟨.string ⟨(ns.map λn=>UInt8.ofNat n.toNat).toArray⟩,?_,.val rfl⟩
      rw[run_convert_bytes_string w src dst e _ m cap (run_telem he) hu8 hst,run_bytesToString w a m cap ns hload,ZgY]
      have he0:ByteArray.empty.data= #[]:=rfl
      rw[he0]
      simp
    ·cases hv
   ·cases hv
  ·cases hv
 ·cases hv
theorem ZsL {src dst:TypeId} {x v:AV} {c:Value} (r:Rel Z κ h w) (hx:R Z w κ x c) (hv:ZeV P src dst x h=some v):∃u,(convert src dst c).run P w= .ok u w/\R Z w κ v u:=by
 unfold ZeV at hv
 split at hv
 ·exact ZkO r hx hv
 ·exact ZkO r hx hv
 ·exact Zwc hx hv
theorem Zqi {src dst:TypeId} {x:AV} (hx:ZgZ x=true) (k:Za):ZeV P src dst x k=ZeV P src dst x h:=by
 cases x with
 |sl t n cs=>rfl
 |own=>simp[ZgZ] at hx
 |_=>rfl
def Zdq (P:Program) (t:TypeId) (x i:AV):Option AV:=
 match conc x,conc i with
 |some a,some b=>(pr P (Instr.index t a b)).map ofV
 |_,_=>none
theorem Zqj {t:TypeId} {x y v:AV} {c d:Value} (hx:R Z w κ x c) (hy:R Z w κ y d) (hv:Zdq P t x y=some v):∃u,(Instr.index t c d).run P w= .ok u w/\R Z w κ v u:=by
 unfold Zdq at hv
 split at hv
 ·rename_i a b h1 h2
  obtain⟨u,hu,rfl⟩:=Option.map_eq_some_iff.1 hv
  rw[Zbx hx h1,Zbx hy h2]
  exact⟨u,ZiA _ hu,ZkE u⟩
 ·cases hv
def ZkP:Option AV->Option (Option Value)
 |none=>some none
 |some a=>(conc a).map some
theorem ZjP {a:Option AV} {c v:Option Value} (hr:Ro Z w κ a c) (hc:ZkP a=some v):c=v:=by
 cases hr with
 |none=>simpa[ZkP] using hc
 |some hr=>
  obtain⟨u,hu,rfl⟩:=Option.map_eq_some_iff.1 hc
  rw[Zbx hr hu]
def Zca (P:Program) (t:TypeId) (x:AV) (lo hi mx:Option AV):Option AV:=
 match conc x,ZkP lo,ZkP hi,ZkP mx with
 |some a,some l,some h,some m=>(pr P (Instr.sliceAt t a l h m)).map ofV
 |_,_,_,_=>none
theorem Zqk {t:TypeId} {x v:AV} {lo hi mx:Option AV} {c:Value} {cl ch cm:Option Value} (hx:R Z w κ x c) (hlo:Ro Z w κ lo cl) (hhi:Ro Z w κ hi ch) (hmx:Ro Z w κ mx cm) (hv:Zca P t x lo hi mx=some v):
  ∃u,(Instr.sliceAt t c cl ch cm).run P w= .ok u w/\R Z w κ v u:=by
 unfold Zca at hv
 split at hv
 ·rename_i a l h m h1 h2 h3 h4
  obtain⟨u,hu,rfl⟩:=Option.map_eq_some_iff.1 hv
  rw[Zbx hx h1,ZjP hlo h2,ZjP hhi h3,ZjP hmx h4]
  exact⟨u,ZiA _ hu,ZkE u⟩
 ·cases hv
def isString:TypeDesc->Bool
 | .string=>true
 |_=>false
def alen (P:Program) (t:TypeId) (x:AV):Option AV:=
 match x with
 | .sl _ n _| .own _ _ _ n _=>if(Zab P t).isSome then some (.val (.int .i64 n)) else none
 | .val (.string s)=>if(P.underlying t).map isString=some true then some (.val (.int .i64 s.size)) else none
 |_=>none
theorem alen_ok {t ty:TypeId} {x v:AV} {c:Value} (hx:R Z w κ x c) (hv:alen P t x=some v):∃u,(Builtin.len_ #[t] ty #[c]).run P w= .ok u w/\R Z w κ v u:=by
 have key:∀(A:Option Addr) (n cap:Nat),(Zab P t).isSome=true->(Builtin.len_ #[t] ty #[.slice A n cap]).run P w= .ok (.int .i64 n) w:=by
  intro A n cap ht
  obtain⟨e,he⟩:=Option.isSome_iff_exists.1 ht
  simp[Builtin.len_,run_underlying (run_telem he),goInt]
 unfold alen at hv
 split at hv
 ·split at hv
  ·rename_i hc
   injection hv with hv
   subst hv
   cases hx with
   |sl0=>exact⟨_,key _ _ _ hc,.val rfl⟩
   |sl=>exact⟨_,key _ _ _ hc,.val rfl⟩
  ·cases hv
 ·split at hv
  ·rename_i hc
   injection hv with hv
   subst hv
   cases hx with
   |own=>exact⟨_,key _ _ _ hc,.val rfl⟩
  ·cases hv
 ·split at hv
  ·rename_i hc
   injection hv with hv
   subst hv
   cases hx with
   |val=>
    obtain⟨d,hd,hs⟩:=Option.map_eq_some_iff.1 hc
    cases d<;>simp[isString] at hs
    exact⟨_,by simp[Builtin.len_,run_underlying hd,goInt],.val rfl⟩
  ·cases hv
 ·cases hv
def Zcb (P:Program) (b:Builtin) (ts:Array TypeId) (ty:TypeId) (consts:Array Bool) (xs:List AV):Option AV:=
 match xs.mapM conc with
 |some vs=>match pr P (builtin b ts ty consts vs.toArray) with
  |some (.value v)=>some (ofV v)
  |_=>none
 |none=>none
theorem Zhb:∀{as:List AV} {cs vs:List Value},Rs Z w κ as cs->as.mapM conc=some vs->cs=vs
 |_,_,vs,.nil,hc=>by simp at hc;exact hc.symm
 |_,_,vs,.cons h1 h2,hc=>by
  simp only[List.mapM_cons,Option.pure_def,Option.bind_eq_bind] at hc
  obtain⟨y,hy,hc⟩:=Option.bind_eq_some_iff.1 hc
  obtain⟨ys,hys,hc⟩:=Option.bind_eq_some_iff.1 hc
  injection hc with hc
  rw[<-hc,Zbx h1 hy,Zhb h2 hys]
theorem ZkQ {b:Builtin} {ts:Array TypeId} {ty:TypeId} {consts:Array Bool} {xs:List AV} {cs:List Value} {v:AV} (hx:Rs Z w κ xs cs) (hv:Zcb P b ts ty consts xs=some v):
  ∃u,(builtin b ts ty consts cs.toArray).run P w= .ok (.value u) w/\R Z w κ v u:=by
 unfold Zcb at hv
 split at hv
 ·rename_i vs h1
  split at hv
  ·rename_i u hu
   injection hv with hv
   subst hv
   rw[Zhb hx h1]
   exact⟨u,ZiA _ hu,ZkE u⟩
  ·cases hv
 ·cases hv
end Go.Cx
set_option linter.unusedVariables false
set_option linter.unusedSimpArgs false
namespace Go.Cx
open Go.MapKept
variable {P:Program} {Z:Nat->Prop} {κ:Nat->Slot} {h:Za} {w:World}
def keyDesc:TypeDesc->Bool
 | .bool| .int _| .string=>true
 |_=>false
def tmap (P:Program) (t:TypeId):Option (TypeDesc×TypeId):=
 match P.underlying t with
 |some (.map k e)=>match P.underlying k with
  |some d=>if keyDesc d then some (d,e) else none
  |none=>none
 |_=>none
def ZiB (P:Program) (t:TypeId):Option AV:=((P.info? t).bind (·.zero)).map ofV
theorem ZsM {t:TypeId} {a:AV} (ht:ZiB P t=some a) (w:World):∃z:Value,(zeroValue t).run P w= .ok z w/\R Z w κ a z:=by
 obtain⟨z,hz,rfl⟩:=Option.map_eq_some_iff.1 ht
 obtain⟨i,hi,hz⟩:=Option.bind_eq_some_iff.1 hz
 exact⟨z,by simp[zeroValue,typeInfo,hi,hz],ZkE z⟩
def isKeyB:TypeDesc->Value->Bool
 | .bool,.bool _=>true
 | .int k,.int k' _=>k'==k
 | .string,.string _=>true
 |_,_=>false
theorem Zos {d:TypeDesc} {v:Value} (h:isKeyB d v=true):IsKey d v:=by
 cases d<;>cases v<;>simp_all[isKeyB,IsKey]
theorem ZsN {d:TypeDesc} {v:Value} (h:isKeyB d v=true):plain v=true:=by
 cases d<;>cases v<;>simp_all[isKeyB,plain]
def afind (d:TypeDesc) (k:Value):List AV->Option (Option Nat)
 |[]=>some none
 | .val v::ks=>match Instr.sameNow d k v with
  |some true=>some (some 0)
  |some false=>(afind d k ks).map λr=>r.map (·+1)
  |none=>none
 |_=>none
theorem afind_ok {d:TypeDesc} {k:Value}:∀{ks:List AV} {es:List MapEntry} {r:Option Nat} (i:Nat),Rs Z w κ ks (es.map (·.key))->afind d k ks=some r->
  (r=none/\Instr.findNow d k es i=some none)\/∃j e,r=some j/\Instr.findNow d k es i=some (some (i+j,e.val))/\es[j]? =some e/\Instr.sameNow d k e.key=some true
 |[],es,r,i,hr,hf=>by
  cases es with
  |nil=>simp[afind] at hf;exact .inl ⟨hf.symm,rfl⟩
  |cons e es=>cases hr
 |a::ks,es,r,i,hr,hf=>by
  cases es with
  |nil=>cases hr
  |cons e es=>
   simp only[List.map_cons] at hr
   cases hr with
   |cons h1 h2=>
    cases a<;>simp only[afind,reduceCtorEq] at hf
    rename_i v
    have hv:e.key=v:=Zaf h1 rfl
    cases hs:Instr.sameNow d k v with
    |none=>rw[hs] at hf;cases hf
    |some b=>
     rw[hs] at hf
     cases b with
     |true=>
      injection hf with hf
      exact .inr ⟨0,e,hf.symm,by simp[Instr.findNow,hv,hs],rfl,by rw[hv];exact hs⟩
     |false=>
      obtain⟨r',hr',he⟩:=Option.map_eq_some_iff.1 hf
      rcases afind_ok (i+1) h2 hr' with⟨e1,e2⟩|⟨j,e',e1,e2,e3,e4⟩
      ·subst e1
       exact .inl ⟨he.symm,by simp[Instr.findNow,hv,hs,e2]⟩
      ·subst e1
       exact .inr ⟨j+1,e',he.symm,by simp only[Instr.findNow,hv,hs,e2];rw[show i+1+j=i+(j+1) by omega],by simpa using e3,e4⟩
theorem ZsO {t:TypeId} {d:TypeDesc} {e:TypeId} (ht:tmap P t=some (d,e)):∃k,P.underlying t=some (.map k e)/\P.underlying k=some d:=by
 unfold tmap at ht
 split at ht
 ·rename_i k e' hu
  split at ht
  ·rename_i d' hd
   split at ht
   ·injection ht with ht;injection ht with h1 h2;subst h1 h2;exact⟨k,hu,hd⟩
   ·cases ht
  ·cases ht
 ·cases ht
theorem ZkR {es:Array MapEntry} {cl:Nat} {ks vs:List AV} (r:Rel Z κ h w) (hwf:(es.toList.map (·.born)).Nodup/\∀e∈es.toList,e.born<cl) (h1:Rs Z w κ ks (es.toList.map (·.key))) (h2:Rs Z w κ vs (es.toList.map (·.val))):
  Rel Z (upd κ h.length (.live 0 (some w.heap.size) 0)) (h++[.map ks vs]) (w.alloc (.map es cl))/\
  Ext Z κ w Z (upd κ h.length (.live 0 (some w.heap.size) 0)) (w.alloc (.map es cl))/\Zq κ (upd κ h.length (.live 0 (some w.heap.size) 0)):=by
 have hh:=r.hole h.length (Nat.le_refl _)
 have hs:Zq κ (upd κ h.length (.live 0 (some w.heap.size) 0)):= .upd (.inl hh)
 have hal:∀b,ZT (upd κ h.length (.live 0 (some w.heap.size) 0)) b->ZT κ b\/w.heap.size<=b:=by
  rintro b ⟨id,ver,sz,hk⟩
  by_cases hid:id=h.length
  ·subst hid;rw[Zk] at hk;injection hk with _ h2 _;injection h2 with h2;exact .inr (by omega)
  ·rw[Zr _ _ hid] at hk;exact .inl ⟨id,ver,sz,hk⟩
 have e:Ext Z κ w Z (upd κ h.length (.live 0 (some w.heap.size) 0)) (w.alloc (.map es cl)):=
  ⟨rfl,rfl,rfl,by simp,λb hb _=>ZG w _ hb,λ_ h=>h,λ_ h=> .inl h,hal⟩
 refine⟨⟨λb hz=>by have:=r.zlt b hz;simp;omega,λb hz ha=> ?_,λid hid=> ?_,λid x hx=> ?_,?_⟩,e,hs⟩
 ·rcases hal b ha with h1|h1
  ·exact r.za b hz h1
  ·have:=r.zlt b hz;omega
 ·simp at hid
  rw[Zr _ _ (by omega)];exact r.hole id (by omega)
 ·by_cases hid:id=h.length
  ·subst hid
   simp at hx
   subst hx
   exact⟨w.heap.size,es,cl,Zk _ _ _,⟨Zal w _,hwf⟩,h1.ext r e hs,h2.ext r e hs⟩
  ·have hlt:id<h.length:=by
    have:=(List.getElem?_eq_some_iff.1 hx).1
    simp at this;omega
   rw[List.getElem?_append_left hlt] at hx
   exact(r.blk id x hx).ext r e hs (Zr _ _ hid) λver b sz hk=>ZG w _ (ZA r ⟨id,ver,sz,hk⟩)
 ·intro id id' ver ver' b sz sz' h1 h2
  by_cases hid:id=h.length<;>by_cases hid':id'=h.length
  ·omega
  ·subst hid
   rw[Zk] at h1;rw[Zr _ _ hid'] at h2
   injection h1 with _ h1 _;injection h1 with h1
   have:=ZA r ⟨id',ver',sz',h2⟩;omega
  ·subst hid'
   rw[Zk] at h2;rw[Zr _ _ hid] at h1
   injection h2 with _ h2 _;injection h2 with h2
   have:=ZA r ⟨id,ver,sz,h1⟩;omega
  ·rw[Zr _ _ hid] at h1;rw[Zr _ _ hid'] at h2
   exact r.inj _ _ _ _ _ _ _ h1 h2
theorem Zql {t:TypeId} (r:Rel Z κ h w) (o:Oper) (ho:o.op= .makeMap t none) (ρ:Operand->Value):Out Z κ w (.mp h.length) (h++[.map [] []]) ((execOp ρ o).run P w):=by
 have:(execOp ρ o).run P w= .ok (.value (.map (some w.heap.size))) (w.alloc (.map #[] 0)):=by
  simp only[execOp,ho,Option.map_none,Instr.makeMap,Sem.run_bind,run_newObj_alloc,Sem.run_pure,Result.andThen_ok]
 rw[this]
 obtain⟨r',e,hs⟩:=ZkR (es:= #[]) (cl:=0) r (by simp) (by simpa using Rs.nil) (by simpa using Rs.nil)
 refine⟨_,_,Z,_,.inl rfl,r',.mp ?_,e,hs⟩
 simp[ZV,Zk,ZpZ]
theorem ZiC {es es':Array MapEntry} {cl cl' id b:Nat} {ks vs ks' vs':List AV} (r:Rel Z κ h w) (hx:h[id]? =some (.map ks vs)) (hk:κ id= .live 0 (some b) 0) (hb:w.heap[b]? =some (.map es cl)) (hwf:(es'.toList.map (·.born)).Nodup/\∀e∈es'.toList,e.born<cl')
  (h1:Rs Z w κ ks' (es'.toList.map (·.key))) (h2:Rs Z w κ vs' (es'.toList.map (·.val))):
  Rel Z κ (h.set id (.map ks' vs')) {w with heap:=w.heap.setIfInBounds b (.map es' cl')}/\Ext Z κ w Z κ {w with heap:=w.heap.setIfInBounds b (.map es' cl')}:=by
 have hal:ZT κ b:=⟨id,_,_,hk⟩
 have hne:∀b',b'≠b->(w.heap.setIfInBounds b (.map es' cl'))[b']? =w.heap[b']? :=λb' hb'=>(heap_set hb).2 b' hb'
 have e:Ext Z κ w Z κ {w with heap:=w.heap.setIfInBounds b (.map es' cl')}:=
  ⟨rfl,rfl,rfl,by simp,λb' hb' hn=>hne b' (λe=>hn (e▸hal)),λ_ h=>h,λ_ h=> .inl h,λ_ h=> .inl h⟩
 refine⟨⟨λb hz=>by have:=r.zlt b hz;simpa using this,r.za,λid' hid'=>r.hole id' (by simpa using hid'),λid' x hx'=> ?_,r.inj⟩,e⟩
 by_cases hid:id'=id
 ·subst hid
  have hlt:=(List.getElem?_eq_some_iff.1 hx).1
  rw[List.getElem?_set_self hlt] at hx'
  injection hx' with hx'
  subst hx'
  exact⟨b,es',cl',hk,⟨(heap_set hb).1,hwf⟩,h1.ext r e (.refl _),h2.ext r e (.refl _)⟩
 ·rw[List.getElem?_set_ne (Ne.symm hid)] at hx'
  refine(r.blk id' x hx').ext r e (.refl _) rfl λver' b' sz' hk'=>hne b' λeb=>hid ?_
  subst eb
  exact r.inj _ _ _ _ _ _ _ hk' hk
def ZkS (d:TypeDesc) (kv:Value) (x:AV) (ks vs:List AV):Option ABlk:=
 match afind d kv ks with
 |some none=>some (.map (ks++[.val kv]) (vs++[x]))
 |some (some j)=>some (.map ks (vs.set j x))
 |none=>none
def ZfL (P:Program) (t:TypeId) (m k x:AV) (h:Za):Option Za:=
 match tmap P t,m,k with
 |some (d,_),.mp id,.val kv=>if isKeyB d kv then match h[id]? with
   |some (.map ks vs)=>(ZkS d kv x ks vs).map (h.set id)
   |_=>none
  else none
 |_,_,_=>none
theorem Zwd {d:TypeDesc} {a b:Value} (ha:isKeyB d a=true) (h:Instr.sameNow d a b=some true):b=a:=by
 cases d<;>cases a<;>cases b<;>simp_all[isKeyB,Instr.sameNow,bytes_beq]
theorem Zhc (es:Array MapEntry) (j:Nat) (k v:Value) (e:MapEntry) (he:es[j]? =some e) (hk:e.key=k):(es.modify j λe=>{e with key:=k,val:=v}).toList.map (·.key)=es.toList.map (·.key):=by
 apply List.ext_getElem?
 intro i
 simp only[List.getElem?_map,Array.getElem?_toList,Array.getElem?_modify]
 by_cases hij:j=i
 ·subst hij;simp[he,hk]
 ·simp[hij]
theorem Zhd (es:Array MapEntry) (j:Nat) (k v:Value):(es.modify j λe=>{e with key:=k,val:=v}).toList.map (·.val)=(es.toList.map (·.val)).set j v:=by
 apply List.ext_getElem?
 intro i
 simp only[List.getElem?_map,Array.getElem?_toList,Array.getElem?_modify,List.getElem?_set]
 by_cases hij:j=i
 ·subst hij
  by_cases hj:j<es.size
  ·simp[hj]
  ·simp[hj]
 ·simp[hij]
theorem wf_push {es:Array MapEntry} {cl:Nat} (h:(es.toList.map (·.born)).Nodup/\∀e∈es.toList,e.born<cl) (k v:Value):((es.push ⟨k,v,cl⟩).toList.map (·.born)).Nodup/\∀e∈(es.push ⟨k,v,cl⟩).toList,e.born<cl+1:=by
 refine⟨?_,λe he=> ?_⟩
 ·simp only[Array.toList_push,List.map_append,List.map_cons,List.map_nil]
  rw[List.nodup_append]
  refine⟨h.1,by simp,λa ha b hb=> ?_⟩
  simp only[List.mem_singleton] at hb
  obtain⟨e,he,rfl⟩:=List.mem_map.1 ha
  have:=h.2 e he
  omega
 ·simp only[Array.toList_push,List.mem_append,List.mem_singleton] at he
  rcases he with he|rfl
  ·have:=h.2 e he;omega
  ·simp
theorem ZsP {es:Array MapEntry} {cl:Nat} (h:(es.toList.map (·.born)).Nodup/\∀e∈es.toList,e.born<cl) (j:Nat) (k v:Value):((es.modify j λe=>{e with key:=k,val:=v}).toList.map (·.born)).Nodup/\∀e∈(es.modify j λe=>{e with key:=k,val:=v}).toList,e.born<cl:=by
 have hb:(es.modify j λe=>{e with key:=k,val:=v}).toList.map (·.born)=es.toList.map (·.born):=by
  apply List.ext_getElem?
  intro i
  simp only[List.getElem?_map,Array.getElem?_toList,Array.getElem?_modify]
  by_cases hij:j=i
  ·subst hij;cases es[j]? <;>simp
  ·simp[hij]
 refine⟨by rw[hb];exact h.1,λe he=> ?_⟩
 have:e.born∈es.toList.map (·.born):=by rw[<-hb];exact List.mem_map_of_mem he
 obtain⟨e',he',h1⟩:=List.mem_map.1 this
 rw[<-h1];exact h.2 e' he'
theorem ZkT {t:TypeId} {m k x:AV} {cm ck cx:Value} {h':Za} (r:Rel Z κ h w) (hm:R Z w κ m cm) (hk:R Z w κ k ck) (hx:R Z w κ x cx) (hv:ZfL P t m k x h=some h'):
  ∃w',(Instr.mapUpdate t cm ck cx).run P w= .ok () w'/\Rel Z κ h' w'/\Ext Z κ w Z κ w':=by
 unfold ZfL at hv
 split at hv
 ·rename_i d e id kv ht
  split at hv
  ·rename_i hkd
   split at hv
   ·rename_i ks vs hb
    obtain⟨kt,hmt,hkt⟩:=ZsO ht
    have hck:ck=kv:=Zaf hk rfl
    subst hck
    have hkey:=Zos hkd
    obtain⟨b,es,cl,hl,⟨hw,hwf⟩,hks,hvs⟩:=r.blk id _ hb
    have hcm:cm= .map (some b):=by
     cases hm with
     |mp hr=>
      rw[ZV,hl] at hr
      have:=hr.2 rfl
      simp only[ZpZ] at this
      rw[this]
    subst hcm
    obtain⟨y,hy,rfl⟩:=Option.map_eq_some_iff.1 hv
    unfold ZkS at hy
    split at hy
    ·rename_i hf
     injection hy with hy;subst hy
     rcases afind_ok (k:=ck) (d:=d) 0 hks hf with⟨_,h1⟩|⟨j,e',h0,_⟩
     ·obtain⟨r',ex⟩:=ZiC (es':=es.push ⟨ck,cx,cl⟩) (cl':=cl+1) r hb hl hw (wf_push hwf ck cx) (ks':=ks++[.val ck]) (vs':=vs++[x])
       (by simpa using hks.append (.cons (.val (ZsN hkd)) .nil)) (by simpa using hvs.append (.cons hx .nil))
      refine⟨_,?_,r',ex⟩
      simp[Instr.mapUpdate,run_underlying hmt,MapKept.run_getObj_map hw,run_checkKey hkt hkey,run_findKey hkt h1,run_setObj_map _ hw,Result.andThen]
     ·cases h0
    ·rename_i j hf
     injection hy with hy;subst hy
     rcases afind_ok (k:=ck) (d:=d) 0 hks hf with⟨h0,_⟩|⟨j',e',h0,h1,h2,h3⟩
     ·cases h0
     ·injection h0 with h0;subst h0
      have hj:es[j]? =some e':=by simpa using h2
      have hke:=Zwd hkd h3
      obtain⟨r',ex⟩:=ZiC (es':=es.modify j λe=>{e with key:=ck,val:=cx}) (cl':=cl) r hb hl hw (ZsP hwf j ck cx) (ks':=ks) (vs':=vs.set j x)
       (by rw[Zhc es j ck cx e' hj hke];exact hks) (by rw[Zhd];exact Rs.set hx hvs j)
      refine⟨_,?_,r',ex⟩
      simp[Instr.mapUpdate,run_underlying hmt,MapKept.run_getObj_map hw,run_checkKey hkt hkey,run_findKey hkt h1,hj,hke,run_keyThatStays hkey,run_setObj_map _ hw,Result.andThen]
    ·cases hy
   ·cases hv
  ·cases hv
 ·cases hv
def ZfM (m:AV) (h:Za):Option (List AV×List AV):=
 match m with
 | .fmap ks vs=>some (ks,vs)
 | .mp id=>match h[id]? with
  |some (.map ks vs)=>some (ks,vs)
  |_=>none
 | .val (.map none)=>some ([],[])
 |_=>none
def Zqm (d:TypeDesc) (kv:Value) (z:Option AV) (p:List AV×List AV):Option (AV×Bool):=
 match afind d kv p.1 with
 |some (some j)=>(p.2[j]?).map λv=>(v,true)
 |some none=>z.map λz=>(z,false)
 |none=>none
def okV (ok:Bool) (p:AV×Bool):AV:=if ok then .tup [p.1,.val (.bool p.2)] else p.1
def Zbo (P:Program) (t:TypeId) (m k:AV) (ok:Bool) (h:Za):Option AV:=
 match tmap P t,k with
 |some (d,e),.val kv=>if isKeyB d kv then((ZfM m h).bind (Zqm d kv (ZiB P e))).map (okV ok) else none
 |_,_=>none
theorem Zwe {m:AV} {cm:Value} {p:List AV×List AV} (r:Rel Z κ h w) (hm:R Z w κ m cm) (hp:ZfM m h=some p):
  ∃es:Array MapEntry,Rs Z w κ p.1 (es.toList.map (·.key))/\Rs Z w κ p.2 (es.toList.map (·.val))/\((cm= .map none/\es= #[])\/∃b cl,cm= .map (some b)/\w.heap[b]? =some (.map es cl)):=by
 unfold ZfM at hp
 split at hp
 ·rename_i ks vs
  injection hp with hp;subst hp
  cases hm with
  |fmap hz hb h1 h2 h3 h4=>subst h1 h2;exact⟨_,h3,h4,.inr ⟨_,_,rfl,hb.1⟩⟩
 ·rename_i id
  split at hp
  ·rename_i ks vs hb
   injection hp with hp;subst hp
   obtain⟨b,es,cl,hl,⟨hw,_⟩,hks,hvs⟩:=r.blk id _ hb
   cases hm with
   |mp hr=>
    rw[ZV,hl] at hr
    have:=hr.2 rfl
    simp only[ZpZ] at this
    subst this
    exact⟨es,hks,hvs,.inr ⟨_,_,rfl,hw⟩⟩
  ·cases hp
 ·injection hp with hp;subst hp
  exact⟨#[],.nil,.nil,.inl ⟨Zaf hm rfl,rfl⟩⟩
 ·cases hp
theorem ZsQ {t:TypeId} {m k v:AV} {cm ck:Value} {ok:Bool} (r:Rel Z κ h w) (hm:R Z w κ m cm) (hk:R Z w κ k ck) (hv:Zbo P t m k ok h=some v):
  ∃u,(Instr.lookup t cm ck ok).run P w= .ok u w/\R Z w κ v u:=by
 unfold Zbo at hv
 split at hv
 ·rename_i d e kv ht
  split at hv
  ·rename_i hkd
   obtain⟨q,hq,rfl⟩:=Option.map_eq_some_iff.1 hv
   obtain⟨p,hp,hl⟩:=Option.bind_eq_some_iff.1 hq
   obtain⟨kt,hmt,hkt⟩:=ZsO ht
   have hck:ck=kv:=Zaf hk rfl
   subst hck
   have hkey:=Zos hkd
   obtain⟨es,hks,hvs,hc⟩:=Zwe r hm hp
   unfold Zqm at hl
   split at hl
   ·rename_i j hf
    obtain⟨v,hv',rfl⟩:=Option.map_eq_some_iff.1 hl
    rcases afind_ok (k:=ck) (d:=d) 0 hks hf with⟨h0,_⟩|⟨j',e',h0,h1,h2,h3⟩
    ·cases h0
    ·injection h0 with h0;subst h0
     obtain⟨u,hu,hr⟩:=hvs.get j v hv'
     have hue:u=e'.val:=by
      rw[List.getElem?_map,h2] at hu;simp at hu;exact hu.symm
     refine⟨if ok then .tuple #[e'.val,.bool true] else e'.val,?_,?_⟩
     ·rcases hc with⟨rfl,rfl⟩|⟨b,cl,rfl,hw⟩
      ·simp at h2
      ·simp[Instr.lookup,run_underlying hmt,MapKept.run_getObj_map hw,run_checkKey hkt hkey,run_findKey hkt h1,Result.andThen]
     rw[<-hue]
     cases ok
     ·exact hr
     ·exact .tup (.cons hr (.cons (.val rfl) .nil))
   ·rename_i hf
    obtain⟨z,hz,rfl⟩:=Option.map_eq_some_iff.1 hl
    rcases afind_ok (k:=ck) (d:=d) 0 hks hf with⟨_,h1⟩|⟨j,e',h0,_⟩
    ·obtain⟨u,hu,hr⟩:=ZsM (Z:=Z) (κ:=κ) hz w
     refine⟨if ok then .tuple #[u,.bool false] else u,?_,?_⟩
     ·rcases hc with⟨rfl,rfl⟩|⟨b,cl,rfl,hw⟩
      ·simp[Instr.lookup,run_underlying hmt,run_checkKey hkt hkey,Instr.findKey,run_underlying hkt,Instr.findNow,hu,Result.andThen]
      ·simp[Instr.lookup,run_underlying hmt,MapKept.run_getObj_map hw,run_checkKey hkt hkey,run_findKey hkt h1,hu,Result.andThen]
     cases ok
     ·exact hr
     ·exact .tup (.cons hr (.cons (.val rfl) .nil))
    ·cases h0
   ·cases hl
  ·cases hv
 ·cases hv
end Go.Cx
set_option linter.unusedVariables false
set_option linter.unusedSimpArgs false
namespace Go.Cx
variable {P:Program} {Z:Nat->Prop} {κ:Nat->Slot} {h:Za} {w:World}
theorem own_slice2 (r:Rel Z κ h w) {id ver off n k:Nat} {cs:List AV} {c:Value} {x:ABlk} (hp:R Z w κ (.own id ver off n k) c) (hx:h[id]? =some x) (hc:blkCells x=some (ver,cs)):
  (∃sz A,κ id= .live ver none sz/\c= .slice A 0 0/\off=0/\n=0/\cs=[])\/
  ∃b sz arr E us cap a,κ id= .live ver (some b) sz/\c= .slice (some a) n cap/\n<=cap/\(off+cap)*k=sz/\0<k/\(0<cap->a=⟨b,off*k,none⟩)/\off+cap<=maxLen/\
   ZaG w ver b arr E/\arr.size=sz/\us.length<=arr.size/\(∀(j:Nat) (u:Value),us[j]? =some u->arr[j]? =some u)/\Rs Z w κ cs us:=
 own_slice (ZeS r hx hc) hp (List.getElem?_set_self (List.getElem?_eq_some_iff.1 hx).1)
def putAt (cs:List AV) (off:Nat) (vs:List AV):List AV:=cs.take off++vs++cs.drop (off+vs.length)
theorem ZE {cs:List AV} {off:Nat} {vs:List AV} (h:off+vs.length<=cs.length):(putAt cs off vs).length=cs.length:=by
 simp only[putAt,List.length_append,List.length_take,List.length_drop];omega
theorem ZcC:∀(vs cs:List AV) (off:Nat),off+vs.length<=cs.length->setMany cs off vs=putAt cs off vs
 |[],cs,off,h=>by simp[setMany,putAt]
 |v::vs,cs,off,h=>by
  simp only[List.length_cons] at h
  rw[setMany,ZcC vs _ (off+1) (by simp;omega)]
  simp only[putAt,List.length_cons]
  rw[List.take_set,List.drop_set_of_lt (by omega)]
  have e1:(cs.take (off+1)).set off v=cs.take off++[v]:=by
   rw[List.take_succ_eq_append_getElem (by omega),List.set_append_right _ _ (by simp;omega)]
   simp[Nat.min_eq_left (by omega:off<=cs.length)]
  rw[e1]
  simp[Nat.add_assoc,Nat.add_comm 1]
theorem ZjQ {id ver b sz off:Nat} {cs vs:List AV} {us:List Value} {x:ABlk} (r:Rel Z κ h w) (hk:κ id= .live ver (some b) sz) (hx:h[id]? =some x) (hc:blkCells x=some (ver,cs)) (hu:Rs Z w κ vs us) (hl:off+vs.length<=cs.length) (ho:vs.all Zy=true):
  ∃w',(storeCells ⟨b,off,none⟩ us).run P w= .ok () w'/\Rel Z κ (h.set id (setBlk (putAt cs off vs) x)) w'/\Ext Z κ w Z κ w':=by
 have hid:=(List.getElem?_eq_some_iff.1 hx).1
 cases x<;>simp only[blkCells,Option.some.injEq,Prod.mk.injEq,reduceCtorEq] at hc
 ·obtain⟨rfl,rfl⟩:=hc
  obtain⟨w',h1,h2,h3⟩:=Zbn (P:=P) hk vs us 0 off _ h w r hx hu (by omega) ho
  exact⟨w',h1,by rw[<-ZcC _ _ _ hl];simpa[setBlk] using h2,h3⟩
 ·obtain⟨rfl,rfl⟩:=hc
  rename_i ver cs
  have r1:=ZeS r hx rfl
  have hsz:sz=cs.length:=by
   obtain⟨b',c,E,q1,q2,q3,_⟩:=r.blk id _ hx
   rw[hk] at q1
   injection q1 with _ _ e
   rw[e,q3.length];simp
  have hvb:ver<bigV:=by
   obtain⟨b',c,E,q1,q2,q3,q4⟩:=r.blk id _ hx
   exact q4
  obtain⟨w',h1,h2,h3⟩:=Zbn (P:=P) hk vs us 0 off _ _ w r1 (List.getElem?_set_self hid) hu (by omega) ho
  rw[List.set_set,Nat.add_zero,ZcC _ _ _ hl] at h2
  refine⟨w',h1,?_,h3⟩
  have hb:=Zwa (h2.blk id _ (List.getElem?_set_self hid)) (by rw[ZE hl,<-hsz];exact hk) hvb
  have:=h2.reblk (id:=id) (by simpa using hid) hb
  rw[List.set_set] at this
  exact this
 ·obtain⟨rfl,rfl⟩:=hc
  rename_i E ver cs
  have r1:=ZeS r hx rfl
  obtain⟨w',h1,h2,h3⟩:=Zbn (P:=P) hk vs us 0 off _ _ w r1 (List.getElem?_set_self hid) hu (by omega) ho
  rw[List.set_set,Nat.add_zero,ZcC _ _ _ hl] at h2
  refine⟨w',h1,?_,h3⟩
  obtain⟨ob,sz',q1,q2⟩:=r.blk id _ hx
  rw[hk] at q1
  injection q1 with _ e1 e2
  subst e1 e2
  obtain⟨c,us0,q3,q4,q5,q6,q7⟩:=q2
  have hlc:=q7.length
  have hul:=hu.length
  have hrun:=run_storeCells_at P b off E us 0 c w q3 (by simp;omega) (ZjN hu ho)
  simp only[Nat.add_zero] at hrun
  rw[h1] at hrun
  injection hrun with _ hw
  have hheap:=setRow_heap w b c (c.toList.take off++us++c.toList.drop (off+us.length)).toArray E (0,0) q3
  rw[<-hw] at hheap
  obtain⟨ob,sz',p1,p2⟩:=h2.blk id _ (List.getElem?_set_self hid)
  rw[hk] at p1
  injection p1 with _ e1 e2
  subst e1 e2
  obtain⟨c',E',us',⟨fr',p3,p3f⟩,p4⟩:=p2
  rw[hheap] at p3
  injection p3 with p3
  injection p3 with p3 p5
  subst p3 p5
  have hb:ZaM Z w' κ id (.typed E ver (putAt cs off vs)):=⟨some b,sz,hk,_,us',hheap,p4⟩
  have:=h2.reblk (id:=id) (by simpa using hid) hb
  rw[List.set_set] at this
  exact this
def acap (P:Program) (t:TypeId) (x:AV) (h:Za):Option AV:=
 if(Zab P t).isSome then match x with
  | .sl true n _=>some (.val (.int .i64 n))
  | .own id ver off _ k=>match h[id]? with
   |some (.full ver' cs)=>if ver=ver'/\0<k then some (.val (.int .i64 (cs.length/k -off:Nat))) else none
   |_=>none
  |_=>none
 else none
theorem ZeW (r:Rel Z κ h w) {id ver off n k:Nat} {cs:List AV} {c:Value} (hp:R Z w κ (.own id ver off n k) c) (hx:h[id]? =some (.full ver cs)):
  ∃b arr E cap a,κ id= .live ver (some b) cs.length/\c= .slice (some a) n cap/\n<=cap/\(off+cap)*k=cs.length/\0<k/\(0<cap->a=⟨b,off*k,none⟩)/\off+cap<=maxLen/\cap=cs.length/k -off/\
   w.heap[b]? =some (.cells arr E (0,0))/\Rs Z w κ cs arr.toList:=by
 obtain⟨b',c',E',q1,q2,q3,q4⟩:=r.blk id _ hx
 have hl:=q3.length
 rcases own_slice2 r hp hx rfl with⟨sz,A,h1,_⟩|⟨b,sz,arr,E,us,cap,a,h1,h2,h3,h4,h5,h6,h7,h8,h9,_⟩
 ·rw[h1] at q1;injection q1 with _ q1;cases q1
 ·rw[h1] at q1
  injection q1 with _ e1 e2
  injection e1 with e1
  subst e1
  replace h8:=h8.strict q4
  rw[h8] at q2
  injection q2 with q2
  injection q2 with q2
  subst q2
  have hs:cs.length=sz:=by rw[hl];simpa using e2.symm
  refine⟨b,arr,E,cap,a,by rw[hs];exact h1,h2,h3,by rw[hs];exact h4,h5,h6,h7,?_,h8,q3⟩
  rw[hs,<-h4,Nat.mul_div_cancel _ h5];omega
theorem acap_ok {t:TypeId} {x v:AV} {c:Value} {ty:TypeId} (r:Rel Z κ h w) (hx:R Z w κ x c) (hv:acap P t x h=some v):∃u,(Builtin.cap_ #[t] ty #[c]).run P w= .ok u w/\R Z w κ v u:=by
 unfold acap at hv
 split at hv
 ·rename_i ht
  obtain⟨e,he⟩:=Option.isSome_iff_exists.1 ht
  have key:∀A n cap,(Builtin.cap_ #[t] ty #[.slice A n cap]).run P w= .ok (goInt cap) w:=λA n cap=>by
   simp[Builtin.cap_,run_underlying (run_telem he)]
  split at hv
  ·injection hv with hv;subst hv
   cases hx with
   |sl0 h2 h3=>
    have:=h2 rfl
    subst this
    exact⟨_,key _ _ _,.val rfl⟩
   |sl h2 h3 h4 h5 h6 h7 h8=>
    have:=h4 rfl
    subst this
    exact⟨_,key _ _ _,.val rfl⟩
  ·split at hv
   ·rename_i id ver off n k _ ver' cs hb
    split at hv
    ·rename_i hc
     obtain⟨rfl,hk⟩:=hc
     injection hv with hv;subst hv
     obtain⟨b,arr,E,cap,a,h1,rfl,h3,h4,h5,h6,h7,h8,_⟩:=ZeW r hx hb
     rw[<-h8]
     exact⟨_,key _ _ _,.val rfl⟩
    ·cases hv
   ·cases hv
  ·cases hv
 ·cases hv
def ZjR (P:Program) (t:TypeId) (x:AV) (lo hi mx:Option AV) (h:Za):Option AV:=
 match ZL P t,x with
 |some k,.own id ver off n k'=>match h[id]?,ZaH 0 lo,hi,mx with
  |some (.full ver' cs),some l,some hv,none=>match ZgS hv with
   |some u=>if ver=ver'/\k'=k/\0<=l/\l<=u/\(off+u.toNat)*k<=cs.length then some (.own id ver (off+l.toNat) (u.toNat -l.toNat) k) else none
   |none=>none
  |_,_,_,_=>none
 |_,_=>none
theorem Zqn {t:TypeId} {x v:AV} {lo hi mx:Option AV} {c:Value} {cl ch cm:Option Value} (r:Rel Z κ h w) (hx:R Z w κ x c) (hlo:Ro Z w κ lo cl) (hhi:Ro Z w κ hi ch) (hmx:Ro Z w κ mx cm) (hv:ZjR P t x lo hi mx h=some v):
  ∃u,(Instr.sliceAt t c cl ch cm).run P w= .ok u w/\R Z w κ v u:=by
 unfold ZjR at hv
 split at hv
 ·rename_i k id ver off n k' h1
  obtain⟨e,he,hk⟩:=ZaN h1
  split at hv
  ·rename_i ver' cs l hiv hb hl
   split at hv
   ·rename_i u hu
    split at hv
    ·rename_i hc
     obtain⟨rfl,rfl,c1,c2,c3⟩:=hc
     injection hv with hv
     subst hv
     obtain⟨b,arr,E,cap,a,q1,rfl,q3,q4,q5,q6,q7,q8,_⟩:=ZeW r hx hb
     have hcap:u.toNat<=cap:=by
      have:(off+u.toNat)*k'<=(off+cap)*k':=by omega
      have:=Nat.le_of_mul_le_mul_right this q5
      omega
     cases hmx
     have hb:=ZkJ (P:=P) (mx:=none) (len:=n) (cap:=cap) hlo hhi .none hl (show ZaH _ (some hiv)=some u from hu) rfl (by simp) c1 c2 (by omega) (Int.le_refl _)
     refine⟨_,by simp only[Instr.sliceAt,Instr.slice,Sem.run_bind,run_underlying he,Result.andThen_ok,hb,run_tsize hk,Sem.run_pure];rfl,.own (by omega) (by omega) ?_ ?_⟩
     ·intro hn
      split
      ·simp
      ·simp
     ·have hh:=hx
      cases hh with
      |own g1 g2 g3 g4=>
       unfold ZV at g4⊢
       rw[q1] at g4⊢
       refine⟨g4.1,λ_=> ?_⟩
       simp only[Zdm]
       refine⟨?_,q5,?_,by omega⟩
       ·rw[<-q4];congr 1;omega
       ·by_cases hcl:(((cap:Nat):Int).toNat)=l.toNat
        ·rw[if_pos hcl];exact⟨a,rfl,λh=>by omega⟩
        ·rw[if_neg hcl]
         refine⟨a.add (l.toNat*k'),rfl,λh=> ?_⟩
         rw[q6 (by omega),ZaT,Nat.add_mul]
    ·cases hv
   ·cases hv
  ·cases hv
 ·cases hv
def Zhe (s:ByteArray):List AV:=s.data.toList.map λb=> .val (.int .u8 b.toNat)
def ZiD (k:Nat) (h:Za):AV->Option (Nat×List AV)
 | .sl _ m ys=>some (m,ys)
 | .own id ver off m k'=>match h[id]? with
  |some x=>match blkCells x with
   |some (ver',cs)=>if ver=ver'/\k'=k/\(off+m)*k<=cs.length then some (m,(cs.drop (off*k)).take (m*k)) else none
   |none=>none
  |none=>none
 | .val (.string s)=>if k=1 then some (s.size,Zhe s) else none
 |_=>none
theorem ZeX (r:Rel Z κ h w) {k m:Nat} {x:AV} {c:Value} {ys:List AV} (hx:R Z w κ x c) (hs:ZiD k h x=some (m,ys)) (hy:ys.length=m*k) (n:Nat) (hn:n<=m):
  (Builtin.lenOf c).run P w= .ok m w/\∃us,(Builtin.firstCells k n c).run P w= .ok us.toArray w/\Rs Z w κ (ys.take (n*k)) us:=by
 have some_:∀(a:Addr) (cap:Nat) (us:List Value),ZaF w a us->Rs Z w κ ys us->(Builtin.lenOf (.slice (some a) m cap)).run P w= .ok m w/\∃us',(Builtin.firstCells k n (.slice (some a) m cap)).run P w= .ok us'.toArray w/\Rs Z w κ (ys.take (n*k)) us':=by
  intro a cap us hat hus
  refine⟨by simp[Builtin.lenOf],us.take (n*k),?_,hus.take _⟩
  refine run_firstCells_some (P:=P) w k n a m cap (us.take (n*k)) ?_ (hat.take _)
  have:=hus.length
  rw[List.length_take,<-this,hy,Nat.min_eq_left (Nat.mul_le_mul_right _ hn)]
 have none_:∀(A:Option Addr) (cap:Nat),m=0->(Builtin.lenOf (.slice A m cap)).run P w= .ok m w/\∃us',(Builtin.firstCells k n (.slice A m cap)).run P w= .ok us'.toArray w/\Rs Z w κ (ys.take (n*k)) us':=by
  intro A cap h0
  subst h0
  have:n=0:=by omega
  subst this
  refine⟨by simp[Builtin.lenOf],[],?_,by simp[Rs.nil]⟩
  cases A with
  |none=>simp[Builtin.firstCells]
  |some a=>simpa using run_firstCells_some (P:=P) w k 0 a 0 cap [] (by simp) (by intro j v hj;simp at hj)
 unfold ZiD at hs
 split at hs
 ·simp only[Option.some.injEq,Prod.mk.injEq] at hs
  obtain⟨rfl,rfl⟩:=hs
  cases hx with
  |sl0=>exact none_ _ _ rfl
  |sl h2 h3 h4 h5 h6 h7 h8=>exact some_ _ _ _ h7 h8
 ·rename_i id ver off m' k'
  split at hs
  ·rename_i x hb
   split at hs
   ·rename_i ver' cs hbc
    split at hs
    ·rename_i hc
     obtain⟨rfl,rfl,hlen⟩:=hc
     simp only[Option.some.injEq,Prod.mk.injEq] at hs
     obtain⟨rfl,rfl⟩:=hs
     rcases own_slice2 r hx hb hbc with⟨_,A,_,rfl,_,h0,_⟩|⟨b,sz,arr,E,us,cap,a,e1,rfl,e3,e4,e5,e6,e7,e8,e9,e10,e11,e12⟩
     ·subst h0;exact none_ _ _ rfl
     ·rcases Nat.eq_zero_or_pos m' with h0|h0
      ·subst h0;exact none_ _ _ rfl
      ·refine some_ a cap ((us.drop (off*k')).take (m'*k')) ?_ ((e12.drop _).take _)
       rw[e6 (by omega)]
       exact(ZaC e8 e11 (off*k')).take _
    ·cases hs
   ·cases hs
  ·cases hs
 ·rename_i s
  split at hs
  ·rename_i hk1
   subst hk1
   simp only[Option.some.injEq,Prod.mk.injEq] at hs
   obtain⟨rfl,rfl⟩:=hs
   have hc:=Zaf hx rfl
   subst hc
   refine⟨by simp[Builtin.lenOf],((s.extract 0 n).data.map λb=>Value.int .u8 b.toNat).toList,by simp only[Builtin.firstCells,Sem.run_pure,Array.toArray_toList],?_⟩
   have e:((s.extract 0 n).data.map λb=>Value.int .u8 b.toNat).toList=(s.data.toList.map λb=>Value.int .u8 b.toNat).take n:=by
    apply List.ext_getElem?
    intro j
    simp[ByteArray.data_extract]
   rw[e,Zhe,Nat.mul_one,<-List.map_take,<-List.map_take]
   generalize s.data.toList.take n=l
   induction l with
   |nil=>exact .nil
   |cons b l ih=>exact .cons (.val rfl) ih
  ·cases hs
 ·cases hs
def ZsR (P:Program) (t:TypeId) (d s:AV) (h:Za):Option (AV×Za):=
 match ZL P t,d with
 |some k,.own id ver off n k'=>match h[id]? with
  |some x=>match blkCells x,ZiD k h s with
   |some (ver',cs),some (m,ys)=>if ver=ver'/\k'=k/\(off+n)*k<=cs.length/\ys.length=m*k/\(ys.take (min m n*k)).all Zy=true then
     some (.val (.int .i64 (min m n:Nat)),h.set id (setBlk (putAt cs (off*k) (ys.take (min m n*k))) x)) else none
   |_,_=>none
  |none=>none
 |_,_=>none
theorem Zwf {t t' ty:TypeId} {x y v:AV} {c d:Value} {h':Za} (r:Rel Z κ h w) (hx:R Z w κ x c) (hy:R Z w κ y d) (hv:ZsR P t x y h=some (v,h')):
  ∃u w',(Builtin.copy_ #[t,t'] ty #[c,d]).run P w= .ok u w'/\Rel Z κ h' w'/\R Z w' κ v u/\Ext Z κ w Z κ w':=by
 unfold ZsR at hv
 split at hv
 ·rename_i k id ver off n k' h1
  obtain⟨e,he,hk⟩:=ZaN h1
  split at hv
  ·rename_i x hb
   split at hv
   ·rename_i ver' cs m ys hbc hsrc
    split at hv
    ·rename_i hc
     obtain⟨rfl,rfl,c1,c2,c3⟩:=hc
     simp only[Option.some.injEq,Prod.mk.injEq] at hv
     obtain⟨rfl,rfl⟩:=hv
     obtain⟨hlen,us,hus,hr⟩:=ZeX (P:=P) r hy hsrc c2 (min m n) (Nat.min_le_left _ _)
     have e0:Nat.min m n=min m n:=rfl
     rcases own_slice2 r hx hb hbc with⟨_,A,q1,rfl,rfl,rfl,rfl⟩|⟨b,sz,arr,E,us',cap,a,q1,rfl,q3,q4,q5,q6,q7,q8,q9,q10,q11,q12⟩
     ·have h0:min m 0=0:=by omega
      simp only[h0,Nat.zero_mul,List.take_zero] at hus hr⊢
      have hu0:us=[]:=by cases hr;rfl
      subst hu0
      refine⟨goInt 0,w,?_,?_,.val rfl,.refl _ _ _⟩
      ·cases A<;>simp[Builtin.copy_,run_underlying he,hlen,run_tsize hk,h0,hus,storeCells]
      ·have:setBlk (putAt [] 0 []) x=x:=by cases x<;>simp_all[blkCells,setBlk,putAt]
       simpa[this,ZgC hb] using r
     ·have hul:=hr.length
      have htl:(ys.take (min m n*k')).length=min m n*k':=by rw[List.length_take,c2];exact Nat.min_eq_left (Nat.mul_le_mul_right _ (Nat.min_le_left _ _))
      by_cases hmn:min m n=0
      ·simp only[hmn,Nat.zero_mul,List.take_zero] at hus hr⊢
       have hu0:us=[]:=by cases hr;rfl
       subst hu0
       refine⟨goInt 0,w,?_,?_,.val rfl,.refl _ _ _⟩
       ·simp[Builtin.copy_,run_underlying he,hlen,run_tsize hk,hmn,hus,storeCells]
       ·have:setBlk (putAt cs (off*k') []) x=x:=by cases x<;>simp_all[blkCells,setBlk,putAt]
        simpa[this,ZgC hb] using r
      have ha:=q6 (by omega)
      subst ha
      have hfit:off*k'+(ys.take (min m n*k')).length<=cs.length:=by
       rw[htl,<-Nat.add_mul]
       exact Nat.le_trans (Nat.mul_le_mul_right _ (by omega)) c1
      obtain⟨w',g1,g2,g3⟩:=ZjQ (P:=P) r q1 hb hbc hr hfit c3
      refine⟨goInt ((min m n:Nat):Int),w',?_,g2,.val rfl,g3⟩
      simp[Builtin.copy_,run_underlying he,hlen,run_tsize hk,hus,g1]
    ·cases hv
   ·cases hv
  ·cases hv
 ·cases hv
def ZkU (P:Program) (t:TypeId) (d:AV) (h:Za):Option (AV×Za):=
 match Zab P t,d with
 |some e,.own id ver off n k=>match Zd P e,ZU P e,h[id]? with
  |some k',some zs,some x=>match blkCells x with
   |some (ver',cs)=>if ver=ver'/\k=k'/\zs.length=k/\(off+n)*k<=cs.length/\zs.all Zy=true then some (.tup [],h.set id (setBlk (putAt cs (off*k) (zeros zs n)) x)) else none
   |none=>none
  |_,_,_=>none
 |_,_=>none
theorem Zgn (zs:List AV) (n:Nat):(zeros zs n).length=n*zs.length:=by simp[zeros]
theorem ZsS {zs:List AV} (hz:zs.all Zy=true) (n:Nat):(zeros zs n).all Zy=true:=by
 rw[List.all_eq_true] at*
 intro x hx
 obtain⟨l,hl,hxl⟩:=List.mem_flatten.1 hx
 obtain⟨_,rfl⟩:=List.mem_replicate.1 hl
 exact hz x hxl
theorem Zcy (z:Array Value) (n:Nat) (hz:0<z.size\/n=0):(Builtin.zeroCells z n).toList=(List.replicate n z.toList).flatten:=by
 rcases hz with hz|hz
 ·exact ZkM z n hz
 ·subst hz;simp[Builtin.zeroCells]
theorem ZsT {t ty:TypeId} {x v:AV} {c:Value} {h':Za} (r:Rel Z κ h w) (hx:R Z w κ x c) (hv:ZkU P t x h=some (v,h')):
  ∃u w',(Builtin.clear_ #[t] ty #[c]).run P w= .ok u w'/\Rel Z κ h' w'/\R Z w' κ v u/\Ext Z κ w Z κ w':=by
 unfold ZkU at hv
 split at hv
 ·rename_i e id ver off n k he
  have hu:=run_telem he
  split at hv
  ·rename_i k' zs x hk hz hb
   split at hv
   ·rename_i ver' cs hbc
    split at hv
    ·rename_i hc
     obtain⟨rfl,rfl,c1,c2,c3⟩:=hc
     simp only[Option.some.injEq,Prod.mk.injEq] at hv
     obtain⟨rfl,rfl⟩:=hv
     obtain⟨z,hz1,rfl⟩:=Zdo hz w
     have zero_:n=0->∀A cap,c= .slice A n cap->∃u w',(Builtin.clear_ #[t] ty #[c]).run P w= .ok u w'/\Rel Z κ (h.set id (setBlk (putAt cs (off*k) (zeros (z.cells.toList.map Zaj) n)) x)) w'/\R Z w' κ (.tup []) u/\Ext Z κ w Z κ w':=by
      rintro rfl A cap rfl
      refine⟨.tuple #[],w,?_,?_,.tup (vs:=[]) .nil,.refl _ _ _⟩
      ·cases A<;>simp[Builtin.clear_,run_underlying hu]
      ·have:setBlk (putAt cs (off*k) (zeros (z.cells.toList.map Zaj) 0)) x=x:=by cases x<;>simp_all[blkCells,setBlk,putAt,zeros]
       simpa[this,ZgC hb] using r
     rcases own_slice2 r hx hb hbc with⟨_,A,q1,hcv,_,h0,_⟩|⟨b,sz,arr,E,us',cap,a,q1,hcv,q3,q4,q5,q6,q7,q8,q9,q10,q11,q12⟩
     ·subst h0
      exact zero_ rfl A 0 hcv
     ·by_cases hn:n=0
      ·exact zero_ hn (some a) cap hcv
      ·subst hcv
       have ha:=q6 (by omega)
       subst ha
       have hzs:z.cells.size=k:=by simpa using c1
       have hr:Rs Z w κ (zeros (z.cells.toList.map Zaj) n) (Builtin.zeroCells z.cells n).toList:=by
        rw[Zcy _ _ (.inl (by omega))]
        exact ZY (ZbB _) n
       have hfit:off*k+(zeros (z.cells.toList.map Zaj) n).length<=cs.length:=by
        rw[Zgn,c1,<-Nat.add_mul];exact c2
       obtain⟨w',g1,g2,g3⟩:=ZjQ (P:=P) r q1 hb hbc hr hfit (ZsS c3 n)
       refine⟨.tuple #[],w',?_,g2,.tup (vs:=[]) .nil,g3⟩
       obtain⟨m,rfl⟩:∃m,n=m+1:=⟨n -1,by omega⟩
       simp[Builtin.clear_,run_underlying hu,hz1,g1]
    ·cases hv
   ·cases hv
  ·cases hv
 ·cases hv
def ZeY (P:Program) (t t':TypeId) (s x:AV) (h:Za):Option (AV×Za):=
 match Zab P t,P.underlying t',x with
 |some e,some (.int .i64),.val (.int .i64 m)=>match Zd P e,ZU P e,ZaZ P e with
  |some k,some zs,some by_=>
   if 0<k/\zs.length=k/\0<m then match s with
    | .sl true 0 []=>if m*by_<=140737488355328/\m<=maxLen then some (.own h.length 0 0 m.toNat k,h++[.cells 0 (zeros zs m.toNat)]) else none
    | .own id ver off n k'=>match h[id]? with
     |some (.full ver' cs)=>if ver=ver'/\k'=k/\(off+n)*k<=cs.length/\cs.length<(off+n+m.toNat)*k/\(n+m)*by_<=140737488355328/\n+m<=maxLen then
       some (.own h.length 0 0 (n+m.toNat) k,h++[.cells 0 ((cs.drop (off*k)).take (n*k)++zeros zs m.toNat)]) else none
     |_=>none
    |_=>none
   else none
  |_,_,_=>none
 |_,_,_=>none
theorem Zgz (t t' ty e:TypeId) (i:TypeInfo) (z:Value) (ht:P.underlying t=some (.slice e)) (ht':P.underlying t'=some (.int .i64)) (hi:P.info? e=some i) (hz:i.zero=some z) (base:Option Addr) (n cap m:Nat) (olds:List Value)
  (hold:(Builtin.firstCells i.size n (.slice base n cap)).run P w.drew= .ok olds.toArray w.drew) (hm:0<m) (hs:0<i.size) (hg:cap<n+m) (hmax:n+m<=maxLen) (hb:(n+m)*i.bytes<=140737488355328):
  (Builtin.append_ #[t,t'] ty #[.slice base n cap,.int .i64 m]).run P w=
   .ok (.slice (some ⟨w.heap.size,0,none⟩) (n+m) (grownCap w (n+m) cap e)) (w.drew.alloc (.cells (olds.toArray++Builtin.zeroCells z.cells m++Builtin.zeroCells z.cells (grownCap w (n+m) cap e -(n+m))) e)):=by
 have hn:¬(n+m<=cap):=by omega
 simp only[maxLen] at hmax
 have hfit:=growslice_fits (need:=n+m) (old:=cap) (bytes:=i.bytes) (by omega) hb
 have h63':¬(9223372036854775807<((n:Int)+(m:Int))):=by omega
 have h48':¬(281474976710656<Builtin.nextslicecap (n+m) cap*i.bytes):=by omega
 have hw:IntKind.i64.wrap (m:Int)=(m:Int):=by rw[IntKind.wrap_i64];omega
 have hneg:¬((m:Int)<0):=by omega
 have hmb:¬((281474976710656:Int)<(m:Int)*(i.bytes:Int)):=by
  have:m*i.bytes<=(n+m)*i.bytes:=Nat.mul_le_mul_right _ (by omega)
  have h2:((m*i.bytes:Nat):Int)<=140737488355328:=by omega
  rw[Int.natCast_mul] at h2
  omega
 have hms:¬(m*i.size=0):=by
  intro h0
  rcases Nat.mul_eq_zero.1 h0 with h0|h0<;>omega
 have hm0:¬(m=0):=by omega
 have hs0:¬(i.size=0):=by omega
 simp[Builtin.append_,run_underlying ht,run_underlying ht',asInt,asIntOf,sizeOf,typeInfo,zeroValue,hi,hz,hw,hneg,hmb,hn,h63',h48',Question.forced,hold,newRow,grownCap,hms,hm0,hs0]
theorem ZmI {t t' ty:TypeId} {s x v:AV} {c d:Value} {h':Za} (r:Rel Z κ h w) (hs:R Z w κ s c) (hx:R Z w κ x d) (hv:ZeY P t t' s x h=some (v,h')):
  ∃u w' κ',(Builtin.append_ #[t,t'] ty #[c,d]).run P w= .ok u w'/\Rel Z κ' h' w'/\R Z w' κ' v u/\Ext Z κ w Z κ' w'/\Zq κ κ':=by
 unfold ZeY at hv
 split at hv
 ·rename_i e m he ht'
  have ht:=run_telem he
  split at hv
  ·rename_i k zs by_ hk hz hby
   split at hv
   ·rename_i hc
    obtain⟨hk0,hzl,hm0⟩:=hc
    obtain⟨i,hi,rfl⟩:=Option.map_eq_some_iff.1 hk
    obtain⟨i2,hi2,rfl⟩:=Option.map_eq_some_iff.1 hby
    have:i2=i:=by rw[hi] at hi2;injection hi2 with hi2;exact hi2.symm
    subst this
    obtain⟨z,hz',rfl⟩:=Option.map_eq_some_iff.1 hz
    obtain⟨i3,hi3,hz'⟩:=Option.bind_eq_some_iff.1 hz'
    have:i3=i2:=by rw[hi] at hi3;injection hi3 with hi3;exact hi3.symm
    subst this
    have hzs:z.cells.size=i3.size:=by simpa using hzl
    have hdv:=Zaf hx rfl
    subst hdv
    obtain⟨m,rfl⟩:=Int.eq_ofNat_of_zero_le (by omega:0<=m)
    have hm1:0<m:=by omega
    have fin:∀(base:Option Addr) (n cap:Nat) (olds:List Value) (as:List AV),(∀w':World,w'.heap=w.heap->(Builtin.firstCells i3.size n (.slice base n cap)).run P w'= .ok olds.toArray w')->olds.length=n*i3.size->Rs Z w κ as olds->cap<n+m->n+m<=maxLen->(n+m)*i3.bytes<=140737488355328->
      ∃u w' κ',(Builtin.append_ #[t,t'] ty #[.slice base n cap,.int .i64 m]).run P w= .ok u w'/\Rel Z κ' (h++[.cells 0 (as++zeros (z.cells.toList.map Zaj) m)]) w'/\R Z w' κ' (.own h.length 0 0 (n+m) i3.size) u/\Ext Z κ w Z κ' w'/\Zq κ κ':=by
     intro base n cap olds as hold hol has hg hmax hb
     have hrun:=Zgz (P:=P) (w:=w) t t' ty e i3 z ht ht' hi hz' base n cap m olds (hold w.drew rfl) hm1 hk0 hg hmax hb
     have hge:=grownCap_ge w (n+m) cap e
     have hcm:=grownCap_le_maxLen w (n+m) cap e hmax
     have r1:Rel Z κ h w.drew:=⟨r.zlt,r.za,r.hole,λid x hx=>(r.blk id x hx).ext r ⟨rfl,rfl,rfl,Nat.le_refl _,λ_ _ _=>rfl,λ_ h=>h,λ_ h=> .inl h,λ_ h=> .inl h⟩ (.refl _) rfl (λ_ _ _ _=>rfl),r.inj⟩
     have e1:Ext Z κ w Z κ w.drew:=⟨rfl,rfl,rfl,Nat.le_refl _,λ_ _ _=>rfl,λ_ h=>h,λ_ h=> .inl h,λ_ h=> .inl h⟩
     have hzr:Rs Z w.drew κ (zeros (z.cells.toList.map Zaj) m) (Builtin.zeroCells z.cells m).toList:=by
      rw[Zcy _ _ (.inl (by omega))]
      exact ZY (ZbB _) m
     have hzl2:(Builtin.zeroCells z.cells m).toList.length=m*i3.size:=by rw[<-hzr.length,Zgn];simp[hzs]
     have hsize:(olds.toArray++Builtin.zeroCells z.cells m++Builtin.zeroCells z.cells (grownCap w (n+m) cap e -(n+m))).size=grownCap w (n+m) cap e*i3.size:=by
      simp only[Array.size_append,List.size_toArray,size_zeroCells,hzs,hol,<-Nat.add_mul]
      congr 1;omega
     have hcells:∀(j:Nat) (u:Value),(olds++(Builtin.zeroCells z.cells m).toList)[j]? =some u->(olds.toArray++Builtin.zeroCells z.cells m++Builtin.zeroCells z.cells (grownCap w (n+m) cap e -(n+m)))[j]? =some u:=by
      have:=ZcT (us:=olds) (ws:=(Builtin.zeroCells z.cells m).toList) (z:=z.cells) (x:=grownCap w (n+m) cap e -(n+m))
      simpa using this
     obtain⟨r2,e2,s2⟩:=Zdn r1 ((has.ext r e1 (.refl _)).append hzr) (olds.toArray++Builtin.zeroCells z.cells m++Builtin.zeroCells z.cells (grownCap w (n+m) cap e -(n+m))) e
      (by rw[hsize,List.length_append,hol,hzl2,<-Nat.add_mul];exact Nat.mul_le_mul_right _ hge) hcells
     exact⟨_,_,_,hrun,r2,ZeU (Zk _ _ _) hge hcm hsize.symm hk0,e1.trans e2,s2⟩
    split at hv
    ·split at hv
     ·rename_i hc
      obtain⟨hb,hmax⟩:=hc
      simp only[Option.some.injEq,Prod.mk.injEq] at hv
      obtain⟨rfl,rfl⟩:=hv
      have hb':m*i3.bytes<=140737488355328:=by
       have:((m*i3.bytes:Nat):Int)<=140737488355328:=by rw[Int.natCast_mul];exact hb
       omega
      cases hs with
      |sl0 h2 h3=>
       rename_i A cap
       have:=h2 rfl
       subst this
       have hold:∀w':World,w'.heap=w.heap->(Builtin.firstCells i3.size 0 (.slice A 0 0)).run P w'= .ok ([]:List Value).toArray w':=by
        intro w' _
        cases A with
        |none=>simp[Builtin.firstCells]
        |some a=>simpa using run_firstCells_some (P:=P) w' i3.size 0 a 0 0 [] (by simp) (by intro j v hj;simp at hj)
       have:=fin A 0 0 [] [] hold (by simp) .nil (by omega) (by omega) (by simpa using hb')
       simpa using this
      |sl h2=>omega
     ·cases hv
    ·rename_i id ver off n k'
     split at hv
     ·rename_i ver' cs hb
      split at hv
      ·rename_i hc
       obtain⟨rfl,rfl,c1,c2,c3,c4⟩:=hc
       simp only[Option.some.injEq,Prod.mk.injEq] at hv
       obtain⟨rfl,rfl⟩:=hv
       obtain⟨b,arr,E,cap,a,q1,rfl,q3,q4,q5,q6,q7,q8,q9,q10⟩:=ZeW r hs hb
       have hcap:cap<n+m:=by
        have:(off+cap)*i3.size<(off+n+m)*i3.size:=by rw[q4];simpa using c2
        have:=Nat.lt_of_mul_lt_mul_right this
        omega
       have hb':(n+m)*i3.bytes<=140737488355328:=by
        have:(((n+m)*i3.bytes:Nat):Int)<=140737488355328:=by rw[Int.natCast_mul,Int.natCast_add];exact c3
        omega
       have hal:arr.toList.length=cs.length:=q10.length.symm
       have hol:((arr.toList.drop (off*i3.size)).take (n*i3.size)).length=n*i3.size:=by
        rw[List.length_take,List.length_drop,hal]
        rw[Nat.add_mul] at c1;omega
       have hold:∀w':World,w'.heap=w.heap->(Builtin.firstCells i3.size n (.slice (some a) n cap)).run P w'= .ok ((arr.toList.drop (off*i3.size)).take (n*i3.size)).toArray w':=by
        intro w' hw'
        refine run_firstCells_some (P:=P) w' i3.size n a n cap _ hol λj u hj=> ?_
        have hjl:=(List.getElem?_eq_some_iff.1 hj).1
        have hn0:0<n:=Nat.pos_of_ne_zero λh0=>by rw[h0,Nat.zero_mul,List.take_zero] at hjl;simp at hjl
        rw[q6 (by omega)]
        have:=(ZaC (w:=w') (us:=arr.toList) (.of (ver:=ver) (by rw[hw'];exact q9)) (λj u hj=>by simpa using hj) (off*i3.size)).take (n*i3.size) j u hj
        exact this
       have:=fin (some a) n cap _ _ hold hol ((q10.drop _).take _) hcap (by omega) hb'
       simpa using this
      ·cases hv
     ·cases hv
    ·cases hv
   ·cases hv
  ·cases hv
 ·cases hv
def ZeZ (P:Program) (t:TypeId) (s x:AV) (h:Za):Option (AV×Za):=
 match ZL P t,s with
 |some k,.own id ver off n k'=>match h[id]? with
  |some (.full ver' cs)=>match ZiD k h x with
   |some (m,ys)=>if ver=ver'/\k'=k/\(off+n+m)*k<=cs.length/\ys.length=m*k/\ys.all Zy=true then some (.own id ver off (n+m) k,h.set id (.full ver (putAt cs ((off+n)*k) ys))) else none
   |none=>none
  |_=>none
 |_,_=>none
theorem ZmJ {t ty:TypeId} {s x v:AV} {c d:Value} {h':Za} (r:Rel Z κ h w) (hs:R Z w κ s c) (hx:R Z w κ x d) (hv:ZeZ P t s x h=some (v,h')):
  ∃u w',(Builtin.append_ #[t,t] ty #[c,d]).run P w= .ok u w'/\Rel Z κ h' w'/\R Z w' κ v u/\Ext Z κ w Z κ w':=by
 unfold ZeZ at hv
 split at hv
 ·rename_i k id ver off n k' h1
  obtain⟨e,he,hk⟩:=ZaN h1
  split at hv
  ·rename_i ver' cs hb
   split at hv
   ·rename_i m ys hsrc
    split at hv
    ·rename_i hc
     obtain⟨rfl,rfl,c1,c2,c3⟩:=hc
     simp only[Option.some.injEq,Prod.mk.injEq] at hv
     obtain⟨rfl,rfl⟩:=hv
     obtain⟨hlen,us,hus,hr⟩:=ZeX (P:=P) r hx hsrc c2 m (Nat.le_refl _)
     rw[<-c2,List.take_length] at hr
     have hs':=hs
     obtain⟨b,arr,E,cap,a,q1,rfl,q3,q4,q5,q6,q7,q8,q9,q10⟩:=ZeW r hs hb
     have hcap:n+m<=cap:=by
      have:(off+(n+m))*k'<=(off+cap)*k':=by rw[q4,<-Nat.add_assoc];exact c1
      have:=Nat.le_of_mul_le_mul_right this q5
      omega
     have hfit:(off+n)*k'+ys.length<=cs.length:=by rw[c2,<-Nat.add_mul];exact c1
     have hown:∀w' κ',κ'=κ->R Z w' κ' (.own id ver off (n+m) k') (.slice (some a) (n+m) cap):=by
      rintro w' κ' rfl
      cases hs' with
      |own g1 g2 g3 g4=>exact .own hcap g2 (by simp) (by unfold ZV at g4⊢;rw[q1] at g4⊢;exact⟨g4.1,λe=>g4.2 e⟩)
     rcases Nat.eq_zero_or_pos cap with h0|h0
     ·have hn0:n=0:=by omega
      have hm0:m=0:=by omega
      subst hn0 hm0
      have hy0:ys=[]:=List.eq_nil_of_length_eq_zero (by rw[c2];simp)
      subst hy0
      have hu0:us=[]:=by cases hr;rfl
      subst hu0
      refine⟨.slice (some a) 0 cap,w,?_,?_,by simpa using hown w κ rfl,.refl _ _ _⟩
      ·simp[Builtin.append_,run_underlying he,run_tsize hk,hlen,hus,storeCells]
      ·simpa[putAt,ZgC hb] using r
     ·have ha:=q6 h0
      subst ha
      obtain⟨w',g1,g2,g3⟩:=ZjQ (P:=P) r q1 hb rfl hr hfit c3
      refine⟨.slice (some ⟨b,off*k',none⟩) (n+m) cap,w',?_,g2,hown w' κ rfl,g3⟩
      have ea:(⟨b,off*k',none⟩:Addr).add (n*k')=⟨b,(off+n)*k',none⟩:=by rw[ZaT,Nat.add_mul]
      simp[Builtin.append_,run_underlying he,run_tsize hk,hlen,hcap,hus,ea,g1]
    ·cases hv
   ·cases hv
  ·cases hv
 ·cases hv
def Zfa (P:Program) (t:TypeId) (s x:AV) (h:Za):Option (AV×Za):=
 match Zab P t,s with
 |some e,.own id ver off n k'=>match Zd P e,ZaZ P e,h[id]? with
  |some k,some by_,some (.full ver' cs)=>match ZiD k h x with
   |some (m,ys)=>if ver=ver'/\k'=k/\(off+n)*k<=cs.length/\cs.length<(off+n+m)*k/\ys.length=m*k/\(n+m)*by_<=140737488355328/\n+m<=maxLen/\(P.underlying t).isSome/\((ZU P e).map (·.length))=some k then some (.own h.length 0 0 (n+m) k,h++[.cells 0 ((cs.drop (off*k)).take (n*k)++ys)]) else none
   |none=>none
  |_,_,_=>none
 |_,_=>none
theorem ZmK {t ty:TypeId} {s x v:AV} {c d:Value} {h':Za} (r:Rel Z κ h w) (hs:R Z w κ s c) (hx:R Z w κ x d) (hv:Zfa P t s x h=some (v,h')):
  ∃u w' κ',(Builtin.append_ #[t,t] ty #[c,d]).run P w= .ok u w'/\Rel Z κ' h' w'/\R Z w' κ' v u/\Ext Z κ w Z κ' w'/\Zq κ κ':=by
 unfold Zfa at hv
 split at hv
 ·rename_i e id ver off n k' he
  have ht:=run_telem he
  split at hv
  ·rename_i k by_ ver' cs hk hby hb
   split at hv
   ·rename_i m ys hsrc
    split at hv
    ·rename_i hc
     obtain⟨rfl,rfl,c1,c2,c3,c4,c5,_,c7⟩:=hc
     simp only[Option.some.injEq,Prod.mk.injEq] at hv
     obtain⟨rfl,rfl⟩:=hv
     obtain⟨i,hi,rfl⟩:=Option.map_eq_some_iff.1 hk
     obtain⟨i2,hi2,rfl⟩:=Option.map_eq_some_iff.1 hby
     have:i2=i:=by rw[hi] at hi2;injection hi2 with hi2;exact hi2.symm
     subst this
     obtain⟨zs,hz,hzl⟩:=Option.map_eq_some_iff.1 c7
     obtain⟨z,hz',rfl⟩:=Option.map_eq_some_iff.1 hz
     obtain⟨i3,hi3,hz'⟩:=Option.bind_eq_some_iff.1 hz'
     have:i3=i2:=by rw[hi] at hi3;injection hi3 with hi3;exact hi3.symm
     subst this
     have hzs:z.cells.size=i3.size:=by simpa using hzl
     have r1:Rel Z κ h w.drew:=⟨r.zlt,r.za,r.hole,λid x hx=>(r.blk id x hx).ext r ⟨rfl,rfl,rfl,Nat.le_refl _,λ_ _ _=>rfl,λ_ h=>h,λ_ h=> .inl h,λ_ h=> .inl h⟩ (.refl _) rfl (λ_ _ _ _=>rfl),r.inj⟩
     have e1:Ext Z κ w Z κ w.drew:=⟨rfl,rfl,rfl,Nat.le_refl _,λ_ _ _=>rfl,λ_ h=>h,λ_ h=> .inl h,λ_ h=> .inl h⟩
     obtain⟨hlen,_⟩:=ZeX (P:=P) r hx hsrc c3 m (Nat.le_refl _)
     obtain⟨_,us,hus,hr⟩:=ZeX (P:=P) r1 (hx.ext r e1 (.refl _)) hsrc c3 m (Nat.le_refl _)
     rw[<-c3,List.take_length] at hr
     obtain⟨b,arr,E,cap,a,q1,rfl,q3,q4,q5,q6,q7,q8,q9,q10⟩:=ZeW r hs hb
     have hcap:cap<n+m:=by
      have:(off+cap)*i3.size<(off+n+m)*i3.size:=by rw[q4];exact c2
      have:=Nat.lt_of_mul_lt_mul_right this
      omega
     have hal:arr.toList.length=cs.length:=q10.length.symm
     have hol:((arr.toList.drop (off*i3.size)).take (n*i3.size)).length=n*i3.size:=by
      rw[List.length_take,List.length_drop,hal]
      rw[Nat.add_mul] at c1;omega
     have hold:(Builtin.firstCells i3.size n (.slice (some a) n cap)).run P w.drew= .ok ((arr.toList.drop (off*i3.size)).take (n*i3.size)).toArray w.drew:=by
      refine run_firstCells_some (P:=P) w.drew i3.size n a n cap _ hol λj u hj=> ?_
      have hjl:=(List.getElem?_eq_some_iff.1 hj).1
      have hn0:0<n:=Nat.pos_of_ne_zero λh0=>by rw[h0,Nat.zero_mul,List.take_zero] at hjl;simp at hjl
      rw[q6 (by omega)]
      have:=(ZaC (w:=w.drew) (us:=arr.toList) (.of (ver:=ver) q9) (λj u hj=>by simpa using hj) (off*i3.size)).take (n*i3.size) j u hj
      exact this
     have hge:=grownCap_ge w (n+m) cap e
     have hcm:=grownCap_le_maxLen w (n+m) cap e c5
     have hn:¬(n+m<=cap):=by omega
     have hfit:=growslice_fits (need:=n+m) (old:=cap) (bytes:=i3.bytes) (by omega) c4
     have h63':¬(9223372036854775807<((n:Int)+(m:Int))):=by simp only[maxLen] at c5;omega
     have h48':¬(281474976710656<Builtin.nextslicecap (n+m) cap*i3.bytes):=by omega
     have hul:=hr.length
     have hrun:(Builtin.append_ #[t,t] ty #[.slice (some a) n cap,d]).run P w= .ok (.slice (some ⟨w.heap.size,0,none⟩) (n+m) (grownCap w (n+m) cap e))
       (w.drew.alloc (.cells (((arr.toList.drop (off*i3.size)).take (n*i3.size)).toArray++us.toArray++Builtin.zeroCells z.cells (grownCap w (n+m) cap e -(n+m))) e)):=by
      simp[Builtin.append_,run_underlying ht,sizeOf,typeInfo,zeroValue,hi,hz',hlen,hn,h63',h48',Question.forced,hold,hus,newRow,grownCap]
      congr 2
      apply Array.ext'
      simp
     have hsize:(((arr.toList.drop (off*i3.size)).take (n*i3.size)).toArray++us.toArray++Builtin.zeroCells z.cells (grownCap w (n+m) cap e -(n+m))).size=grownCap w (n+m) cap e*i3.size:=by
      simp only[Array.size_append,List.size_toArray,size_zeroCells,hzs,hol,<-hul,c3,<-Nat.add_mul]
      congr 1;omega
     obtain⟨r2,e2,s2⟩:=Zdn r1 ((((q10.drop _).take _).ext r e1 (.refl _)).append hr) (((arr.toList.drop (off*i3.size)).take (n*i3.size)).toArray++us.toArray++Builtin.zeroCells z.cells (grownCap w (n+m) cap e -(n+m))) e
      (by rw[hsize,List.length_append,hol,<-hul,c3,<-Nat.add_mul];exact Nat.mul_le_mul_right _ hge) ZcT
     exact⟨_,_,_,hrun,r2,ZeU (Zk _ _ _) hge hcm hsize.symm q5,e1.trans e2,s2⟩
    ·cases hv
   ·cases hv
  ·cases hv
 ·cases hv
def orX (a b:Option (AV×Za)):Option (AV×Za):=
 match a with
 |some r=>some r
 |none=>b
@[simp] theorem orX_some (r:AV×Za) (b:Option (AV×Za)):orX (some r) b=some r:=rfl
@[simp] theorem orX_none (b:Option (AV×Za)):orX none b=b:=rfl
end Go.Cx
set_option linter.unusedVariables false
set_option linter.unusedSimpArgs false
namespace Go.Cx
variable {P:Program} {Z:Nat->Prop} {κ:Nat->Slot} {h:Za} {w:World}
theorem ZiE (r:Rel Z κ h w) (vr:Nat) (o:Obj) (sz:Nat) (y:ABlk) (hy:∀(e:Ext Z κ w Z (upd κ h.length (.live vr (some w.heap.size) sz)) (w.alloc o)) (s:Zq κ (upd κ h.length (.live vr (some w.heap.size) sz))),ZaM Z (w.alloc o) (upd κ h.length (.live vr (some w.heap.size) sz)) h.length y):
  Rel Z (upd κ h.length (.live vr (some w.heap.size) sz)) (h++[y]) (w.alloc o)/\
  Ext Z κ w Z (upd κ h.length (.live vr (some w.heap.size) sz)) (w.alloc o)/\Zq κ (upd κ h.length (.live vr (some w.heap.size) sz)):=by
 have hh:=r.hole h.length (Nat.le_refl _)
 have hs:Zq κ (upd κ h.length (.live vr (some w.heap.size) sz)):= .upd (.inl hh)
 have hal:∀b,ZT (upd κ h.length (.live vr (some w.heap.size) sz)) b->ZT κ b\/w.heap.size<=b:=by
  rintro b ⟨id,ver,s,hk⟩
  by_cases hid:id=h.length
  ·subst hid;rw[Zk] at hk;injection hk with _ h2 _;injection h2 with h2;exact .inr (by omega)
  ·rw[Zr _ _ hid] at hk;exact .inl ⟨id,ver,s,hk⟩
 have e:Ext Z κ w Z (upd κ h.length (.live vr (some w.heap.size) sz)) (w.alloc o):=
  ⟨rfl,rfl,rfl,by simp,λb hb _=>ZG w _ hb,λ_ h=>h,λ_ h=> .inl h,hal⟩
 refine⟨⟨λb hz=>by have:=r.zlt b hz;simp;omega,λb hz ha=> ?_,λid hid=> ?_,λid x hx=> ?_,?_⟩,e,hs⟩
 ·rcases hal b ha with h1|h1
  ·exact r.za b hz h1
  ·have:=r.zlt b hz;omega
 ·simp at hid
  rw[Zr _ _ (by omega)];exact r.hole id (by omega)
 ·by_cases hid:id=h.length
  ·subst hid
   simp at hx
   subst hx
   exact hy e hs
  ·have hlt:id<h.length:=by
    have:=(List.getElem?_eq_some_iff.1 hx).1
    simp at this;omega
   rw[List.getElem?_append_left hlt] at hx
   exact(r.blk id x hx).ext r e hs (Zr _ _ hid) λver b sz hk=>ZG w _ (ZA r ⟨id,ver,sz,hk⟩)
 ·intro id id' ver ver' b s s' h1 h2
  by_cases hid:id=h.length<;>by_cases hid':id'=h.length
  ·omega
  ·subst hid
   rw[Zk] at h1;rw[Zr _ _ hid'] at h2
   injection h1 with _ h1 _;injection h1 with h1
   have:=ZA r ⟨id',ver',s',h2⟩;omega
  ·subst hid'
   rw[Zk] at h2;rw[Zr _ _ hid] at h1
   injection h2 with _ h2 _;injection h2 with h2
   have:=ZA r ⟨id,ver,s,h1⟩;omega
  ·rw[Zr _ _ hid] at h1;rw[Zr _ _ hid'] at h2
   exact r.inj _ _ _ _ _ _ _ h1 h2
theorem ZkV (r:Rel Z κ h w) (o:Obj) (sz:Nat) (y:ABlk) (hy:∀(e:Ext Z κ w Z (upd κ h.length (.live 0 (some w.heap.size) sz)) (w.alloc o)) (s:Zq κ (upd κ h.length (.live 0 (some w.heap.size) sz))),ZaM Z (w.alloc o) (upd κ h.length (.live 0 (some w.heap.size) sz)) h.length y):
  Rel Z (upd κ h.length (.live 0 (some w.heap.size) sz)) (h++[y]) (w.alloc o)/\
  Ext Z κ w Z (upd κ h.length (.live 0 (some w.heap.size) sz)) (w.alloc o)/\Zq κ (upd κ h.length (.live 0 (some w.heap.size) sz)):=ZiE r 0 o sz y hy
theorem Zqo {id ver b sz:Nat} {x y:ABlk} {o:Obj} {w':World} (r:Rel Z κ h w) (hx:h[id]? =some x) (hk:κ id= .live ver (some b) sz)
  (hos:w'.os=w.os) (htape:w'.tape=w.tape) (hout:w'.output=w.output) (hsize:w'.heap.size=w.heap.size) (hne:∀b',b'≠b->w'.heap[b']? =w.heap[b']?)
  (hy:Ext Z κ w Z κ w'->ZaM Z w' κ id y):Rel Z κ (h.set id y) w'/\Ext Z κ w Z κ w':=by
 have hal:ZT κ b:=⟨id,_,_,hk⟩
 have e:Ext Z κ w Z κ w':=⟨hos,htape,hout,by omega,λb' hb' hn=>hne b' (λe=>hn (e▸hal)),λ_ h=>h,λ_ h=> .inl h,λ_ h=> .inl h⟩
 refine⟨⟨λb hz=>by have:=r.zlt b hz;omega,r.za,λid' hid'=>r.hole id' (by simpa using hid'),λid' x hx'=> ?_,r.inj⟩,e⟩
 by_cases hid:id'=id
 ·subst hid
  rw[List.getElem?_set_self (List.getElem?_eq_some_iff.1 hx).1] at hx'
  injection hx' with hx'
  subst hx'
  exact hy e
 ·rw[List.getElem?_set_ne (Ne.symm hid)] at hx'
  refine(r.blk id' x hx').ext r e (.refl _) rfl λver' b' sz' hk'=>hne b' λeb=>hid ?_
  subst eb
  exact r.inj _ _ _ _ _ _ _ hk' hk
def isMap (P:Program) (t:TypeId):Bool:=match P.underlying t with|some (.map _ _)=>true|_=>false
def Zot (P:Program) (t:TypeId) (x:AV) (h:Za):Option (AV×Za):=
 if isMap P t then match x with
  | .fmap ks vs=>some (.ptr h.length 0 0,h++[.iter ks vs (List.range ks.length) none])
  |_=>none
 else none
theorem ZsU {t:TypeId} {x v:AV} {c:Value} {h':Za} (r:Rel Z κ h w) (hx:R Z w κ x c) (hv:Zot P t x h=some (v,h')):
  ∃u w' κ',(Instr.range t c).run P w= .ok u w'/\Rel Z κ' h' w'/\R Z w' κ' v u/\Ext Z κ w Z κ' w'/\Zq κ κ':=by
 unfold Zot at hv
 split at hv
 ·rename_i ht
  obtain⟨k,e,hu⟩:∃k e,P.underlying t=some (.map k e):=by
   unfold isMap at ht
   split at ht
   ·rename_i k e hu;exact⟨k,e,hu⟩
   ·cases ht
  split at hv
  ·rename_i ks vs
   simp only[Option.some.injEq,Prod.mk.injEq] at hv
   obtain⟨rfl,rfl⟩:=hv
   cases hx with
   |fmap h1 h2 h3 h4 h5 h6=>
    rename_i b clock es xs ys
    subst h3 h4
    have hl:=h5.length
    have hl2:=h6.length
    simp only[List.length_map,Array.length_toList] at hl hl2
    obtain⟨r',ex,st⟩:=ZkV r (.mapIter (some b) clock #[] clock) 0 (.iter ks vs (List.range ks.length) none) (λex st=>
     ⟨w.heap.size,b,es,clock,#[],clock,Zk _ _ _,Zal w _,h1,h2.of (ZG w _ (r.zlt _ h1)),h5.ext r ex st,h6.ext r ex st,List.nodup_range,λi hi=>by
      have:=List.mem_range.1 hi;omega,λi e he=>by
      have:=(Array.getElem?_eq_some_iff.1 he).1
      simp[List.mem_range];omega,rfl,λi hi=>by cases hi⟩)
    refine⟨.pointer (some ⟨w.heap.size,0,none⟩),_,_,?_,r',.ptr ?_,ex,st⟩
    ·simp[Instr.range,run_underlying hu,MapKept.run_getObj_map h2.1,run_newObj_alloc]
    ·simp[ZV,Zk,ZmF]
  ·cases hv
 ·cases hv
theorem Zou {id ver off:Nat} {c:Value} {ks vs:List AV} {todo:List Nat} {cur:Option Nat} (r:Rel Z κ h w) (hp:R Z w κ (.ptr id ver off) c) (hx:h[id]? =some (.iter ks vs todo cur)) (hv:ver=0):
  ∃b,κ id= .live 0 (some b) 0/\c= .pointer (some ⟨b,off,none⟩):=by
 subst hv
 obtain⟨b,mb,es,cl,sn,la,h1,_⟩:=r.blk id _ hx
 cases hp with
 |ptr h2=>
  simp only[ZV,h1] at h2
  have:=h2.2 trivial
  simp only[ZmF] at this
  exact⟨b,h1,by rw[this]⟩
def Zwg (P:Program) (t:TypeId) (x y:AV) (h:Za):Option (AV×Za):=
 match Zab P t,x,y with
 |some e,.val (.int _ n),.val (.int _ m)=>match Zd P e,ZU P e,ZaZ P e with
  |some k,some zs,some by_=>if n=m/\0<=n/\0<k/\zs.length=k/\n*by_<=140737488355328/\n<=9223372036854775807 then some (.own h.length 0 0 n.toNat k,h++[.cells 0 (zeros zs n.toNat)]) else none
  |_,_,_=>none
 |_,_,_=>none
theorem Zwh {t:TypeId} {x y v:AV} {c d:Value} {h':Za} (r:Rel Z κ h w) (hx:R Z w κ x c) (hy:R Z w κ y d) (hv:Zwg P t x y h=some (v,h')):
  ∃u w' κ',(Instr.makeSlice t c d).run P w= .ok u w'/\Rel Z κ' h' w'/\R Z w' κ' v u/\Ext Z κ w Z κ' w'/\Zq κ κ':=by
 unfold Zwg at hv
 split at hv
 ·rename_i e kl n kc m he
  have ht:=run_telem he
  split at hv
  ·rename_i k zs by_ hk hz hby
   split at hv
   ·rename_i hc
    obtain⟨rfl,h0,hk0,hzl,hb,hm⟩:=hc
    simp only[Option.some.injEq,Prod.mk.injEq] at hv
    obtain⟨rfl,rfl⟩:=hv
    obtain⟨i,hi,rfl⟩:=Option.map_eq_some_iff.1 hk
    obtain⟨i2,hi2,rfl⟩:=Option.map_eq_some_iff.1 hby
    have:i2=i:=by rw[hi] at hi2;injection hi2 with hi2;exact hi2.symm
    subst this
    obtain⟨z,hz',rfl⟩:=Option.map_eq_some_iff.1 hz
    obtain⟨i3,hi3,hz'⟩:=Option.bind_eq_some_iff.1 hz'
    have:i3=i2:=by rw[hi] at hi3;injection hi3 with hi3;exact hi3.symm
    subst this
    have hzs:z.cells.size=i3.size:=by simpa using hzl
    have e1:=Zaf hx rfl
    have e2:=Zaf hy rfl
    subst e1 e2
    obtain⟨n,rfl⟩:=Int.eq_ofNat_of_zero_le h0
    have hrun:=run_make (P:=P) w t e i3 z ht hi hz' kl kc n n h0 (Int.le_refl _) (by rw[Int.mul_comm];omega) hm
    simp only[Int.toNat_natCast] at hrun⊢
    have hmc:(madeCells z.cells (n*i3.size))=Builtin.zeroCells z.cells n:=by
     simp only[madeCells,Builtin.zeroCells,hzs]
    rw[hmc] at hrun
    have hzr:Rs Z w κ (zeros (z.cells.toList.map Zaj) n) (Builtin.zeroCells z.cells n).toList:=by
     rw[Zcy _ _ (.inl (by omega))]
     exact ZY (ZbB _) n
    have hsz:(Builtin.zeroCells z.cells n).size=n*i3.size:=by rw[<-hmc,size_madeCells]
    obtain⟨r2,e2,s2⟩:=Zdn r hzr (Builtin.zeroCells z.cells n) e (by simp) (λj u hj=>by simpa using hj)
    exact⟨_,_,_,hrun,r2,ZeU (Zk _ _ _) (Nat.le_refl _) (by simp only[maxLen];omega) hsz.symm hk0,e2,s2⟩
   ·cases hv
  ·cases hv
 ·cases hv
def Zov (P:Program) (src dst:TypeId) (x:AV) (h:Za):Option (AV×Za):=
 match x with
 | .val (.string s)=>match Zab P dst with
  |some e=>if(P.underlying e).map isU8=some true/\(P.underlying src).map isStr=some true/\s.size<=9223372036854775807 then some (.own h.length bigV 0 s.size 1,h++[.cells bigV (Zhe s)]) else none
  |none=>none
 |_=>none
theorem ZsV {src dst:TypeId} {x v:AV} {c:Value} {h':Za} (r:Rel Z κ h w) (hx:R Z w κ x c) (hv:Zov P src dst x h=some (v,h')):
  ∃u w' κ',(convert src dst c).run P w= .ok u w'/\Rel Z κ' h' w'/\R Z w' κ' v u/\Ext Z κ w Z κ' w'/\Zq κ κ':=by
 unfold Zov at hv
 split at hv
 ·rename_i s
  split at hv
  ·rename_i e he
   split at hv
   ·rename_i hc
    obtain⟨hc1,hc2,hc3⟩:=hc
    simp only[Option.some.injEq,Prod.mk.injEq] at hv
    obtain⟨rfl,rfl⟩:=hv
    have e1:=Zaf hx rfl
    subst e1
    have he':P.underlying e=some (.int .u8):=by
     cases hu:P.underlying e with
     |none=>rw[hu] at hc1;cases hc1
     |some d=>
      rw[hu] at hc1
      simp only[Option.map_some,Option.some.injEq] at hc1
      unfold isU8 at hc1
      split at hc1
      ·rfl
      ·cases hc1
    have hs':P.underlying src=some .string:=by
     cases hu:P.underlying src with
     |none=>rw[hu] at hc2;cases hc2
     |some d=>
      rw[hu] at hc2
      simp only[Option.map_some,Option.some.injEq] at hc2
      unfold isStr at hc2
      split at hc2
      ·rfl
      ·cases hc2
    have hrun:=run_bytes_of_string (P:=P) w src dst e s hs' (run_telem he) he'
    have hge:=grownCap_ge w s.size 0 e
    have hcm:=grownCap_le_maxLen w s.size 0 e (by simp only[maxLen];omega)
    have hsz:(bytesRow s (grownCap w s.size 0 e)).size=grownCap w s.size 0 e:=by
     have:s.data.size=s.size:=rfl
     simp[bytesRow,this];omega
    have r1:Rel Z κ h w.drew:=⟨r.zlt,r.za,r.hole,λid x hx=>(r.blk id x hx).ext r ⟨rfl,rfl,rfl,Nat.le_refl _,λ_ _ _=>rfl,λ_ h=>h,λ_ h=> .inl h,λ_ h=> .inl h⟩ (.refl _) rfl (λ_ _ _ _=>rfl),r.inj⟩
    have e1:Ext Z κ w Z κ w.drew:=⟨rfl,rfl,rfl,Nat.le_refl _,λ_ _ _=>rfl,λ_ h=>h,λ_ h=> .inl h,λ_ h=> .inl h⟩
    generalize hC:bytesRow s (grownCap w s.size 0 e)=C at hrun hsz
    have hbr:∀(Z:Nat->Prop) (κ:Nat->Slot) (w':World),Rs Z w' κ (Zhe s) (s.data.toList.map λb=>Value.int .u8 b.toNat):=λZ κ w'=>by
     unfold Zhe
     generalize s.data.toList=l
     induction l with
     |nil=>exact .nil
     |cons x l ih=>exact .cons (.val rfl) ih
    obtain⟨r',ex,st⟩:=ZiE r1 bigV (.cells C e (C.size,C.size+1)) C.size (.cells bigV (Zhe s)) (λex st=>
     ⟨some w.heap.size,C.size,Zk _ _ _,C,e,s.data.toList.map λb=>Value.int .u8 b.toNat,⟨_,Zal w.drew _,.inr ⟨Nat.le_refl _,Nat.le_refl _⟩⟩,rfl,by
      have:s.data.size=s.size:=rfl
      rw[hsz];simpa[this] using hge,λj u hj=>by
      have hjl:=(List.getElem?_eq_some_iff.1 hj).1
      simp only[List.length_map,Array.length_toList] at hjl
      rw[<-hC,bytesRow,Array.getElem?_append_left (by simpa using hjl)]
      simpa using hj,hbr _ _ _⟩)
    refine⟨_,_,_,hrun,r',?_,e1.trans ex,st⟩
    refine .own hge hcm (by simp) ?_
    simp only[ZV,Zk,Zdm]
    exact⟨Nat.le_refl _,λ_=>⟨by simp[hsz],by omega,⟨_,rfl,λ_=>by simp⟩,by omega⟩⟩
   ·cases hv
  ·cases hv
 ·cases hv
inductive Hk where
 |none
 |val (v:AV) (h':Za)
 |next (id:Nat) (ks vs:List AV) (todo:List Nat)
def ZiF (P:Program) (ρ:Operand->AV) (h:Za):Op->Hk
 | .range t x=>match Zot P t (ρ x) h with
  |some (v,h')=> .val v h'
  |none=> .none
 | .next it false=>match ρ it with
  | .ptr id 0 0=>match h[id]? with
   |some (.iter ks vs todo _)=> .next id ks vs todo
   |_=> .none
  |_=> .none
 | .entry it=>match ρ it with
  | .ptr id 0 0=>match h[id]? with
   |some (.iter ks vs _ (some i))=>match ks[i]?,vs[i]? with
    |some k,some v=> .val (.tup [k,v]) h
    |_,_=> .none
   |_=> .none
  |_=> .none
 | .slice t x lo hi mx=>match ZjR P t (ρ x) (lo.map ρ) (hi.map ρ) (mx.map ρ) h with
  |some v=> .val v h
  |none=> .none
 | .makeSlice t x y=>match Zwg P t (ρ x) (ρ y) h with
  |some (v,h')=> .val v h'
  |none=> .none
 | .convert src dst x=>match Zov P src dst (ρ x) h with
  |some (v,h')=> .val v h'
  |none=> .none
 |_=> .none
def ZmL (q:Hk) (K:AV->Za->Prop) (h:Za) (A:Prop):Prop:=
 match q with
 | .none=>A
 | .val v h'=>K v h'
 | .next id ks vs todo=>(todo=[]->K (.tup [.val (.bool false)]) h)/\∀(i:Nat) (k v:AV),i∈todo->ks[i]? =some k->vs[i]? =some v->K (.tup [.val (.bool true),k,v]) (h.set id (.iter ks vs (todo.erase i) (some i)))
def OutK (Z:Nat->Prop) (κ:Nat->Slot) (w:World) (K:AV->Za->Prop) (r:Result Next):Prop:=∃v h',K v h'/\Out Z κ w v h' r
theorem hook_ok {ρ:Operand->AV} {σ:Operand->Value} {o:Oper} {K:AV->Za->Prop} {A:Prop} (r:Rel Z κ h w) (hρ:∀x,R Z w κ (ρ x) (σ x)) (hk:ZmL (ZiF P ρ h o.op) K h A):A\/OutK Z κ w K ((execOp σ o).run P w):=by
 unfold ZiF at hk
 split at hk
 ·rename_i t x ho
  split at hk
  ·rename_i v h' hv
   right
   obtain⟨u,w',κ',hrun,r',hr,ex,st⟩:=ZsU (P:=P) r (hρ x) hv
   exact⟨v,h',hk,u,w',Z,κ',.inl (by simp[execOp,ho,hrun]),r',hr,ex,st⟩
  ·exact .inl hk
 ·rename_i it ho
  split at hk
  ·rename_i id hid
   split at hk
   ·rename_i ks vs todo cur hb
    right
    have hit:=hρ it
    rw[hid] at hit
    obtain⟨b,hkb,hc⟩:=Zou r hit hb rfl
    obtain⟨b',mb,es,cl,sn,la,q1,q2,q3,q4,q5,q6,q7,q8,q9,q10,q11⟩:=r.blk id _ hb
    rw[hkb] at q1
    injection q1 with _ q1
    injection q1 with q1
    subst q1 q10
    have hl:=q5.length
    have hl2:=q6.length
    simp only[List.length_map,Array.length_toList] at hl hl2
    rcases run_next_at (P:=P) w o.type b mb la la sn es la q2 q4.1 q4.2.2 (Nat.le_refl _) with⟨h0,hrun⟩|⟨e,he,w1,hw1,hrun⟩
    ·refine⟨_,h,hk.1 ?_,.tuple #[.bool false],w,Z,κ,.inl (by simp[execOp,ho,hc,hrun]),r,.tup (vs:=[.bool false]) (.cons (.val rfl) .nil),.refl _ _ _,.refl _⟩
     apply List.eq_nil_iff_forall_not_mem.2
     intro i hi
     have hil:=q8 i hi
     have hnot:=(q9 i es[i] (by simp[hil])).1 hi
     have:es[i]∈leftOf es sn:=by
      unfold leftOf
      simp only[Array.mem_filter,Array.getElem_mem,true_and]
      simpa using hnot
     have:=Array.size_pos_of_mem this
     omega
    ·have hel:e∈es.toList/\e.born∉sn:=by
      unfold leftOf at he
      simp at he
      exact⟨by simpa using he.1,by simpa using he.2⟩
     obtain⟨i,hi,hie⟩:=List.getElem_of_mem hel.1
     simp only[Array.length_toList] at hi
     have hie':es[i]? =some e:=by
      rw[Array.getElem?_eq_getElem hi]
      simpa using hie
     have hit:i∈todo:=(q9 i e hie').2 hel.2
     obtain⟨kk,hkk,hrk⟩:∃kk,ks[i]? =some kk/\R Z w κ kk e.key:=by
      obtain⟨u,hu,hr⟩:=q5.get i (ks[i]'(by omega)) (List.getElem?_eq_getElem _)
      simp only[List.getElem?_map,Array.getElem?_toList,hie',Option.map_some,Option.some.injEq] at hu
      exact⟨_,List.getElem?_eq_getElem _,by rw[hu];exact hr⟩
     obtain⟨vv,hvv,hrv⟩:∃vv,vs[i]? =some vv/\R Z w κ vv e.val:=by
      obtain⟨u,hu,hr⟩:=q6.get i (vs[i]'(by omega)) (List.getElem?_eq_getElem _)
      simp only[List.getElem?_map,Array.getElem?_toList,hie',Option.map_some,Option.some.injEq] at hu
      exact⟨_,List.getElem?_eq_getElem _,by rw[hu];exact hr⟩
     have hblt:b<w.heap.size:=(Array.getElem?_eq_some_iff.1 q2).1
     have hmb:mb≠b:=λe=>r.za mb q3 (e▸⟨id,_,_,hkb⟩)
     have hset:∀b',b'≠b->(ChangeMaps.setBlock w1 b (.mapIter (some mb) la (sn.push e.born) la)).heap[b']? =w.heap[b']? :=by
      intro b' hb'
      have hh:w1.heap=w.heap:=by rcases hw1 with rfl|rfl<;>rfl
      simp[ChangeMaps.setBlock,hh,Array.getElem?_setIfInBounds_ne (Ne.symm hb')]
     have hself:(ChangeMaps.setBlock w1 b (.mapIter (some mb) la (sn.push e.born) la)).heap[b]? =some (.mapIter (some mb) la (sn.push e.born) la):=by
      have hh:w1.heap=w.heap:=by rcases hw1 with rfl|rfl<;>rfl
      simp[ChangeMaps.setBlock,hh,Array.getElem?_setIfInBounds_self_of_lt hblt]
     obtain⟨r',ex⟩:=Zqo (y:= .iter ks vs (todo.erase i) (some i)) (o:= .mapIter (some mb) la (sn.push e.born) la) (w':=ChangeMaps.setBlock w1 b (.mapIter (some mb) la (sn.push e.born) la)) r hb hkb
      (by rcases hw1 with rfl|rfl<;>rfl) (by rcases hw1 with rfl|rfl<;>rfl) (by rcases hw1 with rfl|rfl<;>rfl) (by have hh:w1.heap=w.heap:=(by rcases hw1 with rfl|rfl<;>rfl);simp[ChangeMaps.setBlock,hh]) hset
      (λex=>⟨b,mb,es,la,sn.push e.born,la,hkb,hself,q3,q4.of (hset mb hmb),q5.ext r ex (.refl _),q6.ext r ex (.refl _),q7.erase _,λj hj=>q8 j (List.mem_of_mem_erase hj),λj e' he'=>by
       rw[q7.mem_erase_iff,q9 j e' he']
       simp only[Array.mem_push,not_or]
       constructor
       ·rintro⟨hj,hn⟩
        refine⟨hn,λhb=>hj ?_⟩
        have g1:=(Array.getElem?_eq_some_iff.1 he').1
        have g2:(es.toList.map (·.born))[j]? =(es.toList.map (·.born))[i]? :=by simp[he',hie',hb]
        exact(List.getElem?_inj (by simpa using g1) q4.2.1).1 g2
       ·rintro⟨hn,hb⟩
        refine⟨λhj=>hb ?_,hn⟩
        subst hj
        rw[hie'] at he'
        injection he' with he'
        rw[he'],rfl,λj hj=>by
        injection hj with hj
        subst hj
        exact⟨e,sn,hie',rfl⟩⟩)
     refine⟨_,_,hk.2 i kk vv hit hkk hvv,.tuple #[.bool true,e.key,e.val],_,Z,κ,.inl (by simp[execOp,ho,hc,hrun]),r',?_,ex,.refl _⟩
     exact .tup (vs:=[.bool true,e.key,e.val]) (.cons (.val rfl) (.cons (hrk.ext r ex (.refl _)) (.cons (hrv.ext r ex (.refl _)) .nil)))
   ·exact .inl hk
  ·exact .inl hk
 ·rename_i it ho
  split at hk
  ·rename_i id hid
   split at hk
   ·rename_i ks vs todo i hb
    split at hk
    ·rename_i kk vv hkk hvv
     right
     have hit:=hρ it
     rw[hid] at hit
     obtain⟨b,hkb,hc⟩:=Zou r hit hb rfl
     obtain⟨b',mb,es,cl,sn,la,q1,q2,q3,q4,q5,q6,q7,q8,q9,q10,q11⟩:=r.blk id _ hb
     rw[hkb] at q1
     injection q1 with _ q1
     injection q1 with q1
     subst q1 q10
     obtain⟨e,sn0,hie,rfl⟩:=q11 i rfl
     have hem:e∈es.toList:=by
      have:=Array.mem_of_getElem? hie
      simpa using this
     have hrun:=run_entry_at (P:=P) w b mb la sn0 es la e q2 q4.1 hem q4.2.1
     have hrk:R Z w κ kk e.key:=by
      obtain⟨u,hu,hr⟩:=q5.get i kk hkk
      simp only[List.getElem?_map,Array.getElem?_toList,hie,Option.map_some,Option.some.injEq] at hu
      rw[hu];exact hr
     have hrv:R Z w κ vv e.val:=by
      obtain⟨u,hu,hr⟩:=q6.get i vv hvv
      simp only[List.getElem?_map,Array.getElem?_toList,hie,Option.map_some,Option.some.injEq] at hu
      rw[hu];exact hr
     exact⟨_,_,hk,.tuple #[e.key,e.val],w,Z,κ,.inl (by simp[execOp,ho,hc,hrun]),r,.tup (vs:=[e.key,e.val]) (.cons hrk (.cons hrv .nil)),.refl _ _ _,.refl _⟩
    ·exact .inl hk
   ·exact .inl hk
  ·exact .inl hk
 ·rename_i t x lo hi mx ho
  split at hk
  ·rename_i v hv
   right
   have ro:∀x:Option Operand,Ro Z w κ (x.map ρ) (x.map σ):=λx=>by
    cases x with
    |none=>exact .none
    |some x=>exact .some (hρ x)
   obtain⟨u,hu,hr⟩:=Zqn (P:=P) r (hρ x) (ro lo) (ro hi) (ro mx) hv
   exact⟨v,h,hk,u,w,Z,κ,.inl (by simp[execOp,ho,hu]),r,hr,.refl _ _ _,.refl _⟩
  ·exact .inl hk
 ·rename_i t x y ho
  split at hk
  ·rename_i v h' hv
   right
   obtain⟨u,w',κ',hrun,r',hr,ex,st⟩:=Zwh (P:=P) r (hρ x) (hρ y) hv
   exact⟨v,h',hk,u,w',Z,κ',.inl (by simp[execOp,ho,hrun]),r',hr,ex,st⟩
  ·exact .inl hk
 ·rename_i src dst x ho
  split at hk
  ·rename_i v h' hv
   right
   obtain⟨u,w',κ',hrun,r',hr,ex,st⟩:=ZsV (P:=P) r (hρ x) hv
   exact⟨v,h',hk,u,w',Z,κ',.inl (by simp[execOp,ho,hrun]),r',hr,ex,st⟩
  ·exact .inl hk
 ·exact .inl hk
end Go.Cx
