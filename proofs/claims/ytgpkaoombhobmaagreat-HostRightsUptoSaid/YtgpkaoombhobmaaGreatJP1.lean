import Derived.Lib.Bytealg
import Derived.Test.YtgpkaoombhobmaaGreatJBe
import Derived.Lib.SlicesCompact
set_option linter.unusedVariables false
set_option linter.unusedSimpArgs false
namespace Go.Cx
def hi (c:UInt8):Bool:=decide (128<=c.toNat)
end Go.Cx
set_option linter.unusedVariables false
set_option linter.unusedSimpArgs false
namespace Go.Cx
def nameOk (s:ByteArray):Bool:=decide (1<=s.size)&&decide (s.size<=32)&& !decide (s=T [46])&& !decide (s=T [46,46])&& !s.data.toList.contains 47&& !s.data.toList.contains 0
def checkS (s:ByteArray):Int:=if nameOk s then 0 else 10
@[simp] theorem checkS_eq (s:ByteArray):(checkS s=0)=(nameOk s=true):=by
 unfold checkS;cases nameOk s<;>simp
def ZbQ:Option ByteArray->List EntryR->Bool
 |_,[]=>true
 |p,x::l=>nameOk x.name&&decide (1<=x.ino)&&(p.map λq=>Zac q x.name).getD true&&ZbQ (some x.name) l
def prevAt (l:List EntryR) (i:Nat):Option ByteArray:=if i=0 then none else(l[i -1]?).map (·.name)
def Ziu (l:List EntryR):Bool:=decide (l.length<=256)&&ZbQ none l
theorem Zlv (l:List EntryR) (i:Nat) (h:i<l.length):ZbQ (prevAt l i) (l.drop i)=(nameOk l[i].name&&decide (1<=l[i].ino)&&((prevAt l i).map λq=>Zac q l[i].name).getD true&&ZbQ (prevAt l (i+1)) (l.drop (i+1))):=by
 have e:prevAt l (i+1)=some l[i].name:=by simp[prevAt,h]
 rw[List.drop_eq_getElem_cons h,ZbQ,e]
theorem ZiT (l:List EntryR) (i:Nat) (h:l.length<=i):ZbQ (prevAt l i) (l.drop i)=true:=by
 rw[List.drop_eq_nil_of_le h,ZbQ]
theorem Zgr (l:List UInt8) (c:UInt8):(0<=Lib.indexByte l c)=(l.contains c=true):=by
 apply propext
 induction l with
 |nil=>simp[Lib.indexByte]
 |cons b l ih=>
  have h:=Lib.indexByte_ge l c
  unfold Lib.indexByte
  rw[List.contains_cons]
  by_cases hb:b=c
  ·subst hb;simp
  ·have hb':(b==c)=false:=by simpa using hb
   have hc':(c==b)=false:=by simpa using λe:c=b=>hb e.symm
   rw[hb',hc',Bool.false_or,<-ih]
   simp only[Bool.false_eq_true,if_false]
   by_cases h1:Lib.indexByte l c= -1
   ·rw[h1];decide
   ·have:(Lib.indexByte l c== -1)=false:=by simpa using h1
    rw[this]
    simp only[Bool.false_eq_true,if_false]
    omega
theorem Znh (l:List UInt8) (c:UInt8):l.contains c=true↔∃i,∃h:i<l.length,l[i]=c:=by
 simp[List.contains_iff_mem,List.mem_iff_getElem]
theorem Zki {s:ByteArray} (h:nameOk s=true):(1<=s.size/\s.size<=32)/\¬s=T [46]/\¬s=T [46,46]/\¬s= .empty/\s.data.toList.contains 47=false/\s.data.toList.contains 0=false:=by
 simp only[nameOk,Bool.and_eq_true,decide_eq_true_eq,Bool.not_eq_true',decide_eq_false_iff_not] at h
 obtain⟨⟨⟨⟨⟨h1,h2⟩,h3⟩,h4⟩,h5⟩,h6⟩:=h
 refine⟨⟨h1,h2⟩,h3,h4,?_,h5,h6⟩
 rintro rfl
 simp at h1
theorem name_no {s:ByteArray} (h:nameOk s=false):s= .empty\/32<s.size\/s=T [46]\/s=T [46,46]\/s.data.toList.contains 47=true\/s.data.toList.contains 0=true:=by
 by_cases h0:s.size=0
 ·left;exact ByteArray.ext (Array.eq_empty_of_size_eq_zero h0)
 right
 by_cases h1:32<s.size
 ·exact .inl h1
 right
 by_cases h2:s=T [46]
 ·exact .inl h2
 right
 by_cases h3:s=T [46,46]
 ·exact .inl h3
 right
 by_cases h4:s.data.toList.contains 47=true
 ·exact .inl h4
 right
 false_or_by_contra
 rename_i h5
 have:nameOk s=true:=by
  have h4':s.data.toList.contains 47=false:=by cases h:s.data.toList.contains 47<;>simp_all
  have h5':s.data.toList.contains 0=false:=by cases h:s.data.toList.contains 0<;>simp_all
  simp only[nameOk,h4',h5',decide_eq_true (show 1<=s.size by omega),decide_eq_true (show s.size<=32 by omega),decide_eq_false h2,decide_eq_false h3]
  rfl
 rw[this] at h
 cases h
theorem ZiU (s:ByteArray) (i:Nat) (h:i<s.size):Zev s i=(s.data.toList[i]'(by simpa using h)).toNat:=by
 have hl:i<s.data.toList.length:=by simpa using h
 unfold Zev
 rw[List.getD_eq_getElem?_getD,List.getElem?_eq_getElem hl];rfl
theorem lt_step {p:Nat->Prop} {i:Nat} (h:∀j,j<i->p j) (hi:p i):∀j,j<i+1->p j:=by
 intro j hj
 rcases Nat.lt_or_ge j i with h1|h1
 ·exact h j h1
 ·have:j=i:=by omega
  subst this;exact hi
theorem ZbS (s:ByteArray) (c:UInt8):s.data.toList.contains c=true↔∃i,i<s.size/\Zev s i=c.toNat:=by
 rw[Znh]
 constructor
 ·rintro⟨i,h,e⟩
  have h':i<s.size:=by simpa using h
  exact⟨i,h',by rw[ZiU s i h',e]⟩
 ·rintro⟨i,h,e⟩
  rw[ZiU s i h] at e
  exact⟨i,by simpa using h,UInt8.toNat_inj.1 e⟩
end Go.Cx
set_option linter.unusedVariables false
set_option linter.unusedSimpArgs false
namespace Go.Cx
abbrev bs (b:ByteArray):List UInt8:=b.data.toList
@[simp] theorem T_bs (b:ByteArray):T (bs b)=b:=by cases b;simp[T]
@[simp] theorem T_toList (b:ByteArray):T b.data.toList=b:=T_bs b
@[simp] theorem bs_T (l:List UInt8):bs (T l)=l:=by simp[T,bs]
@[simp] theorem len_bs (b:ByteArray):(bs b).length=b.size:=by simp[bs]
def EntryR.vals (c:EntryR):List Value:=[.string c.name,.int .i64 c.ino]
abbrev entK:List TypeDesc:=[.string,.int .i64]
theorem EntryR.kinds (c:EntryR):Zcc entK c.vals:= .cons rfl (.cons rfl .nil)
theorem EntryR.vals_eq (a b:EntryR):a.vals=b.vals↔a=b:=by
 cases a;cases b;simp[EntryR.vals]
section
variable {P:Program} {t:TypeId} (ox oy:Operand)
@[simp] theorem ent_neq (ht:Zir P t=some entK) (hg:tagg P t=some true) (a b:EntryR):abin P .neq t ox oy (.agg a.enc) (.agg b.enc)=some (.val (.bool (!decide (a=b)))):=by
 have:=(ZmQ ht hg a.kinds b.kinds ox oy).2
 have e:decide (a.vals=b.vals)=decide (a=b):=by rw[decide_eq_decide];exact EntryR.vals_eq a b
 rw[e] at this;exact this
end
abbrev encN (n:NodeR):AV:= .agg n.enc
def nodeOk (n:NodeR):Bool:=decide (1<=n.ino)&&decide (1<=n.kind)&&decide (n.kind<=3)&&decide (0<=n.links)&&decide (n.links<=64)&&decide (n.text.size<=4096)&&Ziu n.l&&(decide (n.kind≠2)||decide (n.text=T []))&&(decide (n.kind=2)||decide (n.l.length=0))
def sizeS (n:NodeR):Int:=if n.kind=2 then n.l.length else n.text.size
structure NOk (n:NodeR):Prop where
 ino:1<=n.ino
 k1:1<=n.kind
 k3:n.kind<=3
 l0:0<=n.links
 l64:n.links<=64
 size:n.text.size<=4096
 row:Ziu n.l=true
 dir:n.kind=2->n.text=T []
 els:n.kind≠2->n.l.length=0
theorem Zs (n:NodeR):nodeOk n=true↔NOk n:=by
 simp only[nodeOk,Bool.and_eq_true,Bool.or_eq_true,decide_eq_true_eq]
 constructor
 ·rintro⟨⟨⟨⟨⟨⟨⟨⟨h1,h2⟩,h3⟩,h4⟩,h5⟩,h6⟩,h7⟩,h8⟩,h9⟩
  exact⟨h1,h2,h3,h4,h5,h6,h7,λh=>h8.resolve_left (λh'=>h' h),λh=>h9.resolve_left h⟩
 ·rintro⟨h1,h2,h3,h4,h5,h6,h7,h8,h9⟩
  refine⟨⟨⟨⟨⟨⟨⟨⟨h1,h2⟩,h3⟩,h4⟩,h5⟩,h6⟩,h7⟩,?_⟩,?_⟩
  ·by_cases h:n.kind=2
   ·exact .inr (h8 h)
   ·exact .inl h
  ·by_cases h:n.kind=2
   ·exact .inl h
   ·exact .inr (h9 h)
end Go.Cx
set_option linter.unusedVariables false
set_option linter.unusedSimpArgs false
namespace Go.Cx
end Go.Cx
set_option linter.unusedVariables false
set_option linter.unusedSimpArgs false
namespace Go.Cx
def bsGo (f:Nat->Int) (key:Int) (i j:Nat):Nat:=
 if h:i<j then if f ((i+j)/2)<key then bsGo f key ((i+j)/2+1) j else bsGo f key i ((i+j)/2) else i
termination_by j -i
decreasing_by all_goals omega
theorem Zdv {f:Nat->Int} {key:Int} {i j:Nat} (h:i<j):bsGo f key i j=if f ((i+j)/2)<key then bsGo f key ((i+j)/2+1) j else bsGo f key i ((i+j)/2):=by
 rw[bsGo,dif_pos h]
theorem Zdw {f:Nat->Int} {key:Int} {i j:Nat} (h:¬i<j):bsGo f key i j=i:=by rw[bsGo,dif_neg h]
theorem Zlw {f:Nat->Int} {key:Int} {n:Nat} (hf:∀a b,a<b->b<n->f a<=f b):∀(d i j:Nat),j -i=d->i<=j->j<=n->(∀m,m<i->f m<key)->(∀m,j<=m->m<n->key<=f m)->
  i<=bsGo f key i j/\bsGo f key i j<=j/\(∀m,m<bsGo f key i j->f m<key)/\(∀m,bsGo f key i j<=m->m<n->key<=f m):=by
 intro d
 induction d using Nat.strongRecOn with
 |_ d ih=>
  intro i j hd hij hjn h1 h2
  by_cases h:i<j
  ·rw[Zdv h]
   have hm1:i<=(i+j)/2:=by omega
   have hm2:(i+j)/2<j:=by omega
   split
   ·rename_i hc
    obtain⟨q1,q2,q3,q4⟩:=ih (j -((i+j)/2+1)) (by omega) ((i+j)/2+1) j rfl (by omega) hjn (λm hm=>by
     rcases Nat.lt_or_ge m ((i+j)/2) with hh|hh
     ·exact Int.lt_of_le_of_lt (hf m _ hh (by omega)) hc
     ·have:m=(i+j)/2:=by omega
      rw[this];exact hc) h2
    exact⟨by omega,q2,q3,q4⟩
   ·rename_i hc
    obtain⟨q1,q2,q3,q4⟩:=ih ((i+j)/2 -i) (by omega) i ((i+j)/2) rfl hm1 (by omega) h1 (λm hm hmn=>by
     rcases Nat.lt_or_ge ((i+j)/2) m with hh|hh
     ·exact Int.le_trans (by omega) (hf _ m hh hmn)
     ·have:m=(i+j)/2:=by omega
      rw[this];omega)
    exact⟨q1,by omega,q3,q4⟩
  ·rw[Zdw h]
   have:i=j:=by omega
   subst this
   exact⟨Nat.le_refl _,Nat.le_refl _,h1,h2⟩
section
variable {α:Type} (key:α->Int)
def Zo:List α->Bool
 |[]=>true
 |[_]=>true
 |a::b::l=>decide (key a<key b)&&Zo (b::l)
def placeS (l:List α) (k:Int):Nat:=(l.takeWhile λx=>decide (key x<k)).length
def Zak (l:List α) (k:Int):Option α:=l.find? λx=>decide (key x=k)
def putS (l:List α) (x:α):List α:=(l.takeWhile λy=>decide (key y<key x))++x::(l.dropWhile λy=>decide (key y<=key x))
def outS (l:List α) (k:Int):List α:=l.filter λx=> !decide (key x=k)
theorem ZbU {a:α} {l:List α} (h:Zo key (a::l)=true):Zo key l=true/\∀x∈l,key a<key x:=by
 induction l generalizing a with
 |nil=>exact⟨rfl,by simp⟩
 |cons b l ih=>
  simp only[Zo,Bool.and_eq_true,decide_eq_true_eq] at h
  refine⟨h.2,λx hx=> ?_⟩
  rcases List.mem_cons.1 hx with rfl|hx
  ·exact h.1
  ·have:=(ih h.2).2 x hx;omega
theorem ZJ {l:List α} (h:Zo key l=true):∀(i j:Nat) (hi:i<l.length) (hj:j<l.length),i<j->key l[i]<key l[j]:=by
 induction l with
 |nil=>intro i j hi;simp at hi
 |cons a l ih=>
  intro i j hi hj hij
  obtain⟨h1,h2⟩:=ZbU key h
  cases j with
  |zero=>omega
  |succ j=>
   cases i with
   |zero=>simpa using h2 _ (List.getElem_mem (by simpa using hj))
   |succ i=>simpa using ih h1 i j (by simpa using hi) (by simpa using hj) (by omega)
theorem Zlx (p:α->Bool):∀(l:List α) (h:(l.takeWhile p).length<l.length),p (l[(l.takeWhile p).length])=false
 |[],h=>by simp at h
 |a::l,h=>by
  cases hp:p a with
  |false=>simp[List.takeWhile_cons,hp]
  |true=>
   simp only[List.takeWhile_cons,hp,if_true,List.length_cons] at h⊢
   simpa using Zlx p l (by omega)
theorem ZcI (l:List α) (k:Int):placeS key l k<=l.length:=(List.takeWhile_sublist _).length_le
theorem Zfn (l:List α) (k:Int) (i:Nat) (h:i<placeS key l k) (hi:i<l.length):key l[i]<k:=by
 have h2:i<(l.takeWhile λx=>decide (key x<k)).length:=h
 have:=List.all_eq_true.1 (List.all_takeWhile (p:=λx=>decide (key x<k)) (l:=l)) _ (List.getElem_mem h2)
 rw[List.IsPrefix.getElem (List.takeWhile_prefix _) h2] at this
 simpa using this
theorem ZcJ {l:List α} (hr:Zo key l=true) (k:Int) (i:Nat) (h:placeS key l k<=i) (hi:i<l.length):k<=key l[i]:=by
 have hp:placeS key l k<l.length:=by omega
 have h1:k<=key l[placeS key l k]:=by
  have:=Zlx (λx=>decide (key x<k)) l hp
  rw[decide_eq_false_iff_not] at this
  exact Int.not_lt.1 this
 rcases Nat.lt_or_ge (placeS key l k) i with h2|h2
 ·have:=ZJ key hr _ i hp hi h2
  omega
 ·have:i=placeS key l k:=by omega
  subst this;exact h1
theorem Zfo {l:List α} (hr:Zo key l=true) {f:Nat->Int} (hf:∀i (hi:i<l.length),f i=key l[i]) (k:Int):bsGo f k 0 l.length=placeS key l k:=by
 obtain⟨_,q2,q3,q4⟩:=Zlw (f:=f) (key:=k) (n:=l.length) (λa b hab hb=>by
  rw[hf a (by omega),hf b hb]
  exact Int.le_of_lt (ZJ key hr a b (by omega) hb hab)) l.length 0 l.length (by omega) (by omega) (Nat.le_refl _) (by omega) (by omega)
 have hle:=ZcI key l k
 rcases Nat.lt_trichotomy (bsGo f k 0 l.length) (placeS key l k) with h|h|h
 ·have h1:=Zfn key l k _ h (by omega)
  have h2:=q4 _ (Nat.le_refl _) (by omega)
  rw[hf _ (by omega)] at h2
  omega
 ·exact h
 ·have h1:=q3 _ h
  rw[hf _ (by omega)] at h1
  have h2:=ZcJ key hr k _ (Nat.le_refl _) (by omega)
  omega
end
section
variable {α:Type}
def Zan (p:α->Bool):Nat->List α->Int
 |_,[]=> -1
 |i,x::l=>if p x then(i:Int) else Zan p (i+1) l
def idxS (p:α->Bool) (l:List α):Int:=Zan p 0 l
theorem Zbi {p:α->Bool} {l:List α} {i:Nat} (h:i<l.length):Zan p i (l.drop i)=if p l[i] then(i:Int) else Zan p (i+1) (l.drop (i+1)):=by
 rw[List.drop_eq_getElem_cons h,Zan]
theorem ZaP {p:α->Bool} {l:List α} {i:Nat} (h:¬i<l.length):Zan p i (l.drop i)= -1:=by
 rw[List.drop_eq_nil_of_le (by omega),Zan]
theorem idxFrom_spec {p:α->Bool}:∀(l:List α) (i:Nat),(Zan p i l= -1/\∀x∈l,p x=false)\/∃j,∃h:j<l.length,Zan p i l=((i+j:Nat):Int)/\p l[j]=true/\∀x∈l.take j,p x=false
 |[],i=> .inl ⟨rfl,by simp⟩
 |x::l,i=>by
  by_cases hp:p x=true
  ·exact .inr ⟨0,by simp,by simp[Zan,hp],by simpa using hp,by simp⟩
  ·rw[Bool.not_eq_true] at hp
   rcases idxFrom_spec (p:=p) l (i+1) with⟨h1,h2⟩|⟨j,h,h1,h2,h3⟩
   ·exact .inl ⟨by simp[Zan,hp,h1],by simpa[hp] using h2⟩
   ·exact .inr ⟨j+1,by simpa using h,by rw[Zan,if_neg (by simp[hp]),h1];congr 1;omega,by simpa using h2,by simpa[hp] using h3⟩
theorem ZcK {p:α->Bool} {l:List α} (h:idxS p l= -1):l.filter (λx=> !p x)=l/\∀x∈l,p x=false:=by
 rcases idxFrom_spec (p:=p) l 0 with⟨_,h2⟩|⟨j,hj,h1,_⟩
 ·exact⟨List.filter_eq_self.2 λx hx=>by simp[h2 x hx],h2⟩
 ·unfold idxS at h;rw[h1] at h;omega
theorem ZcL {p:α->Bool} {l:List α} (h:¬idxS p l= -1):∃j,∃hj:j<l.length,idxS p l=(j:Int)/\p l[j]=true/\l.take j=(l.take (j+1)).filter (λx=> !p x):=by
 rcases idxFrom_spec (p:=p) l 0 with⟨h1,_⟩|⟨j,hj,h1,h2,h3⟩
 ·exact absurd h1 h
 ·refine⟨j,hj,by unfold idxS;rw[h1];congr 1;omega,h2,?_⟩
  rw[List.take_succ_eq_append_getElem hj,List.filter_append,List.filter_eq_self.2 λx hx=>by simp[h3 x hx]]
  simp[h2]
structure Zer (p:α->Bool) (l m:List α) (i j:Nat):Prop where
 len:m.length=l.length
 lt:i<j
 le:j<=l.length
 front:m.take i=(l.take j).filter (λx=> !p x)
 back:m.drop j=l.drop j
theorem Zer.get {p:α->Bool} {l m:List α} {i j:Nat} (h:Zer p l m i j) (hj:j<l.length):m[j]'(by rw[h.len];exact hj)=l[j]:=by
 have:=congrArg (·[0]?) h.back
 simp only[List.getElem?_drop,Nat.add_zero] at this
 rw[List.getElem?_eq_getElem (by rw[h.len];exact hj),List.getElem?_eq_getElem hj] at this
 injection this
theorem Zer.skip {p:α->Bool} {l m:List α} {i j:Nat} (h:Zer p l m i j) (hj:j<l.length) (hp:p l[j]=true):Zer p l m i (j+1):=by
 refine⟨h.len,by have:=h.lt;omega,hj,?_,?_⟩
 ·rw[h.front,List.take_succ_eq_append_getElem hj,List.filter_append];simp[hp]
 ·have:=congrArg (List.drop 1) h.back
  simpa[List.drop_drop] using this
theorem Zer.keep {p:α->Bool} {l m:List α} {i j:Nat} (h:Zer p l m i j) (hj:j<l.length) (hp:p l[j]=false):Zer p l (m.set i l[j]) (i+1) (j+1):=by
 have hi:=h.lt
 refine⟨by simp[h.len],by omega,hj,?_,?_⟩
 ·rw[List.take_succ_eq_append_getElem (by simp[h.len];omega),List.take_set_of_le (Nat.le_refl _),h.front,List.take_succ_eq_append_getElem hj,List.filter_append];simp[hp]
 ·rw[List.drop_set_of_lt (by omega)]
  have:=congrArg (List.drop 1) h.back
  simpa[List.drop_drop] using this
theorem Zer.done {p:α->Bool} {l m:List α} {i j:Nat} (h:Zer p l m i j) (hj:¬j<l.length):m.take i=l.filter (λx=> !p x)/\i=(l.filter (λx=> !p x)).length/\i<=l.length:=by
 have h1:=h.front
 have hl:=h.le
 have hi:=h.lt
 have h2:l.take j=l:=List.take_of_length_le (by omega)
 rw[h2] at h1
 refine⟨h1,?_,by omega⟩
 rw[<-h1,List.length_take,h.len];omega
theorem Zer.start {p:α->Bool} {l:List α} {j:Nat} (hj:j<l.length) (hp:p l[j]=true) (ht:l.take j=(l.take (j+1)).filter (λx=> !p x)):Zer p l l j (j+1):=⟨rfl,by omega,hj,ht,rfl⟩
end
end Go.Cx
namespace Go.Cx
def ZaY (next:Int):Option Int->List NodeR->Bool
 |_,[]=>true
 |p,x::l=>nodeOk x&&decide (x.ino<next)&&(p.map λq=>decide (q<x.ino)).getD true&&ZaY next (some x.ino) l
def prevIno (l:List NodeR) (i:Nat):Option Int:=if i=0 then none else(l[i -1]?).map (·.ino)
def Zcd (f:FSR):Bool:=ZaY f.next none f.l&&decide (f.l.length<=256)&&decide (1<=f.next)
theorem ZiV (next:Int) (l:List NodeR) (i:Nat) (h:i<l.length):ZaY next (prevIno l i) (l.drop i)=(nodeOk l[i]&&decide (l[i].ino<next)&&((prevIno l i).map λq=>decide (q<l[i].ino)).getD true&&ZaY next (prevIno l (i+1)) (l.drop (i+1))):=by
 have e:prevIno l (i+1)=some l[i].ino:=by simp[prevIno,h]
 rw[List.drop_eq_getElem_cons h,ZaY,e]
theorem Zht (next:Int) (l:List NodeR) (i:Nat) (h:l.length<=i):ZaY next (prevIno l i) (l.drop i)=true:=by
 rw[List.drop_eq_nil_of_le h,ZaY]
theorem ZcV {next:Int} {l:List NodeR} {p:Option Int} (h:ZaY next p l=true):Zo NodeR.ino l=true/\∀x∈l,nodeOk x=true/\x.ino<next:=by
 induction l generalizing p with
 |nil=>exact⟨rfl,by simp⟩
 |cons a l ih=>
  simp only[ZaY,Bool.and_eq_true,decide_eq_true_eq] at h
  obtain⟨h1,h2⟩:=ih h.2
  refine⟨?_,λx hx=> ?_⟩
  ·cases l with
   |nil=>rfl
   |cons b l=>
    simp only[Zo,Bool.and_eq_true,decide_eq_true_eq]
    have:=h.2
    simp only[ZaY,Option.map_some,Option.getD_some,Bool.and_eq_true,decide_eq_true_eq] at this
    exact⟨this.1.2,h1⟩
  ·rcases List.mem_cons.1 hx with rfl|hx
   ·exact h.1.1
   ·exact h2 x hx
def ZcW:Int->List NodeR->Bool
 |n,[]=>decide (n<=200)
 |n,x::l=>if n<=200 then(if 5000<x.text.size then false else ZcW (IntKind.i64.wrap (n+x.l.length)) l) else false
def fewS (f:FSR):Bool:=ZcW f.l.length f.l
theorem ZqZ {l:List NodeR} {n:Int} {i:Nat} (h:i<l.length):ZcW n (l.drop i)=if n<=200 then(if 5000<l[i].text.size then false else ZcW (IntKind.i64.wrap (n+l[i].l.length)) (l.drop (i+1))) else false:=by
 rw[List.drop_eq_getElem_cons h,ZcW]
theorem Zni {l:List NodeR} {n:Int} {i:Nat} (h:¬i<l.length):ZcW n (l.drop i)=decide (n<=200):=by
 rw[List.drop_eq_nil_of_le (by omega),ZcW]
def newF:FSR:=⟨[⟨1,2,0,.empty,[]⟩],2⟩
abbrev Zcm (l:List NodeR) (i:Nat):Int:=(l.getD i .zero).ino
abbrev plc (l:List NodeR) (k:Int):Nat:=bsGo (Zcm l) k 0 l.length
def findB (l:List NodeR) (k:Int):NodeR×Bool:=if plc l k<l.length/\Zcm l (plc l k)=k then(l.getD (plc l k) .zero,true) else(.zero,false)
def outF (f:FSR) (k:Int):FSR:=⟨outS NodeR.ino f.l k,f.next⟩
def putB (f:FSR) (n:NodeR):FSR:=⟨if plc f.l n.ino<f.l.length/\Zcm f.l (plc f.l n.ino)=n.ino then f.l.set (plc f.l n.ino) n else insL f.l (plc f.l n.ino) n,max f.next (n.ino+1)⟩
theorem bsGo_le (f:Nat->Int) (k:Int):∀(d i j:Nat),j -i=d->i<=j->bsGo f k i j<=j:=by
 intro d
 induction d using Nat.strongRecOn with
 |_ d ih=>
  intro i j hd hij
  by_cases h:i<j
  ·rw[Zdv h]
   split
   ·exact ih (j -((i+j)/2+1)) (by omega) _ _ rfl (by omega)
   ·exact Nat.le_trans (ih ((i+j)/2 -i) (by omega) _ _ rfl (by omega)) (by omega)
  ·rw[Zdw h];exact hij
theorem plc_le (l:List NodeR) (k:Int):plc l k<=l.length:=bsGo_le _ _ _ _ _ rfl (Nat.zero_le _)
end Go.Cx
set_option linter.unusedVariables false
set_option linter.unusedSimpArgs false
namespace Go.Cx
abbrev MI:=List (Int×Int)
def incM (m:MI) (k:Int):MI:=setM m k (getM m k+1)
def Zcz (kids:Int->List Int):Nat->Int->MI->MI
 |0,_,m=>m
 |f+1,ino,m=>(kids ino).foldl (λm k=>if getM m k=0 then Zcz kids f k (incM m k) else incM m k) m
def Zx (kids:Int->List Int) (f:Nat) (m:MI) (k:Int):MI:=if getM m k=0 then Zcz kids f k (incM m k) else incM m k
theorem ZdW (kids:Int->List Int) (f:Nat) (ino:Int) (m:MI):Zcz kids (f+1) ino m=(kids ino).foldl (Zx kids f) m:=rfl
structure MOk (m:MI) (c:Nat):Prop where
 pos:∀k,hasM m k=true->1<=getM m k
 le:∀k,getM m k<=c
theorem Zfp {m:MI} {k:Int} (h:hasM m k=false):getM m k=0:=by
 rcases findIdx_spec m k with⟨_,_,h3⟩|⟨j,v,_,_,h3,_⟩
 ·exact h3
 ·rw[h] at h3;cases h3
theorem MOk.zero {m:MI} {c:Nat} (h:MOk m c) (k:Int):getM m k=0↔hasM m k=false:=by
 refine⟨λh0=> ?_,Zfp⟩
 cases hh:hasM m k with
 |false=>rfl
 |true=>have:=h.pos k hh;omega
theorem MOk.nonneg {m:MI} {c:Nat} (h:MOk m c) (k:Int):0<=getM m k:=by
 cases hh:hasM m k with
 |false=>rw[Zfp hh];omega
 |true=>have:=h.pos k hh;omega
theorem MOk.inc {m:MI} {c:Nat} (h:MOk m c) (k:Int):MOk (incM m k) (c+1):=by
 have h0:=h.nonneg k
 have h1:=h.le k
 refine⟨λq hq=> ?_,λq=> ?_⟩
 ·unfold incM at*
  rw[ZdS]
  rw[ZoQ] at hq
  split
  ·omega
  ·rename_i hn
   simp only[hn,decide_false,Bool.false_or] at hq
   exact h.pos q hq
 ·unfold incM
  rw[ZdS]
  split
  ·omega
  ·have:=h.le q;omega
theorem MOk.nil:MOk [] 0:=⟨λk h=>by simp[hasM] at h,λk=>by simp[getM]⟩
theorem ZcX (m:MI) (k q:Int):hasM (incM m k) q=(decide (q=k)||hasM m q):=ZoQ _ _ _ _
def Zbj (U:List Int) (m:MI):Nat:=(U.filter λk=> !hasM m k).length
theorem Zhu {α:Type} {p q:α->Bool} (h:∀x,q x=true->p x=true):∀l:List α,(l.filter q).length<=(l.filter p).length
 |[]=>Nat.le_refl _
 |x::l=>by
  have ih:=Zhu h l
  by_cases hq:q x=true
  ·simp[List.filter_cons,hq,h x hq,ih]
  ·by_cases hp:p x=true
   ·simp[List.filter_cons,hq,hp];omega
   ·simp[List.filter_cons,hq,hp,ih]
theorem Zly {α:Type} {p q:α->Bool} (h:∀x,q x=true->p x=true) {a:α} (hp:p a=true) (hq:q a=false):∀l:List α,a∈l->(l.filter q).length<(l.filter p).length
 |[],ha=>by simp at ha
 |x::l,ha=>by
  rcases List.mem_cons.1 ha with rfl|ha
  ·have:=Zhu h l
   simp[List.filter_cons,hp,hq];omega
  ·have ih:=Zly h hp hq l ha
   by_cases hqx:q x=true
   ·simp[List.filter_cons,hqx,h x hqx,ih]
   ·by_cases hpx:p x=true
    ·simp[List.filter_cons,hqx,hpx];omega
    ·simp[List.filter_cons,hqx,hpx,ih]
theorem Zce {U:List Int} {m m':MI} (h:∀k,hasM m k=true->hasM m' k=true):Zbj U m'<=Zbj U m:=
 Zhu (λx hx=>by
  cases hm:hasM m x with
  |false=>rfl
  |true=>rw[h x hm] at hx;exact hx) U
theorem ZdX {U:List Int} {m:MI} {k:Int} (hk:k∈U) (h0:hasM m k=false):Zbj U (incM m k)+1<=Zbj U m:=by
 refine Zly (λx hx=> ?_) (a:=k) (by simp[h0]) (by simp[ZcX]) U hk
 cases hm:hasM m x with
 |false=>rfl
 |true=>rw[ZcX,hm] at hx;simp at hx
theorem ZcA (m:MI) (k:Int):∀q,hasM m q=true->hasM (incM m k) q=true:=λq h=>by rw[ZcX,h];simp
inductive Reach (kids:Int->List Int) (top:Int):Int->Prop
 |one {k:Int}:k∈kids top->Reach kids top k
 |step {j k:Int}:Reach kids top j->k∈kids j->Reach kids top k
theorem Reach.trans {kids:Int->List Int} {a b c:Int} (h:Reach kids a b) (k:Reach kids b c):Reach kids a c:=by
 induction k with
 |one hk=>exact .step h hk
 |step _ hk ih=>exact .step ih hk
section
variable {kids:Int->List Int} {U:List Int} (hU:∀i,∀k∈kids i,k∈U) (hW:∀i,(kids i).length<=256)
include hU hW
theorem ZbP (f:Nat):∀(ino:Int) (m:MI) (c:Nat),MOk m c->(∀k,hasM m k=true->hasM (Zcz kids f ino m) k=true)/\∃c',MOk (Zcz kids f ino m) c'/\c'+Zbj U (Zcz kids f ino m)*256<=c+(Zbj U m+1)*256:=by
 induction f with
 |zero=>intro ino m c h;exact⟨λk h=>h,c,h,by simp only[Zcz];omega⟩
 |succ f ih=>
  intro ino m c h
  rw[ZdW]
  have key:∀(l:List Int) (m:MI) (c:Nat),(∀k∈l,k∈U)->MOk m c->(∀k,hasM m k=true->hasM (l.foldl (Zx kids f) m) k=true)/\∃c',MOk (l.foldl (Zx kids f) m) c'/\c'+Zbj U (l.foldl (Zx kids f) m)*256<=c+Zbj U m*256+l.length:=by
   intro l
   induction l with
   |nil=>intro m c _ h;exact⟨λk h=>h,c,h,by simp⟩
   |cons k l ihl=>
    intro m c hl h
    have hk:=hl k (by simp)
    have hl':∀k∈l,k∈U:=λq hq=>hl q (by simp[hq])
    simp only[List.foldl_cons,List.length_cons]
    by_cases h0:getM m k=0
    ·have hn:=(h.zero k).1 h0
     obtain⟨s1,c1,o1,b1⟩:=ih k (incM m k) (c+1) (h.inc k)
     have hu:=ZdX hk hn
     have e:Zx kids f m k=Zcz kids f k (incM m k):=by rw[Zx,if_pos h0]
     rw[e]
     obtain⟨s2,c2,o2,b2⟩:=ihl _ c1 hl' o1
     exact⟨λq hq=>s2 q (s1 q (ZcA m k q hq)),c2,o2,by omega⟩
    ·have e:Zx kids f m k=incM m k:=by rw[Zx,if_neg h0]
     rw[e]
     obtain⟨s2,c2,o2,b2⟩:=ihl _ (c+1) hl' (h.inc k)
     have hu:=Zce (U:=U) (ZcA m k)
     exact⟨λq hq=>s2 q (ZcA m k q hq),c2,o2,by omega⟩
  obtain⟨s,c',o,b⟩:=key (kids ino) m c (hU ino) h
  have:=hW ino
  exact⟨s,c',o,by omega⟩
theorem Znj (f:Nat) {m:MI} {c:Nat} {k:Int} (hk:k∈U) (h:MOk m c):(∀q,hasM m q=true->hasM (Zx kids f m k) q=true)/\∃c',MOk (Zx kids f m k) c'/\c'+Zbj U (Zx kids f m k)*256<=c+Zbj U m*256+1:=by
 by_cases h0:getM m k=0
 ·have hn:=(h.zero k).1 h0
  obtain⟨s1,c1,o1,b1⟩:=ZbP hU hW f k (incM m k) (c+1) (h.inc k)
  have hu:=ZdX hk hn
  have e:Zx kids f m k=Zcz kids f k (incM m k):=by rw[Zx,if_pos h0]
  rw[e]
  exact⟨λq hq=>s1 q (ZcA m k q hq),c1,o1,by omega⟩
 ·have e:Zx kids f m k=incM m k:=by rw[Zx,if_neg h0]
  rw[e]
  have hu:=Zce (U:=U) (ZcA m k)
  exact⟨ZcA m k,c+1,h.inc k,by omega⟩
omit hU hW in
theorem look_sound (f:Nat):∀(ino:Int) (m:MI) (q:Int),hasM (Zcz kids f ino m) q=true->hasM m q=true\/Reach kids ino q:=by
 induction f with
 |zero=>intro ino m q h;exact .inl h
 |succ f ih=>
  intro ino m q h
  rw[ZdW] at h
  have key:∀(l:List Int) (m:MI),(∀k∈l,k∈kids ino)->hasM (l.foldl (Zx kids f) m) q=true->hasM m q=true\/Reach kids ino q:=by
   intro l
   induction l with
   |nil=>intro m _ h;exact .inl h
   |cons k l ihl=>
    intro m hl h
    have hk:=hl k (by simp)
    rcases ihl _ (λq hq=>hl q (by simp[hq])) h with h1|h1
    ·unfold Zx at h1
     have inc:hasM (incM m k) q=true->hasM m q=true\/Reach kids ino q:=λh2=>by
      rw[ZcX] at h2
      simp only[Bool.or_eq_true,decide_eq_true_eq] at h2
      rcases h2 with rfl|h2
      ·exact .inr (.one hk)
      ·exact .inl h2
     split at h1
     ·rcases ih k _ q h1 with h2|h2
      ·exact inc h2
      ·exact .inr (Reach.trans (.one hk) h2)
     ·exact inc h1
    ·exact .inr h1
  exact key _ m (λk hk=>hk) h
theorem ZtP (f:Nat):∀(ino:Int) (m:MI) (c:Nat),MOk m c->Zbj U m<f->
  (∀k∈kids ino,hasM (Zcz kids f ino m) k=true)/\∀q,hasM (Zcz kids f ino m) q=true->hasM m q=false->∀k∈kids q,hasM (Zcz kids f ino m) k=true:=by
 induction f with
 |zero=>intro ino m c _ h;omega
 |succ f ih=>
  intro ino m c h hf
  rw[ZdW]
  have key:∀(l:List Int) (m:MI) (c:Nat),(∀k∈l,k∈U)->MOk m c->Zbj U m<=f->
    (∀q,hasM m q=true->hasM (l.foldl (Zx kids f) m) q=true)/\(∀k∈l,hasM (l.foldl (Zx kids f) m) k=true)/\∀q,hasM (l.foldl (Zx kids f) m) q=true->hasM m q=false->∀k∈kids q,hasM (l.foldl (Zx kids f) m) k=true:=by
   intro l
   induction l with
   |nil=>intro m c _ _ _;exact⟨λq h=>h,by simp,λq h1 h2=>by rw[List.foldl_nil,h2] at h1;cases h1⟩
   |cons k l ihl=>
    intro m c hl h hu
    have hk:=hl k (by simp)
    have hl':∀k∈l,k∈U:=λq hq=>hl q (by simp[hq])
    simp only[List.foldl_cons]
    by_cases h0:getM m k=0
    ·have hn:=(h.zero k).1 h0
     have hui:=ZdX hk hn
     obtain⟨s1,c1,o1,_⟩:=ZbP hU hW f k (incM m k) (c+1) (h.inc k)
     obtain⟨f1,f2⟩:=ih k (incM m k) (c+1) (h.inc k) (by omega)
     have e:Zx kids f m k=Zcz kids f k (incM m k):=by rw[Zx,if_pos h0]
     rw[e]
     have hum:=Zce (U:=U) s1
     obtain⟨g1,g2,g3⟩:=ihl _ c1 hl' o1 (by omega)
     have hsk:hasM (incM m k) k=true:=by rw[ZcX];simp
     refine⟨λq hq=>g1 q (s1 q (ZcA m k q hq)),λq hq=> ?_,λq hq hm x hx=> ?_⟩
     ·rcases List.mem_cons.1 hq with rfl|hq
      ·exact g1 _ (s1 _ hsk)
      ·exact g2 q hq
     ·cases hl1:hasM (Zcz kids f k (incM m k)) q with
      |false=>exact g3 q hq hl1 x hx
      |true=>
       by_cases hqk:q=k
       ·subst hqk;exact g1 x (f1 x hx)
       ·exact g1 x (f2 q hl1 (by rw[ZcX,hm];simp[hqk]) x hx)
    ·have e:Zx kids f m k=incM m k:=by rw[Zx,if_neg h0]
     rw[e]
     have hum:=Zce (U:=U) (ZcA m k)
     obtain⟨g1,g2,g3⟩:=ihl _ (c+1) hl' (h.inc k) (by omega)
     have hkm:hasM m k=true:=by
      cases hh:hasM m k with
      |true=>rfl
      |false=>exact absurd (Zfp hh) h0
     refine⟨λq hq=>g1 q (ZcA m k q hq),λq hq=> ?_,λq hq hm x hx=> ?_⟩
     ·rcases List.mem_cons.1 hq with rfl|hq
      ·exact g1 _ (ZcA m _ _ hkm)
      ·exact g2 q hq
     ·have hqk:¬q=k:=λe=>by rw[e,hkm] at hm;cases hm
      exact g3 q hq (by rw[ZcX,hm];simp[hqk]) x hx
  obtain⟨_,g2,g3⟩:=key (kids ino) m c (hU ino) h (by omega)
  exact⟨g2,g3⟩
theorem Zra (top q:Int) (f:Nat) (hf:U.length<f):0<getM (Zcz kids f top []) q↔Reach kids top q:=by
 have hu:Zbj U []<f:=Nat.lt_of_le_of_lt (List.length_filter_le _ _) hf
 obtain⟨f1,f2⟩:=ZtP hU hW f top [] 0 .nil hu
 obtain⟨_,c',o,_⟩:=ZbP hU hW f top [] 0 .nil
 have hp:0<getM (Zcz kids f top []) q↔hasM (Zcz kids f top []) q=true:=by
  constructor
  ·intro h
   cases hh:hasM (Zcz kids f top []) q with
   |true=>rfl
   |false=>rw[Zfp hh] at h;omega
  ·intro h;have:=o.pos q h;omega
 rw[hp]
 constructor
 ·intro h
  rcases look_sound f top [] q h with h1|h1
  ·simp[hasM] at h1
  ·exact h1
 ·intro h
  clear hp
  induction h with
  |one hk=>exact f1 _ hk
  |step _ hk ih=>exact f2 _ ih (by simp[hasM]) _ hk
end
def Zv (l:List NodeR) (j:Int):List Int:=(findB l j).1.l.map (·.ino)
def Zn (l:List NodeR):List Int:=l.flatMap λn=>n.l.map (·.ino)
theorem findB_mem (l:List NodeR) (j:Int):(findB l j).1∈l\/(findB l j).1= .zero:=by
 unfold findB
 split
 ·rename_i h
  left
  simp[List.getD_eq_getElem?_getD,h.1]
 ·exact .inr rfl
theorem ZaK (l:List NodeR):∀i,∀k∈Zv l i,k∈Zn l:=by
 intro i k hk
 rcases findB_mem l i with h|h
 ·exact List.mem_flatMap.2 ⟨_,h,hk⟩
 ·unfold Zv at hk;rw[h] at hk;simp[NodeR.zero] at hk
theorem ZeE {l:List NodeR} (hE:∀n∈l,n.l.length<=256):∀i,(Zv l i).length<=256:=by
 intro i
 rcases findB_mem l i with h|h
 ·simpa[Zv] using hE _ h
 ·unfold Zv;rw[h];simp[NodeR.zero]
theorem ZbV {l:List NodeR} (hE:∀n∈l,n.l.length<=256):(Zn l).length<=l.length*256:=by
 induction l with
 |nil=>simp[Zn]
 |cons n l ih=>
  have:=ih λx hx=>hE x (by simp[hx])
  have h1:=hE n (by simp)
  simp only[Zn,List.flatMap_cons,List.length_append,List.length_map,List.length_cons] at*
  omega
def Zdj (l:List NodeR) (top:Int):MI:=Zcz (Zv l) ((Zn l).length+1) top []
def Zcf (l:List EntryR) (m:MI):MI:=l.foldl (λm x=>setM m x.ino (IntKind.i64.wrap (getM m x.ino+1))) m
def countsS (l:List NodeR) (m:MI):MI:=l.foldl (λm n=>Zcf n.l m) m
def ZcY (names below:MI) (n:NodeR):Bool:=decide (n.links=getM names n.ino)&& !(decide (1<n.ino)&&(decide (n.links<1)||decide (n.kind=2)&&(decide (n.links≠1)||decide (getM below n.ino=0))))
def Zhv:List NodeR->Bool
 |[]=>false
 |r::_=>decide (r.ino=1)&&decide (r.kind=2)&&decide (r.links=0)
@[simp] theorem headF_nil:Zhv []=false:=rfl
@[simp] theorem ZfU (r:NodeR) (l:List NodeR):Zhv (r::l)=(decide (r.ino=1)&&decide (r.kind=2)&&decide (r.links=0)):=rfl
def rightF (f:FSR):Bool:=Zcd f&&Zhv f.l&&(countsS f.l []).all (λp=>(findB f.l p.1).2)&&f.l.all (ZcY (countsS f.l []) (Zdj f.l 1))
theorem Zlz {f:FSR} (h:Zcd f=true):f.l.length<=256/\(∀n∈f.l,n.l.length<=256)/\∀n∈f.l,nodeOk n=true:=by
 simp only[Zcd,Bool.and_eq_true,decide_eq_true_eq] at h
 obtain⟨_,h2⟩:=ZcV h.1.1
 refine⟨h.1.2,λn hn=> ?_,λn hn=>(h2 n hn).1⟩
 have:=(h2 n hn).1
 simp only[nodeOk,Ziu,Bool.and_eq_true,decide_eq_true_eq] at this
 exact this.1.1.2.1
end Go.Cx
set_option linter.unusedVariables false
set_option linter.unusedSimpArgs false
namespace Go.Cx
theorem ZlA {l:List NodeR} (h:Zo NodeR.ino l=true) (k:Int):plc l k=placeS NodeR.ino l k:=Zfo NodeR.ino h (λi hi=>by simp[Zcm,List.getD_eq_getElem?_getD,hi]) k
theorem findB_of {l:List NodeR} (h:Zo NodeR.ino l=true) {n:NodeR} (hn:n∈l):findB l n.ino=(n,true):=by
 obtain⟨i,hi,rfl⟩:=List.getElem_of_mem hn
 have hp:plc l l[i].ino=i:=by
  rw[ZlA h]
  have h1:placeS NodeR.ino l l[i].ino<=i:=by
   rcases Nat.lt_or_ge i (placeS NodeR.ino l l[i].ino) with h2|h2
   ·have:=Zfn NodeR.ino l l[i].ino i h2 hi;omega
   ·exact h2
  rcases Nat.lt_or_ge (placeS NodeR.ino l l[i].ino) i with h2|h2
  ·have h3:=ZcJ NodeR.ino h l[i].ino _ (Nat.le_refl _) (by omega)
   have h4:=ZJ NodeR.ino h _ _ (by omega) hi h2
   omega
  ·omega
 unfold findB
 rw[hp]
 simp[Zcm,List.getD_eq_getElem?_getD,hi]
theorem Zm {l:List NodeR} {k:Int} (h:(findB l k).2=true):(findB l k).1∈l/\(findB l k).1.ino=k:=by
 unfold findB at*
 split
 ·rename_i hc
  refine⟨by simp[List.getD_eq_getElem?_getD,hc.1],hc.2⟩
 ·rename_i hc;rw[if_neg hc] at h;cases h
theorem ZaB {l:List NodeR} {k:Int} (h:(findB l k).2=false):(findB l k).1= .zero:=by
 unfold findB at*
 split
 ·rename_i hc;rw[if_pos hc] at h;cases h
 ·rfl
theorem ZbW {l:List NodeR} {k:Int} (h:∀n∈l,n.ino≠k):findB l k=(.zero,false):=by
 cases hf:(findB l k).2 with
 |true=>exact absurd (Zm hf).2 (h _ (Zm hf).1)
 |false=>exact Prod.ext (ZaB hf) hf
theorem Zhw {l:List NodeR} {j k:Int} (h:k∈Zv l j):∃n∈l,n.ino=j/\k∈n.l.map (·.ino):=by
 cases hf:(findB l j).2 with
 |true=>exact⟨_,(Zm hf).1,(Zm hf).2,h⟩
 |false=>unfold Zv at h;rw[ZaB hf] at h;simp[NodeR.zero] at h
theorem ZlB:∀(es:List EntryR) (m:MI) (c:Nat),MOk m c->c+es.length<=1099511627776->MOk (Zcf es m) (c+es.length)/\∀k,getM (Zcf es m) k=getM m k+(es.map (·.ino)).count k
 |[],m,c,h,_=>⟨by simpa[Zcf] using h,by simp[Zcf]⟩
 |x::es,m,c,h,hc=>by
  simp only[List.length_cons] at hc
  have h0:=h.nonneg x.ino
  have h1:=h.le x.ino
  have hw:IntKind.i64.wrap (getM m x.ino+1)=getM m x.ino+1:=by rw[IntKind.wrap_i64];omega
  have e:Zcf (x::es) m=Zcf es (incM m x.ino):=by
   show Zcf es (setM m x.ino (IntKind.i64.wrap (getM m x.ino+1)))=_
   rw[hw];rfl
  rw[e]
  obtain⟨g1,g2⟩:=ZlB es (incM m x.ino) (c+1) (h.inc _) (by omega)
  refine⟨by rw[List.length_cons,Nat.add_comm es.length,<-Nat.add_assoc];exact g1,λk=> ?_⟩
  rw[g2,incM,ZdS,List.map_cons,List.count_cons]
  by_cases hk:k=x.ino
  ·subst hk;simp;omega
  ·have:¬x.ino=k:=λe=>hk e.symm
   simp[hk,this]
theorem ZfV:∀(l:List NodeR) (m:MI) (c:Nat),MOk m c->c+(Zn l).length<=1099511627776->MOk (countsS l m) (c+(Zn l).length)/\∀k,getM (countsS l m) k=getM m k+(Zn l).count k
 |[],m,c,h,_=>⟨by simpa[countsS,Zn] using h,by simp[countsS,Zn]⟩
 |n::l,m,c,h,hc=>by
  have ha:Zn (n::l)=n.l.map (·.ino)++Zn l:=rfl
  rw[ha] at hc⊢
  simp only[List.length_append,List.length_map] at hc⊢
  obtain⟨g1,g2⟩:=ZlB n.l m c h (by omega)
  obtain⟨g3,g4⟩:=ZfV l (Zcf n.l m) (c+n.l.length) g1 (by omega)
  refine⟨by rw[<-Nat.add_assoc];exact g3,λk=> ?_⟩
  have:=g4 k
  have e:countsS (n::l) m=countsS l (Zcf n.l m):=rfl
  rw[e,this,g2,List.count_append];omega
theorem Zpf {l:List NodeR} (hl:l.length<=256) (hE:∀n∈l,n.l.length<=256) (k:Int):getM (countsS l []) k=((Zn l).count k:Nat):=by
 have:=ZbV hE
 rw[(ZfV l [] 0 .nil (by omega)).2 k];simp[getM]
theorem Zkj {l:List NodeR} (hE:∀n∈l,n.l.length<=256) (top q:Int):0<getM (Zdj l top) q↔Reach (Zv l) top q:=
 Zra (ZaK l) (ZeE hE) top q _ (Nat.lt_succ_self _)
theorem ZtQ {l:List NodeR} {top q:Int} (h:Reach (Zv l) top q):q∈Zn l:=by
 cases h with
 |one h=>exact ZaK l _ _ h
 |step _ h=>exact ZaK l _ _ h
theorem ZiW {kids:Int->List Int} {a b:Int} (h:Reach kids a b):∃j,(j=a\/Reach kids a j)/\b∈kids j:=by
 cases h with
 |one h=>exact⟨a,.inl rfl,h⟩
 |step h1 h2=>exact⟨_,.inr h1,h2⟩
theorem Znk {kids:Int->List Int} {a b:Int} (h:Reach kids a b):kids a≠[]:=by
 induction h with
 |one h=>intro e;rw[e] at h;cases h
 |step _ _ ih=>exact ih
theorem Zpg {α:Type} (f:α->List Int) {k:Int}:∀(l:List α) (a b:α),a∈l->b∈l->k∈f a->k∈f b->(l.flatMap f).count k<=1->a=b
 |x::l,a,b,ha,hb,h1,h2,hc=>by
  rw[List.flatMap_cons,List.count_append] at hc
  rcases List.mem_cons.1 ha with rfl|ha'<;>rcases List.mem_cons.1 hb with rfl|hb'
  ·rfl
  ·have e1:=List.count_pos_iff.2 h1
   have e2:=List.count_pos_iff.2 (List.mem_flatMap.2 ⟨b,hb',h2⟩)
   omega
  ·have e1:=List.count_pos_iff.2 h2
   have e2:=List.count_pos_iff.2 (List.mem_flatMap.2 ⟨a,ha',h1⟩)
   omega
  ·exact Zpg f l a b ha' hb' h1 h2 (by omega)
structure ZcM (f:FSR):Prop where
 rise:Zo NodeR.ino f.l=true
 ok:∀n∈f.l,nodeOk n=true
 len:f.l.length<=256
 ent:∀n∈f.l,n.l.length<=256
 root:∃r∈f.l,r.ino=1/\r.kind=2/\r.links=0
 here:∀k∈Zn f.l,∃n∈f.l,n.ino=k
 names:∀n∈f.l,n.links=((Zn f.l).count n.ino:Nat)
 file:∀n∈f.l,1<n.ino->1<=n.links
 dir:∀n∈f.l,1<n.ino->n.kind=2->n.links=1/\Reach (Zv f.l) 1 n.ino
theorem Zxc {f:FSR} (h:rightF f=true):ZcM f:=by
 simp only[rightF,Bool.and_eq_true] at h
 obtain⟨⟨⟨h1,h2⟩,h3⟩,h4⟩:=h
 obtain⟨hl,hE,hok⟩:=Zlz h1
 have h1':=h1
 simp only[Zcd,Bool.and_eq_true,decide_eq_true_eq] at h1'
 obtain⟨hr,_⟩:=ZcV h1'.1.1
 have hnm:=λk=>Zpf hl hE k
 have h4:=List.all_eq_true.1 h4
 have h3:=List.all_eq_true.1 h3
 refine⟨hr,hok,hl,hE,?_,λk hk=> ?_,λn hn=> ?_,λn hn hi=> ?_,λn hn hi hk=> ?_⟩
 ·cases hf:f.l with
  |nil=>rw[hf] at h2;simp at h2
  |cons r l=>
   rw[hf] at h2
   simp only[ZfU,Bool.and_eq_true,decide_eq_true_eq] at h2
   exact⟨r,by simp,h2.1.1,h2.1.2,h2.2⟩
 ·have hp:0<getM (countsS f.l []) k:=by rw[hnm];have:=List.count_pos_iff.2 hk;omega
  rcases findIdx_spec (countsS f.l []) k with⟨_,_,h0⟩|⟨j,v,_,hj,_,_⟩
  ·omega
  ·have:=h3 _ (List.mem_of_getElem? hj)
   exact⟨_,(Zm this).1,(Zm this).2⟩
 ·have:=h4 n hn
  simp only[ZcY,Bool.and_eq_true,decide_eq_true_eq] at this
  rw[this.1,hnm]
 ·have:=h4 n hn
  simp only[ZcY,Bool.and_eq_true,decide_eq_true_eq,Bool.not_eq_true',Bool.and_eq_false_iff,Bool.or_eq_false_iff,decide_eq_false_iff_not] at this
  omega
 ·have:=h4 n hn
  simp only[ZcY,Bool.and_eq_true,decide_eq_true_eq,Bool.not_eq_true',Bool.and_eq_false_iff,Bool.or_eq_false_iff,decide_eq_false_iff_not] at this
  obtain⟨e1,e2⟩:=this
  rcases e2 with e2|⟨e2,e3⟩
  ·exact absurd hi e2
  rcases e3 with e3|⟨e3,e4⟩
  ·exact absurd hk e3
  refine⟨by omega,(Zkj hE 1 n.ino).1 ?_⟩
  obtain⟨_,c',o,_⟩:=ZbP (ZaK f.l) (ZeE hE) ((Zn f.l).length+1) 1 [] 0 .nil
  have:=o.nonneg n.ino
  unfold Zdj at e4⊢
  omega
namespace ZcM
variable {f:FSR} (h:ZcM f)
include h
theorem ino_pos {n:NodeR} (hn:n∈f.l):1<=n.ino:=by
 have:=h.ok n hn
 simp only[nodeOk,Bool.and_eq_true,decide_eq_true_eq] at this
 exact this.1.1.1.1.1.1.1.1
theorem leaf {n:NodeR} (hn:n∈f.l) (hk:n.kind≠2):n.l=[]:=by
 have:=h.ok n hn
 simp only[nodeOk,Bool.and_eq_true,Bool.or_eq_true,decide_eq_true_eq] at this
 exact List.eq_nil_of_length_eq_zero (this.2.resolve_left hk)
theorem no_root:1∉Zn f.l:=by
 intro hm
 obtain⟨r,hr,h1,_,h3⟩:=h.root
 have:=h.names r hr
 rw[h1,h3] at this
 have:=List.count_pos_iff.2 hm
 omega
theorem no_cycle_root (q:Int):¬Reach (Zv f.l) q 1:=λhq=>h.no_root (ZtQ hq)
theorem acyclic {q:Int} (hq:Reach (Zv f.l) 1 q):¬Reach (Zv f.l) q q:=by
 have uniq:∀{j j' q:Int},q∈Zv f.l j->q∈Zv f.l j'->Reach (Zv f.l) q q->j=j':=by
  intro j j' q h1 h2 hc
  obtain⟨k,hk⟩:=List.exists_mem_of_ne_nil _ (Znk hc)
  obtain⟨n,hn,hni,hnk⟩:=Zhw hk
  have hd:n.kind=2:=by
   by_cases hd:n.kind=2
   ·exact hd
   ·rw[h.leaf hn hd] at hnk;simp at hnk
  have hne:n.ino≠1:=λe=>h.no_cycle_root q (by rw[hni] at e;subst e;exact hc)
  have hpos:=h.ino_pos hn
  have hl:=(h.dir n hn (by omega) hd).1
  have hc1:=h.names n hn
  rw[hni] at hc1
  obtain⟨a,ha,ha1,ha2⟩:=Zhw h1
  obtain⟨b,hb,hb1,hb2⟩:=Zhw h2
  have:a=b:=Zpg (λn:NodeR=>n.l.map (·.ino)) f.l a b ha hb ha2 hb2 (by
   have:(Zn f.l).count q<=1:=by omega
   exact this)
  rw[<-ha1,<-hb1,this]
 induction hq with
 |one hk=>
  intro hc
  obtain⟨j,hj,hkj⟩:=ZiW hc
  have e:=uniq hkj hk hc
  subst e
  rcases hj with rfl|hj
  ·exact h.no_cycle_root _ hc
  ·exact h.no_cycle_root _ hj
 |step h1 hk ih=>
  intro hc
  obtain⟨j,hj,hkj⟩:=ZiW hc
  have e:=uniq hkj hk hc
  subst e
  rcases hj with rfl|hj
  ·exact ih hc
  ·exact ih (Reach.trans (.one hk) hj)
end ZcM
end Go.Cx
set_option linter.unusedVariables false
set_option linter.unusedSimpArgs false
namespace Go.Cx
section
variable {α:Type} (key:α->Int)
theorem Zu (l:List α):Zo key l=true↔l.Pairwise (λa b=>key a<key b):=by
 induction l with
 |nil=>simp[Zo]
 |cons a l ih=>
  constructor
  ·intro h
   obtain⟨h1,h2⟩:=ZbU key h
   exact List.pairwise_cons.2 ⟨h2,ih.1 h1⟩
  ·intro h
   obtain⟨h1,h2⟩:=List.pairwise_cons.1 h
   cases l with
   |nil=>rfl
   |cons b l=>
    simp only[Zo,Bool.and_eq_true,decide_eq_true_eq]
    exact⟨h1 b (by simp),ih.2 h2⟩
theorem Zar {l:List α} (h:Zo key l=true) (p:α->Bool):Zo key (l.filter p)=true:=
 (Zu key _).2 (((Zu key l).1 h).filter p)
theorem Zfq {l:List α} (h:Zo key l=true) {a b:α} (ha:a∈l) (hb:b∈l) (e:key a=key b):a=b:=by
 obtain⟨i,hi,rfl⟩:=List.getElem_of_mem ha
 obtain⟨j,hj,rfl⟩:=List.getElem_of_mem hb
 rcases Nat.lt_trichotomy i j with h1|h1|h1
 ·have:=ZJ key h i j hi hj h1;omega
 ·subst h1;rfl
 ·have:=ZJ key h j i hj hi h1;omega
theorem ZlC {l:List α} (h:Zo key l=true) {i:Nat} {x:α} (hi:i<l.length) (hx:key x=key l[i]):Zo key (l.set i x)=true/\∀y,y∈l.set i x↔y=x\/(y∈l/\key y≠key x):=by
 have hp:=(Zu key l).1 h
 have hget:∀j (hj:j<(l.set i x).length),key (l.set i x)[j]=key (l[j]'(by simpa using hj)):=λj hj=>by
  rw[List.getElem_set];split
  ·rename_i e;subst e;exact hx
  ·rfl
 refine⟨(Zu key _).2 (List.pairwise_iff_getElem.2 λa b ha hb hab=> ?_),λy=>⟨λhy=> ?_,λhy=> ?_⟩⟩
 ·rw[hget a ha,hget b hb]
  exact ZJ key h a b (by simpa using ha) (by simpa using hb) hab
 ·obtain⟨j,hj,rfl⟩:=List.getElem_of_mem hy
  by_cases e:i=j
  ·subst e;left;simp
  ·right
   rw[List.getElem_set_ne e]
   refine⟨List.getElem_mem _,λhk=>e ?_⟩
   have hj':j<l.length:=by simpa using hj
   rcases Nat.lt_trichotomy i j with h1|h1|h1
   ·have:=ZJ key h i j hi hj' h1;omega
   ·exact h1
   ·have:=ZJ key h j i hj' hi h1;omega
 ·rcases hy with rfl|⟨hy,hk⟩
  ·exact List.mem_of_getElem? (List.getElem?_set_self hi)
  ·obtain⟨j,hj,rfl⟩:=List.getElem_of_mem hy
   have hij:i≠j:=λe=>hk (by subst e;exact hx.symm)
   exact List.mem_of_getElem? (by rw[List.getElem?_set_ne hij];exact List.getElem?_eq_getElem hj)
theorem ZlD {l:List α} (h:Zo key l=true) (x:α) (hx:∀y∈l,key y≠key x):Zo key (insL l (placeS key l (key x)) x)=true:=by
 have hp:=(Zu key l).1 h
 have hle:=ZcI key l (key x)
 refine(Zu key _).2 (List.pairwise_append.2 ⟨hp.sublist (List.take_sublist _ _),List.pairwise_cons.2 ⟨λy hy=> ?_,hp.sublist (List.drop_sublist _ _)⟩,λa ha b hb=> ?_⟩)
 ·obtain⟨j,hj,rfl⟩:=List.getElem_of_mem hy
  rw[List.length_drop] at hj
  rw[List.getElem_drop]
  have h1:=ZcJ key h (key x) (placeS key l (key x)+j) (by omega) (by omega)
  have h2:=hx _ (List.getElem_mem (show placeS key l (key x)+j<l.length by omega))
  omega
 ·obtain⟨i,hi,rfl⟩:=List.getElem_of_mem ha
  rw[List.length_take] at hi
  rw[List.getElem_take]
  have h1:=Zfn key l (key x) i (by omega) (by omega)
  rcases List.mem_cons.1 hb with rfl|hb
  ·exact h1
  ·obtain⟨j,hj,rfl⟩:=List.getElem_of_mem hb
   rw[List.length_drop] at hj
   rw[List.getElem_drop]
   have h2:=ZcJ key h (key x) (placeS key l (key x)+j) (by omega) (by omega)
   omega
theorem Zkk (l:List α) (i:Nat) (x y:α):y∈insL l i x↔y=x\/y∈l:=by
 unfold insL
 rw[List.mem_append,List.mem_cons]
 conv=>rhs;rw[<-List.take_append_drop i l,List.mem_append]
 constructor
 ·rintro(h|h|h)
  ·exact .inr (.inl h)
  ·exact .inl h
  ·exact .inr (.inr h)
 ·rintro(h|h|h)
  ·exact .inr (.inl h)
  ·exact .inl h
  ·exact .inr (.inr h)
end
theorem ZiX {next:Int}:∀{l:List NodeR} {p:Option Int},Zo NodeR.ino l=true->(∀x∈l,nodeOk x=true/\x.ino<next)->(∀q x,p=some q->x∈l->q<x.ino)->ZaY next p l=true
 |[],p,_,_,_=>rfl
 |x::l,p,hr,ha,hp=>by
  obtain⟨h1,h2⟩:=ZbU NodeR.ino hr
  obtain⟨a1,a2⟩:=ha x (by simp)
  simp only[ZaY,Bool.and_eq_true,decide_eq_true_eq]
  refine⟨⟨⟨a1,a2⟩,?_⟩,ZiX h1 (λy hy=>ha y (by simp[hy])) (λq y e hy=>by injection e with e;subst e;exact h2 y hy)⟩
  cases p with
  |none=>rfl
  |some q=>simpa using hp q x rfl (by simp)
structure Zi (f:FSR):Prop where
 rise:Zo NodeR.ino f.l=true
 ok:∀n∈f.l,nodeOk n=true
 lt:∀n∈f.l,n.ino<f.next
 len:f.l.length<=256
 next:1<=f.next
theorem ZgF (f:FSR):Zcd f=true↔Zi f:=by
 constructor
 ·intro h
  simp only[Zcd,Bool.and_eq_true,decide_eq_true_eq] at h
  obtain⟨h1,h2⟩:=ZcV h.1.1
  exact⟨h1,λn hn=>(h2 n hn).1,λn hn=>(h2 n hn).2,h.1.2,h.2⟩
 ·intro h
  simp only[Zcd,Bool.and_eq_true,decide_eq_true_eq]
  exact⟨⟨ZiX h.rise (λn hn=>⟨h.ok n hn,h.lt n hn⟩) (λq x e=>by cases e),h.len⟩,h.next⟩
theorem Zdx {l:List NodeR} (h:Zo NodeR.ino l=true) (k:Int) (n:NodeR):findB l k=(n,true)↔n∈l/\n.ino=k:=by
 constructor
 ·intro e
  have h2:(findB l k).2=true:=by rw[e]
  have h1:(findB l k).1=n:=by rw[e]
  exact⟨h1▸(Zm h2).1,h1▸(Zm h2).2⟩
 ·rintro⟨hn,rfl⟩;exact findB_of h hn
theorem findB_cases (l:List NodeR) (k:Int):(∃n∈l,n.ino=k/\findB l k=(n,true))\/findB l k=(.zero,false):=by
 cases hf:(findB l k).2 with
 |true=>exact .inl ⟨_,(Zm hf).1,(Zm hf).2,Prod.ext rfl hf⟩
 |false=>exact .inr (Prod.ext (ZaB hf) hf)
theorem ZfW {l l':List NodeR} (h:Zo NodeR.ino l=true) (h':Zo NodeR.ino l'=true) {k:Int} (hm:∀n,n.ino=k->(n∈l↔n∈l')):findB l k=findB l' k:=by
 rcases findB_cases l k with⟨n,hn,hk,e⟩|e
 ·rw[e];exact((Zdx h' k n).2 ⟨(hm n hk).1 hn,hk⟩).symm
 ·rcases findB_cases l' k with⟨n,hn,hk,e'⟩|e'
  ·have:=(Zdx h k n).2 ⟨(hm n hk).2 hn,hk⟩
   rw[this] at e;cases e
  ·rw[e,e']
theorem Zhx (f:FSR) (k:Int) (n:NodeR):n∈(outF f k).l↔n∈f.l/\n.ino≠k:=by simp[outF,outS]
theorem Zi.out {f:FSR} (h:Zi f) (k:Int):Zi (outF f k):=
 ⟨Zar _ h.rise _,λn hn=>h.ok n ((Zhx f k n).1 hn).1,λn hn=>h.lt n ((Zhx f k n).1 hn).1,Nat.le_trans (List.length_filter_le _ _) h.len,h.next⟩
theorem ZgG {f:FSR} (h:Zo NodeR.ino f.l=true) (k q:Int):findB (outF f k).l q=if q=k then(.zero,false) else findB f.l q:=by
 split
 ·rename_i e;subst e
  exact ZbW λn hn=>((Zhx f q n).1 hn).2
 ·rename_i e
  exact(ZfW (l':=(outF f k).l) h (Zar _ h _) λn hn=>by rw[Zhx];exact⟨λhm=>⟨hm,by rw[hn];exact e⟩,λhm=>hm.1⟩).symm
theorem ZcZ {f:FSR} (h:Zo NodeR.ino f.l=true) (n:NodeR):Zo NodeR.ino (putB f n).l=true/\(∀x,x∈(putB f n).l↔x=n\/(x∈f.l/\x.ino≠n.ino))/\(putB f n).l.length<=f.l.length+1:=by
 unfold putB
 split
 ·rename_i hc
  have e:Zcm f.l (plc f.l n.ino)=f.l[plc f.l n.ino].ino:=by simp[Zcm,List.getD_eq_getElem?_getD,hc.1]
  obtain⟨h1,h2⟩:=ZlC NodeR.ino h hc.1 (x:=n) (by rw[<-e];exact hc.2.symm)
  exact⟨h1,h2,by simp⟩
 ·rename_i hc
  have hne:∀y∈f.l,y.ino≠n.ino:=λy hy e=>by
   have:=findB_of h hy
   rw[e] at this
   unfold findB at this
   rw[if_neg hc] at this
   cases this
  have hp:=ZlA h n.ino
  refine⟨?_,λx=> ?_,by simp⟩
  ·show Zo NodeR.ino (insL f.l (plc f.l n.ino) n)=true
   rw[hp];exact ZlD NodeR.ino h n hne
  ·show x∈insL f.l (plc f.l n.ino) n↔_
   rw[Zkk]
   exact⟨λhx=>hx.imp id λhx=>⟨hx,hne x hx⟩,λhx=>hx.imp id λhx=>hx.1⟩
theorem Zi.put {f:FSR} (h:Zi f) {n:NodeR} (hn:nodeOk n=true) (hl:(putB f n).l.length<=256):Zi (putB f n):=by
 obtain⟨h1,h2,h3⟩:=ZcZ h.rise n
 have hx:(putB f n).next=max f.next (n.ino+1):=rfl
 refine⟨h1,λx hx=> ?_,λx hx'=> ?_,hl,?_⟩
 ·rcases(h2 x).1 hx with rfl|hx
  ·exact hn
  ·exact h.ok x hx.1
 ·rw[hx]
  rcases(h2 x).1 hx' with rfl|hx'
  ·omega
  ·have:=h.lt x hx'.1;omega
 ·rw[hx];have:=h.next;omega
theorem Zbe {f:FSR} (h:Zo NodeR.ino f.l=true) (n:NodeR) (q:Int):findB (putB f n).l q=if q=n.ino then(n,true) else findB f.l q:=by
 obtain⟨h1,h2,_⟩:=ZcZ h n
 split
 ·rename_i e;subst e
  exact findB_of h1 ((h2 n).2 (.inl rfl))
 ·rename_i e
  exact(ZfW h h1 λx hx=>by
   rw[h2]
   refine⟨λhm=> .inr ⟨hm,by rw[hx];exact e⟩,λhm=> ?_⟩
   rcases hm with rfl|hm
   ·exact absurd hx.symm e
   ·exact hm.1).symm
end Go.Cx
set_option linter.unusedVariables false
set_option linter.unusedSimpArgs false
namespace Go.Cx
end Go.Cx
namespace Go.Cx
section
variable {α:Type} (key:α->Int)
theorem ZaE:∀{a b:List α},Zo key a=true->Zo key b=true->(∀x,x∈a↔x∈b)->a=b
 |[],[],_,_,_=>rfl
 |[],y::b,_,_,h=>by have:=(h y).2 (by simp);cases this
 |x::a,[],_,_,h=>by have:=(h x).1 (by simp);cases this
 |x::a,y::b,ha,hb,h=>by
  obtain⟨a1,a2⟩:=ZbU key ha
  obtain⟨b1,b2⟩:=ZbU key hb
  have hxy:x=y:=by
   rcases List.mem_cons.1 ((h x).1 (by simp)) with e|h1
   ·exact e
   rcases List.mem_cons.1 ((h y).2 (by simp)) with e|h2
   ·exact e.symm
   have:=a2 y h2
   have:=b2 x h1
   omega
  subst hxy
  rw[ZaE a1 b1 λz=>⟨λhz=> ?_,λhz=> ?_⟩]
  ·rcases List.mem_cons.1 ((h z).1 (by simp[hz])) with e|h1
   ·have:=a2 z hz;subst e;omega
   ·exact h1
  ·rcases List.mem_cons.1 ((h z).2 (by simp[hz])) with e|h1
   ·have:=b2 z hz;subst e;omega
   ·exact h1
theorem ZbX {l:List α} {k:Int}:Zak key l k=none↔∀x∈l,key x≠k:=by
 simp[Zak,List.find?_eq_none]
theorem ZC {l:List α} {k:Int} {x:α} (h:Zak key l k=some x):x∈l/\key x=k:=by
 refine⟨List.mem_of_find?_eq_some h,?_⟩
 have:=List.find?_some h
 simpa using this
theorem ZtR {l:List α} (h:Zo key l=true) (k:Int) (x:α):Zak key l k=some x↔x∈l/\key x=k:=by
 refine⟨ZC key,λ⟨h1,h2⟩=> ?_⟩
 cases hf:Zak key l k with
 |none=>exact absurd h2 ((ZbX key).1 hf x h1)
 |some y=>
  obtain⟨h3,h4⟩:=ZC key hf
  rw[Zfq key h h1 h3 (by omega)]
theorem putS_spec {l:List α} (h:Zo key l=true) (x:α):Zo key (putS key l x)=true/\∀y,y∈putS key l x↔y=x\/(y∈l/\key y≠key x):=by
 have hp:=(Zu key l).1 h
 have h1:∀y,y∈l.takeWhile (λy=>decide (key y<key x))->key y<key x:=λy hy=>by
  simpa using List.all_eq_true.1 (List.all_takeWhile (p:=λy=>decide (key y<key x)) (l:=l)) y hy
 have h2:∀{l:List α},l.Pairwise (λa b=>key a<key b)->∀y,y∈l.dropWhile (λy=>decide (key y<=key x))↔y∈l/\key x<key y:=by
  intro l
  induction l with
  |nil=>simp
  |cons a l ih=>
   intro hp y
   obtain⟨p1,p2⟩:=List.pairwise_cons.1 hp
   by_cases ha:key a<=key x
   ·rw[List.dropWhile_cons_of_pos (by simpa using ha),ih p2,List.mem_cons]
    constructor
    ·exact λq=>⟨.inr q.1,q.2⟩
    ·rintro⟨rfl|q,q2⟩
     ·omega
     ·exact⟨q,q2⟩
   ·rw[List.dropWhile_cons_of_neg (by simpa using ha)]
    refine⟨λq=>⟨q,?_⟩,λq=>q.1⟩
    rcases List.mem_cons.1 q with rfl|q
    ·omega
    ·have:=p1 y q;omega
 have h3:∀y,y∈l->key y<key x->y∈l.takeWhile (λy=>decide (key y<key x)):=by
  intro y hy hk
  obtain⟨i,hi,rfl⟩:=List.getElem_of_mem hy
  have hlt:i<placeS key l (key x):=by
   rcases Nat.lt_or_ge i (placeS key l (key x)) with q|q
   ·exact q
   ·have:=ZcJ key h (key x) i q hi;omega
  have e:=List.IsPrefix.getElem (List.takeWhile_prefix (λy=>decide (key y<key x)) (l:=l)) (i:=i) hlt
  rw[<-e]
  exact List.getElem_mem _
 constructor
 ·refine(Zu key _).2 (List.pairwise_append.2 ⟨hp.sublist (List.takeWhile_sublist _),List.pairwise_cons.2 ⟨λy hy=>((h2 hp y).1 hy).2,hp.sublist (List.dropWhile_sublist _)⟩,λa ha b hb=> ?_⟩)
  have:=h1 a ha
  rcases List.mem_cons.1 hb with rfl|hb
  ·exact this
  ·have:=((h2 hp b).1 hb).2;omega
 ·intro y
  simp only[putS,List.mem_append,List.mem_cons,h2 hp]
  constructor
  ·rintro(q|q|q)
   ·exact .inr ⟨(List.takeWhile_sublist _).subset q,by have:=h1 y q;omega⟩
   ·exact .inl q
   ·exact .inr ⟨q.1,by omega⟩
  ·rintro(q|⟨q,q2⟩)
   ·exact .inr (.inl q)
   ·by_cases hy:key y<key x
    ·exact .inl (h3 y q hy)
    ·exact .inr (.inr ⟨q,by omega⟩)
theorem Zkl {l:List α} (h:Zo key l=true) {i:Nat} {x:α} (hi:i<l.length) (hk:key l[i]=key x):l.set i x=putS key l x:=by
 obtain⟨h1,h2⟩:=putS_spec key h x
 obtain⟨h3,h4⟩:=ZlC key h hi hk.symm
 exact ZaE key h3 h1 λy=>by rw[h4,h2]
theorem Zkm {l:List α} (h:Zo key l=true) {x:α} (hx:∀y∈l,key y≠key x):insL l (placeS key l (key x)) x=putS key l x:=by
 obtain⟨h1,h2⟩:=putS_spec key h x
 exact ZaE key (ZlD key h x hx) h1 λy=>by
  rw[Zkk,h2]
  exact⟨λq=>q.imp id λq=>⟨q,hx y q⟩,λq=>q.imp id λq=>q.1⟩
theorem Zrb {l:List α} (h:Zo key l=true) (k:Int) (hp:placeS key l k<l.length) (hk:key l[placeS key l k]=k):Zak key l k=some l[placeS key l k]:=
 (ZtR key h _ _).2 ⟨List.getElem_mem _,hk⟩
theorem Zao {l:List α} (h:Zo key l=true) {k:Int} {x:α} (hf:Zak key l k=some x):∃hp:placeS key l k<l.length,l[placeS key l k]=x:=by
 obtain⟨h1,h2⟩:=ZC key hf
 obtain⟨i,hi,rfl⟩:=List.getElem_of_mem h1
 subst h2
 have q1:placeS key l (key l[i])<=i:=by
  rcases Nat.lt_or_ge i (placeS key l (key l[i])) with q|q
  ·have:=Zfn key l (key l[i]) i q hi;omega
  ·exact q
 refine⟨by omega,?_⟩
 refine Zfq key h (List.getElem_mem _) h1 ?_
 have a:=ZcJ key h (key l[i]) _ (Nat.le_refl _) (by omega)
 rcases Nat.lt_or_ge (placeS key l (key l[i])) i with q|q
 ·have:=ZJ key h _ _ (by omega) hi q;omega
 ·have:placeS key l (key l[i])=i:=by omega
  simp only[this]
theorem ZcN {l:List α} (h:Zo key l=true) {k:Int} (hf:Zak key l k=none) (hp:placeS key l k<l.length):key l[placeS key l k]≠k:=λe=>by
 rw[Zrb key h k hp e] at hf;cases hf
theorem Zda {l:List α} (h:Zo key l=true) (x:α):(putS key l x).length=if(Zak key l (key x)).isSome then l.length else l.length+1:=by
 cases hf:Zak key l (key x) with
 |some y=>
  obtain⟨hp,e⟩:=Zao key h hf
  rw[<-Zkl key h hp (by rw[e];exact(ZC key hf).2)]
  simp
 |none=>
  rw[<-Zkm key h ((ZbX key).1 hf)]
  have:=ZcI key l (key x)
  simp[insL];omega
end
structure ZgA (r:RowR):Prop where
 client:0<=r.client
 epoch:1<=r.epoch
 done:0<=r.done
 len:r.l.length<=256
 rise:Zo DecisionR.seq r.l=true
 above:∀d∈r.l,r.done<d.seq
structure Zas (l:List RowR):Prop where
 len:l.length<=64
 rise:Zo RowR.client l=true
 ok:∀r∈l,ZgA r
def badS (c e n:Int):Bool:=decide (c<0)||decide (e<1)||decide (n<1)
def whyS (l:List RowR) (c e n:Int):Int:=
 if badS c e n then 1 else match Zak RowR.client l c with
 |none=>6
 |some r=>if r.epoch<e then 6 else if e<r.epoch then 17 else 0
def rowS (l:List RowR) (c e n:Int):RowR:=if badS c e n then .zero else match Zak RowR.client l c with
 |none=>⟨c,e,0,[]⟩
 |some r=>if r.epoch=e then r else⟨c,e,0,[]⟩
def askS (l:List RowR) (c e n:Int):Bool×Int:=
 if whyS l c e n≠0 then(false,whyS l c e n) else if n<=(rowS l c e n).done then(false,18) else match Zak DecisionR.seq (rowS l c e n).l n with
 |none=>(false,6)
 |some d=>(d.yes,0)
def decR (r:RowR) (n:Int) (yes:Bool):RowR:=⟨r.client,r.epoch,r.done,putS DecisionR.seq r.l ⟨n,yes⟩⟩
def forR (r:RowR) (d:Int):RowR:=⟨r.client,r.epoch,max r.done d,r.l.filter λx=> !decide (x.seq<=max r.done d)⟩
def ZaW (l:List RowR) (c e n:Int):Bool:=(decide (Zak RowR.client l c=none)&&decide (64<=l.length))||decide (256<=(rowS l c e n).l.length)
def decideS (l:List RowR) (c e n:Int) (yes:Bool):List RowR×Bool×Int:=
 if(askS l c e n).2≠6 then(l,(askS l c e n).1,(askS l c e n).2) else if ZaW l c e n=true then(l,false,12) else(putS RowR.client l (decR (rowS l c e n) n yes),yes,0)
def forgetS (l:List RowR) (c e n:Int):List RowR×Int:=
 if whyS l c e n≠0 then(l,whyS l c e n) else(putS RowR.client l (forR (rowS l c e n) n),0)
theorem ZgH (l:List RowR) {c e n:Int} (hb:badS c e n=false):(rowS l c e n).client=c/\(rowS l c e n).epoch=e:=by
 unfold rowS
 rw[if_neg (by simp[hb])]
 split
 ·exact⟨rfl,rfl⟩
 ·rename_i r hr
  split
  ·rename_i h;exact⟨(ZC _ hr).2,h⟩
  ·exact⟨rfl,rfl⟩
theorem Zph {l:List RowR} {c e n:Int} (h:whyS l c e n≠1):badS c e n=false:=by
 cases hb:badS c e n with
 |false=>rfl
 |true=>exact absurd (by simp[whyS,hb]) h
theorem Zkn {l:List RowR} {c e n:Int} (h:(askS l c e n).2=6):badS c e n=false/\Zak DecisionR.seq (rowS l c e n).l n=none:=by
 have hb:badS c e n=false:=Zph λhw=>by
  rw[askS,if_pos (by rw[hw];decide)] at h
  rw[hw] at h;cases h
 refine⟨hb,?_⟩
 by_cases hw:whyS l c e n=0
 ·rw[askS,if_neg (by simp[hw])] at h
  split at h
  ·cases h
  ·split at h
   ·rename_i hf;exact hf
   ·cases h
 ·rw[askS,if_pos hw] at h
  simp only at h
  unfold whyS at h
  rw[if_neg (by simp[hb])] at h
  unfold rowS
  rw[if_neg (by simp[hb])]
  split
  ·rfl
  ·rename_i r hr
   rw[hr] at h
   simp only at h
   split
   ·rename_i he
    rw[if_neg (by omega),if_neg (by omega)] at h
    cases h
   ·rfl
end Go.Cx
set_option linter.unusedVariables false
set_option linter.unusedSimpArgs false
namespace Go.Cx
theorem ZdY {c e n:Int} (h:badS c e n=false):¬c<0/\¬e<1/\¬n<1:=by
 simp only[badS,Bool.or_eq_false_iff,decide_eq_false_iff_not] at h
 exact⟨h.1.1,h.1.2,h.2⟩
theorem Zas.nil:Zas []:=⟨by simp,rfl,by simp⟩
theorem Zas.put {l:List RowR} (R:Zas l) {x:RowR} (hx:ZgA x) (hl:(putS RowR.client l x).length<=64):Zas (putS RowR.client l x):=by
 obtain⟨h1,h2⟩:=putS_spec RowR.client R.rise x
 refine⟨hl,h1,λr hr=> ?_⟩
 rcases(h2 r).1 hr with rfl|hr
 ·exact hx
 ·exact R.ok r hr.1
theorem ZtS {l:List RowR} (R:Zas l) {c e n:Int} (hb:badS c e n=false):ZgA (rowS l c e n):=by
 obtain⟨h1,h2,h3⟩:=ZdY hb
 unfold rowS
 rw[if_neg (by simp[hb])]
 split
 ·exact⟨by simp only;omega,by simp only;omega,by simp,by simp,rfl,by simp⟩
 ·rename_i r hr
  split
  ·exact R.ok r (ZC _ hr).1
  ·exact⟨by simp only;omega,by simp only;omega,by simp,by simp,rfl,by simp⟩
theorem decR_ok {r:RowR} (h:ZgA r) {n:Int} {yes:Bool} (hn:Zak DecisionR.seq r.l n=none) (hd:r.done<n) (hl:r.l.length<256):ZgA (decR r n yes):=by
 obtain⟨h1,h2⟩:=putS_spec DecisionR.seq h.rise ⟨n,yes⟩
 have h3:=Zda DecisionR.seq h.rise ⟨n,yes⟩
 simp only[hn] at h3
 refine⟨h.client,h.epoch,h.done,?_,h1,λd hd'=> ?_⟩
 ·show(putS DecisionR.seq r.l ⟨n,yes⟩).length<=256
  rw[h3];simp;omega
 ·rcases(h2 d).1 hd' with rfl|q
  ·exact hd
  ·exact h.above d q.1
theorem forR_ok {r:RowR} (h:ZgA r) (d:Int):ZgA (forR r d):=by
 refine⟨h.client,h.epoch,?_,Nat.le_trans (List.length_filter_le _ _) h.len,Zar _ h.rise _,λx hx=> ?_⟩
 ·show 0<=max r.done d
  have:=h.done;omega
 ·have:=(List.mem_filter.1 hx).2
  simp only[Bool.not_eq_true',decide_eq_false_iff_not] at this
  show max r.done d<x.seq
  omega
theorem Zxd {l:List RowR} {c e n:Int} (h:(askS l c e n).2=6):(rowS l c e n).done<n:=by
 obtain⟨hb,_⟩:=Zkn h
 obtain⟨b1,b2,b3⟩:=ZdY hb
 by_cases hw:whyS l c e n=0
 ·rw[askS,if_neg (by simp[hw])] at h
  split at h
  ·cases h
  ·omega
 ·rw[askS,if_pos hw] at h
  simp only at h
  unfold whyS at h
  rw[if_neg (by simp[hb])] at h
  unfold rowS
  rw[if_neg (by simp[hb])]
  split
  ·simp only;omega
  ·rename_i r hr
   rw[hr] at h
   simp only at h
   split
   ·rename_i he
    rw[if_neg (by omega),if_neg (by omega)] at h
    cases h
   ·simp only;omega
theorem decide_cases (l:List RowR) (c e n:Int) (yes:Bool):
  ((askS l c e n).2≠6/\decideS l c e n yes=(l,askS l c e n))\/((askS l c e n).2=6/\ZaW l c e n=true/\decideS l c e n yes=(l,false,12))\/
  ((askS l c e n).2=6/\ZaW l c e n=false/\decideS l c e n yes=(putS RowR.client l (decR (rowS l c e n) n yes),yes,0)):=by
 by_cases h:(askS l c e n).2=6
 ·by_cases hr:ZaW l c e n=true
  ·exact .inr (.inl ⟨h,hr,by unfold decideS;rw[if_neg (by simp[h]),if_pos hr]⟩)
  ·exact .inr (.inr ⟨h,by simpa using hr,by unfold decideS;rw[if_neg (by simp[h]),if_neg hr]⟩)
 ·exact .inl ⟨h,by unfold decideS;rw[if_pos h]⟩
theorem put_few {l:List RowR} (R:Zas l) {c e n:Int} {x:RowR} (hx:x.client=c) (hr:ZaW l c e n=false):(putS RowR.client l x).length<=64:=by
 rw[Zda RowR.client R.rise,hx]
 have:=R.len
 split
 ·exact this
 ·rename_i h
  simp only[ZaW,Bool.or_eq_false_iff,Bool.and_eq_false_iff,decide_eq_false_iff_not] at hr
  have hn:Zak RowR.client l c=none:=by simpa using h
  rcases hr.1 with q|q
  ·exact absurd hn q
  ·omega
theorem ZlE {l:List RowR} (R:Zas l) (c e n:Int) (yes:Bool):Zas (decideS l c e n yes).1:=by
 rcases decide_cases l c e n yes with⟨_,h⟩|⟨_,_,h⟩|⟨h6,hr,h⟩
 ·rw[h];exact R
 ·rw[h];exact R
 ·rw[h]
  obtain⟨hb,hn⟩:=Zkn h6
  refine R.put (decR_ok (ZtS R hb) hn (Zxd h6) ?_) (put_few R (x:=decR _ _ _) (ZgH l hb).1 hr)
  simp only[ZaW,Bool.or_eq_false_iff,decide_eq_false_iff_not] at hr
  omega
theorem Zxe {l:List RowR} {c e n:Int} (h:whyS l c e n=0):badS c e n=false/\∃r,Zak RowR.client l c=some r/\r.epoch=e/\rowS l c e n=r:=by
 have hb:badS c e n=false:=Zph (by rw[h];decide)
 refine⟨hb,?_⟩
 unfold whyS at h
 rw[if_neg (by simp[hb])] at h
 cases hf:Zak RowR.client l c with
 |none=>rw[hf] at h;cases h
 |some r=>
  rw[hf] at h
  simp only at h
  have he:r.epoch=e:=by
   by_cases h1:r.epoch<e
   ·rw[if_pos h1] at h;cases h
   ·rw[if_neg h1] at h
    by_cases h2:e<r.epoch
    ·rw[if_pos h2] at h;cases h
    ·omega
  refine⟨r,rfl,he,?_⟩
  unfold rowS
  rw[if_neg (by simp[hb]),hf]
  simp[he]
theorem Znl {l:List RowR} {c e n:Int} (h:whyS l c e n=0):forgetS l c e n=(putS RowR.client l (forR (rowS l c e n) n),0):=by
 unfold forgetS
 rw[if_neg (by simp[h])]
theorem ZlF {l:List RowR} (R:Zas l) (c e n:Int):Zas (forgetS l c e n).1:=by
 by_cases h:whyS l c e n=0
 ·rw[Znl h]
  obtain⟨hb,r,hf,he,hr⟩:=Zxe h
  refine R.put (forR_ok (ZtS R hb) n) ?_
  rw[Zda RowR.client R.rise]
  have:(forR (rowS l c e n) n).client=c:=(ZgH l hb).1
  rw[this,hf]
  exact R.len
 ·unfold forgetS
  rw[if_pos h];exact R
end Go.Cx
namespace Go.Cx
def findE (l:List EntryR) (s:ByteArray):Int×Bool:=match l.find? (λx=>decide (x.name=s)) with
 |some x=>(x.ino,true)
 |none=>(0,false)
def insE (l:List EntryR) (s:ByteArray) (ino:Int):List EntryR:=(l.takeWhile λx=>Zac x.name s)++⟨s,ino⟩::(l.dropWhile λx=>Zac x.name s)
def outE (l:List EntryR) (s:ByteArray):List EntryR:=l.filter λx=> !decide (x.name=s)
def enterE (l:List EntryR) (s:ByteArray) (ino:Int):List EntryR×Int:=
 if checkS s≠0 then(l,checkS s) else if ino<1 then(l,1) else if(findE l s).2=true then(l,7) else if 256<=l.length then(l,12) else(insE l s ino,0)
def leaveE (l:List EntryR) (s:ByteArray):List EntryR×Int×Int:=if(findE l s).2=true then(outE l s,(findE l s).1,0) else(l,0,6)
def Zai:List EntryR->Bool
 |[]=>true
 |[_]=>true
 |a::b::l=>Zac a.name b.name&&Zai (b::l)
def readT (s:List UInt8) (at_ many:Int):List UInt8×Int:=
 if at_<0\/1099511627776<at_\/many<0\/1099511627776 -at_<many then([],1) else((s.drop at_.toNat).take many.toNat,0)
def overL (s:List UInt8) (k:Nat) (t:List UInt8):List UInt8:=(s++List.replicate (k -s.length) 0).take k++t++s.drop (k+t.length)
def writeT (s:List UInt8) (at_:Int) (t:List UInt8):List UInt8×Int:=
 if at_<0\/1099511627776 -t.length<at_ then(s,1) else if 4096<at_+t.length then(s,5) else if t=[] then(s,0) else(overL s at_.toNat t,0)
def cutT (s:List UInt8) (many:Int):List UInt8×Int:=
 if many<0\/1099511627776<many then(s,1) else if 4096<many then(s,5) else(s.take many.toNat++List.replicate (many.toNat -s.length) 0,0)
def dirD (f:FSR) (d:Int):NodeR×Int:=if(findB f.l d).2=false then(.zero,6) else if(findB f.l d).1.kind≠2 then(.zero,8) else((findB f.l d).1,0)
def lookD (f:FSR) (d:Int) (s:ByteArray):NodeR×Int:=
 if(dirD f d).2≠0 then(.zero,(dirD f d).2) else if checkS s≠0 then(.zero,checkS s) else
 if(findE (dirD f d).1.l s).2=false then(.zero,6) else if(findB f.l (findE (dirD f d).1.l s).1).2=false then(.zero,6) else((findB f.l (findE (dirD f d).1.l s).1).1,0)
def enteredD (f:FSR) (dir:Int) (s:ByteArray) (ino:Int):FSR:=putB f {(findB f.l dir).1 with l:=(enterE (findB f.l dir).1.l s ino).1}
def leftD (f:FSR) (dir:Int) (s:ByteArray):FSR:=putB f {(findB f.l dir).1 with l:=(leaveE (findB f.l dir).1.l s).1}
def Zkq (f:FSR) (ino:Int):FSR:=if(findB f.l ino).1.links<=1 then outF f ino else putB f {(findB f.l ino).1 with links:=(findB f.l ino).1.links -1}
def newN (f:FSR) (n:NodeR):NodeR:={n with ino:=f.next,links:=1}
def addD (f:FSR) (dir:Int) (s:ByteArray) (n:NodeR):FSR×Int:=
 if(dirD f dir).2≠0 then(f,(dirD f dir).2) else if checkS s≠0 then(f,checkS s) else if(findE (dirD f dir).1.l s).2=true then(f,7) else
 if 256<=f.l.length\/256<=(dirD f dir).1.l.length then(f,12) else if nodeOk (newN f n)=false\/0<n.l.length then(f,1) else
 (putB (enteredD f dir s f.next) (newN f n),0)
def giveD (f:FSR) (dir:Int) (s:ByteArray) (ino:Int):FSR×Int:=
 if(dirD f dir).2≠0 then(f,(dirD f dir).2) else if(findB f.l ino).2=false then(f,6) else if(findB f.l ino).1.kind=2 then(f,9) else if checkS s≠0 then(f,checkS s) else
 if(findE (dirD f dir).1.l s).2=true then(f,7) else if 256<=(dirD f dir).1.l.length\/64<=(findB f.l ino).1.links then(f,12) else
 (putB (enteredD f dir s ino) {(findB f.l ino).1 with links:=(findB f.l ino).1.links+1},0)
def withoutD (f:FSR) (dir:Int) (s:ByteArray) (ino:Int):FSR:=Zkq (leftD f dir s) ino
def takeD (f:FSR) (dir:Int) (s:ByteArray):FSR×Int:=
 if(lookD f dir s).2≠0 then(f,(lookD f dir s).2) else if 0<(lookD f dir s).1.l.length then(f,11) else(withoutD f dir s (lookD f dir s).1.ino,0)
def overD (n old:NodeR):Int:=if n.kind=2/\old.kind≠2 then 8 else if n.kind≠2/\old.kind=2 then 9 else if 0<old.l.length then 11 else 0
def belowD (f:FSR) (ino top:Int):Bool:=decide (0<getM (Zdj f.l top) ino)
def clearD (f:FSR) (to:Int) (t:ByteArray):FSR:=if(lookD f to t).2=0 then withoutD f to t (lookD f to t).1.ino else f
def moveD (f:FSR) (dir:Int) (s:ByteArray) (to:Int) (t:ByteArray):FSR×Int:=
 if(lookD f dir s).2≠0 then(f,(lookD f dir s).2) else if(dirD f to).2≠0 then(f,(dirD f to).2) else if checkS t≠0 then(f,checkS t) else
 if(lookD f dir s).1.kind=2/\((lookD f dir s).1.ino=to\/belowD f to (lookD f dir s).1.ino=true) then(f,13) else
 if(lookD f to t).2=0/\(lookD f to t).1.ino=(lookD f dir s).1.ino then(f,0) else
 if(lookD f to t).2=0/\overD (lookD f dir s).1 (lookD f to t).1≠0 then(f,overD (lookD f dir s).1 (lookD f to t).1) else
 if dir≠to/\256<=(findB (clearD f to t).l to).1.l.length then(f,12) else
 (enteredD (leftD (clearD f to t) dir s) to t (lookD f dir s).1.ino,0)
def errR (e:Int):ReplyR:=⟨e,0,0,0,.empty,[]⟩
def ofD (f:FSR) (ino kind:Int):NodeR×Int:=
 if(findB f.l ino).2=false then((findB f.l ino).1,6) else if kind≠0/\(findB f.l ino).1.kind≠kind then((findB f.l ino).1,14) else((findB f.l ino).1,0)
def toldR (r:ReplyR) (e:Int):ReplyR:=if e≠0 then errR e else r
def textD (f:FSR) (ino:Int) (turn:List UInt8->List UInt8×Int):FSR×Int:=
 if(ofD f ino 1).2≠0 then(f,(ofD f ino 1).2) else
 if(turn (bs (ofD f ino 1).1.text)).2≠0 then(f,(turn (bs (ofD f ino 1).1.text)).2) else
 (putB f {(ofD f ino 1).1 with text:=T (turn (bs (ofD f ino 1).1.text)).1},0)
def addO (f:FSR) (c:Zj) (n:NodeR):FSR×ReplyR:=
 if 4096<n.text.size then(f,errR 5) else if(addD f c.ino c.name n).2≠0 then(f,errR (addD f c.ino c.name n).2) else((addD f c.ino c.name n).1,⟨0,f.next,0,0,.empty,[]⟩)
def removeO (f:FSR) (c:Zj) (dir:Bool):FSR×ReplyR:=
 if(lookD f c.ino c.name).2≠0 then(f,errR (lookD f c.ino c.name).2) else
 if(lookD f c.ino c.name).1.kind=2/\dir=false then(f,errR 9) else if(lookD f c.ino c.name).1.kind≠2/\dir=true then(f,errR 8) else
 ((takeD f c.ino c.name).1,errR (takeD f c.ino c.name).2)
def sizesF (l:List NodeR):Int:=(l.map λn=>(n.text.size:Int)).sum
def doS (f:FSR) (c:Zj):FSR×ReplyR:=
 if c.kind=1 then(f,toldR ⟨0,(lookD f c.ino c.name).1.ino,0,0,.empty,[]⟩ (lookD f c.ino c.name).2)
 else if c.kind=2 then(f,toldR ⟨0,(ofD f c.ino 0).1.kind,(ofD f c.ino 0).1.links,sizeS (ofD f c.ino 0).1,.empty,[]⟩ (ofD f c.ino 0).2)
 else if c.kind=3 then(f,if(ofD f c.ino 1).2≠0 then errR (ofD f c.ino 1).2 else toldR ⟨0,0,0,0,T (readT (bs (ofD f c.ino 1).1.text) c.at_ c.many).1,[]⟩ (readT (bs (ofD f c.ino 1).1.text) c.at_ c.many).2)
 else if c.kind=4 then((textD f c.ino λs=>writeT s c.at_ (bs c.text)).1,toldR ⟨0,c.text.size,0,0,.empty,[]⟩ (textD f c.ino λs=>writeT s c.at_ (bs c.text)).2)
 else if c.kind=5 then((textD f c.ino λs=>cutT s c.many).1,errR (textD f c.ino λs=>cutT s c.many).2)
 else if c.kind=6 then addO f c ⟨0,1,0,.empty,[]⟩
 else if c.kind=7 then addO f c ⟨0,2,0,.empty,[]⟩
 else if c.kind=8 then addO f c ⟨0,3,0,c.text,[]⟩
 else if c.kind=9 then removeO f c false
 else if c.kind=10 then removeO f c true
 else if c.kind=11 then((giveD f c.ino c.name c.to_).1,errR (giveD f c.ino c.name c.to_).2)
 else if c.kind=12 then((moveD f c.ino c.name c.to_ c.name2).1,errR (moveD f c.ino c.name c.to_ c.name2).2)
 else if c.kind=13 then(f,toldR ⟨0,0,0,0,(ofD f c.ino 3).1.text,[]⟩ (ofD f c.ino 3).2)
 else if c.kind=14 then(f,toldR ⟨0,0,0,0,.empty,(dirD f c.ino).1.l.map (·.name)⟩ (dirD f c.ino).2)
 else if c.kind=15 then(f,⟨0,f.l.length,sizesF f.l,0,.empty,[]⟩)
 else(f,errR 1)
def playS:FSR->List Zj->FSR×List ReplyR
 |f,[]=>(f,[])
 |f,c::l=>((playS (doS f c).1 l).1,(doS f c).2::(playS (doS f c).1 l).2)
def ZbJ (l:List Int) (n:Int):List Int:=(l.takeWhile λx=>decide (x<n))++n::(l.dropWhile λx=>decide (x<=n))
def ZbK (l:List Int) (f:FSR) (dir:Int) (s:ByteArray):List Int:=if(findE (findB f.l dir).1.l s).2=true then ZbJ l (findE (findB f.l dir).1.l s).1 else l
def looksS (f:FSR) (c:Zj):List Int:=
 if c.kind=15 then[0] else ZbK (ZbK (ZbK (ZbK (ZbJ (ZbJ [] c.ino) c.to_) f c.ino c.name) f c.ino c.name2) f c.to_ c.name) f c.to_ c.name2
def numsS (l:List Int):List Int:=l.foldl ZbJ []
def changeS (a b:FSR) (k:Int):List ChangeR:=
 if(findB b.l k).2=false then[⟨k,true,.zero⟩] else if(findB a.l k).2=false\/(findB a.l k).1≠(findB b.l k).1 then[⟨k,false,(findB b.l k).1⟩] else[]
def changesS (a b:FSR):List ChangeR:=(numsS (a.l.map (·.ino)++b.l.map (·.ino))).flatMap (changeS a b)
def applyOne (f:FSR) (c:ChangeR):FSR:=if c.gone=true then outF f c.ino else putB f c.node
def applyS (f:FSR) (l:List ChangeR) (next:Int):FSR:={l.foldl applyOne f with next:=max (l.foldl applyOne f).next next}
end Go.Cx
set_option linter.unusedVariables false
set_option linter.unusedSimpArgs false
namespace Go.Cx
theorem Zhz:∀l:List UInt8,Op.bytesLess l l=false
 |[]=>rfl
 |a::l=>by simp[Op.bytesLess,Zhz l]
theorem Zja:∀a b c:List UInt8,Op.bytesLess a b=true->Op.bytesLess b c=true->Op.bytesLess a c=true
 |_,[],_,h,_=>by simp[Op.bytesLess] at h
 |_,_::_,[],_,h=>by simp[Op.bytesLess] at h
 |[],_::_,_::_,_,_=>rfl
 |a::x,b::y,c::z,h1,h2=>by
  simp only[Op.bytesLess,Bool.or_eq_true,decide_eq_true_eq,Bool.and_eq_true,beq_iff_eq] at*
  rcases h1 with h1|⟨rfl,h1⟩
  ·rcases h2 with h2|⟨rfl,h2⟩
   ·exact .inl (UInt8.lt_trans h1 h2)
   ·exact .inl h1
  ·rcases h2 with h2|⟨rfl,h2⟩
   ·exact .inl h2
   ·exact .inr ⟨rfl,Zja x y z h1 h2⟩
theorem less_total:∀a b:List UInt8,a≠b->Op.bytesLess a b=true\/Op.bytesLess b a=true
 |[],[],h=>absurd rfl h
 |[],_::_,_=> .inl rfl
 |_::_,[],_=> .inr rfl
 |a::x,b::y,h=>by
  simp only[Op.bytesLess,Bool.or_eq_true,decide_eq_true_eq,Bool.and_eq_true,beq_iff_eq]
  by_cases hab:a=b
  ·subst hab
   have:x≠y:=λe=>h (by rw[e])
   rcases less_total x y this with q|q
   ·exact .inl (.inr ⟨rfl,q⟩)
   ·exact .inr (.inr ⟨rfl,q⟩)
  ·rcases UInt8.lt_or_lt_of_ne hab with q|q
   ·exact .inl (.inl q)
   ·exact .inr (.inl q)
theorem Zrd {x y:ByteArray} (h:x.toList=y.toList):x=y:=by
 rw[ByteArray.toList_eq,ByteArray.toList_eq] at h
 cases x;cases y
 congr 1
 exact Array.ext' h
theorem Zcq (x:ByteArray):Zac x x=false:=Zhz _
theorem ZeF {x y z:ByteArray} (h1:Zac x y=true) (h2:Zac y z=true):Zac x z=true:=Zja _ _ _ h1 h2
theorem Zns {x y:ByteArray} (h:x≠y):Zac x y=true\/Zac y x=true:=less_total _ _ λe=>h (Zrd e)
theorem ZdZ {x y:ByteArray} (h:Zac x y=true):x≠y:=λe=>by subst e;rw[Zcq] at h;cases h
def cmpS (x y:ByteArray):Int:=if x=y then 0 else if Zac x y=true then-1 else 1
theorem ZfX (x y:ByteArray):cmpS x y<0↔Zac x y=true:=by
 unfold cmpS
 split
 ·rename_i h;subst h;simp[Zcq]
 ·split
  ·rename_i h;simp[h]
  ·rename_i h;simp[h]
theorem Znt (x y:ByteArray):cmpS x y=0↔x=y:=by
 unfold cmpS
 split
 ·rename_i h;simp[h]
 ·rename_i h;split<;>simp[h]
theorem Zxi (x y:ByteArray) (q:cmpS x y<0):cmpS x y= -1:=by
 have:=(ZfX x y).1 q
 unfold cmpS;rw[if_neg (ZdZ this),if_pos this]
theorem ZW (l:List EntryR):Zai l=true↔l.Pairwise λa b=>Zac a.name b.name=true:=by
 induction l with
 |nil=>simp[Zai]
 |cons a l ih=>
  cases l with
  |nil=>simp[Zai]
  |cons b l=>
   simp only[Zai,Bool.and_eq_true,ih]
   constructor
   ·rintro⟨h1,h2⟩
    refine .cons (λc hc=> ?_) h2
    rcases List.mem_cons.1 hc with rfl|hc
    ·exact h1
    ·exact ZeF h1 (List.rel_of_pairwise_cons h2 hc)
   ·intro h
    exact⟨List.rel_of_pairwise_cons h (by simp),h.of_cons⟩
theorem Zfr {l:List EntryR} (h:Zai l=true) (p:EntryR->Bool):Zai (l.filter p)=true:=
 (ZW _).2 (((ZW _).1 h).filter p)
theorem Zre {l:List EntryR} (h:Zai l=true) {a b:EntryR} (ha:a∈l) (hb:b∈l) (e:a.name=b.name):a=b:=by
 have hp:=(ZW _).1 h
 induction l with
 |nil=>cases ha
 |cons c l ih=>
  rcases List.mem_cons.1 ha with rfl|ha1<;>rcases List.mem_cons.1 hb with rfl|hb1
  ·rfl
  ·have:=List.rel_of_pairwise_cons hp hb1;exact absurd e (ZdZ this)
  ·have:=List.rel_of_pairwise_cons hp ha1;exact absurd e.symm (ZdZ this)
  ·exact ih ((ZW _).2 hp.of_cons) ha1 hb1 hp.of_cons
theorem Zgs:∀{p:Option ByteArray} {l:List EntryR},ZbQ p l=true->Zai l=true/\∀x∈l,nameOk x.name=true/\1<=x.ino
 |_,[],_=>⟨rfl,by simp⟩
 |p,a::l,h=>by
  simp only[ZbQ,Bool.and_eq_true,decide_eq_true_eq] at h
  obtain⟨h1,h2⟩:=Zgs h.2
  refine⟨?_,λx hx=> ?_⟩
  ·cases l with
   |nil=>rfl
   |cons b l=>
    simp only[Zai,Bool.and_eq_true]
    have:=h.2
    simp only[ZbQ,Option.map_some,Option.getD_some,Bool.and_eq_true] at this
    exact⟨this.1.2,h1⟩
  ·rcases List.mem_cons.1 hx with rfl|hx
   ·exact⟨h.1.1.1,h.1.1.2⟩
   ·exact h2 x hx
theorem ZlI:∀{p:Option ByteArray} {l:List EntryR},Zai l=true->(∀x∈l,nameOk x.name=true/\1<=x.ino)->(∀q x,p=some q->x∈l->Zac q x.name=true)->ZbQ p l=true
 |_,[],_,_,_=>rfl
 |p,a::l,h,h1,h2=>by
  have hp:=(ZW _).1 h
  simp only[ZbQ,Bool.and_eq_true,decide_eq_true_eq]
  refine⟨⟨h1 a (by simp),?_⟩,ZlI ((ZW _).2 hp.of_cons) (λx hx=>h1 x (by simp[hx])) λq x hq hx=> ?_⟩
  ·cases p with
   |none=>rfl
   |some q=>simpa using h2 q a rfl (by simp)
  ·injection hq with hq;subst hq
   exact List.rel_of_pairwise_cons hp hx
structure RowE (l:List EntryR):Prop where
 len:l.length<=256
 rise:Zai l=true
 ok:∀x∈l,nameOk x.name=true/\1<=x.ino
theorem ZbL (l:List EntryR):Ziu l=true↔RowE l:=by
 simp only[Ziu,Bool.and_eq_true,decide_eq_true_eq]
 constructor
 ·rintro⟨h1,h2⟩
  obtain⟨h3,h4⟩:=Zgs h2
  exact⟨h1,h3,h4⟩
 ·rintro⟨h1,h2,h3⟩
  exact⟨h1,ZlI h2 h3 (by simp)⟩
theorem findE_some {l:List EntryR} (h:Zai l=true) {x:EntryR} (hx:x∈l):findE l x.name=(x.ino,true):=by
 unfold findE
 cases hf:l.find? (λy=>decide (y.name=x.name)) with
 |none=>have:=List.find?_eq_none.1 hf x hx;simp at this
 |some y=>
  have h1:=List.mem_of_find?_eq_some hf
  have h2:=List.find?_some hf
  simp only[decide_eq_true_eq] at h2
  have:=Zre h h1 hx h2
  subst this;rfl
theorem findE_cases (l:List EntryR) (s:ByteArray):(∃x∈l,x.name=s/\findE l s=(x.ino,true))\/((∀x∈l,x.name≠s)/\findE l s=(0,false)):=by
 unfold findE
 cases hf:l.find? (λy=>decide (y.name=s)) with
 |none=>exact .inr ⟨λx hx e=>by have:=List.find?_eq_none.1 hf x hx;simp[e] at this,rfl⟩
 |some y=>
  have h2:=List.find?_some hf
  simp only[decide_eq_true_eq] at h2
  exact .inl ⟨y,List.mem_of_find?_eq_some hf,h2,rfl⟩
theorem Zrf (x:EntryR) (l:List EntryR) (s:ByteArray):findE (x::l) s=if x.name=s then(x.ino,true) else findE l s:=by
 unfold findE;by_cases h:x.name=s<;>simp[h]
theorem ZlJ {l:List EntryR} (h:Zai l=true) (s:ByteArray) (ino:Int):findE l s=(ino,true)↔∃x∈l,x.name=s/\x.ino=ino:=by
 constructor
 ·intro he
  rcases findE_cases l s with⟨x,h1,h2,h3⟩|⟨_,h3⟩
  ·rw[h3] at he;exact⟨x,h1,h2,(Prod.mk.inj he).1⟩
  ·rw[h3] at he;cases he
 ·rintro⟨x,h1,rfl,rfl⟩;exact findE_some h h1
theorem ZbA {l:List EntryR} {s:ByteArray}:(findE l s).2=false↔∀x∈l,x.name≠s:=by
 rcases findE_cases l s with⟨x,h1,h2,h3⟩|⟨h1,h3⟩
 ·rw[h3];simp only[Bool.true_eq_false,false_iff];exact λq=>q x h1 h2
 ·rw[h3];simp only[true_iff];exact h1
theorem Zrg {l l':List EntryR} (h:Zai l=true) (h':Zai l'=true) {s:ByteArray} (hm:∀x,x.name=s->(x∈l↔x∈l')):findE l s=findE l' s:=by
 rcases findE_cases l s with⟨x,h1,h2,h3⟩|⟨h1,h3⟩
 ·rw[h3];subst h2;rw[findE_some h' ((hm x rfl).1 h1)]
 ·rcases findE_cases l' s with⟨x,h4,h5,h6⟩|⟨h4,h6⟩
  ·exact absurd h5 (h1 x ((hm x h5).2 h4))
  ·rw[h3,h6]
def plE (l:List EntryR) (s:ByteArray):Nat:=(l.takeWhile λx=>Zac x.name s).length
theorem plE_le (l:List EntryR) (s:ByteArray):plE l s<=l.length:=(List.takeWhile_sublist _).length_le
theorem Zcr {α:Type} (p:α->Bool):∀(l:List α) (i:Nat) (h:i<(l.takeWhile p).length),∃h':i<l.length,p l[i]=true
 |[],i,h=>by simp at h
 |a::l,i,h=>by
  rw[List.takeWhile_cons] at h
  split at h
  ·rename_i hp
   cases i with
   |zero=>exact⟨by simp,hp⟩
   |succ i=>
    obtain⟨h',h2⟩:=Zcr p l i (by simpa using h)
    exact⟨by simpa using h',by simpa using h2⟩
  ·simp at h
theorem Zdb {α:Type} (p:α->Bool):∀(l:List α) (h:(l.takeWhile p).length<l.length),p (l[(l.takeWhile p).length])=false
 |[],h=>by simp at h
 |a::l,h=>by
  by_cases hp:p a=true
  ·have e:(a::l).takeWhile p=a::l.takeWhile p:=by simp[hp]
   simp only[e,List.length_cons,List.getElem_cons_succ]
   exact Zdb p l (by rw[e] at h;simpa using h)
  ·have hp':p a=false:=by simpa using hp
   have e:(a::l).takeWhile p=[]:=by simp[hp']
   simp only[e,List.length_nil,List.getElem_cons_zero];exact hp'
abbrev atE (l:List EntryR) (s:ByteArray) (i:Nat):Int:=cmpS (l.getD i .zero).name s
theorem ZeG {l:List EntryR} (s:ByteArray) {i:Nat} (h:i<l.length):atE l s i=cmpS l[i].name s:=by simp[atE,List.getD_eq_getElem?_getD,h]
theorem bs_plE {l:List EntryR} (h:Zai l=true) (s:ByteArray):bsGo (atE l s) 0 0 l.length=plE l s:=by
 have hp:=List.pairwise_iff_getElem.1 ((ZW _).1 h)
 have hmono:∀a b,a<b->b<l.length->atE l s a<=atE l s b:=by
  intro a b hab hb
  have ha:a<l.length:=by omega
  rw[ZeG s ha,ZeG s hb]
  have h1:=hp a b ha hb hab
  by_cases h2:Zac l[b].name s=true
  ·have h3:cmpS l[a].name s<0:=(ZfX _ _).2 (ZeF h1 h2)
   have h4:cmpS l[b].name s<0:=(ZfX _ _).2 h2
   have h5:∀x y:ByteArray,cmpS x y<0->cmpS x y= -1:=Zxi
   rw[h5 _ _ h3,h5 _ _ h4];exact Int.le_refl _
  ·by_cases h3:l[b].name=s
   ·have h4:cmpS l[a].name s<0:=(ZfX _ _).2 (h3▸h1)
    have:cmpS l[b].name s=0:=(Znt _ _).2 h3
    omega
   ·have:cmpS l[b].name s=1:=by unfold cmpS;rw[if_neg h3,if_neg h2]
    have h5:cmpS l[a].name s<=1:=by
     unfold cmpS;split
     ·omega
     ·split<;>omega
    omega
 obtain⟨_,q2,q3,q4⟩:=Zlw (key:=0) hmono l.length 0 l.length rfl (Nat.zero_le _) (Nat.le_refl _) (λm hm=>by omega) (λm h1 h2=>by omega)
 generalize bsGo (atE l s) 0 0 l.length=b at*
 rcases Nat.lt_trichotomy b (plE l s) with q|q|q
 ·obtain⟨h',h2⟩:=Zcr _ l b q
  have:=q4 b (Nat.le_refl _) h'
  rw[ZeG s h'] at this
  have:=(ZfX l[b].name s).2 h2
  omega
 ·exact q
 ·have hl:plE l s<l.length:=by omega
  have h2:=Zdb (λx:EntryR=>Zac x.name s) l hl
  have:=q3 (plE l s) q
  rw[ZeG s hl,ZfX] at this
  rw[show Zac l[plE l s].name s=false from h2] at this
  cases this
theorem ZgJ {l:List EntryR} (h:Zai l=true) (s:ByteArray):(decide (plE l s<l.length)&&decide (atE l s (plE l s)=0))=(findE l s).2/\((findE l s).2=true->∃hp:plE l s<l.length,l[plE l s].name=s/\(findE l s).1=l[plE l s].ino):=by
 have hp:=List.pairwise_iff_getElem.1 ((ZW _).1 h)
 by_cases hl:plE l s<l.length
 ·rw[ZeG s hl]
  by_cases hn:l[plE l s].name=s
  ·have h1:=findE_some h (List.getElem_mem hl)
   rw[hn] at h1
   rw[h1]
   refine⟨by simp[hl,(Znt _ _).2 hn],λ_=>⟨hl,hn,rfl⟩⟩
  ·have h2:=Zdb (λx:EntryR=>Zac x.name s) l hl
   have h2:Zac l[plE l s].name s=false:=h2
   have hf:(findE l s).2=false:=ZbA.2 λx hx e=>by
    obtain⟨j,hj,rfl⟩:=List.getElem_of_mem hx
    rcases Nat.lt_trichotomy j (plE l s) with q|q|q
    ·obtain⟨h',h3⟩:=Zcr _ l j q
     simp only[e,Zcq] at h3
     cases h3
    ·subst q;exact hn e
    ·have:=hp _ _ hl hj q
     rw[e,h2] at this;cases this
   refine⟨?_,λq=>by rw[hf] at q;cases q⟩
   rw[hf]
   simp[mt (Znt _ _).1 hn]
 ·have hf:(findE l s).2=false:=ZbA.2 λx hx e=>by
   obtain⟨j,hj,rfl⟩:=List.getElem_of_mem hx
   obtain⟨h',h3⟩:=Zcr (λx:EntryR=>Zac x.name s) l j (by simp only[plE] at hl;omega)
   simp only[e,Zcq] at h3
   cases h3
  refine⟨by rw[hf];simp[hl],λq=>by rw[hf] at q;cases q⟩
theorem Znu (l:List EntryR) (s:ByteArray) (ino:Int):insE l s ino=insL l (plE l s) ⟨s,ino⟩:=by
 simp only[insE,insL,plE]
 have h1:∀(p:EntryR->Bool) (l:List EntryR),l.take (l.takeWhile p).length=l.takeWhile p/\l.drop (l.takeWhile p).length=l.dropWhile p:=by
  intro p l
  induction l with
  |nil=>exact⟨rfl,rfl⟩
  |cons a l ih=>
   by_cases hp:p a=true
   ·simp[hp,ih.1,ih.2]
   ·simp[hp]
 rw[(h1 _ l).1,(h1 _ l).2]
end Go.Cx
set_option linter.unusedVariables false
set_option linter.unusedSimpArgs false
namespace Go.Cx
abbrev idI:Int->Int:=λx=>x
abbrev Zat (l:List Int):Bool:=Zo idI l
theorem ZtU (l:List Int) (n:Int):ZbJ l n=putS idI l n:=rfl
theorem Zea {l:List Int} (h:Zat l=true) (n:Int):Zat (ZbJ l n)=true/\∀y,y∈ZbJ l n↔y=n\/y∈l:=by
 obtain⟨h1,h2⟩:=putS_spec idI h n
 refine⟨h1,λy=> ?_⟩
 rw[ZtU,h2]
 constructor
 ·rintro(h|h)
  ·exact .inl h
  ·exact .inr h.1
 ·rintro(h|h)
  ·exact .inl h
  ·by_cases e:y=n
   ·exact .inl e
   ·exact .inr ⟨h,e⟩
theorem Zjb:∀(l a:List Int),Zat a=true->Zat (l.foldl ZbJ a)=true/\∀y,y∈l.foldl ZbJ a↔y∈a\/y∈l
 |[],a,h=>⟨h,by simp⟩
 |x::l,a,h=>by
  obtain⟨h1,h2⟩:=Zea h x
  obtain⟨h3,h4⟩:=Zjb l (ZbJ a x) h1
  refine⟨h3,λy=> ?_⟩
  rw[List.foldl_cons,h4,h2]
  simp only[List.mem_cons]
  constructor
  ·rintro((h|h)|h)
   ·exact .inr (.inl h)
   ·exact .inl h
   ·exact .inr (.inr h)
  ·rintro(h|h|h)
   ·exact .inl (.inr h)
   ·exact .inl (.inl h)
   ·exact .inr h
theorem Zae (l:List Int):Zat (numsS l)=true/\∀y,y∈numsS l↔y∈l:=by
 obtain⟨h1,h2⟩:=Zjb l [] rfl
 exact⟨h1,λy=>by rw[numsS,h2];simp⟩
theorem Znv (l:List Int):(l.mergeSort λx y=>decide (x<=y)).Pairwise (·<= ·):=by
 have:=List.pairwise_mergeSort (le:=λx y:Int=>decide (x<=y)) (λa b c h1 h2=>by simp at*;omega) (λa b=>by simp;omega) l
 exact this.imp λh=>by simpa using h
theorem Zjc {l:List Int} (h:Zat l=true):numsS l=l:=by
 obtain⟨h1,h2⟩:=Zae l
 exact ZaE idI h1 h h2
end Go.Cx
namespace Go.Cx
def firstS:List Int->Int
 |[]=>0
 |a::l=>if a≠0 then a else firstS l
def unlessS (b:Bool) (e:Int):Int:=if b=true then e else 0
theorem insE_mem (l:List EntryR) (s:ByteArray) (ino:Int) (y:EntryR):y∈insE l s ino↔y=⟨s,ino⟩\/y∈l:=by
 rw[Znu,Zkk]
theorem Znw (l:List EntryR) (s:ByteArray) (ino:Int):(insE l s ino).length=l.length+1:=by
 rw[Znu];simp
theorem Zrh {l:List EntryR} (h:Zai l=true) {s:ByteArray} (hn:∀x∈l,x.name≠s) (ino:Int):Zai (insE l s ino)=true:=by
 rw[ZW] at h⊢
 unfold insE
 have hsp:l.takeWhile (λx=>Zac x.name s)++l.dropWhile (λx=>Zac x.name s)=l:=List.takeWhile_append_dropWhile
 have h':=h
 rw[<-hsp,List.pairwise_append] at h'
 obtain⟨h1,h2,h3⟩:=h'
 have hd:∀y∈l.dropWhile (λx=>Zac x.name s),Zac s y.name=true:=by
  intro y hy
  have hyl:y∈l:=(List.dropWhile_sublist _).subset hy
  cases hdw:l.dropWhile (λx=>Zac x.name s) with
  |nil=>rw[hdw] at hy;cases hy
  |cons z r=>
   have hz:Zac z.name s=false:=by
    have:=List.head?_dropWhile_not (λx:EntryR=>Zac x.name s) l
    rw[hdw] at this
    simpa using this
   have hzl:z∈l:=(List.dropWhile_sublist _).subset (by rw[hdw];simp)
   have hsz:Zac s z.name=true:=(Zns (hn z hzl)).resolve_left (by rw[hz];simp)
   rw[hdw] at hy h2
   rcases List.mem_cons.1 hy with rfl|hy
   ·exact hsz
   ·exact ZeF hsz ((List.pairwise_cons.1 h2).1 y hy)
 have ht:∀y∈l.takeWhile (λx=>Zac x.name s),Zac y.name s=true:=λy hy=>by
  have:=List.all_takeWhile (p:=λx:EntryR=>Zac x.name s) (l:=l)
  exact List.all_eq_true.1 this y hy
 rw[List.pairwise_append,List.pairwise_cons]
 exact⟨h1,⟨hd,h2⟩,λa ha b hb=>by
  rcases List.mem_cons.1 hb with rfl|hb
  ·exact ht a ha
  ·exact h3 a ha b hb⟩
theorem Zri {l:List EntryR} (h:RowE l) (s:ByteArray) (ino:Int):RowE (enterE l s ino).1:=by
 unfold enterE
 split
 ·exact h
 ·rename_i h1
  split
  ·exact h
  ·rename_i h2
   split
   ·exact h
   ·rename_i h3
    split
    ·exact h
    ·rename_i h4
     have hn:∀x∈l,x.name≠s:=ZbA.1 (by simpa using h3)
     refine⟨by rw[Znw];omega,Zrh h.rise hn ino,λx hx=> ?_⟩
     rcases(insE_mem l s ino x).1 hx with rfl|hx
     ·refine⟨?_,by simp only;omega⟩
      unfold checkS at h1
      split at h1
      ·assumption
      ·simp at h1
     ·exact h.ok x hx
theorem Zxj {l:List EntryR} (h:RowE l) (s:ByteArray):RowE (outE l s):=
 ⟨Nat.le_trans (List.length_filter_le _ _) h.len,Zfr h.rise _,λx hx=>h.ok x (List.mem_filter.1 hx).1⟩
theorem Zrj {l:List EntryR} (h:RowE l) (s:ByteArray):RowE (leaveE l s).1:=by
 unfold leaveE
 split
 ·exact Zxj h s
 ·exact h
theorem RowE.nil:RowE []:=⟨by simp,rfl,by simp⟩
theorem Zi.row {f:FSR} (h:Zi f) (k:Int):RowE (findB f.l k).1.l:=by
 rcases findB_cases f.l k with⟨n,hn,hk,e⟩|e
 ·rw[e];exact(ZbL _).1 ((Zs n).1 (h.ok n hn)).row
 ·rw[e];exact .nil
theorem Zi.num {f:FSR} (h:Zi f) (k:Int):0<=(findB f.l k).1.ino/\(findB f.l k).1.ino<f.next:=by
 rcases findB_cases f.l k with⟨n,hn,hk,e⟩|e
 ·rw[e];exact⟨by have:=((Zs n).1 (h.ok n hn)).ino;show 0<=n.ino;omega,h.lt n hn⟩
 ·rw[e];have:=h.next;exact⟨by decide,by show(0:Int)<_;omega⟩
theorem Zi.links {f:FSR} (h:Zi f) (k:Int):0<=(findB f.l k).1.links/\(findB f.l k).1.links<=64:=by
 rcases findB_cases f.l k with⟨n,hn,hk,e⟩|e
 ·rw[e];exact⟨((Zs n).1 (h.ok n hn)).l0,((Zs n).1 (h.ok n hn)).l64⟩
 ·rw[e];exact⟨by decide,by decide⟩
theorem Zi.text {f:FSR} (h:Zi f) (k:Int):(findB f.l k).1.text.size<=4096:=by
 rcases findB_cases f.l k with⟨n,hn,hk,e⟩|e
 ·rw[e];exact((Zs n).1 (h.ok n hn)).size
 ·rw[e];decide
theorem Zi.dirRow {f:FSR} (h:Zi f) (k:Int):RowE (dirD f k).1.l:=by
 unfold dirD
 split
 ·exact .nil
 ·split
  ·exact .nil
  ·exact h.row k
theorem Zbf {f:FSR} {d:Int} (h:(dirD f d).2=0):(findB f.l d).2=true/\(findB f.l d).1.kind=2/\(dirD f d).1=(findB f.l d).1:=by
 unfold dirD at h⊢
 split at h
 ·simp at h
 ·split at h
  ·simp at h
  ·rename_i h1 h2
   rw[if_neg h1,if_neg h2]
   exact⟨by simpa using h1,by simpa using h2,rfl⟩
theorem Zeb {f:FSR} {d:Int} {s:ByteArray} (h:(lookD f d s).2=0):(dirD f d).2=0/\checkS s=0/\(findE (dirD f d).1.l s).2=true/\(findB f.l (findE (dirD f d).1.l s).1).2=true/\(lookD f d s).1=(findB f.l (findE (dirD f d).1.l s).1).1:=by
 unfold lookD at h⊢
 by_cases h1:(dirD f d).2≠0
 ·rw[if_pos h1] at h;exact absurd h h1
 rw[if_neg h1] at h⊢
 by_cases h2:checkS s≠0
 ·rw[if_pos h2] at h;exact absurd h h2
 rw[if_neg h2] at h⊢
 by_cases h3:(findE (dirD f d).1.l s).2=false
 ·rw[if_pos h3] at h;simp at h
 rw[if_neg h3] at h⊢
 by_cases h4:(findB f.l (findE (dirD f d).1.l s).1).2=false
 ·rw[if_pos h4] at h;simp at h
 rw[if_neg h4]
 exact⟨by simpa using h1,by simpa using h2,by simpa using h3,by simpa using h4,rfl⟩
theorem Zfs {f:FSR} {d:Int} {s:ByteArray} (h:(lookD f d s).2=0):(lookD f d s).1∈f.l:=by
 obtain⟨_,_,_,h4,h5⟩:=Zeb h
 rw[h5];exact(Zm h4).1
theorem put_len {f:FSR} (h:Zo NodeR.ino f.l=true) {n:NodeR} (hf:(findB f.l n.ino).2=true):(putB f n).l.length=f.l.length:=by
 unfold putB
 have:plc f.l n.ino<f.l.length/\Zcm f.l (plc f.l n.ino)=n.ino:=by
  unfold findB at hf
  split at hf
  ·assumption
  ·simp at hf
 rw[if_pos this];simp
theorem Zxk {f:FSR} {n:NodeR} (hn:n.ino<f.next):(putB f n).next=f.next:=by
 show max f.next (n.ino+1)=f.next;omega
theorem Zi.again {f:FSR} (h:Zi f) {n:NodeR} (hn:nodeOk n=true) (hf:(findB f.l n.ino).2=true):Zi (putB f n)/\(putB f n).next=f.next/\(putB f n).l.length=f.l.length:=by
 have hl:=put_len h.rise hf
 have hlt:n.ino<f.next:=by
  have:=h.lt _ (Zm hf).1
  rwa[(Zm hf).2] at this
 exact⟨h.put hn (by rw[hl];exact h.len),Zxk hlt,hl⟩
theorem Zrk {n:NodeR} (h:nodeOk n=true) (hk:n.kind=2) {l:List EntryR} (hl:RowE l):nodeOk {n with l:=l}=true:=by
 have g:=(Zs n).1 h
 exact(Zs _).2 ⟨g.ino,g.k1,g.k3,g.l0,g.l64,g.size,(ZbL l).2 hl,g.dir,λq=>absurd hk q⟩
theorem Znx {n:NodeR} (h:nodeOk n=true) {l:List EntryR} (hl:RowE l) (hn:n.l.length=0->l.length=0):nodeOk {n with l:=l}=true:=by
 have g:=(Zs n).1 h
 exact(Zs _).2 ⟨g.ino,g.k1,g.k3,g.l0,g.l64,g.size,(ZbL l).2 hl,g.dir,λq=>hn (g.els q)⟩
theorem Zgt {n:NodeR} (h:nodeOk n=true) {k:Int} (h0:0<=k) (h1:k<=64):nodeOk {n with links:=k}=true:=by
 have g:=(Zs n).1 h
 exact(Zs _).2 ⟨g.ino,g.k1,g.k3,h0,h1,g.size,g.row,g.dir,g.els⟩
theorem Zny {n:NodeR} (h:nodeOk n=true) (hk:n.kind≠2) {t:ByteArray} (ht:t.size<=4096):nodeOk {n with text:=t}=true:=by
 have g:=(Zs n).1 h
 exact(Zs _).2 ⟨g.ino,g.k1,g.k3,g.l0,g.l64,ht,g.row,λq=>absurd q hk,g.els⟩
structure Zft (f g:FSR):Prop where
 rows:Zi g
 next:g.next=f.next
 len:g.l.length<=f.l.length
theorem Zft.refl {f:FSR} (h:Zi f):Zft f f:=⟨h,rfl,Nat.le_refl _⟩
theorem Zft.trans {f g k:FSR} (h1:Zft f g) (h2:Zft g k):Zft f k:=⟨h2.rows,h2.next.trans h1.next,Nat.le_trans h2.len h1.len⟩
theorem Zi.find_ok {f:FSR} (h:Zi f) {d:Int} (hd:(findB f.l d).2=true):nodeOk (findB f.l d).1=true/\(findB f.l d).1.ino=d:=⟨h.ok _ (Zm hd).1,(Zm hd).2⟩
theorem ZaQ {f:FSR} (h:Zi f) {dir:Int} (hd:(findB f.l dir).2=true) (hk:(findB f.l dir).1.kind=2) (s:ByteArray) (ino:Int):Zft f (enteredD f dir s ino):=by
 obtain⟨h1,h2⟩:=h.find_ok hd
 obtain⟨a,b,c⟩:=h.again (n:={(findB f.l dir).1 with l:=(enterE (findB f.l dir).1.l s ino).1}) (Zrk h1 hk (Zri (h.row dir) s ino)) (by simp only[h2];exact hd)
 exact⟨a,b,Nat.le_of_eq c⟩
theorem Zrl {l:List EntryR} (s:ByteArray) (h:l.length=0):(leaveE l s).1.length=0:=by
 have:l=[]:=List.eq_nil_of_length_eq_zero h
 subst this;rfl
theorem Zcg {f:FSR} (h:Zi f) {dir:Int} (hd:(findB f.l dir).2=true) (s:ByteArray):Zft f (leftD f dir s):=by
 obtain⟨h1,h2⟩:=h.find_ok hd
 obtain⟨a,b,c⟩:=h.again (n:={(findB f.l dir).1 with l:=(leaveE (findB f.l dir).1.l s).1}) (Znx h1 (Zrj (h.row dir) s) (Zrl s)) (by simp only[h2];exact hd)
 exact⟨a,b,Nat.le_of_eq c⟩
theorem ZtV {f:FSR} (h:Zi f) {ino:Int} (hd:(findB f.l ino).2=true):Zft f (Zkq f ino):=by
 unfold Zkq
 split
 ·exact⟨h.out ino,rfl,List.length_filter_le _ _⟩
 ·rename_i hl
  obtain⟨h1,h2⟩:=h.find_ok hd
  have g:=h.links ino
  obtain⟨a,b,c⟩:=h.again (n:={(findB f.l ino).1 with links:=(findB f.l ino).1.links -1}) (Zgt h1 (by omega) (by omega)) (by simp only[h2];exact hd)
  exact⟨a,b,Nat.le_of_eq c⟩
theorem Zap {f:FSR} (h:Zi f) {dir:Int} (hd:(findB f.l dir).2=true) (s:ByteArray) (q:Int):findB (leftD f dir s).l q=if q=dir then({(findB f.l dir).1 with l:=(leaveE (findB f.l dir).1.l s).1},true) else findB f.l q:=by
 unfold leftD
 rw[Zbe h.rise]
 simp only[(h.find_ok hd).2]
theorem Zau {f:FSR} (h:Zi f) {dir:Int} (hd:(findB f.l dir).2=true) (s:ByteArray) (ino:Int) (q:Int):findB (enteredD f dir s ino).l q=if q=dir then({(findB f.l dir).1 with l:=(enterE (findB f.l dir).1.l s ino).1},true) else findB f.l q:=by
 unfold enteredD
 rw[Zbe h.rise]
 simp only[(h.find_ok hd).2]
theorem ZhA {f:FSR} (h:Zi f) {ino:Int} (hd:(findB f.l ino).2=true) (q:Int):findB (Zkq f ino).l q=if q=ino then(if(findB f.l ino).1.links<=1 then(.zero,false) else({(findB f.l ino).1 with links:=(findB f.l ino).1.links -1},true)) else findB f.l q:=by
 unfold Zkq
 split
 ·rename_i hl
  rw[ZgG h.rise]
 ·rw[Zbe h.rise]
  simp only[(h.find_ok hd).2]
theorem Zrm {f:FSR} (h:Zi f) {dir:Int} (hd:(findB f.l dir).2=true) (s:ByteArray) {ino:Int} (hne:ino≠dir):
  withoutD f dir s ino=if(findB f.l ino).1.links<=1 then outF (leftD f dir s) ino else putB (leftD f dir s) {(findB f.l ino).1 with links:=(findB f.l ino).1.links -1}:=by
 unfold withoutD Zkq
 rw[Zap h hd,if_neg hne]
theorem ZlK {f:FSR} (h:Zi f) {dir:Int} (hd:(findB f.l dir).2=true) (s:ByteArray) {ino:Int} (hi:(findB f.l ino).2=true):Zft f (withoutD f dir s ino):=by
 have h1:=Zcg h hd s
 refine h1.trans (ZtV h1.rows ?_)
 rw[Zap h hd]
 split
 ·rfl
 ·exact hi
theorem ZlL {f:FSR} (h:Zi f) {dir:Int} {s:ByteArray} (hl:(lookD f dir s).2=0):Zft f (withoutD f dir s (lookD f dir s).1.ino):=by
 obtain⟨h1,h2,h3,h4,h5⟩:=Zeb hl
 refine ZlK h (Zbf h1).1 s ?_
 rw[h5,(h.find_ok h4).2];exact h4
theorem Zjd {f:FSR} (h:Zi f) (to:Int) (t:ByteArray):Zft f (clearD f to t):=by
 unfold clearD
 split
 ·rename_i hl;exact ZlL h hl
 ·exact .refl h
def mayD (f:FSR) (d:NodeR) (s:ByteArray) (n:NodeR):Int:=
 firstS [checkS s,unlessS (findE d.l s).2 7,unlessS (decide (256<=f.l.length)||decide (256<=d.l.length)) 12,unlessS (!nodeOk n||decide (0<n.l.length)) 1]
theorem Znz (f:FSR) (dir:Int) (s:ByteArray) (n:NodeR):
  addD f dir s n=if firstS [(dirD f dir).2,mayD f (dirD f dir).1 s (newN f n)]=0 then(putB (enteredD f dir s f.next) (newN f n),0) else(f,firstS [(dirD f dir).2,mayD f (dirD f dir).1 s (newN f n)]):=by
 unfold addD mayD
 generalize dirD f dir=D
 obtain⟨d,e⟩:=D
 simp only
 have hl:(newN f n).l=n.l:=rfl
 rw[hl]
 generalize newN f n=m
 by_cases q1:e=0
 case neg=>simp[q1,firstS]
 by_cases q2:checkS s=0
 case neg=>simp[q1,q2,firstS]
 cases q3:(findE d.l s).2
 case true=>simp[q1,q2,firstS,unlessS]
 by_cases q4:256<=f.l.length\/256<=d.l.length
 ·have q4':(decide (256<=f.l.length)||decide (256<=d.l.length))=true:=by simpa using q4
  simp[q1,q2,firstS,unlessS,q4,q4']
 ·have q4':(decide (256<=f.l.length)||decide (256<=d.l.length))=false:=by simpa using q4
  rw[q4']
  by_cases q5:nodeOk m=false\/0<n.l.length
  ·have q5':(!nodeOk m||decide (0<n.l.length))=true:=by simpa using q5
   rw[q5']
   simp[q1,q2,firstS,unlessS,q4,q5]
  ·have q5':(!nodeOk m||decide (0<n.l.length))=false:=by simpa using q5
   rw[q5']
   simp[q1,q2,firstS,unlessS,q4,q5]
def giveE (f:FSR) (dir:Int) (s:ByteArray) (ino:Int):Int:=
 firstS [(dirD f dir).2,unlessS (!(findB f.l ino).2) 6,unlessS (decide ((findB f.l ino).1.kind=2)) 9,checkS s,unlessS (findE (dirD f dir).1.l s).2 7,unlessS (decide (256<=(dirD f dir).1.l.length)||decide (64<=(findB f.l ino).1.links)) 12]
theorem ZbT (f:FSR) (dir:Int) (s:ByteArray) (ino:Int):
  giveD f dir s ino=if giveE f dir s ino=0 then(putB (enteredD f dir s ino) {(findB f.l ino).1 with links:=(findB f.l ino).1.links+1},0) else(f,giveE f dir s ino):=by
 unfold giveD giveE
 generalize dirD f dir=D
 obtain⟨d,e⟩:=D
 generalize findB f.l ino=N
 obtain⟨n,is⟩:=N
 simp only
 by_cases q1:e=0
 case neg=>simp[q1,firstS]
 cases is with
 |false=>simp[q1,firstS,unlessS]
 |true=>
 by_cases q0:n.kind=2
 ·simp[q1,q0,firstS,unlessS]
 by_cases q2:checkS s=0
 case neg=>simp[q1,q0,q2,firstS,unlessS]
 cases q3:(findE d.l s).2
 case true=>simp[q1,q0,q2,firstS,unlessS]
 by_cases q4:256<=d.l.length\/64<=n.links
 ·have q4':(decide (256<=d.l.length)||decide (64<=n.links))=true:=by simpa using q4
  simp[q1,q0,q2,firstS,unlessS,q4,q4']
 ·have q4':(decide (256<=d.l.length)||decide (64<=n.links))=false:=by simpa using q4
  rw[q4']
  simp[q1,q0,q2,firstS,unlessS,q4]
theorem ZnA {f:FSR} {dir:Int} {s:ByteArray} {ino:Int} (h:giveE f dir s ino=0):(dirD f dir).2=0/\(findB f.l ino).2=true/\(findB f.l ino).1.kind≠2/\checkS s=0/\(findE (dirD f dir).1.l s).2=false/\(dirD f dir).1.l.length<256/\(findB f.l ino).1.links<64:=by
 unfold giveE at h
 generalize dirD f dir=D at*
 obtain⟨d,e⟩:=D
 generalize findB f.l ino=N at*
 obtain⟨n,is⟩:=N
 simp only at*
 by_cases q1:e=0
 case neg=>simp[q1,firstS] at h
 cases is with
 |false=>simp[q1,firstS,unlessS] at h
 |true=>
 by_cases q0:n.kind=2
 ·simp[q1,q0,firstS,unlessS] at h
 by_cases q2:checkS s=0
 case neg=>simp[q1,q0,q2,firstS,unlessS] at h
 cases q3:(findE d.l s).2
 case true=>simp[q1,q0,q2,q3,firstS,unlessS] at h
 by_cases q4:256<=d.l.length\/64<=n.links
 ·have q4':(decide (256<=d.l.length)||decide (64<=n.links))=true:=by simpa using q4
  rw[q4'] at h
  simp[q1,q0,q2,q3,firstS,unlessS] at h
 ·exact⟨q1,rfl,q0,q2,rfl,by omega,by omega⟩
theorem may_ok {f:FSR} {d:NodeR} {s:ByteArray} {n:NodeR} (h:mayD f d s n=0):checkS s=0/\(findE d.l s).2=false/\f.l.length<256/\d.l.length<256/\nodeOk n=true/\n.l.length=0:=by
 unfold mayD at h
 by_cases q2:checkS s=0
 case neg=>simp[q2,firstS,unlessS] at h
 cases q3:(findE d.l s).2
 case true=>simp[q2,q3,firstS,unlessS] at h
 by_cases q4:256<=f.l.length\/256<=d.l.length
 ·have q4':(decide (256<=f.l.length)||decide (256<=d.l.length))=true:=by simpa using q4
  rw[q4'] at h
  simp[q2,q3,firstS,unlessS] at h
 ·have q4':(decide (256<=f.l.length)||decide (256<=d.l.length))=false:=by simpa using q4
  rw[q4'] at h
  by_cases q5:nodeOk n=false\/0<n.l.length
  ·have q5':(!nodeOk n||decide (0<n.l.length))=true:=by simpa using q5
   rw[q5'] at h
   simp[q2,q3,firstS,unlessS] at h
  ·simp only[not_or,Bool.not_eq_false] at q5
   exact⟨q2,rfl,by omega,by omega,q5.1,by omega⟩
theorem ZlM {a b:Int} (h:firstS [a,b]=0):a=0/\b=0:=by
 simp only[firstS] at h
 split at h
 ·exact absurd h (by assumption)
 ·rename_i q
  simp only[ne_eq,Decidable.not_not] at q
  split at h
  ·exact absurd h (by assumption)
  ·rename_i q2
   exact⟨q,by simpa using q2⟩
theorem Zec {f:FSR} (h:Zi f) (to:Int) (t:ByteArray) (q:Int) (hq:(lookD f to t).2=0->q≠(lookD f to t).1.ino) (hto:(lookD f to t).2=0->(lookD f to t).1.ino≠to):
  findB (clearD f to t).l q=if q=to/\(lookD f to t).2=0 then({(findB f.l to).1 with l:=(leaveE (findB f.l to).1.l t).1},true) else findB f.l q:=by
 unfold clearD
 by_cases hl:(lookD f to t).2=0
 ·rw[if_pos hl]
  obtain⟨h1,h2,h3,h4,h5⟩:=Zeb hl
  have hd:=(Zbf h1).1
  have hs:=Zcg h hd t
  have hi:=findB_of h.rise (Zfs hl)
  unfold withoutD
  rw[ZhA hs.rows (by rw[Zap h hd,if_neg (hto hl),hi]),if_neg (hq hl),Zap h hd]
  by_cases e:q=to
  ·rw[if_pos e,if_pos ⟨e,hl⟩]
  ·rw[if_neg e,if_neg (λg=>e g.1)]
 ·rw[if_neg hl,if_neg (λg=>hl g.2)]
end Go.Cx
set_option linter.unusedVariables false
set_option linter.unusedSimpArgs false
namespace Go.Cx
abbrev w64 (n:Int):Int:=IntKind.i64.wrap n
end Go.Cx
set_option linter.unusedVariables false
namespace Go.Cx
open Go.Lib
theorem Zrn {l:List Int} {a:Int} (h:Zat l=true) (hl:∀x∈l,x<a):Zat (l++[a])=true:=by
 rw[Zu] at h⊢
 rw[List.pairwise_append]
 exact⟨h,by simp,λx hx y hy=>by simp at hy;subst hy;exact hl x hx⟩
theorem Zje (d:List Int) (hd:d.Pairwise (·<= ·)):∀m,m<=d.length->Zat (compactUpTo d.toArray m)=true/\(∀y,y∈compactUpTo d.toArray m↔y∈d.take m)
 |0,_=>⟨rfl,by simp[compactUpTo]⟩
 |m+1,h=>by
  obtain⟨h1,h2⟩:=Zje d hd m (by omega)
  have hm:m<d.length:=by omega
  have e:d.toArray[m]! =d[m]:=by simp[getElem!_pos,hm]
  rw[compactUpTo_succ,e]
  have htk:d.take (m+1)=d.take m++[d[m]]:=List.take_succ_eq_append_getElem hm
  by_cases hk:keeps d.toArray m=true
  ·rw[if_pos hk]
   refine⟨Zrn h1 λx hx=> ?_,λy=>by rw[htk,List.mem_append,List.mem_append,h2]⟩
   have hx:=(h2 x).1 hx
   obtain⟨j,hj,rfl⟩:=List.getElem_of_mem hx
   simp only[List.length_take] at hj
   simp only[List.getElem_take]
   simp only[keeps,decide_eq_true_eq] at hk
   have hjm:j<m:=by omega
   have hne:d[m]≠d[m -1]'(by omega):=by
    rcases hk with hk|hk
    ·omega
    ·simpa[getElem!_pos,hm,show m -1<d.length by omega] using hk
   have h3:=List.pairwise_iff_getElem.1 hd (m -1) m (by omega) hm (by omega)
   have h4:d[j]<=d[m -1]'(by omega):=by
    rcases Nat.lt_or_ge j (m -1) with q|q
    ·exact List.pairwise_iff_getElem.1 hd j (m -1) (by omega) (by omega) q
    ·have:j=m -1:=by omega
     subst this;exact Int.le_refl _
   omega
  ·rw[if_neg hk,List.append_nil]
   refine⟨h1,λy=> ?_⟩
   simp only[keeps,decide_eq_true_eq,not_or,ne_eq,Decidable.not_not] at hk
   obtain⟨hk0,hk1⟩:=hk
   have e2:d[m]=d[m -1]'(by omega):=by simpa[getElem!_pos,hm,show m -1<d.length by omega] using hk1
   rw[h2,htk,List.mem_append]
   refine⟨.inl,λh=>h.elim id λh=> ?_⟩
   simp at h
   subst h
   rw[e2]
   exact List.mem_of_getElem (i:=m -1) (h:=by simp;omega) (by simp)
theorem Zdz (l:List Int):compact (l.mergeSort λx y=>decide (x<=y))=numsS l:=by
 have hs:=Znv l
 generalize hz:(l.mergeSort λx y=>decide (x<=y))=z at*
 obtain⟨h1,h2⟩:=Zje z hs z.length (Nat.le_refl _)
 obtain⟨h3,h4⟩:=Zae l
 refine ZaE idI h1 h3 λx=> ?_
 show x∈compactUpTo z.toArray z.length↔_
 rw[h2,h4,List.take_length,<-hz];exact List.mem_mergeSort
theorem ZhB (l:List Int):(compact l).length<=l.length:=by
 unfold compact compactUpTo
 rw[List.length_map]
 exact Nat.le_trans (List.length_filter_le _ _) (by simp)
theorem ZnB {l:List Int} (h:l≠[]):compact l≠[]:=by
 unfold compact
 cases l with
 |nil=>exact absurd rfl h
 |cons a l=>
  intro e
  have:(0:Nat)∈(List.range (a::l).length).filter (keeps (a::l).toArray):=by
   rw[List.mem_filter]
   exact⟨by simp,by simp[keeps]⟩
  unfold compactUpTo at e
  rw[List.map_eq_nil_iff] at e
  rw[e] at this
  cases this
end Go.Cx
set_option linter.unusedVariables false
namespace Go.Cx
structure CalmF (f:FSR) (c:Zj):Prop where
 here:(c.kind=9\/c.kind=10)->(lookD f c.ino c.name).2=0->(lookD f c.ino c.name).1.ino≠c.ino
 there:c.kind=12->(lookD f c.to_ c.name2).2=0->(lookD f c.to_ c.name2).1.ino≠c.to_
end Go.Cx
namespace Go.Cx
structure Step (f g h:FSR) (P:Int->Prop):Prop where
 rise:Zo NodeR.ino h.l=true
 next:h.next<=g.next
 yes:∀q,P q->findB h.l q=findB g.l q
 no:∀q,¬P q->findB h.l q=findB f.l q
theorem Zxl {f g h:FSR} {P:Int->Prop} (hf:Zi f) (hg:Zi g) (H:Step f g h P) (k:Int) (hk:¬P k):Step f g ((changeS f g k).foldl applyOne h) (λq=>q=k\/P q):=by
 unfold changeS
 by_cases h1:(findB g.l k).2=false
 ·rw[if_pos h1]
  simp only[List.foldl_cons,List.foldl_nil,applyOne,if_true]
  have hz:findB g.l k=(.zero,false):=Prod.ext (ZaB h1) h1
  refine⟨Zar _ H.rise _,H.next,λq hq=> ?_,λq hq=> ?_⟩
  ·rw[ZgG H.rise]
   by_cases e:q=k
   ·rw[if_pos e,e,hz]
   ·rw[if_neg e];exact H.yes q (hq.resolve_left e)
  ·rw[ZgG H.rise,if_neg (λe=>hq (.inl e))]
   exact H.no q (λe=>hq (.inr e))
 rw[if_neg h1]
 have h1':(findB g.l k).2=true:=by simpa using h1
 obtain⟨m1,m2⟩:=Zm h1'
 by_cases h2:(findB f.l k).2=false\/(findB f.l k).1≠(findB g.l k).1
 ·rw[if_pos h2]
  simp only[List.foldl_cons,List.foldl_nil,applyOne,Bool.false_eq_true,if_false]
  have hlt:=hg.lt _ m1
  refine⟨(ZcZ H.rise _).1,?_,λq hq=> ?_,λq hq=> ?_⟩
  ·show max h.next ((findB g.l k).1.ino+1)<=g.next
   have:=H.next;omega
  ·rw[Zbe H.rise]
   by_cases e:q=k
   ·rw[if_pos (e.trans m2.symm),e]
    exact Prod.ext rfl h1'.symm
   ·rw[if_neg (λe2=>e (e2.trans m2))];exact H.yes q (hq.resolve_left e)
  ·rw[Zbe H.rise,if_neg (λe2=>hq (.inl (e2.trans m2)))]
   exact H.no q (λe=>hq (.inr e))
 ·rw[if_neg h2]
  show Step f g h _
  simp only[not_or,ne_eq,Decidable.not_not,Bool.not_eq_false] at h2
  refine⟨H.rise,H.next,λq hq=> ?_,λq hq=>H.no q (λe=>hq (.inr e))⟩
  rcases hq with rfl|hq
  ·rw[H.no q hk];exact Prod.ext h2.2 (h2.1.trans h1'.symm)
  ·exact H.yes q hq
theorem Zpk {f g:FSR} (hf:Zi f) (hg:Zi g):∀(ks:List Int) (h:FSR) (P:Int->Prop),Step f g h P->(∀k∈ks,¬P k)->ks.Nodup->Step f g ((ks.flatMap (changeS f g)).foldl applyOne h) (λq=>q∈ks\/P q)
 |[],h,P,H,_,_=>by simpa using H
 |k::ks,h,P,H,hP,hn=>by
  have h1:=Zxl hf hg H k (hP k (by simp))
  obtain⟨n1,n2⟩:=List.nodup_cons.1 hn
  have h2:=Zpk hf hg ks _ _ h1 (λq hq e=>e.elim (λe=>n1 (e▸hq)) (hP q (by simp[hq]))) n2
  rw[List.flatMap_cons,List.foldl_append]
  exact⟨h2.rise,h2.next,λq hq=>h2.yes q (by simp only[List.mem_cons] at hq;rcases hq with(h|h)|h<;>simp[h]),λq hq=>h2.no q (λe=>hq (by simp only[List.mem_cons];rcases e with h|h|h<;>simp[h]))⟩
theorem ZnC {l:List Int} (h:Zat l=true):l.Nodup:=by
 rw[Zu] at h
 exact h.imp λh=>by show¬_=_;intro e;subst e;exact absurd h (Int.lt_irrefl _)
theorem Zcs {l:List NodeR} (h:Zo NodeR.ino l=true) (n:NodeR):n∈l↔findB l n.ino=(n,true):=by
 rw[Zdx h];simp
theorem ZtW {f g:FSR} (hf:Zi f) (hg:Zi g) (hn:f.next<=g.next):applyS f (changesS f g) g.next=g:=by
 obtain⟨r1,r2⟩:=Zae (f.l.map (·.ino)++g.l.map (·.ino))
 have H:=Zpk hf hg (numsS (f.l.map (·.ino)++g.l.map (·.ino))) f (λ_=>False) ⟨hf.rise,hn,λ_ h=>h.elim,λ_ _=>rfl⟩ (λ_ _=>id) (ZnC r1)
 unfold applyS changesS
 generalize((numsS (f.l.map (·.ino)++g.l.map (·.ino))).flatMap (changeS f g)).foldl applyOne f=h at*
 have hm:∀q,q∈numsS (f.l.map (·.ino)++g.l.map (·.ino))↔(∃n∈f.l,n.ino=q)\/∃n∈g.l,n.ino=q:=λq=>by rw[r2];simp
 have e:h.l=g.l:=by
  refine ZaE NodeR.ino H.rise hg.rise λn=> ?_
  rw[Zcs H.rise,Zcs hg.rise]
  by_cases hq:n.ino∈numsS (f.l.map (·.ino)++g.l.map (·.ino))
  ·rw[H.yes n.ino (.inl hq)]
  ·rw[H.no n.ino (λe=>e.elim hq id)]
   have h1:¬findB f.l n.ino=(n,true):=λe=>hq ((hm _).2 (.inl ⟨n,(Zcs hf.rise n).2 e,rfl⟩))
   have h2:¬findB g.l n.ino=(n,true):=λe=>hq ((hm _).2 (.inr ⟨n,(Zcs hg.rise n).2 e,rfl⟩))
   exact⟨λe=>absurd e h1,λe=>absurd e h2⟩
 have hx:=H.next
 cases g with
 |mk gl gn=>
  simp only at e hx⊢
  rw[e]
  congr 1
  omega
theorem ZhC (a b:FSR) (k:Int):(changeS a b k).length<=1:=by
 unfold changeS
 split
 ·simp
 ·split<;>simp
theorem Zfu (l:List Int):(numsS l).length<=l.length:=by
 have h:∀(l a:List Int),(l.foldl ZbJ a).length<=a.length+l.length:=by
  intro l
  induction l with
  |nil=>intro a;simp
  |cons x l ih=>
   intro a
   have h1:=ih (ZbJ a x)
   have h2:(ZbJ a x).length<=a.length+1:=by
    have e1:a.takeWhile (λy=>decide (y<x))++a.dropWhile (λy=>decide (y<x))=a:=List.takeWhile_append_dropWhile
    have h3:(a.dropWhile λy=>decide (y<=x)).length<=(a.dropWhile λy=>decide (y<x)).length:=by
     clear e1 h1 ih
     induction a with
     |nil=>simp
     |cons y a iha=>
      simp only[List.dropWhile_cons]
      by_cases q1:y<x
      ·rw[if_pos (by simp;omega),if_pos (by simpa using q1)];exact iha
      ·rw[if_neg (c:=(decide (y<x))=true) (by simpa using q1)]
       split
       ·exact Nat.le_trans (List.dropWhile_sublist _).length_le (by simp)
       ·exact Nat.le_refl _
    have h4:=congrArg List.length e1
    simp only[List.length_append] at h4
    simp only[ZbJ,List.length_append,List.length_cons]
    omega
   simp only[List.foldl_cons,List.length_cons]
   omega
 have:=h l []
 simp only[List.length_nil,Nat.zero_add] at this
 exact this
def cA:Zj:=⟨6,1,0,0,0,T [97],.empty,.empty⟩
theorem rowsN:Zcd newF=true:=by decide+kernel
def Zch (o:List Int) (k:Int):List Int:=if k∈o then o else o++[k]
def Zbb (o:List Int) (ks:List Int):List Int:=ks.foldl Zch o
def bfs (kids:Int->List Int):Nat->Nat->List Int->List Int
 |0,_,o=>o
 |n+1,k,o=>match o[k]? with
  |some x=>bfs kids n (k+1) (Zbb o (kids x))
  |none=>o
theorem Zro (o:List Int) (k y:Int):y∈Zch o k↔y∈o\/y=k:=by
 unfold Zch
 split
 ·rename_i h;exact⟨.inl,λh'=>h'.elim id λe=>e▸h⟩
 ·simp
theorem addAll_mem:∀(ks o:List Int) (y:Int),y∈Zbb o ks↔y∈o\/y∈ks
 |[],o,y=>by simp[Zbb]
 |k::ks,o,y=>by
  have:=addAll_mem ks (Zch o k) y
  unfold Zbb at this⊢
  rw[List.foldl_cons,this,Zro]
  simp only[List.mem_cons,or_assoc]
theorem ZlN {o:List Int} (h:o.Nodup) (k:Int):(Zch o k).Nodup:=by
 unfold Zch
 split
 ·exact h
 ·rename_i hk
  rw[List.nodup_append]
  exact⟨h,by simp,λa ha b hb e=>by simp at hb;subst hb e;exact hk ha⟩
theorem ZdA:∀(ks:List Int) {o:List Int},o.Nodup->(Zbb o ks).Nodup
 |[],o,h=>h
 |k::ks,o,h=>ZdA ks (ZlN h k)
theorem Zrp {o:List Int} {i:Nat} {x:Int} (h:o[i]? =some x) (k:Int):(Zch o k)[i]? =some x:=by
 unfold Zch
 split
 ·exact h
 ·rw[List.getElem?_append_left (List.getElem?_eq_some_iff.1 h).1];exact h
theorem Zjf:∀(ks:List Int) {o:List Int} {i:Nat} {x:Int},o[i]? =some x->(Zbb o ks)[i]? =some x
 |[],o,i,x,h=>h
 |k::ks,o,i,x,h=>Zjf ks (Zrp h k)
theorem Zrq (o:List Int) (k:Int):o.length<=(Zch o k).length:=by
 unfold Zch
 split<;>simp
theorem Zjg:∀(ks o:List Int),o.length<=(Zbb o ks).length
 |[],o=>Nat.le_refl _
 |k::ks,o=>Nat.le_trans (Zrq o k) (Zjg ks _)
structure Bfs (kids:Int->List Int) (U:List Int) (top:Int) (k:Nat) (o:List Int):Prop where
 nodup:o.Nodup
 sub:∀y∈o,y∈U
 sound:∀y∈o,Reach kids top y
 first:∀y∈kids top,y∈o
 done:∀j x,j<k->o[j]? =some x->∀y∈kids x,y∈o
 le:k<=o.length
theorem Zkr {o U:List Int} (h:o.Nodup) (hs:∀y∈o,y∈U):o.length<=U.length:=by
 induction o generalizing U with
 |nil=>simp
 |cons a o ih=>
  obtain⟨h1,h2⟩:=List.nodup_cons.1 h
  have ha:a∈U:=hs a (by simp)
  have:=ih (U:=U.erase a) h2 λy hy=>(List.mem_erase_of_ne (by rintro rfl;exact h1 hy)).2 (hs y (by simp[hy]))
  rw[List.length_erase_of_mem ha] at this
  have:0<U.length:=List.length_pos_of_mem ha
  simp only[List.length_cons]
  omega
theorem Bfs.next {kids:Int->List Int} {U:List Int} {top:Int} {k:Nat} {o:List Int} (hU:∀i,∀y∈kids i,y∈U) (h:Bfs kids U top k o) {x:Int} (hx:o[k]? =some x):Bfs kids U top (k+1) (Zbb o (kids x)):=by
 have hxo:x∈o:=List.mem_of_getElem? hx
 refine⟨ZdA _ h.nodup,λy hy=> ?_,λy hy=> ?_,λy hy=>(addAll_mem _ _ _).2 (.inl (h.first y hy)),λj z hj hz y hy=> ?_,?_⟩
 ·rcases(addAll_mem _ _ _).1 hy with hy|hy
  ·exact h.sub y hy
  ·exact hU x y hy
 ·rcases(addAll_mem _ _ _).1 hy with hy|hy
  ·exact h.sound y hy
  ·exact .step (h.sound x hxo) hy
 ·have hjl:j<o.length:=by
   have:=(List.getElem?_eq_some_iff.1 hx).1;omega
  have hz':o[j]? =some z:=by
   have h1:=Zjf (kids x) (List.getElem?_eq_getElem hjl)
   rw[h1] at hz
   rw[List.getElem?_eq_getElem hjl];exact hz
  by_cases hjk:j=k
  ·subst hjk
   rw[hx] at hz'
   injection hz' with e
   subst e
   exact(addAll_mem _ _ _).2 (.inr hy)
  ·exact(addAll_mem _ _ _).2 (.inl (h.done j z (by omega) hz' y hy))
 ·have h1:=Zjg (kids x) o
  have:=(List.getElem?_eq_some_iff.1 hx).1
  omega
theorem Bfs.end {kids:Int->List Int} {U:List Int} {top:Int} {k:Nat} {o:List Int} (h:Bfs kids U top k o) (hk:o.length<=k) (q:Int):q∈o↔Reach kids top q:=by
 refine⟨h.sound q,λhr=> ?_⟩
 induction hr with
 |one hy=>exact h.first _ hy
 |step _ hy ih=>
  obtain⟨j,hj,e⟩:=List.getElem_of_mem ih
  exact h.done j _ (by omega) (by rw[List.getElem?_eq_getElem hj,e]) _ hy
theorem Zks {kids:Int->List Int} {U:List Int} {top:Int} (hU:∀i,∀y∈kids i,y∈U):∀(n k:Nat) (o:List Int),Bfs kids U top k o->U.length<n+k->(∀q,q∈bfs kids n k o↔Reach kids top q)/\(bfs kids n k o).length<=U.length
 |0,k,o,h,hn=>by
  have h1:=Zkr h.nodup h.sub
  have h2:=h.le
  omega
 |n+1,k,o,h,hn=>by
  rw[bfs]
  cases hx:o[k]? with
  |none=>exact⟨h.end (List.getElem?_eq_none_iff.1 hx),Zkr h.nodup h.sub⟩
  |some x=>exact Zks hU n (k+1) _ (h.next hU hx) (by omega)
def belowL (l:List NodeR) (top:Int):List Int:=bfs (Zv l) ((Zn l).length+1) 0 (Zbb [] (Zv l top))
theorem ZhD (l:List NodeR) (top:Int):Bfs (Zv l) (Zn l) top 0 (Zbb [] (Zv l top)):=
 ⟨ZdA _ List.nodup_nil,λy hy=>ZaK l top y (((addAll_mem _ _ _).1 hy).resolve_left (by simp)),λy hy=> .one (((addAll_mem _ _ _).1 hy).resolve_left (by simp)),λy hy=>(addAll_mem _ _ _).2 (.inr hy),λj x hj=>by omega,Nat.zero_le _⟩
theorem Zjh (l:List NodeR) (top q:Int):q∈belowL l top↔Reach (Zv l) top q:=(Zks (ZaK l) _ 0 _ (ZhD l top) (by omega)).1 q
theorem Zrr (l:List NodeR) (top:Int):(belowL l top).length<=(Zn l).length:=(Zks (ZaK l) _ 0 _ (ZhD l top) (by omega)).2
def badN (l:List NodeR) (i:Nat) (n:NodeR):Prop:=0<i/\(n.links<1\/n.kind=2/\(1<n.links\/¬n.ino∈belowL l 1))
structure Zkt (l:List NodeR) (i:Nat) (n:NodeR):Prop where
 links:n.links=((Zn l).count n.ino:Nat)
 not:¬badN l i n
 kids:∀x∈n.l,(findB l x.ino).2=true
theorem ZhE {f:FSR} (h:Zi f) (hh:Zhv f.l=true) {i:Nat} (hi:i<f.l.length):(0<i↔1<f.l[i].ino):=by
 have h0':∀r,f.l[0]? =some r->r.ino=1:=by
  intro r hr
  cases hl:f.l with
  |nil=>rw[hl] at hr;cases hr
  |cons q l=>
   rw[hl] at hh hr
   simp only[ZfU,Bool.and_eq_true,decide_eq_true_eq] at hh
   simp only[List.getElem?_cons_zero,Option.some.injEq] at hr
   rw[<-hr];exact hh.1.1
 have h0:=h0' (f.l[0]'(by omega)) (List.getElem?_eq_getElem _)
 constructor
 ·intro hp
  have:=(Zu (key:=NodeR.ino) f.l).1 h.rise
  have:=List.pairwise_iff_getElem.1 this 0 i (by omega) hi hp
  omega
 ·intro hp
  rcases Nat.eq_zero_or_pos i with e|e
  ·subst e;omega
  ·exact e
theorem Zji (f:FSR) (h:Zi f) (hh:Zhv f.l=true):rightF f=true↔∀(i:Nat) (hi:i<f.l.length),Zkt f.l i f.l[i]:=by
 have hr:=(ZgF f).2 h
 have hE:∀n∈f.l,n.l.length<=256:=λn hn=>((ZbL _).1 ((Zs n).1 (h.ok n hn)).row).len
 have hnm:=λk=>Zpf h.len hE k
 have hak:=ZbV hE
 obtain⟨c,ho,_⟩:=ZbP (ZaK f.l) (ZeE hE) ((Zn f.l).length+1) 1 [] 0 .nil
 have hb:∀q,getM (Zdj f.l 1) q=0↔¬q∈belowL f.l 1:=λq=>by
  rw[Zjh,<-Zkj hE]
  obtain⟨_,c',o,_⟩:=ZbP (ZaK f.l) (ZeE hE) ((Zn f.l).length+1) 1 [] 0 .nil
  have:=o.nonneg q
  unfold Zdj at this⊢
  omega
 simp only[rightF,hr,hh,Bool.true_and,Bool.and_eq_true,List.all_eq_true]
 constructor
 ·rintro⟨h1,h2⟩ i hi
  have g:=h2 _ (List.getElem_mem hi)
  have hp:=ZhE h hh hi
  simp only[ZcY,Bool.and_eq_true,decide_eq_true_eq,Bool.not_eq_true',Bool.and_eq_false_iff,Bool.or_eq_false_iff,decide_eq_false_iff_not,hb] at g
  refine⟨by rw[g.1,hnm],?_,λx hx=> ?_⟩
  ·rintro⟨b1,b2⟩
   rcases g.2 with g2|⟨g2,g3⟩
   ·exact g2 (hp.1 b1)
   ·rcases b2 with b2|⟨b2,b3⟩
    ·exact g2 b2
    ·rcases g3 with g3|⟨g3,g4⟩
     ·exact g3 b2
     ·rcases b3 with b3|b3
      ·omega
      ·exact g4 b3
  ·have hk:x.ino∈Zn f.l:=List.mem_flatMap.2 ⟨_,List.getElem_mem hi,List.mem_map.2 ⟨x,hx,rfl⟩⟩
   have hp2:0<getM (countsS f.l []) x.ino:=by rw[hnm];have:=List.count_pos_iff.2 hk;omega
   rcases findIdx_spec (countsS f.l []) x.ino with⟨_,_,h0⟩|⟨j,v,_,hj,_,_⟩
   ·omega
   ·exact h1 _ (List.mem_of_getElem? hj)
 ·intro g
  refine⟨λp hp=> ?_,λn hn=> ?_⟩
  ·have hlen:=h.len
   have hm:=(ZfV f.l [] 0 .nil (by omega)).1.pos p.1 (by unfold hasM;exact List.any_eq_true.2 ⟨p,hp,by simp⟩)
   rw[hnm] at hm
   have hk:=List.count_pos_iff.1 (show 0<(Zn f.l).count p.1 by omega)
   obtain⟨n,hn,hx⟩:=List.mem_flatMap.1 hk
   obtain⟨x,hx,e⟩:=List.mem_map.1 hx
   obtain⟨i,hi,rfl⟩:=List.getElem_of_mem hn
   rw[<-e]
   exact(g i hi).kids x hx
  ·obtain⟨i,hi,rfl⟩:=List.getElem_of_mem hn
   have hp:=ZhE h hh hi
   have gi:=g i hi
   simp only[ZcY,Bool.and_eq_true,decide_eq_true_eq,Bool.not_eq_true',Bool.and_eq_false_iff,Bool.or_eq_false_iff,decide_eq_false_iff_not,hb]
   refine⟨by rw[gi.links,hnm],?_⟩
   by_cases b1:0<i
   ·have nb:=gi.not
    refine .inr ⟨λe=>nb ⟨b1,.inl e⟩,?_⟩
    by_cases b2:f.l[i].kind=2
    ·refine .inr ⟨λe=>e ?_,λe=>nb ⟨b1,.inr ⟨b2,.inr e⟩⟩⟩
     have h3:¬f.l[i].links<1:=λe=>nb ⟨b1,.inl e⟩
     have h4:¬1<f.l[i].links:=λe=>nb ⟨b1,.inr ⟨b2,.inl e⟩⟩
     omega
    ·exact .inl b2
   ·exact .inl λe=>b1 (hp.2 e)
structure Added (f:FSR) (dir:Int) (s:ByteArray) (n:NodeR) (k:FSR):Prop where
 rows:Zi k
 next:k.next=f.next+1
 find:∀q,findB k.l q=if q=f.next then(newN f n,true) else if q=dir then({(findB f.l dir).1 with l:=(enterE (findB f.l dir).1.l s f.next).1},true) else findB f.l q
 isdir:(findB f.l dir).2=true/\(findB f.l dir).1.kind=2
 name:checkS s=0
 free:(findE (findB f.l dir).1.l s).2=false
 room:(findB f.l dir).1.l.length<256
 ok:nodeOk (newN f n)=true/\n.l.length=0
 len:k.l.length=f.l.length+1\/k.l.length<=f.l.length+1
theorem added {f:FSR} {dir:Int} {s:ByteArray} {n:NodeR} (h:Zi f) (he:(addD f dir s n).2=0):Added f dir s n (addD f dir s n).1:=by
 rw[Znz] at he⊢
 split at he
 case isFalse hq=>exact absurd he hq
 case isTrue hq=>
  rw[if_pos hq]
  obtain⟨q1,q2⟩:=ZlM hq
  obtain⟨d1,d2,d3⟩:=Zbf q1
  obtain⟨m1,m2,m3,m4,m5,m6⟩:=may_ok q2
  rw[d3] at m2 m4
  have hs:=ZaQ h d1 d2 s f.next
  have hp:=ZcZ hs.rows.rise (newN f n)
  have hl:=hs.len
  have hp3:=hp.2.2
  have hi:(newN f n).ino=f.next:=rfl
  refine⟨hs.rows.put m5 (by omega),?_,λq=> ?_,⟨d1,d2⟩,m1,m2,m4,⟨m5,m6⟩,.inr (by simp only at hp3⊢;omega)⟩
  ·show max (enteredD f dir s f.next).next ((newN f n).ino+1)=f.next+1
   rw[hs.next,hi];omega
  ·rw[Zbe hs.rows.rise,hi]
   by_cases e:q=f.next
   ·rw[if_pos e,if_pos e]
   ·rw[if_neg e,if_neg e,Zau h d1]
theorem Zxm (s:List UInt8) (k:Nat) (t:List UInt8):(overL s k t).length=max s.length (k+t.length):=by
 simp only[overL,List.length_append,List.length_take,List.length_replicate,List.length_drop];omega
def n0:NodeR:=⟨0,1,0,.empty,[]⟩
theorem ZhF {s:List UInt8} {a:Int} {t:List UInt8} (h:(writeT s a t).2=0) (hs:s.length<=4096):(writeT s a t).1.length<=4096:=by
 unfold writeT at h⊢
 split at h
 ·simp at h
 rename_i h1
 rw[if_neg h1]
 split at h
 ·simp at h
 rename_i h2
 rw[if_neg h2]
 split
 ·exact hs
 ·simp only[Zxm];omega
theorem ZnD {s:List UInt8} {m:Int} (h:(cutT s m).2=0):(cutT s m).1.length<=4096:=by
 unfold cutT at h⊢
 split at h
 ·simp at h
 rename_i h1
 rw[if_neg h1]
 split at h
 ·simp at h
 rename_i h2
 rw[if_neg h2]
 simp only[List.length_append,List.length_take,List.length_replicate];omega
theorem ZlO {f:FSR} (h:Zi f) {ino:Int} {m:NodeR} (hm:findB f.l ino=(m,true)) (hk:m.kind≠2) {x:List UInt8} (hx:x.length<=4096):Zft f (putB f {m with text:=T x})/\∀q,findB (putB f {m with text:=T x}).l q=if q=ino then({m with text:=T x},true) else findB f.l q:=by
 obtain⟨h1,h2⟩:=(Zdx h.rise ino m).1 hm
 obtain⟨a,b,c⟩:=h.again (n:={m with text:=T x}) (Zny (h.ok m h1) hk hx) (by simp only[h2];rw[hm])
 exact⟨⟨a,b,Nat.le_of_eq c⟩,λq=>by rw[Zbe h.rise];simp only[h2]⟩
end Go.Cx
namespace Go.Cx
def cntF (f:FSR) (k:Int):Nat:=(Zn f.l).count k
theorem Zdc {l:List NodeR} (h:Zo NodeR.ino l=true):l.Nodup:=
 ((Zu NodeR.ino l).1 h).imp λh e=>by subst e;exact absurd h (Int.lt_irrefl _)
theorem ZhG {f:FSR} (h:Zo NodeR.ino f.l=true) (j k:Int):cntF f k=((findB f.l j).1.l.map (·.ino)).count k+(Zn (f.l.filter λx=> !decide (x.ino=j))).count k:=by
 rcases findB_cases f.l j with⟨o,ho,hk,e⟩|e
 ·have p:f.l.Perm (o::f.l.filter λx=> !decide (x.ino=j)):=
   (List.perm_ext_iff_of_nodup (Zdc h) (List.nodup_cons.2 ⟨by simp[hk],(Zdc h).filter _⟩)).2 λx=>by
    simp only[List.mem_cons,List.mem_filter,Bool.not_eq_true',decide_eq_false_iff_not]
    refine⟨λhx=> ?_,λhx=>hx.elim (λe=>e▸ho) (·.1)⟩
    by_cases q:x.ino=j
    ·exact .inl (Zfq NodeR.ino h hx ho (by rw[q,hk]))
    ·exact .inr ⟨hx,q⟩
  rw[e]
  unfold cntF Zn
  rw[(p.flatMap_right _).count_eq]
  simp only[List.flatMap_cons,List.count_append]
 ·have hn:∀x∈f.l,x.ino≠j:=λx hx q=>by
   have:=findB_of h hx
   rw[q,e] at this;cases this
  have:(f.l.filter λx=> !decide (x.ino=j))=f.l:=List.filter_eq_self.2 λx hx=>by simpa using hn x hx
  rw[e,this]
  simp[cntF,NodeR.zero]
theorem ZtX {f:FSR} (h:Zo NodeR.ino f.l=true) (n:NodeR) (k:Int):cntF (putB f n) k+((findB f.l n.ino).1.l.map (·.ino)).count k=cntF f k+(n.l.map (·.ino)).count k:=by
 obtain⟨h1,h2,_⟩:=ZcZ h n
 have e1:=ZhG h n.ino k
 have e2:=ZhG h1 n.ino k
 have p:((putB f n).l.filter λx=> !decide (x.ino=n.ino)).Perm (f.l.filter λx=> !decide (x.ino=n.ino)):=
  (List.perm_ext_iff_of_nodup ((Zdc h1).filter _) ((Zdc h).filter _)).2 λx=>by
   simp only[List.mem_filter,Bool.not_eq_true',decide_eq_false_iff_not,h2]
   exact⟨λ⟨a,b⟩=>⟨a.elim (λe=>absurd (by rw[e]) b) (·.1),b⟩,λ⟨a,b⟩=>⟨.inr ⟨a,b⟩,b⟩⟩
 rw[Zbe h,if_pos rfl] at e2
 simp only at e2
 have e3:(Zn ((putB f n).l.filter λx=> !decide (x.ino=n.ino))).count k=(Zn (f.l.filter λx=> !decide (x.ino=n.ino))).count k:=(p.flatMap_right _).count_eq k
 omega
theorem Zfv {f:FSR} (h:Zo NodeR.ino f.l=true) {n:NodeR} {d:Int} (hi:n.ino=d) (k:Int):cntF (putB f n) k+((findB f.l d).1.l.map (·.ino)).count k=cntF f k+(n.l.map (·.ino)).count k:=by
 subst hi;exact ZtX h n k
theorem out_cnt {f:FSR} (h:Zo NodeR.ino f.l=true) (j k:Int):cntF (outF f j) k+((findB f.l j).1.l.map (·.ino)).count k=cntF f k:=by
 have e1:=ZhG h j k
 have:cntF (outF f j) k=(Zn (f.l.filter λx=> !decide (x.ino=j))).count k:=rfl
 omega
theorem Zpl {f:FSR} (h:Zo NodeR.ino f.l=true) (n:NodeR) (i:Int):Zv (putB f n).l i=if i=n.ino then n.l.map (·.ino) else Zv f.l i:=by
 unfold Zv
 rw[Zbe h]
 split<;>rfl
theorem Zrs (l:List EntryR) (s:ByteArray) (ino k:Int):((insE l s ino).map (·.ino)).count k=(l.map (·.ino)).count k+if k=ino then 1 else 0:=by
 have e:l.takeWhile (λx=>Zac x.name s)++l.dropWhile (λx=>Zac x.name s)=l:=List.takeWhile_append_dropWhile
 have e2:(l.map (·.ino)).count k=((l.takeWhile (λx=>Zac x.name s)).map (·.ino)).count k+((l.dropWhile (λx=>Zac x.name s)).map (·.ino)).count k:=by
  rw[<-List.count_append,<-List.map_append,e]
 unfold insE
 rw[e2,List.map_append,List.count_append,List.map_cons,List.count_cons]
 by_cases q:k=ino
 ·subst q;simp;omega
 ·have:¬ino=k:=λe=>q e.symm
  simp[q,this]
theorem ZtY {l:List EntryR} {s:ByteArray} (h:∀x∈l,x.name≠s):outE l s=l:=List.filter_eq_self.2 λx hx=>by simpa using h x hx
theorem Zjj {s:ByteArray} {e:Int}:∀{l:List EntryR},Zai l=true->findE l s=(e,true)->∀k,((outE l s).map (·.ino)).count k+(if k=e then 1 else 0)=(l.map (·.ino)).count k
 |[],_,h,k=>by simp[findE] at h
 |a::l,hr,h,k=>by
  have hp:=(ZW _).1 hr
  rw[Zrf] at h
  by_cases q:a.name=s
  ·rw[if_pos q] at h
   injection h with h _
   subst h
   have e1:outE (a::l) s=l:=by
    have:outE (a::l) s=outE l s:=by simp[outE,q]
    rw[this]
    exact ZtY λx hx=>by
     have:=List.rel_of_pairwise_cons hp hx
     rw[q] at this
     exact(ZdZ this).symm
   rw[e1,List.map_cons,List.count_cons]
   by_cases q2:k=a.ino
   ·subst q2;simp
   ·have:¬a.ino=k:=λe=>q2 e.symm
    simp[q2,this]
  ·rw[if_neg q] at h
   have ih:=Zjj ((ZW _).2 hp.of_cons) h k
   have e1:outE (a::l) s=a::outE l s:=by simp[outE,q]
   rw[e1,List.map_cons,List.count_cons,List.map_cons,List.count_cons]
   omega
theorem ZlP {l:List EntryR} {s:ByteArray} {ino:Int} (h1:checkS s=0) (h2:1<=ino) (h3:(findE l s).2=false) (h4:l.length<256):(enterE l s ino).1=insE l s ino:=by
 unfold enterE
 rw[if_neg (by simpa using h1),if_neg (by omega),if_neg (by rw[h3];simp),if_neg (by omega)]
theorem ZdB {l:List EntryR} {s:ByteArray} {e:Int} (h:findE l s=(e,true)):(leaveE l s).1=outE l s:=by
 unfold leaveE
 rw[if_pos (by rw[h])]
theorem ZeH {f:FSR} (R:Zi f) {dir:Int} (hd:(findB f.l dir).2=true) {s:ByteArray} {ino:Int} (h1:checkS s=0) (h2:1<=ino) (h3:(findE (findB f.l dir).1.l s).2=false) (h4:(findB f.l dir).1.l.length<256) (k:Int):
  cntF (enteredD f dir s ino) k=cntF f k+if k=ino then 1 else 0:=by
 have h5:=(R.find_ok hd).2
 have e:cntF (enteredD f dir s ino) k+((findB f.l dir).1.l.map (·.ino)).count k=cntF f k+((enterE (findB f.l dir).1.l s ino).1.map (·.ino)).count k:=Zfv R.rise (n:={(findB f.l dir).1 with l:=(enterE (findB f.l dir).1.l s ino).1}) h5 k
 rw[ZlP h1 h2 h3 h4,Zrs] at e
 omega
theorem Zct {f:FSR} (R:Zi f) {dir:Int} (hd:(findB f.l dir).2=true) {s:ByteArray} {ino:Int} (h1:checkS s=0) (h2:1<=ino) (h3:(findE (findB f.l dir).1.l s).2=false) (h4:(findB f.l dir).1.l.length<256) (i y:Int):
  y∈Zv (enteredD f dir s ino).l i↔y∈Zv f.l i\/(i=dir/\y=ino):=by
 unfold Zv
 rw[Zau R hd,ZlP h1 h2 h3 h4]
 by_cases q:i=dir
 ·subst q
  simp only[if_true,List.mem_map,insE_mem,true_and]
  constructor
  ·rintro⟨x,rfl|hx,rfl⟩
   ·exact .inr rfl
   ·exact .inl ⟨x,hx,rfl⟩
  ·rintro(⟨x,hx,rfl⟩|rfl)
   ·exact⟨x,.inr hx,rfl⟩
   ·exact⟨_,.inl rfl,rfl⟩
 ·rw[if_neg q];simp[q]
theorem Zpm {f:FSR} (R:Zi f) {dir:Int} (hd:(findB f.l dir).2=true) {s:ByteArray} {e:Int} (h:findE (findB f.l dir).1.l s=(e,true)) (k:Int):
  cntF (leftD f dir s) k+(if k=e then 1 else 0)=cntF f k:=by
 have h5:=(R.find_ok hd).2
 have e1:cntF (leftD f dir s) k+((findB f.l dir).1.l.map (·.ino)).count k=cntF f k+((leaveE (findB f.l dir).1.l s).1.map (·.ino)).count k:=Zfv R.rise (n:={(findB f.l dir).1 with l:=(leaveE (findB f.l dir).1.l s).1}) h5 k
 rw[ZdB h] at e1
 have e2:=Zjj (R.row dir).rise h k
 omega
theorem ZlQ {f:FSR} (R:Zi f) {dir:Int} (hd:(findB f.l dir).2=true) {s:ByteArray} {e:Int} (h:findE (findB f.l dir).1.l s=(e,true)) (i y:Int):
  (y∈Zv (leftD f dir s).l i->y∈Zv f.l i)/\(y∈Zv f.l i->y≠e->y∈Zv (leftD f dir s).l i):=by
 unfold Zv
 rw[Zap R hd,ZdB h]
 by_cases q:i=dir
 ·subst q
  simp only[if_true,List.mem_map,outE,List.mem_filter]
  refine⟨λ⟨x,⟨hx,_⟩,e1⟩=>⟨x,hx,e1⟩,λ⟨x,hx,e1⟩ hy=>⟨x,⟨hx,?_⟩,e1⟩⟩
  have:x.name≠s:=λe2=>hy (by
   have e3:=findE_some (R.row i).rise hx
   rw[e2,h] at e3
   injection e3 with e3 _
   rw[<-e1,e3])
  simpa using this
 ·rw[if_neg q];exact⟨id,λh _=>h⟩
theorem Zxn {f:FSR} (R:Zi f) {ino:Int} (hd:(findB f.l ino).2=true) (hl:(findB f.l ino).1.l=[]) (k:Int):cntF (Zkq f ino) k=cntF f k:=by
 unfold Zkq
 split
 ·have:=out_cnt R.rise ino k
  rw[hl] at this
  simpa using this
 ·have:cntF (putB f {(findB f.l ino).1 with links:=(findB f.l ino).1.links -1}) k+((findB f.l ino).1.l.map (·.ino)).count k=cntF f k+((findB f.l ino).1.l.map (·.ino)).count k:=Zfv R.rise (n:={(findB f.l ino).1 with links:=(findB f.l ino).1.links -1}) (R.find_ok hd).2 k
  omega
theorem ZtZ {f:FSR} (R:Zi f) {ino:Int} (hd:(findB f.l ino).2=true) (hl:(findB f.l ino).1.l=[]) (i:Int):Zv (Zkq f ino).l i=Zv f.l i:=by
 unfold Zv
 rw[ZhA R hd]
 by_cases q:i=ino
 ·subst q
  rw[if_pos rfl]
  split
  ·rw[hl];rfl
  ·rfl
 ·rw[if_neg q]
structure ZK (f:FSR):Prop where
 root:(findB f.l 1).2=true/\(findB f.l 1).1.kind=2/\(findB f.l 1).1.links=0
 here:∀k,0<cntF f k->(findB f.l k).2=true
 links:∀k,(findB f.l k).2=true->(findB f.l k).1.links=cntF f k
 some:∀k,(findB f.l k).2=true->k≠1->1<=(findB f.l k).1.links
 dir:∀k,(findB f.l k).2=true->k≠1->(findB f.l k).1.kind=2->(findB f.l k).1.links=1/\Reach (Zv f.l) 1 k
theorem Zi.pos {f:FSR} (R:Zi f) {k:Int} (h:(findB f.l k).2=true):1<=k:=by
 obtain⟨h1,h2⟩:=R.find_ok h
 have:=((Zs _).1 h1).ino
 omega
theorem ZcM.tree {f:FSR} (R:Zi f) (T:ZcM f):ZK f:=by
 have hf:∀k,(findB f.l k).2=true->(findB f.l k).1∈f.l/\(findB f.l k).1.ino=k:=λk h=>Zm h
 obtain⟨r,hr,r1,r2,r3⟩:=T.root
 have hr':=findB_of R.rise hr
 rw[r1] at hr'
 refine⟨by rw[hr'];exact⟨rfl,r2,r3⟩,λk hk=> ?_,λk hk=> ?_,λk hk h1=> ?_,λk hk h1 h2=> ?_⟩
 ·obtain⟨n,hn,e⟩:=T.here k (List.count_pos_iff.1 hk)
  rw[<-e,findB_of R.rise hn]
 ·obtain⟨h1,h2⟩:=hf k hk
  have:=T.names _ h1
  rw[h2] at this;exact this
 ·obtain⟨h2,h3⟩:=hf k hk
  have:=R.pos hk
  exact T.file _ h2 (by omega)
 ·obtain⟨h3,h4⟩:=hf k hk
  have:=R.pos hk
  have:=T.dir _ h3 (by omega) h2
  rw[h4] at this;exact this
theorem ZK.right {f:FSR} (R:Zi f) (T:ZK f):ZcM f:=by
 have hf:∀n∈f.l,findB f.l n.ino=(n,true):=λn hn=>findB_of R.rise hn
 refine⟨R.rise,R.ok,R.len,λn hn=>((ZbL _).1 ((Zs n).1 (R.ok n hn)).row).len,?_,λk hk=> ?_,λn hn=> ?_,λn hn h1=> ?_,λn hn h1 h2=> ?_⟩
 ·exact⟨_,(Zm T.root.1).1,(Zm T.root.1).2,T.root.2⟩
 ·have:=T.here k (List.count_pos_iff.2 hk)
  exact⟨_,(Zm this).1,(Zm this).2⟩
 ·have:=T.links n.ino (by rw[hf n hn])
  rw[hf n hn] at this;exact this
 ·have:=T.some n.ino (by rw[hf n hn]) (by omega)
  rw[hf n hn] at this;exact this
 ·have:=T.dir n.ino (by rw[hf n hn]) (by omega) (by rw[hf n hn];exact h2)
  rw[hf n hn] at this;exact this
theorem Zfw (f:FSR):rightF f=true↔Zi f/\ZcM f:=by
 constructor
 ·intro h
  refine⟨(ZgF f).1 ?_,Zxc h⟩
  simp only[rightF,Bool.and_eq_true] at h;exact h.1.1.1
 ·rintro⟨R,T⟩
  have hh:Zhv f.l=true:=by
   obtain⟨r,hr,r1,r2,r3⟩:=T.root
   cases hl:f.l with
   |nil=>rw[hl] at hr;cases hr
   |cons a l=>
    have hp:=R.rise
    rw[hl] at hp hr
    have hp:=(Zu NodeR.ino _).1 hp
    have ha:a.ino=1:=by
     have h1:=((Zs a).1 (R.ok a (by rw[hl];simp))).ino
     rcases List.mem_cons.1 hr with e|hr
     ·rw[<-e];exact r1
     ·have:=List.rel_of_pairwise_cons hp hr
      omega
    have e:r=a:=Zfq NodeR.ino (by rw[<-hl];exact R.rise) hr (by simp) (by rw[r1,ha])
    subst e
    simp[r1,r2,r3]
  refine(Zji f R hh).2 λi hi=> ?_
  have hm:=List.getElem_mem hi
  have hp:=ZhE R hh hi
  refine⟨T.names _ hm,?_,λx hx=> ?_⟩
  ·rintro⟨b1,b2⟩
   have h1:=hp.1 b1
   have h2:=T.file _ hm h1
   rcases b2 with b2|⟨b2,b3⟩
   ·omega
   ·obtain⟨h3,h4⟩:=T.dir _ hm h1 b2
    rcases b3 with b3|b3
    ·omega
    ·exact b3 ((Zjh _ _ _).2 h4)
  ·obtain⟨n,hn,e⟩:=T.here x.ino (List.mem_flatMap.2 ⟨_,hm,List.mem_map.2 ⟨x,hx,rfl⟩⟩)
   rw[<-e,findB_of R.rise hn]
theorem Zjk {K K':Int->List Int} {top:Int} {X:Int->Prop} (hk:∀i y,y∈K i->¬X y->y∈K' i) (hx:∀x,X x->(∃y,y∈K x)->Reach K' top x) {q:Int} (h:Reach K top q) (hq:¬X q):Reach K' top q:=by
 induction h with
 |one h=>exact .one (hk _ _ h hq)
 | @step j k h1 h2 ih=>
  by_cases hj:X j
  ·exact .step (hx j hj ⟨_,h2⟩) (hk _ _ h2 hq)
  ·exact .step (ih hj) (hk _ _ h2 hq)
theorem Zrt {K K':Int->List Int} {top n:Int} (hk:∀i y,y∈K i->y≠n->y∈K' i) {q:Int} (h:Reach K top q) (hq:q≠n) (hn:¬Reach K n q):Reach K' top q:=by
 induction h with
 |one h=>exact .one (hk _ _ h hq)
 | @step j k h1 h2 ih=>
  by_cases hj:j=n
  ·subst hj;exact absurd (.one h2) hn
  ·exact .step (ih hj λg=>hn (.step g h2)) (hk _ _ h2 hq)
theorem ZhH {K K':Int->List Int} {top:Int} (hk:∀i y,y∈K i->y∈K' i) {q:Int} (h:Reach K top q):Reach K' top q:=by
 induction h with
 |one h=>exact .one (hk _ _ h)
 |step _ h2 ih=>exact .step ih (hk _ _ h2)
theorem Zex {f:FSR} (R:Zi f) {d:Int} {s:ByteArray} (h:(lookD f d s).2=0):
  (findB f.l d).2=true/\(findB f.l d).1.kind=2/\checkS s=0/\findE (findB f.l d).1.l s=((lookD f d s).1.ino,true)/\findB f.l (lookD f d s).1.ino=((lookD f d s).1,true):=by
 obtain⟨h1,h2,h3,h4,h5⟩:=Zeb h
 obtain⟨d1,d2,d3⟩:=Zbf h1
 rw[d3] at h3 h4 h5
 have e:(lookD f d s).1.ino=(findE (findB f.l d).1.l s).1:=by rw[h5];exact(Zm h4).2
 refine⟨d1,d2,h2,?_,?_⟩
 ·rw[e];exact Prod.ext rfl h3
 ·rw[e,h5];exact Prod.ext rfl h4
theorem Zpn {f:FSR} (R:Zi f) {d:Int} {s:ByteArray} {e:Int} (h:findE (findB f.l d).1.l s=(e,true)):e∈Zv f.l d:=by
 obtain⟨x,hx,_,e2⟩:=(ZlJ (R.row d).rise s e).1 h
 exact List.mem_map.2 ⟨x,hx,e2⟩
theorem Zua {f:FSR} (T:ZK f) {i y:Int} (h:y∈Zv f.l i):(findB f.l y).2=true:=
 T.here y (List.count_pos_iff.2 (ZaK f.l i y h))
theorem ZK.up {f:FSR} (T:ZK f) {d:Int} (h1:(findB f.l d).2=true) (h2:(findB f.l d).1.kind=2):d=1\/Reach (Zv f.l) 1 d:=by
 by_cases q:d=1
 ·exact .inl q
 ·exact .inr (T.dir d h1 q h2).2
theorem Zub {f:FSR} (R:Zi f) (T:ZK f) {d y:Int} (h1:(findB f.l d).2=true) (h2:(findB f.l d).1.kind=2) (h:y∈Zv f.l d):y≠d/\y≠1:=by
 have F:=T.right R
 have hy1:y≠1:=λe=>F.no_root (by rw[<-e];exact ZaK f.l d y h)
 refine⟨λe=> ?_,hy1⟩
 subst e
 rcases T.up h1 h2 with e|e
 ·exact hy1 e
 ·exact F.acyclic e (.one h)
theorem leaf_of {f:FSR} (R:Zi f) {k:Int} (h:(findB f.l k).2=true) (hk:(findB f.l k).1.kind≠2):(findB f.l k).1.l=[]:=
 List.eq_nil_of_length_eq_zero (((Zs _).1 (R.find_ok h).1).els hk)
theorem Zdd {f:FSR} (R:Zi f) (T:ZK f) {d:Int} {s:ByteArray} (h:(lookD f d s).2=0):(lookD f d s).1.ino≠d:=by
 obtain⟨h1,h2,_,h4,_⟩:=Zex R h
 exact(Zub R T h1 h2 (Zpn R h4)).1
theorem Zuc {f:FSR} (R:Zi f) (T:ZK f) {d:Int} {s:ByteArray} (hd:(dirD f d).2=0) (hs:checkS s=0) (h:(lookD f d s).2≠0):(findE (findB f.l d).1.l s).2=false:=by
 obtain⟨d1,d2,d3⟩:=Zbf hd
 cases hq:(findE (findB f.l d).1.l s).2 with
 |false=>rfl
 |true=>
  exfalso;apply h
  have h1:=Zua T (Zpn R (e:=(findE (findB f.l d).1.l s).1) (Prod.ext rfl hq))
  unfold lookD
  rw[if_neg (by simpa using hd),if_neg (by simpa using hs),d3,if_neg (by rw[hq];simp),if_neg (by rw[h1];simp)]
theorem Zxo {f:FSR} {dir:Int} {s:ByteArray} {n:NodeR} (he:(addD f dir s n).2=0):(addD f dir s n).1=putB (enteredD f dir s f.next) (newN f n):=by
 rw[Znz] at he⊢
 split at he
 case isFalse hq=>exact absurd he hq
 case isTrue hq=>rw[if_pos hq]
theorem Zxp {f:FSR} (R:Zi f):findB f.l f.next=(.zero,false):=ZbW λn hn e=>by have:=R.lt n hn;omega
theorem Zxq {f:FSR} {dir:Int} {s:ByteArray} {n:NodeR} (R:Zi f) (T:ZK f) (he:(addD f dir s n).2=0):ZK (addD f dir s n).1:=by
 have A:=added R he
 have hp:=Zxo he
 obtain⟨d1,d2⟩:=A.isdir
 have hnx:=R.next
 have h0:=Zxp R
 have hne:dir≠f.next:=λe=>by rw[e,h0] at d1;cases d1
 have hs:=ZaQ R d1 d2 s f.next
 have hnl:(newN f n).l=[]:=List.eq_nil_of_length_eq_zero A.ok.2
 have he0:findB (enteredD f dir s f.next).l f.next=(.zero,false):=by rw[Zau R d1,if_neg (λe=>hne e.symm),h0]
 have hc:∀k,cntF (addD f dir s n).1 k=cntF f k+if k=f.next then 1 else 0:=λk=>by
  have e1:=ZtX hs.rows.rise (newN f n) k
  have e2:=ZeH R d1 A.name hnx A.free A.room k
  have e3:(newN f n).ino=f.next:=rfl
  rw[e3,he0,hnl] at e1
  rw[hp]
  simp only[NodeR.zero,List.map_nil,List.count_nil,Nat.add_zero] at e1
  omega
 have hk:∀i y,y∈Zv f.l i\/(i=dir/\y=f.next)->y∈Zv (addD f dir s n).1.l i:=λi y h=>by
  rw[hp,Zpl hs.rows.rise]
  have e3:(newN f n).ino=f.next:=rfl
  rw[e3]
  have h':=(Zct R d1 A.name hnx A.free A.room i y).2 h
  split
  ·rename_i q
   rw[q] at h'
   unfold Zv at h'
   rw[he0] at h'
   simp[NodeR.zero] at h'
  ·exact h'
 have hz:cntF f f.next=0:=by
  rcases Nat.eq_zero_or_pos (cntF f f.next) with h|h
  ·exact h
  ·have:=T.here _ h;rw[h0] at this;cases this
 have hr:∀q,Reach (Zv f.l) 1 q->Reach (Zv (addD f dir s n).1.l) 1 q:=λq h=>ZhH (λi y h=>hk i y (.inl h)) h
 generalize(addD f dir s n).1=g at*
 have hb:∀q,q≠f.next->(findB g.l q).2=(findB f.l q).2/\(findB g.l q).1.kind=(findB f.l q).1.kind/\(findB g.l q).1.links=(findB f.l q).1.links:=λq hq=>by
  rw[A.find,if_neg hq]
  split
  ·rename_i e;rw[e];exact⟨d1.symm,rfl,rfl⟩
  ·exact⟨rfl,rfl,rfl⟩
 have hn:findB g.l f.next=(newN f n,true):=by rw[A.find,if_pos rfl]
 have h1n:(1:Int)≠f.next:=λe=>by have:=T.root.1;rw[e,h0] at this;cases this
 refine⟨?_,λk hk'=> ?_,λk hk'=> ?_,λk hk' h1=> ?_,λk hk' h1 h2=> ?_⟩
 ·obtain⟨a,b,c⟩:=hb 1 h1n
  rw[a,b,c];exact T.root
 ·by_cases q:k=f.next
  ·rw[q,hn]
  ·rw[(hb k q).1]
   refine T.here k ?_
   have:=hc k
   rw[if_neg q] at this;omega
 ·by_cases q:k=f.next
  ·have:=hc k
   rw[if_pos q,q,hz] at this
   rw[q,hn,this];rfl
  ·obtain⟨a,b,c⟩:=hb k q
   have:=hc k
   rw[if_neg q] at this
   rw[a] at hk'
   rw[c,this];exact T.links k hk'
 ·by_cases q:k=f.next
  ·rw[q,hn];show(1:Int)<=1;decide
  ·obtain⟨a,b,c⟩:=hb k q
   rw[a] at hk'
   rw[c];exact T.some k hk' h1
 ·by_cases q:k=f.next
  ·refine⟨by rw[q,hn];rfl,?_⟩
   have hkid:=hk dir f.next (.inr ⟨rfl,rfl⟩)
   rw[q]
   rcases T.up d1 d2 with e|e
   ·rw[e] at hkid;exact .one hkid
   ·exact .step (hr _ e) hkid
  ·obtain⟨a,b,c⟩:=hb k q
   rw[a] at hk'
   rw[b] at h2
   rw[c]
   obtain⟨e1,e2⟩:=T.dir k hk' h1 h2
   exact⟨e1,hr _ e2⟩
theorem dir_ne {f:FSR} {d i:Int} (h1:(findB f.l d).1.kind=2) (h2:(findB f.l i).1.kind≠2):i≠d:=λe=>h2 (by rw[e];exact h1)
theorem ZhI {f:FSR} {dir:Int} {s:ByteArray} {ino:Int} (R:Zi f) (T:ZK f) (he:giveE f dir s ino=0):Zi (giveD f dir s ino).1/\(giveD f dir s ino).1.next=f.next/\ZK (giveD f dir s ino).1:=by
 obtain⟨g1,g2,g3,g4,g5,g6,g7⟩:=ZnA he
 obtain⟨d1,d2,d3⟩:=Zbf g1
 rw[d3] at g5 g6
 have hpos:=R.pos g2
 have hne:=dir_ne d2 g3
 rw[ZbT,if_pos he]
 have hs:=ZaQ R d1 d2 s ino
 have hfi:findB (enteredD f dir s ino).l ino=findB f.l ino:=by rw[Zau R d1,if_neg hne]
 have hino:=(R.find_ok g2).2
 obtain⟨a1,a2,a3⟩:=hs.rows.again (n:={(findB f.l ino).1 with links:=(findB f.l ino).1.links+1}) (Zgt (R.find_ok g2).1 (by have:=(R.links ino).1;omega) (by omega)) (by simp only[hino];rw[hfi];exact g2)
 refine⟨a1,by rw[a2,hs.next],?_⟩
 show ZK (putB (enteredD f dir s ino) {(findB f.l ino).1 with links:=(findB f.l ino).1.links+1})
 have hc:∀k,cntF (putB (enteredD f dir s ino) {(findB f.l ino).1 with links:=(findB f.l ino).1.links+1}) k=cntF f k+if k=ino then 1 else 0:=λk=>by
  have e1:cntF (putB (enteredD f dir s ino) {(findB f.l ino).1 with links:=(findB f.l ino).1.links+1}) k+((findB (enteredD f dir s ino).l ino).1.l.map (·.ino)).count k=cntF (enteredD f dir s ino) k+((findB f.l ino).1.l.map (·.ino)).count k:=Zfv hs.rows.rise (n:={(findB f.l ino).1 with links:=(findB f.l ino).1.links+1}) hino k
  have e2:=ZeH R d1 g4 hpos g5 g6 k
  rw[hfi] at e1
  omega
 have hk:∀i y,y∈Zv f.l i->y∈Zv (putB (enteredD f dir s ino) {(findB f.l ino).1 with links:=(findB f.l ino).1.links+1}).l i:=λi y h=>by
  rw[Zpl hs.rows.rise]
  have h':=(Zct R d1 g4 hpos g5 g6 i y).2 (.inl h)
  simp only[hino]
  split
  ·rename_i q
   rw[q] at h
   exact h
  ·exact h'
 have hb:∀q,findB (putB (enteredD f dir s ino) {(findB f.l ino).1 with links:=(findB f.l ino).1.links+1}).l q=if q=ino then({(findB f.l ino).1 with links:=(findB f.l ino).1.links+1},true) else if q=dir then({(findB f.l dir).1 with l:=(enterE (findB f.l dir).1.l s ino).1},true) else findB f.l q:=λq=>by
  rw[Zbe hs.rows.rise]
  simp only[hino]
  split
  ·rfl
  ·rw[Zau R d1]
 have hr:∀q,Reach (Zv f.l) 1 q->Reach (Zv (putB (enteredD f dir s ino) {(findB f.l ino).1 with links:=(findB f.l ino).1.links+1}).l) 1 q:=λq h=>ZhH hk h
 generalize putB (enteredD f dir s ino) {(findB f.l ino).1 with links:=(findB f.l ino).1.links+1}=g at*
 have hb':∀q,q≠ino->(findB g.l q).2=(findB f.l q).2/\(findB g.l q).1.kind=(findB f.l q).1.kind/\(findB g.l q).1.links=(findB f.l q).1.links:=λq hq=>by
  rw[hb,if_neg hq]
  split
  ·rename_i e;rw[e];exact⟨d1.symm,rfl,rfl⟩
  ·exact⟨rfl,rfl,rfl⟩
 have h1n:(1:Int)≠ino:=λe=>g3 (by rw[<-e];exact T.root.2.1)
 have hn:findB g.l ino=({(findB f.l ino).1 with links:=(findB f.l ino).1.links+1},true):=by rw[hb,if_pos rfl]
 refine⟨?_,λk hk'=> ?_,λk hk'=> ?_,λk hk' h1=> ?_,λk hk' h1 h2=> ?_⟩
 ·obtain⟨a,b,c⟩:=hb' 1 h1n
  rw[a,b,c];exact T.root
 ·by_cases q:k=ino
  ·rw[q,hn]
  ·rw[(hb' k q).1]
   refine T.here k ?_
   have:=hc k
   rw[if_neg q] at this;omega
 ·have:=hc k
  by_cases q:k=ino
  ·rw[if_pos q] at this
   rw[q] at this⊢
   have h3:=T.links ino g2
   have h4:(findB g.l ino).1.links=(findB f.l ino).1.links+1:=by rw[hn]
   show(findB g.l ino).1.links=_
   rw[h4]
   have h5:cntF g ino=cntF f ino+1:=this
   rw[h5,h3];omega
  ·obtain⟨a,b,c⟩:=hb' k q
   rw[if_neg q] at this
   rw[a] at hk'
   rw[c,this];exact T.links k hk'
 ·by_cases q:k=ino
  ·rw[q,hn]
   have:=(R.links ino).1
   simp only;omega
  ·obtain⟨a,b,c⟩:=hb' k q
   rw[a] at hk'
   rw[c];exact T.some k hk' h1
 ·by_cases q:k=ino
  ·rw[q,hn] at h2
   exact absurd h2 g3
  ·obtain⟨a,b,c⟩:=hb' k q
   rw[a] at hk'
   rw[b] at h2
   rw[c]
   obtain⟨e1,e2⟩:=T.dir k hk' h1 h2
   exact⟨e1,hr _ e2⟩
structure Taken (f:FSR) (dir:Int) (s:ByteArray) (n:NodeR) (g:FSR):Prop where
 rows:Zi g
 next:g.next=f.next
 find:∀q,findB g.l q=if q=n.ino then(if n.links<=1 then(.zero,false) else({n with links:=n.links -1},true)) else if q=dir then({(findB f.l dir).1 with l:=outE (findB f.l dir).1.l s},true) else findB f.l q
 kids:∀i y,(y∈Zv g.l i->y∈Zv f.l i)/\(y∈Zv f.l i->y≠n.ino->y∈Zv g.l i)
 cnt:∀k,cntF g k+(if k=n.ino then 1 else 0)=cntF f k
theorem ZdC {f:FSR} (R:Zi f) (T:ZK f) {dir:Int} {s:ByteArray} (h:(lookD f dir s).2=0) (hl:(lookD f dir s).1.l=[]):Taken f dir s (lookD f dir s).1 (withoutD f dir s (lookD f dir s).1.ino):=by
 have hne:=Zdd R T h
 have hsm:=ZlL R h
 obtain⟨h1,h2,h3,h4,h5⟩:=Zex R h
 generalize lookD f dir s=L at*
 obtain⟨n,e⟩:=L
 simp only at*
 have hs:=Zcg R h1 s
 have hfi:findB (leftD f dir s).l n.ino=(n,true):=by rw[Zap R h1,if_neg hne,h5]
 have hd2:(findB (leftD f dir s).l n.ino).2=true:=by rw[hfi]
 have hl2:(findB (leftD f dir s).l n.ino).1.l=[]:=by rw[hfi];exact hl
 refine⟨hsm.rows,hsm.next,λq=> ?_,λi y=> ?_,λk=> ?_⟩
 ·unfold withoutD
  rw[ZhA hs.rows hd2,hfi,Zap R h1,ZdB h4]
 ·unfold withoutD
  rw[ZtZ hs.rows hd2 hl2]
  exact ZlQ R h1 h4 i y
 ·unfold withoutD
  rw[Zxn hs.rows hd2 hl2]
  exact Zpm R h1 h4 k
theorem ZlR {f:FSR} (R:Zi f) (T:ZK f) {dir:Int} {s:ByteArray} {n:NodeR} {g:FSR} (h1:(findB f.l dir).2=true) (h2:(findB f.l dir).1.kind=2) (h4:findE (findB f.l dir).1.l s=(n.ino,true)) (h5:findB f.l n.ino=(n,true)) (hl:n.l=[]) (A:Taken f dir s n g):ZK g:=by
 have hkid:=Zpn R h4
 obtain⟨hne,hn1⟩:=Zub R T h1 h2 hkid
 have hlk:n.links=cntF f n.ino:=by have:=T.links n.ino (by rw[h5]);rw[h5] at this;exact this
 have hb:∀q,q≠n.ino->(findB g.l q).2=(findB f.l q).2/\(findB g.l q).1.kind=(findB f.l q).1.kind/\(findB g.l q).1.links=(findB f.l q).1.links:=λq hq=>by
  rw[A.find,if_neg hq]
  split
  ·rename_i e;rw[e];exact⟨h1.symm,rfl,rfl⟩
  ·exact⟨rfl,rfl,rfl⟩
 refine⟨?_,λk hk'=> ?_,λk hk'=> ?_,λk hk' q1=> ?_,λk hk' q1 q2=> ?_⟩
 ·obtain⟨a,b,c⟩:=hb 1 (λe=>hn1 e.symm)
  rw[a,b,c];exact T.root
 ·have hc:=A.cnt k
  by_cases q:k=n.ino
  ·rw[if_pos q,q] at hc
   rw[q] at hk'
   rw[q,A.find,if_pos rfl,if_neg (by omega)]
  ·rw[if_neg q] at hc
   rw[(hb k q).1]
   exact T.here k (by omega)
 ·have hc:=A.cnt k
  by_cases q:k=n.ino
  ·rw[if_pos q,q] at hc
   rw[q] at hk'⊢
   rw[A.find,if_pos rfl] at hk'⊢
   split at hk'
   ·cases hk'
   ·rename_i q3
    rw[if_neg q3]
    simp only;omega
  ·rw[if_neg q] at hc
   obtain⟨a,b,c⟩:=hb k q
   rw[a] at hk'
   rw[c,show cntF g k=cntF f k by omega];exact T.links k hk'
 ·by_cases q:k=n.ino
  ·rw[q] at hk'⊢
   rw[A.find,if_pos rfl] at hk'⊢
   split at hk'
   ·cases hk'
   ·rename_i q3
    rw[if_neg q3]
    simp only;omega
  ·obtain⟨a,b,c⟩:=hb k q
   rw[a] at hk'
   rw[c];exact T.some k hk' q1
 ·by_cases q:k=n.ino
  ·exfalso
   rw[q] at hk' q2
   rw[A.find,if_pos rfl] at hk' q2
   split at hk'
   ·cases hk'
   ·rename_i q3
    rw[if_neg q3] at q2
    have:=(T.dir n.ino (by rw[h5]) hn1 (by rw[h5];exact q2)).1
    rw[h5] at this
    simp only at this
    omega
  ·obtain⟨a,b,c⟩:=hb k q
   rw[a] at hk'
   rw[b] at q2
   rw[c]
   obtain⟨e1,e2⟩:=T.dir k hk' q1 q2
   refine⟨e1,Zjk (X:=λx=>x=n.ino) (λi y hy hx=>(A.kids i y).2 hy hx) (λx hx hy=> ?_) e2 q⟩
   obtain⟨y,hy⟩:=hy
   rw[hx] at hy
   unfold Zv at hy
   rw[h5,hl] at hy
   cases hy
theorem ZlS {f:FSR} (R:Zi f) (T:ZK f) {dir to:Int} {s t:ByteArray} {n:NodeR} (h1:(findB f.l dir).2=true) (h2:(findB f.l dir).1.kind=2) (h4:findE (findB f.l dir).1.l s=(n.ino,true)) (h5:findB f.l n.ino=(n,true))
  (t1:(findB f.l to).2=true) (t2:(findB f.l to).1.kind=2) (t3:checkS t=0) (t4:(findE (findB f.l to).1.l t).2=false) (hw:n.kind=2->to≠n.ino/\¬Reach (Zv f.l) n.ino to) (hroom:dir≠to->(findB f.l to).1.l.length<256):
  Zi (enteredD (leftD f dir s) to t n.ino)/\(enteredD (leftD f dir s) to t n.ino).next=f.next/\ZK (enteredD (leftD f dir s) to t n.ino):=by
 have hkid:=Zpn R h4
 obtain⟨hne,hn1⟩:=Zub R T h1 h2 hkid
 have hs:=Zcg R h1 s
 have hto:(findB (leftD f dir s).l to).2=true/\(findB (leftD f dir s).l to).1.kind=2:=by
  rw[Zap R h1]
  split
  ·exact⟨rfl,h2⟩
  ·exact⟨t1,t2⟩
 have hrow:=R.row dir
 have hfree:(findE (findB (leftD f dir s).l to).1.l t).2=false:=by
  rw[Zap R h1,ZdB h4]
  split
  ·rename_i e
   rw[e] at t4
   exact ZbA.2 λx hx=>ZbA.1 t4 x (List.mem_filter.1 hx).1
  ·exact t4
 have hlen:(findB (leftD f dir s).l to).1.l.length<256:=by
  rw[Zap R h1,ZdB h4]
  split
  ·rename_i e
   obtain⟨x,hx,e1,e2⟩:=(ZlJ hrow.rise s n.ino).1 h4
   have h6:(outE (findB f.l dir).1.l s).length<(findB f.l dir).1.l.length:=List.length_filter_lt_length_iff_exists.2 ⟨x,hx,by simp[e1]⟩
   have:=hrow.len
   simp only;omega
  ·rename_i e
   exact hroom λq=>e q.symm
 have hpos:1<=n.ino:=R.pos (k:=n.ino) (by rw[h5])
 have hs2:=ZaQ hs.rows hto.1 hto.2 t n.ino
 refine⟨hs2.rows,hs2.next.trans hs.next,?_⟩
 have hc:∀k,cntF (enteredD (leftD f dir s) to t n.ino) k=cntF f k:=λk=>by
  have e1:=ZeH hs.rows hto.1 t3 hpos hfree hlen k
  have e2:=Zpm R h1 h4 k
  omega
 have hk:∀i y,y∈Zv f.l i->y≠n.ino->y∈Zv (enteredD (leftD f dir s) to t n.ino).l i:=λi y h hy=>
  (Zct hs.rows hto.1 t3 hpos hfree hlen i y).2 (.inl ((ZlQ R h1 h4 i y).2 h hy))
 have hk2:n.ino∈Zv (enteredD (leftD f dir s) to t n.ino).l to:=(Zct hs.rows hto.1 t3 hpos hfree hlen to n.ino).2 (.inr ⟨rfl,rfl⟩)
 have hb:∀q,(findB (enteredD (leftD f dir s) to t n.ino).l q).2=(findB f.l q).2/\(findB (enteredD (leftD f dir s) to t n.ino).l q).1.kind=(findB f.l q).1.kind/\(findB (enteredD (leftD f dir s) to t n.ino).l q).1.links=(findB f.l q).1.links:=λq=>by
  have e0:∀q,(findB (leftD f dir s).l q).2=(findB f.l q).2/\(findB (leftD f dir s).l q).1.kind=(findB f.l q).1.kind/\(findB (leftD f dir s).l q).1.links=(findB f.l q).1.links:=λq=>by
   rw[Zap R h1]
   split
   ·rename_i e;rw[e];exact⟨h1.symm,rfl,rfl⟩
   ·exact⟨rfl,rfl,rfl⟩
  rw[Zau hs.rows hto.1]
  split
  ·rename_i e;subst e;exact⟨t1.symm,(e0 q).2.1,(e0 q).2.2⟩
  ·exact e0 q
 generalize enteredD (leftD f dir s) to t n.ino=g at*
 have hrn:n.kind=2->Reach (Zv g.l) 1 n.ino:=λq=>by
  obtain⟨w1,w2⟩:=hw q
  rcases T.up t1 t2 with e|e
  ·rw[e] at hk2;exact .one hk2
  ·exact .step (Zrt hk e w1 w2) hk2
 refine⟨?_,λk hk'=> ?_,λk hk'=> ?_,λk hk' q1=> ?_,λk hk' q1 q2=> ?_⟩
 ·obtain⟨a,b,c⟩:=hb 1
  rw[a,b,c];exact T.root
 ·rw[(hb k).1];rw[hc] at hk';exact T.here k hk'
 ·obtain⟨a,b,c⟩:=hb k
  rw[a] at hk'
  rw[c,hc];exact T.links k hk'
 ·obtain⟨a,b,c⟩:=hb k
  rw[a] at hk'
  rw[c];exact T.some k hk' q1
 ·obtain⟨a,b,c⟩:=hb k
  rw[a] at hk'
  rw[b] at q2
  obtain⟨e1,e2⟩:=T.dir k hk' q1 q2
  rw[c]
  refine⟨e1,?_⟩
  by_cases q:k=n.ino
  ·rw[q] at q2⊢
   rw[h5] at q2
   exact hrn q2
  ·refine Zjk (X:=λx=>x=n.ino) hk (λx hx hy=> ?_) e2 q
   rw[hx] at hy⊢
   obtain⟨y,hy⟩:=hy
   by_cases q3:n.kind=2
   ·exact hrn q3
   ·have:=leaf_of R (k:=n.ino) (by rw[h5]) (by rw[h5];exact q3)
    unfold Zv at hy
    rw[this] at hy
    cases hy
structure Kept (f g:FSR):Prop where
 rows:Zi g
 tree:ZK g
 next:f.next<=g.next/\g.next<=f.next+1
theorem Kept.refl {f:FSR} (R:Zi f) (T:ZK f):Kept f f:=⟨R,T,Int.le_refl _,by omega⟩
theorem Zud {f:FSR} (R:Zi f) (to top:Int):belowD f to top=true↔Reach (Zv f.l) top to:=by
 unfold belowD
 rw[decide_eq_true_eq]
 exact Zkj (λn hn=>((ZbL _).1 ((Zs n).1 (R.ok n hn)).row).len) top to
theorem Zxr {f:FSR} (R:Zi f) (T:ZK f) (dir:Int) (s:ByteArray) (n:NodeR) (he:(addD f dir s n).2=0):Kept f (addD f dir s n).1:=by
 have A:=added R he
 exact⟨A.rows,Zxq R T he,by rw[A.next];omega,by rw[A.next];omega⟩
theorem Zue {f:FSR} (R:Zi f) (T:ZK f) (dir:Int) (s:ByteArray) (ino:Int):Kept f (giveD f dir s ino).1:=by
 by_cases he:giveE f dir s ino=0
 ·obtain⟨a,b,c⟩:=ZhI R T he
  exact⟨a,c,by omega,by omega⟩
 ·rw[ZbT,if_neg he];exact .refl R T
theorem Zuf {f:FSR} (R:Zi f) (T:ZK f) (dir:Int) (s:ByteArray):Kept f (takeD f dir s).1:=by
 unfold takeD
 split
 ·exact .refl R T
 ·rename_i q
  have q:(lookD f dir s).2=0:=by simpa using q
  split
  ·exact .refl R T
  ·rename_i q2
   have hl:(lookD f dir s).1.l=[]:=List.eq_nil_of_length_eq_zero (by omega)
   have A:=ZdC R T q hl
   obtain⟨h1,h2,h3,h4,h5⟩:=Zex R q
   exact⟨A.rows,ZlR R T h1 h2 h4 h5 hl A,by rw[A.next];omega,by rw[A.next];omega⟩
theorem Zpo {n old:NodeR} (h:overD n old=0):(n.kind=2->old.kind=2)/\(n.kind≠2->old.kind≠2)/\old.l=[]:=by
 unfold overD at h
 split at h
 ·simp at h
 ·rename_i h1
  split at h
  ·simp at h
  ·rename_i h2
   split at h
   ·simp at h
   ·exact⟨λa=>Decidable.byContradiction λb=>h1 ⟨a,b⟩,λa b=>h2 ⟨a,b⟩,List.eq_nil_of_length_eq_zero (by omega)⟩
theorem Zug {l:List EntryR} (h:Zai l=true) {s t:ByteArray} (hst:s≠t):findE (outE l t) s=findE l s:=
 Zrg (Zfr h _) h λx hx=>by
  simp only[outE,List.mem_filter,Bool.not_eq_true',decide_eq_false_iff_not]
  exact⟨(·.1),λq=>⟨q,by rw[hx];exact hst⟩⟩
theorem Zuh {f:FSR} (R:Zi f) (T:ZK f) (dir:Int) (s:ByteArray) (to:Int) (t:ByteArray):Kept f (moveD f dir s to t).1:=by
 unfold moveD
 split
 ·exact .refl R T
 rename_i q1
 have q1:(lookD f dir s).2=0:=by simpa using q1
 split
 ·exact .refl R T
 rename_i q2
 have q2:(dirD f to).2=0:=by simpa using q2
 split
 ·exact .refl R T
 rename_i q3
 have q3:checkS t=0:=by simpa using q3
 split
 ·exact .refl R T
 rename_i q4
 split
 ·exact .refl R T
 rename_i q5
 split
 ·exact .refl R T
 rename_i q6
 split
 ·exact .refl R T
 rename_i q7
 simp only
 obtain⟨h1,h2,h3,h4,h5⟩:=Zex R q1
 obtain⟨t1,t2,_⟩:=Zbf q2
 have hnn:=Zdd R T q1
 generalize hL:lookD f dir s=L at*
 obtain⟨n,en⟩:=L
 simp only at*
 subst q1
 rw[Zud R] at q4
 have hw:n.kind=2->to≠n.ino/\¬Reach (Zv f.l) n.ino to:=λk=>⟨λe=>q4 ⟨k,.inl e.symm⟩,λe=>q4 ⟨k,.inr e⟩⟩
 by_cases hold:(lookD f to t).2=0
 case neg=>
  have ec:clearD f to t=f:=by unfold clearD;rw[if_neg hold]
  rw[ec] at q7⊢
  obtain⟨a,b,c⟩:=ZlS R T h1 h2 h4 h5 t1 t2 q3 (Zuc R T q2 q3 hold) hw (λe=>by
   have:¬256<=(findB f.l to).1.l.length:=λg=>q7 ⟨e,g⟩
   omega)
  exact⟨a,c,by omega,by omega⟩
 have q6':overD n (lookD f to t).1=0:=by
  rcases Decidable.em (overD n (lookD f to t).1=0) with h|h
  ·exact h
  ·exact absurd ⟨hold,h⟩ q6
 obtain⟨o1,o2,o3⟩:=Zpo q6'
 have ec:clearD f to t=withoutD f to t (lookD f to t).1.ino:=by unfold clearD;rw[if_pos hold]
 rw[ec] at q7⊢
 have A:=ZdC R T hold o3
 obtain⟨u1,u2,u3,u4,u5⟩:=Zex R hold
 have hne2:(lookD f to t).1.ino≠n.ino:=λe=>q5 ⟨hold,e⟩
 have hst:dir=to->s≠t:=λe1 e2=>by subst e1 e2;rw[hL] at hne2;exact hne2 rfl
 have hot:=Zdd R T hold
 generalize hO:lookD f to t=O at*
 obtain⟨old,eo⟩:=O
 simp only at*
 subst hold
 have TA:=ZlR R T u1 u2 u4 u5 o3 A
 generalize withoutD f to t old.ino=g at*
 have hdo:dir≠old.ino:=λe=>by
  rw[e,u5] at h4
  simp only[o3] at h4
  exact absurd (congrArg Prod.snd h4) (by simp[findE])
 have hnt:n.ino≠to:=λe=>by
  by_cases k:n.kind=2
  ·exact(hw k).1 e.symm
  ·rw[<-e,h5] at t2;exact k t2
 have gt:findB g.l to=({(findB f.l to).1 with l:=outE (findB f.l to).1.l t},true):=by rw[A.find,if_neg (λe=>hot e.symm),if_pos rfl]
 have gn:findB g.l n.ino=(n,true):=by rw[A.find,if_neg (λe=>hne2 e.symm),if_neg hnt,h5]
 have gd:(findB g.l dir).2=true/\(findB g.l dir).1.kind=2/\findE (findB g.l dir).1.l s=(n.ino,true):=by
  rw[A.find,if_neg hdo]
  split
  ·rename_i e
   refine⟨rfl,u2,?_⟩
   simp only
   rw[Zug (R.row to).rise (hst e),<-e];exact h4
  ·exact⟨h1,h2,h4⟩
 obtain⟨a,b,c⟩:=ZlS A.rows TA gd.1 gd.2.1 gd.2.2 gn (to:=to) (t:=t) (by rw[gt]) (by rw[gt];exact u2) q3 (by
   rw[gt]
   exact ZbA.2 λx hx=>by simpa[outE] using(List.mem_filter.1 hx).2) (λk=>⟨(hw k).1,λe=>(hw k).2 (ZhH (λi y h=>(A.kids i y).1 h) e)⟩) (λe=>by
   have:¬256<=(findB g.l to).1.l.length:=λg=>q7 ⟨e,g⟩
   omega)
 have:=A.next
 exact⟨a,c,by omega,by omega⟩
theorem ZlT {f:FSR} (R:Zi f) (P:ZK f) {ino:Int} {turn:List UInt8->List UInt8×Int} (ht:∀s,s.length<=4096->(turn s).2=0->(turn s).1.length<=4096):Kept f (textD f ino turn).1:=by
 unfold textD
 split
 ·exact .refl R P
 rename_i q1
 have q1:(ofD f ino 1).2=0:=by simpa using q1
 split
 ·exact .refl R P
 rename_i q2
 have q2:(turn (bs (ofD f ino 1).1.text)).2=0:=by simpa using q2
 simp only
 have hof:∃m,findB f.l ino=(m,true)/\m.kind=1/\(ofD f ino 1).1=m:=by
  unfold ofD at q1⊢
  split at q1
  ·simp at q1
  ·rename_i h1
   split at q1
   ·simp at q1
   ·rename_i h2
    rw[if_neg h1,if_neg h2]
    refine⟨_,Prod.ext rfl (by simpa using h1),?_,rfl⟩
    simp only[not_and,ne_eq,Decidable.not_not] at h2
    exact h2 (by decide)
 obtain⟨m,hm,hk,e⟩:=hof
 rw[e] at q2⊢
 have hm2:=R.text ino
 rw[hm] at hm2
 have hx:=ht (bs m.text) (show m.text.size<=4096 from hm2) q2
 obtain⟨hs,hb⟩:=ZlO R hm (show m.kind≠2 by omega) hx
 have hino:m.ino=ino:=by have:=(R.find_ok (d:=ino) (by rw[hm])).2;rw[hm] at this;exact this
 have hc:∀k,cntF (putB f {m with text:=T (turn (bs m.text)).1}) k=cntF f k:=λk=>by
  have:cntF (putB f {m with text:=T (turn (bs m.text)).1}) k+((findB f.l ino).1.l.map (·.ino)).count k=cntF f k+(m.l.map (·.ino)).count k:=Zfv R.rise (n:={m with text:=T (turn (bs m.text)).1}) hino k
  rw[hm] at this
  simp only at this
  omega
 have hk:∀i,Zv (putB f {m with text:=T (turn (bs m.text)).1}).l i=Zv f.l i:=λi=>by
  unfold Zv
  rw[hb]
  split
  ·rename_i e;rw[e,hm]
  ·rfl
 generalize putB f {m with text:=T (turn (bs m.text)).1}=g at*
 have hkk:Zv g.l=Zv f.l:=funext hk
 have hb':∀q,(findB g.l q).2=(findB f.l q).2/\(findB g.l q).1.kind=(findB f.l q).1.kind/\(findB g.l q).1.links=(findB f.l q).1.links:=λq=>by
  rw[hb]
  split
  ·rename_i e;rw[e,hm];exact⟨rfl,rfl,rfl⟩
  ·exact⟨rfl,rfl,rfl⟩
 have hnx:=hs.next
 refine⟨hs.rows,⟨?_,λk hk'=> ?_,λk hk'=> ?_,λk hk' q1=> ?_,λk hk' q1 q2=> ?_⟩,by omega,by omega⟩
 ·obtain⟨a,b,c⟩:=hb' 1
  rw[a,b,c];exact P.root
 ·rw[(hb' k).1];rw[hc] at hk';exact P.here k hk'
 ·obtain⟨a,b,c⟩:=hb' k
  rw[a] at hk'
  rw[c,hc];exact P.links k hk'
 ·obtain⟨a,b,c⟩:=hb' k
  rw[a] at hk'
  rw[c];exact P.some k hk' q1
 ·obtain⟨a,b,c⟩:=hb' k
  rw[a] at hk'
  rw[b] at q2
  rw[c,hkk];exact P.dir k hk' q1 q2
theorem Zui {f:FSR} {c:Zj} (h:c.kind=1):doS f c=(f,toldR ⟨0,(lookD f c.ino c.name).1.ino,0,0,.empty,[]⟩ (lookD f c.ino c.name).2):=by
 unfold doS;rw[if_pos h]
theorem Zuj {f:FSR} {c:Zj} (h:c.kind=2):doS f c=(f,toldR ⟨0,(ofD f c.ino 0).1.kind,(ofD f c.ino 0).1.links,sizeS (ofD f c.ino 0).1,.empty,[]⟩ (ofD f c.ino 0).2):=by
 unfold doS;rw[if_neg (show¬c.kind=1 by omega),if_pos h]
theorem Zuk {f:FSR} {c:Zj} (h:c.kind=3):doS f c=(f,if(ofD f c.ino 1).2≠0 then errR (ofD f c.ino 1).2 else toldR ⟨0,0,0,0,T (readT (bs (ofD f c.ino 1).1.text) c.at_ c.many).1,[]⟩ (readT (bs (ofD f c.ino 1).1.text) c.at_ c.many).2):=by
 unfold doS;rw[if_neg (show¬c.kind=1 by omega),if_neg (show¬c.kind=2 by omega),if_pos h]
theorem Zxs {f:FSR} {c:Zj} (h:c.kind=4):doS f c=((textD f c.ino λs=>writeT s c.at_ (bs c.text)).1,toldR ⟨0,c.text.size,0,0,.empty,[]⟩ (textD f c.ino λs=>writeT s c.at_ (bs c.text)).2):=by
 unfold doS;rw[if_neg (show¬c.kind=1 by omega),if_neg (show¬c.kind=2 by omega),if_neg (show¬c.kind=3 by omega),if_pos h]
theorem Zxt {f:FSR} {c:Zj} (h:c.kind=5):doS f c=((textD f c.ino λs=>cutT s c.many).1,errR (textD f c.ino λs=>cutT s c.many).2):=by
 unfold doS;rw[if_neg (show¬c.kind=1 by omega),if_neg (show¬c.kind=2 by omega),if_neg (show¬c.kind=3 by omega),if_neg (show¬c.kind=4 by omega),if_pos h]
theorem doS_6 {f:FSR} {c:Zj} (h:c.kind=6):doS f c=addO f c ⟨0,1,0,.empty,[]⟩:=by
 unfold doS;rw[if_neg (show¬c.kind=1 by omega),if_neg (show¬c.kind=2 by omega),if_neg (show¬c.kind=3 by omega),if_neg (show¬c.kind=4 by omega),if_neg (show¬c.kind=5 by omega),if_pos h]
theorem doS_7 {f:FSR} {c:Zj} (h:c.kind=7):doS f c=addO f c ⟨0,2,0,.empty,[]⟩:=by
 unfold doS;rw[if_neg (show¬c.kind=1 by omega),if_neg (show¬c.kind=2 by omega),if_neg (show¬c.kind=3 by omega),if_neg (show¬c.kind=4 by omega),if_neg (show¬c.kind=5 by omega),if_neg (show¬c.kind=6 by omega),if_pos h]
theorem doS_8 {f:FSR} {c:Zj} (h:c.kind=8):doS f c=addO f c ⟨0,3,0,c.text,[]⟩:=by
 unfold doS;rw[if_neg (show¬c.kind=1 by omega),if_neg (show¬c.kind=2 by omega),if_neg (show¬c.kind=3 by omega),if_neg (show¬c.kind=4 by omega),if_neg (show¬c.kind=5 by omega),if_neg (show¬c.kind=6 by omega),if_neg (show¬c.kind=7 by omega),if_pos h]
theorem Zxu {f:FSR} {c:Zj} (h:c.kind=9):doS f c=removeO f c false:=by
 unfold doS;rw[if_neg (show¬c.kind=1 by omega),if_neg (show¬c.kind=2 by omega),if_neg (show¬c.kind=3 by omega),if_neg (show¬c.kind=4 by omega),if_neg (show¬c.kind=5 by omega),if_neg (show¬c.kind=6 by omega),if_neg (show¬c.kind=7 by omega),if_neg (show¬c.kind=8 by omega),if_pos h]
theorem Zpp {f:FSR} {c:Zj} (h:c.kind=10):doS f c=removeO f c true:=by
 unfold doS;rw[if_neg (show¬c.kind=1 by omega),if_neg (show¬c.kind=2 by omega),if_neg (show¬c.kind=3 by omega),if_neg (show¬c.kind=4 by omega),if_neg (show¬c.kind=5 by omega),if_neg (show¬c.kind=6 by omega),if_neg (show¬c.kind=7 by omega),if_neg (show¬c.kind=8 by omega),if_neg (show¬c.kind=9 by omega),if_pos h]
theorem Zpq {f:FSR} {c:Zj} (h:c.kind=11):doS f c=((giveD f c.ino c.name c.to_).1,errR (giveD f c.ino c.name c.to_).2):=by
 unfold doS;rw[if_neg (show¬c.kind=1 by omega),if_neg (show¬c.kind=2 by omega),if_neg (show¬c.kind=3 by omega),if_neg (show¬c.kind=4 by omega),if_neg (show¬c.kind=5 by omega),if_neg (show¬c.kind=6 by omega),if_neg (show¬c.kind=7 by omega),if_neg (show¬c.kind=8 by omega),if_neg (show¬c.kind=9 by omega),if_neg (show¬c.kind=10 by omega),if_pos h]
theorem doS_12 {f:FSR} {c:Zj} (h:c.kind=12):doS f c=((moveD f c.ino c.name c.to_ c.name2).1,errR (moveD f c.ino c.name c.to_ c.name2).2):=by
 unfold doS;rw[if_neg (show¬c.kind=1 by omega),if_neg (show¬c.kind=2 by omega),if_neg (show¬c.kind=3 by omega),if_neg (show¬c.kind=4 by omega),if_neg (show¬c.kind=5 by omega),if_neg (show¬c.kind=6 by omega),if_neg (show¬c.kind=7 by omega),if_neg (show¬c.kind=8 by omega),if_neg (show¬c.kind=9 by omega),if_neg (show¬c.kind=10 by omega),if_neg (show¬c.kind=11 by omega),if_pos h]
theorem ZlU {f:FSR} {c:Zj} (h:c.kind=13):doS f c=(f,toldR ⟨0,0,0,0,(ofD f c.ino 3).1.text,[]⟩ (ofD f c.ino 3).2):=by
 unfold doS;rw[if_neg (show¬c.kind=1 by omega),if_neg (show¬c.kind=2 by omega),if_neg (show¬c.kind=3 by omega),if_neg (show¬c.kind=4 by omega),if_neg (show¬c.kind=5 by omega),if_neg (show¬c.kind=6 by omega),if_neg (show¬c.kind=7 by omega),if_neg (show¬c.kind=8 by omega),if_neg (show¬c.kind=9 by omega),if_neg (show¬c.kind=10 by omega),if_neg (show¬c.kind=11 by omega),if_neg (show¬c.kind=12 by omega),if_pos h]
theorem ZlV {f:FSR} {c:Zj} (h:c.kind=14):doS f c=(f,toldR ⟨0,0,0,0,.empty,(dirD f c.ino).1.l.map (·.name)⟩ (dirD f c.ino).2):=by
 unfold doS;rw[if_neg (show¬c.kind=1 by omega),if_neg (show¬c.kind=2 by omega),if_neg (show¬c.kind=3 by omega),if_neg (show¬c.kind=4 by omega),if_neg (show¬c.kind=5 by omega),if_neg (show¬c.kind=6 by omega),if_neg (show¬c.kind=7 by omega),if_neg (show¬c.kind=8 by omega),if_neg (show¬c.kind=9 by omega),if_neg (show¬c.kind=10 by omega),if_neg (show¬c.kind=11 by omega),if_neg (show¬c.kind=12 by omega),if_neg (show¬c.kind=13 by omega),if_pos h]
theorem Zul {f:FSR} {c:Zj} (h:c.kind=15):doS f c=(f,⟨0,f.l.length,sizesF f.l,0,.empty,[]⟩):=by
 unfold doS;rw[if_neg (show¬c.kind=1 by omega),if_neg (show¬c.kind=2 by omega),if_neg (show¬c.kind=3 by omega),if_neg (show¬c.kind=4 by omega),if_neg (show¬c.kind=5 by omega),if_neg (show¬c.kind=6 by omega),if_neg (show¬c.kind=7 by omega),if_neg (show¬c.kind=8 by omega),if_neg (show¬c.kind=9 by omega),if_neg (show¬c.kind=10 by omega),if_neg (show¬c.kind=11 by omega),if_neg (show¬c.kind=12 by omega),if_neg (show¬c.kind=13 by omega),if_neg (show¬c.kind=14 by omega),if_pos h]
theorem Zfx {f:FSR} {c:Zj} (h:c.kind<1\/15<c.kind):doS f c=(f,errR 1):=by
 unfold doS;rw[if_neg (show¬c.kind=1 by omega),if_neg (show¬c.kind=2 by omega),if_neg (show¬c.kind=3 by omega),if_neg (show¬c.kind=4 by omega),if_neg (show¬c.kind=5 by omega),if_neg (show¬c.kind=6 by omega),if_neg (show¬c.kind=7 by omega),if_neg (show¬c.kind=8 by omega),if_neg (show¬c.kind=9 by omega),if_neg (show¬c.kind=10 by omega),if_neg (show¬c.kind=11 by omega),if_neg (show¬c.kind=12 by omega),if_neg (show¬c.kind=13 by omega),if_neg (show¬c.kind=14 by omega),if_neg (show¬c.kind=15 by omega)]
theorem kind_cases (k:Int):(k<1\/15<k)\/k=1\/k=2\/k=3\/k=4\/k=5\/k=6\/k=7\/k=8\/k=9\/k=10\/k=11\/k=12\/k=13\/k=14\/k=15:=by omega
theorem calm_of {f:FSR} (R:Zi f) (T:ZK f) (c:Zj):CalmF f c:=⟨λ_ h=>Zdd R T h,λ_ h=>Zdd R T h⟩
theorem ZhJ {f:FSR} (R:Zi f) (T:ZK f) (c:Zj) (n:NodeR):Kept f (addO f c n).1:=by
 unfold addO
 split
 ·exact .refl R T
 split
 ·exact .refl R T
 ·rename_i q;exact Zxr R T _ _ _ (by simpa using q)
theorem Zgu {f:FSR} (R:Zi f) (T:ZK f) (c:Zj) (b:Bool):Kept f (removeO f c b).1:=by
 unfold removeO
 split
 ·exact .refl R T
 split
 ·exact .refl R T
 split
 ·exact .refl R T
 ·exact Zuf R T _ _
theorem Zcu {f:FSR} (R:Zi f) (T:ZK f) (c:Zj):Kept f (doS f c).1:=by
 rcases kind_cases c.kind with h|h|h|h|h|h|h|h|h|h|h|h|h|h|h|h
 ·rw[Zfx h];exact .refl R T
 ·rw[Zui h];exact .refl R T
 ·rw[Zuj h];exact .refl R T
 ·rw[Zuk h];exact .refl R T
 ·rw[Zxs h];exact ZlT R T λs hs h=>ZhF h hs
 ·rw[Zxt h];exact ZlT R T λs hs h=>ZnD h
 ·rw[doS_6 h];exact ZhJ R T c _
 ·rw[doS_7 h];exact ZhJ R T c _
 ·rw[doS_8 h];exact ZhJ R T c _
 ·rw[Zxu h];exact Zgu R T c _
 ·rw[Zpp h];exact Zgu R T c _
 ·rw[Zpq h];exact Zue R T _ _ _
 ·rw[doS_12 h];exact Zuh R T _ _ _ _
 ·rw[ZlU h];exact .refl R T
 ·rw[ZlV h];exact .refl R T
 ·rw[Zul h];exact .refl R T
theorem Zku {f:FSR} {ino:Int} {turn:List UInt8->List UInt8×Int} (he:(textD f ino turn).2≠0):(textD f ino turn).1=f:=by
 unfold textD at he⊢
 split
 ·rfl
 rename_i q1;rw[if_neg q1] at he
 split
 ·rfl
 rename_i q2;rw[if_neg q2] at he
 exact absurd rfl he
theorem Zum (f:FSR) (c:Zj) (h':c.kind<=3\/13<=c.kind):(doS f c).1=f:=by
 rcases kind_cases c.kind with h|h|h|h|h|h|h|h|h|h|h|h|h|h|h|h
 ·rw[Zfx h]
 ·rw[Zui h]
 ·rw[Zuj h]
 ·rw[Zuk h]
 ·omega
 ·omega
 ·omega
 ·omega
 ·omega
 ·omega
 ·omega
 ·omega
 ·omega
 ·rw[ZlU h]
 ·rw[ZlV h]
 ·rw[Zul h]
theorem ZhK:∀(l:List Zj) (f:FSR),Zi f->ZK f->Zi (playS f l).1/\ZK (playS f l).1/\f.next<=(playS f l).1.next/\(playS f l).1.next<=f.next+l.length
 |[],f,R,T=>⟨R,T,Int.le_refl _,by simp[playS]⟩
 |c::l,f,R,T=>by
  have K:=Zcu R T c
  obtain⟨a,b,d,e⟩:=ZhK l _ K.rows K.tree
  have:=K.next
  simp only[playS,List.length_cons]
  exact⟨a,b,by omega,by omega⟩
end Go.Cx
set_option linter.unusedVariables false
set_option linter.unusedSimpArgs false
namespace Go.Cx
theorem Zed {l:List Int} (h:Zat l=true) (f:FSR) (d:Int) (s:ByteArray):Zat (ZbK l f d s)=true/\∀y,y∈ZbK l f d s↔y∈l\/findE (findB f.l d).1.l s=(y,true):=by
 unfold ZbK
 split
 ·rename_i q
  obtain⟨h1,h2⟩:=Zea h (findE (findB f.l d).1.l s).1
  refine⟨h1,λy=> ?_⟩
  rw[h2]
  have:findE (findB f.l d).1.l s=(y,true)↔y=(findE (findB f.l d).1.l s).1:=
   ⟨λe=>by rw[e],λe=>by rw[e];exact Prod.ext rfl q⟩
  rw[this];exact or_comm
 ·rename_i q
  refine⟨h,λy=>⟨.inl,λg=>g.elim id λe=>absurd (by rw[e]) q⟩⟩
theorem Zbk (f:FSR) (c:Zj):Zat (looksS f c)=true/\(c.kind≠15->∀y,y∈looksS f c↔((((y=c.ino\/y=c.to_)\/findE (findB f.l c.ino).1.l c.name=(y,true))\/findE (findB f.l c.ino).1.l c.name2=(y,true))\/findE (findB f.l c.to_).1.l c.name=(y,true))\/findE (findB f.l c.to_).1.l c.name2=(y,true)):=by
 unfold looksS
 obtain⟨a1,a2⟩:=Zea (l:=[]) rfl c.ino
 obtain⟨b1,b2⟩:=Zea a1 c.to_
 obtain⟨c1,c2⟩:=Zed b1 f c.ino c.name
 obtain⟨d1,d2⟩:=Zed c1 f c.ino c.name2
 obtain⟨e1,e2⟩:=Zed d1 f c.to_ c.name
 obtain⟨f1,f2⟩:=Zed e1 f c.to_ c.name2
 split
 ·rename_i q;exact⟨rfl,λh=>absurd q h⟩
 ·refine⟨f1,λ_ y=> ?_⟩
  rw[f2,e2,d2,c2,b2,a2]
  simp only[List.not_mem_nil,or_false]
  rw[show(y=c.to_\/y=c.ino)↔(y=c.ino\/y=c.to_) from or_comm]
structure Zkv (f:FSR) (c:Zj) (k:FSR) (L:List Int):Prop where
 len:L.length<=4
 no:∀q,q∉L->findB k.l q=findB f.l q
 yes:∀q∈L,q∈looksS f c\/f.next<=q
theorem Zkv.none {f:FSR} {c:Zj}:Zkv f c f []:=⟨by simp,λ_ _=>rfl,by simp⟩
theorem ofD_one {f:FSR} {ino:Int} (q1:(ofD f ino 1).2=0):∃m,findB f.l ino=(m,true)/\m.kind=1/\(ofD f ino 1).1=m:=by
 unfold ofD at q1⊢
 split at q1
 ·simp at q1
 ·rename_i h1
  split at q1
  ·simp at q1
  ·rename_i h2
   rw[if_neg h1,if_neg h2]
   refine⟨_,Prod.ext rfl (by simpa using h1),?_,rfl⟩
   simp only[not_and,ne_eq,Decidable.not_not] at h2
   exact h2 (by decide)
theorem ZhL {f:FSR} (R:Zi f) {ino:Int} {turn:List UInt8->List UInt8×Int} (h:(textD f ino turn).2=0) (ht:∀s,s.length<=4096->(turn s).2=0->(turn s).1.length<=4096):
  ∃m,findB f.l ino=(m,true)/\m.kind=1/\(turn (bs m.text)).2=0/\(textD f ino turn).1=putB f {m with text:=T (turn (bs m.text)).1}/\Zft f (textD f ino turn).1/\∀q,findB (textD f ino turn).1.l q=if q=ino then({m with text:=T (turn (bs m.text)).1},true) else findB f.l q:=by
 unfold textD at h⊢
 split at h
 ·rename_i q;exact absurd h q
 rename_i q1
 rw[if_neg q1]
 split at h
 ·rename_i q;exact absurd h q
 rename_i q2
 rw[if_neg q2]
 obtain⟨m,hm,hk,e⟩:=ofD_one (by simpa using q1)
 have q2:(turn (bs (ofD f ino 1).1.text)).2=0:=by simpa using q2
 rw[e] at q2⊢
 have hm2:=R.text ino
 rw[hm] at hm2
 obtain⟨hs,hb⟩:=ZlO R hm (show m.kind≠2 by omega) (ht (bs m.text) (show m.text.size<=4096 from hm2) q2)
 exact⟨m,hm,hk,q2,rfl,hs,hb⟩
theorem Zjl {f:FSR} (R:Zi f) {c:Zj} (hk:c.kind≠15) (h:(lookD f c.ino c.name).2=0):(lookD f c.ino c.name).1.ino∈looksS f c:=by
 obtain⟨_,_,_,h4,_⟩:=Zex R h
 exact((Zbk f c).2 hk _).2 (.inl (.inl (.inl (.inr h4))))
theorem ZnE {f:FSR} (R:Zi f) {c:Zj} (hk:c.kind≠15) (h:(lookD f c.to_ c.name2).2=0):(lookD f c.to_ c.name2).1.ino∈looksS f c:=by
 obtain⟨_,_,_,h4,_⟩:=Zex R h
 exact((Zbk f c).2 hk _).2 (.inr h4)
theorem ZS {f:FSR} {c:Zj} (hk:c.kind≠15):c.ino∈looksS f c:=((Zbk f c).2 hk _).2 (.inl (.inl (.inl (.inl (.inl rfl)))))
theorem Zee {f:FSR} {c:Zj} (hk:c.kind≠15):c.to_∈looksS f c:=((Zbk f c).2 hk _).2 (.inl (.inl (.inl (.inl (.inr rfl)))))
theorem Zjm {f:FSR} (R:Zi f) {c:Zj} (hk:c.kind≠15) {turn:List UInt8->List UInt8×Int} (ht:∀s,s.length<=4096->(turn s).2=0->(turn s).1.length<=4096):∃L,Zkv f c (textD f c.ino turn).1 L:=by
 by_cases h:(textD f c.ino turn).2=0
 ·obtain⟨m,_,_,_,_,_,hb⟩:=ZhL R h ht
  exact⟨[c.ino],by simp,λq hq=>by rw[hb,if_neg (by simpa using hq)],λq hq=> .inl (by simp at hq;subst hq;exact ZS hk)⟩
 ·rw[Zku h];exact⟨[],.none⟩
theorem ZfY {f:FSR} (R:Zi f) {c:Zj} (hk:c.kind≠15) (n:NodeR):∃L,Zkv f c (addO f c n).1 L:=by
 unfold addO
 split
 ·exact⟨[],.none⟩
 split
 ·exact⟨[],.none⟩
 ·rename_i q
  have A:=added R (by simpa using q)
  refine⟨[c.ino,f.next],by simp,λq hq=> ?_,λq hq=> ?_⟩
  ·simp only[List.mem_cons,List.not_mem_nil,or_false,not_or] at hq
   rw[A.find,if_neg hq.2,if_neg hq.1]
  ·simp only[List.mem_cons,List.not_mem_nil,or_false] at hq
   rcases hq with rfl|rfl
   ·exact .inl (ZS hk)
   ·exact .inr (Int.le_refl _)
theorem Zru {f:FSR} (R:Zi f) (T:ZK f) {c:Zj} (hk:c.kind≠15):∃L,Zkv f c (takeD f c.ino c.name).1 L:=by
 unfold takeD
 split
 ·exact⟨[],.none⟩
 rename_i q
 have q:(lookD f c.ino c.name).2=0:=by simpa using q
 split
 ·exact⟨[],.none⟩
 rename_i q2
 have A:=ZdC R T q (List.eq_nil_of_length_eq_zero (by omega))
 refine⟨[(lookD f c.ino c.name).1.ino,c.ino],by simp,λq hq=> ?_,λq' hq=> ?_⟩
 ·simp only[List.mem_cons,List.not_mem_nil,or_false,not_or] at hq
  rw[A.find,if_neg hq.1,if_neg hq.2]
 ·simp only[List.mem_cons,List.not_mem_nil,or_false] at hq
  rcases hq with rfl|rfl
  ·exact .inl (Zjl R hk q)
  ·exact .inl (ZS hk)
theorem Zfy {f:FSR} (R:Zi f) (T:ZK f) {c:Zj} (hk:c.kind≠15) (b:Bool):∃L,Zkv f c (removeO f c b).1 L:=by
 unfold removeO
 split
 ·exact⟨[],.none⟩
 split
 ·exact⟨[],.none⟩
 split
 ·exact⟨[],.none⟩
 ·exact Zru R T hk
theorem ZhM {f:FSR} (R:Zi f) {dir:Int} {s:ByteArray} {ino:Int} (he:giveE f dir s ino=0) (q:Int):
  findB (giveD f dir s ino).1.l q=if q=ino then({(findB f.l ino).1 with links:=(findB f.l ino).1.links+1},true) else if q=dir then({(findB f.l dir).1 with l:=(enterE (findB f.l dir).1.l s ino).1},true) else findB f.l q:=by
 obtain⟨g1,g2,g3,g4,g5,g6,g7⟩:=ZnA he
 obtain⟨d1,d2,d3⟩:=Zbf g1
 have hs:=ZaQ R d1 d2 s ino
 rw[ZbT,if_pos he,Zbe hs.rows.rise]
 simp only[(R.find_ok g2).2]
 split
 ·rfl
 ·rw[Zau R d1]
theorem Zrv {f:FSR} (R:Zi f) {c:Zj} (hk:c.kind≠15):∃L,Zkv f c (giveD f c.ino c.name c.to_).1 L:=by
 by_cases he:giveE f c.ino c.name c.to_=0
 ·refine⟨[c.to_,c.ino],by simp,λq hq=> ?_,λq hq=> ?_⟩
  ·simp only[List.mem_cons,List.not_mem_nil,or_false,not_or] at hq
   rw[ZhM R he,if_neg hq.1,if_neg hq.2]
  ·simp only[List.mem_cons,List.not_mem_nil,or_false] at hq
   rcases hq with rfl|rfl
   ·exact .inl (Zee hk)
   ·exact .inl (ZS hk)
 ·rw[ZbT,if_neg he];exact⟨[],.none⟩
theorem Zrw {f:FSR} (R:Zi f) {to:Int} {t:ByteArray} (T:ZK f) (q:Int) (h1:q≠to) (h2:(lookD f to t).2=0->q≠(lookD f to t).1.ino):findB (clearD f to t).l q=findB f.l q:=by
 rw[Zec R to t q h2 (λh=>Zdd R T h),if_neg (λg=>h1 g.1)]
theorem Zrx {f:FSR} (R:Zi f) (T:ZK f) {c:Zj} (hk:c.kind≠15):∃L,Zkv f c (moveD f c.ino c.name c.to_ c.name2).1 L:=by
 unfold moveD
 split
 ·exact⟨[],.none⟩
 rename_i q1
 split
 ·exact⟨[],.none⟩
 rename_i q2
 split
 ·exact⟨[],.none⟩
 split
 ·exact⟨[],.none⟩
 split
 ·exact⟨[],.none⟩
 split
 ·exact⟨[],.none⟩
 rename_i q6
 split
 ·exact⟨[],.none⟩
 simp only
 have q1:(lookD f c.ino c.name).2=0:=by simpa using q1
 have q2:(dirD f c.to_).2=0:=by simpa using q2
 obtain⟨h1,h2,_⟩:=Zex R q1
 obtain⟨t1,t2,_⟩:=Zbf q2
 have hcs:=Zjd R c.to_ c.name2
 have key:∀q,q≠c.ino->q≠c.to_->((lookD f c.to_ c.name2).2=0->q≠(lookD f c.to_ c.name2).1.ino)->(findB (clearD f c.to_ c.name2).l c.ino).2=true->(findB (leftD (clearD f c.to_ c.name2) c.ino c.name).l c.to_).2=true->Zi (leftD (clearD f c.to_ c.name2) c.ino c.name)->
   findB (enteredD (leftD (clearD f c.to_ c.name2) c.ino c.name) c.to_ c.name2 (lookD f c.ino c.name).1.ino).l q=findB f.l q:=λq a1 a2 a3 a4 a5 a6=>by
  rw[Zau a6 a5,if_neg a2,Zap hcs.rows a4,if_neg a1,Zrw R T q a2 a3]
 have htt:(findB (clearD f c.to_ c.name2).l c.to_).2=true:=by
  rw[Zec R c.to_ c.name2 c.to_ (λh=>(Zdd R T h).symm) (λh=>Zdd R T h)]
  split
  ·rfl
  ·exact t1
 have hdd:(findB (clearD f c.to_ c.name2).l c.ino).2=true:=by
  by_cases e:(lookD f c.to_ c.name2).2=0/\c.ino=(lookD f c.to_ c.name2).1.ino
  ·exfalso
   have ho:overD (lookD f c.ino c.name).1 (lookD f c.to_ c.name2).1=0:=Decidable.byContradiction λg=>q6 ⟨e.1,g⟩
   obtain⟨_,_,o3⟩:=Zpo ho
   obtain⟨_,_,_,_,u5⟩:=Zex R e.1
   obtain⟨_,_,_,h4,_⟩:=Zex R q1
   rw[e.2,u5] at h4
   simp only[o3] at h4
   exact absurd (congrArg Prod.snd h4) (by simp[findE])
  ·rw[Zec R c.to_ c.name2 c.ino (λh g=>e ⟨h,g⟩) (λh=>Zdd R T h)]
   split
   ·rfl
   ·exact h1
 have hls:=Zcg hcs.rows hdd c.name
 have htl:(findB (leftD (clearD f c.to_ c.name2) c.ino c.name).l c.to_).2=true:=by
  rw[Zap hcs.rows hdd]
  split
  ·rfl
  ·exact htt
 by_cases hold:(lookD f c.to_ c.name2).2=0
 ·refine⟨[c.ino,c.to_,(lookD f c.to_ c.name2).1.ino],by simp,λq hq=> ?_,λq hq=> ?_⟩
  ·simp only[List.mem_cons,List.not_mem_nil,or_false,not_or] at hq
   exact key q hq.1 hq.2.1 (λ_=>hq.2.2) hdd htl hls.rows
  ·simp only[List.mem_cons,List.not_mem_nil,or_false] at hq
   rcases hq with rfl|rfl|rfl
   ·exact .inl (ZS hk)
   ·exact .inl (Zee hk)
   ·exact .inl (ZnE R hk hold)
 ·refine⟨[c.ino,c.to_],by simp,λq hq=> ?_,λq hq=> ?_⟩
  ·simp only[List.mem_cons,List.not_mem_nil,or_false,not_or] at hq
   exact key q hq.1 hq.2 (λh=>absurd h hold) hdd htl hls.rows
  ·simp only[List.mem_cons,List.not_mem_nil,or_false] at hq
   rcases hq with rfl|rfl
   ·exact .inl (ZS hk)
   ·exact .inl (Zee hk)
theorem Zun {f:FSR} (R:Zi f) (T:ZK f) (c:Zj):∃L,Zkv f c (doS f c).1 L:=by
 by_cases hk:c.kind=15
 ·rw[Zum f c (.inr (by omega))];exact⟨[],.none⟩
 rcases kind_cases c.kind with h|h|h|h|h|h|h|h|h|h|h|h|h|h|h|h
 ·rw[Zfx h];exact⟨[],.none⟩
 ·rw[Zui h];exact⟨[],.none⟩
 ·rw[Zuj h];exact⟨[],.none⟩
 ·rw[Zuk h];exact⟨[],.none⟩
 ·rw[Zxs h];exact Zjm R hk λs hs h=>ZhF h hs
 ·rw[Zxt h];exact Zjm R hk λs hs h=>ZnD h
 ·rw[doS_6 h];exact ZfY R hk _
 ·rw[doS_7 h];exact ZfY R hk _
 ·rw[doS_8 h];exact ZfY R hk _
 ·rw[Zxu h];exact Zfy R T hk _
 ·rw[Zpp h];exact Zfy R T hk _
 ·rw[Zpq h];exact Zrv R hk
 ·rw[doS_12 h];exact Zrx R T hk
 ·rw[ZlU h];exact⟨[],.none⟩
 ·rw[ZlV h];exact⟨[],.none⟩
 ·rw[Zul h];exact⟨[],.none⟩
theorem ZhN {f g:FSR} {d:Int} (h:findB g.l d=findB f.l d):dirD g d=dirD f d:=by unfold dirD;rw[h]
theorem ZfZ {f g:FSR} {d:Int} {s:ByteArray} (h:findB g.l d=findB f.l d) (h2:∀y,findE (findB f.l d).1.l s=(y,true)->findB g.l y=findB f.l y):lookD g d s=lookD f d s:=by
 unfold lookD
 rw[ZhN h]
 by_cases q1:(dirD f d).2=0
 ·obtain⟨d1,d2,d3⟩:=Zbf q1
  rw[d3]
  by_cases q2:(findE (findB f.l d).1.l s).2=true
  ·have:=h2 (findE (findB f.l d).1.l s).1 (Prod.ext rfl q2)
   rw[this]
  ·have q2:(findE (findB f.l d).1.l s).2=false:=by simpa using q2
   rw[if_pos q2,if_pos q2]
 ·rw[if_pos q1,if_pos q1]
theorem ZgK {f g:FSR} {d:Int} (h:findB g.l d=findB f.l d) (k:Int):ofD g d k=ofD f d k:=by unfold ofD;rw[h]
theorem Zry {f g:FSR} {d ino:Int} {s:ByteArray} (h:findB g.l d=findB f.l d) (h2:findB g.l ino=findB f.l ino):giveE g d s ino=giveE f d s ino:=by unfold giveE;rw[ZhN h,h2]
theorem ZhO {f:FSR} {ino:Int} {g:FSR} (h:findB g.l ino=findB f.l ino) (turn:List UInt8->List UInt8×Int):(textD g ino turn).2=(textD f ino turn).2:=by
 unfold textD
 rw[ZgK h]
 split
 ·rfl
 ·split<;>rfl
section
variable {f:FSR} {dir:Int} {s:ByteArray} {n:NodeR} {c:Zj} (R:Zi f) (T:ZK f) (he:(addD f dir s n).2=0) (hk:c.kind≠15) (hl:∀y∈looksS f c,y≠dir/\y≠f.next)
include R he hl
include hk
include T
end
theorem ZhP (a:List Int) (n:Int):(ZbJ a n).length<=a.length+1:=by
 have h:∀a:List Int,(a.dropWhile λy=>decide (y<=n)).length<=(a.dropWhile λy=>decide (y<n)).length:=by
  intro a
  induction a with
  |nil=>simp
  |cons y a iha=>
   simp only[List.dropWhile_cons]
   by_cases q1:y<n
   ·rw[if_pos (by simp;omega),if_pos (by simpa using q1)];exact iha
   ·rw[if_neg (c:=(decide (y<n))=true) (by simpa using q1)]
    split
    ·exact Nat.le_trans (List.dropWhile_sublist _).length_le (by simp)
    ·exact Nat.le_refl _
 have h4:=congrArg List.length (List.takeWhile_append_dropWhile (p:=λy=>decide (y<n)) (l:=a))
 have h5:=h a
 simp only[List.length_append] at h4
 simp only[ZbJ,List.length_append,List.length_cons]
 omega
theorem Zfz (l:List Int) (f:FSR) (d:Int) (s:ByteArray):(ZbK l f d s).length<=l.length+1:=by
 unfold ZbK
 split
 ·exact ZhP _ _
 ·omega
theorem ZlW (f:FSR) (c:Zj):(looksS f c).length<=6:=by
 unfold looksS
 split
 ·decide
 ·have l1:=ZhP [] c.ino
  have l2:=ZhP (ZbJ [] c.ino) c.to_
  have l3:=Zfz (ZbJ (ZbJ [] c.ino) c.to_) f c.ino c.name
  have l4:=Zfz (ZbK (ZbJ (ZbJ [] c.ino) c.to_) f c.ino c.name) f c.ino c.name2
  have l5:=Zfz (ZbK (ZbK (ZbJ (ZbJ [] c.ino) c.to_) f c.ino c.name) f c.ino c.name2) f c.to_ c.name
  have l6:=Zfz (ZbK (ZbK (ZbK (ZbJ (ZbJ [] c.ino) c.to_) f c.ino c.name) f c.ino c.name2) f c.to_ c.name) f c.to_ c.name2
  simp only[List.length_nil] at l1
  omega
end Go.Cx
namespace Go.Cx
section
variable {α:Type} (f:α->Int)
def atGo (st:Int):List α->Nat->Int->Int
 |[],_,k=>k
 |x::l,i,k=>atGo st l (i+1) (if f x<=st then i else k)
def atS (l:List α) (st:Int):Int:=atGo f st l 0 (-1)
structure IsAt (l:List α) (st k:Int):Prop where
 lo: -1<=k
 hi:k<l.length
 after:∀(j:Nat) (h:j<l.length),k<j->st<f l[j]
 here:∀(h:k.toNat<l.length),0<=k->f l[k.toNat]<=st
theorem Zup (st:Int) (l:List α):∀(n i:Nat) (k:Int),l.length -i=n->i<=l.length-> -1<=k->k<i->(∀(j:Nat) (h:j<l.length),k<j->j<i->st<f l[j])->(∀(h:k.toNat<l.length),0<=k->f l[k.toNat]<=st)->IsAt f l st (atGo f st (l.drop i) i k):=by
 intro n
 induction n with
 |zero=>
  intro i k hn hi h1 h2 h3 h4
  rw[List.drop_eq_nil_of_le (by omega),atGo]
  exact⟨h1,by omega,λj h hj=>h3 j h hj (by omega),h4⟩
 |succ n ih=>
  intro i k hn hi h1 h2 h3 h4
  have hi':i<l.length:=by omega
  rw[List.drop_eq_getElem_cons hi',atGo]
  by_cases q:f l[i]<=st
  ·rw[if_pos q]
   exact ih (i+1) i (by omega) (by omega) (by omega) (by omega) (λj h hj hj2=>by omega) (λh h0=>by simpa using q)
  ·rw[if_neg q]
   refine ih (i+1) k (by omega) (by omega) h1 (by omega) (λj h hj hj2=> ?_) h4
   rcases Nat.lt_or_ge j i with g|g
   ·exact h3 j h hj g
   ·have:j=i:=by omega
    subst this;omega
theorem Zcv (l:List α) (st:Int):IsAt f l st (atS f l st):=by
 have:=Zup f st l l.length 0 (-1) (by omega) (by omega) (by omega) (by omega) (λj h _ hj=>by omega) (λh h0=>by omega)
 rw[List.drop_zero] at this
 exact this
theorem IsAt.uniq {l:List α} {st k k':Int} (h:IsAt f l st k) (h':IsAt f l st k'):k=k':=by
 have a1:=h.lo;have a2:=h.hi;have b1:=h'.lo;have b2:=h'.hi
 rcases Int.lt_trichotomy k k' with g|g|g
 ·have h1:=h'.here (by omega) (by omega)
  have h2:=h.after k'.toNat (by omega) (by omega)
  omega
 ·exact g
 ·have h1:=h.here (by omega) (by omega)
  have h2:=h'.after k.toNat (by omega) (by omega)
  omega
def Zbc (l:List α) (st:Int):Option α:=l.reverse.find? λx=>decide (f x<=st)
theorem ZcO (l:List α) (x:α) (st:Int):Zbc f (l++[x]) st=if f x<=st then some x else Zbc f l st:=by
 unfold Zbc
 rw[List.reverse_append]
 simp only[List.reverse_cons,List.reverse_nil,List.nil_append,List.singleton_append,List.find?_cons]
 by_cases q:f x<=st
 ·simp[q]
 ·simp[q]
theorem ZfA (st:Int):∀l:List α,(atS f l st<0->Zbc f l st=none)/\∀(h:(atS f l st).toNat<l.length),0<=atS f l st->Zbc f l st=some l[(atS f l st).toNat]:=by
 intro l
 have key:∀(n:Nat) (l:List α),l.length=n->∀k,IsAt f l st k->(k<0->Zbc f l st=none)/\∀(h:k.toNat<l.length),0<=k->Zbc f l st=some l[k.toNat]:=by
  intro n
  induction n with
  |zero=>
   intro l hl k hk
   have:l=[]:=List.eq_nil_of_length_eq_zero hl
   subst this
   exact⟨λ_=>rfl,λh=>by simp at h⟩
  |succ n ih=>
   intro l hl k hk
   obtain⟨l',x,rfl⟩:∃l' x,l=l'++[x]:=⟨l.dropLast,l.getLast (by intro e;subst e;simp at hl),(List.dropLast_concat_getLast _).symm⟩
   have hl':l'.length=n:=by simpa using hl
   have a1:=hk.lo;have a2:=hk.hi
   rw[ZcO]
   have hlen:(l'++[x]).length=l'.length+1:=by simp
   by_cases q:f x<=st
   ·have hkn:k=l'.length:=by
     rcases Int.lt_trichotomy k l'.length with g|g|g
     ·have:=hk.after l'.length (by omega) g
      rw[List.getElem_append_right (Nat.le_refl _)] at this
      simp at this;omega
     ·exact g
     ·omega
    rw[if_pos q]
    refine⟨λg=>by omega,λh h0=> ?_⟩
    congr 1
    have:k.toNat=l'.length:=by omega
    simp[this]
   ·rw[if_neg q]
    have hkn:k<l'.length:=by
     rcases Int.lt_or_le k l'.length with g|g
     ·exact g
     ·have hk2:k.toNat=l'.length:=by omega
      have:=hk.here (by omega) (by omega)
      simp[hk2] at this;omega
    have hk':IsAt f l' st k:=⟨a1,hkn,λj h hj=>by
      have:=hk.after j (by omega) hj
      rwa[List.getElem_append_left h] at this,λh h0=>by
      have:=hk.here (by omega) h0
      rwa[List.getElem_append_left h] at this⟩
    obtain⟨i1,i2⟩:=ih l' hl' k hk'
    refine⟨i1,λh h0=> ?_⟩
    rw[i2 (by omega) h0,List.getElem_append_left (by omega)]
 exact key l.length l rfl _ (Zcv f l st)
end
def Zag (c:ChainR) (st:Int):List NodeR:=match Zbc VerR.stamp c.l st with
 |some v=>if v.gone=true then[] else[v.node]
 |none=>[]
def nextAt (l:List CountR) (st:Int):Int:=match Zbc CountR.stamp l st with
 |some c=>c.next
 |none=>1
def viewS (s:StoreR) (st:Int):FSR:=⟨s.l.flatMap λc=>Zag c st,nextAt s.nexts st⟩
def Zcw (st:Int) (c:ChainR):Bool:=c.l.any λv=>decide (st<v.stamp)
def Zbu (s:StoreR) (st:Int):List Int:=(s.l.filter (Zcw st)).map (·.ino)
def sinceS (s:StoreR) (st:Int):List Int:=if Zbu s st≠[]\/(s.nexts.any λc=>decide (st<c.stamp))=true then 0::Zbu s st else[]
def addV (l:List VerR) (v:VerR):List VerR:=(l.filter λx=> !decide (x.stamp=v.stamp))++[v]
def withS:List ChainR->Int->VerR->List ChainR
 |[],ino,v=>[⟨ino,[v]⟩]
 |c::l,ino,v=>if ino<c.ino then⟨ino,[v]⟩::c::l else if c.ino=ino then⟨ino,addV c.l v⟩::l else c::withS l ino v
def Zes (st:Int) (c:ChangeR):VerR:=⟨st,c.gone,if c.gone=true then .zero else{c.node with ino:=c.ino}⟩
def lastNext (l:List CountR):Int:=(l.getLast?.map (·.next)).getD 0
def Zaq (st:Int) (l:List ChainR) (c:ChangeR):List ChainR:=withS l c.ino (Zes st c)
def installS (s:StoreR) (l:List ChangeR) (next:Int):StoreR:=⟨l.foldl (Zaq (s.stamp+1)) s.l,if lastNext s.nexts<next then s.nexts++[⟨s.stamp+1,next⟩] else s.nexts,s.stamp+1⟩
structure VerP (ino:Int) (v:VerR):Prop where
 gone:v.gone=true->v.node= .zero
 node:v.gone=false->nodeOk v.node=true/\v.node.ino=ino
structure Zey (last:Int) (c:ChainR):Prop where
 ino:1<=c.ino
 some:c.l≠[]
 rise:c.l.Pairwise λa b=>a.stamp<b.stamp
 lo:∀v∈c.l,1<=v.stamp/\v.stamp<=last
 ver:∀v∈c.l,VerP c.ino v
structure ZD (s:StoreR):Prop where
 stamp:1<=s.stamp
 chain:∀c∈s.l,Zey s.stamp c
 rise:s.l.Pairwise λa b=>a.ino<b.ino
 some:s.nexts≠[]
 nrise:s.nexts.Pairwise λa b=>a.stamp<b.stamp
 count:∀c∈s.nexts,1<=c.stamp/\c.stamp<=s.stamp/\1<=c.next
def fewV:List VerR->Int->Option Int
 |[],n=>some n
 |v::l,n=>if n<=200 then(if 4096<v.node.text.size then none else fewV l (n+v.node.l.length)) else some n
def fewC:List ChainR->Int->Option Int
 |[],n=>some n
 |c::l,n=>if n<=200 then(match fewV c.l (n+c.l.length) with|none=>none|some m=>fewC l m) else some n
def fewStore (s:StoreR):Bool:=match fewC s.l (s.l.length+s.nexts.length) with
 |none=>false
 |some n=>decide (n<=200)
structure ZbM (s:StoreR):Prop where
 l:s.l.length<=1048576
 nexts:s.nexts.length<=1048576
 vers:∀c∈s.l,c.l.length<=1048576
 ents:∀c∈s.l,∀v∈c.l,v.node.l.length<=1048576
theorem Zuq:∀(l:List VerR) (n m:Int),fewV l n=some m->n<=m/\(m<=200->∀v∈l,v.node.text.size<=4096/\(v.node.l.length:Int)<=m -n)
 |[],n,m,h=>by simp only[fewV,Option.some.injEq] at h;subst h;simp
 |v::l,n,m,h=>by
  simp only[fewV] at h
  split at h
  ·split at h
   ·cases h
   ·rename_i h1 h2
    obtain⟨a,b⟩:=Zuq l _ _ h
    refine⟨by omega,λhm x hx=> ?_⟩
    rcases List.mem_cons.1 hx with rfl|hx
    ·exact⟨by omega,by omega⟩
    ·obtain⟨c,d⟩:=b hm x hx
     exact⟨c,by omega⟩
  ·rename_i h1
   simp only[Option.some.injEq] at h;subst h
   exact⟨Int.le_refl _,λhm=>by omega⟩
theorem Zur:∀(l:List ChainR) (n m:Int),fewC l n=some m->n<=m/\(m<=200->∀c∈l,(c.l.length:Int)<=m -n/\∀v∈c.l,v.node.text.size<=4096/\(v.node.l.length:Int)<=m -n)
 |[],n,m,h=>by simp only[fewC,Option.some.injEq] at h;subst h;simp
 |c::l,n,m,h=>by
  simp only[fewC] at h
  split at h
  ·cases hv:fewV c.l (n+c.l.length) with
   |none=>rw[hv] at h;cases h
   |some k=>
    rw[hv] at h
    obtain⟨a,b⟩:=Zuq _ _ _ hv
    obtain⟨d,e⟩:=Zur l _ _ h
    refine⟨by omega,λhm x hx=> ?_⟩
    rcases List.mem_cons.1 hx with rfl|hx
    ·exact⟨by omega,λv hv=>by obtain⟨p,q⟩:=b (by omega) v hv;exact⟨p,by omega⟩⟩
    ·obtain⟨p,q⟩:=e hm x hx
     exact⟨by omega,λv hv=>by obtain⟨p,q⟩:=q v hv;exact⟨p,by omega⟩⟩
  ·rename_i h1
   simp only[Option.some.injEq] at h;subst h
   exact⟨Int.le_refl _,λhm=>by omega⟩
theorem ZlX {s:StoreR} (h:fewStore s=true):s.l.length<=200/\s.nexts.length<=200/\∀c∈s.l,c.l.length<=200/\∀v∈c.l,v.node.text.size<=4096/\v.node.l.length<=200:=by
 unfold fewStore at h
 cases hc:fewC s.l (s.l.length+s.nexts.length) with
 |none=>rw[hc] at h;cases h
 |some m=>
  rw[hc] at h
  simp only[decide_eq_true_eq] at h
  obtain⟨a,b⟩:=Zur _ _ _ hc
  refine⟨by omega,by omega,λc hc=> ?_⟩
  obtain⟨p,q⟩:=b h c hc
  exact⟨by omega,λv hv=>by obtain⟨x,y⟩:=q v hv;exact⟨x,by omega⟩⟩
end Go.Cx
set_option linter.unusedVariables false
set_option linter.unusedSimpArgs false
namespace Go.Cx
theorem withS_mem {ino:Int} {v:VerR} {c:ChainR}:∀{l:List ChainR},c∈withS l ino v->c∈l\/(c.ino=ino/\(c.l=[v]\/∃c'∈l,c'.ino=ino/\c.l=addV c'.l v))
 |[],h=>by
  simp only[withS,List.mem_cons,List.not_mem_nil,or_false] at h
  exact .inr ⟨by rw[h],.inl (by rw[h])⟩
 |a::l,h=>by
  rw[withS] at h
  split at h
  ·rcases List.mem_cons.1 h with h|h
   ·exact .inr ⟨by rw[h],.inl (by rw[h])⟩
   ·exact .inl h
  ·split at h
   ·rename_i q
    rcases List.mem_cons.1 h with h|h
    ·exact .inr ⟨by rw[h],.inr ⟨a,by simp,q,by rw[h]⟩⟩
    ·exact .inl (by simp[h])
   ·rcases List.mem_cons.1 h with h|h
    ·exact .inl (by simp[h])
    ·rcases withS_mem h with g|⟨g1,g2|⟨c',hc,g2⟩⟩
     ·exact .inl (by simp[g])
     ·exact .inr ⟨g1,.inl g2⟩
     ·exact .inr ⟨g1,.inr ⟨c',by simp[hc],g2⟩⟩
theorem Zjn {ino:Int} {v:VerR}:∀{l:List ChainR},(l.Pairwise λa b=>a.ino<b.ino)->(withS l ino v).Pairwise λa b=>a.ino<b.ino
 |[],_=>by simp[withS]
 |a::l,h=>by
  obtain⟨h1,h2⟩:=List.pairwise_cons.1 h
  rw[withS]
  split
  ·rename_i q
   refine List.pairwise_cons.2 ⟨λb hb=> ?_,h⟩
   rcases List.mem_cons.1 hb with rfl|hb
   ·exact q
   ·have:=h1 b hb;show ino<b.ino;omega
  ·rename_i q
   split
   ·rename_i q2
    exact List.pairwise_cons.2 ⟨λb hb=>by have:=h1 b hb;show ino<b.ino;omega,h2⟩
   ·rename_i q2
    refine List.pairwise_cons.2 ⟨λb hb=> ?_,Zjn h2⟩
    rcases withS_mem hb with g|⟨g,_⟩
    ·exact h1 b g
    ·omega
theorem ZlY (ino:Int) (v:VerR):∀l:List ChainR,(withS l ino v).length<=l.length+1
 |[]=>by simp[withS]
 |a::l=>by
  rw[withS]
  split
  ·simp
  ·split
   ·simp
   ·have:=ZlY ino v l;simp;omega
theorem Zxw (l:List VerR) (v:VerR):(addV l v).length<=l.length+1:=by
 unfold addV
 have:=List.length_filter_le (λx:VerR=> !decide (x.stamp=v.stamp)) l
 simp;omega
theorem addV_mem {l:List VerR} {v x:VerR}:x∈addV l v↔(x∈l/\x.stamp≠v.stamp)\/x=v:=by
 unfold addV;simp
theorem Zus {l:List VerR} {v:VerR} (h:l.Pairwise λa b=>a.stamp<b.stamp) (hm:∀x∈l,x.stamp<=v.stamp):(addV l v).Pairwise λa b=>a.stamp<b.stamp:=by
 unfold addV
 rw[List.pairwise_append]
 refine⟨h.filter _,by simp,λa ha b hb=> ?_⟩
 simp only[List.mem_filter,Bool.not_eq_true',decide_eq_false_iff_not] at ha
 simp only[List.mem_cons,List.not_mem_nil,or_false] at hb
 have:=hm a ha.1
 rw[hb];omega
structure Mid (cs:List ChainR) (S:Int) (B:Nat):Prop where
 rise:cs.Pairwise λa b=>a.ino<b.ino
 some:∀c∈cs,c.l≠[]
 vrise:∀c∈cs,c.l.Pairwise λa b=>a.stamp<b.stamp
 le:∀c∈cs,∀x∈c.l,x.stamp<=S
 len:cs.length<=B
 vlen:∀c∈cs,c.l.length<=B
theorem Mid.more {cs:List ChainR} {S:Int} {B:Nat} (h:Mid cs S B) (ino:Int) {v:VerR} (hv:v.stamp=S):Mid (withS cs ino v) S (B+1):=by
 have key:∀c∈withS cs ino v,c∈cs\/c.l=[v]\/∃c'∈cs,c.l=addV c'.l v:=λc hc=>by
  rcases withS_mem hc with g|⟨_,g|⟨c',hc',_,g⟩⟩
  ·exact .inl g
  ·exact .inr (.inl g)
  ·exact .inr (.inr ⟨c',hc',g⟩)
 refine⟨Zjn h.rise,λc hc=> ?_,λc hc=> ?_,λc hc x hx=> ?_,by have:=ZlY ino v cs;have:=h.len;omega,λc hc=> ?_⟩
 ·rcases key c hc with g|g|⟨c',hc',g⟩
  ·exact h.some c g
  ·rw[g];simp
  ·rw[g];simp[addV]
 ·rcases key c hc with g|g|⟨c',hc',g⟩
  ·exact h.vrise c g
  ·rw[g];simp
  ·rw[g];exact Zus (h.vrise c' hc') λx hx=>by rw[hv];exact h.le c' hc' x hx
 ·rcases key c hc with g|g|⟨c',hc',g⟩
  ·exact h.le c g x hx
  ·rw[g] at hx;simp at hx;rw[hx,hv];exact Int.le_refl _
  ·rw[g] at hx
   rcases addV_mem.1 hx with⟨hx,_⟩|rfl
   ·exact h.le c' hc' x hx
   ·omega
 ·rcases key c hc with g|g|⟨c',hc',g⟩
  ·have:=h.vlen c g;omega
  ·rw[g];simp
  ·rw[g];have:=Zxw c'.l v;have:=h.vlen c' hc';omega
theorem ZnF (S:Int) (c:ChangeR):(Zes S c).stamp=S:=rfl
theorem Mid.fold {S:Int}:∀(l:List ChangeR) {cs:List ChainR} {B:Nat},Mid cs S B->Mid (l.foldl (Zaq S) cs) S (B+l.length)
 |[],_,_,h=>h
 |c::l,cs,B,h=>by
  have:=Mid.fold l (h.more c.ino (v:=Zes S c) rfl)
  simp only[List.foldl_cons,List.length_cons]
  have e:B+1+l.length=B+(l.length+1):=by omega
  rw[e] at this
  exact this
theorem ZD.mid {s:StoreR} (h:ZD s) {B:Nat} (hl:s.l.length<=B) (hv:∀c∈s.l,c.l.length<=B):Mid s.l (s.stamp+1) B:=
 ⟨h.rise,λc hc=>(h.chain c hc).some,λc hc=>(h.chain c hc).rise,λc hc x hx=>by have:=((h.chain c hc).lo x hx).2;omega,hl,hv⟩
theorem ZnG {l:List CountR} (h:l.length -1<l.length):lastNext l=l[l.length -1].next:=by
 unfold lastNext
 rw[List.getLast?_eq_getElem?,List.getElem?_eq_getElem h];rfl
end Go.Cx
namespace Go.Cx
def touchK (c:Zj):Bool:=decide (c.kind=6)||decide (c.kind=7)||decide (c.kind=8)||decide (c.kind=12)||decide (c.kind=15)
def touchS (f:FSR) (c:Zj):List Int:=numsS ((looksS f c).filter (λn=> !decide (n<1))++if touchK c=true then[0] else[])
def stepS (t:TxnR) (c:Zj):TxnR×ReplyR:=(⟨t.stamp,t.was,(doS t.now c).1,numsS (t.looks++touchS t.now c)⟩,(doS t.now c).2)
def beginS (s:StoreR):TxnR:=⟨s.stamp,viewS s s.stamp,viewS s s.stamp,[]⟩
def Zbd (s:StoreR) (t:TxnR):Bool:=(sinceS s t.stamp).any λn=>decide (n∈t.looks)
def commitS (s:StoreR) (t:TxnR):StoreR×Int:=if t.was=t.now then(s,0) else if Zbd s t=true then(s,15) else(installS s (changesS t.was t.now) t.now.next,0)
def stepsS:TxnR->List Zj->TxnR×List ReplyR
 |t,[]=>(t,[])
 |t,c::l=>((stepsS (stepS t c).1 l).1,(stepS t c).2::(stepsS (stepS t c).1 l).2)
structure TxnP (t:TxnR):Prop where
 wrows:Zi t.was
 wtree:ZK t.was
 nrows:Zi t.now
 ntree:ZK t.now
 next:t.was.next<=t.now.next
 stamp:1<=t.stamp
 rise:Zat t.looks=true
 least:∀n∈t.looks,0<=n
def rightTx (t:TxnR):Bool:=decide (Zat t.looks=true/\∀n∈t.looks,0<=n)&&(rightF t.was&&(rightF t.now&&(decide (t.was.next<=t.now.next)&&decide (1<=t.stamp))))
theorem ZeI (t:TxnR):rightTx t=true↔TxnP t:=by
 unfold rightTx
 simp only[Bool.and_eq_true,decide_eq_true_eq,Zfw]
 constructor
 ·rintro⟨⟨h1,h2⟩,⟨h3,h4⟩,⟨h5,h6⟩,h7,h8⟩
  exact⟨h3,ZcM.tree h3 h4,h5,ZcM.tree h5 h6,h7,h8,h1,h2⟩
 ·intro h
  exact⟨⟨h.rise,h.least⟩,⟨h.wrows,ZK.right h.wrows h.wtree⟩,⟨h.nrows,ZK.right h.nrows h.ntree⟩,h.next,h.stamp⟩
theorem touch_spec (f:FSR) (c:Zj):Zat (touchS f c)=true/\∀n,n∈touchS f c↔(n∈looksS f c/\1<=n)\/(touchK c=true/\n=0):=by
 obtain⟨h1,h2⟩:=Zae ((looksS f c).filter (λn=> !decide (n<1))++if touchK c=true then[0] else[])
 refine⟨h1,λn=> ?_⟩
 rw[touchS,h2,List.mem_append,List.mem_filter]
 simp only[Bool.not_eq_true',decide_eq_false_iff_not,Int.not_lt]
 cases touchK c<;>simp
theorem ZnH (f:FSR) (c:Zj):∀n∈touchS f c,0<=n:=λn hn=>by
 rcases((touch_spec f c).2 n).1 hn with⟨_,h⟩|⟨_,h⟩<;>omega
theorem Zga {t:TxnR} (h:TxnP t) (c:Zj):TxnP (stepS t c).1:=by
 have K:=Zcu h.nrows h.ntree c
 obtain⟨h1,h2⟩:=Zae (t.looks++touchS t.now c)
 exact⟨h.wrows,h.wtree,K.rows,K.tree,Int.le_trans h.next K.next.1,h.stamp,h1,λn hn=>by
  rcases List.mem_append.1 ((h2 n).1 hn) with g|g
  ·exact h.least n g
  ·exact ZnH _ _ n g⟩
theorem ZlZ (f:FSR) (c:Zj):(touchS f c).length<=7:=by
 have a1:=Zfu ((looksS f c).filter (λn=> !decide (n<1))++if touchK c=true then[0] else[])
 have a2:=ZlW f c
 have a3:=List.length_filter_le (λn=> !decide (n<1)) (looksS f c)
 rw[List.length_append] at a1
 unfold touchS
 split at a1<;>simp at a1<;>simp_all<;>omega
theorem Zbg:∀(l:List Zj) {t:TxnR},TxnP t->TxnP (stepsS t l).1/\(stepsS t l).1.now.next<=t.now.next+l.length/\(stepsS t l).1.looks.length<=t.looks.length+7*l.length
 |[],t,h=>⟨h,by simp[stepsS],by simp[stepsS]⟩
 |c::l,t,h=>by
  obtain⟨h1,h2,h3⟩:=Zbg l (Zga h c)
  have K:=(Zcu h.nrows h.ntree c).next.2
  have e:(stepS t c).1.now=(doS t.now c).1:=rfl
  have e2:(stepS t c).1.looks=numsS (t.looks++touchS t.now c):=rfl
  have l1:=Zfu (t.looks++touchS t.now c)
  have l2:=ZlZ t.now c
  rw[List.length_append] at l1
  rw[e] at h2
  rw[e2] at h3
  refine⟨h1,?_,?_⟩
  ·simp only[stepsS,List.length_cons];omega
  ·simp only[stepsS,List.length_cons];omega
structure ZaL (B:Nat) (s:StoreR):Prop where
 l:s.l.length<=B
 nexts:s.nexts.length<=B
 vers:∀c∈s.l,c.l.length<=B
 ents:∀c∈s.l,∀v∈c.l,v.node.l.length<=1048576
theorem ZaL.b {B:Nat} {s:StoreR} (h:ZaL B s) (hB:B<=1048576):ZbM s:=⟨Nat.le_trans h.l hB,Nat.le_trans h.nexts hB,λc hc=>Nat.le_trans (h.vers c hc) hB,h.ents⟩
theorem ZaL.mono {B C:Nat} {s:StoreR} (h:ZaL B s) (hB:B<=C):ZaL C s:=⟨Nat.le_trans h.l hB,Nat.le_trans h.nexts hB,λc hc=>Nat.le_trans (h.vers c hc) hB,h.ents⟩
theorem Zut {f g:FSR} {k:Int} {c:ChangeR} (hg:Zi g) (h:c∈changeS f g k):c.ino=k/\(c.gone=true->c.node= .zero)/\(c.gone=false->nodeOk c.node=true/\c.node.ino=c.ino):=by
 unfold changeS at h
 split at h
 ·simp only[List.mem_cons,List.not_mem_nil,or_false] at h
  subst h;simp
 ·rename_i q
  split at h
  ·simp only[List.mem_cons,List.not_mem_nil,or_false] at h
   subst h
   have hf:=Zm (by simpa using q:(findB g.l k).2=true)
   exact⟨rfl,by simp,λ_=>⟨hg.ok _ hf.1,hf.2⟩⟩
  ·simp at h
theorem Zah {f g:FSR} (hf:Zi f) (hg:Zi g):(changesS f g).length<=512/\∀c∈changesS f g,1<=c.ino/\(c.gone=true->c.node= .zero)/\(c.gone=false->nodeOk c.node=true/\c.node.ino=c.ino):=by
 constructor
 ·have h1:∀l:List Int,(l.flatMap (changeS f g)).length<=l.length:=λl=>by
   induction l with
   |nil=>simp
   |cons a l ih=>have:=ZhC f g a;simp only[List.flatMap_cons,List.length_append,List.length_cons];omega
  have h2:=h1 (numsS (f.l.map (·.ino)++g.l.map (·.ino)))
  have h3:=Zfu (f.l.map (·.ino)++g.l.map (·.ino))
  rw[List.length_append,List.length_map,List.length_map] at h3
  have:=hf.len;have:=hg.len
  unfold changesS;omega
 ·intro c hc
  unfold changesS at hc
  obtain⟨k,hk,hc⟩:=List.mem_flatMap.1 hc
  obtain⟨e,h1,h2⟩:=Zut hg hc
  refine⟨?_,h1,h2⟩
  rw[e]
  have hk:=((Zae _).2 k).1 hk
  rcases List.mem_append.1 hk with hk|hk<;>obtain⟨n,hn,rfl⟩:=List.mem_map.1 hk
  ·exact((Zs n).1 (hf.ok n hn)).ino
  ·exact((Zs n).1 (hg.ok n hn)).ino
def Ziv (c:ChangeR):Prop:=1<=c.ino/\(c.gone=true->c.node= .zero)/\(c.gone=false->nodeOk c.node=true/\c.node.ino=c.ino)
theorem Zps {S:Int} {c:ChangeR} (h:Ziv c):Zes S c=⟨S,c.gone,c.node⟩:=by
 unfold Zes
 cases hg:c.gone with
 |true=>rw[if_pos rfl,h.2.1 hg]
 |false=>
  rw[if_neg (by simp)]
  have e:=(h.2.2 hg).2
  congr 1
  cases hn:c.node
  rw[hn] at e
  simp only at e
  rw[e]
theorem ZhQ {S:Int} {c:ChangeR} (h:Ziv c):VerP c.ino (Zes S c):=by
 rw[Zps h]
 exact⟨h.2.1,h.2.2⟩
def Zbv (cs:List ChainR):Prop:=∀c∈cs,1<=c.ino/\∀v∈c.l,1<=v.stamp/\VerP c.ino v
theorem Zbv.more {cs:List ChainR} (h:Zbv cs) {S:Int} (hS:1<=S) {x:ChangeR} (hx:Ziv x):Zbv (Zaq S cs x):=λc hc=>by
 rcases withS_mem hc with g|⟨e,g⟩
 ·exact h c g
 ·refine⟨by rw[e];exact hx.1,λv hv=> ?_⟩
  rw[e]
  rcases g with g|⟨c',hc',e',g⟩
  ·rw[g] at hv
   simp only[List.mem_cons,List.not_mem_nil,or_false] at hv
   rw[hv];exact⟨hS,ZhQ hx⟩
  ·rw[g] at hv
   rcases addV_mem.1 hv with⟨hv,_⟩|rfl
   ·have:=(h c' hc').2 v hv
    rw[e'] at this;exact this
   ·exact⟨hS,ZhQ hx⟩
theorem Zbv.fold {S:Int} (hS:1<=S):∀(l:List ChangeR) {cs:List ChainR},Zbv cs->(∀x∈l,Ziv x)->Zbv (l.foldl (Zaq S) cs)
 |[],_,h,_=>h
 |x::l,cs,h,hx=>Zbv.fold hS l (h.more hS (hx x (by simp))) λy hy=>hx y (by simp[hy])
theorem Zma {l:List CountR} (h:l≠[]):∃c∈l,lastNext l=c.next:=by
 unfold lastNext
 rw[List.getLast?_eq_some_getLast h]
 exact⟨_,List.getLast_mem h,rfl⟩
theorem Zpt:∀{l:List Nat} {n:Nat},n∈l->n<=l.sum
 |a::l,n,h=>by
  rw[List.sum_cons]
  rcases List.mem_cons.1 h with rfl|h
  ·omega
  ·have:=Zpt h;omega
theorem Zde {s:StoreR} (h:ZD s) {l:List ChangeR} {next:Int} (hl:∀x∈l,Ziv x):ZD (installS s l next):=by
 have h1:=h.stamp
 have M:Mid s.l (s.stamp+1) (s.l.length+(s.l.map λc=>c.l.length).sum):=h.mid (Nat.le_add_right _ _) λc hc=>by
  have:c.l.length<=(s.l.map λc=>c.l.length).sum:=Zpt (List.mem_map_of_mem hc)
  omega
 have F:=M.fold l
 have G:=Zbv.fold (S:=s.stamp+1) (by omega) l (cs:=s.l) (λc hc=>⟨(h.chain c hc).ino,λv hv=>⟨((h.chain c hc).lo v hv).1,(h.chain c hc).ver v hv⟩⟩) hl
 obtain⟨cl,hcl,hln⟩:=Zma h.some
 have hc0:=(h.count cl hcl).2.2
 unfold installS
 refine⟨by simp only;omega,λc hc=> ?_,F.rise,?_,?_,λc hc=> ?_⟩
 ·exact⟨(G c hc).1,F.some c hc,F.vrise c hc,λv hv=>⟨((G c hc).2 v hv).1,F.le c hc v hv⟩,λv hv=>((G c hc).2 v hv).2⟩
 ·simp only;split
  ·simp
  ·exact h.some
 ·simp only;split
  ·rw[List.pairwise_append]
   refine⟨h.nrise,by simp,λa ha b hb=> ?_⟩
   simp only[List.mem_cons,List.not_mem_nil,or_false] at hb
   have:=(h.count a ha).2.1
   rw[hb];simp only;omega
  ·exact h.nrise
 ·simp only at hc⊢
  split at hc
  ·rename_i q
   rcases List.mem_append.1 hc with hc|hc
   ·have:=h.count c hc;exact⟨this.1,by omega,this.2.2⟩
   ·simp only[List.mem_cons,List.not_mem_nil,or_false] at hc
    rw[hc];simp only;omega
  ·have:=h.count c hc;exact⟨this.1,by omega,this.2.2⟩
theorem ZgL {ino:Int} {v:VerR}:∀{l:List ChainR},(l.Pairwise λa b=>a.ino<b.ino)->∀c:ChainR,c.ino≠ino->(c∈withS l ino v↔c∈l)
 |[],_,c,hc=>by
  simp only[withS,List.mem_cons,List.not_mem_nil,or_false,iff_false]
  intro e;rw[e] at hc;exact hc rfl
 |a::l,h,c,hc=>by
  obtain⟨h1,h2⟩:=List.pairwise_cons.1 h
  have ih:=ZgL h2 c hc (v:=v)
  rw[withS]
  split
  ·rw[List.mem_cons]
   exact⟨λg=>g.resolve_left λe=>by rw[e] at hc;exact hc rfl,.inr⟩
  ·split
   ·rename_i q
    rw[List.mem_cons,List.mem_cons]
    constructor
    ·exact λg=> .inr (g.resolve_left λe=>by rw[e] at hc;exact hc rfl)
    ·exact λg=> .inr (g.resolve_left λe=>by rw[e] at hc;exact hc q)
   ·rw[List.mem_cons,List.mem_cons,ih]
theorem Zkx {ino:Int} {v:VerR}:∀{l:List ChainR},(l.Pairwise λa b=>a.ino<b.ino)->(∃c∈withS l ino v,c.ino=ino)/\∀c∈withS l ino v,c.ino=ino->∃k,c.l=k++[v]
 |[],_=>by
  refine⟨⟨_,List.mem_cons_self,rfl⟩,λc hc _=> ?_⟩
  simp only[withS,List.mem_cons,List.not_mem_nil,or_false] at hc
  exact⟨[],by rw[hc];rfl⟩
 |a::l,h=>by
  obtain⟨h1,h2⟩:=List.pairwise_cons.1 h
  obtain⟨i1,i2⟩:=Zkx h2 (v:=v) (ino:=ino)
  rw[withS]
  split
  ·rename_i q
   refine⟨⟨_,List.mem_cons_self,rfl⟩,λc hc e=> ?_⟩
   rcases List.mem_cons.1 hc with rfl|hc
   ·exact⟨[],rfl⟩
   ·rcases List.mem_cons.1 hc with rfl|hc
    ·omega
    ·have:=h1 c hc;omega
  ·split
   ·rename_i q
    refine⟨⟨_,List.mem_cons_self,rfl⟩,λc hc e=> ?_⟩
    rcases List.mem_cons.1 hc with rfl|hc
    ·exact⟨_,rfl⟩
    ·have:=h1 c hc;omega
   ·rename_i q
    obtain⟨c,hc,e⟩:=i1
    refine⟨⟨c,List.mem_cons_of_mem _ hc,e⟩,λc hc e=> ?_⟩
    rcases List.mem_cons.1 hc with rfl|hc
    ·exact absurd e q
    ·exact i2 c hc e
theorem ZhR {ino:Int} {k:List VerR} {v:VerR} {S:Int} {c:ChainR} (hc:c.l=k++[v]) (hv:v.stamp<=S):Zag c S=if v.gone=true then[] else[v.node]:=by
 unfold Zag
 rw[hc,ZcO,if_pos hv]
theorem ZrA {c:ChainR} {S:Int} {n:NodeR} (h:n∈Zag c S):∃v∈c.l,v.gone=false/\v.node=n/\v.stamp<=S:=by
 unfold Zag at h
 split at h
 ·rename_i v hv
  unfold Zbc at hv
  have h1:=List.mem_of_find?_eq_some hv
  have h2:=List.find?_some hv
  split at h
  ·simp at h
  ·rename_i q
   simp only[List.mem_cons,List.not_mem_nil,or_false] at h
   exact⟨v,by simpa using h1,by simpa using q,h.symm,by simpa using h2⟩
 ·simp at h
theorem nodeAt_one (c:ChainR) (S:Int):Zag c S=[]\/∃n,Zag c S=[n]:=by
 unfold Zag
 split
 ·split
  ·exact .inl rfl
  ·exact .inr ⟨_,rfl⟩
 ·exact .inl rfl
theorem ZbY {cs:List ChainR} (G:Zbv cs) {c:ChainR} (hc:c∈cs) {S:Int} {n:NodeR} (h:n∈Zag c S):n.ino=c.ino/\nodeOk n=true:=by
 obtain⟨v,hv,h1,h2,_⟩:=ZrA h
 have:=((G c hc).2 v hv).2.node h1
 rw[h2] at this
 exact⟨this.2,this.1⟩
abbrev ZcP (cs:List ChainR) (S:Int):List NodeR:=cs.flatMap λc=>Zag c S
theorem Zgb {cs:List ChainR} (hr:cs.Pairwise λa b=>a.ino<b.ino) (G:Zbv cs) (S:Int):Zo NodeR.ino (ZcP cs S)=true:=by
 rw[Zu,List.pairwise_flatMap]
 constructor
 ·intro c hc
  rcases nodeAt_one c S with e|⟨n,e⟩<;>rw[e]<;>simp
 ·refine List.Pairwise.imp_of_mem ?_ hr
  intro a b ha hb hab x hx y hy
  rw[(ZbY G ha hx).1,(ZbY G hb hy).1];exact hab
theorem ZrB {cs:List ChainR} {S:Int} {B:Nat} (M:Mid cs S B) (G:Zbv cs) (hS:1<=S) {x:ChangeR} (hx:Ziv x) (n:NodeR):n∈ZcP (Zaq S cs x) S↔(n∈ZcP cs S/\n.ino≠x.ino)\/(x.gone=false/\n=x.node):=by
 have G':=G.more hS hx
 obtain⟨⟨c0,hc0,e0⟩,hat⟩:=Zkx M.rise (ino:=x.ino) (v:=Zes S x)
 have hv:(Zes S x).stamp<=S:=Int.le_refl _
 have hve:=Zps (S:=S) hx
 constructor
 ·intro h
  obtain⟨c,hc,hn⟩:=List.mem_flatMap.1 h
  have hi:=(ZbY G' hc hn).1
  by_cases q:c.ino=x.ino
  ·obtain⟨k,hk⟩:=hat c hc q
   rw[ZhR (ino:=x.ino) hk hv,hve] at hn
   simp only at hn
   split at hn
   ·simp at hn
   ·rename_i g
    exact .inr ⟨by simpa using g,by simpa using hn⟩
  ·exact .inl ⟨List.mem_flatMap.2 ⟨c,(ZgL M.rise c q).1 hc,hn⟩,by rw[hi];exact q⟩
 ·rintro(⟨h,hne⟩|⟨g,rfl⟩)
  ·obtain⟨c,hc,hn⟩:=List.mem_flatMap.1 h
   have hi:=(ZbY G hc hn).1
   exact List.mem_flatMap.2 ⟨c,(ZgL M.rise c (by rw[<-hi];exact hne)).2 hc,hn⟩
  ·obtain⟨k,hk⟩:=hat c0 hc0 e0
   refine List.mem_flatMap.2 ⟨c0,hc0,?_⟩
   rw[ZhR (ino:=x.ino) hk hv,hve]
   simp[g]
theorem Zuu {f:FSR} (hr:Zo NodeR.ino f.l=true) {x:ChangeR} (hx:Ziv x):Zo NodeR.ino (applyOne f x).l=true/\∀n,n∈(applyOne f x).l↔(n∈f.l/\n.ino≠x.ino)\/(x.gone=false/\n=x.node):=by
 unfold applyOne
 cases hg:x.gone with
 |true=>
  rw[if_pos rfl]
  exact⟨Zar NodeR.ino hr _,λn=>by rw[Zhx];simp⟩
 |false=>
  rw[if_neg (by simp)]
  obtain⟨h1,h2,_⟩:=ZcZ hr x.node
  refine⟨h1,λn=> ?_⟩
  rw[h2,(hx.2.2 hg).2]
  simp[or_comm]
theorem Zjo {S:Int} (hS:1<=S):∀(l:List ChangeR) {cs:List ChainR} {B:Nat} (f:FSR),Mid cs S B->Zbv cs->(∀x∈l,Ziv x)->f.l=ZcP cs S->(l.foldl applyOne f).l=ZcP (l.foldl (Zaq S) cs) S
 |[],cs,B,f,M,G,_,h=>h
 |x::l,cs,B,f,M,G,hx,h=>by
  have hx0:=hx x (by simp)
  have M':Mid (Zaq S cs x) S (B+1):=M.more x.ino rfl
  have G':=G.more hS hx0
  have hr:Zo NodeR.ino f.l=true:=by rw[h];exact Zgb M.rise G S
  obtain⟨a1,a2⟩:=Zuu hr hx0
  refine Zjo hS l (applyOne f x) M' G' (λy hy=>hx y (by simp[hy])) ?_
  refine ZaE NodeR.ino a1 (Zgb M'.rise G' S) λn=> ?_
  rw[a2,ZrB M G hS hx0,h]
theorem Zuv {α:Type} {f:α->Int} {l:List α} {st:Int} (h:∀x∈l,f x<=st):Zbc f l (st+1)=Zbc f l st:=by
 unfold Zbc
 have:∀k:List α,(∀x∈k,f x<=st)->(k.find? λx=>decide (f x<=st+1))=k.find? λx=>decide (f x<=st):=λk=>by
  induction k with
  |nil=>intro _;rfl
  |cons a k ih=>
   intro hk
   have:=hk a (by simp)
   rw[List.find?_cons_of_pos (by simp;omega),List.find?_cons_of_pos (by simp;omega)]
 exact this _ λx hx=>h x (by simpa using hx)
theorem ZdD {α β:Type} {f g:α->List β}:∀{l:List α},(∀a∈l,f a=g a)->l.flatMap f=l.flatMap g
 |[],_=>rfl
 |a::l,h=>by rw[List.flatMap_cons,List.flatMap_cons,h a (by simp),ZdD λb hb=>h b (by simp[hb])]
theorem ZrC {s:StoreR} (h:ZD s):ZcP s.l (s.stamp+1)=ZcP s.l s.stamp:=
 ZdD λc hc=>by
  unfold Zag
  rw[Zuv λv hv=>((h.chain c hc).lo v hv).2]
theorem ZeJ {l:List CountR} {st:Int} (hne:l≠[]) (h:∀c∈l,c.stamp<=st):nextAt l st=lastNext l:=by
 obtain⟨k,x,rfl⟩:∃k x,l=k++[x]:=⟨l.dropLast,l.getLast hne,(List.dropLast_concat_getLast hne).symm⟩
 unfold nextAt
 rw[ZcO,if_pos (h x (by simp))]
 simp[lastNext]
theorem Zgc:∀(l:List ChangeR) (f:FSR) (m:Int),(∀x∈l,x.gone=false->x.node.ino+1<=m)->max (l.foldl applyOne f).next m=max f.next m
 |[],f,m,_=>rfl
 |x::l,f,m,h=>by
  rw[List.foldl_cons,Zgc l _ m λy hy=>h y (by simp[hy])]
  unfold applyOne
  cases hg:x.gone with
  |true=>rw[if_pos rfl];rfl
  |false=>
   rw[if_neg (by simp)]
   have:=h x (by simp) hg
   show max (max f.next (x.node.ino+1)) m=max f.next m
   omega
theorem Zbl {s:StoreR} (h:ZD s) {l:List ChangeR} {next:Int} (hl:∀x∈l,Ziv x) (hn:∀x∈l,x.gone=false->x.node.ino+1<=next):viewS (installS s l next) (s.stamp+1)=applyS (viewS s s.stamp) l next:=by
 have h1:=h.stamp
 have M:Mid s.l (s.stamp+1) (s.l.length+(s.l.map λc=>c.l.length).sum):=h.mid (Nat.le_add_right _ _) λc hc=>by
  have:c.l.length<=(s.l.map λc=>c.l.length).sum:=Zpt (List.mem_map_of_mem hc)
  omega
 have G:Zbv s.l:=λc hc=>⟨(h.chain c hc).ino,λv hv=>⟨((h.chain c hc).lo v hv).1,(h.chain c hc).ver v hv⟩⟩
 have V:=Zjo (S:=s.stamp+1) (by omega) l (viewS s s.stamp) M G hl (by rw[ZrC h];rfl)
 have e1:nextAt s.nexts s.stamp=lastNext s.nexts:=ZeJ h.some λc hc=>(h.count c hc).2.1
 have e2:nextAt (if lastNext s.nexts<next then s.nexts++[⟨s.stamp+1,next⟩] else s.nexts) (s.stamp+1)=max (lastNext s.nexts) next:=by
  split
  ·rw[ZeJ (by simp) λc hc=>by
    rcases List.mem_append.1 hc with hc|hc
    ·have:=(h.count c hc).2.1;omega
    ·simp only[List.mem_cons,List.not_mem_nil,or_false] at hc
     rw[hc];exact Int.le_refl _]
   simp only[lastNext,List.getLast?_append,List.getLast?_singleton,Option.some_or,Option.map_some,Option.getD_some]
   rename_i q
   simp only[lastNext] at q
   omega
  ·rw[ZeJ h.some λc hc=>by have:=(h.count c hc).2.1;omega]
   omega
 have e3:=Zgc l (viewS s s.stamp) next hn
 have e4:(viewS s s.stamp).next=lastNext s.nexts:=e1
 rw[e4] at e3
 show FSR.mk (ZcP (installS s l next).l (s.stamp+1)) (nextAt (installS s l next).nexts (s.stamp+1))=FSR.mk (l.foldl applyOne (viewS s s.stamp)).l (max (l.foldl applyOne (viewS s s.stamp)).next next)
 rw[e3,V]
 rw[show nextAt (installS s l next).nexts (s.stamp+1)=_ from e2]
 rfl
theorem Zuw {k:List VerR} {v:VerR} {st:Int} (hv:st<v.stamp):Zbc VerR.stamp (addV k v) st=Zbc VerR.stamp k st:=by
 unfold addV
 rw[ZcO,if_neg (by omega)]
 unfold Zbc
 rw[<-List.filter_reverse]
 generalize k.reverse=r
 induction r with
 |nil=>rfl
 |cons a r ih=>
  by_cases q:a.stamp=v.stamp
  ·rw[List.filter_cons_of_neg (by simpa using q),ih,List.find?_cons_of_neg (by simp;omega)]
  ·rw[List.filter_cons_of_pos (by simpa using q)]
   by_cases q2:a.stamp<=st
   ·rw[List.find?_cons_of_pos (by simpa using q2),List.find?_cons_of_pos (by simpa using q2)]
   ·rw[List.find?_cons_of_neg (by simpa using q2),List.find?_cons_of_neg (by simpa using q2),ih]
theorem Zmb {ino:Int} {v:VerR} {st:Int} (hv:st<v.stamp):∀cs:List ChainR,ZcP (withS cs ino v) st=ZcP cs st
 |[]=>by
  have:Zag ⟨ino,[v]⟩ st=[]:=by
   unfold Zag Zbc
   rw[List.reverse_singleton,List.find?_cons_of_neg (by simp;omega)];rfl
  simp[ZcP,withS,this]
 |c::cs=>by
  have h0:Zag ⟨ino,[v]⟩ st=[]:=by
   unfold Zag Zbc
   rw[List.reverse_singleton,List.find?_cons_of_neg (by simp;omega)];rfl
  rw[withS]
  split
  ·simp only[ZcP,List.flatMap_cons,h0,List.nil_append]
  ·split
   ·have:Zag ⟨ino,addV c.l v⟩ st=Zag c st:=by
     unfold Zag;simp only;rw[Zuw hv]
    simp only[ZcP,List.flatMap_cons,this]
   ·have ih:=Zmb hv cs (ino:=ino)
    simp only[ZcP,List.flatMap_cons] at ih⊢
    rw[ih]
theorem Zjp {S st:Int} (hS:st<S):∀(l:List ChangeR) (cs:List ChainR),ZcP (l.foldl (Zaq S) cs) st=ZcP cs st
 |[],cs=>rfl
 |x::l,cs=>by
  rw[List.foldl_cons,Zjp hS l]
  exact Zmb (v:=Zes S x) hS cs
theorem Zpu {s:StoreR} {l:List ChangeR} {next st:Int} (h:st<=s.stamp):viewS (installS s l next) st=viewS s st:=by
 show FSR.mk (ZcP (installS s l next).l st) (nextAt (installS s l next).nexts st)=FSR.mk (ZcP s.l st) (nextAt s.nexts st)
 have e:nextAt (installS s l next).nexts st=nextAt s.nexts st:=by
  show nextAt (if lastNext s.nexts<next then s.nexts++[⟨s.stamp+1,next⟩] else s.nexts) st=_
  split
  ·unfold nextAt
   rw[ZcO,if_neg (by show¬s.stamp+1<=st;omega)]
  ·rfl
 rw[e]
 congr 1
 exact Zjp (S:=s.stamp+1) (by omega) l s.l
theorem ver_few {ino:Int} {v:VerR} (h:VerP ino v):v.node.l.length<=1048576:=by
 cases hg:v.gone with
 |true=>rw[h.gone hg];exact Nat.zero_le _
 |false=>
  have:=((Zs _).1 (h.node hg).1).row
  simp only[Ziu,Bool.and_eq_true,decide_eq_true_eq] at this
  omega
theorem ZnI {s:StoreR} (h:ZD s) {B:Nat} (hb:ZaL B s) {l:List ChangeR} {next:Int} (hl:∀x∈l,Ziv x):ZaL (B+l.length+1) (installS s l next):=by
 have P:=Zde h hl (next:=next)
 have F:=(h.mid hb.l hb.vers).fold l
 refine⟨by have:=F.len;show(l.foldl _ s.l).length<=_;omega,?_,λc hc=>by have:=F.vlen c hc;omega,λc hc v hv=>ver_few ((P.chain c hc).ver v hv)⟩
 show(if lastNext s.nexts<next then s.nexts++[⟨s.stamp+1,next⟩] else s.nexts).length<=_
 have:=hb.nexts
 split
 ·simp;omega
 ·omega
theorem ZdE {s:StoreR} (h:ZD s) {B:Nat} (hb:ZaL B s) {t:TxnR} (T:TxnP t):ZD (commitS s t).1/\ZaL (B+513) (commitS s t).1/\((commitS s t).1=s\/(t.was≠t.now/\Zbd s t=false/\(commitS s t).1=installS s (changesS t.was t.now) t.now.next)):=by
 unfold commitS
 by_cases q:t.was=t.now
 ·rw[if_pos q]
  exact⟨h,hb.mono (by omega),.inl rfl⟩
 ·rw[if_neg q]
  by_cases c:Zbd s t=true
  ·rw[if_pos c]
   exact⟨h,hb.mono (by omega),.inl rfl⟩
  ·rw[if_neg c]
   obtain⟨h1,h2⟩:=Zah T.wrows T.nrows
   exact⟨Zde h h2,(ZnI h hb h2).mono (by omega),.inr ⟨q,by simpa using c,rfl⟩⟩
end Go.Cx
namespace Go.Cx
structure Two (L:List Int) (f g f' g':FSR):Prop where
 fout:∀q,q∉L->findB f'.l q=findB f.l q
 gout:∀q,q∉L->findB g'.l q=findB g.l q
 same:∀q∈L,findB g'.l q=findB f'.l q
 fnext:f'.next=f.next
 gnext:g'.next=g.next
section
variable {f g:FSR} {c:Zj} (R:Zi f) (T:ZK f) (G:Zi g) (U:ZK g) (hk:c.kind≠15) (ha:∀y∈looksS f c,findB g.l y=findB f.l y)
include ha
theorem Two.still:Two (looksS f c) f g f g:=⟨λ_ _=>rfl,λ_ _=>rfl,ha,rfl,rfl⟩
include R G hk
theorem Zpv {turn:List UInt8->List UInt8×Int} (ht:∀s,s.length<=4096->(turn s).2=0->(turn s).1.length<=4096):Two (looksS f c) f g (textD f c.ino turn).1 (textD g c.ino turn).1:=by
 have hi:=ha _ (ZS hk)
 have h2:=ZhO hi turn
 by_cases h:(textD f c.ino turn).2=0
 ·obtain⟨m,hm,_,_,_,hs,hb⟩:=ZhL R h ht
  obtain⟨m',hm',_,_,_,hs',hb'⟩:=ZhL G (by rw[h2];exact h) ht
  rw[hi,hm] at hm'
  injection hm' with hm' _
  subst hm'
  refine⟨λq hq=> ?_,λq hq=> ?_,λq hq=> ?_,hs.next,hs'.next⟩
  ·rw[hb,if_neg (λe:q=c.ino=>hq (e▸ZS hk))]
  ·rw[hb',if_neg (λe:q=c.ino=>hq (e▸ZS hk))]
  ·rw[hb,hb',ha q hq]
 ·rw[Zku h,Zku (by rw[h2];exact h)]
  exact .still ha
include T U
theorem Zxx:Two (looksS f c) f g (giveD f c.ino c.name c.to_).1 (giveD g c.ino c.name c.to_).1/\(giveD g c.ino c.name c.to_).2=(giveD f c.ino c.name c.to_).2:=by
 have hi:=ha _ (ZS hk)
 have ht:=ha _ (Zee hk)
 have h2:=Zry (s:=c.name) hi ht
 by_cases h:giveE f c.ino c.name c.to_=0
 ·have h':giveE g c.ino c.name c.to_=0:=by rw[h2];exact h
  have e1:=ZhM R h
  have e2:=ZhM G h'
  rw[hi,ht] at e2
  refine⟨⟨λq hq=> ?_,λq hq=> ?_,λq hq=> ?_,(ZhI R T h).2.1,(ZhI G U h').2.1⟩,?_⟩
  ·rw[e1,if_neg (λe:q=c.to_=>hq (e▸Zee hk)),if_neg (λe:q=c.ino=>hq (e▸ZS hk))]
  ·rw[e2,if_neg (λe:q=c.to_=>hq (e▸Zee hk)),if_neg (λe:q=c.ino=>hq (e▸ZS hk))]
  ·rw[e1,e2,ha q hq]
  ·rw[ZbT,ZbT,if_pos h,if_pos h']
 ·rw[ZbT,ZbT,h2,if_neg h,if_neg h];exact⟨.still ha,rfl⟩
theorem Zxy:Two (looksS f c) f g (takeD f c.ino c.name).1 (takeD g c.ino c.name).1/\(takeD g c.ino c.name).2=(takeD f c.ino c.name).2:=by
 have hi:=ha _ (ZS hk)
 have hlk:lookD g c.ino c.name=lookD f c.ino c.name:=ZfZ hi λy hy=>ha y (((Zbk f c).2 hk _).2 (.inl (.inl (.inl (.inr hy)))))
 unfold takeD
 rw[hlk]
 by_cases q1:(lookD f c.ino c.name).2=0
 case neg=>rw[if_pos q1,if_pos q1];exact⟨.still ha,rfl⟩
 have q1':¬(lookD f c.ino c.name).2≠0:=by simpa using q1
 rw[if_neg q1',if_neg q1']
 by_cases q2:0<(lookD f c.ino c.name).1.l.length
 ·rw[if_pos q2,if_pos q2];exact⟨.still ha,rfl⟩
 rw[if_neg q2,if_neg q2]
 refine⟨?_,rfl⟩
 have h0:(lookD f c.ino c.name).1.l=[]:=List.eq_nil_of_length_eq_zero (by omega)
 have A1:=ZdC R T q1 h0
 have A2:=ZdC G U (by rw[hlk];exact q1) (by rw[hlk];exact h0)
 rw[hlk] at A2
 have e1:=A1.find
 have e2:=A2.find
 rw[hi] at e2
 have hn:=Zjl R hk q1
 refine⟨λq hq=> ?_,λq hq=> ?_,λq hq=> ?_,A1.next,A2.next⟩
 ·simp only
  rw[e1,if_neg (λe:q=(lookD f c.ino c.name).1.ino=>hq (e▸hn)),if_neg (λe:q=c.ino=>hq (e▸ZS hk))]
 ·simp only
  rw[e2,if_neg (λe:q=(lookD f c.ino c.name).1.ino=>hq (e▸hn)),if_neg (λe:q=c.ino=>hq (e▸ZS hk))]
 ·simp only
  rw[e1,e2,ha q hq]
theorem Zjq (b:Bool):Two (looksS f c) f g (removeO f c b).1 (removeO g c b).1/\(removeO g c b).2=(removeO f c b).2:=by
 have hi:=ha _ (ZS hk)
 have hlk:lookD g c.ino c.name=lookD f c.ino c.name:=ZfZ hi λy hy=>ha y (((Zbk f c).2 hk _).2 (.inl (.inl (.inl (.inr hy)))))
 obtain⟨t1,t2⟩:=Zxy R T G U hk ha
 unfold removeO
 rw[hlk]
 split
 ·exact⟨.still ha,rfl⟩
 split
 ·exact⟨.still ha,rfl⟩
 split
 ·exact⟨.still ha,rfl⟩
 ·exact⟨t1,by simp only[t2]⟩
omit hk in
theorem do_two (ht:touchK c=false):Two (looksS f c) f g (doS f c).1 (doS g c).1/\(doS g c).2=(doS f c).2:=by
 have hkk:c.kind≠6/\c.kind≠7/\c.kind≠8/\c.kind≠12/\c.kind≠15:=by
  simp only[touchK,Bool.or_eq_false_iff,decide_eq_false_iff_not] at ht
  exact⟨ht.1.1.1.1,ht.1.1.1.2,ht.1.1.2,ht.1.2,ht.2⟩
 obtain⟨k6,k7,k8,k12,hk⟩:=hkk
 have hi:=ha _ (ZS hk)
 have hlk:lookD g c.ino c.name=lookD f c.ino c.name:=ZfZ hi λy hy=>ha y (((Zbk f c).2 hk _).2 (.inl (.inl (.inl (.inr hy)))))
 have S:=Two.still ha
 rcases kind_cases c.kind with h|h|h|h|h|h|h|h|h|h|h|h|h|h|h|h
 ·rw[Zfx h,Zfx h];exact⟨S,rfl⟩
 ·rw[Zui h,Zui h];rw[hlk];exact⟨S,rfl⟩
 ·rw[Zuj h,Zuj h];rw[ZgK hi];exact⟨S,rfl⟩
 ·rw[Zuk h,Zuk h];rw[ZgK hi];exact⟨S,rfl⟩
 ·rw[Zxs h,Zxs h];exact⟨Zpv R G hk ha λs hs h=>ZhF h hs,by simp only[ZhO hi]⟩
 ·rw[Zxt h,Zxt h];exact⟨Zpv R G hk ha λs hs h=>ZnD h,by simp only[ZhO hi]⟩
 ·exact absurd h k6
 ·exact absurd h k7
 ·exact absurd h k8
 ·rw[Zxu h,Zxu h];exact Zjq R T G U hk ha _
 ·rw[Zpp h,Zpp h];exact Zjq R T G U hk ha _
 ·rw[Zpq h,Zpq h];obtain⟨g1,g2⟩:=Zxx R T G U hk ha;exact⟨g1,by simp only[g2]⟩
 ·exact absurd h k12
 ·rw[ZlU h,ZlU h];rw[ZgK hi];exact⟨S,rfl⟩
 ·rw[ZlV h,ZlV h];rw[ZhN hi];exact⟨S,rfl⟩
 ·exact absurd h hk
end
theorem ZrD {f g h:FSR} {k:Int} (hg:Zi g) (hk:(findB f.l k).2=true\/(findB g.l k).2=true) (hh:Zo NodeR.ino h.l=true):
  Zo NodeR.ino ((changeS f g k).foldl applyOne h).l=true/\∀q,findB ((changeS f g k).foldl applyOne h).l q=if q=k/\findB f.l q≠findB g.l q then findB g.l q else findB h.l q:=by
 unfold changeS
 by_cases h1:(findB g.l k).2=false
 ·rw[if_pos h1]
  simp only[List.foldl_cons,List.foldl_nil,applyOne,if_true]
  have hz:findB g.l k=(.zero,false):=Prod.ext (ZaB h1) h1
  refine⟨Zar _ hh _,λq=> ?_⟩
  rw[ZgG hh]
  by_cases e:q=k
  ·subst e
   have hne:findB f.l q≠findB g.l q:=λe=>by
    rcases hk with hk|hk
    ·rw[e,h1] at hk;cases hk
    ·rw[h1] at hk;cases hk
   rw[if_pos rfl,if_pos ⟨rfl,hne⟩,hz]
  ·rw[if_neg e,if_neg λg=>e g.1]
 rw[if_neg h1]
 have h1':(findB g.l k).2=true:=by simpa using h1
 obtain⟨m1,m2⟩:=Zm h1'
 by_cases h2:(findB f.l k).2=false\/(findB f.l k).1≠(findB g.l k).1
 ·rw[if_pos h2]
  simp only[List.foldl_cons,List.foldl_nil,applyOne,Bool.false_eq_true,if_false]
  refine⟨(ZcZ hh _).1,λq=> ?_⟩
  rw[Zbe hh]
  by_cases e:q=k
  ·subst e
   have hne:findB f.l q≠findB g.l q:=λe=>by
    rcases h2 with h2|h2
    ·rw[e,h1'] at h2;cases h2
    ·exact h2 (congrArg Prod.fst e)
   rw[if_pos m2.symm,if_pos ⟨rfl,hne⟩]
   exact Prod.ext rfl h1'.symm
  ·rw[if_neg (λe2=>e (e2.trans m2)),if_neg λg=>e g.1]
 ·rw[if_neg h2]
  simp only[not_or,ne_eq,Decidable.not_not,Bool.not_eq_false] at h2
  refine⟨hh,λq=> ?_⟩
  rw[if_neg]
  ·rfl
  ·rintro⟨rfl,hne⟩
   exact hne (Prod.ext h2.2 (h2.1.trans h1'.symm))
theorem Zjr {f g:FSR} (hg:Zi g):∀(ks:List Int) (h:FSR),(∀k∈ks,(findB f.l k).2=true\/(findB g.l k).2=true)->Zo NodeR.ino h.l=true->
  Zo NodeR.ino ((ks.flatMap (changeS f g)).foldl applyOne h).l=true/\∀q,findB ((ks.flatMap (changeS f g)).foldl applyOne h).l q=if q∈ks/\findB f.l q≠findB g.l q then findB g.l q else findB h.l q
 |[],h,_,hh=>⟨hh,λq=>by simp⟩
 |k::ks,h,hk,hh=>by
  obtain⟨a1,a2⟩:=ZrD (h:=h) hg (hk k (by simp)) hh
  obtain⟨b1,b2⟩:=Zjr hg ks _ (λk hk'=>hk k (by simp[hk'])) a1
  rw[List.flatMap_cons,List.foldl_append]
  refine⟨b1,λq=> ?_⟩
  rw[b2,a2]
  by_cases n:findB f.l q≠findB g.l q
  ·by_cases e:q∈ks
   ·rw[if_pos ⟨e,n⟩,if_pos ⟨by simp[e],n⟩]
   ·rw[if_neg λg=>e g.1]
    by_cases e2:q=k
    ·rw[if_pos ⟨e2,n⟩,if_pos ⟨by simp[e2],n⟩]
    ·rw[if_neg λg=>e2 g.1,if_neg λg=>by simp[e,e2] at g]
  ·rw[if_neg λg=>n g.2,if_neg λg=>n g.2,if_neg λg=>n g.2]
theorem Zbh {f g:FSR} (hg:Zi g):∀c∈changesS f g,c.gone=false->c.node.ino+1<=g.next:=λc hc h0=>by
 unfold changesS at hc
 obtain⟨k,hk,hc⟩:=List.mem_flatMap.1 hc
 have:=(hg.num k).2
 unfold changeS at hc
 split at hc
 ·simp only[List.mem_cons,List.not_mem_nil,or_false] at hc
  rw[hc] at h0;cases h0
 ·split at hc
  ·simp only[List.mem_cons,List.not_mem_nil,or_false] at hc
   rw[hc];simp only;omega
  ·cases hc
theorem ZcQ {f g h:FSR} (hf:Zi f) (hg:Zi g) (hh:Zo NodeR.ino h.l=true):
  Zo NodeR.ino (applyS h (changesS f g) g.next).l=true/\(∀q,findB (applyS h (changesS f g) g.next).l q=if findB f.l q=findB g.l q then findB h.l q else findB g.l q)/\(applyS h (changesS f g) g.next).next=max h.next g.next:=by
 obtain⟨r1,r2⟩:=Zae (f.l.map (·.ino)++g.l.map (·.ino))
 have hm:∀q,q∈numsS (f.l.map (·.ino)++g.l.map (·.ino))↔(∃n∈f.l,n.ino=q)\/∃n∈g.l,n.ino=q:=λq=>by rw[r2];simp
 obtain⟨a1,a2⟩:=Zjr (f:=f) hg (numsS (f.l.map (·.ino)++g.l.map (·.ino))) h (λk hk=>by
  rcases(hm k).1 hk with⟨n,hn,rfl⟩|⟨n,hn,rfl⟩
  ·left;rw[findB_of hf.rise hn]
  ·right;rw[findB_of hg.rise hn]) hh
 refine⟨a1,λq=> ?_,Zgc _ h g.next (Zbh hg)⟩
 show findB ((changesS f g).foldl applyOne h).l q=_
 unfold changesS
 rw[a2]
 by_cases n:findB f.l q=findB g.l q
 ·rw[if_pos n,if_neg λg=>g.2 n]
 ·rw[if_neg n]
  by_cases e:q∈numsS (f.l.map (·.ino)++g.l.map (·.ino))
  ·rw[if_pos ⟨e,n⟩]
  ·exfalso
   refine n ?_
   have h1:∀x∈f.l,x.ino≠q:=λx hx e2=>e ((hm q).2 (.inl ⟨x,hx,e2⟩))
   have h2:∀x∈g.l,x.ino≠q:=λx hx e2=>e ((hm q).2 (.inr ⟨x,hx,e2⟩))
   rw[ZbW h1,ZbW h2]
theorem Zmc {f g:FSR} (hf:Zi f) (hg:Zi g) {q:Int} (h:findB f.l q≠findB g.l q):∃c∈changesS f g,c.ino=q:=by
 have hq:(findB f.l q).2=true\/(findB g.l q).2=true:=by
  cases h1:(findB f.l q).2 with
  |true=>exact .inl rfl
  |false=>
   cases h2:(findB g.l q).2 with
   |true=>exact .inr rfl
   |false=>exact absurd ((Prod.ext (ZaB h1) h1:findB f.l q=(.zero,false)).trans (Prod.ext (ZaB h2) h2:findB g.l q=(.zero,false)).symm) h
 have hm:q∈numsS (f.l.map (·.ino)++g.l.map (·.ino)):=by
  rw[(Zae _).2,List.mem_append,List.mem_map,List.mem_map]
  rcases hq with hq|hq
  ·exact .inl ⟨_,(Zm hq).1,(Zm hq).2⟩
  ·exact .inr ⟨_,(Zm hq).1,(Zm hq).2⟩
 have:∃c∈changeS f g q,c.ino=q:=by
  unfold changeS
  split
  ·exact⟨_,List.mem_cons_self,rfl⟩
  ·rename_i h1
   have h1':(findB g.l q).2=true:=by simpa using h1
   split
   ·exact⟨_,List.mem_cons_self,rfl⟩
   ·rename_i h2
    simp only[not_or,ne_eq,Decidable.not_not,Bool.not_eq_false] at h2
    exact absurd (Prod.ext h2.2 (h2.1.trans h1'.symm)) h
 obtain⟨c,hc,e⟩:=this
 exact⟨c,List.mem_flatMap.2 ⟨q,hm,hc⟩,e⟩
theorem ZD.cs {s:StoreR} (h:ZD s):Zbv s.l:=λc hc=>⟨(h.chain c hc).ino,λv hv=>⟨((h.chain c hc).lo v hv).1,(h.chain c hc).ver v hv⟩⟩
theorem Zmd {α:Type} {f:α->Int} {l:List α} {st S:Int} (hS:st<=S) (h:∀x∈l,f x<=st):Zbc f l S=Zbc f l st:=by
 unfold Zbc
 have:∀k:List α,(∀x∈k,f x<=st)->(k.find? λx=>decide (f x<=S))=k.find? λx=>decide (f x<=st):=λk=>by
  induction k with
  |nil=>intro _;rfl
  |cons a k ih=>
   intro hk
   have:=hk a (by simp)
   rw[List.find?_cons_of_pos (by simp;omega),List.find?_cons_of_pos (by simp;omega)]
 exact this _ λx hx=>h x (by simpa using hx)
theorem Zux {c:ChainR} {st:Int} (h:Zcw st c=false):∀v∈c.l,v.stamp<=st:=λv hv=>by
 unfold Zcw at h
 rw[List.any_eq_false] at h
 have:=h v hv
 simp only[decide_eq_true_eq] at this;omega
theorem ZhS {c:ChainR} {st S:Int} (hS:st<=S) (h:Zcw st c=false):Zag c S=Zag c st:=by
 unfold Zag
 rw[Zmd hS (Zux h)]
theorem ZhT {s:StoreR} {st n:Int} (hn:1<=n):n∈sinceS s st↔n∈Zbu s st:=by
 unfold sinceS
 split
 ·rw[List.mem_cons]
  exact⟨λh=>h.resolve_left (by omega),.inr⟩
 ·rename_i h
  simp only[not_or,ne_eq,Decidable.not_not] at h
  rw[h.1]
theorem Zjs {s:StoreR} (h:ZD s) {st n:Int} (hn:n∈Zbu s st):1<=n:=by
 unfold Zbu at hn
 obtain⟨c,hc,rfl⟩:=List.mem_map.1 hn
 exact(h.chain c (List.mem_filter.1 hc).1).ino
theorem Zjt {s:StoreR} {st:Int} (h:sinceS s st≠[]):0∈sinceS s st:=by
 unfold sinceS at h⊢
 split
 ·simp
 ·rename_i q;rw[if_neg q] at h;exact absurd rfl h
theorem ZdF {s:StoreR} (h:ZD s) (st:Int):Zo NodeR.ino (viewS s st).l=true:=Zgb h.rise h.cs st
theorem Zuy {s:StoreR} (h:ZD s) {st:Int} (hst:st<=s.stamp) {n:Int} (hn:n∉Zbu s st):findB (viewS s s.stamp).l n=findB (viewS s st).l n:=by
 refine ZfW (ZdF h _) (ZdF h _) λx hx=> ?_
 have key:∀c∈s.l,c.ino=n->Zcw st c=false:=λc hc e=>by
  cases q:Zcw st c with
  |false=>rfl
  |true=>exact absurd (List.mem_map.2 ⟨c,List.mem_filter.2 ⟨hc,q⟩,e⟩) hn
 show x∈ZcP s.l s.stamp↔x∈ZcP s.l st
 constructor
 ·intro hm
  obtain⟨c,hc,hm⟩:=List.mem_flatMap.1 hm
  have hi:=(ZbY h.cs hc hm).1
  rw[ZhS hst (key c hc (by rw[<-hi,hx]))] at hm
  exact List.mem_flatMap.2 ⟨c,hc,hm⟩
 ·intro hm
  obtain⟨c,hc,hm⟩:=List.mem_flatMap.1 hm
  have hi:=(ZbY h.cs hc hm).1
  rw[<-ZhS hst (key c hc (by rw[<-hi,hx]))] at hm
  exact List.mem_flatMap.2 ⟨c,hc,hm⟩
theorem Zuz {s:StoreR} {st:Int} (hst:st<=s.stamp) (h:sinceS s st=[]):viewS s s.stamp=viewS s st:=by
 unfold sinceS at h
 split at h
 ·cases h
 rename_i q
 simp only[not_or,ne_eq,Decidable.not_not] at q
 obtain⟨q1,q2⟩:=q
 unfold viewS
 congr 1
 ·refine ZdD λc hc=>ZhS hst ?_
  cases g:Zcw st c with
  |false=>rfl
  |true=>
   have:c.ino∈Zbu s st:=List.mem_map.2 ⟨c,List.mem_filter.2 ⟨hc,g⟩,rfl⟩
   rw[q1] at this;cases this
 ·unfold nextAt
  rw[Zmd hst]
  intro x hx
  simp only[Bool.not_eq_true] at q2
  rw[List.any_eq_false] at q2
  have:=q2 x hx
  simp only[decide_eq_true_eq] at this;omega
theorem ZrE {s:StoreR} (h:ZD s):sinceS s s.stamp=[]:=by
 unfold sinceS
 have h1:Zbu s s.stamp=[]:=by
  unfold Zbu
  rw[List.map_eq_nil_iff,List.filter_eq_nil_iff]
  intro c hc hl
  unfold Zcw at hl
  obtain⟨v,hv,hl⟩:=List.any_eq_true.1 hl
  have:=((h.chain c hc).lo v hv).2
  simp only[decide_eq_true_eq] at hl;omega
 have h2:(s.nexts.any λc=>decide (s.stamp<c.stamp))=false:=by
  rw[List.any_eq_false]
  intro c hc
  have:=(h.count c hc).2.1
  simp only[decide_eq_true_eq];omega
 rw[if_neg]
 rw[h1,h2];simp
def ZeK (cs:List ChainR) (S n:Int):Prop:=∃c∈cs,c.ino=n/\∃v∈c.l,v.stamp=S
theorem ZuA {cs:List ChainR} {S:Int} {B:Nat} (M:Mid cs S B) (x:ChangeR):ZeK (Zaq S cs x) S x.ino/\∀n,ZeK cs S n->ZeK (Zaq S cs x) S n:=by
 obtain⟨⟨c0,hc0,e0⟩,hat⟩:=Zkx M.rise (ino:=x.ino) (v:=Zes S x)
 have h1:ZeK (Zaq S cs x) S x.ino:=by
  obtain⟨k,hk⟩:=hat c0 hc0 e0
  exact⟨c0,hc0,e0,Zes S x,by rw[hk];simp,rfl⟩
 refine⟨h1,λn hn=> ?_⟩
 by_cases e:n=x.ino
 ·rw[e];exact h1
 ·obtain⟨c,hc,e2,hv⟩:=hn
  exact⟨c,(ZgL M.rise c (by rw[e2];exact e)).2 hc,e2,hv⟩
theorem Zju {S:Int}:∀(l:List ChangeR) {cs:List ChainR} {B:Nat},Mid cs S B->(∀x∈l,ZeK (l.foldl (Zaq S) cs) S x.ino)/\∀n,ZeK cs S n->ZeK (l.foldl (Zaq S) cs) S n
 |[],cs,B,M=>⟨by simp,λ_ h=>h⟩
 |x::l,cs,B,M=>by
  obtain⟨a1,a2⟩:=ZuA M x
  obtain⟨b1,b2⟩:=Zju l (M.more x.ino (v:=Zes S x) rfl)
  refine⟨λy hy=> ?_,λn hn=>b2 n (a2 n hn)⟩
  rcases List.mem_cons.1 hy with rfl|hy
  ·exact b2 _ a1
  ·exact b1 y hy
theorem ZfB {s:StoreR} (h:ZD s) {l:List ChangeR} {next:Int}:(∀x∈l,x.ino∈Zbu (installS s l next) s.stamp):=λx hx=>by
 have M:Mid s.l (s.stamp+1) (s.l.length+(s.l.map λc=>c.l.length).sum):=h.mid (Nat.le_add_right _ _) λc hc=>by
  have:c.l.length<=(s.l.map λc=>c.l.length).sum:=Zpt (List.mem_map_of_mem hc)
  omega
 obtain⟨c,hc,e,v,hv,hs⟩:=(Zju l M).1 x hx
 refine List.mem_map.2 ⟨c,List.mem_filter.2 ⟨hc,?_⟩,e⟩
 unfold Zcw
 exact List.any_eq_true.2 ⟨v,hv,by simp;omega⟩
theorem Zef:∀(l:List Zj) (t:TxnR),(stepsS t l).1.now=(playS t.now l).1/\(stepsS t l).2=(playS t.now l).2/\(stepsS t l).1.was=t.was/\(stepsS t l).1.stamp=t.stamp
 |[],t=>⟨rfl,rfl,rfl,rfl⟩
 |c::l,t=>by
  obtain⟨h1,h2,h3,h4⟩:=Zef l (stepS t c).1
  refine⟨h1,?_,h3,h4⟩
  simp only[stepsS,playS]
  rw[h2];rfl
theorem Zeg (t:TxnR) (c:Zj) (n:Int):n∈(stepS t c).1.looks↔n∈t.looks\/n∈touchS t.now c:=by
 show n∈numsS _↔_
 rw[(Zae _).2,List.mem_append]
theorem Zdf:∀(l:List Zj) (t:TxnR),∀n∈t.looks,n∈(stepsS t l).1.looks
 |[],t,n,h=>h
 |c::l,t,n,h=>Zdf l _ n ((Zeg t c n).2 (.inl h))
theorem do_next {f:FSR} (R:Zi f) (T:ZK f) {c:Zj} (h:touchK c=false):(doS f c).1.next=f.next:=(do_two R T R T (λ_ _=>rfl) h).1.fnext
theorem ZeL:∀(l:List Zj) {t:TxnR},TxnP t->(∀q,1<=q->findB (stepsS t l).1.now.l q≠findB t.now.l q->q∈(stepsS t l).1.looks\/t.now.next<=q)/\(t.now.next<(stepsS t l).1.now.next->0∈(stepsS t l).1.looks)
 |[],t,h=>⟨λq _ hq=>absurd rfl hq,λhq=>absurd hq (Int.lt_irrefl _)⟩
 |c::l,t,h=>by
  have h':=Zga h c
  obtain⟨i1,i2⟩:=ZeL l h'
  have K:=Zcu h.nrows h.ntree c
  have e:(stepS t c).1.now=(doS t.now c).1:=rfl
  obtain⟨L,H⟩:=Zun h.nrows h.ntree c
  rw[e] at i1 i2
  refine⟨λq hq hne=> ?_,λhn=> ?_⟩
  ·by_cases g:findB (stepsS (stepS t c).1 l).1.now.l q=findB (doS t.now c).1.l q
   ·have hne':findB (doS t.now c).1.l q≠findB t.now.l q:=λe2=>hne (g.trans e2)
    have hL:q∈L:=Decidable.byContradiction λhL=>hne' (H.no q hL)
    rcases H.yes q hL with hl|hl
    ·exact .inl (Zdf l _ q ((Zeg t c q).2 (.inr (((touch_spec t.now c).2 q).2 (.inl ⟨hl,hq⟩)))))
    ·exact .inr hl
   ·rcases i1 q hq g with hl|hl
    ·exact .inl hl
    ·have:=K.next.1
     exact .inr (by omega)
  ·by_cases g:(doS t.now c).1.next=t.now.next
   ·rw[g] at i2
    exact i2 hn
   ·have hk:touchK c=true:=by
     cases q:touchK c with
     |true=>rfl
     |false=>exact absurd (do_next h.nrows h.ntree q) g
    exact Zdf l _ 0 ((Zeg t c 0).2 (.inr (((touch_spec t.now c).2 0).2 (.inr ⟨hk,rfl⟩))))
structure Inv (v v':FSR) (D:List Int) (f g:FSR):Prop where
 fR:Zi f
 fT:ZK f
 gR:Zi g
 gT:ZK g
 out:∀q,q∉D->findB g.l q=findB f.l q
 fin:∀q∈D,findB f.l q=findB v.l q
 gin:∀q∈D,findB g.l q=findB v'.l q
 fnext:f.next=v.next
 gnext:g.next=v'.next
theorem Inv.step {v v':FSR} {D:List Int} (hD:∀n∈D,1<=n) {f g:FSR} (I:Inv v v' D f g) {c:Zj} (h0:0∉touchS f c) (hd:∀n∈D,n∉touchS f c):Inv v v' D (doS f c).1 (doS g c).1/\(doS g c).2=(doS f c).2:=by
 have hk:touchK c=false:=by
  cases q:touchK c with
  |false=>rfl
  |true=>exact absurd (((touch_spec f c).2 0).2 (.inr ⟨q,rfl⟩)) h0
 have hl:∀y∈looksS f c,y∉D:=λy hy hyD=>hd y hyD (((touch_spec f c).2 y).2 (.inl ⟨hy,hD y hyD⟩))
 obtain⟨A,B⟩:=do_two I.fR I.fT I.gR I.gT (λy hy=>I.out y (hl y hy)) hk
 have K1:=Zcu I.fR I.fT c
 have K2:=Zcu I.gR I.gT c
 refine⟨⟨K1.rows,K1.tree,K2.rows,K2.tree,λq hq=> ?_,λq hq=> ?_,λq hq=> ?_,A.fnext.trans I.fnext,A.gnext.trans I.gnext⟩,B⟩
 ·by_cases hq2:q∈looksS f c
  ·exact A.same q hq2
  ·rw[A.fout q hq2,A.gout q hq2];exact I.out q hq
 ·rw[A.fout q λh=>hl q h hq];exact I.fin q hq
 ·rw[A.gout q λh=>hl q h hq];exact I.gin q hq
theorem Inv.steps {v v':FSR} {D:List Int} (hD:∀n∈D,1<=n):∀(l:List Zj) {t:TxnR} {g:FSR},Inv v v' D t.now g->0∉(stepsS t l).1.looks->(∀n∈D,n∉(stepsS t l).1.looks)->Inv v v' D (stepsS t l).1.now (playS g l).1/\(playS g l).2=(stepsS t l).2
 |[],t,g,I,_,_=>⟨I,rfl⟩
 |c::l,t,g,I,h0,hd=>by
  have sub:∀n,n∈touchS t.now c->n∈(stepsS (stepS t c).1 l).1.looks:=λn hn=>Zdf l _ n ((Zeg t c n).2 (.inr hn))
  obtain⟨A,B⟩:=I.step hD (λh=>h0 (sub 0 h)) λn hn h=>hd n hn (sub n h)
  obtain⟨A',B'⟩:=Inv.steps hD l (t:=(stepS t c).1) A h0 hd
  refine⟨A',?_⟩
  simp only[playS,stepsS]
  rw[B,B'];rfl
theorem ZhU {s:StoreR} {t:TxnR} (h:Zbd s t=false):∀n∈sinceS s t.stamp,n∉t.looks:=λn hn hl=>by
 unfold Zbd at h
 rw[List.any_eq_false] at h
 exact h n hn (by simpa using hl)
theorem ZrF {s:StoreR} (h:ZD s) {t:TxnR} (ht:t.stamp=s.stamp):Zbd s t=false:=by
 unfold Zbd
 rw[ht,ZrE h];rfl
structure Past (s k:StoreR) (B:Nat):Prop where
 right:ZD k
 few:ZaL B k
 rows:Zi (viewS k k.stamp)
 tree:ZK (viewS k k.stamp)
 next:(viewS s s.stamp).next<=(viewS k k.stamp).next
 stamp:s.stamp<=k.stamp
 old:viewS k s.stamp=viewS s s.stamp
theorem ZhV {s:StoreR} (h:ZD s) {B:Nat} (hb:ZaL B s) {t:TxnR} (T:TxnP t) (hw:t.was=viewS s s.stamp) (ht:t.stamp=s.stamp):
  (commitS s t).2=0/\Past s (commitS s t).1 (B+513)/\viewS (commitS s t).1 (commitS s t).1.stamp=t.now/\((commitS s t).1=s↔t.was=t.now)/\(commitS s t).1.stamp<=s.stamp+1/\(t.was≠t.now->(commitS s t).1=installS s (changesS t.was t.now) t.now.next):=by
 obtain⟨h1,h2,h3⟩:=ZdE h hb T
 have hc:=ZrF h ht
 by_cases q:t.was=t.now
 ·have e:commitS s t=(s,0):=by unfold commitS;rw[if_pos q]
  rw[e]
  refine⟨rfl,⟨h,hb.mono (by omega),hw▸T.wrows,hw▸T.wtree,Int.le_refl _,Int.le_refl _,rfl⟩,by rw[<-hw,q],⟨λ_=>q,λ_=>rfl⟩,by simp only;omega,λg=>absurd q g⟩
 ·have e:commitS s t=(installS s (changesS t.was t.now) t.now.next,0):=by unfold commitS;rw[if_neg q,hc,if_neg (by simp)]
  rw[e] at h1 h2⊢
  obtain⟨c1,c2⟩:=Zah T.wrows T.nrows
  have hv:viewS (installS s (changesS t.was t.now) t.now.next) (s.stamp+1)=t.now:=by
   rw[Zbl h c2 (Zbh T.nrows),<-hw]
   exact ZtW T.wrows T.nrows T.next
  have hv':viewS (installS s (changesS t.was t.now) t.now.next) (installS s (changesS t.was t.now) t.now.next).stamp=t.now:=hv
  refine⟨rfl,⟨h1,h2,by simp only;rw[hv'];exact T.nrows,by simp only;rw[hv'];exact T.ntree,?_,by show s.stamp<=s.stamp+1;omega,Zpu (Int.le_refl _)⟩,hv',⟨λg=> ?_,λg=>absurd g q⟩,Int.le_refl _,λ_=>rfl⟩
  ·rw[hv',<-hw];exact T.next
  ·have:=congrArg StoreR.stamp g
   simp only[installS] at this;omega
theorem ZuB {s:StoreR} (hP:ZD s) (R:Zi (viewS s s.stamp)) (T:ZK (viewS s s.stamp)):TxnP (beginS s):=⟨R,T,R,T,Int.le_refl _,hP.stamp,rfl,by simp[beginS]⟩
def at0 (k:StoreR) (st:Int):TxnR:=⟨st,viewS k st,viewS k st,[]⟩
theorem serialK {k:StoreR} (hP:ZD k) {st:Int} (h1:1<=st) (hst:st<=k.stamp) (R:Zi (viewS k st)) (T:ZK (viewS k st)) (R':Zi (viewS k k.stamp)) (T':ZK (viewS k k.stamp)) (hnx:(viewS k st).next<=(viewS k k.stamp).next) (l:List Zj)
  (hc:Zbd k (stepsS (at0 k st) l).1=false) (hq:(stepsS (at0 k st) l).1.was≠(stepsS (at0 k st) l).1.now):
  (playS (viewS k k.stamp) l).2=(stepsS (at0 k st) l).2/\viewS (installS k (changesS (stepsS (at0 k st) l).1.was (stepsS (at0 k st) l).1.now) (stepsS (at0 k st) l).1.now.next) (k.stamp+1)=(playS (viewS k k.stamp) l).1/\
  ∀q,(findB (viewS k k.stamp).l q=findB (playS (viewS k k.stamp) l).1.l q/\findB (stepsS (at0 k st) l).1.was.l q=findB (stepsS (at0 k st) l).1.now.l q)\/(findB (viewS k k.stamp).l q=findB (stepsS (at0 k st) l).1.was.l q/\findB (playS (viewS k k.stamp) l).1.l q=findB (stepsS (at0 k st) l).1.now.l q):=by
 have Tb:TxnP (at0 k st):=⟨R,T,R,T,Int.le_refl _,h1,rfl,by simp[at0]⟩
 obtain⟨S1,S2,S3⟩:=Zbg l Tb
 obtain⟨p1,p2,p3,p4⟩:=Zef l (at0 k st)
 have hn:=ZhU hc
 have p4':(stepsS (at0 k st) l).1.stamp=st:=p4
 rw[p4'] at hn
 have p1':(stepsS (at0 k st) l).1.now=(playS (viewS k st) l).1:=p1
 have p2':(stepsS (at0 k st) l).2=(playS (viewS k st) l).2:=p2
 have p3':(stepsS (at0 k st) l).1.was=viewS k st:=p3
 obtain⟨c1,c2⟩:=Zah S1.wrows S1.nrows
 rw[Zbl hP c2 (Zbh S1.nrows)]
 by_cases q:sinceS k st=[]
 ·have e:viewS k k.stamp=viewS k st:=Zuz hst q
  rw[e,p2']
  refine⟨rfl,?_,λq=> .inr ⟨by rw[p3'],by rw[p1']⟩⟩
  rw[<-p1',<-p3']
  exact ZtW S1.wrows S1.nrows S1.next
 ·have h0:=hn 0 (Zjt q)
  have hD:∀n∈Zbu k st,1<=n:=λn hn=>Zjs hP hn
  have hout:∀q,q∉Zbu k st->findB (viewS k k.stamp).l q=findB (viewS k st).l q:=λq hq=>Zuy hP hst hq
  have I0:Inv (viewS k st) (viewS k k.stamp) (Zbu k st) (at0 k st).now (viewS k k.stamp):=⟨R,T,R',T',hout,λ_ _=>rfl,λ_ _=>rfl,rfl,rfl⟩
  obtain⟨I,E⟩:=Inv.steps hD l I0 h0 λn hn'=>hn n ((ZhT (hD n hn')).2 hn')
  have F:=ZcQ S1.wrows S1.nrows (ZdF hP k.stamp)
  obtain⟨f1,f2,f3⟩:=F
  have K:=ZhK l (viewS k k.stamp) R' T'
  have el:(applyS (viewS k k.stamp) (changesS (stepsS (at0 k st) l).1.was (stepsS (at0 k st) l).1.now) (stepsS (at0 k st) l).1.now.next).l=(playS (viewS k k.stamp) l).1.l:=by
   refine ZaE NodeR.ino f1 K.1.rise λn=> ?_
   rw[Zcs f1,Zcs K.1.rise,f2]
   suffices hh:(if findB (stepsS (at0 k st) l).1.was.l n.ino=findB (stepsS (at0 k st) l).1.now.l n.ino then findB (viewS k k.stamp).l n.ino else findB (stepsS (at0 k st) l).1.now.l n.ino)=findB (playS (viewS k k.stamp) l).1.l n.ino by rw[hh]
   by_cases hd:n.ino∈Zbu k st
   ·have h1:=I.fin _ hd
    rw[p3',if_pos h1.symm,I.gin _ hd]
   ·rw[I.out _ hd]
    split
    ·rename_i e2
     rw[hout _ hd,<-e2,p3']
    ·rfl
  have en:(applyS (viewS k k.stamp) (changesS (stepsS (at0 k st) l).1.was (stepsS (at0 k st) l).1.now) (stepsS (at0 k st) l).1.now.next).next=(playS (viewS k k.stamp) l).1.next:=by
   rw[f3,I.gnext,I.fnext]
   omega
  refine⟨E,?_,λq=> ?_⟩
  ·generalize applyS (viewS k k.stamp) (changesS (stepsS (at0 k st) l).1.was (stepsS (at0 k st) l).1.now) (stepsS (at0 k st) l).1.now.next=X at*
   generalize(playS (viewS k k.stamp) l).1=Y at*
   cases X;cases Y
   simp only at el en
   rw[el,en]
  ·by_cases hd:q∈Zbu k st
   ·exact .inl ⟨(I.gin _ hd).symm,by rw[p3'];exact(I.fin _ hd).symm⟩
   ·exact .inr ⟨by rw[p3'];exact hout _ hd,I.out _ hd⟩
theorem apart {s:StoreR} (h:ZD s) (R:Zi (viewS s s.stamp)) (T:ZK (viewS s s.stamp)) {B:Nat} (hb:ZaL B s) (a b:List Zj)
  (hx:(commitS (commitS s (stepsS (beginS s) a).1).1 (stepsS (beginS s) b).1).2=0) (hy:(commitS (commitS s (stepsS (beginS s) b).1).1 (stepsS (beginS s) a).1).2=0):
  viewS (commitS (commitS s (stepsS (beginS s) a).1).1 (stepsS (beginS s) b).1).1 (commitS (commitS s (stepsS (beginS s) a).1).1 (stepsS (beginS s) b).1).1.stamp=
  viewS (commitS (commitS s (stepsS (beginS s) b).1).1 (stepsS (beginS s) a).1).1 (commitS (commitS s (stepsS (beginS s) b).1).1 (stepsS (beginS s) a).1).1.stamp:=by
 have Tb:=ZuB h R T
 have X1:=(Zbg a Tb).1
 have Y1:=(Zbg b Tb).1
 obtain⟨_,_,x3,x4⟩:=Zef a (beginS s)
 obtain⟨_,_,y3,y4⟩:=Zef b (beginS s)
 have xm:=ZeL a Tb
 have ym:=ZeL b Tb
 generalize(stepsS (beginS s) a).1=x at*
 generalize(stepsS (beginS s) b).1=y at*
 have x3':x.was=viewS s s.stamp:=x3
 have y3':y.was=viewS s s.stamp:=y3
 have x4':x.stamp=s.stamp:=x4
 have y4':y.stamp=s.stamp:=y4
 obtain⟨cx1,cx2,cx3,cx4,cx5,cx6⟩:=ZhV h hb X1 x3' x4'
 obtain⟨cy1,cy2,cy3,cy4,cy5,cy6⟩:=ZhV h hb Y1 y3' y4'
 have idle:∀(k:StoreR) (t:TxnR),t.was=t.now->(commitS k t).1=k:=λk t e=>by unfold commitS;rw[if_pos e]
 by_cases qx:x.was=x.now
 ·rw[idle _ x qx,idle _ x qx]
 by_cases qy:y.was=y.now
 ·rw[idle _ y qy,idle _ y qy]
 have ex:=cx6 qx
 have ey:=cy6 qy
 rw[ex] at hx cx2 cx3⊢
 rw[ey] at hy cy2 cy3⊢
 have com:∀{k:StoreR} {t:TxnR},t.was≠t.now->(commitS k t).2=0->Zbd k t=false/\(commitS k t).1=installS k (changesS t.was t.now) t.now.next:=fun{k t} q g=>by
  unfold commitS at g⊢
  rw[if_neg q] at g⊢
  by_cases c:Zbd k t=true
  ·rw[if_pos c] at g;exact absurd g (by simp)
  ·rw[if_neg c];exact⟨by simpa using c,rfl⟩
 obtain⟨dx,ex2⟩:=com qy hx
 obtain⟨dy,ey2⟩:=com qx hy
 rw[ex2,ey2]
 have hs1:(installS s (changesS x.was x.now) x.now.next).stamp=s.stamp+1:=rfl
 have hs2:(installS s (changesS y.was y.now) y.now.next).stamp=s.stamp+1:=rfl
 obtain⟨cx,gx⟩:=Zah X1.wrows X1.nrows
 obtain⟨cy,gy⟩:=Zah Y1.wrows Y1.nrows
 have V1:=Zbl cx2.right gy (Zbh Y1.nrows)
 have V2:=Zbl cy2.right gx (Zbh X1.nrows)
 rw[cx3] at V1
 rw[cy3] at V2
 have hV1:viewS (installS (installS s (changesS x.was x.now) x.now.next) (changesS y.was y.now) y.now.next) (installS (installS s (changesS x.was x.now) x.now.next) (changesS y.was y.now) y.now.next).stamp=applyS x.now (changesS y.was y.now) y.now.next:=V1
 have hV2:viewS (installS (installS s (changesS y.was y.now) y.now.next) (changesS x.was x.now) x.now.next) (installS (installS s (changesS y.was y.now) y.now.next) (changesS x.was x.now) x.now.next).stamp=applyS y.now (changesS x.was x.now) x.now.next:=V2
 rw[hV1,hV2]
 have nx:=ZhU dx
 have ny:=ZhU dy
 rw[y4'] at nx
 rw[x4'] at ny
 have sx:∀q,findB x.was.l q≠findB x.now.l q->q∈Zbu (installS s (changesS x.was x.now) x.now.next) s.stamp:=λq hq=>by
  obtain⟨c,hc,e⟩:=Zmc X1.wrows X1.nrows hq
  rw[<-e];exact ZfB h c hc
 have sy:∀q,findB y.was.l q≠findB y.now.l q->q∈Zbu (installS s (changesS y.was y.now) y.now.next) s.stamp:=λq hq=>by
  obtain⟨c,hc,e⟩:=Zmc Y1.wrows Y1.nrows hq
  rw[<-e];exact ZfB h c hc
 have both:∀q,findB x.was.l q≠findB x.now.l q->findB y.was.l q≠findB y.now.l q->False:=λq h1 h2=>by
  have m1:=sx q h1
  have m2:=sy q h2
  have hq:=Zjs cx2.right m1
  have n1:=nx q ((ZhT hq).2 m1)
  have n0:=nx 0 (Zjt (List.ne_nil_of_mem ((ZhT hq).2 m1)))
  have hw:(beginS s).now=y.was:=y3.symm
  rcases ym.1 q hq (by rw[hw];exact h2.symm) with g|g
  ·exact n1 g
  ·rw[hw] at g
   have hno:findB y.was.l q=(.zero,false):=ZbW λz hz e=>by have:=Y1.wrows.lt z hz;omega
   have hyes:(findB y.now.l q).2=true:=by
    cases e:(findB y.now.l q).2 with
    |true=>rfl
    |false=>exact absurd (hno.trans (Prod.ext (ZaB e) e:findB y.now.l q=(.zero,false)).symm) h2
   have hlt:=Y1.nrows.lt _ (Zm hyes).1
   rw[(Zm hyes).2] at hlt
   exact n0 (ym.2 (by rw[hw];omega))
 obtain⟨f1,f2,f3⟩:=ZcQ (h:=x.now) Y1.wrows Y1.nrows X1.nrows.rise
 obtain⟨g1,g2,g3⟩:=ZcQ (h:=y.now) X1.wrows X1.nrows Y1.nrows.rise
 have el:(applyS x.now (changesS y.was y.now) y.now.next).l=(applyS y.now (changesS x.was x.now) x.now.next).l:=by
  refine ZaE NodeR.ino f1 g1 λn=> ?_
  rw[Zcs f1,Zcs g1,f2,g2]
  by_cases qa:findB y.was.l n.ino=findB y.now.l n.ino
  ·by_cases qb:findB x.was.l n.ino=findB x.now.l n.ino
   ·rw[if_pos qa,if_pos qb,<-qa,<-qb,x3',y3']
   ·rw[if_pos qa,if_neg qb]
  ·by_cases qb:findB x.was.l n.ino=findB x.now.l n.ino
   ·rw[if_neg qa,if_pos qb]
   ·exact(both _ qb qa).elim
 have en:(applyS x.now (changesS y.was y.now) y.now.next).next=(applyS y.now (changesS x.was x.now) x.now.next).next:=by
  rw[f3,g3];omega
 generalize applyS x.now (changesS y.was y.now) y.now.next=X at*
 generalize applyS y.now (changesS x.was x.now) x.now.next=Y at*
 cases X;cases Y
 simp only at el en
 rw[el,en]
end Go.Cx
namespace Go.Cx
def rep0:ReplyR:=⟨0,0,0,0,.empty,[]⟩
def repA (a:Int):ReplyR:=⟨0,a,0,0,.empty,[]⟩
def findO (h:HostR) (c:Int):Option OpenR:=Zak OpenR.client h.opens c
def withO (h:HostR) (o:OpenR):HostR:={h with opens:=putS OpenR.client h.opens o}
def isO (o:OpenR) (m:MsgR):Bool:=decide (o.epoch=m.epoch)&&decide (o.seq=m.seq)
def lateO (h:HostR) (o:OpenR) (m:MsgR):Bool:=decide (o.until_<h.now)||((decide (m.kind=2)||decide (m.kind=3))&& !decide (o.t.stamp=m.stamp))
def ownMsg (h:HostR) (m:MsgR):OpenR×Bool×Bool:=match findO h m.client with
 |none=>(.zero,false,false)
 |some o=>(o,isO o m,isO o m&&lateO h o m)
def openS (h:HostR) (m:MsgR):OpenR:=⟨m.client,m.epoch,m.seq,0,beginS h.s,rep0,h.now+h.lease⟩
def beginH (h:HostR) (m:MsgR):HostR×ReplyR:=match findO h m.client with
 |none=>if 64<=h.opens.length then(h,errR 12) else(withO h (openS h m),repA h.s.stamp)
 |some o=>if isO o m=true then(h,repA o.t.stamp) else if m.epoch<=o.epoch/\h.now<=o.until_ then(h,errR 20) else(withO h (openS h m),repA h.s.stamp)
def mayCallS (h:HostR) (m:MsgR):Int:=match findO h m.client with
 |none=>6
 |some o=>if isO o m=false then 6 else if lateO h o m=true then 16 else if m.n≠o.n/\m.n≠w64 (o.n+1) then 1 else 0
def ZrG (h:HostR) (o:OpenR) (m:MsgR):OpenR:={o with t:=(stepS o.t m.c).1,last:=(stepS o.t m.c).2,n:=m.n,until_:=h.now+h.lease}
def callS (h:HostR) (m:MsgR):HostR×ReplyR:=
 if mayCallS h m≠0 then(h,errR (mayCallS h m)) else match findO h m.client with
 |none=>(h,errR 6)
 |some o=>if m.n=o.n then(h,o.last) else(withO h (ZrG h o m),(ZrG h o m).last)
def tryS (h:HostR) (m:MsgR):StoreR×Bool:=match findO h m.client with
 |none=>(h.s,false)
 |some o=>if m.kind=3/\isO o m=true/\lateO h o m=false/\o.n=m.n/\(commitS h.s o.t).2=0 then((commitS h.s o.t).1,true) else(h.s,false)
def Zbw (h:HostR) (m:MsgR):HostR:=⟨(tryS h m).1,(decideS h.rows m.client m.epoch m.seq (tryS h m).2).1,if(ownMsg h m).2.1=true then h.opens.filter (λo=> !decide (o.client=m.client)) else h.opens,h.now,h.lease⟩
def decideH (h:HostR) (m:MsgR):HostR×ReplyR:=
 if m.kind=5/\(ownMsg h m).2.1=true/\(ownMsg h m).2.2=false then(h,errR 20)
 else if(decideS h.rows m.client m.epoch m.seq (tryS h m).2).2.2≠0 then(h,errR (decideS h.rows m.client m.epoch m.seq (tryS h m).2).2.2)
 else(Zbw h m,if(tryS h m).2=true then rep0 else if m.kind=3/\(ownMsg h m).2.2=true then errR 16 else errR 15)
def answerS (h:HostR) (m:MsgR):HostR×ReplyR:=
 if m.kind=6 then({h with rows:=(forgetS h.rows m.client m.epoch m.seq).1},errR (forgetS h.rows m.client m.epoch m.seq).2)
 else if(askS h.rows m.client m.epoch m.seq).2≠0/\(askS h.rows m.client m.epoch m.seq).2≠6 then(h,errR (askS h.rows m.client m.epoch m.seq).2)
 else if m.kind<1\/5<m.kind then(h,errR 1)
 else if(askS h.rows m.client m.epoch m.seq).2=0 then(h,if m.kind<=2 then errR 7 else if(askS h.rows m.client m.epoch m.seq).1=true then rep0 else errR 15)
 else if m.kind=1 then beginH h m else if m.kind=2 then callS h m else decideH h m
def nS (h:HostR) (m:MsgR):Int:=if m.kind=2/\((askS h.rows m.client m.epoch m.seq).2≠6\/mayCallS h m≠0) then-1 else m.n
def ZeM (h:HostR) (m:MsgR):HostR×RspR:=((answerS h m).1,⟨m.kind,m.client,m.epoch,m.seq,nS h m,(answerS h m).2⟩)
structure OpenP (h:HostR) (o:OpenR):Prop where
 client:0<=o.client
 epoch:1<=o.epoch
 seq:1<=o.seq
 n:0<=o.n
 t:TxnP o.t
 stamp:o.t.stamp<=h.s.stamp
structure Ziw (h:HostR):Prop where
 store:ZD h.s
 vrows:Zi (viewS h.s h.s.stamp)
 vtree:ZK (viewS h.s h.s.stamp)
 rows:Zas h.rows
 few:h.opens.length<=64
 rise:Zo OpenR.client h.opens=true
 open_:∀o∈h.opens,OpenP h o
 now:0<=h.now
 lease:1<=h.lease
theorem Zpw {h:HostR} {m:MsgR} (hm:mayCallS h m=0):∃o,findO h m.client=some o/\isO o m=true/\lateO h o m=false/\(m.n=o.n\/m.n=w64 (o.n+1)):=by
 unfold mayCallS at hm
 split at hm
 ·cases hm
 ·rename_i o ho
  split at hm
  ·cases hm
  ·split at hm
   ·cases hm
   ·split at hm
    ·cases hm
    ·rename_i h1 h2 h3
     exact⟨o,ho,by simpa using h1,by simpa using h2,(Decidable.em (m.n=o.n)).imp id λg=>Decidable.byContradiction λg2=>h3 ⟨g,g2⟩⟩
theorem Zgd {h:HostR} {m:MsgR} (hf:findO h m.client=none):ownMsg h m=(.zero,false,false):=by unfold ownMsg;rw[hf]
theorem ZcR {h:HostR} {m:MsgR} {o:OpenR} (hf:findO h m.client=some o):ownMsg h m=(o,isO o m,isO o m&&lateO h o m):=by unfold ownMsg;rw[hf]
end Go.Cx
namespace Go.Cx
section
variable {α:Type} [DecidableEq α] (f:α->Int)
def keptS (sts:List Int) (l:List α):List α:=l.filter λx=>sts.any λst=>decide (Zbc f l st=some x)
end
def ZdG (l:List VerR):List VerR:=l.dropWhile λv=>v.gone
def Zgv (sts:List Int) (c:ChainR):ChainR:=⟨c.ino,ZdG (keptS VerR.stamp sts c.l)⟩
def sweepS (s:StoreR) (pins:List Int):StoreR:=⟨(s.l.map (Zgv (pins++[s.stamp]))).filter λc=> !decide (c.l=[]),keptS CountR.stamp (pins++[s.stamp]) s.nexts,s.stamp⟩
def staysS (h:HostR):List OpenR:=h.opens.filter λo=> !decide (o.until_<h.now)
def sweepH (h:HostR):HostR:={h with opens:=staysS h,s:=sweepS h.s ((staysS h).map λo=>o.t.stamp)}
section
variable {α:Type} [DecidableEq α] {f:α->Int}
theorem Zxz (sts:List Int) (l:List α):(keptS f sts l).Sublist l:=List.filter_sublist
end
end Go.Cx
namespace Go.Cx
theorem ZmD {α:Type} (p:α->Bool) (l:List α):l.any p=decide (0<=idxS p l):=by
 by_cases hb:idxS p l= -1
 ·have h:=(ZcK hb).2
  rw[hb]
  have:l.any p=false:=by rw[List.any_eq_false];intro x hx;rw[h x hx];simp
  rw[this];rfl
 ·obtain⟨j,hj,e1,e2,_⟩:=ZcL hb
  rw[e1]
  have:l.any p=true:=List.any_eq_true.2 ⟨_,List.getElem_mem hj,e2⟩
  rw[this];simp
section
variable {α:Type} (f:α->Int)
def Zdl (l:List α) (sts:List Int):Nat->List α->List α
 |_,[]=>[]
 |i,x::r=>if(sts.any λst=>decide (atS f l st=(i:Int)))=true then x::Zdl l sts (i+1) r else Zdl l sts (i+1) r
end
theorem ZmE {α:Type} [DecidableEq α] {f:α->Int} {l:List α} (h:l.Pairwise λa b=>f a<f b) {i:Nat} (hi:i<l.length) (st:Int):(atS f l st=(i:Int))↔Zbc f l st=some l[i]:=by
 obtain⟨s1,s2⟩:=ZfA (f:=f) st l
 have sp:=Zcv f l st
 constructor
 ·intro e
  have:=s2 (by rw[e];simpa using hi) (by omega)
  rw[this]
  congr 1
  simp[e]
 ·intro e
  rcases Int.lt_or_le (atS f l st) 0 with g|g
  ·rw[s1 g] at e;cases e
  ·have hlt:(atS f l st).toNat<l.length:=by have:=sp.hi;omega
   rw[s2 hlt g] at e
   injection e with e
   have:(atS f l st).toNat=i:=by
    rcases Nat.lt_trichotomy (atS f l st).toNat i with q|q|q
    ·have:=List.pairwise_iff_getElem.1 h _ _ hlt hi q
     rw[e] at this;exact absurd this (Int.lt_irrefl _)
    ·exact q
    ·have:=List.pairwise_iff_getElem.1 h _ _ hi hlt q
     rw[e] at this;exact absurd this (Int.lt_irrefl _)
   omega
theorem Zom {α:Type} [DecidableEq α] {f:α->Int} {l:List α} (h:l.Pairwise λa b=>f a<f b) (sts:List Int):Zdl f l sts 0 l=keptS f sts l:=by
 have key:∀(n i:Nat),l.length -i=n->Zdl f l sts i (l.drop i)=(l.drop i).filter λx=>sts.any λst=>decide (Zbc f l st=some x):=by
  intro n
  induction n with
  |zero=>intro i hi;rw[List.drop_eq_nil_of_le (by omega)];rfl
  |succ n ih=>
   intro i hi
   have hlt:i<l.length:=by omega
   rw[List.drop_eq_getElem_cons hlt,Zdl,List.filter_cons,ih (i+1) (by omega)]
   have e:(sts.any λst=>decide (atS f l st=(i:Int)))=sts.any λst=>decide (Zbc f l st=some l[i]):=by
    congr 1;funext st;exact decide_eq_decide.2 (ZmE h hlt st)
   rw[e]
 have:=key _ 0 rfl
 rw[List.drop_zero] at this
 exact this
end Go.Cx
