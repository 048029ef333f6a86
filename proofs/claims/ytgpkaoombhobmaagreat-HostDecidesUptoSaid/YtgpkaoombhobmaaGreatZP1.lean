import Derived.Test.YtgpkaoombhobmaaGreatZBe
import Derived.Lib.Bytealg
import Derived.Lib.SlicesCompact
set_option linter.unusedVariables false
set_option linter.unusedSimpArgs false
namespace Go.Cx
@[simp high] theorem hd0_MsgR (c:MsgR):(c.enc).head? =some (I c.kind):=rfl
@[simp high] theorem gt0_MsgR (c:MsgR):c.enc[0]? =some (I c.kind):=rfl
@[simp high] theorem hd1_MsgR (c:MsgR):(c.enc.drop 1).head? =some (I c.client):=rfl
@[simp high] theorem gt1_MsgR (c:MsgR):c.enc[1]? =some (I c.client):=rfl
@[simp high] theorem hd2_MsgR (c:MsgR):(c.enc.drop 2).head? =some (I c.epoch):=rfl
@[simp high] theorem gt2_MsgR (c:MsgR):c.enc[2]? =some (I c.epoch):=rfl
@[simp high] theorem hd3_MsgR (c:MsgR):(c.enc.drop 3).head? =some (I c.seq):=rfl
@[simp high] theorem gt3_MsgR (c:MsgR):c.enc[3]? =some (I c.seq):=rfl
@[simp high] theorem hd4_MsgR (c:MsgR):(c.enc.drop 4).head? =some (I c.n):=rfl
@[simp high] theorem gt4_MsgR (c:MsgR):c.enc[4]? =some (I c.n):=rfl
@[simp high] theorem hd5_MsgR (c:MsgR):(c.enc.drop 5).head? =some (I c.stamp):=rfl
@[simp high] theorem gt5_MsgR (c:MsgR):c.enc[5]? =some (I c.stamp):=rfl
@[simp high] theorem hd6_MsgR (c:MsgR):(c.enc.drop 6).head? =some (I c.c.kind):=rfl
@[simp high] theorem gt6_MsgR (c:MsgR):c.enc[6]? =some (I c.c.kind):=rfl
@[simp high] theorem hd7_MsgR (c:MsgR):(c.enc.drop 7).head? =some (I c.c.ino):=rfl
@[simp high] theorem gt7_MsgR (c:MsgR):c.enc[7]? =some (I c.c.ino):=rfl
@[simp high] theorem hd8_MsgR (c:MsgR):(c.enc.drop 8).head? =some (I c.c.to_):=rfl
@[simp high] theorem gt8_MsgR (c:MsgR):c.enc[8]? =some (I c.c.to_):=rfl
@[simp high] theorem hd9_MsgR (c:MsgR):(c.enc.drop 9).head? =some (I c.c.at_):=rfl
@[simp high] theorem gt9_MsgR (c:MsgR):c.enc[9]? =some (I c.c.at_):=rfl
@[simp high] theorem hd10_MsgR (c:MsgR):(c.enc.drop 10).head? =some (I c.c.many):=rfl
@[simp high] theorem gt10_MsgR (c:MsgR):c.enc[10]? =some (I c.c.many):=rfl
@[simp high] theorem hd11_MsgR (c:MsgR):(c.enc.drop 11).head? =some (S c.c.name):=rfl
@[simp high] theorem gt11_MsgR (c:MsgR):c.enc[11]? =some (S c.c.name):=rfl
@[simp high] theorem hd12_MsgR (c:MsgR):(c.enc.drop 12).head? =some (S c.c.name2):=rfl
@[simp high] theorem gt12_MsgR (c:MsgR):c.enc[12]? =some (S c.c.name2):=rfl
@[simp high] theorem hd13_MsgR (c:MsgR):(c.enc.drop 13).head? =some (S c.c.text):=rfl
@[simp high] theorem gt13_MsgR (c:MsgR):c.enc[13]? =some (S c.c.text):=rfl
@[simp high] theorem sub6_8_MsgR (c:MsgR):(c.enc.drop 6).take 8=c.c.enc:=rfl
@[simp high] theorem zset_MsgR (c:MsgR):setMany [AV.val (Value.int IntKind.i64 0),AV.val (Value.int IntKind.i64 0),AV.val (Value.int IntKind.i64 0),AV.val (Value.int IntKind.i64 0),AV.val (Value.int IntKind.i64 0),AV.val (Value.int IntKind.i64 0),AV.val (Value.int IntKind.i64 0),AV.val (Value.int IntKind.i64 0),AV.val (Value.int IntKind.i64 0),AV.val (Value.int IntKind.i64 0),AV.val (Value.int IntKind.i64 0),AV.val (Value.string ByteArray.empty),AV.val (Value.string ByteArray.empty),AV.val (Value.string ByteArray.empty)] 0 c.enc=c.enc:=rfl
@[simp high] theorem hd0_RspR (c:RspR):(c.enc).head? =some (I c.kind):=rfl
@[simp high] theorem gt0_RspR (c:RspR):c.enc[0]? =some (I c.kind):=rfl
@[simp high] theorem hd1_RspR (c:RspR):(c.enc.drop 1).head? =some (I c.client):=rfl
@[simp high] theorem gt1_RspR (c:RspR):c.enc[1]? =some (I c.client):=rfl
@[simp high] theorem hd2_RspR (c:RspR):(c.enc.drop 2).head? =some (I c.epoch):=rfl
@[simp high] theorem gt2_RspR (c:RspR):c.enc[2]? =some (I c.epoch):=rfl
@[simp high] theorem hd3_RspR (c:RspR):(c.enc.drop 3).head? =some (I c.seq):=rfl
@[simp high] theorem gt3_RspR (c:RspR):c.enc[3]? =some (I c.seq):=rfl
@[simp high] theorem hd4_RspR (c:RspR):(c.enc.drop 4).head? =some (I c.n):=rfl
@[simp high] theorem gt4_RspR (c:RspR):c.enc[4]? =some (I c.n):=rfl
@[simp high] theorem hd5_RspR (c:RspR):(c.enc.drop 5).head? =some (I c.r.e):=rfl
@[simp high] theorem gt5_RspR (c:RspR):c.enc[5]? =some (I c.r.e):=rfl
@[simp high] theorem hd6_RspR (c:RspR):(c.enc.drop 6).head? =some (I c.r.a):=rfl
@[simp high] theorem gt6_RspR (c:RspR):c.enc[6]? =some (I c.r.a):=rfl
@[simp high] theorem hd7_RspR (c:RspR):(c.enc.drop 7).head? =some (I c.r.b):=rfl
@[simp high] theorem gt7_RspR (c:RspR):c.enc[7]? =some (I c.r.b):=rfl
@[simp high] theorem hd8_RspR (c:RspR):(c.enc.drop 8).head? =some (I c.r.n):=rfl
@[simp high] theorem gt8_RspR (c:RspR):c.enc[8]? =some (I c.r.n):=rfl
@[simp high] theorem hd9_RspR (c:RspR):(c.enc.drop 9).head? =some (S c.r.text):=rfl
@[simp high] theorem gt9_RspR (c:RspR):c.enc[9]? =some (S c.r.text):=rfl
@[simp high] theorem hd10_RspR (c:RspR):(c.enc.drop 10).head? =some (enc1 S c.r.names):=rfl
@[simp high] theorem gt10_RspR (c:RspR):c.enc[10]? =some (enc1 S c.r.names):=rfl
@[simp high] theorem sub5_6_RspR (c:RspR):(c.enc.drop 5).take 6=c.r.enc:=rfl
@[simp high] theorem zset_RspR (c:RspR):setMany [AV.val (Value.int IntKind.i64 0),AV.val (Value.int IntKind.i64 0),AV.val (Value.int IntKind.i64 0),AV.val (Value.int IntKind.i64 0),AV.val (Value.int IntKind.i64 0),AV.val (Value.int IntKind.i64 0),AV.val (Value.int IntKind.i64 0),AV.val (Value.int IntKind.i64 0),AV.val (Value.int IntKind.i64 0),AV.val (Value.string ByteArray.empty),AV.sl true 0 []] 0 c.enc=c.enc:=rfl
@[simp] theorem MsgR.one (c:MsgR):c.enc.all Zx=true:=rfl
@[simp high] theorem lenc_MsgR (x:MsgR):x.enc.length=14:=rfl
@[simp high] theorem takec_MsgR (x:MsgR):x.enc.take 14=x.enc:=List.take_of_length_le (Nat.le_refl _)
@[simp] theorem RspR.one (c:RspR):c.enc.all Zx=true:=rfl
@[simp high] theorem lenc_RspR (x:RspR):x.enc.length=11:=rfl
@[simp high] theorem takec_RspR (x:RspR):x.enc.take 11=x.enc:=List.take_of_length_le (Nat.le_refl _)
end Go.Cx
namespace Go.Cx
def hi (c:UInt8):Bool:=decide (128≤c.toNat)
end Go.Cx
set_option linter.unusedVariables false
set_option linter.unusedSimpArgs false
namespace Go.Cx
def nameOk (s:ByteArray):Bool:=decide (1≤s.size)&&decide (s.size≤32)&& !decide (s=T [46])&& !decide (s=T [46,46])&& !s.data.toList.contains 47&& !s.data.toList.contains 0
def checkS (s:ByteArray):Int:=if nameOk s then 0 else 10
@[simp] theorem checkS_eq (s:ByteArray):(checkS s=0)=(nameOk s=true):=by
 unfold checkS;cases nameOk s<;>simp
def ZbE:Option ByteArray→List EntryR→Bool
 |_,[]=>true
 |p,x::l=>nameOk x.name&&decide (1≤x.ino)&&(p.map fun q=>ZX q x.name).getD true&&ZbE (some x.name) l
def prevAt (l:List EntryR) (i:Nat):Option ByteArray:=if i=0 then none else(l[i -1]?).map (·.name)
def ZhZ (l:List EntryR):Bool:=decide (l.length≤256)&&ZbE none l
theorem ZkS (l:List EntryR) (i:Nat) (h:i<l.length):ZbE (prevAt l i) (l.drop i)=(nameOk l[i].name&&decide (1≤l[i].ino)&&((prevAt l i).map fun q=>ZX q l[i].name).getD true&&ZbE (prevAt l (i+1)) (l.drop (i+1))):=by
 have e:prevAt l (i+1)=some l[i].name:=by simp[prevAt,h]
 rw[List.drop_eq_getElem_cons h,ZbE,e]
theorem Zix (l:List EntryR) (i:Nat) (h:l.length≤i):ZbE (prevAt l i) (l.drop i)=true:=by
 rw[List.drop_eq_nil_of_le h,ZbE]
theorem ZfV (l:List UInt8) (c:UInt8):(0≤Lib.indexByte l c)=(l.contains c=true):=by
 apply propext
 induction l with
 |nil=>simp[Lib.indexByte]
 |cons b l ih=>
  have h:=Lib.indexByte_ge l c
  unfold Lib.indexByte
  rw[List.contains_cons]
  by_cases hb:b=c
  ·subst hb;simp
  ·have hb':(b==c)=false:=by simpa using hb
   have hc':(c==b)=false:=by simpa using fun e:c=b=>hb e.symm
   rw[hb',hc',Bool.false_or,←ih]
   simp only[Bool.false_eq_true,if_false]
   by_cases h1:Lib.indexByte l c= -1
   ·rw[h1];decide
   ·have:(Lib.indexByte l c== -1)=false:=by simpa using h1
    rw[this]
    simp only[Bool.false_eq_true,if_false]
    omega
theorem Zmy (l:List UInt8) (c:UInt8):l.contains c=true↔∃i,∃h:i<l.length,l[i]=c:=by
 simp[List.contains_iff_mem,List.mem_iff_getElem]
theorem ZjJ {s:ByteArray} (h:nameOk s=true):(1≤s.size∧s.size≤32)∧¬s=T [46]∧¬s=T [46,46]∧¬s= .empty∧s.data.toList.contains 47=false∧s.data.toList.contains 0=false:=by
 simp only[nameOk,Bool.and_eq_true,decide_eq_true_eq,Bool.not_eq_true',decide_eq_false_iff_not] at h
 obtain⟨⟨⟨⟨⟨h1,h2⟩,h3⟩,h4⟩,h5⟩,h6⟩:=h
 refine⟨⟨h1,h2⟩,h3,h4,?_,h5,h6⟩
 rintro rfl
 simp at h1
theorem name_no {s:ByteArray} (h:nameOk s=false):s= .empty∨32<s.size∨s=T [46]∨s=T [46,46]∨s.data.toList.contains 47=true∨s.data.toList.contains 0=true:=by
 by_cases h0:s.size=0
 ·left;exact ByteArray.ext (Array.eq_empty_of_size_eq_zero h0)
 right
 by_cases h1:32<s.size
 ·exact .inl h1
 right
 by_cases h2:s=T [46]
 ·exact .inl h2
 right
 by_cases h3:s=T [46,46]
 ·exact .inl h3
 right
 by_cases h4:s.data.toList.contains 47=true
 ·exact .inl h4
 right
 false_or_by_contra
 rename_i h5
 have:nameOk s=true:=by
  have h4':s.data.toList.contains 47=false:=by cases h:s.data.toList.contains 47<;>simp_all
  have h5':s.data.toList.contains 0=false:=by cases h:s.data.toList.contains 0<;>simp_all
  simp only[nameOk,h4',h5',decide_eq_true (show 1≤s.size by omega),decide_eq_true (show s.size≤32 by omega),decide_eq_false h2,decide_eq_false h3]
  rfl
 rw[this] at h
 cases h
theorem Ziy (s:ByteArray) (i:Nat) (h:i<s.size):Zeg s i=(s.data.toList[i]'(by simpa using h)).toNat:=by
 have hl:i<s.data.toList.length:=by simpa using h
 unfold Zeg
 rw[List.getD_eq_getElem?_getD,List.getElem?_eq_getElem hl];rfl
theorem lt_step {p:Nat→Prop} {i:Nat} (h:∀j,j<i→p j) (hi:p i):∀j,j<i+1→p j:=by
 intro j hj
 rcases Nat.lt_or_ge j i with h1|h1
 ·exact h j h1
 ·have:j=i:=by omega
  subst this;exact hi
theorem ZbF (s:ByteArray) (c:UInt8):s.data.toList.contains c=true↔∃i,i<s.size∧Zeg s i=c.toNat:=by
 rw[Zmy]
 constructor
 ·rintro⟨i,h,e⟩
  have h':i<s.size:=by simpa using h
  exact⟨i,h',by rw[Ziy s i h',e]⟩
 ·rintro⟨i,h,e⟩
  rw[Ziy s i h] at e
  exact⟨i,by simpa using h,UInt8.toNat_inj.1 e⟩
end Go.Cx
set_option linter.unusedVariables false
set_option linter.unusedSimpArgs false
namespace Go.Cx
abbrev bs (b:ByteArray):List UInt8:=b.data.toList
@[simp] theorem T_bs (b:ByteArray):T (bs b)=b:=by cases b;simp[T]
@[simp] theorem T_toList (b:ByteArray):T b.data.toList=b:=T_bs b
@[simp] theorem bs_T (l:List UInt8):bs (T l)=l:=by simp[T,bs]
@[simp] theorem len_bs (b:ByteArray):(bs b).length=b.size:=by simp[bs]
def EntryR.vals (c:EntryR):List Value:=[.string c.name,.int .i64 c.ino]
abbrev entK:List TypeDesc:=[.string,.int .i64]
theorem EntryR.kinds (c:EntryR):ZbO entK c.vals:= .cons rfl (.cons rfl .nil)
theorem EntryR.vals_eq (a b:EntryR):a.vals=b.vals↔a=b:=by
 cases a;cases b;simp[EntryR.vals]
section
variable {P:Program} {t:TypeId} (ox oy:Operand)
@[simp] theorem ent_neq (ht:ZhW P t=some entK) (hg:tagg P t=some true) (a b:EntryR):abin P .neq t ox oy (.agg a.enc) (.agg b.enc)=some (.val (.bool (!decide (a=b)))):=by
 have:=(Zmi ht hg a.kinds b.kinds ox oy).2
 have e:decide (a.vals=b.vals)=decide (a=b):=by rw[decide_eq_decide];exact EntryR.vals_eq a b
 rw[e] at this;exact this
end
abbrev encN (n:NodeR):AV:= .agg n.enc
def nodeOk (n:NodeR):Bool:=decide (1≤n.ino)&&decide (1≤n.kind)&&decide (n.kind≤3)&&decide (0≤n.links)&&decide (n.links≤64)&&decide (n.text.size≤4096)&&ZhZ n.l&&(decide (n.kind≠2)||decide (n.text=T []))&&(decide (n.kind=2)||decide (n.l.length=0))
def sizeS (n:NodeR):Int:=if n.kind=2 then n.l.length else n.text.size
structure NOk (n:NodeR):Prop where
 ino:1≤n.ino
 k1:1≤n.kind
 k3:n.kind≤3
 l0:0≤n.links
 l64:n.links≤64
 size:n.text.size≤4096
 row:ZhZ n.l=true
 dir:n.kind=2→n.text=T []
 els:n.kind≠2→n.l.length=0
theorem Zq (n:NodeR):nodeOk n=true↔NOk n:=by
 simp only[nodeOk,Bool.and_eq_true,Bool.or_eq_true,decide_eq_true_eq]
 constructor
 ·rintro⟨⟨⟨⟨⟨⟨⟨⟨h1,h2⟩,h3⟩,h4⟩,h5⟩,h6⟩,h7⟩,h8⟩,h9⟩
  exact⟨h1,h2,h3,h4,h5,h6,h7,fun h=>h8.resolve_left (fun h'=>h' h),fun h=>h9.resolve_left h⟩
 ·rintro⟨h1,h2,h3,h4,h5,h6,h7,h8,h9⟩
  refine⟨⟨⟨⟨⟨⟨⟨⟨h1,h2⟩,h3⟩,h4⟩,h5⟩,h6⟩,h7⟩,?_⟩,?_⟩
  ·by_cases h:n.kind=2
   ·exact .inr (h8 h)
   ·exact .inl h
  ·by_cases h:n.kind=2
   ·exact .inl h
   ·exact .inr (h9 h)
end Go.Cx
set_option linter.unusedVariables false
set_option linter.unusedSimpArgs false
namespace Go.Cx
end Go.Cx
set_option linter.unusedVariables false
set_option linter.unusedSimpArgs false
namespace Go.Cx
def bsGo (f:Nat→Int) (key:Int) (i j:Nat):Nat:=
 if h:i<j then if f ((i+j)/2)<key then bsGo f key ((i+j)/2+1) j else bsGo f key i ((i+j)/2) else i
termination_by j -i
decreasing_by all_goals omega
theorem Zdi {f:Nat→Int} {key:Int} {i j:Nat} (h:i<j):bsGo f key i j=if f ((i+j)/2)<key then bsGo f key ((i+j)/2+1) j else bsGo f key i ((i+j)/2):=by
 rw[bsGo,dif_pos h]
theorem Zdj {f:Nat→Int} {key:Int} {i j:Nat} (h:¬i<j):bsGo f key i j=i:=by rw[bsGo,dif_neg h]
theorem ZkT {f:Nat→Int} {key:Int} {n:Nat} (hf:∀a b,a<b→b<n→f a≤f b):∀(d i j:Nat),j -i=d→i≤j→j≤n→(∀m,m<i→f m<key)→(∀m,j≤m→m<n→key≤f m)→
  i≤bsGo f key i j∧bsGo f key i j≤j∧(∀m,m<bsGo f key i j→f m<key)∧(∀m,bsGo f key i j≤m→m<n→key≤f m):=by
 intro d
 induction d using Nat.strongRecOn with
 |_ d ih=>
  intro i j hd hij hjn h1 h2
  by_cases h:i<j
  ·rw[Zdi h]
   have hm1:i≤(i+j)/2:=by omega
   have hm2:(i+j)/2<j:=by omega
   split
   ·rename_i hc
    obtain⟨q1,q2,q3,q4⟩:=ih (j -((i+j)/2+1)) (by omega) ((i+j)/2+1) j rfl (by omega) hjn (fun m hm=>by
     rcases Nat.lt_or_ge m ((i+j)/2) with hh|hh
     ·exact Int.lt_of_le_of_lt (hf m _ hh (by omega)) hc
     ·have:m=(i+j)/2:=by omega
      rw[this];exact hc) h2
    exact⟨by omega,q2,q3,q4⟩
   ·rename_i hc
    obtain⟨q1,q2,q3,q4⟩:=ih ((i+j)/2 -i) (by omega) i ((i+j)/2) rfl hm1 (by omega) h1 (fun m hm hmn=>by
     rcases Nat.lt_or_ge ((i+j)/2) m with hh|hh
     ·exact Int.le_trans (by omega) (hf _ m hh hmn)
     ·have:m=(i+j)/2:=by omega
      rw[this];omega)
    exact⟨q1,by omega,q3,q4⟩
  ·rw[Zdj h]
   have:i=j:=by omega
   subst this
   exact⟨Nat.le_refl _,Nat.le_refl _,h1,h2⟩
section
variable {α:Type} (key:α→Int)
def Zn:List α→Bool
 |[]=>true
 |[_]=>true
 |a::b::l=>decide (key a<key b)&&Zn (b::l)
def placeS (l:List α) (k:Int):Nat:=(l.takeWhile fun x=>decide (key x<k)).length
def ZW (l:List α) (k:Int):Option α:=l.find? fun x=>decide (key x=k)
def putS (l:List α) (x:α):List α:=(l.takeWhile fun y=>decide (key y<key x))++x::(l.dropWhile fun y=>decide (key y≤key x))
def outS (l:List α) (k:Int):List α:=l.filter fun x=> !decide (key x=k)
theorem Zct {a:α} {l:List α} (h:Zn key (a::l)=true):Zn key l=true∧∀x∈l,key a<key x:=by
 induction l generalizing a with
 |nil=>exact⟨rfl,by simp⟩
 |cons b l ih=>
  simp only[Zn,Bool.and_eq_true,decide_eq_true_eq] at h
  refine⟨h.2,fun x hx=> ?_⟩
  rcases List.mem_cons.1 hx with rfl|hx
  ·exact h.1
  ·have:=(ih h.2).2 x hx;omega
theorem Zac {l:List α} (h:Zn key l=true):∀(i j:Nat) (hi:i<l.length) (hj:j<l.length),i<j→key l[i]<key l[j]:=by
 induction l with
 |nil=>intro i j hi;simp at hi
 |cons a l ih=>
  intro i j hi hj hij
  obtain⟨h1,h2⟩:=Zct key h
  cases j with
  |zero=>omega
  |succ j=>
   cases i with
   |zero=>simpa using h2 _ (List.getElem_mem (by simpa using hj))
   |succ i=>simpa using ih h1 i j (by simpa using hi) (by simpa using hj) (by omega)
theorem ZkU (p:α→Bool):∀(l:List α) (h:(l.takeWhile p).length<l.length),p (l[(l.takeWhile p).length])=false
 |[],h=>by simp at h
 |a::l,h=>by
  cases hp:p a with
  |false=>simp[List.takeWhile_cons,hp]
  |true=>
   simp only[List.takeWhile_cons,hp,if_true,List.length_cons] at h⊢
   simpa using ZkU p l (by omega)
theorem Zcu (l:List α) (k:Int):placeS key l k≤l.length:=(List.takeWhile_sublist _).length_le
theorem ZeV (l:List α) (k:Int) (i:Nat) (h:i<placeS key l k) (hi:i<l.length):key l[i]<k:=by
 have h2:i<(l.takeWhile fun x=>decide (key x<k)).length:=h
 have:=List.all_eq_true.1 (List.all_takeWhile (p:=fun x=>decide (key x<k)) (l:=l)) _ (List.getElem_mem h2)
 rw[List.IsPrefix.getElem (List.takeWhile_prefix _) h2] at this
 simpa using this
theorem Zcv {l:List α} (hr:Zn key l=true) (k:Int) (i:Nat) (h:placeS key l k≤i) (hi:i<l.length):k≤key l[i]:=by
 have hp:placeS key l k<l.length:=by omega
 have h1:k≤key l[placeS key l k]:=by
  have:=ZkU (fun x=>decide (key x<k)) l hp
  rw[decide_eq_false_iff_not] at this
  exact Int.not_lt.1 this
 rcases Nat.lt_or_ge (placeS key l k) i with h2|h2
 ·have:=Zac key hr _ i hp hi h2
  omega
 ·have:i=placeS key l k:=by omega
  subst this;exact h1
theorem ZeW {l:List α} (hr:Zn key l=true) {f:Nat→Int} (hf:∀i (hi:i<l.length),f i=key l[i]) (k:Int):bsGo f k 0 l.length=placeS key l k:=by
 obtain⟨_,q2,q3,q4⟩:=ZkT (f:=f) (key:=k) (n:=l.length) (fun a b hab hb=>by
  rw[hf a (by omega),hf b hb]
  exact Int.le_of_lt (Zac key hr a b (by omega) hb hab)) l.length 0 l.length (by omega) (by omega) (Nat.le_refl _) (by omega) (by omega)
 have hle:=Zcu key l k
 rcases Nat.lt_trichotomy (bsGo f k 0 l.length) (placeS key l k) with h|h|h
 ·have h1:=ZeV key l k _ h (by omega)
  have h2:=q4 _ (Nat.le_refl _) (by omega)
  rw[hf _ (by omega)] at h2
  omega
 ·exact h
 ·have h1:=q3 _ h
  rw[hf _ (by omega)] at h1
  have h2:=Zcv key hr k _ (Nat.le_refl _) (by omega)
  omega
end
section
variable {α:Type}
def ZaS (p:α→Bool):Nat→List α→Int
 |_,[]=> -1
 |i,x::l=>if p x then(i:Int) else ZaS p (i+1) l
def idxS (p:α→Bool) (l:List α):Int:=ZaS p 0 l
theorem ZdL {p:α→Bool} {l:List α} {i:Nat} (h:i<l.length):ZaS p i (l.drop i)=if p l[i] then(i:Int) else ZaS p (i+1) (l.drop (i+1)):=by
 rw[List.drop_eq_getElem_cons h,ZaS]
theorem ZcH {p:α→Bool} {l:List α} {i:Nat} (h:¬i<l.length):ZaS p i (l.drop i)= -1:=by
 rw[List.drop_eq_nil_of_le (by omega),ZaS]
theorem idxFrom_spec {p:α→Bool}:∀(l:List α) (i:Nat),(ZaS p i l= -1∧∀x∈l,p x=false)∨∃j,∃h:j<l.length,ZaS p i l=((i+j:Nat):Int)∧p l[j]=true∧∀x∈l.take j,p x=false
 |[],i=> .inl ⟨rfl,by simp⟩
 |x::l,i=>by
  by_cases hp:p x=true
  ·exact .inr ⟨0,by simp,by simp[ZaS,hp],by simpa using hp,by simp⟩
  ·rw[Bool.not_eq_true] at hp
   rcases idxFrom_spec (p:=p) l (i+1) with⟨h1,h2⟩|⟨j,h,h1,h2,h3⟩
   ·exact .inl ⟨by simp[ZaS,hp,h1],by simpa[hp] using h2⟩
   ·exact .inr ⟨j+1,by simpa using h,by rw[ZaS,if_neg (by simp[hp]),h1];congr 1;omega,by simpa using h2,by simpa[hp] using h3⟩
theorem ZeX {p:α→Bool} {l:List α} (h:idxS p l= -1):l.filter (fun x=> !p x)=l∧∀x∈l,p x=false:=by
 rcases idxFrom_spec (p:=p) l 0 with⟨_,h2⟩|⟨j,hj,h1,_⟩
 ·exact⟨List.filter_eq_self.2 fun x hx=>by simp[h2 x hx],h2⟩
 ·unfold idxS at h;rw[h1] at h;omega
theorem ZeY {p:α→Bool} {l:List α} (h:¬idxS p l= -1):∃j,∃hj:j<l.length,idxS p l=(j:Int)∧p l[j]=true∧l.take j=(l.take (j+1)).filter (fun x=> !p x):=by
 rcases idxFrom_spec (p:=p) l 0 with⟨h1,_⟩|⟨j,hj,h1,h2,h3⟩
 ·exact absurd h1 h
 ·refine⟨j,hj,by unfold idxS;rw[h1];congr 1;omega,h2,?_⟩
  rw[List.take_succ_eq_append_getElem hj,List.filter_append,List.filter_eq_self.2 fun x hx=>by simp[h3 x hx]]
  simp[h2]
structure Zec (p:α→Bool) (l m:List α) (i j:Nat):Prop where
 len:m.length=l.length
 lt:i<j
 le:j≤l.length
 front:m.take i=(l.take j).filter (fun x=> !p x)
 back:m.drop j=l.drop j
theorem Zec.get {p:α→Bool} {l m:List α} {i j:Nat} (h:Zec p l m i j) (hj:j<l.length):m[j]'(by rw[h.len];exact hj)=l[j]:=by
 have:=congrArg (·[0]?) h.back
 simp only[List.getElem?_drop,Nat.add_zero] at this
 rw[List.getElem?_eq_getElem (by rw[h.len];exact hj),List.getElem?_eq_getElem hj] at this
 injection this
theorem Zec.skip {p:α→Bool} {l m:List α} {i j:Nat} (h:Zec p l m i j) (hj:j<l.length) (hp:p l[j]=true):Zec p l m i (j+1):=by
 refine⟨h.len,by have:=h.lt;omega,hj,?_,?_⟩
 ·rw[h.front,List.take_succ_eq_append_getElem hj,List.filter_append];simp[hp]
 ·have:=congrArg (List.drop 1) h.back
  simpa[List.drop_drop] using this
theorem Zec.keep {p:α→Bool} {l m:List α} {i j:Nat} (h:Zec p l m i j) (hj:j<l.length) (hp:p l[j]=false):Zec p l (m.set i l[j]) (i+1) (j+1):=by
 have hi:=h.lt
 refine⟨by simp[h.len],by omega,hj,?_,?_⟩
 ·rw[List.take_succ_eq_append_getElem (by simp[h.len];omega),List.take_set_of_le (Nat.le_refl _),h.front,List.take_succ_eq_append_getElem hj,List.filter_append];simp[hp]
 ·rw[List.drop_set_of_lt (by omega)]
  have:=congrArg (List.drop 1) h.back
  simpa[List.drop_drop] using this
theorem Zec.done {p:α→Bool} {l m:List α} {i j:Nat} (h:Zec p l m i j) (hj:¬j<l.length):m.take i=l.filter (fun x=> !p x)∧i=(l.filter (fun x=> !p x)).length∧i≤l.length:=by
 have h1:=h.front
 have hl:=h.le
 have hi:=h.lt
 have h2:l.take j=l:=List.take_of_length_le (by omega)
 rw[h2] at h1
 refine⟨h1,?_,by omega⟩
 rw[←h1,List.length_take,h.len];omega
theorem Zec.start {p:α→Bool} {l:List α} {j:Nat} (hj:j<l.length) (hp:p l[j]=true) (ht:l.take j=(l.take (j+1)).filter (fun x=> !p x)):Zec p l l j (j+1):=⟨rfl,by omega,hj,ht,rfl⟩
end
end Go.Cx
namespace Go.Cx
def Zbm (next:Int):Option Int→List NodeR→Bool
 |_,[]=>true
 |p,x::l=>nodeOk x&&decide (x.ino<next)&&(p.map fun q=>decide (q<x.ino)).getD true&&Zbm next (some x.ino) l
def prevIno (l:List NodeR) (i:Nat):Option Int:=if i=0 then none else(l[i -1]?).map (·.ino)
def Zdk (f:FSR):Bool:=Zbm f.next none f.l&&decide (f.l.length≤256)&&decide (1≤f.next)
theorem ZpF (next:Int) (l:List NodeR) (i:Nat) (h:i<l.length):Zbm next (prevIno l i) (l.drop i)=(nodeOk l[i]&&decide (l[i].ino<next)&&((prevIno l i).map fun q=>decide (q<l[i].ino)).getD true&&Zbm next (prevIno l (i+1)) (l.drop (i+1))):=by
 have e:prevIno l (i+1)=some l[i].ino:=by simp[prevIno,h]
 rw[List.drop_eq_getElem_cons h,Zbm,e]
theorem Zmz (next:Int) (l:List NodeR) (i:Nat) (h:l.length≤i):Zbm next (prevIno l i) (l.drop i)=true:=by
 rw[List.drop_eq_nil_of_le h,Zbm]
theorem ZcI {next:Int} {l:List NodeR} {p:Option Int} (h:Zbm next p l=true):Zn NodeR.ino l=true∧∀x∈l,nodeOk x=true∧x.ino<next:=by
 induction l generalizing p with
 |nil=>exact⟨rfl,by simp⟩
 |cons a l ih=>
  simp only[Zbm,Bool.and_eq_true,decide_eq_true_eq] at h
  obtain⟨h1,h2⟩:=ih h.2
  refine⟨?_,fun x hx=> ?_⟩
  ·cases l with
   |nil=>rfl
   |cons b l=>
    simp only[Zn,Bool.and_eq_true,decide_eq_true_eq]
    have:=h.2
    simp only[Zbm,Option.map_some,Option.getD_some,Bool.and_eq_true,decide_eq_true_eq] at this
    exact⟨this.1.2,h1⟩
  ·rcases List.mem_cons.1 hx with rfl|hx
   ·exact h.1.1
   ·exact h2 x hx
def ZcJ:Int→List NodeR→Bool
 |n,[]=>decide (n≤200)
 |n,x::l=>if n≤200 then(if 5000<x.text.size then false else ZcJ (IntKind.i64.wrap (n+x.l.length)) l) else false
def fewS (f:FSR):Bool:=ZcJ f.l.length f.l
theorem ZpG {l:List NodeR} {n:Int} {i:Nat} (h:i<l.length):ZcJ n (l.drop i)=if n≤200 then(if 5000<l[i].text.size then false else ZcJ (IntKind.i64.wrap (n+l[i].l.length)) (l.drop (i+1))) else false:=by
 rw[List.drop_eq_getElem_cons h,ZcJ]
theorem ZmA {l:List NodeR} {n:Int} {i:Nat} (h:¬i<l.length):ZcJ n (l.drop i)=decide (n≤200):=by
 rw[List.drop_eq_nil_of_le (by omega),ZcJ]
def newF:FSR:=⟨[⟨1,2,0,.empty,[]⟩],2⟩
abbrev ZbV (l:List NodeR) (i:Nat):Int:=(l.getD i .zero).ino
abbrev plc (l:List NodeR) (k:Int):Nat:=bsGo (ZbV l) k 0 l.length
def findB (l:List NodeR) (k:Int):NodeR×Bool:=if plc l k<l.length∧ZbV l (plc l k)=k then(l.getD (plc l k) .zero,true) else(.zero,false)
def outF (f:FSR) (k:Int):FSR:=⟨outS NodeR.ino f.l k,f.next⟩
def putB (f:FSR) (n:NodeR):FSR:=⟨if plc f.l n.ino<f.l.length∧ZbV f.l (plc f.l n.ino)=n.ino then f.l.set (plc f.l n.ino) n else insL f.l (plc f.l n.ino) n,max f.next (n.ino+1)⟩
theorem bsGo_le (f:Nat→Int) (k:Int):∀(d i j:Nat),j -i=d→i≤j→bsGo f k i j≤j:=by
 intro d
 induction d using Nat.strongRecOn with
 |_ d ih=>
  intro i j hd hij
  by_cases h:i<j
  ·rw[Zdi h]
   split
   ·exact ih (j -((i+j)/2+1)) (by omega) _ _ rfl (by omega)
   ·exact Nat.le_trans (ih ((i+j)/2 -i) (by omega) _ _ rfl (by omega)) (by omega)
  ·rw[Zdj h];exact hij
theorem plc_le (l:List NodeR) (k:Int):plc l k≤l.length:=bsGo_le _ _ _ _ _ rfl (Nat.zero_le _)
end Go.Cx
set_option linter.unusedVariables false
set_option linter.unusedSimpArgs false
namespace Go.Cx
abbrev MI:=List (Int×Int)
def incM (m:MI) (k:Int):MI:=setM m k (getM m k+1)
def Zcj (kids:Int→List Int):Nat→Int→MI→MI
 |0,_,m=>m
 |f+1,ino,m=>(kids ino).foldl (fun m k=>if getM m k=0 then Zcj kids f k (incM m k) else incM m k) m
def Zv (kids:Int→List Int) (f:Nat) (m:MI) (k:Int):MI:=if getM m k=0 then Zcj kids f k (incM m k) else incM m k
theorem ZdM (kids:Int→List Int) (f:Nat) (ino:Int) (m:MI):Zcj kids (f+1) ino m=(kids ino).foldl (Zv kids f) m:=rfl
structure MOk (m:MI) (c:Nat):Prop where
 pos:∀k,hasM m k=true→1≤getM m k
 le:∀k,getM m k≤c
theorem ZeZ {m:MI} {k:Int} (h:hasM m k=false):getM m k=0:=by
 rcases findIdx_spec m k with⟨_,_,h3⟩|⟨j,v,_,_,h3,_⟩
 ·exact h3
 ·rw[h] at h3;cases h3
theorem MOk.zero {m:MI} {c:Nat} (h:MOk m c) (k:Int):getM m k=0↔hasM m k=false:=by
 refine⟨fun h0=> ?_,ZeZ⟩
 cases hh:hasM m k with
 |false=>rfl
 |true=>have:=h.pos k hh;omega
theorem MOk.nonneg {m:MI} {c:Nat} (h:MOk m c) (k:Int):0≤getM m k:=by
 cases hh:hasM m k with
 |false=>rw[ZeZ hh];omega
 |true=>have:=h.pos k hh;omega
theorem MOk.inc {m:MI} {c:Nat} (h:MOk m c) (k:Int):MOk (incM m k) (c+1):=by
 have h0:=h.nonneg k
 have h1:=h.le k
 refine⟨fun q hq=> ?_,fun q=> ?_⟩
 ·unfold incM at*
  rw[ZdH]
  rw[Zog] at hq
  split
  ·omega
  ·rename_i hn
   simp only[hn,decide_false,Bool.false_or] at hq
   exact h.pos q hq
 ·unfold incM
  rw[ZdH]
  split
  ·omega
  ·have:=h.le q;omega
theorem MOk.nil:MOk [] 0:=⟨fun k h=>by simp[hasM] at h,fun k=>by simp[getM]⟩
theorem ZcK (m:MI) (k q:Int):hasM (incM m k) q=(decide (q=k)||hasM m q):=Zog _ _ _ _
def Zbc (U:List Int) (m:MI):Nat:=(U.filter fun k=> !hasM m k).length
theorem ZgY {α:Type} {p q:α→Bool} (h:∀x,q x=true→p x=true):∀l:List α,(l.filter q).length≤(l.filter p).length
 |[]=>Nat.le_refl _
 |x::l=>by
  have ih:=ZgY h l
  by_cases hq:q x=true
  ·simp[List.filter_cons,hq,h x hq,ih]
  ·by_cases hp:p x=true
   ·simp[List.filter_cons,hq,hp];omega
   ·simp[List.filter_cons,hq,hp,ih]
theorem ZkV {α:Type} {p q:α→Bool} (h:∀x,q x=true→p x=true) {a:α} (hp:p a=true) (hq:q a=false):∀l:List α,a∈l→(l.filter q).length<(l.filter p).length
 |[],ha=>by simp at ha
 |x::l,ha=>by
  rcases List.mem_cons.1 ha with rfl|ha
  ·have:=ZgY h l
   simp[List.filter_cons,hp,hq];omega
  ·have ih:=ZkV h hp hq l ha
   by_cases hqx:q x=true
   ·simp[List.filter_cons,hqx,h x hqx,ih]
   ·by_cases hpx:p x=true
    ·simp[List.filter_cons,hqx,hpx];omega
    ·simp[List.filter_cons,hqx,hpx,ih]
theorem ZbP {U:List Int} {m m':MI} (h:∀k,hasM m k=true→hasM m' k=true):Zbc U m'≤Zbc U m:=
 ZgY (fun x hx=>by
  cases hm:hasM m x with
  |false=>rfl
  |true=>rw[h x hm] at hx;exact hx) U
theorem ZdN {U:List Int} {m:MI} {k:Int} (hk:k∈U) (h0:hasM m k=false):Zbc U (incM m k)+1≤Zbc U m:=by
 refine ZkV (fun x hx=> ?_) (a:=k) (by simp[h0]) (by simp[ZcK]) U hk
 cases hm:hasM m x with
 |false=>rfl
 |true=>rw[ZcK,hm] at hx;simp at hx
theorem Zck (m:MI) (k:Int):∀q,hasM m q=true→hasM (incM m k) q=true:=fun q h=>by rw[ZcK,h];simp
inductive Reach (kids:Int→List Int) (top:Int):Int→Prop
 |one {k:Int}:k∈kids top→Reach kids top k
 |step {j k:Int}:Reach kids top j→k∈kids j→Reach kids top k
theorem Reach.trans {kids:Int→List Int} {a b c:Int} (h:Reach kids a b) (k:Reach kids b c):Reach kids a c:=by
 induction k with
 |one hk=>exact .step h hk
 |step _ hk ih=>exact .step ih hk
section
variable {kids:Int→List Int} {U:List Int} (hU:∀i,∀k∈kids i,k∈U) (hW:∀i,(kids i).length≤256)
include hU hW
theorem ZbD (f:Nat):∀(ino:Int) (m:MI) (c:Nat),MOk m c→(∀k,hasM m k=true→hasM (Zcj kids f ino m) k=true)∧∃c',MOk (Zcj kids f ino m) c'∧c'+Zbc U (Zcj kids f ino m)*256≤c+(Zbc U m+1)*256:=by
 induction f with
 |zero=>intro ino m c h;exact⟨fun k h=>h,c,h,by simp only[Zcj];omega⟩
 |succ f ih=>
  intro ino m c h
  rw[ZdM]
  have key:∀(l:List Int) (m:MI) (c:Nat),(∀k∈l,k∈U)→MOk m c→(∀k,hasM m k=true→hasM (l.foldl (Zv kids f) m) k=true)∧∃c',MOk (l.foldl (Zv kids f) m) c'∧c'+Zbc U (l.foldl (Zv kids f) m)*256≤c+Zbc U m*256+l.length:=by
   intro l
   induction l with
   |nil=>intro m c _ h;exact⟨fun k h=>h,c,h,by simp⟩
   |cons k l ihl=>
    intro m c hl h
    have hk:=hl k (by simp)
    have hl':∀k∈l,k∈U:=fun q hq=>hl q (by simp[hq])
    simp only[List.foldl_cons,List.length_cons]
    by_cases h0:getM m k=0
    ·have hn:=(h.zero k).1 h0
     obtain⟨s1,c1,o1,b1⟩:=ih k (incM m k) (c+1) (h.inc k)
     have hu:=ZdN hk hn
     have e:Zv kids f m k=Zcj kids f k (incM m k):=by rw[Zv,if_pos h0]
     rw[e]
     obtain⟨s2,c2,o2,b2⟩:=ihl _ c1 hl' o1
     exact⟨fun q hq=>s2 q (s1 q (Zck m k q hq)),c2,o2,by omega⟩
    ·have e:Zv kids f m k=incM m k:=by rw[Zv,if_neg h0]
     rw[e]
     obtain⟨s2,c2,o2,b2⟩:=ihl _ (c+1) hl' (h.inc k)
     have hu:=ZbP (U:=U) (Zck m k)
     exact⟨fun q hq=>s2 q (Zck m k q hq),c2,o2,by omega⟩
  obtain⟨s,c',o,b⟩:=key (kids ino) m c (hU ino) h
  have:=hW ino
  exact⟨s,c',o,by omega⟩
theorem ZmB (f:Nat) {m:MI} {c:Nat} {k:Int} (hk:k∈U) (h:MOk m c):(∀q,hasM m q=true→hasM (Zv kids f m k) q=true)∧∃c',MOk (Zv kids f m k) c'∧c'+Zbc U (Zv kids f m k)*256≤c+Zbc U m*256+1:=by
 by_cases h0:getM m k=0
 ·have hn:=(h.zero k).1 h0
  obtain⟨s1,c1,o1,b1⟩:=ZbD hU hW f k (incM m k) (c+1) (h.inc k)
  have hu:=ZdN hk hn
  have e:Zv kids f m k=Zcj kids f k (incM m k):=by rw[Zv,if_pos h0]
  rw[e]
  exact⟨fun q hq=>s1 q (Zck m k q hq),c1,o1,by omega⟩
 ·have e:Zv kids f m k=incM m k:=by rw[Zv,if_neg h0]
  rw[e]
  have hu:=ZbP (U:=U) (Zck m k)
  exact⟨Zck m k,c+1,h.inc k,by omega⟩
omit hU hW in
theorem look_sound (f:Nat):∀(ino:Int) (m:MI) (q:Int),hasM (Zcj kids f ino m) q=true→hasM m q=true∨Reach kids ino q:=by
 induction f with
 |zero=>intro ino m q h;exact .inl h
 |succ f ih=>
  intro ino m q h
  rw[ZdM] at h
  have key:∀(l:List Int) (m:MI),(∀k∈l,k∈kids ino)→hasM (l.foldl (Zv kids f) m) q=true→hasM m q=true∨Reach kids ino q:=by
   intro l
   induction l with
   |nil=>intro m _ h;exact .inl h
   |cons k l ihl=>
    intro m hl h
    have hk:=hl k (by simp)
    rcases ihl _ (fun q hq=>hl q (by simp[hq])) h with h1|h1
    ·unfold Zv at h1
     have inc:hasM (incM m k) q=true→hasM m q=true∨Reach kids ino q:=fun h2=>by
      rw[ZcK] at h2
      simp only[Bool.or_eq_true,decide_eq_true_eq] at h2
      rcases h2 with rfl|h2
      ·exact .inr (.one hk)
      ·exact .inl h2
     split at h1
     ·rcases ih k _ q h1 with h2|h2
      ·exact inc h2
      ·exact .inr (Reach.trans (.one hk) h2)
     ·exact inc h1
    ·exact .inr h1
  exact key _ m (fun k hk=>hk) h
theorem Zsq (f:Nat):∀(ino:Int) (m:MI) (c:Nat),MOk m c→Zbc U m<f→
  (∀k∈kids ino,hasM (Zcj kids f ino m) k=true)∧∀q,hasM (Zcj kids f ino m) q=true→hasM m q=false→∀k∈kids q,hasM (Zcj kids f ino m) k=true:=by
 induction f with
 |zero=>intro ino m c _ h;omega
 |succ f ih=>
  intro ino m c h hf
  rw[ZdM]
  have key:∀(l:List Int) (m:MI) (c:Nat),(∀k∈l,k∈U)→MOk m c→Zbc U m≤f→
    (∀q,hasM m q=true→hasM (l.foldl (Zv kids f) m) q=true)∧(∀k∈l,hasM (l.foldl (Zv kids f) m) k=true)∧∀q,hasM (l.foldl (Zv kids f) m) q=true→hasM m q=false→∀k∈kids q,hasM (l.foldl (Zv kids f) m) k=true:=by
   intro l
   induction l with
   |nil=>intro m c _ _ _;exact⟨fun q h=>h,by simp,fun q h1 h2=>by rw[List.foldl_nil,h2] at h1;cases h1⟩
   |cons k l ihl=>
    intro m c hl h hu
    have hk:=hl k (by simp)
    have hl':∀k∈l,k∈U:=fun q hq=>hl q (by simp[hq])
    simp only[List.foldl_cons]
    by_cases h0:getM m k=0
    ·have hn:=(h.zero k).1 h0
     have hui:=ZdN hk hn
     obtain⟨s1,c1,o1,_⟩:=ZbD hU hW f k (incM m k) (c+1) (h.inc k)
     obtain⟨f1,f2⟩:=ih k (incM m k) (c+1) (h.inc k) (by omega)
     have e:Zv kids f m k=Zcj kids f k (incM m k):=by rw[Zv,if_pos h0]
     rw[e]
     have hum:=ZbP (U:=U) s1
     obtain⟨g1,g2,g3⟩:=ihl _ c1 hl' o1 (by omega)
     have hsk:hasM (incM m k) k=true:=by rw[ZcK];simp
     refine⟨fun q hq=>g1 q (s1 q (Zck m k q hq)),fun q hq=> ?_,fun q hq hm x hx=> ?_⟩
     ·rcases List.mem_cons.1 hq with rfl|hq
      ·exact g1 _ (s1 _ hsk)
      ·exact g2 q hq
     ·cases hl1:hasM (Zcj kids f k (incM m k)) q with
      |false=>exact g3 q hq hl1 x hx
      |true=>
       by_cases hqk:q=k
       ·subst hqk;exact g1 x (f1 x hx)
       ·exact g1 x (f2 q hl1 (by rw[ZcK,hm];simp[hqk]) x hx)
    ·have e:Zv kids f m k=incM m k:=by rw[Zv,if_neg h0]
     rw[e]
     have hum:=ZbP (U:=U) (Zck m k)
     obtain⟨g1,g2,g3⟩:=ihl _ (c+1) hl' (h.inc k) (by omega)
     have hkm:hasM m k=true:=by
      cases hh:hasM m k with
      |true=>rfl
      |false=>exact absurd (ZeZ hh) h0
     refine⟨fun q hq=>g1 q (Zck m k q hq),fun q hq=> ?_,fun q hq hm x hx=> ?_⟩
     ·rcases List.mem_cons.1 hq with rfl|hq
      ·exact g1 _ (Zck m _ _ hkm)
      ·exact g2 q hq
     ·have hqk:¬q=k:=fun e=>by rw[e,hkm] at hm;cases hm
      exact g3 q hq (by rw[ZcK,hm];simp[hqk]) x hx
  obtain⟨_,g2,g3⟩:=key (kids ino) m c (hU ino) h (by omega)
  exact⟨g2,g3⟩
theorem ZpH (top q:Int) (f:Nat) (hf:U.length<f):0<getM (Zcj kids f top []) q↔Reach kids top q:=by
 have hu:Zbc U []<f:=Nat.lt_of_le_of_lt (List.length_filter_le _ _) hf
 obtain⟨f1,f2⟩:=Zsq hU hW f top [] 0 .nil hu
 obtain⟨_,c',o,_⟩:=ZbD hU hW f top [] 0 .nil
 have hp:0<getM (Zcj kids f top []) q↔hasM (Zcj kids f top []) q=true:=by
  constructor
  ·intro h
   cases hh:hasM (Zcj kids f top []) q with
   |true=>rfl
   |false=>rw[ZeZ hh] at h;omega
  ·intro h;have:=o.pos q h;omega
 rw[hp]
 constructor
 ·intro h
  rcases look_sound f top [] q h with h1|h1
  ·simp[hasM] at h1
  ·exact h1
 ·intro h
  clear hp
  induction h with
  |one hk=>exact f1 _ hk
  |step _ hk ih=>exact f2 _ ih (by simp[hasM]) _ hk
end
def Zs (l:List NodeR) (j:Int):List Int:=(findB l j).1.l.map (·.ino)
def Zl (l:List NodeR):List Int:=l.flatMap fun n=>n.l.map (·.ino)
theorem findB_mem (l:List NodeR) (j:Int):(findB l j).1∈l∨(findB l j).1= .zero:=by
 unfold findB
 split
 ·rename_i h
  left
  simp[List.getD_eq_getElem?_getD,h.1]
 ·exact .inr rfl
theorem ZaD (l:List NodeR):∀i,∀k∈Zs l i,k∈Zl l:=by
 intro i k hk
 rcases findB_mem l i with h|h
 ·exact List.mem_flatMap.2 ⟨_,h,hk⟩
 ·unfold Zs at hk;rw[h] at hk;simp[NodeR.zero] at hk
theorem Zer {l:List NodeR} (hE:∀n∈l,n.l.length≤256):∀i,(Zs l i).length≤256:=by
 intro i
 rcases findB_mem l i with h|h
 ·simpa[Zs] using hE _ h
 ·unfold Zs;rw[h];simp[NodeR.zero]
theorem ZbH {l:List NodeR} (hE:∀n∈l,n.l.length≤256):(Zl l).length≤l.length*256:=by
 induction l with
 |nil=>simp[Zl]
 |cons n l ih=>
  have:=ih fun x hx=>hE x (by simp[hx])
  have h1:=hE n (by simp)
  simp only[Zl,List.flatMap_cons,List.length_append,List.length_map,List.length_cons] at*
  omega
def Zdl (l:List NodeR) (top:Int):MI:=Zcj (Zs l) ((Zl l).length+1) top []
def Zeh (l:List EntryR) (m:MI):MI:=l.foldl (fun m x=>setM m x.ino (IntKind.i64.wrap (getM m x.ino+1))) m
def countsS (l:List NodeR) (m:MI):MI:=l.foldl (fun m n=>Zeh n.l m) m
def ZpI (names below:MI) (n:NodeR):Bool:=decide (n.links=getM names n.ino)&& !(decide (1<n.ino)&&(decide (n.links<1)||decide (n.kind=2)&&(decide (n.links≠1)||decide (getM below n.ino=0))))
def Zia:List NodeR→Bool
 |[]=>false
 |r::_=>decide (r.ino=1)&&decide (r.kind=2)&&decide (r.links=0)
@[simp] theorem headF_nil:Zia []=false:=rfl
@[simp] theorem ZfA (r:NodeR) (l:List NodeR):Zia (r::l)=(decide (r.ino=1)&&decide (r.kind=2)&&decide (r.links=0)):=rfl
def rightF (f:FSR):Bool:=Zdk f&&Zia f.l&&(countsS f.l []).all (fun p=>(findB f.l p.1).2)&&f.l.all (ZpI (countsS f.l []) (Zdl f.l 1))
theorem Zsr {f:FSR} (h:Zdk f=true):f.l.length≤256∧(∀n∈f.l,n.l.length≤256)∧∀n∈f.l,nodeOk n=true:=by
 simp only[Zdk,Bool.and_eq_true,decide_eq_true_eq] at h
 obtain⟨_,h2⟩:=ZcI h.1.1
 refine⟨h.1.2,fun n hn=> ?_,fun n hn=>(h2 n hn).1⟩
 have:=(h2 n hn).1
 simp only[nodeOk,ZhZ,Bool.and_eq_true,decide_eq_true_eq] at this
 exact this.1.1.2.1
end Go.Cx
set_option linter.unusedVariables false
set_option linter.unusedSimpArgs false
namespace Go.Cx
theorem ZkW {l:List NodeR} (h:Zn NodeR.ino l=true) (k:Int):plc l k=placeS NodeR.ino l k:=ZeW NodeR.ino h (fun i hi=>by simp[ZbV,List.getD_eq_getElem?_getD,hi]) k
theorem findB_of {l:List NodeR} (h:Zn NodeR.ino l=true) {n:NodeR} (hn:n∈l):findB l n.ino=(n,true):=by
 obtain⟨i,hi,rfl⟩:=List.getElem_of_mem hn
 have hp:plc l l[i].ino=i:=by
  rw[ZkW h]
  have h1:placeS NodeR.ino l l[i].ino≤i:=by
   rcases Nat.lt_or_ge i (placeS NodeR.ino l l[i].ino) with h2|h2
   ·have:=ZeV NodeR.ino l l[i].ino i h2 hi;omega
   ·exact h2
  rcases Nat.lt_or_ge (placeS NodeR.ino l l[i].ino) i with h2|h2
  ·have h3:=Zcv NodeR.ino h l[i].ino _ (Nat.le_refl _) (by omega)
   have h4:=Zac NodeR.ino h _ _ (by omega) hi h2
   omega
  ·omega
 unfold findB
 rw[hp]
 simp[ZbV,List.getD_eq_getElem?_getD,hi]
theorem Zk {l:List NodeR} {k:Int} (h:(findB l k).2=true):(findB l k).1∈l∧(findB l k).1.ino=k:=by
 unfold findB at*
 split
 ·rename_i hc
  refine⟨by simp[List.getD_eq_getElem?_getD,hc.1],hc.2⟩
 ·rename_i hc;rw[if_neg hc] at h;cases h
theorem Zav {l:List NodeR} {k:Int} (h:(findB l k).2=false):(findB l k).1= .zero:=by
 unfold findB at*
 split
 ·rename_i hc;rw[if_pos hc] at h;cases h
 ·rfl
theorem ZbI {l:List NodeR} {k:Int} (h:∀n∈l,n.ino≠k):findB l k=(.zero,false):=by
 cases hf:(findB l k).2 with
 |true=>exact absurd (Zk hf).2 (h _ (Zk hf).1)
 |false=>exact Prod.ext (Zav hf) hf
theorem ZgZ {l:List NodeR} {j k:Int} (h:k∈Zs l j):∃n∈l,n.ino=j∧k∈n.l.map (·.ino):=by
 cases hf:(findB l j).2 with
 |true=>exact⟨_,(Zk hf).1,(Zk hf).2,h⟩
 |false=>unfold Zs at h;rw[Zav hf] at h;simp[NodeR.zero] at h
theorem ZkX:∀(es:List EntryR) (m:MI) (c:Nat),MOk m c→c+es.length≤1099511627776→MOk (Zeh es m) (c+es.length)∧∀k,getM (Zeh es m) k=getM m k+(es.map (·.ino)).count k
 |[],m,c,h,_=>⟨by simpa[Zeh] using h,by simp[Zeh]⟩
 |x::es,m,c,h,hc=>by
  simp only[List.length_cons] at hc
  have h0:=h.nonneg x.ino
  have h1:=h.le x.ino
  have hw:IntKind.i64.wrap (getM m x.ino+1)=getM m x.ino+1:=by rw[IntKind.wrap_i64];omega
  have e:Zeh (x::es) m=Zeh es (incM m x.ino):=by
   show Zeh es (setM m x.ino (IntKind.i64.wrap (getM m x.ino+1)))=_
   rw[hw];rfl
  rw[e]
  obtain⟨g1,g2⟩:=ZkX es (incM m x.ino) (c+1) (h.inc _) (by omega)
  refine⟨by rw[List.length_cons,Nat.add_comm es.length,←Nat.add_assoc];exact g1,fun k=> ?_⟩
  rw[g2,incM,ZdH,List.map_cons,List.count_cons]
  by_cases hk:k=x.ino
  ·subst hk;simp;omega
  ·have:¬x.ino=k:=fun e=>hk e.symm
   simp[hk,this]
theorem ZfB:∀(l:List NodeR) (m:MI) (c:Nat),MOk m c→c+(Zl l).length≤1099511627776→MOk (countsS l m) (c+(Zl l).length)∧∀k,getM (countsS l m) k=getM m k+(Zl l).count k
 |[],m,c,h,_=>⟨by simpa[countsS,Zl] using h,by simp[countsS,Zl]⟩
 |n::l,m,c,h,hc=>by
  have ha:Zl (n::l)=n.l.map (·.ino)++Zl l:=rfl
  rw[ha] at hc⊢
  simp only[List.length_append,List.length_map] at hc⊢
  obtain⟨g1,g2⟩:=ZkX n.l m c h (by omega)
  obtain⟨g3,g4⟩:=ZfB l (Zeh n.l m) (c+n.l.length) g1 (by omega)
  refine⟨by rw[←Nat.add_assoc];exact g3,fun k=> ?_⟩
  have:=g4 k
  have e:countsS (n::l) m=countsS l (Zeh n.l m):=rfl
  rw[e,this,g2,List.count_append];omega
theorem Zoi {l:List NodeR} (hl:l.length≤256) (hE:∀n∈l,n.l.length≤256) (k:Int):getM (countsS l []) k=((Zl l).count k:Nat):=by
 have:=ZbH hE
 rw[(ZfB l [] 0 .nil (by omega)).2 k];simp[getM]
theorem ZjK {l:List NodeR} (hE:∀n∈l,n.l.length≤256) (top q:Int):0<getM (Zdl l top) q↔Reach (Zs l) top q:=
 ZpH (ZaD l) (Zer hE) top q _ (Nat.lt_succ_self _)
theorem Zss {l:List NodeR} {top q:Int} (h:Reach (Zs l) top q):q∈Zl l:=by
 cases h with
 |one h=>exact ZaD l _ _ h
 |step _ h=>exact ZaD l _ _ h
theorem Ziz {kids:Int→List Int} {a b:Int} (h:Reach kids a b):∃j,(j=a∨Reach kids a j)∧b∈kids j:=by
 cases h with
 |one h=>exact⟨a,.inl rfl,h⟩
 |step h1 h2=>exact⟨_,.inr h1,h2⟩
theorem ZmC {kids:Int→List Int} {a b:Int} (h:Reach kids a b):kids a≠[]:=by
 induction h with
 |one h=>intro e;rw[e] at h;cases h
 |step _ _ ih=>exact ih
theorem Zoj {α:Type} (f:α→List Int) {k:Int}:∀(l:List α) (a b:α),a∈l→b∈l→k∈f a→k∈f b→(l.flatMap f).count k≤1→a=b
 |x::l,a,b,ha,hb,h1,h2,hc=>by
  rw[List.flatMap_cons,List.count_append] at hc
  rcases List.mem_cons.1 ha with rfl|ha'<;>rcases List.mem_cons.1 hb with rfl|hb'
  ·rfl
  ·have e1:=List.count_pos_iff.2 h1
   have e2:=List.count_pos_iff.2 (List.mem_flatMap.2 ⟨b,hb',h2⟩)
   omega
  ·have e1:=List.count_pos_iff.2 h2
   have e2:=List.count_pos_iff.2 (List.mem_flatMap.2 ⟨a,ha',h1⟩)
   omega
  ·exact Zoj f l a b ha' hb' h1 h2 (by omega)
structure ZcW (f:FSR):Prop where
 rise:Zn NodeR.ino f.l=true
 ok:∀n∈f.l,nodeOk n=true
 len:f.l.length≤256
 ent:∀n∈f.l,n.l.length≤256
 root:∃r∈f.l,r.ino=1∧r.kind=2∧r.links=0
 here:∀k∈Zl f.l,∃n∈f.l,n.ino=k
 names:∀n∈f.l,n.links=((Zl f.l).count n.ino:Nat)
 file:∀n∈f.l,1<n.ino→1≤n.links
 dir:∀n∈f.l,1<n.ino→n.kind=2→n.links=1∧Reach (Zs f.l) 1 n.ino
theorem Zvh {f:FSR} (h:rightF f=true):ZcW f:=by
 simp only[rightF,Bool.and_eq_true] at h
 obtain⟨⟨⟨h1,h2⟩,h3⟩,h4⟩:=h
 obtain⟨hl,hE,hok⟩:=Zsr h1
 have h1':=h1
 simp only[Zdk,Bool.and_eq_true,decide_eq_true_eq] at h1'
 obtain⟨hr,_⟩:=ZcI h1'.1.1
 have hnm:=fun k=>Zoi hl hE k
 have h4:=List.all_eq_true.1 h4
 have h3:=List.all_eq_true.1 h3
 refine⟨hr,hok,hl,hE,?_,fun k hk=> ?_,fun n hn=> ?_,fun n hn hi=> ?_,fun n hn hi hk=> ?_⟩
 ·cases hf:f.l with
  |nil=>rw[hf] at h2;simp at h2
  |cons r l=>
   rw[hf] at h2
   simp only[ZfA,Bool.and_eq_true,decide_eq_true_eq] at h2
   exact⟨r,by simp,h2.1.1,h2.1.2,h2.2⟩
 ·have hp:0<getM (countsS f.l []) k:=by rw[hnm];have:=List.count_pos_iff.2 hk;omega
  rcases findIdx_spec (countsS f.l []) k with⟨_,_,h0⟩|⟨j,v,_,hj,_,_⟩
  ·omega
  ·have:=h3 _ (List.mem_of_getElem? hj)
   exact⟨_,(Zk this).1,(Zk this).2⟩
 ·have:=h4 n hn
  simp only[ZpI,Bool.and_eq_true,decide_eq_true_eq] at this
  rw[this.1,hnm]
 ·have:=h4 n hn
  simp only[ZpI,Bool.and_eq_true,decide_eq_true_eq,Bool.not_eq_true',Bool.and_eq_false_iff,Bool.or_eq_false_iff,decide_eq_false_iff_not] at this
  omega
 ·have:=h4 n hn
  simp only[ZpI,Bool.and_eq_true,decide_eq_true_eq,Bool.not_eq_true',Bool.and_eq_false_iff,Bool.or_eq_false_iff,decide_eq_false_iff_not] at this
  obtain⟨e1,e2⟩:=this
  rcases e2 with e2|⟨e2,e3⟩
  ·exact absurd hi e2
  rcases e3 with e3|⟨e3,e4⟩
  ·exact absurd hk e3
  refine⟨by omega,(ZjK hE 1 n.ino).1 ?_⟩
  obtain⟨_,c',o,_⟩:=ZbD (ZaD f.l) (Zer hE) ((Zl f.l).length+1) 1 [] 0 .nil
  have:=o.nonneg n.ino
  unfold Zdl at e4⊢
  omega
namespace ZcW
variable {f:FSR} (h:ZcW f)
include h
theorem ino_pos {n:NodeR} (hn:n∈f.l):1≤n.ino:=by
 have:=h.ok n hn
 simp only[nodeOk,Bool.and_eq_true,decide_eq_true_eq] at this
 exact this.1.1.1.1.1.1.1.1
theorem leaf {n:NodeR} (hn:n∈f.l) (hk:n.kind≠2):n.l=[]:=by
 have:=h.ok n hn
 simp only[nodeOk,Bool.and_eq_true,Bool.or_eq_true,decide_eq_true_eq] at this
 exact List.eq_nil_of_length_eq_zero (this.2.resolve_left hk)
theorem no_root:1∉Zl f.l:=by
 intro hm
 obtain⟨r,hr,h1,_,h3⟩:=h.root
 have:=h.names r hr
 rw[h1,h3] at this
 have:=List.count_pos_iff.2 hm
 omega
theorem no_cycle_root (q:Int):¬Reach (Zs f.l) q 1:=fun hq=>h.no_root (Zss hq)
theorem acyclic {q:Int} (hq:Reach (Zs f.l) 1 q):¬Reach (Zs f.l) q q:=by
 have uniq:∀{j j' q:Int},q∈Zs f.l j→q∈Zs f.l j'→Reach (Zs f.l) q q→j=j':=by
  intro j j' q h1 h2 hc
  obtain⟨k,hk⟩:=List.exists_mem_of_ne_nil _ (ZmC hc)
  obtain⟨n,hn,hni,hnk⟩:=ZgZ hk
  have hd:n.kind=2:=by
   by_cases hd:n.kind=2
   ·exact hd
   ·rw[h.leaf hn hd] at hnk;simp at hnk
  have hne:n.ino≠1:=fun e=>h.no_cycle_root q (by rw[hni] at e;subst e;exact hc)
  have hpos:=h.ino_pos hn
  have hl:=(h.dir n hn (by omega) hd).1
  have hc1:=h.names n hn
  rw[hni] at hc1
  obtain⟨a,ha,ha1,ha2⟩:=ZgZ h1
  obtain⟨b,hb,hb1,hb2⟩:=ZgZ h2
  have:a=b:=Zoj (fun n:NodeR=>n.l.map (·.ino)) f.l a b ha hb ha2 hb2 (by
   have:(Zl f.l).count q≤1:=by omega
   exact this)
  rw[←ha1,←hb1,this]
 induction hq with
 |one hk=>
  intro hc
  obtain⟨j,hj,hkj⟩:=Ziz hc
  have e:=uniq hkj hk hc
  subst e
  rcases hj with rfl|hj
  ·exact h.no_cycle_root _ hc
  ·exact h.no_cycle_root _ hj
 |step h1 hk ih=>
  intro hc
  obtain⟨j,hj,hkj⟩:=Ziz hc
  have e:=uniq hkj hk hc
  subst e
  rcases hj with rfl|hj
  ·exact ih hc
  ·exact ih (Reach.trans (.one hk) hj)
end ZcW
end Go.Cx
set_option linter.unusedVariables false
set_option linter.unusedSimpArgs false
namespace Go.Cx
section
variable {α:Type} (key:α→Int)
theorem ZH (l:List α):Zn key l=true↔l.Pairwise (fun a b=>key a<key b):=by
 induction l with
 |nil=>simp[Zn]
 |cons a l ih=>
  constructor
  ·intro h
   obtain⟨h1,h2⟩:=Zct key h
   exact List.pairwise_cons.2 ⟨h2,ih.1 h1⟩
  ·intro h
   obtain⟨h1,h2⟩:=List.pairwise_cons.1 h
   cases l with
   |nil=>rfl
   |cons b l=>
    simp only[Zn,Bool.and_eq_true,decide_eq_true_eq]
    exact⟨h1 b (by simp),ih.2 h2⟩
theorem Zan {l:List α} (h:Zn key l=true) (p:α→Bool):Zn key (l.filter p)=true:=
 (ZH key _).2 (((ZH key l).1 h).filter p)
theorem Zfa {l:List α} (h:Zn key l=true) {a b:α} (ha:a∈l) (hb:b∈l) (e:key a=key b):a=b:=by
 obtain⟨i,hi,rfl⟩:=List.getElem_of_mem ha
 obtain⟨j,hj,rfl⟩:=List.getElem_of_mem hb
 rcases Nat.lt_trichotomy i j with h1|h1|h1
 ·have:=Zac key h i j hi hj h1;omega
 ·subst h1;rfl
 ·have:=Zac key h j i hj hi h1;omega
theorem ZkY {l:List α} (h:Zn key l=true) {i:Nat} {x:α} (hi:i<l.length) (hx:key x=key l[i]):Zn key (l.set i x)=true∧∀y,y∈l.set i x↔y=x∨(y∈l∧key y≠key x):=by
 have hp:=(ZH key l).1 h
 have hget:∀j (hj:j<(l.set i x).length),key (l.set i x)[j]=key (l[j]'(by simpa using hj)):=fun j hj=>by
  rw[List.getElem_set];split
  ·rename_i e;subst e;exact hx
  ·rfl
 refine⟨(ZH key _).2 (List.pairwise_iff_getElem.2 fun a b ha hb hab=> ?_),fun y=>⟨fun hy=> ?_,fun hy=> ?_⟩⟩
 ·rw[hget a ha,hget b hb]
  exact Zac key h a b (by simpa using ha) (by simpa using hb) hab
 ·obtain⟨j,hj,rfl⟩:=List.getElem_of_mem hy
  by_cases e:i=j
  ·subst e;left;simp
  ·right
   rw[List.getElem_set_ne e]
   refine⟨List.getElem_mem _,fun hk=>e ?_⟩
   have hj':j<l.length:=by simpa using hj
   rcases Nat.lt_trichotomy i j with h1|h1|h1
   ·have:=Zac key h i j hi hj' h1;omega
   ·exact h1
   ·have:=Zac key h j i hj' hi h1;omega
 ·rcases hy with rfl|⟨hy,hk⟩
  ·exact List.mem_of_getElem? (List.getElem?_set_self hi)
  ·obtain⟨j,hj,rfl⟩:=List.getElem_of_mem hy
   have hij:i≠j:=fun e=>hk (by subst e;exact hx.symm)
   exact List.mem_of_getElem? (by rw[List.getElem?_set_ne hij];exact List.getElem?_eq_getElem hj)
theorem ZkZ {l:List α} (h:Zn key l=true) (x:α) (hx:∀y∈l,key y≠key x):Zn key (insL l (placeS key l (key x)) x)=true:=by
 have hp:=(ZH key l).1 h
 have hle:=Zcu key l (key x)
 refine(ZH key _).2 (List.pairwise_append.2 ⟨hp.sublist (List.take_sublist _ _),List.pairwise_cons.2 ⟨fun y hy=> ?_,hp.sublist (List.drop_sublist _ _)⟩,fun a ha b hb=> ?_⟩)
 ·obtain⟨j,hj,rfl⟩:=List.getElem_of_mem hy
  rw[List.length_drop] at hj
  rw[List.getElem_drop]
  have h1:=Zcv key h (key x) (placeS key l (key x)+j) (by omega) (by omega)
  have h2:=hx _ (List.getElem_mem (show placeS key l (key x)+j<l.length by omega))
  omega
 ·obtain⟨i,hi,rfl⟩:=List.getElem_of_mem ha
  rw[List.length_take] at hi
  rw[List.getElem_take]
  have h1:=ZeV key l (key x) i (by omega) (by omega)
  rcases List.mem_cons.1 hb with rfl|hb
  ·exact h1
  ·obtain⟨j,hj,rfl⟩:=List.getElem_of_mem hb
   rw[List.length_drop] at hj
   rw[List.getElem_drop]
   have h2:=Zcv key h (key x) (placeS key l (key x)+j) (by omega) (by omega)
   omega
theorem ZjL (l:List α) (i:Nat) (x y:α):y∈insL l i x↔y=x∨y∈l:=by
 unfold insL
 rw[List.mem_append,List.mem_cons]
 conv=>rhs;rw[←List.take_append_drop i l,List.mem_append]
 constructor
 ·rintro(h|h|h)
  ·exact .inr (.inl h)
  ·exact .inl h
  ·exact .inr (.inr h)
 ·rintro(h|h|h)
  ·exact .inr (.inl h)
  ·exact .inl h
  ·exact .inr (.inr h)
end
theorem ZiA {next:Int}:∀{l:List NodeR} {p:Option Int},Zn NodeR.ino l=true→(∀x∈l,nodeOk x=true∧x.ino<next)→(∀q x,p=some q→x∈l→q<x.ino)→Zbm next p l=true
 |[],p,_,_,_=>rfl
 |x::l,p,hr,ha,hp=>by
  obtain⟨h1,h2⟩:=Zct NodeR.ino hr
  obtain⟨a1,a2⟩:=ha x (by simp)
  simp only[Zbm,Bool.and_eq_true,decide_eq_true_eq]
  refine⟨⟨⟨a1,a2⟩,?_⟩,ZiA h1 (fun y hy=>ha y (by simp[hy])) (fun q y e hy=>by injection e with e;subst e;exact h2 y hy)⟩
  cases p with
  |none=>rfl
  |some q=>simpa using hp q x rfl (by simp)
structure Zg (f:FSR):Prop where
 rise:Zn NodeR.ino f.l=true
 ok:∀n∈f.l,nodeOk n=true
 lt:∀n∈f.l,n.ino<f.next
 len:f.l.length≤256
 next:1≤f.next
theorem Zgl (f:FSR):Zdk f=true↔Zg f:=by
 constructor
 ·intro h
  simp only[Zdk,Bool.and_eq_true,decide_eq_true_eq] at h
  obtain⟨h1,h2⟩:=ZcI h.1.1
  exact⟨h1,fun n hn=>(h2 n hn).1,fun n hn=>(h2 n hn).2,h.1.2,h.2⟩
 ·intro h
  simp only[Zdk,Bool.and_eq_true,decide_eq_true_eq]
  exact⟨⟨ZiA h.rise (fun n hn=>⟨h.ok n hn,h.lt n hn⟩) (fun q x e=>by cases e),h.len⟩,h.next⟩
theorem Zdm {l:List NodeR} (h:Zn NodeR.ino l=true) (k:Int) (n:NodeR):findB l k=(n,true)↔n∈l∧n.ino=k:=by
 constructor
 ·intro e
  have h2:(findB l k).2=true:=by rw[e]
  have h1:(findB l k).1=n:=by rw[e]
  exact⟨h1▸(Zk h2).1,h1▸(Zk h2).2⟩
 ·rintro⟨hn,rfl⟩;exact findB_of h hn
theorem findB_cases (l:List NodeR) (k:Int):(∃n∈l,n.ino=k∧findB l k=(n,true))∨findB l k=(.zero,false):=by
 cases hf:(findB l k).2 with
 |true=>exact .inl ⟨_,(Zk hf).1,(Zk hf).2,Prod.ext rfl hf⟩
 |false=>exact .inr (Prod.ext (Zav hf) hf)
theorem ZfC {l l':List NodeR} (h:Zn NodeR.ino l=true) (h':Zn NodeR.ino l'=true) {k:Int} (hm:∀n,n.ino=k→(n∈l↔n∈l')):findB l k=findB l' k:=by
 rcases findB_cases l k with⟨n,hn,hk,e⟩|e
 ·rw[e];exact((Zdm h' k n).2 ⟨(hm n hk).1 hn,hk⟩).symm
 ·rcases findB_cases l' k with⟨n,hn,hk,e'⟩|e'
  ·have:=(Zdm h k n).2 ⟨(hm n hk).2 hn,hk⟩
   rw[this] at e;cases e
  ·rw[e,e']
theorem Zha (f:FSR) (k:Int) (n:NodeR):n∈(outF f k).l↔n∈f.l∧n.ino≠k:=by simp[outF,outS]
theorem Zg.out {f:FSR} (h:Zg f) (k:Int):Zg (outF f k):=
 ⟨Zan _ h.rise _,fun n hn=>h.ok n ((Zha f k n).1 hn).1,fun n hn=>h.lt n ((Zha f k n).1 hn).1,Nat.le_trans (List.length_filter_le _ _) h.len,h.next⟩
theorem Zgm {f:FSR} (h:Zn NodeR.ino f.l=true) (k q:Int):findB (outF f k).l q=if q=k then(.zero,false) else findB f.l q:=by
 split
 ·rename_i e;subst e
  exact ZbI fun n hn=>((Zha f q n).1 hn).2
 ·rename_i e
  exact(ZfC (l':=(outF f k).l) h (Zan _ h _) fun n hn=>by rw[Zha];exact⟨fun hm=>⟨hm,by rw[hn];exact e⟩,fun hm=>hm.1⟩).symm
theorem ZcL {f:FSR} (h:Zn NodeR.ino f.l=true) (n:NodeR):Zn NodeR.ino (putB f n).l=true∧(∀x,x∈(putB f n).l↔x=n∨(x∈f.l∧x.ino≠n.ino))∧(putB f n).l.length≤f.l.length+1:=by
 unfold putB
 split
 ·rename_i hc
  have e:ZbV f.l (plc f.l n.ino)=f.l[plc f.l n.ino].ino:=by simp[ZbV,List.getD_eq_getElem?_getD,hc.1]
  obtain⟨h1,h2⟩:=ZkY NodeR.ino h hc.1 (x:=n) (by rw[←e];exact hc.2.symm)
  exact⟨h1,h2,by simp⟩
 ·rename_i hc
  have hne:∀y∈f.l,y.ino≠n.ino:=fun y hy e=>by
   have:=findB_of h hy
   rw[e] at this
   unfold findB at this
   rw[if_neg hc] at this
   cases this
  have hp:=ZkW h n.ino
  refine⟨?_,fun x=> ?_,by simp⟩
  ·show Zn NodeR.ino (insL f.l (plc f.l n.ino) n)=true
   rw[hp];exact ZkZ NodeR.ino h n hne
  ·show x∈insL f.l (plc f.l n.ino) n↔_
   rw[ZjL]
   exact⟨fun hx=>hx.imp id fun hx=>⟨hx,hne x hx⟩,fun hx=>hx.imp id fun hx=>hx.1⟩
theorem Zg.put {f:FSR} (h:Zg f) {n:NodeR} (hn:nodeOk n=true) (hl:(putB f n).l.length≤256):Zg (putB f n):=by
 obtain⟨h1,h2,h3⟩:=ZcL h.rise n
 have hx:(putB f n).next=max f.next (n.ino+1):=rfl
 refine⟨h1,fun x hx=> ?_,fun x hx'=> ?_,hl,?_⟩
 ·rcases(h2 x).1 hx with rfl|hx
  ·exact hn
  ·exact h.ok x hx.1
 ·rw[hx]
  rcases(h2 x).1 hx' with rfl|hx'
  ·omega
  ·have:=h.lt x hx'.1;omega
 ·rw[hx];have:=h.next;omega
theorem ZaY {f:FSR} (h:Zn NodeR.ino f.l=true) (n:NodeR) (q:Int):findB (putB f n).l q=if q=n.ino then(n,true) else findB f.l q:=by
 obtain⟨h1,h2,_⟩:=ZcL h n
 split
 ·rename_i e;subst e
  exact findB_of h1 ((h2 n).2 (.inl rfl))
 ·rename_i e
  exact(ZfC h h1 fun x hx=>by
   rw[h2]
   refine⟨fun hm=> .inr ⟨hm,by rw[hx];exact e⟩,fun hm=> ?_⟩
   rcases hm with rfl|hm
   ·exact absurd hx.symm e
   ·exact hm.1).symm
end Go.Cx
set_option linter.unusedVariables false
set_option linter.unusedSimpArgs false
namespace Go.Cx
end Go.Cx
namespace Go.Cx
section
variable {α:Type} (key:α→Int)
theorem Zai:∀{a b:List α},Zn key a=true→Zn key b=true→(∀x,x∈a↔x∈b)→a=b
 |[],[],_,_,_=>rfl
 |[],y::b,_,_,h=>by have:=(h y).2 (by simp);cases this
 |x::a,[],_,_,h=>by have:=(h x).1 (by simp);cases this
 |x::a,y::b,ha,hb,h=>by
  obtain⟨a1,a2⟩:=Zct key ha
  obtain⟨b1,b2⟩:=Zct key hb
  have hxy:x=y:=by
   rcases List.mem_cons.1 ((h x).1 (by simp)) with e|h1
   ·exact e
   rcases List.mem_cons.1 ((h y).2 (by simp)) with e|h2
   ·exact e.symm
   have:=a2 y h2
   have:=b2 x h1
   omega
  subst hxy
  rw[Zai a1 b1 fun z=>⟨fun hz=> ?_,fun hz=> ?_⟩]
  ·rcases List.mem_cons.1 ((h z).1 (by simp[hz])) with e|h1
   ·have:=a2 z hz;subst e;omega
   ·exact h1
  ·rcases List.mem_cons.1 ((h z).2 (by simp[hz])) with e|h1
   ·have:=b2 z hz;subst e;omega
   ·exact h1
theorem Zbd {l:List α} {k:Int}:ZW key l k=none↔∀x∈l,key x≠k:=by
 simp[ZW,List.find?_eq_none]
theorem Zu {l:List α} {k:Int} {x:α} (h:ZW key l k=some x):x∈l∧key x=k:=by
 refine⟨List.mem_of_find?_eq_some h,?_⟩
 have:=List.find?_some h
 simpa using this
theorem Zhb {l:List α} (h:Zn key l=true) (k:Int) (x:α):ZW key l k=some x↔x∈l∧key x=k:=by
 refine⟨Zu key,fun⟨h1,h2⟩=> ?_⟩
 cases hf:ZW key l k with
 |none=>exact absurd h2 ((Zbd key).1 hf x h1)
 |some y=>
  obtain⟨h3,h4⟩:=Zu key hf
  rw[Zfa key h h1 h3 (by omega)]
theorem ZpJ {l l':List α} (h:Zn key l=true) (h':Zn key l'=true) {k:Int} (hm:∀n,key n=k→(n∈l↔n∈l')):ZW key l k=ZW key l' k:=by
 cases hf:ZW key l k with
 |some x=>
  obtain⟨h1,h2⟩:=Zu key hf
  exact((Zhb key h' k x).2 ⟨(hm x h2).1 h1,h2⟩).symm
 |none=>
  refine((Zbd key).2 fun x hx hk=> ?_).symm
  exact(Zbd key).1 hf x ((hm x hk).2 hx) hk
theorem putS_spec {l:List α} (h:Zn key l=true) (x:α):Zn key (putS key l x)=true∧∀y,y∈putS key l x↔y=x∨(y∈l∧key y≠key x):=by
 have hp:=(ZH key l).1 h
 have h1:∀y,y∈l.takeWhile (fun y=>decide (key y<key x))→key y<key x:=fun y hy=>by
  simpa using List.all_eq_true.1 (List.all_takeWhile (p:=fun y=>decide (key y<key x)) (l:=l)) y hy
 have h2:∀{l:List α},l.Pairwise (fun a b=>key a<key b)→∀y,y∈l.dropWhile (fun y=>decide (key y≤key x))↔y∈l∧key x<key y:=by
  intro l
  induction l with
  |nil=>simp
  |cons a l ih=>
   intro hp y
   obtain⟨p1,p2⟩:=List.pairwise_cons.1 hp
   by_cases ha:key a≤key x
   ·rw[List.dropWhile_cons_of_pos (by simpa using ha),ih p2,List.mem_cons]
    constructor
    ·exact fun q=>⟨.inr q.1,q.2⟩
    ·rintro⟨rfl|q,q2⟩
     ·omega
     ·exact⟨q,q2⟩
   ·rw[List.dropWhile_cons_of_neg (by simpa using ha)]
    refine⟨fun q=>⟨q,?_⟩,fun q=>q.1⟩
    rcases List.mem_cons.1 q with rfl|q
    ·omega
    ·have:=p1 y q;omega
 have h3:∀y,y∈l→key y<key x→y∈l.takeWhile (fun y=>decide (key y<key x)):=by
  intro y hy hk
  obtain⟨i,hi,rfl⟩:=List.getElem_of_mem hy
  have hlt:i<placeS key l (key x):=by
   rcases Nat.lt_or_ge i (placeS key l (key x)) with q|q
   ·exact q
   ·have:=Zcv key h (key x) i q hi;omega
  have e:=List.IsPrefix.getElem (List.takeWhile_prefix (fun y=>decide (key y<key x)) (l:=l)) (i:=i) hlt
  rw[←e]
  exact List.getElem_mem _
 constructor
 ·refine(ZH key _).2 (List.pairwise_append.2 ⟨hp.sublist (List.takeWhile_sublist _),List.pairwise_cons.2 ⟨fun y hy=>((h2 hp y).1 hy).2,hp.sublist (List.dropWhile_sublist _)⟩,fun a ha b hb=> ?_⟩)
  have:=h1 a ha
  rcases List.mem_cons.1 hb with rfl|hb
  ·exact this
  ·have:=((h2 hp b).1 hb).2;omega
 ·intro y
  simp only[putS,List.mem_append,List.mem_cons,h2 hp]
  constructor
  ·rintro(q|q|q)
   ·exact .inr ⟨(List.takeWhile_sublist _).subset q,by have:=h1 y q;omega⟩
   ·exact .inl q
   ·exact .inr ⟨q.1,by omega⟩
  ·rintro(q|⟨q,q2⟩)
   ·exact .inr (.inl q)
   ·by_cases hy:key y<key x
    ·exact .inl (h3 y q hy)
    ·exact .inr (.inr ⟨q,by omega⟩)
theorem Zhc {l:List α} (h:Zn key l=true) (x:α) (k:Int):ZW key (putS key l x) k=if k=key x then some x else ZW key l k:=by
 obtain⟨h1,h2⟩:=putS_spec key h x
 split
 ·rename_i e;subst e
  exact(Zhb key h1 _ _).2 ⟨(h2 x).2 (.inl rfl),rfl⟩
 ·rename_i e
  refine(ZpJ key h h1 fun n hn=> ?_).symm
  rw[h2]
  refine⟨fun q=> .inr ⟨q,by omega⟩,fun q=> ?_⟩
  rcases q with rfl|q
  ·omega
  ·exact q.1
theorem ZjM {l:List α} (h:Zn key l=true) {i:Nat} {x:α} (hi:i<l.length) (hk:key l[i]=key x):l.set i x=putS key l x:=by
 obtain⟨h1,h2⟩:=putS_spec key h x
 obtain⟨h3,h4⟩:=ZkY key h hi hk.symm
 exact Zai key h3 h1 fun y=>by rw[h4,h2]
theorem ZjN {l:List α} (h:Zn key l=true) {x:α} (hx:∀y∈l,key y≠key x):insL l (placeS key l (key x)) x=putS key l x:=by
 obtain⟨h1,h2⟩:=putS_spec key h x
 exact Zai key (ZkZ key h x hx) h1 fun y=>by
  rw[ZjL,h2]
  exact⟨fun q=>q.imp id fun q=>⟨q,hx y q⟩,fun q=>q.imp id fun q=>q.1⟩
theorem ZpK {l:List α} (h:Zn key l=true) (k:Int) (hp:placeS key l k<l.length) (hk:key l[placeS key l k]=k):ZW key l k=some l[placeS key l k]:=
 (Zhb key h _ _).2 ⟨List.getElem_mem _,hk⟩
theorem Zaj {l:List α} (h:Zn key l=true) {k:Int} {x:α} (hf:ZW key l k=some x):∃hp:placeS key l k<l.length,l[placeS key l k]=x:=by
 obtain⟨h1,h2⟩:=Zu key hf
 obtain⟨i,hi,rfl⟩:=List.getElem_of_mem h1
 subst h2
 have q1:placeS key l (key l[i])≤i:=by
  rcases Nat.lt_or_ge i (placeS key l (key l[i])) with q|q
  ·have:=ZeV key l (key l[i]) i q hi;omega
  ·exact q
 refine⟨by omega,?_⟩
 refine Zfa key h (List.getElem_mem _) h1 ?_
 have a:=Zcv key h (key l[i]) _ (Nat.le_refl _) (by omega)
 rcases Nat.lt_or_ge (placeS key l (key l[i])) i with q|q
 ·have:=Zac key h _ _ (by omega) hi q;omega
 ·have:placeS key l (key l[i])=i:=by omega
  simp only[this]
theorem Zcw {l:List α} (h:Zn key l=true) {k:Int} (hf:ZW key l k=none) (hp:placeS key l k<l.length):key l[placeS key l k]≠k:=fun e=>by
 rw[ZpK key h k hp e] at hf;cases hf
theorem ZcM {l:List α} (h:Zn key l=true) (x:α):(putS key l x).length=if(ZW key l (key x)).isSome then l.length else l.length+1:=by
 cases hf:ZW key l (key x) with
 |some y=>
  obtain⟨hp,e⟩:=Zaj key h hf
  rw[←ZjM key h hp (by rw[e];exact(Zu key hf).2)]
  simp
 |none=>
  rw[←ZjN key h ((Zbd key).1 hf)]
  have:=Zcu key l (key x)
  simp[insL];omega
end
structure Zhd (r:RowR):Prop where
 client:0≤r.client
 epoch:1≤r.epoch
 done:0≤r.done
 len:r.l.length≤256
 rise:Zn DecisionR.seq r.l=true
 above:∀d∈r.l,r.done<d.seq
structure Zaa (l:List RowR):Prop where
 len:l.length≤64
 rise:Zn RowR.client l=true
 ok:∀r∈l,Zhd r
def badS (c e n:Int):Bool:=decide (c<0)||decide (e<1)||decide (n<1)
def whyS (l:List RowR) (c e n:Int):Int:=
 if badS c e n then 1 else match ZW RowR.client l c with
 |none=>6
 |some r=>if r.epoch<e then 6 else if e<r.epoch then 17 else 0
def rowS (l:List RowR) (c e n:Int):RowR:=if badS c e n then .zero else match ZW RowR.client l c with
 |none=>⟨c,e,0,[]⟩
 |some r=>if r.epoch=e then r else⟨c,e,0,[]⟩
def askS (l:List RowR) (c e n:Int):Bool×Int:=
 if whyS l c e n≠0 then(false,whyS l c e n) else if n≤(rowS l c e n).done then(false,18) else match ZW DecisionR.seq (rowS l c e n).l n with
 |none=>(false,6)
 |some d=>(d.yes,0)
def decR (r:RowR) (n:Int) (yes:Bool):RowR:=⟨r.client,r.epoch,r.done,putS DecisionR.seq r.l ⟨n,yes⟩⟩
def forR (r:RowR) (d:Int):RowR:=⟨r.client,r.epoch,max r.done d,r.l.filter fun x=> !decide (x.seq≤max r.done d)⟩
def ZaQ (l:List RowR) (c e n:Int):Bool:=(decide (ZW RowR.client l c=none)&&decide (64≤l.length))||decide (256≤(rowS l c e n).l.length)
def decideS (l:List RowR) (c e n:Int) (yes:Bool):List RowR×Bool×Int:=
 if(askS l c e n).2≠6 then(l,(askS l c e n).1,(askS l c e n).2) else if ZaQ l c e n=true then(l,false,12) else(putS RowR.client l (decR (rowS l c e n) n yes),yes,0)
def forgetS (l:List RowR) (c e n:Int):List RowR×Int:=
 if whyS l c e n≠0 then(l,whyS l c e n) else(putS RowR.client l (forR (rowS l c e n) n),0)
theorem Zfb (l:List RowR) {c e n:Int} (hb:badS c e n=false):(rowS l c e n).client=c∧(rowS l c e n).epoch=e:=by
 unfold rowS
 rw[if_neg (by simp[hb])]
 split
 ·exact⟨rfl,rfl⟩
 ·rename_i r hr
  split
  ·rename_i h;exact⟨(Zu _ hr).2,h⟩
  ·exact⟨rfl,rfl⟩
theorem Zok {l:List RowR} {c e n:Int} (h:whyS l c e n≠1):badS c e n=false:=by
 cases hb:badS c e n with
 |false=>rfl
 |true=>exact absurd (by simp[whyS,hb]) h
theorem Zhe {l:List RowR} {c e n:Int} (h:(askS l c e n).2=6):badS c e n=false∧ZW DecisionR.seq (rowS l c e n).l n=none:=by
 have hb:badS c e n=false:=Zok fun hw=>by
  rw[askS,if_pos (by rw[hw];decide)] at h
  rw[hw] at h;cases h
 refine⟨hb,?_⟩
 by_cases hw:whyS l c e n=0
 ·rw[askS,if_neg (by simp[hw])] at h
  split at h
  ·cases h
  ·split at h
   ·rename_i hf;exact hf
   ·cases h
 ·rw[askS,if_pos hw] at h
  simp only at h
  unfold whyS at h
  rw[if_neg (by simp[hb])] at h
  unfold rowS
  rw[if_neg (by simp[hb])]
  split
  ·rfl
  ·rename_i r hr
   rw[hr] at h
   simp only at h
   split
   ·rename_i he
    rw[if_neg (by omega),if_neg (by omega)] at h
    cases h
   ·rfl
end Go.Cx
set_option linter.unusedVariables false
set_option linter.unusedSimpArgs false
namespace Go.Cx
theorem ZdO {c e n:Int} (h:badS c e n=false):¬c<0∧¬e<1∧¬n<1:=by
 simp only[badS,Bool.or_eq_false_iff,decide_eq_false_iff_not] at h
 exact⟨h.1.1,h.1.2,h.2⟩
theorem ZwJ {c e n:Int} (h1:¬c<0) (h2:¬e<1) (h3:¬n<1):badS c e n=false:=by
 simp[badS,h1,h2,h3]
theorem Zaa.nil:Zaa []:=⟨by simp,rfl,by simp⟩
theorem Zaa.put {l:List RowR} (R:Zaa l) {x:RowR} (hx:Zhd x) (hl:(putS RowR.client l x).length≤64):Zaa (putS RowR.client l x):=by
 obtain⟨h1,h2⟩:=putS_spec RowR.client R.rise x
 refine⟨hl,h1,fun r hr=> ?_⟩
 rcases(h2 r).1 hr with rfl|hr
 ·exact hx
 ·exact R.ok r hr.1
theorem ZmD {l:List RowR} (R:Zaa l) {c e n:Int} (hb:badS c e n=false):Zhd (rowS l c e n):=by
 obtain⟨h1,h2,h3⟩:=ZdO hb
 unfold rowS
 rw[if_neg (by simp[hb])]
 split
 ·exact⟨by simp only;omega,by simp only;omega,by simp,by simp,rfl,by simp⟩
 ·rename_i r hr
  split
  ·exact R.ok r (Zu _ hr).1
  ·exact⟨by simp only;omega,by simp only;omega,by simp,by simp,rfl,by simp⟩
theorem decR_ok {r:RowR} (h:Zhd r) {n:Int} {yes:Bool} (hn:ZW DecisionR.seq r.l n=none) (hd:r.done<n) (hl:r.l.length<256):Zhd (decR r n yes):=by
 obtain⟨h1,h2⟩:=putS_spec DecisionR.seq h.rise ⟨n,yes⟩
 have h3:=ZcM DecisionR.seq h.rise ⟨n,yes⟩
 simp only[hn] at h3
 refine⟨h.client,h.epoch,h.done,?_,h1,fun d hd'=> ?_⟩
 ·show(putS DecisionR.seq r.l ⟨n,yes⟩).length≤256
  rw[h3];simp;omega
 ·rcases(h2 d).1 hd' with rfl|q
  ·exact hd
  ·exact h.above d q.1
theorem forR_ok {r:RowR} (h:Zhd r) (d:Int):Zhd (forR r d):=by
 refine⟨h.client,h.epoch,?_,Nat.le_trans (List.length_filter_le _ _) h.len,Zan _ h.rise _,fun x hx=> ?_⟩
 ·show 0≤max r.done d
  have:=h.done;omega
 ·have:=(List.mem_filter.1 hx).2
  simp only[Bool.not_eq_true',decide_eq_false_iff_not] at this
  show max r.done d<x.seq
  omega
theorem Zol {l:List RowR} {c e n:Int} (h:(askS l c e n).2=6):(rowS l c e n).done<n:=by
 obtain⟨hb,_⟩:=Zhe h
 obtain⟨b1,b2,b3⟩:=ZdO hb
 by_cases hw:whyS l c e n=0
 ·rw[askS,if_neg (by simp[hw])] at h
  split at h
  ·cases h
  ·omega
 ·rw[askS,if_pos hw] at h
  simp only at h
  unfold whyS at h
  rw[if_neg (by simp[hb])] at h
  unfold rowS
  rw[if_neg (by simp[hb])]
  split
  ·simp only;omega
  ·rename_i r hr
   rw[hr] at h
   simp only at h
   split
   ·rename_i he
    rw[if_neg (by omega),if_neg (by omega)] at h
    cases h
   ·simp only;omega
theorem Zst {l:List RowR} (R:Zaa l) {x:RowR} {n:Int} (hb:badS x.client x.epoch n=false):whyS (putS RowR.client l x) x.client x.epoch n=0∧rowS (putS RowR.client l x) x.client x.epoch n=x:=by
 have hf:=Zhc RowR.client R.rise x x.client
 rw[if_pos rfl] at hf
 constructor
 ·unfold whyS
  rw[if_neg (by simp[hb]),hf]
  simp
 ·unfold rowS
  rw[if_neg (by simp[hb]),hf]
  simp
theorem Zwv {l:List RowR} (R:Zaa l) {x:RowR} {c e n:Int} (hc:c≠x.client):askS (putS RowR.client l x) c e n=askS l c e n:=by
 have hf:=Zhc RowR.client R.rise x c
 rw[if_neg hc] at hf
 have h1:whyS (putS RowR.client l x) c e n=whyS l c e n:=by unfold whyS;rw[hf]
 have h2:rowS (putS RowR.client l x) c e n=rowS l c e n:=by unfold rowS;rw[hf]
 unfold askS
 rw[h1,h2]
theorem decide_cases (l:List RowR) (c e n:Int) (yes:Bool):
  ((askS l c e n).2≠6∧decideS l c e n yes=(l,askS l c e n))∨((askS l c e n).2=6∧ZaQ l c e n=true∧decideS l c e n yes=(l,false,12))∨
  ((askS l c e n).2=6∧ZaQ l c e n=false∧decideS l c e n yes=(putS RowR.client l (decR (rowS l c e n) n yes),yes,0)):=by
 by_cases h:(askS l c e n).2=6
 ·by_cases hr:ZaQ l c e n=true
  ·exact .inr (.inl ⟨h,hr,by unfold decideS;rw[if_neg (by simp[h]),if_pos hr]⟩)
  ·exact .inr (.inr ⟨h,by simpa using hr,by unfold decideS;rw[if_neg (by simp[h]),if_neg hr]⟩)
 ·exact .inl ⟨h,by unfold decideS;rw[if_pos h]⟩
theorem put_few {l:List RowR} (R:Zaa l) {c e n:Int} {x:RowR} (hx:x.client=c) (hr:ZaQ l c e n=false):(putS RowR.client l x).length≤64:=by
 rw[ZcM RowR.client R.rise,hx]
 have:=R.len
 split
 ·exact this
 ·rename_i h
  simp only[ZaQ,Bool.or_eq_false_iff,Bool.and_eq_false_iff,decide_eq_false_iff_not] at hr
  have hn:ZW RowR.client l c=none:=by simpa using h
  rcases hr.1 with q|q
  ·exact absurd hn q
  ·omega
theorem Zla {l:List RowR} (R:Zaa l) (c e n:Int) (yes:Bool):Zaa (decideS l c e n yes).1:=by
 rcases decide_cases l c e n yes with⟨_,h⟩|⟨_,_,h⟩|⟨h6,hr,h⟩
 ·rw[h];exact R
 ·rw[h];exact R
 ·rw[h]
  obtain⟨hb,hn⟩:=Zhe h6
  refine R.put (decR_ok (ZmD R hb) hn (Zol h6) ?_) (put_few R (x:=decR _ _ _) (Zfb l hb).1 hr)
  simp only[ZaQ,Bool.or_eq_false_iff,decide_eq_false_iff_not] at hr
  omega
theorem ZwK {l:List RowR} {c e n:Int} (h:(askS l c e n).2≠0):(askS l c e n).1=false:=by
 unfold askS at*
 split
 ·rfl
 ·rename_i h1
  rw[if_neg h1] at h
  split
  ·rfl
  ·rename_i h2
   rw[if_neg h2] at h
   split
   ·rfl
   ·rename_i d hd;rw[hd] at h;exact absurd rfl h
theorem Zwy {l:List RowR} {c e n:Int} {yes:Bool} (h:(decideS l c e n yes).2.2≠0):(decideS l c e n yes).1=l∧(decideS l c e n yes).2.1=false:=by
 rcases decide_cases l c e n yes with⟨_,q⟩|⟨_,_,q⟩|⟨h6,hr,q⟩
 ·rw[q] at h⊢;exact⟨rfl,ZwK h⟩
 ·rw[q];exact⟨rfl,rfl⟩
 ·rw[q] at h;exact absurd rfl h
def askR (r:RowR) (n:Int):Bool×Int:=if n≤r.done then(false,18) else match ZW DecisionR.seq r.l n with
 |none=>(false,6)
 |some d=>(d.yes,0)
theorem askR_eq (r:RowR) (m:Int):askR r m=if m≤r.done then((false,18):Bool×Int) else match ZW DecisionR.seq r.l m with
 |none=>(false,6)
 |some d=>(d.yes,0):=rfl
theorem Zvi (r:RowR) (n:Int) (yes:Bool) (m:Int):askR (decR r n yes) m=if m≤r.done then((false,18):Bool×Int) else match ZW DecisionR.seq (putS DecisionR.seq r.l ⟨n,yes⟩) m with
 |none=>(false,6)
 |some d=>(d.yes,0):=rfl
theorem ZwL {l:List RowR} {c e n:Int} {r:RowR} (h1:whyS l c e n=0) (h2:rowS l c e n=r):askS l c e n=askR r n:=by
 unfold askS askR
 simp only[h1,h2,ne_eq,not_true,if_false]
theorem Zlb {l:List RowR} (R:Zaa l) {c e n:Int} {yes:Bool} (h6:(askS l c e n).2=6):askS (putS RowR.client l (decR (rowS l c e n) n yes)) c e n=(yes,0):=by
 obtain⟨hb,hn⟩:=Zhe h6
 obtain⟨k1,k2⟩:=Zfb l hb
 have hd:=Zol h6
 have hrise:=(ZmD R hb).rise
 generalize rowS l c e n=r at*
 subst k1 k2
 obtain⟨w1,w2⟩:=Zst R (x:=decR r n yes) (n:=n) hb
 rw[show(decR r n yes).client=r.client from rfl,show(decR r n yes).epoch=r.epoch from rfl] at w1 w2
 rw[ZwL w1 w2]
 rw[Zvi,if_neg (by omega),Zhc DecisionR.seq hrise,if_pos rfl]
theorem ZpL {l:List RowR} (R:Zaa l) {c e n:Int} {yes:Bool} (h:(decideS l c e n yes).2.2=0):askS (decideS l c e n yes).1 c e n=((decideS l c e n yes).2.1,0):=by
 rcases decide_cases l c e n yes with⟨_,q⟩|⟨_,_,q⟩|⟨h6,hr,q⟩
 ·rw[q] at h⊢;exact Prod.ext rfl h
 ·rw[q] at h;cases h
 ·rw[q];exact Zlb R h6
theorem Zwz {l:List RowR} {c e n:Int} {b:Bool} (yes:Bool) (h:askS l c e n=(b,0)):decideS l c e n yes=(l,b,0):=by
 unfold decideS
 rw[h,if_pos (by simp)]
theorem ZwD {l:List RowR} {c e n:Int} {b:Bool} (h:askS l c e n=(b,0)):whyS l c e n=0∧¬n≤(rowS l c e n).done:=by
 unfold askS at h
 split at h
 ·rename_i q;exact absurd (congrArg Prod.snd h) q
 ·rename_i q
  refine⟨by simpa using q,?_⟩
  split at h
  ·cases h
  ·assumption
theorem Zom {l:List RowR} {c e n:Int} (h:whyS l c e n=0):badS c e n=false∧∃r,ZW RowR.client l c=some r∧r.epoch=e∧rowS l c e n=r:=by
 have hb:badS c e n=false:=Zok (by rw[h];decide)
 refine⟨hb,?_⟩
 unfold whyS at h
 rw[if_neg (by simp[hb])] at h
 cases hf:ZW RowR.client l c with
 |none=>rw[hf] at h;cases h
 |some r=>
  rw[hf] at h
  simp only at h
  have he:r.epoch=e:=by
   by_cases h1:r.epoch<e
   ·rw[if_pos h1] at h;cases h
   ·rw[if_neg h1] at h
    by_cases h2:e<r.epoch
    ·rw[if_pos h2] at h;cases h
    ·omega
  refine⟨r,rfl,he,?_⟩
  unfold rowS
  rw[if_neg (by simp[hb]),hf]
  simp[he]
theorem Zes {l:List RowR} {c e n:Int} (h:whyS l c e n=0):forgetS l c e n=(putS RowR.client l (forR (rowS l c e n) n),0):=by
 unfold forgetS
 rw[if_neg (by simp[h])]
theorem ZpM {l:List RowR} {c e n:Int} (h:(forgetS l c e n).2≠0):(forgetS l c e n).1=l:=by
 unfold forgetS at*
 split
 ·rfl
 ·rename_i q;rw[if_neg q] at h;exact absurd rfl h
theorem ZpN {l:List RowR} {c e n:Int} (h:(forgetS l c e n).2=0):whyS l c e n=0:=by
 unfold forgetS at h
 split at h
 ·rename_i q;exact absurd h q
 ·rename_i q;simpa using q
theorem Zlc {l:List RowR} (R:Zaa l) (c e n:Int):Zaa (forgetS l c e n).1:=by
 by_cases h:whyS l c e n=0
 ·rw[Zes h]
  obtain⟨hb,r,hf,he,hr⟩:=Zom h
  refine R.put (forR_ok (ZmD R hb) n) ?_
  rw[ZcM RowR.client R.rise]
  have:(forR (rowS l c e n) n).client=c:=(Zfb l hb).1
  rw[this,hf]
  exact R.len
 ·unfold forgetS
  rw[if_pos h];exact R
theorem ZpO (r:RowR) (d:Int):forR (forR r d) d=forR r d:=by
 have e:max (max r.done d) d=max r.done d:=by omega
 simp[forR,e,List.filter_filter]
theorem Zsu {l:List RowR} (h:Zn RowR.client l=true) {x y:RowR} (hk:y.client=x.client):putS RowR.client (putS RowR.client l x) y=putS RowR.client l y:=by
 obtain⟨h1,h2⟩:=putS_spec RowR.client h x
 obtain⟨h3,h4⟩:=putS_spec RowR.client h1 y
 obtain⟨h5,h6⟩:=putS_spec RowR.client h y
 refine Zai RowR.client h3 h5 fun z=> ?_
 rw[h4,h6,h2,hk]
 constructor
 ·rintro(q|⟨q|q,q2⟩)
  ·exact .inl q
  ·exact absurd (congrArg RowR.client q) q2
  ·exact .inr ⟨q.1,q2⟩
 ·rintro(q|⟨q,q2⟩)
  ·exact .inl q
  ·exact .inr ⟨.inr ⟨q,q2⟩,q2⟩
theorem Zld {l:List RowR} (R:Zaa l) {c e d:Int} (h:whyS l c e d=0):forgetS (forgetS l c e d).1 c e d=((forgetS l c e d).1,0):=by
 rw[Zes h]
 obtain⟨hb,r,hf,he,hr⟩:=Zom h
 have hkc:=(Zu _ hf).2
 rw[hr]
 subst hkc he
 obtain⟨w1,w2⟩:=Zst R (x:=forR r d) (n:=d) hb
 simp only[show(forR r d).client=r.client from rfl,show(forR r d).epoch=r.epoch from rfl] at w1 w2
 rw[Zes w1,w2,ZpO,Zsu R.rise rfl]
theorem ZwE {l:List RowR} (R:Zaa l) {c e n:Int} {yes:Bool} (h:(decideS l c e n yes).2.2=0):badS c e n=false∧∃x,ZW RowR.client (decideS l c e n yes).1 c=some x∧x.epoch=e:=by
 have h1:=ZpL R h
 obtain⟨h2,_⟩:=ZwD h1
 obtain⟨hb,x,hf,he,_⟩:=Zom h2
 exact⟨hb,x,hf,he⟩
theorem ZwF {l:List RowR} (R:Zaa l) {c e n:Int} {yes:Bool} {c' n':Int} (hne:¬(c=c'∧n'=n)) (h:(decideS l c e n yes).2.2=0):askS (decideS l c e n yes).1 c' e n'=askS l c' e n':=by
 rcases decide_cases l c e n yes with⟨_,q⟩|⟨_,_,q⟩|⟨h6,hr,q⟩
 ·rw[q]
 ·rw[q]
 rw[q]
 obtain⟨hb,hnone⟩:=Zhe h6
 obtain⟨k1,k2⟩:=Zfb l hb
 by_cases hc:c'=c
 case neg=>exact Zwv R (x:=decR _ _ _) (by show c'≠(rowS l c e n).client;rw[k1];exact hc)
 subst hc
 have hnn:n'≠n:=fun e=>hne ⟨rfl,e⟩
 obtain⟨b1,b2,b3⟩:=ZdO hb
 by_cases hn1:n'<1
 ·have hb':badS c' e n'=true:=by simp[badS,hn1]
  unfold askS whyS
  rw[if_pos hb',if_pos hb']
  simp
 have hb':badS c' e n'=false:=ZwJ b1 b2 hn1
 have hrow:rowS l c' e n'=rowS l c' e n:=by unfold rowS;rw[hb,hb']
 have hwhy:whyS l c' e n'=whyS l c' e n:=by unfold whyS;rw[hb,hb']
 have hrise:=(ZmD R hb).rise
 have hd:=Zol h6
 have hL:askS l c' e n'=askR (rowS l c' e n) n':=by
  by_cases hw:whyS l c' e n=0
  ·exact ZwL (by rw[hwhy];exact hw) hrow
  ·have h66:whyS l c' e n=6:=by
    unfold askS at h6;rw[if_pos hw] at h6;exact h6
   have hz:rowS l c' e n=⟨c',e,0,[]⟩:=by
    have hx:=h66
    unfold whyS at hx
    rw[if_neg (by simp[hb])] at hx
    unfold rowS
    rw[if_neg (by simp[hb])]
    cases hf:ZW RowR.client l c' with
    |none=>rfl
    |some r=>
     rw[hf] at hx
     simp only at hx⊢
     rw[if_neg]
     intro he
     rw[if_neg (by omega),if_neg (by omega)] at hx
     cases hx
   rw[hz]
   have h0:whyS l c' e n'≠0:=by rw[hwhy,h66];decide
   unfold askS
   rw[if_pos h0,hwhy,h66]
   have hn0:¬n'≤0:=by omega
   simp[hn0,ZW,askR]
 rw[hL]
 generalize rowS l c' e n=r at*
 subst k1 k2
 obtain⟨w1,w2⟩:=Zst R (x:=decR r n yes) (n:=n') hb'
 rw[show(decR r n yes).client=r.client from rfl,show(decR r n yes).epoch=r.epoch from rfl] at w1 w2
 rw[ZwL w1 w2]
 rw[Zvi,askR_eq,Zhc DecisionR.seq hrise,if_neg (show¬n'=(⟨n,yes⟩:DecisionR).seq from hnn)]
theorem ask_why {l:List RowR} {c e n:Int} (h:whyS l c e n≠0):askS l c e n=(false,whyS l c e n):=by
 unfold askS;rw[if_pos h]
theorem ZwG {l:List RowR} {c e n:Int} {x:RowR} (hc:¬c<0) (he:¬e<1) (hn:¬n<1) (hf:ZW RowR.client l c=some x):whyS l c e n=if x.epoch<e then 6 else if e<x.epoch then 17 else 0:=by
 unfold whyS
 rw[if_neg (by simp[ZwJ hc he hn]),hf]
end Go.Cx
namespace Go.Cx
def findE (l:List EntryR) (s:ByteArray):Int×Bool:=match l.find? (fun x=>decide (x.name=s)) with
 |some x=>(x.ino,true)
 |none=>(0,false)
def insE (l:List EntryR) (s:ByteArray) (ino:Int):List EntryR:=(l.takeWhile fun x=>ZX x.name s)++⟨s,ino⟩::(l.dropWhile fun x=>ZX x.name s)
def outE (l:List EntryR) (s:ByteArray):List EntryR:=l.filter fun x=> !decide (x.name=s)
def enterE (l:List EntryR) (s:ByteArray) (ino:Int):List EntryR×Int:=
 if checkS s≠0 then(l,checkS s) else if ino<1 then(l,1) else if(findE l s).2=true then(l,7) else if 256≤l.length then(l,12) else(insE l s ino,0)
def leaveE (l:List EntryR) (s:ByteArray):List EntryR×Int×Int:=if(findE l s).2=true then(outE l s,(findE l s).1,0) else(l,0,6)
def Zaf:List EntryR→Bool
 |[]=>true
 |[_]=>true
 |a::b::l=>ZX a.name b.name&&Zaf (b::l)
def readT (s:List UInt8) (at_ many:Int):List UInt8×Int:=
 if at_<0∨1099511627776<at_∨many<0∨1099511627776 -at_<many then([],1) else((s.drop at_.toNat).take many.toNat,0)
def overL (s:List UInt8) (k:Nat) (t:List UInt8):List UInt8:=(s++List.replicate (k -s.length) 0).take k++t++s.drop (k+t.length)
def writeT (s:List UInt8) (at_:Int) (t:List UInt8):List UInt8×Int:=
 if at_<0∨1099511627776 -t.length<at_ then(s,1) else if 4096<at_+t.length then(s,5) else if t=[] then(s,0) else(overL s at_.toNat t,0)
def cutT (s:List UInt8) (many:Int):List UInt8×Int:=
 if many<0∨1099511627776<many then(s,1) else if 4096<many then(s,5) else(s.take many.toNat++List.replicate (many.toNat -s.length) 0,0)
def dirD (f:FSR) (d:Int):NodeR×Int:=if(findB f.l d).2=false then(.zero,6) else if(findB f.l d).1.kind≠2 then(.zero,8) else((findB f.l d).1,0)
def lookD (f:FSR) (d:Int) (s:ByteArray):NodeR×Int:=
 if(dirD f d).2≠0 then(.zero,(dirD f d).2) else if checkS s≠0 then(.zero,checkS s) else
 if(findE (dirD f d).1.l s).2=false then(.zero,6) else if(findB f.l (findE (dirD f d).1.l s).1).2=false then(.zero,6) else((findB f.l (findE (dirD f d).1.l s).1).1,0)
def enteredD (f:FSR) (dir:Int) (s:ByteArray) (ino:Int):FSR:=putB f {(findB f.l dir).1 with l:=(enterE (findB f.l dir).1.l s ino).1}
def leftD (f:FSR) (dir:Int) (s:ByteArray):FSR:=putB f {(findB f.l dir).1 with l:=(leaveE (findB f.l dir).1.l s).1}
def ZjQ (f:FSR) (ino:Int):FSR:=if(findB f.l ino).1.links≤1 then outF f ino else putB f {(findB f.l ino).1 with links:=(findB f.l ino).1.links -1}
def newN (f:FSR) (n:NodeR):NodeR:={n with ino:=f.next,links:=1}
def addD (f:FSR) (dir:Int) (s:ByteArray) (n:NodeR):FSR×Int:=
 if(dirD f dir).2≠0 then(f,(dirD f dir).2) else if checkS s≠0 then(f,checkS s) else if(findE (dirD f dir).1.l s).2=true then(f,7) else
 if 256≤f.l.length∨256≤(dirD f dir).1.l.length then(f,12) else if nodeOk (newN f n)=false∨0<n.l.length then(f,1) else
 (putB (enteredD f dir s f.next) (newN f n),0)
def giveD (f:FSR) (dir:Int) (s:ByteArray) (ino:Int):FSR×Int:=
 if(dirD f dir).2≠0 then(f,(dirD f dir).2) else if(findB f.l ino).2=false then(f,6) else if(findB f.l ino).1.kind=2 then(f,9) else if checkS s≠0 then(f,checkS s) else
 if(findE (dirD f dir).1.l s).2=true then(f,7) else if 256≤(dirD f dir).1.l.length∨64≤(findB f.l ino).1.links then(f,12) else
 (putB (enteredD f dir s ino) {(findB f.l ino).1 with links:=(findB f.l ino).1.links+1},0)
def withoutD (f:FSR) (dir:Int) (s:ByteArray) (ino:Int):FSR:=ZjQ (leftD f dir s) ino
def takeD (f:FSR) (dir:Int) (s:ByteArray):FSR×Int:=
 if(lookD f dir s).2≠0 then(f,(lookD f dir s).2) else if 0<(lookD f dir s).1.l.length then(f,11) else(withoutD f dir s (lookD f dir s).1.ino,0)
def overD (n old:NodeR):Int:=if n.kind=2∧old.kind≠2 then 8 else if n.kind≠2∧old.kind=2 then 9 else if 0<old.l.length then 11 else 0
def belowD (f:FSR) (ino top:Int):Bool:=decide (0<getM (Zdl f.l top) ino)
def clearD (f:FSR) (to:Int) (t:ByteArray):FSR:=if(lookD f to t).2=0 then withoutD f to t (lookD f to t).1.ino else f
def moveD (f:FSR) (dir:Int) (s:ByteArray) (to:Int) (t:ByteArray):FSR×Int:=
 if(lookD f dir s).2≠0 then(f,(lookD f dir s).2) else if(dirD f to).2≠0 then(f,(dirD f to).2) else if checkS t≠0 then(f,checkS t) else
 if(lookD f dir s).1.kind=2∧((lookD f dir s).1.ino=to∨belowD f to (lookD f dir s).1.ino=true) then(f,13) else
 if(lookD f to t).2=0∧(lookD f to t).1.ino=(lookD f dir s).1.ino then(f,0) else
 if(lookD f to t).2=0∧overD (lookD f dir s).1 (lookD f to t).1≠0 then(f,overD (lookD f dir s).1 (lookD f to t).1) else
 if dir≠to∧256≤(findB (clearD f to t).l to).1.l.length then(f,12) else
 (enteredD (leftD (clearD f to t) dir s) to t (lookD f dir s).1.ino,0)
def errR (e:Int):ReplyR:=⟨e,0,0,0,.empty,[]⟩
def ofD (f:FSR) (ino kind:Int):NodeR×Int:=
 if(findB f.l ino).2=false then((findB f.l ino).1,6) else if kind≠0∧(findB f.l ino).1.kind≠kind then((findB f.l ino).1,14) else((findB f.l ino).1,0)
def toldR (r:ReplyR) (e:Int):ReplyR:=if e≠0 then errR e else r
def textD (f:FSR) (ino:Int) (turn:List UInt8→List UInt8×Int):FSR×Int:=
 if(ofD f ino 1).2≠0 then(f,(ofD f ino 1).2) else
 if(turn (bs (ofD f ino 1).1.text)).2≠0 then(f,(turn (bs (ofD f ino 1).1.text)).2) else
 (putB f {(ofD f ino 1).1 with text:=T (turn (bs (ofD f ino 1).1.text)).1},0)
def addO (f:FSR) (c:CallR) (n:NodeR):FSR×ReplyR:=
 if 4096<n.text.size then(f,errR 5) else if(addD f c.ino c.name n).2≠0 then(f,errR (addD f c.ino c.name n).2) else((addD f c.ino c.name n).1,⟨0,f.next,0,0,.empty,[]⟩)
def removeO (f:FSR) (c:CallR) (dir:Bool):FSR×ReplyR:=
 if(lookD f c.ino c.name).2≠0 then(f,errR (lookD f c.ino c.name).2) else
 if(lookD f c.ino c.name).1.kind=2∧dir=false then(f,errR 9) else if(lookD f c.ino c.name).1.kind≠2∧dir=true then(f,errR 8) else
 ((takeD f c.ino c.name).1,errR (takeD f c.ino c.name).2)
def sizesF (l:List NodeR):Int:=(l.map fun n=>(n.text.size:Int)).sum
def doS (f:FSR) (c:CallR):FSR×ReplyR:=
 if c.kind=1 then(f,toldR ⟨0,(lookD f c.ino c.name).1.ino,0,0,.empty,[]⟩ (lookD f c.ino c.name).2)
 else if c.kind=2 then(f,toldR ⟨0,(ofD f c.ino 0).1.kind,(ofD f c.ino 0).1.links,sizeS (ofD f c.ino 0).1,.empty,[]⟩ (ofD f c.ino 0).2)
 else if c.kind=3 then(f,if(ofD f c.ino 1).2≠0 then errR (ofD f c.ino 1).2 else toldR ⟨0,0,0,0,T (readT (bs (ofD f c.ino 1).1.text) c.at_ c.many).1,[]⟩ (readT (bs (ofD f c.ino 1).1.text) c.at_ c.many).2)
 else if c.kind=4 then((textD f c.ino fun s=>writeT s c.at_ (bs c.text)).1,toldR ⟨0,c.text.size,0,0,.empty,[]⟩ (textD f c.ino fun s=>writeT s c.at_ (bs c.text)).2)
 else if c.kind=5 then((textD f c.ino fun s=>cutT s c.many).1,errR (textD f c.ino fun s=>cutT s c.many).2)
 else if c.kind=6 then addO f c ⟨0,1,0,.empty,[]⟩
 else if c.kind=7 then addO f c ⟨0,2,0,.empty,[]⟩
 else if c.kind=8 then addO f c ⟨0,3,0,c.text,[]⟩
 else if c.kind=9 then removeO f c false
 else if c.kind=10 then removeO f c true
 else if c.kind=11 then((giveD f c.ino c.name c.to_).1,errR (giveD f c.ino c.name c.to_).2)
 else if c.kind=12 then((moveD f c.ino c.name c.to_ c.name2).1,errR (moveD f c.ino c.name c.to_ c.name2).2)
 else if c.kind=13 then(f,toldR ⟨0,0,0,0,(ofD f c.ino 3).1.text,[]⟩ (ofD f c.ino 3).2)
 else if c.kind=14 then(f,toldR ⟨0,0,0,0,.empty,(dirD f c.ino).1.l.map (·.name)⟩ (dirD f c.ino).2)
 else if c.kind=15 then(f,⟨0,f.l.length,sizesF f.l,0,.empty,[]⟩)
 else(f,errR 1)
def playS:FSR→List CallR→FSR×List ReplyR
 |f,[]=>(f,[])
 |f,c::l=>((playS (doS f c).1 l).1,(doS f c).2::(playS (doS f c).1 l).2)
def Zbz (l:List Int) (n:Int):List Int:=(l.takeWhile fun x=>decide (x<n))++n::(l.dropWhile fun x=>decide (x≤n))
def ZbA (l:List Int) (f:FSR) (dir:Int) (s:ByteArray):List Int:=if(findE (findB f.l dir).1.l s).2=true then Zbz l (findE (findB f.l dir).1.l s).1 else l
def looksS (f:FSR) (c:CallR):List Int:=
 if c.kind=15 then[0] else ZbA (ZbA (ZbA (ZbA (Zbz (Zbz [] c.ino) c.to_) f c.ino c.name) f c.ino c.name2) f c.to_ c.name) f c.to_ c.name2
def numsS (l:List Int):List Int:=l.foldl Zbz []
def changeS (a b:FSR) (k:Int):List ChangeR:=
 if(findB b.l k).2=false then[⟨k,true,.zero⟩] else if(findB a.l k).2=false∨(findB a.l k).1≠(findB b.l k).1 then[⟨k,false,(findB b.l k).1⟩] else[]
def changesS (a b:FSR):List ChangeR:=(numsS (a.l.map (·.ino)++b.l.map (·.ino))).flatMap (changeS a b)
def applyOne (f:FSR) (c:ChangeR):FSR:=if c.gone=true then outF f c.ino else putB f c.node
def applyS (f:FSR) (l:List ChangeR) (next:Int):FSR:={l.foldl applyOne f with next:=max (l.foldl applyOne f).next next}
end Go.Cx
set_option linter.unusedVariables false
set_option linter.unusedSimpArgs false
namespace Go.Cx
theorem Zhg:∀l:List UInt8,Op.bytesLess l l=false
 |[]=>rfl
 |a::l=>by simp[Op.bytesLess,Zhg l]
theorem ZiD:∀a b c:List UInt8,Op.bytesLess a b=true→Op.bytesLess b c=true→Op.bytesLess a c=true
 |_,[],_,h,_=>by simp[Op.bytesLess] at h
 |_,_::_,[],_,h=>by simp[Op.bytesLess] at h
 |[],_::_,_::_,_,_=>rfl
 |a::x,b::y,c::z,h1,h2=>by
  simp only[Op.bytesLess,Bool.or_eq_true,decide_eq_true_eq,Bool.and_eq_true,beq_iff_eq] at*
  rcases h1 with h1|⟨rfl,h1⟩
  ·rcases h2 with h2|⟨rfl,h2⟩
   ·exact .inl (UInt8.lt_trans h1 h2)
   ·exact .inl h1
  ·rcases h2 with h2|⟨rfl,h2⟩
   ·exact .inl h2
   ·exact .inr ⟨rfl,ZiD x y z h1 h2⟩
theorem less_total:∀a b:List UInt8,a≠b→Op.bytesLess a b=true∨Op.bytesLess b a=true
 |[],[],h=>absurd rfl h
 |[],_::_,_=> .inl rfl
 |_::_,[],_=> .inr rfl
 |a::x,b::y,h=>by
  simp only[Op.bytesLess,Bool.or_eq_true,decide_eq_true_eq,Bool.and_eq_true,beq_iff_eq]
  by_cases hab:a=b
  ·subst hab
   have:x≠y:=fun e=>h (by rw[e])
   rcases less_total x y this with q|q
   ·exact .inl (.inr ⟨rfl,q⟩)
   ·exact .inr (.inr ⟨rfl,q⟩)
  ·rcases UInt8.lt_or_lt_of_ne hab with q|q
   ·exact .inl (.inl q)
   ·exact .inr (.inl q)
theorem ZpQ {x y:ByteArray} (h:x.toList=y.toList):x=y:=by
 rw[ByteArray.toList_eq,ByteArray.toList_eq] at h
 cases x;cases y
 congr 1
 exact Array.ext' h
theorem Zca (x:ByteArray):ZX x x=false:=Zhg _
theorem Zet {x y z:ByteArray} (h1:ZX x y=true) (h2:ZX y z=true):ZX x z=true:=ZiD _ _ _ h1 h2
theorem ZmK {x y:ByteArray} (h:x≠y):ZX x y=true∨ZX y x=true:=less_total _ _ fun e=>h (ZpQ e)
theorem ZdP {x y:ByteArray} (h:ZX x y=true):x≠y:=fun e=>by subst e;rw[Zca] at h;cases h
def cmpS (x y:ByteArray):Int:=if x=y then 0 else if ZX x y=true then-1 else 1
theorem ZfD (x y:ByteArray):cmpS x y<0↔ZX x y=true:=by
 unfold cmpS
 split
 ·rename_i h;subst h;simp[Zca]
 ·split
  ·rename_i h;simp[h]
  ·rename_i h;simp[h]
theorem ZmL (x y:ByteArray):cmpS x y=0↔x=y:=by
 unfold cmpS
 split
 ·rename_i h;simp[h]
 ·rename_i h;split<;>simp[h]
theorem Zvm (x y:ByteArray) (q:cmpS x y<0):cmpS x y= -1:=by
 have:=(ZfD x y).1 q
 unfold cmpS;rw[if_neg (ZdP this),if_pos this]
theorem ZQ (l:List EntryR):Zaf l=true↔l.Pairwise fun a b=>ZX a.name b.name=true:=by
 induction l with
 |nil=>simp[Zaf]
 |cons a l ih=>
  cases l with
  |nil=>simp[Zaf]
  |cons b l=>
   simp only[Zaf,Bool.and_eq_true,ih]
   constructor
   ·rintro⟨h1,h2⟩
    refine .cons (fun c hc=> ?_) h2
    rcases List.mem_cons.1 hc with rfl|hc
    ·exact h1
    ·exact Zet h1 (List.rel_of_pairwise_cons h2 hc)
   ·intro h
    exact⟨List.rel_of_pairwise_cons h (by simp),h.of_cons⟩
theorem Zfc {l:List EntryR} (h:Zaf l=true) (p:EntryR→Bool):Zaf (l.filter p)=true:=
 (ZQ _).2 (((ZQ _).1 h).filter p)
theorem ZpR {l:List EntryR} (h:Zaf l=true) {a b:EntryR} (ha:a∈l) (hb:b∈l) (e:a.name=b.name):a=b:=by
 have hp:=(ZQ _).1 h
 induction l with
 |nil=>cases ha
 |cons c l ih=>
  rcases List.mem_cons.1 ha with rfl|ha1<;>rcases List.mem_cons.1 hb with rfl|hb1
  ·rfl
  ·have:=List.rel_of_pairwise_cons hp hb1;exact absurd e (ZdP this)
  ·have:=List.rel_of_pairwise_cons hp ha1;exact absurd e.symm (ZdP this)
  ·exact ih ((ZQ _).2 hp.of_cons) ha1 hb1 hp.of_cons
theorem ZfW:∀{p:Option ByteArray} {l:List EntryR},ZbE p l=true→Zaf l=true∧∀x∈l,nameOk x.name=true∧1≤x.ino
 |_,[],_=>⟨rfl,by simp⟩
 |p,a::l,h=>by
  simp only[ZbE,Bool.and_eq_true,decide_eq_true_eq] at h
  obtain⟨h1,h2⟩:=ZfW h.2
  refine⟨?_,fun x hx=> ?_⟩
  ·cases l with
   |nil=>rfl
   |cons b l=>
    simp only[Zaf,Bool.and_eq_true]
    have:=h.2
    simp only[ZbE,Option.map_some,Option.getD_some,Bool.and_eq_true] at this
    exact⟨this.1.2,h1⟩
  ·rcases List.mem_cons.1 hx with rfl|hx
   ·exact⟨h.1.1.1,h.1.1.2⟩
   ·exact h2 x hx
theorem Zlf:∀{p:Option ByteArray} {l:List EntryR},Zaf l=true→(∀x∈l,nameOk x.name=true∧1≤x.ino)→(∀q x,p=some q→x∈l→ZX q x.name=true)→ZbE p l=true
 |_,[],_,_,_=>rfl
 |p,a::l,h,h1,h2=>by
  have hp:=(ZQ _).1 h
  simp only[ZbE,Bool.and_eq_true,decide_eq_true_eq]
  refine⟨⟨h1 a (by simp),?_⟩,Zlf ((ZQ _).2 hp.of_cons) (fun x hx=>h1 x (by simp[hx])) fun q x hq hx=> ?_⟩
  ·cases p with
   |none=>rfl
   |some q=>simpa using h2 q a rfl (by simp)
  ·injection hq with hq;subst hq
   exact List.rel_of_pairwise_cons hp hx
structure RowE (l:List EntryR):Prop where
 len:l.length≤256
 rise:Zaf l=true
 ok:∀x∈l,nameOk x.name=true∧1≤x.ino
theorem ZbB (l:List EntryR):ZhZ l=true↔RowE l:=by
 simp only[ZhZ,Bool.and_eq_true,decide_eq_true_eq]
 constructor
 ·rintro⟨h1,h2⟩
  obtain⟨h3,h4⟩:=ZfW h2
  exact⟨h1,h3,h4⟩
 ·rintro⟨h1,h2,h3⟩
  exact⟨h1,Zlf h2 h3 (by simp)⟩
theorem findE_some {l:List EntryR} (h:Zaf l=true) {x:EntryR} (hx:x∈l):findE l x.name=(x.ino,true):=by
 unfold findE
 cases hf:l.find? (fun y=>decide (y.name=x.name)) with
 |none=>have:=List.find?_eq_none.1 hf x hx;simp at this
 |some y=>
  have h1:=List.mem_of_find?_eq_some hf
  have h2:=List.find?_some hf
  simp only[decide_eq_true_eq] at h2
  have:=ZpR h h1 hx h2
  subst this;rfl
theorem findE_cases (l:List EntryR) (s:ByteArray):(∃x∈l,x.name=s∧findE l s=(x.ino,true))∨((∀x∈l,x.name≠s)∧findE l s=(0,false)):=by
 unfold findE
 cases hf:l.find? (fun y=>decide (y.name=s)) with
 |none=>exact .inr ⟨fun x hx e=>by have:=List.find?_eq_none.1 hf x hx;simp[e] at this,rfl⟩
 |some y=>
  have h2:=List.find?_some hf
  simp only[decide_eq_true_eq] at h2
  exact .inl ⟨y,List.mem_of_find?_eq_some hf,h2,rfl⟩
theorem ZpS (x:EntryR) (l:List EntryR) (s:ByteArray):findE (x::l) s=if x.name=s then(x.ino,true) else findE l s:=by
 unfold findE;by_cases h:x.name=s<;>simp[h]
theorem Zlg {l:List EntryR} (h:Zaf l=true) (s:ByteArray) (ino:Int):findE l s=(ino,true)↔∃x∈l,x.name=s∧x.ino=ino:=by
 constructor
 ·intro he
  rcases findE_cases l s with⟨x,h1,h2,h3⟩|⟨_,h3⟩
  ·rw[h3] at he;exact⟨x,h1,h2,(Prod.mk.inj he).1⟩
  ·rw[h3] at he;cases he
 ·rintro⟨x,h1,rfl,rfl⟩;exact findE_some h h1
theorem Zbs {l:List EntryR} {s:ByteArray}:(findE l s).2=false↔∀x∈l,x.name≠s:=by
 rcases findE_cases l s with⟨x,h1,h2,h3⟩|⟨h1,h3⟩
 ·rw[h3];simp only[Bool.true_eq_false,false_iff];exact fun q=>q x h1 h2
 ·rw[h3];simp only[true_iff];exact h1
theorem ZpT {l l':List EntryR} (h:Zaf l=true) (h':Zaf l'=true) {s:ByteArray} (hm:∀x,x.name=s→(x∈l↔x∈l')):findE l s=findE l' s:=by
 rcases findE_cases l s with⟨x,h1,h2,h3⟩|⟨h1,h3⟩
 ·rw[h3];subst h2;rw[findE_some h' ((hm x rfl).1 h1)]
 ·rcases findE_cases l' s with⟨x,h4,h5,h6⟩|⟨h4,h6⟩
  ·exact absurd h5 (h1 x ((hm x h5).2 h4))
  ·rw[h3,h6]
def plE (l:List EntryR) (s:ByteArray):Nat:=(l.takeWhile fun x=>ZX x.name s).length
theorem plE_le (l:List EntryR) (s:ByteArray):plE l s≤l.length:=(List.takeWhile_sublist _).length_le
theorem Zcb {α:Type} (p:α→Bool):∀(l:List α) (i:Nat) (h:i<(l.takeWhile p).length),∃h':i<l.length,p l[i]=true
 |[],i,h=>by simp at h
 |a::l,i,h=>by
  rw[List.takeWhile_cons] at h
  split at h
  ·rename_i hp
   cases i with
   |zero=>exact⟨by simp,hp⟩
   |succ i=>
    obtain⟨h',h2⟩:=Zcb p l i (by simpa using h)
    exact⟨by simpa using h',by simpa using h2⟩
  ·simp at h
theorem ZcN {α:Type} (p:α→Bool):∀(l:List α) (h:(l.takeWhile p).length<l.length),p (l[(l.takeWhile p).length])=false
 |[],h=>by simp at h
 |a::l,h=>by
  by_cases hp:p a=true
  ·have e:(a::l).takeWhile p=a::l.takeWhile p:=by simp[hp]
   simp only[e,List.length_cons,List.getElem_cons_succ]
   exact ZcN p l (by rw[e] at h;simpa using h)
  ·have hp':p a=false:=by simpa using hp
   have e:(a::l).takeWhile p=[]:=by simp[hp']
   simp only[e,List.length_nil,List.getElem_cons_zero];exact hp'
abbrev atE (l:List EntryR) (s:ByteArray) (i:Nat):Int:=cmpS (l.getD i .zero).name s
theorem Zeu {l:List EntryR} (s:ByteArray) {i:Nat} (h:i<l.length):atE l s i=cmpS l[i].name s:=by simp[atE,List.getD_eq_getElem?_getD,h]
theorem bs_plE {l:List EntryR} (h:Zaf l=true) (s:ByteArray):bsGo (atE l s) 0 0 l.length=plE l s:=by
 have hp:=List.pairwise_iff_getElem.1 ((ZQ _).1 h)
 have hmono:∀a b,a<b→b<l.length→atE l s a≤atE l s b:=by
  intro a b hab hb
  have ha:a<l.length:=by omega
  rw[Zeu s ha,Zeu s hb]
  have h1:=hp a b ha hb hab
  by_cases h2:ZX l[b].name s=true
  ·have h3:cmpS l[a].name s<0:=(ZfD _ _).2 (Zet h1 h2)
   have h4:cmpS l[b].name s<0:=(ZfD _ _).2 h2
   have h5:∀x y:ByteArray,cmpS x y<0→cmpS x y= -1:=Zvm
   rw[h5 _ _ h3,h5 _ _ h4];exact Int.le_refl _
  ·by_cases h3:l[b].name=s
   ·have h4:cmpS l[a].name s<0:=(ZfD _ _).2 (h3▸h1)
    have:cmpS l[b].name s=0:=(ZmL _ _).2 h3
    omega
   ·have:cmpS l[b].name s=1:=by unfold cmpS;rw[if_neg h3,if_neg h2]
    have h5:cmpS l[a].name s≤1:=by
     unfold cmpS;split
     ·omega
     ·split<;>omega
    omega
 obtain⟨_,q2,q3,q4⟩:=ZkT (key:=0) hmono l.length 0 l.length rfl (Nat.zero_le _) (Nat.le_refl _) (fun m hm=>by omega) (fun m h1 h2=>by omega)
 generalize bsGo (atE l s) 0 0 l.length=b at*
 rcases Nat.lt_trichotomy b (plE l s) with q|q|q
 ·obtain⟨h',h2⟩:=Zcb _ l b q
  have:=q4 b (Nat.le_refl _) h'
  rw[Zeu s h'] at this
  have:=(ZfD l[b].name s).2 h2
  omega
 ·exact q
 ·have hl:plE l s<l.length:=by omega
  have h2:=ZcN (fun x:EntryR=>ZX x.name s) l hl
  have:=q3 (plE l s) q
  rw[Zeu s hl,ZfD] at this
  rw[show ZX l[plE l s].name s=false from h2] at this
  cases this
theorem Zgo {l:List EntryR} (h:Zaf l=true) (s:ByteArray):(decide (plE l s<l.length)&&decide (atE l s (plE l s)=0))=(findE l s).2∧((findE l s).2=true→∃hp:plE l s<l.length,l[plE l s].name=s∧(findE l s).1=l[plE l s].ino):=by
 have hp:=List.pairwise_iff_getElem.1 ((ZQ _).1 h)
 by_cases hl:plE l s<l.length
 ·rw[Zeu s hl]
  by_cases hn:l[plE l s].name=s
  ·have h1:=findE_some h (List.getElem_mem hl)
   rw[hn] at h1
   rw[h1]
   refine⟨by simp[hl,(ZmL _ _).2 hn],fun _=>⟨hl,hn,rfl⟩⟩
  ·have h2:=ZcN (fun x:EntryR=>ZX x.name s) l hl
   have h2:ZX l[plE l s].name s=false:=h2
   have hf:(findE l s).2=false:=Zbs.2 fun x hx e=>by
    obtain⟨j,hj,rfl⟩:=List.getElem_of_mem hx
    rcases Nat.lt_trichotomy j (plE l s) with q|q|q
    ·obtain⟨h',h3⟩:=Zcb _ l j q
     simp only[e,Zca] at h3
     cases h3
    ·subst q;exact hn e
    ·have:=hp _ _ hl hj q
     rw[e,h2] at this;cases this
   refine⟨?_,fun q=>by rw[hf] at q;cases q⟩
   rw[hf]
   simp[mt (ZmL _ _).1 hn]
 ·have hf:(findE l s).2=false:=Zbs.2 fun x hx e=>by
   obtain⟨j,hj,rfl⟩:=List.getElem_of_mem hx
   obtain⟨h',h3⟩:=Zcb (fun x:EntryR=>ZX x.name s) l j (by simp only[plE] at hl;omega)
   simp only[e,Zca] at h3
   cases h3
  refine⟨by rw[hf];simp[hl],fun q=>by rw[hf] at q;cases q⟩
theorem ZmM (l:List EntryR) (s:ByteArray) (ino:Int):insE l s ino=insL l (plE l s) ⟨s,ino⟩:=by
 simp only[insE,insL,plE]
 have h1:∀(p:EntryR→Bool) (l:List EntryR),l.take (l.takeWhile p).length=l.takeWhile p∧l.drop (l.takeWhile p).length=l.dropWhile p:=by
  intro p l
  induction l with
  |nil=>exact⟨rfl,rfl⟩
  |cons a l ih=>
   by_cases hp:p a=true
   ·simp[hp,ih.1,ih.2]
   ·simp[hp]
 rw[(h1 _ l).1,(h1 _ l).2]
end Go.Cx
set_option linter.unusedVariables false
set_option linter.unusedSimpArgs false
namespace Go.Cx
abbrev idI:Int→Int:=fun x=>x
abbrev ZaI (l:List Int):Bool:=Zn idI l
theorem Zsw (l:List Int) (n:Int):Zbz l n=putS idI l n:=rfl
theorem ZdQ {l:List Int} (h:ZaI l=true) (n:Int):ZaI (Zbz l n)=true∧∀y,y∈Zbz l n↔y=n∨y∈l:=by
 obtain⟨h1,h2⟩:=putS_spec idI h n
 refine⟨h1,fun y=> ?_⟩
 rw[Zsw,h2]
 constructor
 ·rintro(h|h)
  ·exact .inl h
  ·exact .inr h.1
 ·rintro(h|h)
  ·exact .inl h
  ·by_cases e:y=n
   ·exact .inl e
   ·exact .inr ⟨h,e⟩
theorem ZiE:∀(l a:List Int),ZaI a=true→ZaI (l.foldl Zbz a)=true∧∀y,y∈l.foldl Zbz a↔y∈a∨y∈l
 |[],a,h=>⟨h,by simp⟩
 |x::l,a,h=>by
  obtain⟨h1,h2⟩:=ZdQ h x
  obtain⟨h3,h4⟩:=ZiE l (Zbz a x) h1
  refine⟨h3,fun y=> ?_⟩
  rw[List.foldl_cons,h4,h2]
  simp only[List.mem_cons]
  constructor
  ·rintro((h|h)|h)
   ·exact .inr (.inl h)
   ·exact .inl h
   ·exact .inr (.inr h)
  ·rintro(h|h|h)
   ·exact .inl (.inr h)
   ·exact .inl (.inl h)
   ·exact .inr h
theorem Zak (l:List Int):ZaI (numsS l)=true∧∀y,y∈numsS l↔y∈l:=by
 obtain⟨h1,h2⟩:=ZiE l [] rfl
 exact⟨h1,fun y=>by rw[numsS,h2];simp⟩
theorem ZmN (l:List Int):(l.mergeSort fun x y=>decide (x≤y)).Pairwise (·≤ ·):=by
 have:=List.pairwise_mergeSort (le:=fun x y:Int=>decide (x≤y)) (fun a b c h1 h2=>by simp at*;omega) (fun a b=>by simp;omega) l
 exact this.imp fun h=>by simpa using h
theorem ZpU {l:List Int} (h:ZaI l=true):numsS l=l:=by
 obtain⟨h1,h2⟩:=Zak l
 exact Zai idI h1 h h2
end Go.Cx
namespace Go.Cx
def firstS:List Int→Int
 |[]=>0
 |a::l=>if a≠0 then a else firstS l
def unlessS (b:Bool) (e:Int):Int:=if b=true then e else 0
theorem insE_mem (l:List EntryR) (s:ByteArray) (ino:Int) (y:EntryR):y∈insE l s ino↔y=⟨s,ino⟩∨y∈l:=by
 rw[ZmM,ZjL]
theorem ZmO (l:List EntryR) (s:ByteArray) (ino:Int):(insE l s ino).length=l.length+1:=by
 rw[ZmM];simp
theorem ZpV {l:List EntryR} (h:Zaf l=true) {s:ByteArray} (hn:∀x∈l,x.name≠s) (ino:Int):Zaf (insE l s ino)=true:=by
 rw[ZQ] at h⊢
 unfold insE
 have hsp:l.takeWhile (fun x=>ZX x.name s)++l.dropWhile (fun x=>ZX x.name s)=l:=List.takeWhile_append_dropWhile
 have h':=h
 rw[←hsp,List.pairwise_append] at h'
 obtain⟨h1,h2,h3⟩:=h'
 have hd:∀y∈l.dropWhile (fun x=>ZX x.name s),ZX s y.name=true:=by
  intro y hy
  have hyl:y∈l:=(List.dropWhile_sublist _).subset hy
  cases hdw:l.dropWhile (fun x=>ZX x.name s) with
  |nil=>rw[hdw] at hy;cases hy
  |cons z r=>
   have hz:ZX z.name s=false:=by
    have:=List.head?_dropWhile_not (fun x:EntryR=>ZX x.name s) l
    rw[hdw] at this
    simpa using this
   have hzl:z∈l:=(List.dropWhile_sublist _).subset (by rw[hdw];simp)
   have hsz:ZX s z.name=true:=(ZmK (hn z hzl)).resolve_left (by rw[hz];simp)
   rw[hdw] at hy h2
   rcases List.mem_cons.1 hy with rfl|hy
   ·exact hsz
   ·exact Zet hsz ((List.pairwise_cons.1 h2).1 y hy)
 have ht:∀y∈l.takeWhile (fun x=>ZX x.name s),ZX y.name s=true:=fun y hy=>by
  have:=List.all_takeWhile (p:=fun x:EntryR=>ZX x.name s) (l:=l)
  exact List.all_eq_true.1 this y hy
 rw[List.pairwise_append,List.pairwise_cons]
 exact⟨h1,⟨hd,h2⟩,fun a ha b hb=>by
  rcases List.mem_cons.1 hb with rfl|hb
  ·exact ht a ha
  ·exact h3 a ha b hb⟩
theorem ZpW {l:List EntryR} (h:RowE l) (s:ByteArray) (ino:Int):RowE (enterE l s ino).1:=by
 unfold enterE
 split
 ·exact h
 ·rename_i h1
  split
  ·exact h
  ·rename_i h2
   split
   ·exact h
   ·rename_i h3
    split
    ·exact h
    ·rename_i h4
     have hn:∀x∈l,x.name≠s:=Zbs.1 (by simpa using h3)
     refine⟨by rw[ZmO];omega,ZpV h.rise hn ino,fun x hx=> ?_⟩
     rcases(insE_mem l s ino x).1 hx with rfl|hx
     ·refine⟨?_,by simp only;omega⟩
      unfold checkS at h1
      split at h1
      ·assumption
      ·simp at h1
     ·exact h.ok x hx
theorem Zvn {l:List EntryR} (h:RowE l) (s:ByteArray):RowE (outE l s):=
 ⟨Nat.le_trans (List.length_filter_le _ _) h.len,Zfc h.rise _,fun x hx=>h.ok x (List.mem_filter.1 hx).1⟩
theorem ZpX {l:List EntryR} (h:RowE l) (s:ByteArray):RowE (leaveE l s).1:=by
 unfold leaveE
 split
 ·exact Zvn h s
 ·exact h
theorem RowE.nil:RowE []:=⟨by simp,rfl,by simp⟩
theorem Zg.row {f:FSR} (h:Zg f) (k:Int):RowE (findB f.l k).1.l:=by
 rcases findB_cases f.l k with⟨n,hn,hk,e⟩|e
 ·rw[e];exact(ZbB _).1 ((Zq n).1 (h.ok n hn)).row
 ·rw[e];exact .nil
theorem Zg.num {f:FSR} (h:Zg f) (k:Int):0≤(findB f.l k).1.ino∧(findB f.l k).1.ino<f.next:=by
 rcases findB_cases f.l k with⟨n,hn,hk,e⟩|e
 ·rw[e];exact⟨by have:=((Zq n).1 (h.ok n hn)).ino;show 0≤n.ino;omega,h.lt n hn⟩
 ·rw[e];have:=h.next;exact⟨by decide,by show(0:Int)<_;omega⟩
theorem Zg.links {f:FSR} (h:Zg f) (k:Int):0≤(findB f.l k).1.links∧(findB f.l k).1.links≤64:=by
 rcases findB_cases f.l k with⟨n,hn,hk,e⟩|e
 ·rw[e];exact⟨((Zq n).1 (h.ok n hn)).l0,((Zq n).1 (h.ok n hn)).l64⟩
 ·rw[e];exact⟨by decide,by decide⟩
theorem Zg.text {f:FSR} (h:Zg f) (k:Int):(findB f.l k).1.text.size≤4096:=by
 rcases findB_cases f.l k with⟨n,hn,hk,e⟩|e
 ·rw[e];exact((Zq n).1 (h.ok n hn)).size
 ·rw[e];decide
theorem Zg.dirRow {f:FSR} (h:Zg f) (k:Int):RowE (dirD f k).1.l:=by
 unfold dirD
 split
 ·exact .nil
 ·split
  ·exact .nil
  ·exact h.row k
theorem ZaZ {f:FSR} {d:Int} (h:(dirD f d).2=0):(findB f.l d).2=true∧(findB f.l d).1.kind=2∧(dirD f d).1=(findB f.l d).1:=by
 unfold dirD at h⊢
 split at h
 ·simp at h
 ·split at h
  ·simp at h
  ·rename_i h1 h2
   rw[if_neg h1,if_neg h2]
   exact⟨by simpa using h1,by simpa using h2,rfl⟩
theorem ZdR {f:FSR} {d:Int} {s:ByteArray} (h:(lookD f d s).2=0):(dirD f d).2=0∧checkS s=0∧(findE (dirD f d).1.l s).2=true∧(findB f.l (findE (dirD f d).1.l s).1).2=true∧(lookD f d s).1=(findB f.l (findE (dirD f d).1.l s).1).1:=by
 unfold lookD at h⊢
 by_cases h1:(dirD f d).2≠0
 ·rw[if_pos h1] at h;exact absurd h h1
 rw[if_neg h1] at h⊢
 by_cases h2:checkS s≠0
 ·rw[if_pos h2] at h;exact absurd h h2
 rw[if_neg h2] at h⊢
 by_cases h3:(findE (dirD f d).1.l s).2=false
 ·rw[if_pos h3] at h;simp at h
 rw[if_neg h3] at h⊢
 by_cases h4:(findB f.l (findE (dirD f d).1.l s).1).2=false
 ·rw[if_pos h4] at h;simp at h
 rw[if_neg h4]
 exact⟨by simpa using h1,by simpa using h2,by simpa using h3,by simpa using h4,rfl⟩
theorem Zfd {f:FSR} {d:Int} {s:ByteArray} (h:(lookD f d s).2=0):(lookD f d s).1∈f.l:=by
 obtain⟨_,_,_,h4,h5⟩:=ZdR h
 rw[h5];exact(Zk h4).1
theorem put_len {f:FSR} (h:Zn NodeR.ino f.l=true) {n:NodeR} (hf:(findB f.l n.ino).2=true):(putB f n).l.length=f.l.length:=by
 unfold putB
 have:plc f.l n.ino<f.l.length∧ZbV f.l (plc f.l n.ino)=n.ino:=by
  unfold findB at hf
  split at hf
  ·assumption
  ·simp at hf
 rw[if_pos this];simp
theorem Zvo {f:FSR} {n:NodeR} (hn:n.ino<f.next):(putB f n).next=f.next:=by
 show max f.next (n.ino+1)=f.next;omega
theorem Zg.again {f:FSR} (h:Zg f) {n:NodeR} (hn:nodeOk n=true) (hf:(findB f.l n.ino).2=true):Zg (putB f n)∧(putB f n).next=f.next∧(putB f n).l.length=f.l.length:=by
 have hl:=put_len h.rise hf
 have hlt:n.ino<f.next:=by
  have:=h.lt _ (Zk hf).1
  rwa[(Zk hf).2] at this
 exact⟨h.put hn (by rw[hl];exact h.len),Zvo hlt,hl⟩
theorem ZpY {n:NodeR} (h:nodeOk n=true) (hk:n.kind=2) {l:List EntryR} (hl:RowE l):nodeOk {n with l:=l}=true:=by
 have g:=(Zq n).1 h
 exact(Zq _).2 ⟨g.ino,g.k1,g.k3,g.l0,g.l64,g.size,(ZbB l).2 hl,g.dir,fun q=>absurd hk q⟩
theorem ZmP {n:NodeR} (h:nodeOk n=true) {l:List EntryR} (hl:RowE l) (hn:n.l.length=0→l.length=0):nodeOk {n with l:=l}=true:=by
 have g:=(Zq n).1 h
 exact(Zq _).2 ⟨g.ino,g.k1,g.k3,g.l0,g.l64,g.size,(ZbB l).2 hl,g.dir,fun q=>hn (g.els q)⟩
theorem ZfX {n:NodeR} (h:nodeOk n=true) {k:Int} (h0:0≤k) (h1:k≤64):nodeOk {n with links:=k}=true:=by
 have g:=(Zq n).1 h
 exact(Zq _).2 ⟨g.ino,g.k1,g.k3,h0,h1,g.size,g.row,g.dir,g.els⟩
theorem ZmQ {n:NodeR} (h:nodeOk n=true) (hk:n.kind≠2) {t:ByteArray} (ht:t.size≤4096):nodeOk {n with text:=t}=true:=by
 have g:=(Zq n).1 h
 exact(Zq _).2 ⟨g.ino,g.k1,g.k3,g.l0,g.l64,ht,g.row,fun q=>absurd q hk,g.els⟩
structure Zfe (f g:FSR):Prop where
 rows:Zg g
 next:g.next=f.next
 len:g.l.length≤f.l.length
theorem Zfe.refl {f:FSR} (h:Zg f):Zfe f f:=⟨h,rfl,Nat.le_refl _⟩
theorem Zfe.trans {f g k:FSR} (h1:Zfe f g) (h2:Zfe g k):Zfe f k:=⟨h2.rows,h2.next.trans h1.next,Nat.le_trans h2.len h1.len⟩
theorem Zg.find_ok {f:FSR} (h:Zg f) {d:Int} (hd:(findB f.l d).2=true):nodeOk (findB f.l d).1=true∧(findB f.l d).1.ino=d:=⟨h.ok _ (Zk hd).1,(Zk hd).2⟩
theorem ZaJ {f:FSR} (h:Zg f) {dir:Int} (hd:(findB f.l dir).2=true) (hk:(findB f.l dir).1.kind=2) (s:ByteArray) (ino:Int):Zfe f (enteredD f dir s ino):=by
 obtain⟨h1,h2⟩:=h.find_ok hd
 obtain⟨a,b,c⟩:=h.again (n:={(findB f.l dir).1 with l:=(enterE (findB f.l dir).1.l s ino).1}) (ZpY h1 hk (ZpW (h.row dir) s ino)) (by simp only[h2];exact hd)
 exact⟨a,b,Nat.le_of_eq c⟩
theorem ZpZ {l:List EntryR} (s:ByteArray) (h:l.length=0):(leaveE l s).1.length=0:=by
 have:l=[]:=List.eq_nil_of_length_eq_zero h
 subst this;rfl
theorem ZbQ {f:FSR} (h:Zg f) {dir:Int} (hd:(findB f.l dir).2=true) (s:ByteArray):Zfe f (leftD f dir s):=by
 obtain⟨h1,h2⟩:=h.find_ok hd
 obtain⟨a,b,c⟩:=h.again (n:={(findB f.l dir).1 with l:=(leaveE (findB f.l dir).1.l s).1}) (ZmP h1 (ZpX (h.row dir) s) (ZpZ s)) (by simp only[h2];exact hd)
 exact⟨a,b,Nat.le_of_eq c⟩
theorem Zsx {f:FSR} (h:Zg f) {ino:Int} (hd:(findB f.l ino).2=true):Zfe f (ZjQ f ino):=by
 unfold ZjQ
 split
 ·exact⟨h.out ino,rfl,List.length_filter_le _ _⟩
 ·rename_i hl
  obtain⟨h1,h2⟩:=h.find_ok hd
  have g:=h.links ino
  obtain⟨a,b,c⟩:=h.again (n:={(findB f.l ino).1 with links:=(findB f.l ino).1.links -1}) (ZfX h1 (by omega) (by omega)) (by simp only[h2];exact hd)
  exact⟨a,b,Nat.le_of_eq c⟩
theorem Zal {f:FSR} (h:Zg f) {dir:Int} (hd:(findB f.l dir).2=true) (s:ByteArray) (q:Int):findB (leftD f dir s).l q=if q=dir then({(findB f.l dir).1 with l:=(leaveE (findB f.l dir).1.l s).1},true) else findB f.l q:=by
 unfold leftD
 rw[ZaY h.rise]
 simp only[(h.find_ok hd).2]
theorem Zao {f:FSR} (h:Zg f) {dir:Int} (hd:(findB f.l dir).2=true) (s:ByteArray) (ino:Int) (q:Int):findB (enteredD f dir s ino).l q=if q=dir then({(findB f.l dir).1 with l:=(enterE (findB f.l dir).1.l s ino).1},true) else findB f.l q:=by
 unfold enteredD
 rw[ZaY h.rise]
 simp only[(h.find_ok hd).2]
theorem Zhh {f:FSR} (h:Zg f) {ino:Int} (hd:(findB f.l ino).2=true) (q:Int):findB (ZjQ f ino).l q=if q=ino then(if(findB f.l ino).1.links≤1 then(.zero,false) else({(findB f.l ino).1 with links:=(findB f.l ino).1.links -1},true)) else findB f.l q:=by
 unfold ZjQ
 split
 ·rename_i hl
  rw[Zgm h.rise]
 ·rw[ZaY h.rise]
  simp only[(h.find_ok hd).2]
theorem Zqa {f:FSR} (h:Zg f) {dir:Int} (hd:(findB f.l dir).2=true) (s:ByteArray) {ino:Int} (hne:ino≠dir):
  withoutD f dir s ino=if(findB f.l ino).1.links≤1 then outF (leftD f dir s) ino else putB (leftD f dir s) {(findB f.l ino).1 with links:=(findB f.l ino).1.links -1}:=by
 unfold withoutD ZjQ
 rw[Zal h hd,if_neg hne]
theorem Zlh {f:FSR} (h:Zg f) {dir:Int} (hd:(findB f.l dir).2=true) (s:ByteArray) {ino:Int} (hi:(findB f.l ino).2=true):Zfe f (withoutD f dir s ino):=by
 have h1:=ZbQ h hd s
 refine h1.trans (Zsx h1.rows ?_)
 rw[Zal h hd]
 split
 ·rfl
 ·exact hi
theorem Zli {f:FSR} (h:Zg f) {dir:Int} {s:ByteArray} (hl:(lookD f dir s).2=0):Zfe f (withoutD f dir s (lookD f dir s).1.ino):=by
 obtain⟨h1,h2,h3,h4,h5⟩:=ZdR hl
 refine Zlh h (ZaZ h1).1 s ?_
 rw[h5,(h.find_ok h4).2];exact h4
theorem ZiF {f:FSR} (h:Zg f) (to:Int) (t:ByteArray):Zfe f (clearD f to t):=by
 unfold clearD
 split
 ·rename_i hl;exact Zli h hl
 ·exact .refl h
def mayD (f:FSR) (d:NodeR) (s:ByteArray) (n:NodeR):Int:=
 firstS [checkS s,unlessS (findE d.l s).2 7,unlessS (decide (256≤f.l.length)||decide (256≤d.l.length)) 12,unlessS (!nodeOk n||decide (0<n.l.length)) 1]
theorem ZmR (f:FSR) (dir:Int) (s:ByteArray) (n:NodeR):
  addD f dir s n=if firstS [(dirD f dir).2,mayD f (dirD f dir).1 s (newN f n)]=0 then(putB (enteredD f dir s f.next) (newN f n),0) else(f,firstS [(dirD f dir).2,mayD f (dirD f dir).1 s (newN f n)]):=by
 unfold addD mayD
 generalize dirD f dir=D
 obtain⟨d,e⟩:=D
 simp only
 have hl:(newN f n).l=n.l:=rfl
 rw[hl]
 generalize newN f n=m
 by_cases q1:e=0
 case neg=>simp[q1,firstS]
 by_cases q2:checkS s=0
 case neg=>simp[q1,q2,firstS]
 cases q3:(findE d.l s).2
 case true=>simp[q1,q2,firstS,unlessS]
 by_cases q4:256≤f.l.length∨256≤d.l.length
 ·have q4':(decide (256≤f.l.length)||decide (256≤d.l.length))=true:=by simpa using q4
  simp[q1,q2,firstS,unlessS,q4,q4']
 ·have q4':(decide (256≤f.l.length)||decide (256≤d.l.length))=false:=by simpa using q4
  rw[q4']
  by_cases q5:nodeOk m=false∨0<n.l.length
  ·have q5':(!nodeOk m||decide (0<n.l.length))=true:=by simpa using q5
   rw[q5']
   simp[q1,q2,firstS,unlessS,q4,q5]
  ·have q5':(!nodeOk m||decide (0<n.l.length))=false:=by simpa using q5
   rw[q5']
   simp[q1,q2,firstS,unlessS,q4,q5]
def giveE (f:FSR) (dir:Int) (s:ByteArray) (ino:Int):Int:=
 firstS [(dirD f dir).2,unlessS (!(findB f.l ino).2) 6,unlessS (decide ((findB f.l ino).1.kind=2)) 9,checkS s,unlessS (findE (dirD f dir).1.l s).2 7,unlessS (decide (256≤(dirD f dir).1.l.length)||decide (64≤(findB f.l ino).1.links)) 12]
theorem ZbG (f:FSR) (dir:Int) (s:ByteArray) (ino:Int):
  giveD f dir s ino=if giveE f dir s ino=0 then(putB (enteredD f dir s ino) {(findB f.l ino).1 with links:=(findB f.l ino).1.links+1},0) else(f,giveE f dir s ino):=by
 unfold giveD giveE
 generalize dirD f dir=D
 obtain⟨d,e⟩:=D
 generalize findB f.l ino=N
 obtain⟨n,is⟩:=N
 simp only
 by_cases q1:e=0
 case neg=>simp[q1,firstS]
 cases is with
 |false=>simp[q1,firstS,unlessS]
 |true=>
 by_cases q0:n.kind=2
 ·simp[q1,q0,firstS,unlessS]
 by_cases q2:checkS s=0
 case neg=>simp[q1,q0,q2,firstS,unlessS]
 cases q3:(findE d.l s).2
 case true=>simp[q1,q0,q2,firstS,unlessS]
 by_cases q4:256≤d.l.length∨64≤n.links
 ·have q4':(decide (256≤d.l.length)||decide (64≤n.links))=true:=by simpa using q4
  simp[q1,q0,q2,firstS,unlessS,q4,q4']
 ·have q4':(decide (256≤d.l.length)||decide (64≤n.links))=false:=by simpa using q4
  rw[q4']
  simp[q1,q0,q2,firstS,unlessS,q4]
theorem ZmS {f:FSR} {dir:Int} {s:ByteArray} {ino:Int} (h:giveE f dir s ino=0):(dirD f dir).2=0∧(findB f.l ino).2=true∧(findB f.l ino).1.kind≠2∧checkS s=0∧(findE (dirD f dir).1.l s).2=false∧(dirD f dir).1.l.length<256∧(findB f.l ino).1.links<64:=by
 unfold giveE at h
 generalize dirD f dir=D at*
 obtain⟨d,e⟩:=D
 generalize findB f.l ino=N at*
 obtain⟨n,is⟩:=N
 simp only at*
 by_cases q1:e=0
 case neg=>simp[q1,firstS] at h
 cases is with
 |false=>simp[q1,firstS,unlessS] at h
 |true=>
 by_cases q0:n.kind=2
 ·simp[q1,q0,firstS,unlessS] at h
 by_cases q2:checkS s=0
 case neg=>simp[q1,q0,q2,firstS,unlessS] at h
 cases q3:(findE d.l s).2
 case true=>simp[q1,q0,q2,q3,firstS,unlessS] at h
 by_cases q4:256≤d.l.length∨64≤n.links
 ·have q4':(decide (256≤d.l.length)||decide (64≤n.links))=true:=by simpa using q4
  rw[q4'] at h
  simp[q1,q0,q2,q3,firstS,unlessS] at h
 ·exact⟨q1,rfl,q0,q2,rfl,by omega,by omega⟩
theorem may_ok {f:FSR} {d:NodeR} {s:ByteArray} {n:NodeR} (h:mayD f d s n=0):checkS s=0∧(findE d.l s).2=false∧f.l.length<256∧d.l.length<256∧nodeOk n=true∧n.l.length=0:=by
 unfold mayD at h
 by_cases q2:checkS s=0
 case neg=>simp[q2,firstS,unlessS] at h
 cases q3:(findE d.l s).2
 case true=>simp[q2,q3,firstS,unlessS] at h
 by_cases q4:256≤f.l.length∨256≤d.l.length
 ·have q4':(decide (256≤f.l.length)||decide (256≤d.l.length))=true:=by simpa using q4
  rw[q4'] at h
  simp[q2,q3,firstS,unlessS] at h
 ·have q4':(decide (256≤f.l.length)||decide (256≤d.l.length))=false:=by simpa using q4
  rw[q4'] at h
  by_cases q5:nodeOk n=false∨0<n.l.length
  ·have q5':(!nodeOk n||decide (0<n.l.length))=true:=by simpa using q5
   rw[q5'] at h
   simp[q2,q3,firstS,unlessS] at h
  ·simp only[not_or,Bool.not_eq_false] at q5
   exact⟨q2,rfl,by omega,by omega,q5.1,by omega⟩
theorem Zlj {a b:Int} (h:firstS [a,b]=0):a=0∧b=0:=by
 simp only[firstS] at h
 split at h
 ·exact absurd h (by assumption)
 ·rename_i q
  simp only[ne_eq,Decidable.not_not] at q
  split at h
  ·exact absurd h (by assumption)
  ·rename_i q2
   exact⟨q,by simpa using q2⟩
theorem ZdS {f:FSR} (h:Zg f) (to:Int) (t:ByteArray) (q:Int) (hq:(lookD f to t).2=0→q≠(lookD f to t).1.ino) (hto:(lookD f to t).2=0→(lookD f to t).1.ino≠to):
  findB (clearD f to t).l q=if q=to∧(lookD f to t).2=0 then({(findB f.l to).1 with l:=(leaveE (findB f.l to).1.l t).1},true) else findB f.l q:=by
 unfold clearD
 by_cases hl:(lookD f to t).2=0
 ·rw[if_pos hl]
  obtain⟨h1,h2,h3,h4,h5⟩:=ZdR hl
  have hd:=(ZaZ h1).1
  have hs:=ZbQ h hd t
  have hi:=findB_of h.rise (Zfd hl)
  unfold withoutD
  rw[Zhh hs.rows (by rw[Zal h hd,if_neg (hto hl),hi]),if_neg (hq hl),Zal h hd]
  by_cases e:q=to
  ·rw[if_pos e,if_pos ⟨e,hl⟩]
  ·rw[if_neg e,if_neg (fun g=>e g.1)]
 ·rw[if_neg hl,if_neg (fun g=>hl g.2)]
end Go.Cx
set_option linter.unusedVariables false
set_option linter.unusedSimpArgs false
namespace Go.Cx
abbrev w64 (n:Int):Int:=IntKind.i64.wrap n
def ZbR:List CallR→Int→Int
 |[],n=>n
 |c::l,n=>if n≤2000 then ZbR l (w64 (w64 (w64 (n+c.name.size)+c.name2.size)+c.text.size)) else n
def ZiG (l:List CallR):Bool:=decide (ZbR l l.length≤2000)&&decide (l.length≤30)
theorem Zlk {l:List CallR} {i:Nat} (h:i<l.length) (n:Int) (hn:n≤2000):ZbR (l.drop i) n=ZbR (l.drop (i+1)) (w64 (w64 (w64 (n+(l[i]).name.size)+(l[i]).name2.size)+(l[i]).text.size)):=by
 rw[List.drop_eq_getElem_cons h,ZbR,if_pos hn]
theorem ZmT (l:List CallR) (n:Int) (hn:¬n≤2000):ZbR l n=n:=by
 cases l with
 |nil=>rfl
 |cons c l=>rw[ZbR,if_neg hn]
end Go.Cx
set_option linter.unusedVariables false
namespace Go.Cx
open Go.Lib
theorem Zqb {l:List Int} {a:Int} (h:ZaI l=true) (hl:∀x∈l,x<a):ZaI (l++[a])=true:=by
 rw[ZH] at h⊢
 rw[List.pairwise_append]
 exact⟨h,by simp,fun x hx y hy=>by simp at hy;subst hy;exact hl x hx⟩
theorem ZiH (d:List Int) (hd:d.Pairwise (·≤ ·)):∀m,m≤d.length→ZaI (compactUpTo d.toArray m)=true∧(∀y,y∈compactUpTo d.toArray m↔y∈d.take m)
 |0,_=>⟨rfl,by simp[compactUpTo]⟩
 |m+1,h=>by
  obtain⟨h1,h2⟩:=ZiH d hd m (by omega)
  have hm:m<d.length:=by omega
  have e:d.toArray[m]! =d[m]:=by simp[getElem!_pos,hm]
  rw[compactUpTo_succ,e]
  have htk:d.take (m+1)=d.take m++[d[m]]:=List.take_succ_eq_append_getElem hm
  by_cases hk:keeps d.toArray m=true
  ·rw[if_pos hk]
   refine⟨Zqb h1 fun x hx=> ?_,fun y=>by rw[htk,List.mem_append,List.mem_append,h2]⟩
   have hx:=(h2 x).1 hx
   obtain⟨j,hj,rfl⟩:=List.getElem_of_mem hx
   simp only[List.length_take] at hj
   simp only[List.getElem_take]
   simp only[keeps,decide_eq_true_eq] at hk
   have hjm:j<m:=by omega
   have hne:d[m]≠d[m -1]'(by omega):=by
    rcases hk with hk|hk
    ·omega
    ·simpa[getElem!_pos,hm,show m -1<d.length by omega] using hk
   have h3:=List.pairwise_iff_getElem.1 hd (m -1) m (by omega) hm (by omega)
   have h4:d[j]≤d[m -1]'(by omega):=by
    rcases Nat.lt_or_ge j (m -1) with q|q
    ·exact List.pairwise_iff_getElem.1 hd j (m -1) (by omega) (by omega) q
    ·have:j=m -1:=by omega
     subst this;exact Int.le_refl _
   omega
  ·rw[if_neg hk,List.append_nil]
   refine⟨h1,fun y=> ?_⟩
   simp only[keeps,decide_eq_true_eq,not_or,ne_eq,Decidable.not_not] at hk
   obtain⟨hk0,hk1⟩:=hk
   have e2:d[m]=d[m -1]'(by omega):=by simpa[getElem!_pos,hm,show m -1<d.length by omega] using hk1
   rw[h2,htk,List.mem_append]
   refine⟨.inl,fun h=>h.elim id fun h=> ?_⟩
   simp at h
   subst h
   rw[e2]
   exact List.mem_of_getElem (i:=m -1) (h:=by simp;omega) (by simp)
theorem Zdo (l:List Int):compact (l.mergeSort fun x y=>decide (x≤y))=numsS l:=by
 have hs:=ZmN l
 generalize hz:(l.mergeSort fun x y=>decide (x≤y))=z at*
 obtain⟨h1,h2⟩:=ZiH z hs z.length (Nat.le_refl _)
 obtain⟨h3,h4⟩:=Zak l
 refine Zai idI h1 h3 fun x=> ?_
 show x∈compactUpTo z.toArray z.length↔_
 rw[h2,h4,List.take_length,←hz];exact List.mem_mergeSort
theorem Zhi (l:List Int):(compact l).length≤l.length:=by
 unfold compact compactUpTo
 rw[List.length_map]
 exact Nat.le_trans (List.length_filter_le _ _) (by simp)
theorem ZmU {l:List Int} (h:l≠[]):compact l≠[]:=by
 unfold compact
 cases l with
 |nil=>exact absurd rfl h
 |cons a l=>
  intro e
  have:(0:Nat)∈(List.range (a::l).length).filter (keeps (a::l).toArray):=by
   rw[List.mem_filter]
   exact⟨by simp,by simp[keeps]⟩
  unfold compactUpTo at e
  rw[List.map_eq_nil_iff] at e
  rw[e] at this
  cases this
end Go.Cx
set_option linter.unusedVariables false
namespace Go.Cx
structure CalmF (f:FSR) (c:CallR):Prop where
 here:(c.kind=9∨c.kind=10)→(lookD f c.ino c.name).2=0→(lookD f c.ino c.name).1.ino≠c.ino
 there:c.kind=12→(lookD f c.to_ c.name2).2=0→(lookD f c.to_ c.name2).1.ino≠c.to_
end Go.Cx
namespace Go.Cx
structure Step (f g h:FSR) (P:Int→Prop):Prop where
 rise:Zn NodeR.ino h.l=true
 next:h.next≤g.next
 yes:∀q,P q→findB h.l q=findB g.l q
 no:∀q,¬P q→findB h.l q=findB f.l q
theorem Zvp {f g h:FSR} {P:Int→Prop} (hf:Zg f) (hg:Zg g) (H:Step f g h P) (k:Int) (hk:¬P k):Step f g ((changeS f g k).foldl applyOne h) (fun q=>q=k∨P q):=by
 unfold changeS
 by_cases h1:(findB g.l k).2=false
 ·rw[if_pos h1]
  simp only[List.foldl_cons,List.foldl_nil,applyOne,if_true]
  have hz:findB g.l k=(.zero,false):=Prod.ext (Zav h1) h1
  refine⟨Zan _ H.rise _,H.next,fun q hq=> ?_,fun q hq=> ?_⟩
  ·rw[Zgm H.rise]
   by_cases e:q=k
   ·rw[if_pos e,e,hz]
   ·rw[if_neg e];exact H.yes q (hq.resolve_left e)
  ·rw[Zgm H.rise,if_neg (fun e=>hq (.inl e))]
   exact H.no q (fun e=>hq (.inr e))
 rw[if_neg h1]
 have h1':(findB g.l k).2=true:=by simpa using h1
 obtain⟨m1,m2⟩:=Zk h1'
 by_cases h2:(findB f.l k).2=false∨(findB f.l k).1≠(findB g.l k).1
 ·rw[if_pos h2]
  simp only[List.foldl_cons,List.foldl_nil,applyOne,Bool.false_eq_true,if_false]
  have hlt:=hg.lt _ m1
  refine⟨(ZcL H.rise _).1,?_,fun q hq=> ?_,fun q hq=> ?_⟩
  ·show max h.next ((findB g.l k).1.ino+1)≤g.next
   have:=H.next;omega
  ·rw[ZaY H.rise]
   by_cases e:q=k
   ·rw[if_pos (e.trans m2.symm),e]
    exact Prod.ext rfl h1'.symm
   ·rw[if_neg (fun e2=>e (e2.trans m2))];exact H.yes q (hq.resolve_left e)
  ·rw[ZaY H.rise,if_neg (fun e2=>hq (.inl (e2.trans m2)))]
   exact H.no q (fun e=>hq (.inr e))
 ·rw[if_neg h2]
  show Step f g h _
  simp only[not_or,ne_eq,Decidable.not_not,Bool.not_eq_false] at h2
  refine⟨H.rise,H.next,fun q hq=> ?_,fun q hq=>H.no q (fun e=>hq (.inr e))⟩
  rcases hq with rfl|hq
  ·rw[H.no q hk];exact Prod.ext h2.2 (h2.1.trans h1'.symm)
  ·exact H.yes q hq
theorem Zop {f g:FSR} (hf:Zg f) (hg:Zg g):∀(ks:List Int) (h:FSR) (P:Int→Prop),Step f g h P→(∀k∈ks,¬P k)→ks.Nodup→Step f g ((ks.flatMap (changeS f g)).foldl applyOne h) (fun q=>q∈ks∨P q)
 |[],h,P,H,_,_=>by simpa using H
 |k::ks,h,P,H,hP,hn=>by
  have h1:=Zvp hf hg H k (hP k (by simp))
  obtain⟨n1,n2⟩:=List.nodup_cons.1 hn
  have h2:=Zop hf hg ks _ _ h1 (fun q hq e=>e.elim (fun e=>n1 (e▸hq)) (hP q (by simp[hq]))) n2
  rw[List.flatMap_cons,List.foldl_append]
  exact⟨h2.rise,h2.next,fun q hq=>h2.yes q (by simp only[List.mem_cons] at hq;rcases hq with(h|h)|h<;>simp[h]),fun q hq=>h2.no q (fun e=>hq (by simp only[List.mem_cons];rcases e with h|h|h<;>simp[h]))⟩
theorem ZmV {l:List Int} (h:ZaI l=true):l.Nodup:=by
 rw[ZH] at h
 exact h.imp fun h=>by show¬_=_;intro e;subst e;exact absurd h (Int.lt_irrefl _)
theorem Zcc {l:List NodeR} (h:Zn NodeR.ino l=true) (n:NodeR):n∈l↔findB l n.ino=(n,true):=by
 rw[Zdm h];simp
theorem Zsy {f g:FSR} (hf:Zg f) (hg:Zg g) (hn:f.next≤g.next):applyS f (changesS f g) g.next=g:=by
 obtain⟨r1,r2⟩:=Zak (f.l.map (·.ino)++g.l.map (·.ino))
 have H:=Zop hf hg (numsS (f.l.map (·.ino)++g.l.map (·.ino))) f (fun _=>False) ⟨hf.rise,hn,fun _ h=>h.elim,fun _ _=>rfl⟩ (fun _ _=>id) (ZmV r1)
 unfold applyS changesS
 generalize((numsS (f.l.map (·.ino)++g.l.map (·.ino))).flatMap (changeS f g)).foldl applyOne f=h at*
 have hm:∀q,q∈numsS (f.l.map (·.ino)++g.l.map (·.ino))↔(∃n∈f.l,n.ino=q)∨∃n∈g.l,n.ino=q:=fun q=>by rw[r2];simp
 have e:h.l=g.l:=by
  refine Zai NodeR.ino H.rise hg.rise fun n=> ?_
  rw[Zcc H.rise,Zcc hg.rise]
  by_cases hq:n.ino∈numsS (f.l.map (·.ino)++g.l.map (·.ino))
  ·rw[H.yes n.ino (.inl hq)]
  ·rw[H.no n.ino (fun e=>e.elim hq id)]
   have h1:¬findB f.l n.ino=(n,true):=fun e=>hq ((hm _).2 (.inl ⟨n,(Zcc hf.rise n).2 e,rfl⟩))
   have h2:¬findB g.l n.ino=(n,true):=fun e=>hq ((hm _).2 (.inr ⟨n,(Zcc hg.rise n).2 e,rfl⟩))
   exact⟨fun e=>absurd e h1,fun e=>absurd e h2⟩
 have hx:=H.next
 cases g with
 |mk gl gn=>
  simp only at e hx⊢
  rw[e]
  congr 1
  omega
theorem Zhj (a b:FSR) (k:Int):(changeS a b k).length≤1:=by
 unfold changeS
 split
 ·simp
 ·split<;>simp
theorem Zff (l:List Int):(numsS l).length≤l.length:=by
 have h:∀(l a:List Int),(l.foldl Zbz a).length≤a.length+l.length:=by
  intro l
  induction l with
  |nil=>intro a;simp
  |cons x l ih=>
   intro a
   have h1:=ih (Zbz a x)
   have h2:(Zbz a x).length≤a.length+1:=by
    have e1:a.takeWhile (fun y=>decide (y<x))++a.dropWhile (fun y=>decide (y<x))=a:=List.takeWhile_append_dropWhile
    have h3:(a.dropWhile fun y=>decide (y≤x)).length≤(a.dropWhile fun y=>decide (y<x)).length:=by
     clear e1 h1 ih
     induction a with
     |nil=>simp
     |cons y a iha=>
      simp only[List.dropWhile_cons]
      by_cases q1:y<x
      ·rw[if_pos (by simp;omega),if_pos (by simpa using q1)];exact iha
      ·rw[if_neg (c:=(decide (y<x))=true) (by simpa using q1)]
       split
       ·exact Nat.le_trans (List.dropWhile_sublist _).length_le (by simp)
       ·exact Nat.le_refl _
    have h4:=congrArg List.length e1
    simp only[List.length_append] at h4
    simp only[Zbz,List.length_append,List.length_cons]
    omega
   simp only[List.foldl_cons,List.length_cons]
   omega
 have:=h l []
 simp only[List.length_nil,Nat.zero_add] at this
 exact this
def cA:CallR:=⟨6,1,0,0,0,T [97],.empty,.empty⟩
theorem rowsN:Zdk newF=true:=by decide+kernel
def ZbS (o:List Int) (k:Int):List Int:=if k∈o then o else o++[k]
def ZaW (o:List Int) (ks:List Int):List Int:=ks.foldl ZbS o
def bfs (kids:Int→List Int):Nat→Nat→List Int→List Int
 |0,_,o=>o
 |n+1,k,o=>match o[k]? with
  |some x=>bfs kids n (k+1) (ZaW o (kids x))
  |none=>o
theorem Zqc (o:List Int) (k y:Int):y∈ZbS o k↔y∈o∨y=k:=by
 unfold ZbS
 split
 ·rename_i h;exact⟨.inl,fun h'=>h'.elim id fun e=>e▸h⟩
 ·simp
theorem addAll_mem:∀(ks o:List Int) (y:Int),y∈ZaW o ks↔y∈o∨y∈ks
 |[],o,y=>by simp[ZaW]
 |k::ks,o,y=>by
  have:=addAll_mem ks (ZbS o k) y
  unfold ZaW at this⊢
  rw[List.foldl_cons,this,Zqc]
  simp only[List.mem_cons,or_assoc]
theorem Zll {o:List Int} (h:o.Nodup) (k:Int):(ZbS o k).Nodup:=by
 unfold ZbS
 split
 ·exact h
 ·rename_i hk
  rw[List.nodup_append]
  exact⟨h,by simp,fun a ha b hb e=>by simp at hb;subst hb e;exact hk ha⟩
theorem Zdp:∀(ks:List Int) {o:List Int},o.Nodup→(ZaW o ks).Nodup
 |[],o,h=>h
 |k::ks,o,h=>Zdp ks (Zll h k)
theorem Zqd {o:List Int} {i:Nat} {x:Int} (h:o[i]? =some x) (k:Int):(ZbS o k)[i]? =some x:=by
 unfold ZbS
 split
 ·exact h
 ·rw[List.getElem?_append_left (List.getElem?_eq_some_iff.1 h).1];exact h
theorem ZiI:∀(ks:List Int) {o:List Int} {i:Nat} {x:Int},o[i]? =some x→(ZaW o ks)[i]? =some x
 |[],o,i,x,h=>h
 |k::ks,o,i,x,h=>ZiI ks (Zqd h k)
theorem Zqe (o:List Int) (k:Int):o.length≤(ZbS o k).length:=by
 unfold ZbS
 split<;>simp
theorem ZiJ:∀(ks o:List Int),o.length≤(ZaW o ks).length
 |[],o=>Nat.le_refl _
 |k::ks,o=>Nat.le_trans (Zqe o k) (ZiJ ks _)
structure Bfs (kids:Int→List Int) (U:List Int) (top:Int) (k:Nat) (o:List Int):Prop where
 nodup:o.Nodup
 sub:∀y∈o,y∈U
 sound:∀y∈o,Reach kids top y
 first:∀y∈kids top,y∈o
 done:∀j x,j<k→o[j]? =some x→∀y∈kids x,y∈o
 le:k≤o.length
theorem ZjR {o U:List Int} (h:o.Nodup) (hs:∀y∈o,y∈U):o.length≤U.length:=by
 induction o generalizing U with
 |nil=>simp
 |cons a o ih=>
  obtain⟨h1,h2⟩:=List.nodup_cons.1 h
  have ha:a∈U:=hs a (by simp)
  have:=ih (U:=U.erase a) h2 fun y hy=>(List.mem_erase_of_ne (by rintro rfl;exact h1 hy)).2 (hs y (by simp[hy]))
  rw[List.length_erase_of_mem ha] at this
  have:0<U.length:=List.length_pos_of_mem ha
  simp only[List.length_cons]
  omega
theorem Bfs.next {kids:Int→List Int} {U:List Int} {top:Int} {k:Nat} {o:List Int} (hU:∀i,∀y∈kids i,y∈U) (h:Bfs kids U top k o) {x:Int} (hx:o[k]? =some x):Bfs kids U top (k+1) (ZaW o (kids x)):=by
 have hxo:x∈o:=List.mem_of_getElem? hx
 refine⟨Zdp _ h.nodup,fun y hy=> ?_,fun y hy=> ?_,fun y hy=>(addAll_mem _ _ _).2 (.inl (h.first y hy)),fun j z hj hz y hy=> ?_,?_⟩
 ·rcases(addAll_mem _ _ _).1 hy with hy|hy
  ·exact h.sub y hy
  ·exact hU x y hy
 ·rcases(addAll_mem _ _ _).1 hy with hy|hy
  ·exact h.sound y hy
  ·exact .step (h.sound x hxo) hy
 ·have hjl:j<o.length:=by
   have:=(List.getElem?_eq_some_iff.1 hx).1;omega
  have hz':o[j]? =some z:=by
   have h1:=ZiI (kids x) (List.getElem?_eq_getElem hjl)
   rw[h1] at hz
   rw[List.getElem?_eq_getElem hjl];exact hz
  by_cases hjk:j=k
  ·subst hjk
   rw[hx] at hz'
   injection hz' with e
   subst e
   exact(addAll_mem _ _ _).2 (.inr hy)
  ·exact(addAll_mem _ _ _).2 (.inl (h.done j z (by omega) hz' y hy))
 ·have h1:=ZiJ (kids x) o
  have:=(List.getElem?_eq_some_iff.1 hx).1
  omega
theorem Bfs.end {kids:Int→List Int} {U:List Int} {top:Int} {k:Nat} {o:List Int} (h:Bfs kids U top k o) (hk:o.length≤k) (q:Int):q∈o↔Reach kids top q:=by
 refine⟨h.sound q,fun hr=> ?_⟩
 induction hr with
 |one hy=>exact h.first _ hy
 |step _ hy ih=>
  obtain⟨j,hj,e⟩:=List.getElem_of_mem ih
  exact h.done j _ (by omega) (by rw[List.getElem?_eq_getElem hj,e]) _ hy
theorem ZjS {kids:Int→List Int} {U:List Int} {top:Int} (hU:∀i,∀y∈kids i,y∈U):∀(n k:Nat) (o:List Int),Bfs kids U top k o→U.length<n+k→(∀q,q∈bfs kids n k o↔Reach kids top q)∧(bfs kids n k o).length≤U.length
 |0,k,o,h,hn=>by
  have h1:=ZjR h.nodup h.sub
  have h2:=h.le
  omega
 |n+1,k,o,h,hn=>by
  rw[bfs]
  cases hx:o[k]? with
  |none=>exact⟨h.end (List.getElem?_eq_none_iff.1 hx),ZjR h.nodup h.sub⟩
  |some x=>exact ZjS hU n (k+1) _ (h.next hU hx) (by omega)
def belowL (l:List NodeR) (top:Int):List Int:=bfs (Zs l) ((Zl l).length+1) 0 (ZaW [] (Zs l top))
theorem Zhk (l:List NodeR) (top:Int):Bfs (Zs l) (Zl l) top 0 (ZaW [] (Zs l top)):=
 ⟨Zdp _ List.nodup_nil,fun y hy=>ZaD l top y (((addAll_mem _ _ _).1 hy).resolve_left (by simp)),fun y hy=> .one (((addAll_mem _ _ _).1 hy).resolve_left (by simp)),fun y hy=>(addAll_mem _ _ _).2 (.inr hy),fun j x hj=>by omega,Nat.zero_le _⟩
theorem ZiK (l:List NodeR) (top q:Int):q∈belowL l top↔Reach (Zs l) top q:=(ZjS (ZaD l) _ 0 _ (Zhk l top) (by omega)).1 q
theorem Zqf (l:List NodeR) (top:Int):(belowL l top).length≤(Zl l).length:=(ZjS (ZaD l) _ 0 _ (Zhk l top) (by omega)).2
def badN (l:List NodeR) (i:Nat) (n:NodeR):Prop:=0<i∧(n.links<1∨n.kind=2∧(1<n.links∨¬n.ino∈belowL l 1))
structure ZjT (l:List NodeR) (i:Nat) (n:NodeR):Prop where
 links:n.links=((Zl l).count n.ino:Nat)
 not:¬badN l i n
 kids:∀x∈n.l,(findB l x.ino).2=true
theorem Zhl {f:FSR} (h:Zg f) (hh:Zia f.l=true) {i:Nat} (hi:i<f.l.length):(0<i↔1<f.l[i].ino):=by
 have h0':∀r,f.l[0]? =some r→r.ino=1:=by
  intro r hr
  cases hl:f.l with
  |nil=>rw[hl] at hr;cases hr
  |cons q l=>
   rw[hl] at hh hr
   simp only[ZfA,Bool.and_eq_true,decide_eq_true_eq] at hh
   simp only[List.getElem?_cons_zero,Option.some.injEq] at hr
   rw[←hr];exact hh.1.1
 have h0:=h0' (f.l[0]'(by omega)) (List.getElem?_eq_getElem _)
 constructor
 ·intro hp
  have:=(ZH (key:=NodeR.ino) f.l).1 h.rise
  have:=List.pairwise_iff_getElem.1 this 0 i (by omega) hi hp
  omega
 ·intro hp
  rcases Nat.eq_zero_or_pos i with e|e
  ·subst e;omega
  ·exact e
theorem ZiL (f:FSR) (h:Zg f) (hh:Zia f.l=true):rightF f=true↔∀(i:Nat) (hi:i<f.l.length),ZjT f.l i f.l[i]:=by
 have hr:=(Zgl f).2 h
 have hE:∀n∈f.l,n.l.length≤256:=fun n hn=>((ZbB _).1 ((Zq n).1 (h.ok n hn)).row).len
 have hnm:=fun k=>Zoi h.len hE k
 have hak:=ZbH hE
 obtain⟨c,ho,_⟩:=ZbD (ZaD f.l) (Zer hE) ((Zl f.l).length+1) 1 [] 0 .nil
 have hb:∀q,getM (Zdl f.l 1) q=0↔¬q∈belowL f.l 1:=fun q=>by
  rw[ZiK,←ZjK hE]
  obtain⟨_,c',o,_⟩:=ZbD (ZaD f.l) (Zer hE) ((Zl f.l).length+1) 1 [] 0 .nil
  have:=o.nonneg q
  unfold Zdl at this⊢
  omega
 simp only[rightF,hr,hh,Bool.true_and,Bool.and_eq_true,List.all_eq_true]
 constructor
 ·rintro⟨h1,h2⟩ i hi
  have g:=h2 _ (List.getElem_mem hi)
  have hp:=Zhl h hh hi
  simp only[ZpI,Bool.and_eq_true,decide_eq_true_eq,Bool.not_eq_true',Bool.and_eq_false_iff,Bool.or_eq_false_iff,decide_eq_false_iff_not,hb] at g
  refine⟨by rw[g.1,hnm],?_,fun x hx=> ?_⟩
  ·rintro⟨b1,b2⟩
   rcases g.2 with g2|⟨g2,g3⟩
   ·exact g2 (hp.1 b1)
   ·rcases b2 with b2|⟨b2,b3⟩
    ·exact g2 b2
    ·rcases g3 with g3|⟨g3,g4⟩
     ·exact g3 b2
     ·rcases b3 with b3|b3
      ·omega
      ·exact g4 b3
  ·have hk:x.ino∈Zl f.l:=List.mem_flatMap.2 ⟨_,List.getElem_mem hi,List.mem_map.2 ⟨x,hx,rfl⟩⟩
   have hp2:0<getM (countsS f.l []) x.ino:=by rw[hnm];have:=List.count_pos_iff.2 hk;omega
   rcases findIdx_spec (countsS f.l []) x.ino with⟨_,_,h0⟩|⟨j,v,_,hj,_,_⟩
   ·omega
   ·exact h1 _ (List.mem_of_getElem? hj)
 ·intro g
  refine⟨fun p hp=> ?_,fun n hn=> ?_⟩
  ·have hlen:=h.len
   have hm:=(ZfB f.l [] 0 .nil (by omega)).1.pos p.1 (by unfold hasM;exact List.any_eq_true.2 ⟨p,hp,by simp⟩)
   rw[hnm] at hm
   have hk:=List.count_pos_iff.1 (show 0<(Zl f.l).count p.1 by omega)
   obtain⟨n,hn,hx⟩:=List.mem_flatMap.1 hk
   obtain⟨x,hx,e⟩:=List.mem_map.1 hx
   obtain⟨i,hi,rfl⟩:=List.getElem_of_mem hn
   rw[←e]
   exact(g i hi).kids x hx
  ·obtain⟨i,hi,rfl⟩:=List.getElem_of_mem hn
   have hp:=Zhl h hh hi
   have gi:=g i hi
   simp only[ZpI,Bool.and_eq_true,decide_eq_true_eq,Bool.not_eq_true',Bool.and_eq_false_iff,Bool.or_eq_false_iff,decide_eq_false_iff_not,hb]
   refine⟨by rw[gi.links,hnm],?_⟩
   by_cases b1:0<i
   ·have nb:=gi.not
    refine .inr ⟨fun e=>nb ⟨b1,.inl e⟩,?_⟩
    by_cases b2:f.l[i].kind=2
    ·refine .inr ⟨fun e=>e ?_,fun e=>nb ⟨b1,.inr ⟨b2,.inr e⟩⟩⟩
     have h3:¬f.l[i].links<1:=fun e=>nb ⟨b1,.inl e⟩
     have h4:¬1<f.l[i].links:=fun e=>nb ⟨b1,.inr ⟨b2,.inl e⟩⟩
     omega
    ·exact .inl b2
   ·exact .inl fun e=>b1 (hp.2 e)
structure Added (f:FSR) (dir:Int) (s:ByteArray) (n:NodeR) (k:FSR):Prop where
 rows:Zg k
 next:k.next=f.next+1
 find:∀q,findB k.l q=if q=f.next then(newN f n,true) else if q=dir then({(findB f.l dir).1 with l:=(enterE (findB f.l dir).1.l s f.next).1},true) else findB f.l q
 isdir:(findB f.l dir).2=true∧(findB f.l dir).1.kind=2
 name:checkS s=0
 free:(findE (findB f.l dir).1.l s).2=false
 room:(findB f.l dir).1.l.length<256
 ok:nodeOk (newN f n)=true∧n.l.length=0
 len:k.l.length=f.l.length+1∨k.l.length≤f.l.length+1
theorem added {f:FSR} {dir:Int} {s:ByteArray} {n:NodeR} (h:Zg f) (he:(addD f dir s n).2=0):Added f dir s n (addD f dir s n).1:=by
 rw[ZmR] at he⊢
 split at he
 case isFalse hq=>exact absurd he hq
 case isTrue hq=>
  rw[if_pos hq]
  obtain⟨q1,q2⟩:=Zlj hq
  obtain⟨d1,d2,d3⟩:=ZaZ q1
  obtain⟨m1,m2,m3,m4,m5,m6⟩:=may_ok q2
  rw[d3] at m2 m4
  have hs:=ZaJ h d1 d2 s f.next
  have hp:=ZcL hs.rows.rise (newN f n)
  have hl:=hs.len
  have hp3:=hp.2.2
  have hi:(newN f n).ino=f.next:=rfl
  refine⟨hs.rows.put m5 (by omega),?_,fun q=> ?_,⟨d1,d2⟩,m1,m2,m4,⟨m5,m6⟩,.inr (by simp only at hp3⊢;omega)⟩
  ·show max (enteredD f dir s f.next).next ((newN f n).ino+1)=f.next+1
   rw[hs.next,hi];omega
  ·rw[ZaY hs.rows.rise,hi]
   by_cases e:q=f.next
   ·rw[if_pos e,if_pos e]
   ·rw[if_neg e,if_neg e,Zao h d1]
theorem Zvq (s:List UInt8) (k:Nat) (t:List UInt8):(overL s k t).length=max s.length (k+t.length):=by
 simp only[overL,List.length_append,List.length_take,List.length_replicate,List.length_drop];omega
def n0:NodeR:=⟨0,1,0,.empty,[]⟩
theorem Zhm {s:List UInt8} {a:Int} {t:List UInt8} (h:(writeT s a t).2=0) (hs:s.length≤4096):(writeT s a t).1.length≤4096:=by
 unfold writeT at h⊢
 split at h
 ·simp at h
 rename_i h1
 rw[if_neg h1]
 split at h
 ·simp at h
 rename_i h2
 rw[if_neg h2]
 split
 ·exact hs
 ·simp only[Zvq];omega
theorem ZmW {s:List UInt8} {m:Int} (h:(cutT s m).2=0):(cutT s m).1.length≤4096:=by
 unfold cutT at h⊢
 split at h
 ·simp at h
 rename_i h1
 rw[if_neg h1]
 split at h
 ·simp at h
 rename_i h2
 rw[if_neg h2]
 simp only[List.length_append,List.length_take,List.length_replicate];omega
theorem Zlm {f:FSR} (h:Zg f) {ino:Int} {m:NodeR} (hm:findB f.l ino=(m,true)) (hk:m.kind≠2) {x:List UInt8} (hx:x.length≤4096):Zfe f (putB f {m with text:=T x})∧∀q,findB (putB f {m with text:=T x}).l q=if q=ino then({m with text:=T x},true) else findB f.l q:=by
 obtain⟨h1,h2⟩:=(Zdm h.rise ino m).1 hm
 obtain⟨a,b,c⟩:=h.again (n:={m with text:=T x}) (ZmQ (h.ok m h1) hk hx) (by simp only[h2];rw[hm])
 exact⟨⟨a,b,Nat.le_of_eq c⟩,fun q=>by rw[ZaY h.rise];simp only[h2]⟩
end Go.Cx
namespace Go.Cx
def cntF (f:FSR) (k:Int):Nat:=(Zl f.l).count k
theorem ZcO {l:List NodeR} (h:Zn NodeR.ino l=true):l.Nodup:=
 ((ZH NodeR.ino l).1 h).imp fun h e=>by subst e;exact absurd h (Int.lt_irrefl _)
theorem Zhn {f:FSR} (h:Zn NodeR.ino f.l=true) (j k:Int):cntF f k=((findB f.l j).1.l.map (·.ino)).count k+(Zl (f.l.filter fun x=> !decide (x.ino=j))).count k:=by
 rcases findB_cases f.l j with⟨o,ho,hk,e⟩|e
 ·have p:f.l.Perm (o::f.l.filter fun x=> !decide (x.ino=j)):=
   (List.perm_ext_iff_of_nodup (ZcO h) (List.nodup_cons.2 ⟨by simp[hk],(ZcO h).filter _⟩)).2 fun x=>by
    simp only[List.mem_cons,List.mem_filter,Bool.not_eq_true',decide_eq_false_iff_not]
    refine⟨fun hx=> ?_,fun hx=>hx.elim (fun e=>e▸ho) (·.1)⟩
    by_cases q:x.ino=j
    ·exact .inl (Zfa NodeR.ino h hx ho (by rw[q,hk]))
    ·exact .inr ⟨hx,q⟩
  rw[e]
  unfold cntF Zl
  rw[(p.flatMap_right _).count_eq]
  simp only[List.flatMap_cons,List.count_append]
 ·have hn:∀x∈f.l,x.ino≠j:=fun x hx q=>by
   have:=findB_of h hx
   rw[q,e] at this;cases this
  have:(f.l.filter fun x=> !decide (x.ino=j))=f.l:=List.filter_eq_self.2 fun x hx=>by simpa using hn x hx
  rw[e,this]
  simp[cntF,NodeR.zero]
theorem Zsz {f:FSR} (h:Zn NodeR.ino f.l=true) (n:NodeR) (k:Int):cntF (putB f n) k+((findB f.l n.ino).1.l.map (·.ino)).count k=cntF f k+(n.l.map (·.ino)).count k:=by
 obtain⟨h1,h2,_⟩:=ZcL h n
 have e1:=Zhn h n.ino k
 have e2:=Zhn h1 n.ino k
 have p:((putB f n).l.filter fun x=> !decide (x.ino=n.ino)).Perm (f.l.filter fun x=> !decide (x.ino=n.ino)):=
  (List.perm_ext_iff_of_nodup ((ZcO h1).filter _) ((ZcO h).filter _)).2 fun x=>by
   simp only[List.mem_filter,Bool.not_eq_true',decide_eq_false_iff_not,h2]
   exact⟨fun⟨a,b⟩=>⟨a.elim (fun e=>absurd (by rw[e]) b) (·.1),b⟩,fun⟨a,b⟩=>⟨.inr ⟨a,b⟩,b⟩⟩
 rw[ZaY h,if_pos rfl] at e2
 simp only at e2
 have e3:(Zl ((putB f n).l.filter fun x=> !decide (x.ino=n.ino))).count k=(Zl (f.l.filter fun x=> !decide (x.ino=n.ino))).count k:=(p.flatMap_right _).count_eq k
 omega
theorem Zfg {f:FSR} (h:Zn NodeR.ino f.l=true) {n:NodeR} {d:Int} (hi:n.ino=d) (k:Int):cntF (putB f n) k+((findB f.l d).1.l.map (·.ino)).count k=cntF f k+(n.l.map (·.ino)).count k:=by
 subst hi;exact Zsz h n k
theorem out_cnt {f:FSR} (h:Zn NodeR.ino f.l=true) (j k:Int):cntF (outF f j) k+((findB f.l j).1.l.map (·.ino)).count k=cntF f k:=by
 have e1:=Zhn h j k
 have:cntF (outF f j) k=(Zl (f.l.filter fun x=> !decide (x.ino=j))).count k:=rfl
 omega
theorem Zoq {f:FSR} (h:Zn NodeR.ino f.l=true) (n:NodeR) (i:Int):Zs (putB f n).l i=if i=n.ino then n.l.map (·.ino) else Zs f.l i:=by
 unfold Zs
 rw[ZaY h]
 split<;>rfl
theorem Zqg (l:List EntryR) (s:ByteArray) (ino k:Int):((insE l s ino).map (·.ino)).count k=(l.map (·.ino)).count k+if k=ino then 1 else 0:=by
 have e:l.takeWhile (fun x=>ZX x.name s)++l.dropWhile (fun x=>ZX x.name s)=l:=List.takeWhile_append_dropWhile
 have e2:(l.map (·.ino)).count k=((l.takeWhile (fun x=>ZX x.name s)).map (·.ino)).count k+((l.dropWhile (fun x=>ZX x.name s)).map (·.ino)).count k:=by
  rw[←List.count_append,←List.map_append,e]
 unfold insE
 rw[e2,List.map_append,List.count_append,List.map_cons,List.count_cons]
 by_cases q:k=ino
 ·subst q;simp;omega
 ·have:¬ino=k:=fun e=>q e.symm
  simp[q,this]
theorem ZsA {l:List EntryR} {s:ByteArray} (h:∀x∈l,x.name≠s):outE l s=l:=List.filter_eq_self.2 fun x hx=>by simpa using h x hx
theorem ZiM {s:ByteArray} {e:Int}:∀{l:List EntryR},Zaf l=true→findE l s=(e,true)→∀k,((outE l s).map (·.ino)).count k+(if k=e then 1 else 0)=(l.map (·.ino)).count k
 |[],_,h,k=>by simp[findE] at h
 |a::l,hr,h,k=>by
  have hp:=(ZQ _).1 hr
  rw[ZpS] at h
  by_cases q:a.name=s
  ·rw[if_pos q] at h
   injection h with h _
   subst h
   have e1:outE (a::l) s=l:=by
    have:outE (a::l) s=outE l s:=by simp[outE,q]
    rw[this]
    exact ZsA fun x hx=>by
     have:=List.rel_of_pairwise_cons hp hx
     rw[q] at this
     exact(ZdP this).symm
   rw[e1,List.map_cons,List.count_cons]
   by_cases q2:k=a.ino
   ·subst q2;simp
   ·have:¬a.ino=k:=fun e=>q2 e.symm
    simp[q2,this]
  ·rw[if_neg q] at h
   have ih:=ZiM ((ZQ _).2 hp.of_cons) h k
   have e1:outE (a::l) s=a::outE l s:=by simp[outE,q]
   rw[e1,List.map_cons,List.count_cons,List.map_cons,List.count_cons]
   omega
theorem Zln {l:List EntryR} {s:ByteArray} {ino:Int} (h1:checkS s=0) (h2:1≤ino) (h3:(findE l s).2=false) (h4:l.length<256):(enterE l s ino).1=insE l s ino:=by
 unfold enterE
 rw[if_neg (by simpa using h1),if_neg (by omega),if_neg (by rw[h3];simp),if_neg (by omega)]
theorem Zdq {l:List EntryR} {s:ByteArray} {e:Int} (h:findE l s=(e,true)):(leaveE l s).1=outE l s:=by
 unfold leaveE
 rw[if_pos (by rw[h])]
theorem Zev {f:FSR} (R:Zg f) {dir:Int} (hd:(findB f.l dir).2=true) {s:ByteArray} {ino:Int} (h1:checkS s=0) (h2:1≤ino) (h3:(findE (findB f.l dir).1.l s).2=false) (h4:(findB f.l dir).1.l.length<256) (k:Int):
  cntF (enteredD f dir s ino) k=cntF f k+if k=ino then 1 else 0:=by
 have h5:=(R.find_ok hd).2
 have e:cntF (enteredD f dir s ino) k+((findB f.l dir).1.l.map (·.ino)).count k=cntF f k+((enterE (findB f.l dir).1.l s ino).1.map (·.ino)).count k:=Zfg R.rise (n:={(findB f.l dir).1 with l:=(enterE (findB f.l dir).1.l s ino).1}) h5 k
 rw[Zln h1 h2 h3 h4,Zqg] at e
 omega
theorem Zcd {f:FSR} (R:Zg f) {dir:Int} (hd:(findB f.l dir).2=true) {s:ByteArray} {ino:Int} (h1:checkS s=0) (h2:1≤ino) (h3:(findE (findB f.l dir).1.l s).2=false) (h4:(findB f.l dir).1.l.length<256) (i y:Int):
  y∈Zs (enteredD f dir s ino).l i↔y∈Zs f.l i∨(i=dir∧y=ino):=by
 unfold Zs
 rw[Zao R hd,Zln h1 h2 h3 h4]
 by_cases q:i=dir
 ·subst q
  simp only[if_true,List.mem_map,insE_mem,true_and]
  constructor
  ·rintro⟨x,rfl|hx,rfl⟩
   ·exact .inr rfl
   ·exact .inl ⟨x,hx,rfl⟩
  ·rintro(⟨x,hx,rfl⟩|rfl)
   ·exact⟨x,.inr hx,rfl⟩
   ·exact⟨_,.inl rfl,rfl⟩
 ·rw[if_neg q];simp[q]
theorem Zor {f:FSR} (R:Zg f) {dir:Int} (hd:(findB f.l dir).2=true) {s:ByteArray} {e:Int} (h:findE (findB f.l dir).1.l s=(e,true)) (k:Int):
  cntF (leftD f dir s) k+(if k=e then 1 else 0)=cntF f k:=by
 have h5:=(R.find_ok hd).2
 have e1:cntF (leftD f dir s) k+((findB f.l dir).1.l.map (·.ino)).count k=cntF f k+((leaveE (findB f.l dir).1.l s).1.map (·.ino)).count k:=Zfg R.rise (n:={(findB f.l dir).1 with l:=(leaveE (findB f.l dir).1.l s).1}) h5 k
 rw[Zdq h] at e1
 have e2:=ZiM (R.row dir).rise h k
 omega
theorem Zlo {f:FSR} (R:Zg f) {dir:Int} (hd:(findB f.l dir).2=true) {s:ByteArray} {e:Int} (h:findE (findB f.l dir).1.l s=(e,true)) (i y:Int):
  (y∈Zs (leftD f dir s).l i→y∈Zs f.l i)∧(y∈Zs f.l i→y≠e→y∈Zs (leftD f dir s).l i):=by
 unfold Zs
 rw[Zal R hd,Zdq h]
 by_cases q:i=dir
 ·subst q
  simp only[if_true,List.mem_map,outE,List.mem_filter]
  refine⟨fun⟨x,⟨hx,_⟩,e1⟩=>⟨x,hx,e1⟩,fun⟨x,hx,e1⟩ hy=>⟨x,⟨hx,?_⟩,e1⟩⟩
  have:x.name≠s:=fun e2=>hy (by
   have e3:=findE_some (R.row i).rise hx
   rw[e2,h] at e3
   injection e3 with e3 _
   rw[←e1,e3])
  simpa using this
 ·rw[if_neg q];exact⟨id,fun h _=>h⟩
theorem Zvr {f:FSR} (R:Zg f) {ino:Int} (hd:(findB f.l ino).2=true) (hl:(findB f.l ino).1.l=[]) (k:Int):cntF (ZjQ f ino) k=cntF f k:=by
 unfold ZjQ
 split
 ·have:=out_cnt R.rise ino k
  rw[hl] at this
  simpa using this
 ·have:cntF (putB f {(findB f.l ino).1 with links:=(findB f.l ino).1.links -1}) k+((findB f.l ino).1.l.map (·.ino)).count k=cntF f k+((findB f.l ino).1.l.map (·.ino)).count k:=Zfg R.rise (n:={(findB f.l ino).1 with links:=(findB f.l ino).1.links -1}) (R.find_ok hd).2 k
  omega
theorem ZsB {f:FSR} (R:Zg f) {ino:Int} (hd:(findB f.l ino).2=true) (hl:(findB f.l ino).1.l=[]) (i:Int):Zs (ZjQ f ino).l i=Zs f.l i:=by
 unfold Zs
 rw[Zhh R hd]
 by_cases q:i=ino
 ·subst q
  rw[if_pos rfl]
  split
  ·rw[hl];rfl
  ·rfl
 ·rw[if_neg q]
structure ZI (f:FSR):Prop where
 root:(findB f.l 1).2=true∧(findB f.l 1).1.kind=2∧(findB f.l 1).1.links=0
 here:∀k,0<cntF f k→(findB f.l k).2=true
 links:∀k,(findB f.l k).2=true→(findB f.l k).1.links=cntF f k
 some:∀k,(findB f.l k).2=true→k≠1→1≤(findB f.l k).1.links
 dir:∀k,(findB f.l k).2=true→k≠1→(findB f.l k).1.kind=2→(findB f.l k).1.links=1∧Reach (Zs f.l) 1 k
theorem Zg.pos {f:FSR} (R:Zg f) {k:Int} (h:(findB f.l k).2=true):1≤k:=by
 obtain⟨h1,h2⟩:=R.find_ok h
 have:=((Zq _).1 h1).ino
 omega
theorem ZcW.tree {f:FSR} (R:Zg f) (T:ZcW f):ZI f:=by
 have hf:∀k,(findB f.l k).2=true→(findB f.l k).1∈f.l∧(findB f.l k).1.ino=k:=fun k h=>Zk h
 obtain⟨r,hr,r1,r2,r3⟩:=T.root
 have hr':=findB_of R.rise hr
 rw[r1] at hr'
 refine⟨by rw[hr'];exact⟨rfl,r2,r3⟩,fun k hk=> ?_,fun k hk=> ?_,fun k hk h1=> ?_,fun k hk h1 h2=> ?_⟩
 ·obtain⟨n,hn,e⟩:=T.here k (List.count_pos_iff.1 hk)
  rw[←e,findB_of R.rise hn]
 ·obtain⟨h1,h2⟩:=hf k hk
  have:=T.names _ h1
  rw[h2] at this;exact this
 ·obtain⟨h2,h3⟩:=hf k hk
  have:=R.pos hk
  exact T.file _ h2 (by omega)
 ·obtain⟨h3,h4⟩:=hf k hk
  have:=R.pos hk
  have:=T.dir _ h3 (by omega) h2
  rw[h4] at this;exact this
theorem ZI.right {f:FSR} (R:Zg f) (T:ZI f):ZcW f:=by
 have hf:∀n∈f.l,findB f.l n.ino=(n,true):=fun n hn=>findB_of R.rise hn
 refine⟨R.rise,R.ok,R.len,fun n hn=>((ZbB _).1 ((Zq n).1 (R.ok n hn)).row).len,?_,fun k hk=> ?_,fun n hn=> ?_,fun n hn h1=> ?_,fun n hn h1 h2=> ?_⟩
 ·exact⟨_,(Zk T.root.1).1,(Zk T.root.1).2,T.root.2⟩
 ·have:=T.here k (List.count_pos_iff.2 hk)
  exact⟨_,(Zk this).1,(Zk this).2⟩
 ·have:=T.links n.ino (by rw[hf n hn])
  rw[hf n hn] at this;exact this
 ·have:=T.some n.ino (by rw[hf n hn]) (by omega)
  rw[hf n hn] at this;exact this
 ·have:=T.dir n.ino (by rw[hf n hn]) (by omega) (by rw[hf n hn];exact h2)
  rw[hf n hn] at this;exact this
theorem Zho (f:FSR):rightF f=true↔Zg f∧ZcW f:=by
 constructor
 ·intro h
  refine⟨(Zgl f).1 ?_,Zvh h⟩
  simp only[rightF,Bool.and_eq_true] at h;exact h.1.1.1
 ·rintro⟨R,T⟩
  have hh:Zia f.l=true:=by
   obtain⟨r,hr,r1,r2,r3⟩:=T.root
   cases hl:f.l with
   |nil=>rw[hl] at hr;cases hr
   |cons a l=>
    have hp:=R.rise
    rw[hl] at hp hr
    have hp:=(ZH NodeR.ino _).1 hp
    have ha:a.ino=1:=by
     have h1:=((Zq a).1 (R.ok a (by rw[hl];simp))).ino
     rcases List.mem_cons.1 hr with e|hr
     ·rw[←e];exact r1
     ·have:=List.rel_of_pairwise_cons hp hr
      omega
    have e:r=a:=Zfa NodeR.ino (by rw[←hl];exact R.rise) hr (by simp) (by rw[r1,ha])
    subst e
    simp[r1,r2,r3]
  refine(ZiL f R hh).2 fun i hi=> ?_
  have hm:=List.getElem_mem hi
  have hp:=Zhl R hh hi
  refine⟨T.names _ hm,?_,fun x hx=> ?_⟩
  ·rintro⟨b1,b2⟩
   have h1:=hp.1 b1
   have h2:=T.file _ hm h1
   rcases b2 with b2|⟨b2,b3⟩
   ·omega
   ·obtain⟨h3,h4⟩:=T.dir _ hm h1 b2
    rcases b3 with b3|b3
    ·omega
    ·exact b3 ((ZiK _ _ _).2 h4)
  ·obtain⟨n,hn,e⟩:=T.here x.ino (List.mem_flatMap.2 ⟨_,hm,List.mem_map.2 ⟨x,hx,rfl⟩⟩)
   rw[←e,findB_of R.rise hn]
theorem ZiN {K K':Int→List Int} {top:Int} {X:Int→Prop} (hk:∀i y,y∈K i→¬X y→y∈K' i) (hx:∀x,X x→(∃y,y∈K x)→Reach K' top x) {q:Int} (h:Reach K top q) (hq:¬X q):Reach K' top q:=by
 induction h with
 |one h=>exact .one (hk _ _ h hq)
 | @step j k h1 h2 ih=>
  by_cases hj:X j
  ·exact .step (hx j hj ⟨_,h2⟩) (hk _ _ h2 hq)
  ·exact .step (ih hj) (hk _ _ h2 hq)
theorem Zqh {K K':Int→List Int} {top n:Int} (hk:∀i y,y∈K i→y≠n→y∈K' i) {q:Int} (h:Reach K top q) (hq:q≠n) (hn:¬Reach K n q):Reach K' top q:=by
 induction h with
 |one h=>exact .one (hk _ _ h hq)
 | @step j k h1 h2 ih=>
  by_cases hj:j=n
  ·subst hj;exact absurd (.one h2) hn
  ·exact .step (ih hj fun g=>hn (.step g h2)) (hk _ _ h2 hq)
theorem Zhp {K K':Int→List Int} {top:Int} (hk:∀i y,y∈K i→y∈K' i) {q:Int} (h:Reach K top q):Reach K' top q:=by
 induction h with
 |one h=>exact .one (hk _ _ h)
 |step _ h2 ih=>exact .step ih (hk _ _ h2)
theorem Zej {f:FSR} (R:Zg f) {d:Int} {s:ByteArray} (h:(lookD f d s).2=0):
  (findB f.l d).2=true∧(findB f.l d).1.kind=2∧checkS s=0∧findE (findB f.l d).1.l s=((lookD f d s).1.ino,true)∧findB f.l (lookD f d s).1.ino=((lookD f d s).1,true):=by
 obtain⟨h1,h2,h3,h4,h5⟩:=ZdR h
 obtain⟨d1,d2,d3⟩:=ZaZ h1
 rw[d3] at h3 h4 h5
 have e:(lookD f d s).1.ino=(findE (findB f.l d).1.l s).1:=by rw[h5];exact(Zk h4).2
 refine⟨d1,d2,h2,?_,?_⟩
 ·rw[e];exact Prod.ext rfl h3
 ·rw[e,h5];exact Prod.ext rfl h4
theorem Zos {f:FSR} (R:Zg f) {d:Int} {s:ByteArray} {e:Int} (h:findE (findB f.l d).1.l s=(e,true)):e∈Zs f.l d:=by
 obtain⟨x,hx,_,e2⟩:=(Zlg (R.row d).rise s e).1 h
 exact List.mem_map.2 ⟨x,hx,e2⟩
theorem ZsC {f:FSR} (T:ZI f) {i y:Int} (h:y∈Zs f.l i):(findB f.l y).2=true:=
 T.here y (List.count_pos_iff.2 (ZaD f.l i y h))
theorem ZI.up {f:FSR} (T:ZI f) {d:Int} (h1:(findB f.l d).2=true) (h2:(findB f.l d).1.kind=2):d=1∨Reach (Zs f.l) 1 d:=by
 by_cases q:d=1
 ·exact .inl q
 ·exact .inr (T.dir d h1 q h2).2
theorem ZsD {f:FSR} (R:Zg f) (T:ZI f) {d y:Int} (h1:(findB f.l d).2=true) (h2:(findB f.l d).1.kind=2) (h:y∈Zs f.l d):y≠d∧y≠1:=by
 have F:=T.right R
 have hy1:y≠1:=fun e=>F.no_root (by rw[←e];exact ZaD f.l d y h)
 refine⟨fun e=> ?_,hy1⟩
 subst e
 rcases T.up h1 h2 with e|e
 ·exact hy1 e
 ·exact F.acyclic e (.one h)
theorem leaf_of {f:FSR} (R:Zg f) {k:Int} (h:(findB f.l k).2=true) (hk:(findB f.l k).1.kind≠2):(findB f.l k).1.l=[]:=
 List.eq_nil_of_length_eq_zero (((Zq _).1 (R.find_ok h).1).els hk)
theorem ZcP {f:FSR} (R:Zg f) (T:ZI f) {d:Int} {s:ByteArray} (h:(lookD f d s).2=0):(lookD f d s).1.ino≠d:=by
 obtain⟨h1,h2,_,h4,_⟩:=Zej R h
 exact(ZsD R T h1 h2 (Zos R h4)).1
theorem ZsE {f:FSR} (R:Zg f) (T:ZI f) {d:Int} {s:ByteArray} (hd:(dirD f d).2=0) (hs:checkS s=0) (h:(lookD f d s).2≠0):(findE (findB f.l d).1.l s).2=false:=by
 obtain⟨d1,d2,d3⟩:=ZaZ hd
 cases hq:(findE (findB f.l d).1.l s).2 with
 |false=>rfl
 |true=>
  exfalso;apply h
  have h1:=ZsC T (Zos R (e:=(findE (findB f.l d).1.l s).1) (Prod.ext rfl hq))
  unfold lookD
  rw[if_neg (by simpa using hd),if_neg (by simpa using hs),d3,if_neg (by rw[hq];simp),if_neg (by rw[h1];simp)]
theorem Zvs {f:FSR} {dir:Int} {s:ByteArray} {n:NodeR} (he:(addD f dir s n).2=0):(addD f dir s n).1=putB (enteredD f dir s f.next) (newN f n):=by
 rw[ZmR] at he⊢
 split at he
 case isFalse hq=>exact absurd he hq
 case isTrue hq=>rw[if_pos hq]
theorem Zvt {f:FSR} (R:Zg f):findB f.l f.next=(.zero,false):=ZbI fun n hn e=>by have:=R.lt n hn;omega
theorem Zvu {f:FSR} {dir:Int} {s:ByteArray} {n:NodeR} (R:Zg f) (T:ZI f) (he:(addD f dir s n).2=0):ZI (addD f dir s n).1:=by
 have A:=added R he
 have hp:=Zvs he
 obtain⟨d1,d2⟩:=A.isdir
 have hnx:=R.next
 have h0:=Zvt R
 have hne:dir≠f.next:=fun e=>by rw[e,h0] at d1;cases d1
 have hs:=ZaJ R d1 d2 s f.next
 have hnl:(newN f n).l=[]:=List.eq_nil_of_length_eq_zero A.ok.2
 have he0:findB (enteredD f dir s f.next).l f.next=(.zero,false):=by rw[Zao R d1,if_neg (fun e=>hne e.symm),h0]
 have hc:∀k,cntF (addD f dir s n).1 k=cntF f k+if k=f.next then 1 else 0:=fun k=>by
  have e1:=Zsz hs.rows.rise (newN f n) k
  have e2:=Zev R d1 A.name hnx A.free A.room k
  have e3:(newN f n).ino=f.next:=rfl
  rw[e3,he0,hnl] at e1
  rw[hp]
  simp only[NodeR.zero,List.map_nil,List.count_nil,Nat.add_zero] at e1
  omega
 have hk:∀i y,y∈Zs f.l i∨(i=dir∧y=f.next)→y∈Zs (addD f dir s n).1.l i:=fun i y h=>by
  rw[hp,Zoq hs.rows.rise]
  have e3:(newN f n).ino=f.next:=rfl
  rw[e3]
  have h':=(Zcd R d1 A.name hnx A.free A.room i y).2 h
  split
  ·rename_i q
   rw[q] at h'
   unfold Zs at h'
   rw[he0] at h'
   simp[NodeR.zero] at h'
  ·exact h'
 have hz:cntF f f.next=0:=by
  rcases Nat.eq_zero_or_pos (cntF f f.next) with h|h
  ·exact h
  ·have:=T.here _ h;rw[h0] at this;cases this
 have hr:∀q,Reach (Zs f.l) 1 q→Reach (Zs (addD f dir s n).1.l) 1 q:=fun q h=>Zhp (fun i y h=>hk i y (.inl h)) h
 generalize(addD f dir s n).1=g at*
 have hb:∀q,q≠f.next→(findB g.l q).2=(findB f.l q).2∧(findB g.l q).1.kind=(findB f.l q).1.kind∧(findB g.l q).1.links=(findB f.l q).1.links:=fun q hq=>by
  rw[A.find,if_neg hq]
  split
  ·rename_i e;rw[e];exact⟨d1.symm,rfl,rfl⟩
  ·exact⟨rfl,rfl,rfl⟩
 have hn:findB g.l f.next=(newN f n,true):=by rw[A.find,if_pos rfl]
 have h1n:(1:Int)≠f.next:=fun e=>by have:=T.root.1;rw[e,h0] at this;cases this
 refine⟨?_,fun k hk'=> ?_,fun k hk'=> ?_,fun k hk' h1=> ?_,fun k hk' h1 h2=> ?_⟩
 ·obtain⟨a,b,c⟩:=hb 1 h1n
  rw[a,b,c];exact T.root
 ·by_cases q:k=f.next
  ·rw[q,hn]
  ·rw[(hb k q).1]
   refine T.here k ?_
   have:=hc k
   rw[if_neg q] at this;omega
 ·by_cases q:k=f.next
  ·have:=hc k
   rw[if_pos q,q,hz] at this
   rw[q,hn,this];rfl
  ·obtain⟨a,b,c⟩:=hb k q
   have:=hc k
   rw[if_neg q] at this
   rw[a] at hk'
   rw[c,this];exact T.links k hk'
 ·by_cases q:k=f.next
  ·rw[q,hn];show(1:Int)≤1;decide
  ·obtain⟨a,b,c⟩:=hb k q
   rw[a] at hk'
   rw[c];exact T.some k hk' h1
 ·by_cases q:k=f.next
  ·refine⟨by rw[q,hn];rfl,?_⟩
   have hkid:=hk dir f.next (.inr ⟨rfl,rfl⟩)
   rw[q]
   rcases T.up d1 d2 with e|e
   ·rw[e] at hkid;exact .one hkid
   ·exact .step (hr _ e) hkid
  ·obtain⟨a,b,c⟩:=hb k q
   rw[a] at hk'
   rw[b] at h2
   rw[c]
   obtain⟨e1,e2⟩:=T.dir k hk' h1 h2
   exact⟨e1,hr _ e2⟩
theorem dir_ne {f:FSR} {d i:Int} (h1:(findB f.l d).1.kind=2) (h2:(findB f.l i).1.kind≠2):i≠d:=fun e=>h2 (by rw[e];exact h1)
theorem Zhq {f:FSR} {dir:Int} {s:ByteArray} {ino:Int} (R:Zg f) (T:ZI f) (he:giveE f dir s ino=0):Zg (giveD f dir s ino).1∧(giveD f dir s ino).1.next=f.next∧ZI (giveD f dir s ino).1:=by
 obtain⟨g1,g2,g3,g4,g5,g6,g7⟩:=ZmS he
 obtain⟨d1,d2,d3⟩:=ZaZ g1
 rw[d3] at g5 g6
 have hpos:=R.pos g2
 have hne:=dir_ne d2 g3
 rw[ZbG,if_pos he]
 have hs:=ZaJ R d1 d2 s ino
 have hfi:findB (enteredD f dir s ino).l ino=findB f.l ino:=by rw[Zao R d1,if_neg hne]
 have hino:=(R.find_ok g2).2
 obtain⟨a1,a2,a3⟩:=hs.rows.again (n:={(findB f.l ino).1 with links:=(findB f.l ino).1.links+1}) (ZfX (R.find_ok g2).1 (by have:=(R.links ino).1;omega) (by omega)) (by simp only[hino];rw[hfi];exact g2)
 refine⟨a1,by rw[a2,hs.next],?_⟩
 show ZI (putB (enteredD f dir s ino) {(findB f.l ino).1 with links:=(findB f.l ino).1.links+1})
 have hc:∀k,cntF (putB (enteredD f dir s ino) {(findB f.l ino).1 with links:=(findB f.l ino).1.links+1}) k=cntF f k+if k=ino then 1 else 0:=fun k=>by
  have e1:cntF (putB (enteredD f dir s ino) {(findB f.l ino).1 with links:=(findB f.l ino).1.links+1}) k+((findB (enteredD f dir s ino).l ino).1.l.map (·.ino)).count k=cntF (enteredD f dir s ino) k+((findB f.l ino).1.l.map (·.ino)).count k:=Zfg hs.rows.rise (n:={(findB f.l ino).1 with links:=(findB f.l ino).1.links+1}) hino k
  have e2:=Zev R d1 g4 hpos g5 g6 k
  rw[hfi] at e1
  omega
 have hk:∀i y,y∈Zs f.l i→y∈Zs (putB (enteredD f dir s ino) {(findB f.l ino).1 with links:=(findB f.l ino).1.links+1}).l i:=fun i y h=>by
  rw[Zoq hs.rows.rise]
  have h':=(Zcd R d1 g4 hpos g5 g6 i y).2 (.inl h)
  simp only[hino]
  split
  ·rename_i q
   rw[q] at h
   exact h
  ·exact h'
 have hb:∀q,findB (putB (enteredD f dir s ino) {(findB f.l ino).1 with links:=(findB f.l ino).1.links+1}).l q=if q=ino then({(findB f.l ino).1 with links:=(findB f.l ino).1.links+1},true) else if q=dir then({(findB f.l dir).1 with l:=(enterE (findB f.l dir).1.l s ino).1},true) else findB f.l q:=fun q=>by
  rw[ZaY hs.rows.rise]
  simp only[hino]
  split
  ·rfl
  ·rw[Zao R d1]
 have hr:∀q,Reach (Zs f.l) 1 q→Reach (Zs (putB (enteredD f dir s ino) {(findB f.l ino).1 with links:=(findB f.l ino).1.links+1}).l) 1 q:=fun q h=>Zhp hk h
 generalize putB (enteredD f dir s ino) {(findB f.l ino).1 with links:=(findB f.l ino).1.links+1}=g at*
 have hb':∀q,q≠ino→(findB g.l q).2=(findB f.l q).2∧(findB g.l q).1.kind=(findB f.l q).1.kind∧(findB g.l q).1.links=(findB f.l q).1.links:=fun q hq=>by
  rw[hb,if_neg hq]
  split
  ·rename_i e;rw[e];exact⟨d1.symm,rfl,rfl⟩
  ·exact⟨rfl,rfl,rfl⟩
 have h1n:(1:Int)≠ino:=fun e=>g3 (by rw[←e];exact T.root.2.1)
 have hn:findB g.l ino=({(findB f.l ino).1 with links:=(findB f.l ino).1.links+1},true):=by rw[hb,if_pos rfl]
 refine⟨?_,fun k hk'=> ?_,fun k hk'=> ?_,fun k hk' h1=> ?_,fun k hk' h1 h2=> ?_⟩
 ·obtain⟨a,b,c⟩:=hb' 1 h1n
  rw[a,b,c];exact T.root
 ·by_cases q:k=ino
  ·rw[q,hn]
  ·rw[(hb' k q).1]
   refine T.here k ?_
   have:=hc k
   rw[if_neg q] at this;omega
 ·have:=hc k
  by_cases q:k=ino
  ·rw[if_pos q] at this
   rw[q] at this⊢
   have h3:=T.links ino g2
   have h4:(findB g.l ino).1.links=(findB f.l ino).1.links+1:=by rw[hn]
   show(findB g.l ino).1.links=_
   rw[h4]
   have h5:cntF g ino=cntF f ino+1:=this
   rw[h5,h3];omega
  ·obtain⟨a,b,c⟩:=hb' k q
   rw[if_neg q] at this
   rw[a] at hk'
   rw[c,this];exact T.links k hk'
 ·by_cases q:k=ino
  ·rw[q,hn]
   have:=(R.links ino).1
   simp only;omega
  ·obtain⟨a,b,c⟩:=hb' k q
   rw[a] at hk'
   rw[c];exact T.some k hk' h1
 ·by_cases q:k=ino
  ·rw[q,hn] at h2
   exact absurd h2 g3
  ·obtain⟨a,b,c⟩:=hb' k q
   rw[a] at hk'
   rw[b] at h2
   rw[c]
   obtain⟨e1,e2⟩:=T.dir k hk' h1 h2
   exact⟨e1,hr _ e2⟩
structure Taken (f:FSR) (dir:Int) (s:ByteArray) (n:NodeR) (g:FSR):Prop where
 rows:Zg g
 next:g.next=f.next
 find:∀q,findB g.l q=if q=n.ino then(if n.links≤1 then(.zero,false) else({n with links:=n.links -1},true)) else if q=dir then({(findB f.l dir).1 with l:=outE (findB f.l dir).1.l s},true) else findB f.l q
 kids:∀i y,(y∈Zs g.l i→y∈Zs f.l i)∧(y∈Zs f.l i→y≠n.ino→y∈Zs g.l i)
 cnt:∀k,cntF g k+(if k=n.ino then 1 else 0)=cntF f k
theorem Zdr {f:FSR} (R:Zg f) (T:ZI f) {dir:Int} {s:ByteArray} (h:(lookD f dir s).2=0) (hl:(lookD f dir s).1.l=[]):Taken f dir s (lookD f dir s).1 (withoutD f dir s (lookD f dir s).1.ino):=by
 have hne:=ZcP R T h
 have hsm:=Zli R h
 obtain⟨h1,h2,h3,h4,h5⟩:=Zej R h
 generalize lookD f dir s=L at*
 obtain⟨n,e⟩:=L
 simp only at*
 have hs:=ZbQ R h1 s
 have hfi:findB (leftD f dir s).l n.ino=(n,true):=by rw[Zal R h1,if_neg hne,h5]
 have hd2:(findB (leftD f dir s).l n.ino).2=true:=by rw[hfi]
 have hl2:(findB (leftD f dir s).l n.ino).1.l=[]:=by rw[hfi];exact hl
 refine⟨hsm.rows,hsm.next,fun q=> ?_,fun i y=> ?_,fun k=> ?_⟩
 ·unfold withoutD
  rw[Zhh hs.rows hd2,hfi,Zal R h1,Zdq h4]
 ·unfold withoutD
  rw[ZsB hs.rows hd2 hl2]
  exact Zlo R h1 h4 i y
 ·unfold withoutD
  rw[Zvr hs.rows hd2 hl2]
  exact Zor R h1 h4 k
theorem Zlp {f:FSR} (R:Zg f) (T:ZI f) {dir:Int} {s:ByteArray} {n:NodeR} {g:FSR} (h1:(findB f.l dir).2=true) (h2:(findB f.l dir).1.kind=2) (h4:findE (findB f.l dir).1.l s=(n.ino,true)) (h5:findB f.l n.ino=(n,true)) (hl:n.l=[]) (A:Taken f dir s n g):ZI g:=by
 have hkid:=Zos R h4
 obtain⟨hne,hn1⟩:=ZsD R T h1 h2 hkid
 have hlk:n.links=cntF f n.ino:=by have:=T.links n.ino (by rw[h5]);rw[h5] at this;exact this
 have hb:∀q,q≠n.ino→(findB g.l q).2=(findB f.l q).2∧(findB g.l q).1.kind=(findB f.l q).1.kind∧(findB g.l q).1.links=(findB f.l q).1.links:=fun q hq=>by
  rw[A.find,if_neg hq]
  split
  ·rename_i e;rw[e];exact⟨h1.symm,rfl,rfl⟩
  ·exact⟨rfl,rfl,rfl⟩
 refine⟨?_,fun k hk'=> ?_,fun k hk'=> ?_,fun k hk' q1=> ?_,fun k hk' q1 q2=> ?_⟩
 ·obtain⟨a,b,c⟩:=hb 1 (fun e=>hn1 e.symm)
  rw[a,b,c];exact T.root
 ·have hc:=A.cnt k
  by_cases q:k=n.ino
  ·rw[if_pos q,q] at hc
   rw[q] at hk'
   rw[q,A.find,if_pos rfl,if_neg (by omega)]
  ·rw[if_neg q] at hc
   rw[(hb k q).1]
   exact T.here k (by omega)
 ·have hc:=A.cnt k
  by_cases q:k=n.ino
  ·rw[if_pos q,q] at hc
   rw[q] at hk'⊢
   rw[A.find,if_pos rfl] at hk'⊢
   split at hk'
   ·cases hk'
   ·rename_i q3
    rw[if_neg q3]
    simp only;omega
  ·rw[if_neg q] at hc
   obtain⟨a,b,c⟩:=hb k q
   rw[a] at hk'
   rw[c,show cntF g k=cntF f k by omega];exact T.links k hk'
 ·by_cases q:k=n.ino
  ·rw[q] at hk'⊢
   rw[A.find,if_pos rfl] at hk'⊢
   split at hk'
   ·cases hk'
   ·rename_i q3
    rw[if_neg q3]
    simp only;omega
  ·obtain⟨a,b,c⟩:=hb k q
   rw[a] at hk'
   rw[c];exact T.some k hk' q1
 ·by_cases q:k=n.ino
  ·exfalso
   rw[q] at hk' q2
   rw[A.find,if_pos rfl] at hk' q2
   split at hk'
   ·cases hk'
   ·rename_i q3
    rw[if_neg q3] at q2
    have:=(T.dir n.ino (by rw[h5]) hn1 (by rw[h5];exact q2)).1
    rw[h5] at this
    simp only at this
    omega
  ·obtain⟨a,b,c⟩:=hb k q
   rw[a] at hk'
   rw[b] at q2
   rw[c]
   obtain⟨e1,e2⟩:=T.dir k hk' q1 q2
   refine⟨e1,ZiN (X:=fun x=>x=n.ino) (fun i y hy hx=>(A.kids i y).2 hy hx) (fun x hx hy=> ?_) e2 q⟩
   obtain⟨y,hy⟩:=hy
   rw[hx] at hy
   unfold Zs at hy
   rw[h5,hl] at hy
   cases hy
theorem Zlq {f:FSR} (R:Zg f) (T:ZI f) {dir to:Int} {s t:ByteArray} {n:NodeR} (h1:(findB f.l dir).2=true) (h2:(findB f.l dir).1.kind=2) (h4:findE (findB f.l dir).1.l s=(n.ino,true)) (h5:findB f.l n.ino=(n,true))
  (t1:(findB f.l to).2=true) (t2:(findB f.l to).1.kind=2) (t3:checkS t=0) (t4:(findE (findB f.l to).1.l t).2=false) (hw:n.kind=2→to≠n.ino∧¬Reach (Zs f.l) n.ino to) (hroom:dir≠to→(findB f.l to).1.l.length<256):
  Zg (enteredD (leftD f dir s) to t n.ino)∧(enteredD (leftD f dir s) to t n.ino).next=f.next∧ZI (enteredD (leftD f dir s) to t n.ino):=by
 have hkid:=Zos R h4
 obtain⟨hne,hn1⟩:=ZsD R T h1 h2 hkid
 have hs:=ZbQ R h1 s
 have hto:(findB (leftD f dir s).l to).2=true∧(findB (leftD f dir s).l to).1.kind=2:=by
  rw[Zal R h1]
  split
  ·exact⟨rfl,h2⟩
  ·exact⟨t1,t2⟩
 have hrow:=R.row dir
 have hfree:(findE (findB (leftD f dir s).l to).1.l t).2=false:=by
  rw[Zal R h1,Zdq h4]
  split
  ·rename_i e
   rw[e] at t4
   exact Zbs.2 fun x hx=>Zbs.1 t4 x (List.mem_filter.1 hx).1
  ·exact t4
 have hlen:(findB (leftD f dir s).l to).1.l.length<256:=by
  rw[Zal R h1,Zdq h4]
  split
  ·rename_i e
   obtain⟨x,hx,e1,e2⟩:=(Zlg hrow.rise s n.ino).1 h4
   have h6:(outE (findB f.l dir).1.l s).length<(findB f.l dir).1.l.length:=List.length_filter_lt_length_iff_exists.2 ⟨x,hx,by simp[e1]⟩
   have:=hrow.len
   simp only;omega
  ·rename_i e
   exact hroom fun q=>e q.symm
 have hpos:1≤n.ino:=R.pos (k:=n.ino) (by rw[h5])
 have hs2:=ZaJ hs.rows hto.1 hto.2 t n.ino
 refine⟨hs2.rows,hs2.next.trans hs.next,?_⟩
 have hc:∀k,cntF (enteredD (leftD f dir s) to t n.ino) k=cntF f k:=fun k=>by
  have e1:=Zev hs.rows hto.1 t3 hpos hfree hlen k
  have e2:=Zor R h1 h4 k
  omega
 have hk:∀i y,y∈Zs f.l i→y≠n.ino→y∈Zs (enteredD (leftD f dir s) to t n.ino).l i:=fun i y h hy=>
  (Zcd hs.rows hto.1 t3 hpos hfree hlen i y).2 (.inl ((Zlo R h1 h4 i y).2 h hy))
 have hk2:n.ino∈Zs (enteredD (leftD f dir s) to t n.ino).l to:=(Zcd hs.rows hto.1 t3 hpos hfree hlen to n.ino).2 (.inr ⟨rfl,rfl⟩)
 have hb:∀q,(findB (enteredD (leftD f dir s) to t n.ino).l q).2=(findB f.l q).2∧(findB (enteredD (leftD f dir s) to t n.ino).l q).1.kind=(findB f.l q).1.kind∧(findB (enteredD (leftD f dir s) to t n.ino).l q).1.links=(findB f.l q).1.links:=fun q=>by
  have e0:∀q,(findB (leftD f dir s).l q).2=(findB f.l q).2∧(findB (leftD f dir s).l q).1.kind=(findB f.l q).1.kind∧(findB (leftD f dir s).l q).1.links=(findB f.l q).1.links:=fun q=>by
   rw[Zal R h1]
   split
   ·rename_i e;rw[e];exact⟨h1.symm,rfl,rfl⟩
   ·exact⟨rfl,rfl,rfl⟩
  rw[Zao hs.rows hto.1]
  split
  ·rename_i e;subst e;exact⟨t1.symm,(e0 q).2.1,(e0 q).2.2⟩
  ·exact e0 q
 generalize enteredD (leftD f dir s) to t n.ino=g at*
 have hrn:n.kind=2→Reach (Zs g.l) 1 n.ino:=fun q=>by
  obtain⟨w1,w2⟩:=hw q
  rcases T.up t1 t2 with e|e
  ·rw[e] at hk2;exact .one hk2
  ·exact .step (Zqh hk e w1 w2) hk2
 refine⟨?_,fun k hk'=> ?_,fun k hk'=> ?_,fun k hk' q1=> ?_,fun k hk' q1 q2=> ?_⟩
 ·obtain⟨a,b,c⟩:=hb 1
  rw[a,b,c];exact T.root
 ·rw[(hb k).1];rw[hc] at hk';exact T.here k hk'
 ·obtain⟨a,b,c⟩:=hb k
  rw[a] at hk'
  rw[c,hc];exact T.links k hk'
 ·obtain⟨a,b,c⟩:=hb k
  rw[a] at hk'
  rw[c];exact T.some k hk' q1
 ·obtain⟨a,b,c⟩:=hb k
  rw[a] at hk'
  rw[b] at q2
  obtain⟨e1,e2⟩:=T.dir k hk' q1 q2
  rw[c]
  refine⟨e1,?_⟩
  by_cases q:k=n.ino
  ·rw[q] at q2⊢
   rw[h5] at q2
   exact hrn q2
  ·refine ZiN (X:=fun x=>x=n.ino) hk (fun x hx hy=> ?_) e2 q
   rw[hx] at hy⊢
   obtain⟨y,hy⟩:=hy
   by_cases q3:n.kind=2
   ·exact hrn q3
   ·have:=leaf_of R (k:=n.ino) (by rw[h5]) (by rw[h5];exact q3)
    unfold Zs at hy
    rw[this] at hy
    cases hy
structure Kept (f g:FSR):Prop where
 rows:Zg g
 tree:ZI g
 next:f.next≤g.next∧g.next≤f.next+1
theorem Kept.refl {f:FSR} (R:Zg f) (T:ZI f):Kept f f:=⟨R,T,Int.le_refl _,by omega⟩
theorem ZsF {f:FSR} (R:Zg f) (to top:Int):belowD f to top=true↔Reach (Zs f.l) top to:=by
 unfold belowD
 rw[decide_eq_true_eq]
 exact ZjK (fun n hn=>((ZbB _).1 ((Zq n).1 (R.ok n hn)).row).len) top to
theorem Zvv {f:FSR} (R:Zg f) (T:ZI f) (dir:Int) (s:ByteArray) (n:NodeR) (he:(addD f dir s n).2=0):Kept f (addD f dir s n).1:=by
 have A:=added R he
 exact⟨A.rows,Zvu R T he,by rw[A.next];omega,by rw[A.next];omega⟩
theorem ZsG {f:FSR} (R:Zg f) (T:ZI f) (dir:Int) (s:ByteArray) (ino:Int):Kept f (giveD f dir s ino).1:=by
 by_cases he:giveE f dir s ino=0
 ·obtain⟨a,b,c⟩:=Zhq R T he
  exact⟨a,c,by omega,by omega⟩
 ·rw[ZbG,if_neg he];exact .refl R T
theorem ZsH {f:FSR} (R:Zg f) (T:ZI f) (dir:Int) (s:ByteArray):Kept f (takeD f dir s).1:=by
 unfold takeD
 split
 ·exact .refl R T
 ·rename_i q
  have q:(lookD f dir s).2=0:=by simpa using q
  split
  ·exact .refl R T
  ·rename_i q2
   have hl:(lookD f dir s).1.l=[]:=List.eq_nil_of_length_eq_zero (by omega)
   have A:=Zdr R T q hl
   obtain⟨h1,h2,h3,h4,h5⟩:=Zej R q
   exact⟨A.rows,Zlp R T h1 h2 h4 h5 hl A,by rw[A.next];omega,by rw[A.next];omega⟩
theorem Zot {n old:NodeR} (h:overD n old=0):(n.kind=2→old.kind=2)∧(n.kind≠2→old.kind≠2)∧old.l=[]:=by
 unfold overD at h
 split at h
 ·simp at h
 ·rename_i h1
  split at h
  ·simp at h
  ·rename_i h2
   split at h
   ·simp at h
   ·exact⟨fun a=>Decidable.byContradiction fun b=>h1 ⟨a,b⟩,fun a b=>h2 ⟨a,b⟩,List.eq_nil_of_length_eq_zero (by omega)⟩
theorem ZsI {l:List EntryR} (h:Zaf l=true) {s t:ByteArray} (hst:s≠t):findE (outE l t) s=findE l s:=
 ZpT (Zfc h _) h fun x hx=>by
  simp only[outE,List.mem_filter,Bool.not_eq_true',decide_eq_false_iff_not]
  exact⟨(·.1),fun q=>⟨q,by rw[hx];exact hst⟩⟩
theorem ZsJ {f:FSR} (R:Zg f) (T:ZI f) (dir:Int) (s:ByteArray) (to:Int) (t:ByteArray):Kept f (moveD f dir s to t).1:=by
 unfold moveD
 split
 ·exact .refl R T
 rename_i q1
 have q1:(lookD f dir s).2=0:=by simpa using q1
 split
 ·exact .refl R T
 rename_i q2
 have q2:(dirD f to).2=0:=by simpa using q2
 split
 ·exact .refl R T
 rename_i q3
 have q3:checkS t=0:=by simpa using q3
 split
 ·exact .refl R T
 rename_i q4
 split
 ·exact .refl R T
 rename_i q5
 split
 ·exact .refl R T
 rename_i q6
 split
 ·exact .refl R T
 rename_i q7
 simp only
 obtain⟨h1,h2,h3,h4,h5⟩:=Zej R q1
 obtain⟨t1,t2,_⟩:=ZaZ q2
 have hnn:=ZcP R T q1
 generalize hL:lookD f dir s=L at*
 obtain⟨n,en⟩:=L
 simp only at*
 subst q1
 rw[ZsF R] at q4
 have hw:n.kind=2→to≠n.ino∧¬Reach (Zs f.l) n.ino to:=fun k=>⟨fun e=>q4 ⟨k,.inl e.symm⟩,fun e=>q4 ⟨k,.inr e⟩⟩
 by_cases hold:(lookD f to t).2=0
 case neg=>
  have ec:clearD f to t=f:=by unfold clearD;rw[if_neg hold]
  rw[ec] at q7⊢
  obtain⟨a,b,c⟩:=Zlq R T h1 h2 h4 h5 t1 t2 q3 (ZsE R T q2 q3 hold) hw (fun e=>by
   have:¬256≤(findB f.l to).1.l.length:=fun g=>q7 ⟨e,g⟩
   omega)
  exact⟨a,c,by omega,by omega⟩
 have q6':overD n (lookD f to t).1=0:=by
  rcases Decidable.em (overD n (lookD f to t).1=0) with h|h
  ·exact h
  ·exact absurd ⟨hold,h⟩ q6
 obtain⟨o1,o2,o3⟩:=Zot q6'
 have ec:clearD f to t=withoutD f to t (lookD f to t).1.ino:=by unfold clearD;rw[if_pos hold]
 rw[ec] at q7⊢
 have A:=Zdr R T hold o3
 obtain⟨u1,u2,u3,u4,u5⟩:=Zej R hold
 have hne2:(lookD f to t).1.ino≠n.ino:=fun e=>q5 ⟨hold,e⟩
 have hst:dir=to→s≠t:=fun e1 e2=>by subst e1 e2;rw[hL] at hne2;exact hne2 rfl
 have hot:=ZcP R T hold
 generalize hO:lookD f to t=O at*
 obtain⟨old,eo⟩:=O
 simp only at*
 subst hold
 have TA:=Zlp R T u1 u2 u4 u5 o3 A
 generalize withoutD f to t old.ino=g at*
 have hdo:dir≠old.ino:=fun e=>by
  rw[e,u5] at h4
  simp only[o3] at h4
  exact absurd (congrArg Prod.snd h4) (by simp[findE])
 have hnt:n.ino≠to:=fun e=>by
  by_cases k:n.kind=2
  ·exact(hw k).1 e.symm
  ·rw[←e,h5] at t2;exact k t2
 have gt:findB g.l to=({(findB f.l to).1 with l:=outE (findB f.l to).1.l t},true):=by rw[A.find,if_neg (fun e=>hot e.symm),if_pos rfl]
 have gn:findB g.l n.ino=(n,true):=by rw[A.find,if_neg (fun e=>hne2 e.symm),if_neg hnt,h5]
 have gd:(findB g.l dir).2=true∧(findB g.l dir).1.kind=2∧findE (findB g.l dir).1.l s=(n.ino,true):=by
  rw[A.find,if_neg hdo]
  split
  ·rename_i e
   refine⟨rfl,u2,?_⟩
   simp only
   rw[ZsI (R.row to).rise (hst e),←e];exact h4
  ·exact⟨h1,h2,h4⟩
 obtain⟨a,b,c⟩:=Zlq A.rows TA gd.1 gd.2.1 gd.2.2 gn (to:=to) (t:=t) (by rw[gt]) (by rw[gt];exact u2) q3 (by
   rw[gt]
   exact Zbs.2 fun x hx=>by simpa[outE] using(List.mem_filter.1 hx).2) (fun k=>⟨(hw k).1,fun e=>(hw k).2 (Zhp (fun i y h=>(A.kids i y).1 h) e)⟩) (fun e=>by
   have:¬256≤(findB g.l to).1.l.length:=fun g=>q7 ⟨e,g⟩
   omega)
 have:=A.next
 exact⟨a,c,by omega,by omega⟩
theorem Zlr {f:FSR} (R:Zg f) (P:ZI f) {ino:Int} {turn:List UInt8→List UInt8×Int} (ht:∀s,s.length≤4096→(turn s).2=0→(turn s).1.length≤4096):Kept f (textD f ino turn).1:=by
 unfold textD
 split
 ·exact .refl R P
 rename_i q1
 have q1:(ofD f ino 1).2=0:=by simpa using q1
 split
 ·exact .refl R P
 rename_i q2
 have q2:(turn (bs (ofD f ino 1).1.text)).2=0:=by simpa using q2
 simp only
 have hof:∃m,findB f.l ino=(m,true)∧m.kind=1∧(ofD f ino 1).1=m:=by
  unfold ofD at q1⊢
  split at q1
  ·simp at q1
  ·rename_i h1
   split at q1
   ·simp at q1
   ·rename_i h2
    rw[if_neg h1,if_neg h2]
    refine⟨_,Prod.ext rfl (by simpa using h1),?_,rfl⟩
    simp only[not_and,ne_eq,Decidable.not_not] at h2
    exact h2 (by decide)
 obtain⟨m,hm,hk,e⟩:=hof
 rw[e] at q2⊢
 have hm2:=R.text ino
 rw[hm] at hm2
 have hx:=ht (bs m.text) (show m.text.size≤4096 from hm2) q2
 obtain⟨hs,hb⟩:=Zlm R hm (show m.kind≠2 by omega) hx
 have hino:m.ino=ino:=by have:=(R.find_ok (d:=ino) (by rw[hm])).2;rw[hm] at this;exact this
 have hc:∀k,cntF (putB f {m with text:=T (turn (bs m.text)).1}) k=cntF f k:=fun k=>by
  have:cntF (putB f {m with text:=T (turn (bs m.text)).1}) k+((findB f.l ino).1.l.map (·.ino)).count k=cntF f k+(m.l.map (·.ino)).count k:=Zfg R.rise (n:={m with text:=T (turn (bs m.text)).1}) hino k
  rw[hm] at this
  simp only at this
  omega
 have hk:∀i,Zs (putB f {m with text:=T (turn (bs m.text)).1}).l i=Zs f.l i:=fun i=>by
  unfold Zs
  rw[hb]
  split
  ·rename_i e;rw[e,hm]
  ·rfl
 generalize putB f {m with text:=T (turn (bs m.text)).1}=g at*
 have hkk:Zs g.l=Zs f.l:=funext hk
 have hb':∀q,(findB g.l q).2=(findB f.l q).2∧(findB g.l q).1.kind=(findB f.l q).1.kind∧(findB g.l q).1.links=(findB f.l q).1.links:=fun q=>by
  rw[hb]
  split
  ·rename_i e;rw[e,hm];exact⟨rfl,rfl,rfl⟩
  ·exact⟨rfl,rfl,rfl⟩
 have hnx:=hs.next
 refine⟨hs.rows,⟨?_,fun k hk'=> ?_,fun k hk'=> ?_,fun k hk' q1=> ?_,fun k hk' q1 q2=> ?_⟩,by omega,by omega⟩
 ·obtain⟨a,b,c⟩:=hb' 1
  rw[a,b,c];exact P.root
 ·rw[(hb' k).1];rw[hc] at hk';exact P.here k hk'
 ·obtain⟨a,b,c⟩:=hb' k
  rw[a] at hk'
  rw[c,hc];exact P.links k hk'
 ·obtain⟨a,b,c⟩:=hb' k
  rw[a] at hk'
  rw[c];exact P.some k hk' q1
 ·obtain⟨a,b,c⟩:=hb' k
  rw[a] at hk'
  rw[b] at q2
  rw[c,hkk];exact P.dir k hk' q1 q2
theorem ZsK {f:FSR} {c:CallR} (h:c.kind=1):doS f c=(f,toldR ⟨0,(lookD f c.ino c.name).1.ino,0,0,.empty,[]⟩ (lookD f c.ino c.name).2):=by
 unfold doS;rw[if_pos h]
theorem ZsL {f:FSR} {c:CallR} (h:c.kind=2):doS f c=(f,toldR ⟨0,(ofD f c.ino 0).1.kind,(ofD f c.ino 0).1.links,sizeS (ofD f c.ino 0).1,.empty,[]⟩ (ofD f c.ino 0).2):=by
 unfold doS;rw[if_neg (show¬c.kind=1 by omega),if_pos h]
theorem ZsM {f:FSR} {c:CallR} (h:c.kind=3):doS f c=(f,if(ofD f c.ino 1).2≠0 then errR (ofD f c.ino 1).2 else toldR ⟨0,0,0,0,T (readT (bs (ofD f c.ino 1).1.text) c.at_ c.many).1,[]⟩ (readT (bs (ofD f c.ino 1).1.text) c.at_ c.many).2):=by
 unfold doS;rw[if_neg (show¬c.kind=1 by omega),if_neg (show¬c.kind=2 by omega),if_pos h]
theorem Zvw {f:FSR} {c:CallR} (h:c.kind=4):doS f c=((textD f c.ino fun s=>writeT s c.at_ (bs c.text)).1,toldR ⟨0,c.text.size,0,0,.empty,[]⟩ (textD f c.ino fun s=>writeT s c.at_ (bs c.text)).2):=by
 unfold doS;rw[if_neg (show¬c.kind=1 by omega),if_neg (show¬c.kind=2 by omega),if_neg (show¬c.kind=3 by omega),if_pos h]
theorem Zvx {f:FSR} {c:CallR} (h:c.kind=5):doS f c=((textD f c.ino fun s=>cutT s c.many).1,errR (textD f c.ino fun s=>cutT s c.many).2):=by
 unfold doS;rw[if_neg (show¬c.kind=1 by omega),if_neg (show¬c.kind=2 by omega),if_neg (show¬c.kind=3 by omega),if_neg (show¬c.kind=4 by omega),if_pos h]
theorem doS_6 {f:FSR} {c:CallR} (h:c.kind=6):doS f c=addO f c ⟨0,1,0,.empty,[]⟩:=by
 unfold doS;rw[if_neg (show¬c.kind=1 by omega),if_neg (show¬c.kind=2 by omega),if_neg (show¬c.kind=3 by omega),if_neg (show¬c.kind=4 by omega),if_neg (show¬c.kind=5 by omega),if_pos h]
theorem doS_7 {f:FSR} {c:CallR} (h:c.kind=7):doS f c=addO f c ⟨0,2,0,.empty,[]⟩:=by
 unfold doS;rw[if_neg (show¬c.kind=1 by omega),if_neg (show¬c.kind=2 by omega),if_neg (show¬c.kind=3 by omega),if_neg (show¬c.kind=4 by omega),if_neg (show¬c.kind=5 by omega),if_neg (show¬c.kind=6 by omega),if_pos h]
theorem doS_8 {f:FSR} {c:CallR} (h:c.kind=8):doS f c=addO f c ⟨0,3,0,c.text,[]⟩:=by
 unfold doS;rw[if_neg (show¬c.kind=1 by omega),if_neg (show¬c.kind=2 by omega),if_neg (show¬c.kind=3 by omega),if_neg (show¬c.kind=4 by omega),if_neg (show¬c.kind=5 by omega),if_neg (show¬c.kind=6 by omega),if_neg (show¬c.kind=7 by omega),if_pos h]
theorem Zvy {f:FSR} {c:CallR} (h:c.kind=9):doS f c=removeO f c false:=by
 unfold doS;rw[if_neg (show¬c.kind=1 by omega),if_neg (show¬c.kind=2 by omega),if_neg (show¬c.kind=3 by omega),if_neg (show¬c.kind=4 by omega),if_neg (show¬c.kind=5 by omega),if_neg (show¬c.kind=6 by omega),if_neg (show¬c.kind=7 by omega),if_neg (show¬c.kind=8 by omega),if_pos h]
theorem Zou {f:FSR} {c:CallR} (h:c.kind=10):doS f c=removeO f c true:=by
 unfold doS;rw[if_neg (show¬c.kind=1 by omega),if_neg (show¬c.kind=2 by omega),if_neg (show¬c.kind=3 by omega),if_neg (show¬c.kind=4 by omega),if_neg (show¬c.kind=5 by omega),if_neg (show¬c.kind=6 by omega),if_neg (show¬c.kind=7 by omega),if_neg (show¬c.kind=8 by omega),if_neg (show¬c.kind=9 by omega),if_pos h]
theorem Zov {f:FSR} {c:CallR} (h:c.kind=11):doS f c=((giveD f c.ino c.name c.to_).1,errR (giveD f c.ino c.name c.to_).2):=by
 unfold doS;rw[if_neg (show¬c.kind=1 by omega),if_neg (show¬c.kind=2 by omega),if_neg (show¬c.kind=3 by omega),if_neg (show¬c.kind=4 by omega),if_neg (show¬c.kind=5 by omega),if_neg (show¬c.kind=6 by omega),if_neg (show¬c.kind=7 by omega),if_neg (show¬c.kind=8 by omega),if_neg (show¬c.kind=9 by omega),if_neg (show¬c.kind=10 by omega),if_pos h]
theorem doS_12 {f:FSR} {c:CallR} (h:c.kind=12):doS f c=((moveD f c.ino c.name c.to_ c.name2).1,errR (moveD f c.ino c.name c.to_ c.name2).2):=by
 unfold doS;rw[if_neg (show¬c.kind=1 by omega),if_neg (show¬c.kind=2 by omega),if_neg (show¬c.kind=3 by omega),if_neg (show¬c.kind=4 by omega),if_neg (show¬c.kind=5 by omega),if_neg (show¬c.kind=6 by omega),if_neg (show¬c.kind=7 by omega),if_neg (show¬c.kind=8 by omega),if_neg (show¬c.kind=9 by omega),if_neg (show¬c.kind=10 by omega),if_neg (show¬c.kind=11 by omega),if_pos h]
theorem Zls {f:FSR} {c:CallR} (h:c.kind=13):doS f c=(f,toldR ⟨0,0,0,0,(ofD f c.ino 3).1.text,[]⟩ (ofD f c.ino 3).2):=by
 unfold doS;rw[if_neg (show¬c.kind=1 by omega),if_neg (show¬c.kind=2 by omega),if_neg (show¬c.kind=3 by omega),if_neg (show¬c.kind=4 by omega),if_neg (show¬c.kind=5 by omega),if_neg (show¬c.kind=6 by omega),if_neg (show¬c.kind=7 by omega),if_neg (show¬c.kind=8 by omega),if_neg (show¬c.kind=9 by omega),if_neg (show¬c.kind=10 by omega),if_neg (show¬c.kind=11 by omega),if_neg (show¬c.kind=12 by omega),if_pos h]
theorem Zlt {f:FSR} {c:CallR} (h:c.kind=14):doS f c=(f,toldR ⟨0,0,0,0,.empty,(dirD f c.ino).1.l.map (·.name)⟩ (dirD f c.ino).2):=by
 unfold doS;rw[if_neg (show¬c.kind=1 by omega),if_neg (show¬c.kind=2 by omega),if_neg (show¬c.kind=3 by omega),if_neg (show¬c.kind=4 by omega),if_neg (show¬c.kind=5 by omega),if_neg (show¬c.kind=6 by omega),if_neg (show¬c.kind=7 by omega),if_neg (show¬c.kind=8 by omega),if_neg (show¬c.kind=9 by omega),if_neg (show¬c.kind=10 by omega),if_neg (show¬c.kind=11 by omega),if_neg (show¬c.kind=12 by omega),if_neg (show¬c.kind=13 by omega),if_pos h]
theorem ZsN {f:FSR} {c:CallR} (h:c.kind=15):doS f c=(f,⟨0,f.l.length,sizesF f.l,0,.empty,[]⟩):=by
 unfold doS;rw[if_neg (show¬c.kind=1 by omega),if_neg (show¬c.kind=2 by omega),if_neg (show¬c.kind=3 by omega),if_neg (show¬c.kind=4 by omega),if_neg (show¬c.kind=5 by omega),if_neg (show¬c.kind=6 by omega),if_neg (show¬c.kind=7 by omega),if_neg (show¬c.kind=8 by omega),if_neg (show¬c.kind=9 by omega),if_neg (show¬c.kind=10 by omega),if_neg (show¬c.kind=11 by omega),if_neg (show¬c.kind=12 by omega),if_neg (show¬c.kind=13 by omega),if_neg (show¬c.kind=14 by omega),if_pos h]
theorem Zfh {f:FSR} {c:CallR} (h:c.kind<1∨15<c.kind):doS f c=(f,errR 1):=by
 unfold doS;rw[if_neg (show¬c.kind=1 by omega),if_neg (show¬c.kind=2 by omega),if_neg (show¬c.kind=3 by omega),if_neg (show¬c.kind=4 by omega),if_neg (show¬c.kind=5 by omega),if_neg (show¬c.kind=6 by omega),if_neg (show¬c.kind=7 by omega),if_neg (show¬c.kind=8 by omega),if_neg (show¬c.kind=9 by omega),if_neg (show¬c.kind=10 by omega),if_neg (show¬c.kind=11 by omega),if_neg (show¬c.kind=12 by omega),if_neg (show¬c.kind=13 by omega),if_neg (show¬c.kind=14 by omega),if_neg (show¬c.kind=15 by omega)]
theorem kind_cases (k:Int):(k<1∨15<k)∨k=1∨k=2∨k=3∨k=4∨k=5∨k=6∨k=7∨k=8∨k=9∨k=10∨k=11∨k=12∨k=13∨k=14∨k=15:=by omega
theorem calm_of {f:FSR} (R:Zg f) (T:ZI f) (c:CallR):CalmF f c:=⟨fun _ h=>ZcP R T h,fun _ h=>ZcP R T h⟩
theorem Zhr {f:FSR} (R:Zg f) (T:ZI f) (c:CallR) (n:NodeR):Kept f (addO f c n).1:=by
 unfold addO
 split
 ·exact .refl R T
 split
 ·exact .refl R T
 ·rename_i q;exact Zvv R T _ _ _ (by simpa using q)
theorem ZfY {f:FSR} (R:Zg f) (T:ZI f) (c:CallR) (b:Bool):Kept f (removeO f c b).1:=by
 unfold removeO
 split
 ·exact .refl R T
 split
 ·exact .refl R T
 split
 ·exact .refl R T
 ·exact ZsH R T _ _
theorem Zce {f:FSR} (R:Zg f) (T:ZI f) (c:CallR):Kept f (doS f c).1:=by
 rcases kind_cases c.kind with h|h|h|h|h|h|h|h|h|h|h|h|h|h|h|h
 ·rw[Zfh h];exact .refl R T
 ·rw[ZsK h];exact .refl R T
 ·rw[ZsL h];exact .refl R T
 ·rw[ZsM h];exact .refl R T
 ·rw[Zvw h];exact Zlr R T fun s hs h=>Zhm h hs
 ·rw[Zvx h];exact Zlr R T fun s hs h=>ZmW h
 ·rw[doS_6 h];exact Zhr R T c _
 ·rw[doS_7 h];exact Zhr R T c _
 ·rw[doS_8 h];exact Zhr R T c _
 ·rw[Zvy h];exact ZfY R T c _
 ·rw[Zou h];exact ZfY R T c _
 ·rw[Zov h];exact ZsG R T _ _ _
 ·rw[doS_12 h];exact ZsJ R T _ _ _ _
 ·rw[Zls h];exact .refl R T
 ·rw[Zlt h];exact .refl R T
 ·rw[ZsN h];exact .refl R T
theorem ZjU {f:FSR} {ino:Int} {turn:List UInt8→List UInt8×Int} (he:(textD f ino turn).2≠0):(textD f ino turn).1=f:=by
 unfold textD at he⊢
 split
 ·rfl
 rename_i q1;rw[if_neg q1] at he
 split
 ·rfl
 rename_i q2;rw[if_neg q2] at he
 exact absurd rfl he
theorem ZsO (f:FSR) (c:CallR) (h':c.kind≤3∨13≤c.kind):(doS f c).1=f:=by
 rcases kind_cases c.kind with h|h|h|h|h|h|h|h|h|h|h|h|h|h|h|h
 ·rw[Zfh h]
 ·rw[ZsK h]
 ·rw[ZsL h]
 ·rw[ZsM h]
 ·omega
 ·omega
 ·omega
 ·omega
 ·omega
 ·omega
 ·omega
 ·omega
 ·omega
 ·rw[Zls h]
 ·rw[Zlt h]
 ·rw[ZsN h]
theorem Zhs:∀(l:List CallR) (f:FSR),Zg f→ZI f→Zg (playS f l).1∧ZI (playS f l).1∧f.next≤(playS f l).1.next∧(playS f l).1.next≤f.next+l.length
 |[],f,R,T=>⟨R,T,Int.le_refl _,by simp[playS]⟩
 |c::l,f,R,T=>by
  have K:=Zce R T c
  obtain⟨a,b,d,e⟩:=Zhs l _ K.rows K.tree
  have:=K.next
  simp only[playS,List.length_cons]
  exact⟨a,b,by omega,by omega⟩
end Go.Cx
set_option linter.unusedVariables false
set_option linter.unusedSimpArgs false
namespace Go.Cx
theorem ZdT {l:List Int} (h:ZaI l=true) (f:FSR) (d:Int) (s:ByteArray):ZaI (ZbA l f d s)=true∧∀y,y∈ZbA l f d s↔y∈l∨findE (findB f.l d).1.l s=(y,true):=by
 unfold ZbA
 split
 ·rename_i q
  obtain⟨h1,h2⟩:=ZdQ h (findE (findB f.l d).1.l s).1
  refine⟨h1,fun y=> ?_⟩
  rw[h2]
  have:findE (findB f.l d).1.l s=(y,true)↔y=(findE (findB f.l d).1.l s).1:=
   ⟨fun e=>by rw[e],fun e=>by rw[e];exact Prod.ext rfl q⟩
  rw[this];exact or_comm
 ·rename_i q
  refine⟨h,fun y=>⟨.inl,fun g=>g.elim id fun e=>absurd (by rw[e]) q⟩⟩
theorem Zbe (f:FSR) (c:CallR):ZaI (looksS f c)=true∧(c.kind≠15→∀y,y∈looksS f c↔((((y=c.ino∨y=c.to_)∨findE (findB f.l c.ino).1.l c.name=(y,true))∨findE (findB f.l c.ino).1.l c.name2=(y,true))∨findE (findB f.l c.to_).1.l c.name=(y,true))∨findE (findB f.l c.to_).1.l c.name2=(y,true)):=by
 unfold looksS
 obtain⟨a1,a2⟩:=ZdQ (l:=[]) rfl c.ino
 obtain⟨b1,b2⟩:=ZdQ a1 c.to_
 obtain⟨c1,c2⟩:=ZdT b1 f c.ino c.name
 obtain⟨d1,d2⟩:=ZdT c1 f c.ino c.name2
 obtain⟨e1,e2⟩:=ZdT d1 f c.to_ c.name
 obtain⟨f1,f2⟩:=ZdT e1 f c.to_ c.name2
 split
 ·rename_i q;exact⟨rfl,fun h=>absurd q h⟩
 ·refine⟨f1,fun _ y=> ?_⟩
  rw[f2,e2,d2,c2,b2,a2]
  simp only[List.not_mem_nil,or_false]
  rw[show(y=c.to_∨y=c.ino)↔(y=c.ino∨y=c.to_) from or_comm]
structure ZmX (f:FSR) (c:CallR) (k:FSR) (L:List Int):Prop where
 len:L.length≤4
 no:∀q,q∉L→findB k.l q=findB f.l q
 yes:∀q∈L,q∈looksS f c∨f.next≤q
theorem ZmX.none {f:FSR} {c:CallR}:ZmX f c f []:=⟨by simp,fun _ _=>rfl,by simp⟩
theorem ofD_one {f:FSR} {ino:Int} (q1:(ofD f ino 1).2=0):∃m,findB f.l ino=(m,true)∧m.kind=1∧(ofD f ino 1).1=m:=by
 unfold ofD at q1⊢
 split at q1
 ·simp at q1
 ·rename_i h1
  split at q1
  ·simp at q1
  ·rename_i h2
   rw[if_neg h1,if_neg h2]
   refine⟨_,Prod.ext rfl (by simpa using h1),?_,rfl⟩
   simp only[not_and,ne_eq,Decidable.not_not] at h2
   exact h2 (by decide)
theorem Zht {f:FSR} (R:Zg f) {ino:Int} {turn:List UInt8→List UInt8×Int} (h:(textD f ino turn).2=0) (ht:∀s,s.length≤4096→(turn s).2=0→(turn s).1.length≤4096):
  ∃m,findB f.l ino=(m,true)∧m.kind=1∧(turn (bs m.text)).2=0∧(textD f ino turn).1=putB f {m with text:=T (turn (bs m.text)).1}∧Zfe f (textD f ino turn).1∧∀q,findB (textD f ino turn).1.l q=if q=ino then({m with text:=T (turn (bs m.text)).1},true) else findB f.l q:=by
 unfold textD at h⊢
 split at h
 ·rename_i q;exact absurd h q
 rename_i q1
 rw[if_neg q1]
 split at h
 ·rename_i q;exact absurd h q
 rename_i q2
 rw[if_neg q2]
 obtain⟨m,hm,hk,e⟩:=ofD_one (by simpa using q1)
 have q2:(turn (bs (ofD f ino 1).1.text)).2=0:=by simpa using q2
 rw[e] at q2⊢
 have hm2:=R.text ino
 rw[hm] at hm2
 obtain⟨hs,hb⟩:=Zlm R hm (show m.kind≠2 by omega) (ht (bs m.text) (show m.text.size≤4096 from hm2) q2)
 exact⟨m,hm,hk,q2,rfl,hs,hb⟩
theorem ZiO {f:FSR} (R:Zg f) {c:CallR} (hk:c.kind≠15) (h:(lookD f c.ino c.name).2=0):(lookD f c.ino c.name).1.ino∈looksS f c:=by
 obtain⟨_,_,_,h4,_⟩:=Zej R h
 exact((Zbe f c).2 hk _).2 (.inl (.inl (.inl (.inr h4))))
theorem ZmY {f:FSR} (R:Zg f) {c:CallR} (hk:c.kind≠15) (h:(lookD f c.to_ c.name2).2=0):(lookD f c.to_ c.name2).1.ino∈looksS f c:=by
 obtain⟨_,_,_,h4,_⟩:=Zej R h
 exact((Zbe f c).2 hk _).2 (.inr h4)
theorem ZN {f:FSR} {c:CallR} (hk:c.kind≠15):c.ino∈looksS f c:=((Zbe f c).2 hk _).2 (.inl (.inl (.inl (.inl (.inl rfl)))))
theorem ZdU {f:FSR} {c:CallR} (hk:c.kind≠15):c.to_∈looksS f c:=((Zbe f c).2 hk _).2 (.inl (.inl (.inl (.inl (.inr rfl)))))
theorem ZiP {f:FSR} (R:Zg f) {c:CallR} (hk:c.kind≠15) {turn:List UInt8→List UInt8×Int} (ht:∀s,s.length≤4096→(turn s).2=0→(turn s).1.length≤4096):∃L,ZmX f c (textD f c.ino turn).1 L:=by
 by_cases h:(textD f c.ino turn).2=0
 ·obtain⟨m,_,_,_,_,_,hb⟩:=Zht R h ht
  exact⟨[c.ino],by simp,fun q hq=>by rw[hb,if_neg (by simpa using hq)],fun q hq=> .inl (by simp at hq;subst hq;exact ZN hk)⟩
 ·rw[ZjU h];exact⟨[],.none⟩
theorem ZfE {f:FSR} (R:Zg f) {c:CallR} (hk:c.kind≠15) (n:NodeR):∃L,ZmX f c (addO f c n).1 L:=by
 unfold addO
 split
 ·exact⟨[],.none⟩
 split
 ·exact⟨[],.none⟩
 ·rename_i q
  have A:=added R (by simpa using q)
  refine⟨[c.ino,f.next],by simp,fun q hq=> ?_,fun q hq=> ?_⟩
  ·simp only[List.mem_cons,List.not_mem_nil,or_false,not_or] at hq
   rw[A.find,if_neg hq.2,if_neg hq.1]
  ·simp only[List.mem_cons,List.not_mem_nil,or_false] at hq
   rcases hq with rfl|rfl
   ·exact .inl (ZN hk)
   ·exact .inr (Int.le_refl _)
theorem Zqi {f:FSR} (R:Zg f) (T:ZI f) {c:CallR} (hk:c.kind≠15):∃L,ZmX f c (takeD f c.ino c.name).1 L:=by
 unfold takeD
 split
 ·exact⟨[],.none⟩
 rename_i q
 have q:(lookD f c.ino c.name).2=0:=by simpa using q
 split
 ·exact⟨[],.none⟩
 rename_i q2
 have A:=Zdr R T q (List.eq_nil_of_length_eq_zero (by omega))
 refine⟨[(lookD f c.ino c.name).1.ino,c.ino],by simp,fun q hq=> ?_,fun q' hq=> ?_⟩
 ·simp only[List.mem_cons,List.not_mem_nil,or_false,not_or] at hq
  rw[A.find,if_neg hq.1,if_neg hq.2]
 ·simp only[List.mem_cons,List.not_mem_nil,or_false] at hq
  rcases hq with rfl|rfl
  ·exact .inl (ZiO R hk q)
  ·exact .inl (ZN hk)
theorem Zfi {f:FSR} (R:Zg f) (T:ZI f) {c:CallR} (hk:c.kind≠15) (b:Bool):∃L,ZmX f c (removeO f c b).1 L:=by
 unfold removeO
 split
 ·exact⟨[],.none⟩
 split
 ·exact⟨[],.none⟩
 split
 ·exact⟨[],.none⟩
 ·exact Zqi R T hk
theorem Zhu {f:FSR} (R:Zg f) {dir:Int} {s:ByteArray} {ino:Int} (he:giveE f dir s ino=0) (q:Int):
  findB (giveD f dir s ino).1.l q=if q=ino then({(findB f.l ino).1 with links:=(findB f.l ino).1.links+1},true) else if q=dir then({(findB f.l dir).1 with l:=(enterE (findB f.l dir).1.l s ino).1},true) else findB f.l q:=by
 obtain⟨g1,g2,g3,g4,g5,g6,g7⟩:=ZmS he
 obtain⟨d1,d2,d3⟩:=ZaZ g1
 have hs:=ZaJ R d1 d2 s ino
 rw[ZbG,if_pos he,ZaY hs.rows.rise]
 simp only[(R.find_ok g2).2]
 split
 ·rfl
 ·rw[Zao R d1]
theorem Zqj {f:FSR} (R:Zg f) {c:CallR} (hk:c.kind≠15):∃L,ZmX f c (giveD f c.ino c.name c.to_).1 L:=by
 by_cases he:giveE f c.ino c.name c.to_=0
 ·refine⟨[c.to_,c.ino],by simp,fun q hq=> ?_,fun q hq=> ?_⟩
  ·simp only[List.mem_cons,List.not_mem_nil,or_false,not_or] at hq
   rw[Zhu R he,if_neg hq.1,if_neg hq.2]
  ·simp only[List.mem_cons,List.not_mem_nil,or_false] at hq
   rcases hq with rfl|rfl
   ·exact .inl (ZdU hk)
   ·exact .inl (ZN hk)
 ·rw[ZbG,if_neg he];exact⟨[],.none⟩
theorem Zqk {f:FSR} (R:Zg f) {to:Int} {t:ByteArray} (T:ZI f) (q:Int) (h1:q≠to) (h2:(lookD f to t).2=0→q≠(lookD f to t).1.ino):findB (clearD f to t).l q=findB f.l q:=by
 rw[ZdS R to t q h2 (fun h=>ZcP R T h),if_neg (fun g=>h1 g.1)]
theorem Zql {f:FSR} (R:Zg f) (T:ZI f) {c:CallR} (hk:c.kind≠15):∃L,ZmX f c (moveD f c.ino c.name c.to_ c.name2).1 L:=by
 unfold moveD
 split
 ·exact⟨[],.none⟩
 rename_i q1
 split
 ·exact⟨[],.none⟩
 rename_i q2
 split
 ·exact⟨[],.none⟩
 split
 ·exact⟨[],.none⟩
 split
 ·exact⟨[],.none⟩
 split
 ·exact⟨[],.none⟩
 rename_i q6
 split
 ·exact⟨[],.none⟩
 simp only
 have q1:(lookD f c.ino c.name).2=0:=by simpa using q1
 have q2:(dirD f c.to_).2=0:=by simpa using q2
 obtain⟨h1,h2,_⟩:=Zej R q1
 obtain⟨t1,t2,_⟩:=ZaZ q2
 have hcs:=ZiF R c.to_ c.name2
 have key:∀q,q≠c.ino→q≠c.to_→((lookD f c.to_ c.name2).2=0→q≠(lookD f c.to_ c.name2).1.ino)→(findB (clearD f c.to_ c.name2).l c.ino).2=true→(findB (leftD (clearD f c.to_ c.name2) c.ino c.name).l c.to_).2=true→Zg (leftD (clearD f c.to_ c.name2) c.ino c.name)→
   findB (enteredD (leftD (clearD f c.to_ c.name2) c.ino c.name) c.to_ c.name2 (lookD f c.ino c.name).1.ino).l q=findB f.l q:=fun q a1 a2 a3 a4 a5 a6=>by
  rw[Zao a6 a5,if_neg a2,Zal hcs.rows a4,if_neg a1,Zqk R T q a2 a3]
 have htt:(findB (clearD f c.to_ c.name2).l c.to_).2=true:=by
  rw[ZdS R c.to_ c.name2 c.to_ (fun h=>(ZcP R T h).symm) (fun h=>ZcP R T h)]
  split
  ·rfl
  ·exact t1
 have hdd:(findB (clearD f c.to_ c.name2).l c.ino).2=true:=by
  by_cases e:(lookD f c.to_ c.name2).2=0∧c.ino=(lookD f c.to_ c.name2).1.ino
  ·exfalso
   have ho:overD (lookD f c.ino c.name).1 (lookD f c.to_ c.name2).1=0:=Decidable.byContradiction fun g=>q6 ⟨e.1,g⟩
   obtain⟨_,_,o3⟩:=Zot ho
   obtain⟨_,_,_,_,u5⟩:=Zej R e.1
   obtain⟨_,_,_,h4,_⟩:=Zej R q1
   rw[e.2,u5] at h4
   simp only[o3] at h4
   exact absurd (congrArg Prod.snd h4) (by simp[findE])
  ·rw[ZdS R c.to_ c.name2 c.ino (fun h g=>e ⟨h,g⟩) (fun h=>ZcP R T h)]
   split
   ·rfl
   ·exact h1
 have hls:=ZbQ hcs.rows hdd c.name
 have htl:(findB (leftD (clearD f c.to_ c.name2) c.ino c.name).l c.to_).2=true:=by
  rw[Zal hcs.rows hdd]
  split
  ·rfl
  ·exact htt
 by_cases hold:(lookD f c.to_ c.name2).2=0
 ·refine⟨[c.ino,c.to_,(lookD f c.to_ c.name2).1.ino],by simp,fun q hq=> ?_,fun q hq=> ?_⟩
  ·simp only[List.mem_cons,List.not_mem_nil,or_false,not_or] at hq
   exact key q hq.1 hq.2.1 (fun _=>hq.2.2) hdd htl hls.rows
  ·simp only[List.mem_cons,List.not_mem_nil,or_false] at hq
   rcases hq with rfl|rfl|rfl
   ·exact .inl (ZN hk)
   ·exact .inl (ZdU hk)
   ·exact .inl (ZmY R hk hold)
 ·refine⟨[c.ino,c.to_],by simp,fun q hq=> ?_,fun q hq=> ?_⟩
  ·simp only[List.mem_cons,List.not_mem_nil,or_false,not_or] at hq
   exact key q hq.1 hq.2 (fun h=>absurd h hold) hdd htl hls.rows
  ·simp only[List.mem_cons,List.not_mem_nil,or_false] at hq
   rcases hq with rfl|rfl
   ·exact .inl (ZN hk)
   ·exact .inl (ZdU hk)
theorem ZsP {f:FSR} (R:Zg f) (T:ZI f) (c:CallR):∃L,ZmX f c (doS f c).1 L:=by
 by_cases hk:c.kind=15
 ·rw[ZsO f c (.inr (by omega))];exact⟨[],.none⟩
 rcases kind_cases c.kind with h|h|h|h|h|h|h|h|h|h|h|h|h|h|h|h
 ·rw[Zfh h];exact⟨[],.none⟩
 ·rw[ZsK h];exact⟨[],.none⟩
 ·rw[ZsL h];exact⟨[],.none⟩
 ·rw[ZsM h];exact⟨[],.none⟩
 ·rw[Zvw h];exact ZiP R hk fun s hs h=>Zhm h hs
 ·rw[Zvx h];exact ZiP R hk fun s hs h=>ZmW h
 ·rw[doS_6 h];exact ZfE R hk _
 ·rw[doS_7 h];exact ZfE R hk _
 ·rw[doS_8 h];exact ZfE R hk _
 ·rw[Zvy h];exact Zfi R T hk _
 ·rw[Zou h];exact Zfi R T hk _
 ·rw[Zov h];exact Zqj R hk
 ·rw[doS_12 h];exact Zql R T hk
 ·rw[Zls h];exact⟨[],.none⟩
 ·rw[Zlt h];exact⟨[],.none⟩
 ·rw[ZsN h];exact⟨[],.none⟩
theorem Zhv {f g:FSR} {d:Int} (h:findB g.l d=findB f.l d):dirD g d=dirD f d:=by unfold dirD;rw[h]
theorem ZfF {f g:FSR} {d:Int} {s:ByteArray} (h:findB g.l d=findB f.l d) (h2:∀y,findE (findB f.l d).1.l s=(y,true)→findB g.l y=findB f.l y):lookD g d s=lookD f d s:=by
 unfold lookD
 rw[Zhv h]
 by_cases q1:(dirD f d).2=0
 ·obtain⟨d1,d2,d3⟩:=ZaZ q1
  rw[d3]
  by_cases q2:(findE (findB f.l d).1.l s).2=true
  ·have:=h2 (findE (findB f.l d).1.l s).1 (Prod.ext rfl q2)
   rw[this]
  ·have q2:(findE (findB f.l d).1.l s).2=false:=by simpa using q2
   rw[if_pos q2,if_pos q2]
 ·rw[if_pos q1,if_pos q1]
theorem Zgp {f g:FSR} {d:Int} (h:findB g.l d=findB f.l d) (k:Int):ofD g d k=ofD f d k:=by unfold ofD;rw[h]
theorem Zqm {f g:FSR} {d ino:Int} {s:ByteArray} (h:findB g.l d=findB f.l d) (h2:findB g.l ino=findB f.l ino):giveE g d s ino=giveE f d s ino:=by unfold giveE;rw[Zhv h,h2]
theorem Zhw {f:FSR} {ino:Int} {g:FSR} (h:findB g.l ino=findB f.l ino) (turn:List UInt8→List UInt8×Int):(textD g ino turn).2=(textD f ino turn).2:=by
 unfold textD
 rw[Zgp h]
 split
 ·rfl
 ·split<;>rfl
section
variable {f:FSR} {dir:Int} {s:ByteArray} {n:NodeR} {c:CallR} (R:Zg f) (T:ZI f) (he:(addD f dir s n).2=0) (hk:c.kind≠15) (hl:∀y∈looksS f c,y≠dir∧y≠f.next)
include R he hl
include hk
include T
end
theorem Zhx (a:List Int) (n:Int):(Zbz a n).length≤a.length+1:=by
 have h:∀a:List Int,(a.dropWhile fun y=>decide (y≤n)).length≤(a.dropWhile fun y=>decide (y<n)).length:=by
  intro a
  induction a with
  |nil=>simp
  |cons y a iha=>
   simp only[List.dropWhile_cons]
   by_cases q1:y<n
   ·rw[if_pos (by simp;omega),if_pos (by simpa using q1)];exact iha
   ·rw[if_neg (c:=(decide (y<n))=true) (by simpa using q1)]
    split
    ·exact Nat.le_trans (List.dropWhile_sublist _).length_le (by simp)
    ·exact Nat.le_refl _
 have h4:=congrArg List.length (List.takeWhile_append_dropWhile (p:=fun y=>decide (y<n)) (l:=a))
 have h5:=h a
 simp only[List.length_append] at h4
 simp only[Zbz,List.length_append,List.length_cons]
 omega
theorem Zfj (l:List Int) (f:FSR) (d:Int) (s:ByteArray):(ZbA l f d s).length≤l.length+1:=by
 unfold ZbA
 split
 ·exact Zhx _ _
 ·omega
theorem Zlu (f:FSR) (c:CallR):(looksS f c).length≤6:=by
 unfold looksS
 split
 ·decide
 ·have l1:=Zhx [] c.ino
  have l2:=Zhx (Zbz [] c.ino) c.to_
  have l3:=Zfj (Zbz (Zbz [] c.ino) c.to_) f c.ino c.name
  have l4:=Zfj (ZbA (Zbz (Zbz [] c.ino) c.to_) f c.ino c.name) f c.ino c.name2
  have l5:=Zfj (ZbA (ZbA (Zbz (Zbz [] c.ino) c.to_) f c.ino c.name) f c.ino c.name2) f c.to_ c.name
  have l6:=Zfj (ZbA (ZbA (ZbA (Zbz (Zbz [] c.ino) c.to_) f c.ino c.name) f c.ino c.name2) f c.to_ c.name) f c.to_ c.name2
  simp only[List.length_nil] at l1
  omega
end Go.Cx
namespace Go.Cx
section
variable {α:Type} (f:α→Int)
def atGo (st:Int):List α→Nat→Int→Int
 |[],_,k=>k
 |x::l,i,k=>atGo st l (i+1) (if f x≤st then i else k)
def atS (l:List α) (st:Int):Int:=atGo f st l 0 (-1)
structure IsAt (l:List α) (st k:Int):Prop where
 lo: -1≤k
 hi:k<l.length
 after:∀(j:Nat) (h:j<l.length),k<j→st<f l[j]
 here:∀(h:k.toNat<l.length),0≤k→f l[k.toNat]≤st
theorem ZsR (st:Int) (l:List α):∀(n i:Nat) (k:Int),l.length -i=n→i≤l.length→-1≤k→k<i→(∀(j:Nat) (h:j<l.length),k<j→j<i→st<f l[j])→(∀(h:k.toNat<l.length),0≤k→f l[k.toNat]≤st)→IsAt f l st (atGo f st (l.drop i) i k):=by
 intro n
 induction n with
 |zero=>
  intro i k hn hi h1 h2 h3 h4
  rw[List.drop_eq_nil_of_le (by omega),atGo]
  exact⟨h1,by omega,fun j h hj=>h3 j h hj (by omega),h4⟩
 |succ n ih=>
  intro i k hn hi h1 h2 h3 h4
  have hi':i<l.length:=by omega
  rw[List.drop_eq_getElem_cons hi',atGo]
  by_cases q:f l[i]≤st
  ·rw[if_pos q]
   exact ih (i+1) i (by omega) (by omega) (by omega) (by omega) (fun j h hj hj2=>by omega) (fun h h0=>by simpa using q)
  ·rw[if_neg q]
   refine ih (i+1) k (by omega) (by omega) h1 (by omega) (fun j h hj hj2=> ?_) h4
   rcases Nat.lt_or_ge j i with g|g
   ·exact h3 j h hj g
   ·have:j=i:=by omega
    subst this;omega
theorem ZcQ (l:List α) (st:Int):IsAt f l st (atS f l st):=by
 have:=ZsR f st l l.length 0 (-1) (by omega) (by omega) (by omega) (by omega) (fun j h _ hj=>by omega) (fun h h0=>by omega)
 rw[List.drop_zero] at this
 exact this
theorem IsAt.uniq {l:List α} {st k k':Int} (h:IsAt f l st k) (h':IsAt f l st k'):k=k':=by
 have a1:=h.lo;have a2:=h.hi;have b1:=h'.lo;have b2:=h'.hi
 rcases Int.lt_trichotomy k k' with g|g|g
 ·have h1:=h'.here (by omega) (by omega)
  have h2:=h.after k'.toNat (by omega) (by omega)
  omega
 ·exact g
 ·have h1:=h.here (by omega) (by omega)
  have h2:=h'.after k.toNat (by omega) (by omega)
  omega
def Zcl (l:List α) (st:Int):Option α:=l.reverse.find? fun x=>decide (f x≤st)
theorem Zcx (l:List α) (x:α) (st:Int):Zcl f (l++[x]) st=if f x≤st then some x else Zcl f l st:=by
 unfold Zcl
 rw[List.reverse_append]
 simp only[List.reverse_cons,List.reverse_nil,List.nil_append,List.singleton_append,List.find?_cons]
 by_cases q:f x≤st
 ·simp[q]
 ·simp[q]
theorem Zgq (st:Int):∀l:List α,(atS f l st<0→Zcl f l st=none)∧∀(h:(atS f l st).toNat<l.length),0≤atS f l st→Zcl f l st=some l[(atS f l st).toNat]:=by
 intro l
 have key:∀(n:Nat) (l:List α),l.length=n→∀k,IsAt f l st k→(k<0→Zcl f l st=none)∧∀(h:k.toNat<l.length),0≤k→Zcl f l st=some l[k.toNat]:=by
  intro n
  induction n with
  |zero=>
   intro l hl k hk
   have:l=[]:=List.eq_nil_of_length_eq_zero hl
   subst this
   exact⟨fun _=>rfl,fun h=>by simp at h⟩
  |succ n ih=>
   intro l hl k hk
   obtain⟨l',x,rfl⟩:∃l' x,l=l'++[x]:=⟨l.dropLast,l.getLast (by intro e;subst e;simp at hl),(List.dropLast_concat_getLast _).symm⟩
   have hl':l'.length=n:=by simpa using hl
   have a1:=hk.lo;have a2:=hk.hi
   rw[Zcx]
   have hlen:(l'++[x]).length=l'.length+1:=by simp
   by_cases q:f x≤st
   ·have hkn:k=l'.length:=by
     rcases Int.lt_trichotomy k l'.length with g|g|g
     ·have:=hk.after l'.length (by omega) g
      rw[List.getElem_append_right (Nat.le_refl _)] at this
      simp at this;omega
     ·exact g
     ·omega
    rw[if_pos q]
    refine⟨fun g=>by omega,fun h h0=> ?_⟩
    congr 1
    have:k.toNat=l'.length:=by omega
    simp[this]
   ·rw[if_neg q]
    have hkn:k<l'.length:=by
     rcases Int.lt_or_le k l'.length with g|g
     ·exact g
     ·have hk2:k.toNat=l'.length:=by omega
      have:=hk.here (by omega) (by omega)
      simp[hk2] at this;omega
    have hk':IsAt f l' st k:=⟨a1,hkn,fun j h hj=>by
      have:=hk.after j (by omega) hj
      rwa[List.getElem_append_left h] at this,fun h h0=>by
      have:=hk.here (by omega) h0
      rwa[List.getElem_append_left h] at this⟩
    obtain⟨i1,i2⟩:=ih l' hl' k hk'
    refine⟨i1,fun h h0=> ?_⟩
    rw[i2 (by omega) h0,List.getElem_append_left (by omega)]
 exact key l.length l rfl _ (ZcQ f l st)
end
def Zad (c:ChainR) (st:Int):List NodeR:=match Zcl VerR.stamp c.l st with
 |some v=>if v.gone=true then[] else[v.node]
 |none=>[]
def nextAt (l:List CountR) (st:Int):Int:=match Zcl CountR.stamp l st with
 |some c=>c.next
 |none=>1
def viewS (s:StoreR) (st:Int):FSR:=⟨s.l.flatMap fun c=>Zad c st,nextAt s.nexts st⟩
def Zcf (st:Int) (c:ChainR):Bool:=c.l.any fun v=>decide (st<v.stamp)
def Zbn (s:StoreR) (st:Int):List Int:=(s.l.filter (Zcf st)).map (·.ino)
def sinceS (s:StoreR) (st:Int):List Int:=if Zbn s st≠[]∨(s.nexts.any fun c=>decide (st<c.stamp))=true then 0::Zbn s st else[]
def addV (l:List VerR) (v:VerR):List VerR:=(l.filter fun x=> !decide (x.stamp=v.stamp))++[v]
def withS:List ChainR→Int→VerR→List ChainR
 |[],ino,v=>[⟨ino,[v]⟩]
 |c::l,ino,v=>if ino<c.ino then⟨ino,[v]⟩::c::l else if c.ino=ino then⟨ino,addV c.l v⟩::l else c::withS l ino v
def Zed (st:Int) (c:ChangeR):VerR:=⟨st,c.gone,if c.gone=true then .zero else{c.node with ino:=c.ino}⟩
def lastNext (l:List CountR):Int:=(l.getLast?.map (·.next)).getD 0
def Zam (st:Int) (l:List ChainR) (c:ChangeR):List ChainR:=withS l c.ino (Zed st c)
def installS (s:StoreR) (l:List ChangeR) (next:Int):StoreR:=⟨l.foldl (Zam (s.stamp+1)) s.l,if lastNext s.nexts<next then s.nexts++[⟨s.stamp+1,next⟩] else s.nexts,s.stamp+1⟩
structure VerP (ino:Int) (v:VerR):Prop where
 gone:v.gone=true→v.node= .zero
 node:v.gone=false→nodeOk v.node=true∧v.node.ino=ino
structure Zek (last:Int) (c:ChainR):Prop where
 ino:1≤c.ino
 some:c.l≠[]
 rise:c.l.Pairwise fun a b=>a.stamp<b.stamp
 lo:∀v∈c.l,1≤v.stamp∧v.stamp≤last
 ver:∀v∈c.l,VerP c.ino v
structure ZG (s:StoreR):Prop where
 stamp:1≤s.stamp
 chain:∀c∈s.l,Zek s.stamp c
 rise:s.l.Pairwise fun a b=>a.ino<b.ino
 some:s.nexts≠[]
 nrise:s.nexts.Pairwise fun a b=>a.stamp<b.stamp
 count:∀c∈s.nexts,1≤c.stamp∧c.stamp≤s.stamp∧1≤c.next
def fewV:List VerR→Int→Option Int
 |[],n=>some n
 |v::l,n=>if n≤200 then(if 4096<v.node.text.size then none else fewV l (n+v.node.l.length)) else some n
def fewC:List ChainR→Int→Option Int
 |[],n=>some n
 |c::l,n=>if n≤200 then(match fewV c.l (n+c.l.length) with|none=>none|some m=>fewC l m) else some n
def fewStore (s:StoreR):Bool:=match fewC s.l (s.l.length+s.nexts.length) with
 |none=>false
 |some n=>decide (n≤200)
structure Zcy (s:StoreR):Prop where
 l:s.l.length≤1048576
 nexts:s.nexts.length≤1048576
 vers:∀c∈s.l,c.l.length≤1048576
 ents:∀c∈s.l,∀v∈c.l,v.node.l.length≤1048576
theorem ZsS:∀(l:List VerR) (n m:Int),fewV l n=some m→n≤m∧(m≤200→∀v∈l,v.node.text.size≤4096∧(v.node.l.length:Int)≤m -n)
 |[],n,m,h=>by simp only[fewV,Option.some.injEq] at h;subst h;simp
 |v::l,n,m,h=>by
  simp only[fewV] at h
  split at h
  ·split at h
   ·cases h
   ·rename_i h1 h2
    obtain⟨a,b⟩:=ZsS l _ _ h
    refine⟨by omega,fun hm x hx=> ?_⟩
    rcases List.mem_cons.1 hx with rfl|hx
    ·exact⟨by omega,by omega⟩
    ·obtain⟨c,d⟩:=b hm x hx
     exact⟨c,by omega⟩
  ·rename_i h1
   simp only[Option.some.injEq] at h;subst h
   exact⟨Int.le_refl _,fun hm=>by omega⟩
theorem ZsT:∀(l:List ChainR) (n m:Int),fewC l n=some m→n≤m∧(m≤200→∀c∈l,(c.l.length:Int)≤m -n∧∀v∈c.l,v.node.text.size≤4096∧(v.node.l.length:Int)≤m -n)
 |[],n,m,h=>by simp only[fewC,Option.some.injEq] at h;subst h;simp
 |c::l,n,m,h=>by
  simp only[fewC] at h
  split at h
  ·cases hv:fewV c.l (n+c.l.length) with
   |none=>rw[hv] at h;cases h
   |some k=>
    rw[hv] at h
    obtain⟨a,b⟩:=ZsS _ _ _ hv
    obtain⟨d,e⟩:=ZsT l _ _ h
    refine⟨by omega,fun hm x hx=> ?_⟩
    rcases List.mem_cons.1 hx with rfl|hx
    ·exact⟨by omega,fun v hv=>by obtain⟨p,q⟩:=b (by omega) v hv;exact⟨p,by omega⟩⟩
    ·obtain⟨p,q⟩:=e hm x hx
     exact⟨by omega,fun v hv=>by obtain⟨p,q⟩:=q v hv;exact⟨p,by omega⟩⟩
  ·rename_i h1
   simp only[Option.some.injEq] at h;subst h
   exact⟨Int.le_refl _,fun hm=>by omega⟩
theorem ZsU {s:StoreR} (h:fewStore s=true):s.l.length≤200∧s.nexts.length≤200∧∀c∈s.l,c.l.length≤200∧∀v∈c.l,v.node.text.size≤4096∧v.node.l.length≤200:=by
 unfold fewStore at h
 cases hc:fewC s.l (s.l.length+s.nexts.length) with
 |none=>rw[hc] at h;cases h
 |some m=>
  rw[hc] at h
  simp only[decide_eq_true_eq] at h
  obtain⟨a,b⟩:=ZsT _ _ _ hc
  refine⟨by omega,by omega,fun c hc=> ?_⟩
  obtain⟨p,q⟩:=b h c hc
  exact⟨by omega,fun v hv=>by obtain⟨x,y⟩:=q v hv;exact⟨x,by omega⟩⟩
end Go.Cx
set_option linter.unusedVariables false
set_option linter.unusedSimpArgs false
namespace Go.Cx
theorem withS_mem {ino:Int} {v:VerR} {c:ChainR}:∀{l:List ChainR},c∈withS l ino v→c∈l∨(c.ino=ino∧(c.l=[v]∨∃c'∈l,c'.ino=ino∧c.l=addV c'.l v))
 |[],h=>by
  simp only[withS,List.mem_cons,List.not_mem_nil,or_false] at h
  exact .inr ⟨by rw[h],.inl (by rw[h])⟩
 |a::l,h=>by
  rw[withS] at h
  split at h
  ·rcases List.mem_cons.1 h with h|h
   ·exact .inr ⟨by rw[h],.inl (by rw[h])⟩
   ·exact .inl h
  ·split at h
   ·rename_i q
    rcases List.mem_cons.1 h with h|h
    ·exact .inr ⟨by rw[h],.inr ⟨a,by simp,q,by rw[h]⟩⟩
    ·exact .inl (by simp[h])
   ·rcases List.mem_cons.1 h with h|h
    ·exact .inl (by simp[h])
    ·rcases withS_mem h with g|⟨g1,g2|⟨c',hc,g2⟩⟩
     ·exact .inl (by simp[g])
     ·exact .inr ⟨g1,.inl g2⟩
     ·exact .inr ⟨g1,.inr ⟨c',by simp[hc],g2⟩⟩
theorem ZiQ {ino:Int} {v:VerR}:∀{l:List ChainR},(l.Pairwise fun a b=>a.ino<b.ino)→(withS l ino v).Pairwise fun a b=>a.ino<b.ino
 |[],_=>by simp[withS]
 |a::l,h=>by
  obtain⟨h1,h2⟩:=List.pairwise_cons.1 h
  rw[withS]
  split
  ·rename_i q
   refine List.pairwise_cons.2 ⟨fun b hb=> ?_,h⟩
   rcases List.mem_cons.1 hb with rfl|hb
   ·exact q
   ·have:=h1 b hb;show ino<b.ino;omega
  ·rename_i q
   split
   ·rename_i q2
    exact List.pairwise_cons.2 ⟨fun b hb=>by have:=h1 b hb;show ino<b.ino;omega,h2⟩
   ·rename_i q2
    refine List.pairwise_cons.2 ⟨fun b hb=> ?_,ZiQ h2⟩
    rcases withS_mem hb with g|⟨g,_⟩
    ·exact h1 b g
    ·omega
theorem Zlv (ino:Int) (v:VerR):∀l:List ChainR,(withS l ino v).length≤l.length+1
 |[]=>by simp[withS]
 |a::l=>by
  rw[withS]
  split
  ·simp
  ·split
   ·simp
   ·have:=Zlv ino v l;simp;omega
theorem ZvA (l:List VerR) (v:VerR):(addV l v).length≤l.length+1:=by
 unfold addV
 have:=List.length_filter_le (fun x:VerR=> !decide (x.stamp=v.stamp)) l
 simp;omega
theorem addV_mem {l:List VerR} {v x:VerR}:x∈addV l v↔(x∈l∧x.stamp≠v.stamp)∨x=v:=by
 unfold addV;simp
theorem ZsV {l:List VerR} {v:VerR} (h:l.Pairwise fun a b=>a.stamp<b.stamp) (hm:∀x∈l,x.stamp≤v.stamp):(addV l v).Pairwise fun a b=>a.stamp<b.stamp:=by
 unfold addV
 rw[List.pairwise_append]
 refine⟨h.filter _,by simp,fun a ha b hb=> ?_⟩
 simp only[List.mem_filter,Bool.not_eq_true',decide_eq_false_iff_not] at ha
 simp only[List.mem_cons,List.not_mem_nil,or_false] at hb
 have:=hm a ha.1
 rw[hb];omega
structure Mid (cs:List ChainR) (S:Int) (B:Nat):Prop where
 rise:cs.Pairwise fun a b=>a.ino<b.ino
 some:∀c∈cs,c.l≠[]
 vrise:∀c∈cs,c.l.Pairwise fun a b=>a.stamp<b.stamp
 le:∀c∈cs,∀x∈c.l,x.stamp≤S
 len:cs.length≤B
 vlen:∀c∈cs,c.l.length≤B
theorem Mid.more {cs:List ChainR} {S:Int} {B:Nat} (h:Mid cs S B) (ino:Int) {v:VerR} (hv:v.stamp=S):Mid (withS cs ino v) S (B+1):=by
 have key:∀c∈withS cs ino v,c∈cs∨c.l=[v]∨∃c'∈cs,c.l=addV c'.l v:=fun c hc=>by
  rcases withS_mem hc with g|⟨_,g|⟨c',hc',_,g⟩⟩
  ·exact .inl g
  ·exact .inr (.inl g)
  ·exact .inr (.inr ⟨c',hc',g⟩)
 refine⟨ZiQ h.rise,fun c hc=> ?_,fun c hc=> ?_,fun c hc x hx=> ?_,by have:=Zlv ino v cs;have:=h.len;omega,fun c hc=> ?_⟩
 ·rcases key c hc with g|g|⟨c',hc',g⟩
  ·exact h.some c g
  ·rw[g];simp
  ·rw[g];simp[addV]
 ·rcases key c hc with g|g|⟨c',hc',g⟩
  ·exact h.vrise c g
  ·rw[g];simp
  ·rw[g];exact ZsV (h.vrise c' hc') fun x hx=>by rw[hv];exact h.le c' hc' x hx
 ·rcases key c hc with g|g|⟨c',hc',g⟩
  ·exact h.le c g x hx
  ·rw[g] at hx;simp at hx;rw[hx,hv];exact Int.le_refl _
  ·rw[g] at hx
   rcases addV_mem.1 hx with⟨hx,_⟩|rfl
   ·exact h.le c' hc' x hx
   ·omega
 ·rcases key c hc with g|g|⟨c',hc',g⟩
  ·have:=h.vlen c g;omega
  ·rw[g];simp
  ·rw[g];have:=ZvA c'.l v;have:=h.vlen c' hc';omega
theorem ZmZ (S:Int) (c:ChangeR):(Zed S c).stamp=S:=rfl
theorem Mid.fold {S:Int}:∀(l:List ChangeR) {cs:List ChainR} {B:Nat},Mid cs S B→Mid (l.foldl (Zam S) cs) S (B+l.length)
 |[],_,_,h=>h
 |c::l,cs,B,h=>by
  have:=Mid.fold l (h.more c.ino (v:=Zed S c) rfl)
  simp only[List.foldl_cons,List.length_cons]
  have e:B+1+l.length=B+(l.length+1):=by omega
  rw[e] at this
  exact this
theorem ZG.mid {s:StoreR} (h:ZG s) {B:Nat} (hl:s.l.length≤B) (hv:∀c∈s.l,c.l.length≤B):Mid s.l (s.stamp+1) B:=
 ⟨h.rise,fun c hc=>(h.chain c hc).some,fun c hc=>(h.chain c hc).rise,fun c hc x hx=>by have:=((h.chain c hc).lo x hx).2;omega,hl,hv⟩
theorem Zna {l:List CountR} (h:l.length -1<l.length):lastNext l=l[l.length -1].next:=by
 unfold lastNext
 rw[List.getLast?_eq_getElem?,List.getElem?_eq_getElem h];rfl
end Go.Cx
namespace Go.Cx
def touchK (c:CallR):Bool:=decide (c.kind=6)||decide (c.kind=7)||decide (c.kind=8)||decide (c.kind=12)||decide (c.kind=15)
def touchS (f:FSR) (c:CallR):List Int:=numsS ((looksS f c).filter (fun n=> !decide (n<1))++if touchK c=true then[0] else[])
def stepS (t:TxnR) (c:CallR):TxnR×ReplyR:=(⟨t.stamp,t.was,(doS t.now c).1,numsS (t.looks++touchS t.now c)⟩,(doS t.now c).2)
def beginS (s:StoreR):TxnR:=⟨s.stamp,viewS s s.stamp,viewS s s.stamp,[]⟩
def ZaX (s:StoreR) (t:TxnR):Bool:=(sinceS s t.stamp).any fun n=>decide (n∈t.looks)
def commitS (s:StoreR) (t:TxnR):StoreR×Int:=if t.was=t.now then(s,0) else if ZaX s t=true then(s,15) else(installS s (changesS t.was t.now) t.now.next,0)
def stepsS:TxnR→List CallR→TxnR×List ReplyR
 |t,[]=>(t,[])
 |t,c::l=>((stepsS (stepS t c).1 l).1,(stepS t c).2::(stepsS (stepS t c).1 l).2)
structure TxnP (t:TxnR):Prop where
 wrows:Zg t.was
 wtree:ZI t.was
 nrows:Zg t.now
 ntree:ZI t.now
 next:t.was.next≤t.now.next
 stamp:1≤t.stamp
 rise:ZaI t.looks=true
 least:∀n∈t.looks,0≤n
def rightTx (t:TxnR):Bool:=decide (ZaI t.looks=true∧∀n∈t.looks,0≤n)&&(rightF t.was&&(rightF t.now&&(decide (t.was.next≤t.now.next)&&decide (1≤t.stamp))))
theorem Zhy (t:TxnR):rightTx t=true↔TxnP t:=by
 unfold rightTx
 simp only[Bool.and_eq_true,decide_eq_true_eq,Zho]
 constructor
 ·rintro⟨⟨h1,h2⟩,⟨h3,h4⟩,⟨h5,h6⟩,h7,h8⟩
  exact⟨h3,ZcW.tree h3 h4,h5,ZcW.tree h5 h6,h7,h8,h1,h2⟩
 ·intro h
  exact⟨⟨h.rise,h.least⟩,⟨h.wrows,ZI.right h.wrows h.wtree⟩,⟨h.nrows,ZI.right h.nrows h.ntree⟩,h.next,h.stamp⟩
theorem touch_spec (f:FSR) (c:CallR):ZaI (touchS f c)=true∧∀n,n∈touchS f c↔(n∈looksS f c∧1≤n)∨(touchK c=true∧n=0):=by
 obtain⟨h1,h2⟩:=Zak ((looksS f c).filter (fun n=> !decide (n<1))++if touchK c=true then[0] else[])
 refine⟨h1,fun n=> ?_⟩
 rw[touchS,h2,List.mem_append,List.mem_filter]
 simp only[Bool.not_eq_true',decide_eq_false_iff_not,Int.not_lt]
 cases touchK c<;>simp
theorem Znb (f:FSR) (c:CallR):∀n∈touchS f c,0≤n:=fun n hn=>by
 rcases((touch_spec f c).2 n).1 hn with⟨_,h⟩|⟨_,h⟩<;>omega
theorem ZfG {t:TxnR} (h:TxnP t) (c:CallR):TxnP (stepS t c).1:=by
 have K:=Zce h.nrows h.ntree c
 obtain⟨h1,h2⟩:=Zak (t.looks++touchS t.now c)
 exact⟨h.wrows,h.wtree,K.rows,K.tree,Int.le_trans h.next K.next.1,h.stamp,h1,fun n hn=>by
  rcases List.mem_append.1 ((h2 n).1 hn) with g|g
  ·exact h.least n g
  ·exact Znb _ _ n g⟩
theorem Zlw (f:FSR) (c:CallR):(touchS f c).length≤7:=by
 have a1:=Zff ((looksS f c).filter (fun n=> !decide (n<1))++if touchK c=true then[0] else[])
 have a2:=Zlu f c
 have a3:=List.length_filter_le (fun n=> !decide (n<1)) (looksS f c)
 rw[List.length_append] at a1
 unfold touchS
 split at a1<;>simp at a1<;>simp_all<;>omega
theorem Zba:∀(l:List CallR) {t:TxnR},TxnP t→TxnP (stepsS t l).1∧(stepsS t l).1.now.next≤t.now.next+l.length∧(stepsS t l).1.looks.length≤t.looks.length+7*l.length
 |[],t,h=>⟨h,by simp[stepsS],by simp[stepsS]⟩
 |c::l,t,h=>by
  obtain⟨h1,h2,h3⟩:=Zba l (ZfG h c)
  have K:=(Zce h.nrows h.ntree c).next.2
  have e:(stepS t c).1.now=(doS t.now c).1:=rfl
  have e2:(stepS t c).1.looks=numsS (t.looks++touchS t.now c):=rfl
  have l1:=Zff (t.looks++touchS t.now c)
  have l2:=Zlw t.now c
  rw[List.length_append] at l1
  rw[e] at h2
  rw[e2] at h3
  refine⟨h1,?_,?_⟩
  ·simp only[stepsS,List.length_cons];omega
  ·simp only[stepsS,List.length_cons];omega
structure ZaE (B:Nat) (s:StoreR):Prop where
 l:s.l.length≤B
 nexts:s.nexts.length≤B
 vers:∀c∈s.l,c.l.length≤B
 ents:∀c∈s.l,∀v∈c.l,v.node.l.length≤1048576
theorem ZaE.b {B:Nat} {s:StoreR} (h:ZaE B s) (hB:B≤1048576):Zcy s:=⟨Nat.le_trans h.l hB,Nat.le_trans h.nexts hB,fun c hc=>Nat.le_trans (h.vers c hc) hB,h.ents⟩
theorem ZaE.mono {B C:Nat} {s:StoreR} (h:ZaE B s) (hB:B≤C):ZaE C s:=⟨Nat.le_trans h.l hB,Nat.le_trans h.nexts hB,fun c hc=>Nat.le_trans (h.vers c hc) hB,h.ents⟩
theorem ZsW {f g:FSR} {k:Int} {c:ChangeR} (hg:Zg g) (h:c∈changeS f g k):c.ino=k∧(c.gone=true→c.node= .zero)∧(c.gone=false→nodeOk c.node=true∧c.node.ino=c.ino):=by
 unfold changeS at h
 split at h
 ·simp only[List.mem_cons,List.not_mem_nil,or_false] at h
  subst h;simp
 ·rename_i q
  split at h
  ·simp only[List.mem_cons,List.not_mem_nil,or_false] at h
   subst h
   have hf:=Zk (by simpa using q:(findB g.l k).2=true)
   exact⟨rfl,by simp,fun _=>⟨hg.ok _ hf.1,hf.2⟩⟩
  ·simp at h
theorem Zae {f g:FSR} (hf:Zg f) (hg:Zg g):(changesS f g).length≤512∧∀c∈changesS f g,1≤c.ino∧(c.gone=true→c.node= .zero)∧(c.gone=false→nodeOk c.node=true∧c.node.ino=c.ino):=by
 constructor
 ·have h1:∀l:List Int,(l.flatMap (changeS f g)).length≤l.length:=fun l=>by
   induction l with
   |nil=>simp
   |cons a l ih=>have:=Zhj f g a;simp only[List.flatMap_cons,List.length_append,List.length_cons];omega
  have h2:=h1 (numsS (f.l.map (·.ino)++g.l.map (·.ino)))
  have h3:=Zff (f.l.map (·.ino)++g.l.map (·.ino))
  rw[List.length_append,List.length_map,List.length_map] at h3
  have:=hf.len;have:=hg.len
  unfold changesS;omega
 ·intro c hc
  unfold changesS at hc
  obtain⟨k,hk,hc⟩:=List.mem_flatMap.1 hc
  obtain⟨e,h1,h2⟩:=ZsW hg hc
  refine⟨?_,h1,h2⟩
  rw[e]
  have hk:=((Zak _).2 k).1 hk
  rcases List.mem_append.1 hk with hk|hk<;>obtain⟨n,hn,rfl⟩:=List.mem_map.1 hk
  ·exact((Zq n).1 (hf.ok n hn)).ino
  ·exact((Zq n).1 (hg.ok n hn)).ino
def Zib (c:ChangeR):Prop:=1≤c.ino∧(c.gone=true→c.node= .zero)∧(c.gone=false→nodeOk c.node=true∧c.node.ino=c.ino)
theorem Zox {S:Int} {c:ChangeR} (h:Zib c):Zed S c=⟨S,c.gone,c.node⟩:=by
 unfold Zed
 cases hg:c.gone with
 |true=>rw[if_pos rfl,h.2.1 hg]
 |false=>
  rw[if_neg (by simp)]
  have e:=(h.2.2 hg).2
  congr 1
  cases hn:c.node
  rw[hn] at e
  simp only at e
  rw[e]
theorem Zhz {S:Int} {c:ChangeR} (h:Zib c):VerP c.ino (Zed S c):=by
 rw[Zox h]
 exact⟨h.2.1,h.2.2⟩
def Zbo (cs:List ChainR):Prop:=∀c∈cs,1≤c.ino∧∀v∈c.l,1≤v.stamp∧VerP c.ino v
theorem Zbo.more {cs:List ChainR} (h:Zbo cs) {S:Int} (hS:1≤S) {x:ChangeR} (hx:Zib x):Zbo (Zam S cs x):=fun c hc=>by
 rcases withS_mem hc with g|⟨e,g⟩
 ·exact h c g
 ·refine⟨by rw[e];exact hx.1,fun v hv=> ?_⟩
  rw[e]
  rcases g with g|⟨c',hc',e',g⟩
  ·rw[g] at hv
   simp only[List.mem_cons,List.not_mem_nil,or_false] at hv
   rw[hv];exact⟨hS,Zhz hx⟩
  ·rw[g] at hv
   rcases addV_mem.1 hv with⟨hv,_⟩|rfl
   ·have:=(h c' hc').2 v hv
    rw[e'] at this;exact this
   ·exact⟨hS,Zhz hx⟩
theorem Zbo.fold {S:Int} (hS:1≤S):∀(l:List ChangeR) {cs:List ChainR},Zbo cs→(∀x∈l,Zib x)→Zbo (l.foldl (Zam S) cs)
 |[],_,h,_=>h
 |x::l,cs,h,hx=>Zbo.fold hS l (h.more hS (hx x (by simp))) fun y hy=>hx y (by simp[hy])
theorem Zlx {l:List CountR} (h:l≠[]):∃c∈l,lastNext l=c.next:=by
 unfold lastNext
 rw[List.getLast?_eq_some_getLast h]
 exact⟨_,List.getLast_mem h,rfl⟩
theorem Zoy:∀{l:List Nat} {n:Nat},n∈l→n≤l.sum
 |a::l,n,h=>by
  rw[List.sum_cons]
  rcases List.mem_cons.1 h with rfl|h
  ·omega
  ·have:=Zoy h;omega
theorem ZcR {s:StoreR} (h:ZG s) {l:List ChangeR} {next:Int} (hl:∀x∈l,Zib x):ZG (installS s l next):=by
 have h1:=h.stamp
 have M:Mid s.l (s.stamp+1) (s.l.length+(s.l.map fun c=>c.l.length).sum):=h.mid (Nat.le_add_right _ _) fun c hc=>by
  have:c.l.length≤(s.l.map fun c=>c.l.length).sum:=Zoy (List.mem_map_of_mem hc)
  omega
 have F:=M.fold l
 have G:=Zbo.fold (S:=s.stamp+1) (by omega) l (cs:=s.l) (fun c hc=>⟨(h.chain c hc).ino,fun v hv=>⟨((h.chain c hc).lo v hv).1,(h.chain c hc).ver v hv⟩⟩) hl
 obtain⟨cl,hcl,hln⟩:=Zlx h.some
 have hc0:=(h.count cl hcl).2.2
 unfold installS
 refine⟨by simp only;omega,fun c hc=> ?_,F.rise,?_,?_,fun c hc=> ?_⟩
 ·exact⟨(G c hc).1,F.some c hc,F.vrise c hc,fun v hv=>⟨((G c hc).2 v hv).1,F.le c hc v hv⟩,fun v hv=>((G c hc).2 v hv).2⟩
 ·simp only;split
  ·simp
  ·exact h.some
 ·simp only;split
  ·rw[List.pairwise_append]
   refine⟨h.nrise,by simp,fun a ha b hb=> ?_⟩
   simp only[List.mem_cons,List.not_mem_nil,or_false] at hb
   have:=(h.count a ha).2.1
   rw[hb];simp only;omega
  ·exact h.nrise
 ·simp only at hc⊢
  split at hc
  ·rename_i q
   rcases List.mem_append.1 hc with hc|hc
   ·have:=h.count c hc;exact⟨this.1,by omega,this.2.2⟩
   ·simp only[List.mem_cons,List.not_mem_nil,or_false] at hc
    rw[hc];simp only;omega
  ·have:=h.count c hc;exact⟨this.1,by omega,this.2.2⟩
theorem Zgr {ino:Int} {v:VerR}:∀{l:List ChainR},(l.Pairwise fun a b=>a.ino<b.ino)→∀c:ChainR,c.ino≠ino→(c∈withS l ino v↔c∈l)
 |[],_,c,hc=>by
  simp only[withS,List.mem_cons,List.not_mem_nil,or_false,iff_false]
  intro e;rw[e] at hc;exact hc rfl
 |a::l,h,c,hc=>by
  obtain⟨h1,h2⟩:=List.pairwise_cons.1 h
  have ih:=Zgr h2 c hc (v:=v)
  rw[withS]
  split
  ·rw[List.mem_cons]
   exact⟨fun g=>g.resolve_left fun e=>by rw[e] at hc;exact hc rfl,.inr⟩
  ·split
   ·rename_i q
    rw[List.mem_cons,List.mem_cons]
    constructor
    ·exact fun g=> .inr (g.resolve_left fun e=>by rw[e] at hc;exact hc rfl)
    ·exact fun g=> .inr (g.resolve_left fun e=>by rw[e] at hc;exact hc q)
   ·rw[List.mem_cons,List.mem_cons,ih]
theorem ZjW {ino:Int} {v:VerR}:∀{l:List ChainR},(l.Pairwise fun a b=>a.ino<b.ino)→(∃c∈withS l ino v,c.ino=ino)∧∀c∈withS l ino v,c.ino=ino→∃k,c.l=k++[v]
 |[],_=>by
  refine⟨⟨_,List.mem_cons_self,rfl⟩,fun c hc _=> ?_⟩
  simp only[withS,List.mem_cons,List.not_mem_nil,or_false] at hc
  exact⟨[],by rw[hc];rfl⟩
 |a::l,h=>by
  obtain⟨h1,h2⟩:=List.pairwise_cons.1 h
  obtain⟨i1,i2⟩:=ZjW h2 (v:=v) (ino:=ino)
  rw[withS]
  split
  ·rename_i q
   refine⟨⟨_,List.mem_cons_self,rfl⟩,fun c hc e=> ?_⟩
   rcases List.mem_cons.1 hc with rfl|hc
   ·exact⟨[],rfl⟩
   ·rcases List.mem_cons.1 hc with rfl|hc
    ·omega
    ·have:=h1 c hc;omega
  ·split
   ·rename_i q
    refine⟨⟨_,List.mem_cons_self,rfl⟩,fun c hc e=> ?_⟩
    rcases List.mem_cons.1 hc with rfl|hc
    ·exact⟨_,rfl⟩
    ·have:=h1 c hc;omega
   ·rename_i q
    obtain⟨c,hc,e⟩:=i1
    refine⟨⟨c,List.mem_cons_of_mem _ hc,e⟩,fun c hc e=> ?_⟩
    rcases List.mem_cons.1 hc with rfl|hc
    ·exact absurd e q
    ·exact i2 c hc e
theorem ZhA {ino:Int} {k:List VerR} {v:VerR} {S:Int} {c:ChainR} (hc:c.l=k++[v]) (hv:v.stamp≤S):Zad c S=if v.gone=true then[] else[v.node]:=by
 unfold Zad
 rw[hc,Zcx,if_pos hv]
theorem Zqo {c:ChainR} {S:Int} {n:NodeR} (h:n∈Zad c S):∃v∈c.l,v.gone=false∧v.node=n∧v.stamp≤S:=by
 unfold Zad at h
 split at h
 ·rename_i v hv
  unfold Zcl at hv
  have h1:=List.mem_of_find?_eq_some hv
  have h2:=List.find?_some hv
  split at h
  ·simp at h
  ·rename_i q
   simp only[List.mem_cons,List.not_mem_nil,or_false] at h
   exact⟨v,by simpa using h1,by simpa using q,h.symm,by simpa using h2⟩
 ·simp at h
theorem nodeAt_one (c:ChainR) (S:Int):Zad c S=[]∨∃n,Zad c S=[n]:=by
 unfold Zad
 split
 ·split
  ·exact .inl rfl
  ·exact .inr ⟨_,rfl⟩
 ·exact .inl rfl
theorem ZbJ {cs:List ChainR} (G:Zbo cs) {c:ChainR} (hc:c∈cs) {S:Int} {n:NodeR} (h:n∈Zad c S):n.ino=c.ino∧nodeOk n=true:=by
 obtain⟨v,hv,h1,h2,_⟩:=Zqo h
 have:=((G c hc).2 v hv).2.node h1
 rw[h2] at this
 exact⟨this.2,this.1⟩
abbrev Zcz (cs:List ChainR) (S:Int):List NodeR:=cs.flatMap fun c=>Zad c S
theorem ZfH {cs:List ChainR} (hr:cs.Pairwise fun a b=>a.ino<b.ino) (G:Zbo cs) (S:Int):Zn NodeR.ino (Zcz cs S)=true:=by
 rw[ZH,List.pairwise_flatMap]
 constructor
 ·intro c hc
  rcases nodeAt_one c S with e|⟨n,e⟩<;>rw[e]<;>simp
 ·refine List.Pairwise.imp_of_mem ?_ hr
  intro a b ha hb hab x hx y hy
  rw[(ZbJ G ha hx).1,(ZbJ G hb hy).1];exact hab
theorem Zqp {cs:List ChainR} {S:Int} {B:Nat} (M:Mid cs S B) (G:Zbo cs) (hS:1≤S) {x:ChangeR} (hx:Zib x) (n:NodeR):n∈Zcz (Zam S cs x) S↔(n∈Zcz cs S∧n.ino≠x.ino)∨(x.gone=false∧n=x.node):=by
 have G':=G.more hS hx
 obtain⟨⟨c0,hc0,e0⟩,hat⟩:=ZjW M.rise (ino:=x.ino) (v:=Zed S x)
 have hv:(Zed S x).stamp≤S:=Int.le_refl _
 have hve:=Zox (S:=S) hx
 constructor
 ·intro h
  obtain⟨c,hc,hn⟩:=List.mem_flatMap.1 h
  have hi:=(ZbJ G' hc hn).1
  by_cases q:c.ino=x.ino
  ·obtain⟨k,hk⟩:=hat c hc q
   rw[ZhA (ino:=x.ino) hk hv,hve] at hn
   simp only at hn
   split at hn
   ·simp at hn
   ·rename_i g
    exact .inr ⟨by simpa using g,by simpa using hn⟩
  ·exact .inl ⟨List.mem_flatMap.2 ⟨c,(Zgr M.rise c q).1 hc,hn⟩,by rw[hi];exact q⟩
 ·rintro(⟨h,hne⟩|⟨g,rfl⟩)
  ·obtain⟨c,hc,hn⟩:=List.mem_flatMap.1 h
   have hi:=(ZbJ G hc hn).1
   exact List.mem_flatMap.2 ⟨c,(Zgr M.rise c (by rw[←hi];exact hne)).2 hc,hn⟩
  ·obtain⟨k,hk⟩:=hat c0 hc0 e0
   refine List.mem_flatMap.2 ⟨c0,hc0,?_⟩
   rw[ZhA (ino:=x.ino) hk hv,hve]
   simp[g]
theorem ZsX {f:FSR} (hr:Zn NodeR.ino f.l=true) {x:ChangeR} (hx:Zib x):Zn NodeR.ino (applyOne f x).l=true∧∀n,n∈(applyOne f x).l↔(n∈f.l∧n.ino≠x.ino)∨(x.gone=false∧n=x.node):=by
 unfold applyOne
 cases hg:x.gone with
 |true=>
  rw[if_pos rfl]
  exact⟨Zan NodeR.ino hr _,fun n=>by rw[Zha];simp⟩
 |false=>
  rw[if_neg (by simp)]
  obtain⟨h1,h2,_⟩:=ZcL hr x.node
  refine⟨h1,fun n=> ?_⟩
  rw[h2,(hx.2.2 hg).2]
  simp[or_comm]
theorem ZiR {S:Int} (hS:1≤S):∀(l:List ChangeR) {cs:List ChainR} {B:Nat} (f:FSR),Mid cs S B→Zbo cs→(∀x∈l,Zib x)→f.l=Zcz cs S→(l.foldl applyOne f).l=Zcz (l.foldl (Zam S) cs) S
 |[],cs,B,f,M,G,_,h=>h
 |x::l,cs,B,f,M,G,hx,h=>by
  have hx0:=hx x (by simp)
  have M':Mid (Zam S cs x) S (B+1):=M.more x.ino rfl
  have G':=G.more hS hx0
  have hr:Zn NodeR.ino f.l=true:=by rw[h];exact ZfH M.rise G S
  obtain⟨a1,a2⟩:=ZsX hr hx0
  refine ZiR hS l (applyOne f x) M' G' (fun y hy=>hx y (by simp[hy])) ?_
  refine Zai NodeR.ino a1 (ZfH M'.rise G' S) fun n=> ?_
  rw[a2,Zqp M G hS hx0,h]
theorem ZsY {α:Type} {f:α→Int} {l:List α} {st:Int} (h:∀x∈l,f x≤st):Zcl f l (st+1)=Zcl f l st:=by
 unfold Zcl
 have:∀k:List α,(∀x∈k,f x≤st)→(k.find? fun x=>decide (f x≤st+1))=k.find? fun x=>decide (f x≤st):=fun k=>by
  induction k with
  |nil=>intro _;rfl
  |cons a k ih=>
   intro hk
   have:=hk a (by simp)
   rw[List.find?_cons_of_pos (by simp;omega),List.find?_cons_of_pos (by simp;omega)]
 exact this _ fun x hx=>h x (by simpa using hx)
theorem Zds {α β:Type} {f g:α→List β}:∀{l:List α},(∀a∈l,f a=g a)→l.flatMap f=l.flatMap g
 |[],_=>rfl
 |a::l,h=>by rw[List.flatMap_cons,List.flatMap_cons,h a (by simp),Zds fun b hb=>h b (by simp[hb])]
theorem Zqq {s:StoreR} (h:ZG s):Zcz s.l (s.stamp+1)=Zcz s.l s.stamp:=
 Zds fun c hc=>by
  unfold Zad
  rw[ZsY fun v hv=>((h.chain c hc).lo v hv).2]
theorem Zew {l:List CountR} {st:Int} (hne:l≠[]) (h:∀c∈l,c.stamp≤st):nextAt l st=lastNext l:=by
 obtain⟨k,x,rfl⟩:∃k x,l=k++[x]:=⟨l.dropLast,l.getLast hne,(List.dropLast_concat_getLast hne).symm⟩
 unfold nextAt
 rw[Zcx,if_pos (h x (by simp))]
 simp[lastNext]
theorem ZfI:∀(l:List ChangeR) (f:FSR) (m:Int),(∀x∈l,x.gone=false→x.node.ino+1≤m)→max (l.foldl applyOne f).next m=max f.next m
 |[],f,m,_=>rfl
 |x::l,f,m,h=>by
  rw[List.foldl_cons,ZfI l _ m fun y hy=>h y (by simp[hy])]
  unfold applyOne
  cases hg:x.gone with
  |true=>rw[if_pos rfl];rfl
  |false=>
   rw[if_neg (by simp)]
   have:=h x (by simp) hg
   show max (max f.next (x.node.ino+1)) m=max f.next m
   omega
theorem Zbf {s:StoreR} (h:ZG s) {l:List ChangeR} {next:Int} (hl:∀x∈l,Zib x) (hn:∀x∈l,x.gone=false→x.node.ino+1≤next):viewS (installS s l next) (s.stamp+1)=applyS (viewS s s.stamp) l next:=by
 have h1:=h.stamp
 have M:Mid s.l (s.stamp+1) (s.l.length+(s.l.map fun c=>c.l.length).sum):=h.mid (Nat.le_add_right _ _) fun c hc=>by
  have:c.l.length≤(s.l.map fun c=>c.l.length).sum:=Zoy (List.mem_map_of_mem hc)
  omega
 have G:Zbo s.l:=fun c hc=>⟨(h.chain c hc).ino,fun v hv=>⟨((h.chain c hc).lo v hv).1,(h.chain c hc).ver v hv⟩⟩
 have V:=ZiR (S:=s.stamp+1) (by omega) l (viewS s s.stamp) M G hl (by rw[Zqq h];rfl)
 have e1:nextAt s.nexts s.stamp=lastNext s.nexts:=Zew h.some fun c hc=>(h.count c hc).2.1
 have e2:nextAt (if lastNext s.nexts<next then s.nexts++[⟨s.stamp+1,next⟩] else s.nexts) (s.stamp+1)=max (lastNext s.nexts) next:=by
  split
  ·rw[Zew (by simp) fun c hc=>by
    rcases List.mem_append.1 hc with hc|hc
    ·have:=(h.count c hc).2.1;omega
    ·simp only[List.mem_cons,List.not_mem_nil,or_false] at hc
     rw[hc];exact Int.le_refl _]
   simp only[lastNext,List.getLast?_append,List.getLast?_singleton,Option.some_or,Option.map_some,Option.getD_some]
   rename_i q
   simp only[lastNext] at q
   omega
  ·rw[Zew h.some fun c hc=>by have:=(h.count c hc).2.1;omega]
   omega
 have e3:=ZfI l (viewS s s.stamp) next hn
 have e4:(viewS s s.stamp).next=lastNext s.nexts:=e1
 rw[e4] at e3
 show FSR.mk (Zcz (installS s l next).l (s.stamp+1)) (nextAt (installS s l next).nexts (s.stamp+1))=FSR.mk (l.foldl applyOne (viewS s s.stamp)).l (max (l.foldl applyOne (viewS s s.stamp)).next next)
 rw[e3,V]
 rw[show nextAt (installS s l next).nexts (s.stamp+1)=_ from e2]
 rfl
theorem ZsZ {k:List VerR} {v:VerR} {st:Int} (hv:st<v.stamp):Zcl VerR.stamp (addV k v) st=Zcl VerR.stamp k st:=by
 unfold addV
 rw[Zcx,if_neg (by omega)]
 unfold Zcl
 rw[←List.filter_reverse]
 generalize k.reverse=r
 induction r with
 |nil=>rfl
 |cons a r ih=>
  by_cases q:a.stamp=v.stamp
  ·rw[List.filter_cons_of_neg (by simpa using q),ih,List.find?_cons_of_neg (by simp;omega)]
  ·rw[List.filter_cons_of_pos (by simpa using q)]
   by_cases q2:a.stamp≤st
   ·rw[List.find?_cons_of_pos (by simpa using q2),List.find?_cons_of_pos (by simpa using q2)]
   ·rw[List.find?_cons_of_neg (by simpa using q2),List.find?_cons_of_neg (by simpa using q2),ih]
theorem Zly {ino:Int} {v:VerR} {st:Int} (hv:st<v.stamp):∀cs:List ChainR,Zcz (withS cs ino v) st=Zcz cs st
 |[]=>by
  have:Zad ⟨ino,[v]⟩ st=[]:=by
   unfold Zad Zcl
   rw[List.reverse_singleton,List.find?_cons_of_neg (by simp;omega)];rfl
  simp[Zcz,withS,this]
 |c::cs=>by
  have h0:Zad ⟨ino,[v]⟩ st=[]:=by
   unfold Zad Zcl
   rw[List.reverse_singleton,List.find?_cons_of_neg (by simp;omega)];rfl
  rw[withS]
  split
  ·simp only[Zcz,List.flatMap_cons,h0,List.nil_append]
  ·split
   ·have:Zad ⟨ino,addV c.l v⟩ st=Zad c st:=by
     unfold Zad;simp only;rw[ZsZ hv]
    simp only[Zcz,List.flatMap_cons,this]
   ·have ih:=Zly hv cs (ino:=ino)
    simp only[Zcz,List.flatMap_cons] at ih⊢
    rw[ih]
theorem ZiS {S st:Int} (hS:st<S):∀(l:List ChangeR) (cs:List ChainR),Zcz (l.foldl (Zam S) cs) st=Zcz cs st
 |[],cs=>rfl
 |x::l,cs=>by
  rw[List.foldl_cons,ZiS hS l]
  exact Zly (v:=Zed S x) hS cs
theorem Zoz {s:StoreR} {l:List ChangeR} {next st:Int} (h:st≤s.stamp):viewS (installS s l next) st=viewS s st:=by
 show FSR.mk (Zcz (installS s l next).l st) (nextAt (installS s l next).nexts st)=FSR.mk (Zcz s.l st) (nextAt s.nexts st)
 have e:nextAt (installS s l next).nexts st=nextAt s.nexts st:=by
  show nextAt (if lastNext s.nexts<next then s.nexts++[⟨s.stamp+1,next⟩] else s.nexts) st=_
  split
  ·unfold nextAt
   rw[Zcx,if_neg (by show¬s.stamp+1≤st;omega)]
  ·rfl
 rw[e]
 congr 1
 exact ZiS (S:=s.stamp+1) (by omega) l s.l
theorem ver_few {ino:Int} {v:VerR} (h:VerP ino v):v.node.l.length≤1048576:=by
 cases hg:v.gone with
 |true=>rw[h.gone hg];exact Nat.zero_le _
 |false=>
  have:=((Zq _).1 (h.node hg).1).row
  simp only[ZhZ,Bool.and_eq_true,decide_eq_true_eq] at this
  omega
theorem Znc {s:StoreR} (h:ZG s) {B:Nat} (hb:ZaE B s) {l:List ChangeR} {next:Int} (hl:∀x∈l,Zib x):ZaE (B+l.length+1) (installS s l next):=by
 have P:=ZcR h hl (next:=next)
 have F:=(h.mid hb.l hb.vers).fold l
 refine⟨by have:=F.len;show(l.foldl _ s.l).length≤_;omega,?_,fun c hc=>by have:=F.vlen c hc;omega,fun c hc v hv=>ver_few ((P.chain c hc).ver v hv)⟩
 show(if lastNext s.nexts<next then s.nexts++[⟨s.stamp+1,next⟩] else s.nexts).length≤_
 have:=hb.nexts
 split
 ·simp;omega
 ·omega
theorem Zdt {s:StoreR} (h:ZG s) {B:Nat} (hb:ZaE B s) {t:TxnR} (T:TxnP t):ZG (commitS s t).1∧ZaE (B+513) (commitS s t).1∧((commitS s t).1=s∨(t.was≠t.now∧ZaX s t=false∧(commitS s t).1=installS s (changesS t.was t.now) t.now.next)):=by
 unfold commitS
 by_cases q:t.was=t.now
 ·rw[if_pos q]
  exact⟨h,hb.mono (by omega),.inl rfl⟩
 ·rw[if_neg q]
  by_cases c:ZaX s t=true
  ·rw[if_pos c]
   exact⟨h,hb.mono (by omega),.inl rfl⟩
  ·rw[if_neg c]
   obtain⟨h1,h2⟩:=Zae T.wrows T.nrows
   exact⟨ZcR h h2,(Znc h hb h2).mono (by omega),.inr ⟨q,by simpa using c,rfl⟩⟩
end Go.Cx
