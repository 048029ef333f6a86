import Derived.Test.YtgpkaoombhobmaaGreatJBd
set_option linter.unusedVariables false
namespace Go.Cx
abbrev I (n:Int):AV:= .val (.int .i64 n)
abbrev S (s:ByteArray):AV:= .val (.string s)
abbrev B (b:Bool):AV:= .val (.bool b)
abbrev encL {α:Type} (enc:α->List AV) (l:List α):AV:= .sl false l.length (l.flatMap enc)
abbrev enc1 {α:Type} (enc:α->AV) (l:List α):AV:= .sl false l.length (l.map enc)
structure Zj where
 (kind ino to_ at_ many:Int) (name name2 text:ByteArray)
 deriving DecidableEq
def Zj.enc (c:Zj):List AV:=[I c.kind,I c.ino,I c.to_,I c.at_,I c.many,S c.name,S c.name2,S c.text]
structure ReplyR where
 (e a b n:Int) (text:ByteArray) (names:List ByteArray)
 deriving DecidableEq
def ReplyR.enc (c:ReplyR):List AV:=[I c.e,I c.a,I c.b,I c.n,S c.text,enc1 S c.names]
structure RspR where
 (kind client epoch seq n:Int) (r:ReplyR)
def RspR.enc (c:RspR):List AV:=[I c.kind,I c.client,I c.epoch,I c.seq,I c.n]++c.r.enc
structure MsgR where
 (kind client epoch seq n stamp:Int) (c:Zj)
 deriving DecidableEq
def MsgR.enc (c:MsgR):List AV:=[I c.kind,I c.client,I c.epoch,I c.seq,I c.n,I c.stamp]++c.c.enc
theorem Zaw {α:Type} {enc:α->List AV} (h:∀a,(enc a).all neat=true) (l:List α):(l.flatMap enc).all neat=true:=by
 simp only[List.all_flatMap];simpa using λa _=>by simpa using h a
theorem Zkg {α:Type} {enc:α->AV} (h:∀a,neat (enc a)=true) (l:List α):(l.map enc).all neat=true:=by
 simp only[List.all_map];simpa using λa _=>h a
@[simp] theorem Zj.neat (c:Zj):c.enc.all neat=true:=by simp[Zj.enc]
@[simp] theorem all_calls (l:List Zj):(l.flatMap Zj.enc).all neat=true:=Zaw Zj.neat l
@[simp] theorem all_names (l:List ByteArray):(l.map S).all neat=true:=Zkg (by simp) l
@[simp] theorem ReplyR.neat (c:ReplyR):c.enc.all neat=true:=by simp[ReplyR.enc]
@[simp] theorem all_replies (l:List ReplyR):(l.flatMap ReplyR.enc).all neat=true:=Zaw ReplyR.neat l
@[simp] theorem RspR.neat (c:RspR):c.enc.all neat=true:=by simp[RspR.enc]
@[simp] theorem MsgR.neat (c:MsgR):c.enc.all neat=true:=by simp[MsgR.enc]
theorem Zad {α:Type} {enc:α->List AV} {k:Nat} (h:∀a,(enc a).length=k) (l:List α):(l.flatMap enc).length=l.length*k:=by
 induction l with
 |nil=>simp
 |cons a l ih=>simp[h,ih,Nat.add_mul];omega
@[simp high] theorem len_calls (l:List Zj):(l.flatMap Zj.enc).length=l.length*8:=Zad (enc:=Zj.enc) (k:=8) (λ_=>rfl) l
@[simp high] theorem len_replies (l:List ReplyR):(l.flatMap ReplyR.enc).length=l.length*6:=Zad (enc:=ReplyR.enc) (k:=6) (λ_=>rfl) l
theorem ZbI {α:Type} {enc:α->List AV} {k:Nat} (h:∀a,(enc a).length=k):∀(l:List α) (n:Nat),(l.flatMap enc).take (n*k)=(l.take n).flatMap enc
 |[],n=>by simp
 |a::l,0=>by simp
 |a::l,n+1=>by
  simp only[List.flatMap_cons,List.take_succ_cons]
  rw[Nat.add_mul,Nat.one_mul,Nat.add_comm,List.take_append,<-ZbI h l n]
  rw[List.take_of_length_le (by rw[h];omega),h]
  congr 2;omega
theorem Zba {α:Type} {enc:α->List AV} {k:Nat} (h:∀a,(enc a).length=k):∀(l:List α) (n:Nat),(l.flatMap enc).drop (n*k)=(l.drop n).flatMap enc
 |[],n=>by simp
 |a::l,0=>by simp
 |a::l,n+1=>by
  simp only[List.flatMap_cons,List.drop_succ_cons]
  rw[Nat.add_mul,Nat.one_mul,Nat.add_comm,List.drop_append,<-Zba h l n]
  rw[List.drop_eq_nil_of_le (by rw[h];omega),h,List.nil_append]
  congr 1;omega
theorem Zax {α:Type} {enc:α->List AV} {k:Nat} (h:∀a,(enc a).length=k) (l:List α) (i:Nat) (a:α) (hi:l[i]? =some a):((l.flatMap enc).drop (i*k)).take k=enc a:=by
 rw[Zba h]
 have:l.drop i=a::l.drop (i+1):=by
  have hl:=(List.getElem?_eq_some_iff.1 hi)
  rw[List.drop_eq_getElem_cons hl.1,hl.2]
 rw[this,List.flatMap_cons,List.take_append_of_le_length (by rw[h];omega),List.take_of_length_le (by rw[h];omega)]
theorem Zay {α:Type} {enc:α->List AV} {k:Nat} (h:∀a,(enc a).length=k) (l:List α):(l.flatMap enc).take (l.length*k)=l.flatMap enc:=List.take_of_length_le (by rw[Zad h];omega)
@[simp high] theorem take_calls (l:List Zj):(l.flatMap Zj.enc).take (l.length*8)=l.flatMap Zj.enc:=Zay (enc:=Zj.enc) (k:=8) (λ_=>rfl) l
@[simp high] theorem take_replies (l:List ReplyR):(l.flatMap ReplyR.enc).take (l.length*6)=l.flatMap ReplyR.enc:=Zay (enc:=ReplyR.enc) (k:=6) (λ_=>rfl) l
@[simp high] theorem lenc_call (x:Zj):x.enc.length=8:=rfl
@[simp high] theorem takec_call (x:Zj):x.enc.take 8=x.enc:=List.take_of_length_le (Nat.le_refl _)
@[simp high] theorem at_call {l:List Zj} {i:Nat} (h:i<l.length):List.take 8 (List.drop (i*8) (l.flatMap Zj.enc))=(l[i]).enc:=Zax (enc:=Zj.enc) (k:=8) (λ_=>rfl) l i l[i] (by simp[h])
@[simp high] theorem lenc_reply (x:ReplyR):x.enc.length=6:=rfl
@[simp high] theorem takec_reply (x:ReplyR):x.enc.take 6=x.enc:=List.take_of_length_le (Nat.le_refl _)
@[simp high] theorem at_reply {l:List ReplyR} {i:Nat} (h:i<l.length):List.take 6 (List.drop (i*6) (l.flatMap ReplyR.enc))=(l[i]).enc:=Zax (enc:=ReplyR.enc) (k:=6) (λ_=>rfl) l i l[i] (by simp[h])
theorem Zaz {α:Type} {enc:α->List AV} (h:∀a,(enc a).all Zy=true) (l:List α):(l.flatMap enc).all Zy=true:=by
 simp only[List.all_flatMap];simpa using λa _=>by simpa using h a
theorem Zkh {α:Type} {enc:α->AV} (h:∀a,Zy (enc a)=true) (l:List α):(l.map enc).all Zy=true:=by
 simp only[List.all_map];simpa using λa _=>h a
@[simp] theorem Zj.one (c:Zj):c.enc.all Zy=true:=rfl
@[simp] theorem ReplyR.one (c:ReplyR):c.enc.all Zy=true:=rfl
@[simp high] theorem one_calls (l:List Zj):(l.flatMap Zj.enc).all Zy=true:=Zaz Zj.one l
@[simp high] theorem one_replies (l:List ReplyR):(l.flatMap ReplyR.enc).all Zy=true:=Zaz ReplyR.one l
@[simp high] theorem one_names (l:List ByteArray):(l.map S).all Zy=true:=Zkh (λ_=>rfl) l
theorem ReplyR.eq_iff (a b:ReplyR):a=b↔a.names=b.names/\a.e=b.e/\a.a=b.a/\a.b=b.b/\a.n=b.n/\a.text=b.text:=by
 cases a;cases b;simp only[ReplyR.mk.injEq]
 constructor
 ·rintro⟨a,b,c,d,e,f⟩;exact⟨f,a,b,c,d,e⟩
 ·rintro⟨f,a,b,c,d,e⟩;exact⟨a,b,c,d,e,f⟩
def Zj.wf (c:Zj):Prop:=inI c.kind/\inI c.ino/\inI c.to_/\inI c.at_/\inI c.many/\c.name.size<=maxLen/\c.name2.size<=maxLen/\c.text.size<=maxLen
def ReplyR.wf (c:ReplyR):Prop:=inI c.e/\inI c.a/\inI c.b/\inI c.n/\c.text.size<=maxLen/\∀x∈c.names,x.size<=maxLen
section
variable {P:Program} {W:World}
end
section
variable {P:Program} {t:TypeId} (ox oy:Operand)
end
end Go.Cx
set_option linter.unusedVariables false
set_option linter.unusedSimpArgs false
namespace Go.Cx
abbrev U (n:Int):AV:= .val (.int .u64 n)
abbrev Y8 (n:Int):AV:= .val (.int .u8 n)
@[simp] theorem all_ints (l:List Int):(l.map I).all neat=true:=Zkg (by simp) l
@[simp high] theorem one_ints (l:List Int):(l.map I).all Zy=true:=Zkh (λ_=>rfl) l
@[simp] theorem all_bools (l:List Bool):(l.map B).all neat=true:=Zkg (by simp) l
@[simp high] theorem one_bools (l:List Bool):(l.map B).all Zy=true:=Zkh (λ_=>rfl) l
structure EntryR where
 name:ByteArray
 ino:Int
 deriving DecidableEq
def EntryR.enc (c:EntryR):List AV:=[S c.name,I c.ino]
def EntryR.zero:EntryR:=⟨.empty,0⟩
@[simp] theorem EntryR.neat (c:EntryR):c.enc.all neat=true:=by simp[EntryR.enc]
@[simp] theorem all_EntryR (l:List EntryR):(l.flatMap EntryR.enc).all neat=true:=Zaw EntryR.neat l
@[simp] theorem EntryR.one (c:EntryR):c.enc.all Zy=true:=rfl
@[simp high] theorem ZfT (l:List EntryR):(l.flatMap EntryR.enc).all Zy=true:=Zaz EntryR.one l
@[simp high] theorem ZmZ (x:EntryR):x.enc.length=2:=rfl
@[simp high] theorem takec_EntryR (x:EntryR):x.enc.take 2=x.enc:=List.take_of_length_le (Nat.le_refl _)
@[simp high] theorem ZdR (l:List EntryR):(l.flatMap EntryR.enc).length=l.length*2:=Zad (enc:=EntryR.enc) (k:=2) (λ_=>rfl) l
@[simp high] theorem take_EntryR (l:List EntryR):(l.flatMap EntryR.enc).take (l.length*2)=l.flatMap EntryR.enc:=Zay (enc:=EntryR.enc) (k:=2) (λ_=>rfl) l
@[simp high] theorem Zli {l:List EntryR} {i:Nat} (h:i<l.length):List.take 2 (List.drop (i*2) (l.flatMap EntryR.enc))=(l[i]).enc:=Zax (enc:=EntryR.enc) (k:=2) (λ_=>rfl) l i l[i] (by simp[h])
@[simp high] theorem at0_EntryR {l:List EntryR} (h:0<l.length):List.take 2 (l.flatMap EntryR.enc)=(l[0]).enc:=by have:=Zli (l:=l) h;simpa using this
@[simp high] theorem at1_EntryR {l:List EntryR} (h:1<l.length):List.take 2 (List.drop 2 (l.flatMap EntryR.enc))=(l[1]).enc:=by have:=Zli (l:=l) h;simpa using this
theorem Zlj (l:List EntryR) (n:Nat):(l.flatMap EntryR.enc).take (n*2)=(l.take n).flatMap EntryR.enc:=ZbI (enc:=EntryR.enc) (k:=2) (λ_=>rfl) l n
theorem Zgp (l:List EntryR) (n:Nat):(l.flatMap EntryR.enc).drop (n*2)=(l.drop n).flatMap EntryR.enc:=Zba (enc:=EntryR.enc) (k:=2) (λ_=>rfl) l n
def EntryR.wf (c:EntryR):Prop:=c.name.size<=maxLen/\inI c.ino
structure NodeR where
 ino:Int
 kind:Int
 links:Int
 text:ByteArray
 l:List EntryR
 deriving DecidableEq
def NodeR.enc (c:NodeR):List AV:=[I c.ino,I c.kind,I c.links,S c.text,encL EntryR.enc c.l]
def NodeR.zero:NodeR:=⟨0,0,0,.empty,[]⟩
@[simp] theorem NodeR.neat (c:NodeR):c.enc.all neat=true:=by simp[NodeR.enc]
@[simp] theorem all_NodeR (l:List NodeR):(l.flatMap NodeR.enc).all neat=true:=Zaw NodeR.neat l
@[simp] theorem NodeR.one (c:NodeR):c.enc.all Zy=true:=rfl
@[simp high] theorem Zlk (l:List NodeR):(l.flatMap NodeR.enc).all Zy=true:=Zaz NodeR.one l
@[simp high] theorem Zqz (x:NodeR):x.enc.length=5:=rfl
@[simp high] theorem takec_NodeR (x:NodeR):x.enc.take 5=x.enc:=List.take_of_length_le (Nat.le_refl _)
@[simp high] theorem Zll (l:List NodeR):(l.flatMap NodeR.enc).length=l.length*5:=Zad (enc:=NodeR.enc) (k:=5) (λ_=>rfl) l
@[simp high] theorem take_NodeR (l:List NodeR):(l.flatMap NodeR.enc).take (l.length*5)=l.flatMap NodeR.enc:=Zay (enc:=NodeR.enc) (k:=5) (λ_=>rfl) l
@[simp high] theorem ZoL {l:List NodeR} {i:Nat} (h:i<l.length):List.take 5 (List.drop (i*5) (l.flatMap NodeR.enc))=(l[i]).enc:=Zax (enc:=NodeR.enc) (k:=5) (λ_=>rfl) l i l[i] (by simp[h])
@[simp high] theorem at0_NodeR {l:List NodeR} (h:0<l.length):List.take 5 (l.flatMap NodeR.enc)=(l[0]).enc:=by have:=ZoL (l:=l) h;simpa using this
@[simp high] theorem at1_NodeR {l:List NodeR} (h:1<l.length):List.take 5 (List.drop 5 (l.flatMap NodeR.enc))=(l[1]).enc:=by have:=ZoL (l:=l) h;simpa using this
theorem Zna (l:List NodeR) (n:Nat):(l.flatMap NodeR.enc).take (n*5)=(l.take n).flatMap NodeR.enc:=ZbI (enc:=NodeR.enc) (k:=5) (λ_=>rfl) l n
theorem Znb (l:List NodeR) (n:Nat):(l.flatMap NodeR.enc).drop (n*5)=(l.drop n).flatMap NodeR.enc:=Zba (enc:=NodeR.enc) (k:=5) (λ_=>rfl) l n
theorem NodeR.eq_iff (a b:NodeR):a=b↔a.ino=b.ino/\a.kind=b.kind/\a.links=b.links/\a.text=b.text/\a.l=b.l:=by cases a;cases b;simp
def NodeR.wf (c:NodeR):Prop:=inI c.ino/\inI c.kind/\inI c.links/\c.text.size<=maxLen/\(∀x∈c.l,x.wf)
structure FSR where
 l:List NodeR
 next:Int
 deriving DecidableEq
def FSR.enc (c:FSR):List AV:=[encL NodeR.enc c.l,I c.next]
def FSR.zero:FSR:=⟨[],0⟩
@[simp] theorem FSR.neat (c:FSR):c.enc.all neat=true:=by simp[FSR.enc]
@[simp] theorem all_FSR (l:List FSR):(l.flatMap FSR.enc).all neat=true:=Zaw FSR.neat l
@[simp] theorem FSR.one (c:FSR):c.enc.all Zy=true:=rfl
@[simp high] theorem one_FSR (l:List FSR):(l.flatMap FSR.enc).all Zy=true:=Zaz FSR.one l
@[simp high] theorem lenc_FSR (x:FSR):x.enc.length=2:=rfl
@[simp high] theorem takec_FSR (x:FSR):x.enc.take 2=x.enc:=List.take_of_length_le (Nat.le_refl _)
@[simp high] theorem len_FSR (l:List FSR):(l.flatMap FSR.enc).length=l.length*2:=Zad (enc:=FSR.enc) (k:=2) (λ_=>rfl) l
@[simp high] theorem take_FSR (l:List FSR):(l.flatMap FSR.enc).take (l.length*2)=l.flatMap FSR.enc:=Zay (enc:=FSR.enc) (k:=2) (λ_=>rfl) l
@[simp high] theorem at_FSR {l:List FSR} {i:Nat} (h:i<l.length):List.take 2 (List.drop (i*2) (l.flatMap FSR.enc))=(l[i]).enc:=Zax (enc:=FSR.enc) (k:=2) (λ_=>rfl) l i l[i] (by simp[h])
@[simp high] theorem at0_FSR {l:List FSR} (h:0<l.length):List.take 2 (l.flatMap FSR.enc)=(l[0]).enc:=by have:=at_FSR (l:=l) h;simpa using this
@[simp high] theorem at1_FSR {l:List FSR} (h:1<l.length):List.take 2 (List.drop 2 (l.flatMap FSR.enc))=(l[1]).enc:=by have:=at_FSR (l:=l) h;simpa using this
theorem FSR.eq_iff (a b:FSR):a=b↔a.l=b.l/\a.next=b.next:=by cases a;cases b;simp
def FSR.wf (c:FSR):Prop:=(∀x∈c.l,x.wf)/\inI c.next
structure ChangeR where
 ino:Int
 gone:Bool
 node:NodeR
 deriving DecidableEq
def ChangeR.enc (c:ChangeR):List AV:=[I c.ino,B c.gone]++c.node.enc
@[simp] theorem ChangeR.neat (c:ChangeR):c.enc.all neat=true:=by simp[ChangeR.enc]
@[simp] theorem all_ChangeR (l:List ChangeR):(l.flatMap ChangeR.enc).all neat=true:=Zaw ChangeR.neat l
@[simp] theorem ChangeR.one (c:ChangeR):c.enc.all Zy=true:=rfl
@[simp high] theorem one_ChangeR (l:List ChangeR):(l.flatMap ChangeR.enc).all Zy=true:=Zaz ChangeR.one l
@[simp high] theorem lenc_ChangeR (x:ChangeR):x.enc.length=7:=rfl
@[simp high] theorem ZwT (x:ChangeR):x.enc.take 7=x.enc:=List.take_of_length_le (Nat.le_refl _)
@[simp high] theorem len_ChangeR (l:List ChangeR):(l.flatMap ChangeR.enc).length=l.length*7:=Zad (enc:=ChangeR.enc) (k:=7) (λ_=>rfl) l
@[simp high] theorem take_ChangeR (l:List ChangeR):(l.flatMap ChangeR.enc).take (l.length*7)=l.flatMap ChangeR.enc:=Zay (enc:=ChangeR.enc) (k:=7) (λ_=>rfl) l
@[simp high] theorem ZiM {l:List ChangeR} {i:Nat} (h:i<l.length):List.take 7 (List.drop (i*7) (l.flatMap ChangeR.enc))=(l[i]).enc:=Zax (enc:=ChangeR.enc) (k:=7) (λ_=>rfl) l i l[i] (by simp[h])
@[simp high] theorem at0_ChangeR {l:List ChangeR} (h:0<l.length):List.take 7 (l.flatMap ChangeR.enc)=(l[0]).enc:=by have:=ZiM (l:=l) h;simpa using this
@[simp high] theorem at1_ChangeR {l:List ChangeR} (h:1<l.length):List.take 7 (List.drop 7 (l.flatMap ChangeR.enc))=(l[1]).enc:=by have:=ZiM (l:=l) h;simpa using this
structure VerR where
 stamp:Int
 gone:Bool
 node:NodeR
 deriving DecidableEq
def VerR.enc (c:VerR):List AV:=[I c.stamp,B c.gone]++c.node.enc
@[simp] theorem VerR.neat (c:VerR):c.enc.all neat=true:=by simp[VerR.enc]
@[simp] theorem all_VerR (l:List VerR):(l.flatMap VerR.enc).all neat=true:=Zaw VerR.neat l
@[simp] theorem VerR.one (c:VerR):c.enc.all Zy=true:=rfl
@[simp high] theorem one_VerR (l:List VerR):(l.flatMap VerR.enc).all Zy=true:=Zaz VerR.one l
@[simp high] theorem lenc_VerR (x:VerR):x.enc.length=7:=rfl
@[simp high] theorem takec_VerR (x:VerR):x.enc.take 7=x.enc:=List.take_of_length_le (Nat.le_refl _)
@[simp high] theorem len_VerR (l:List VerR):(l.flatMap VerR.enc).length=l.length*7:=Zad (enc:=VerR.enc) (k:=7) (λ_=>rfl) l
@[simp high] theorem take_VerR (l:List VerR):(l.flatMap VerR.enc).take (l.length*7)=l.flatMap VerR.enc:=Zay (enc:=VerR.enc) (k:=7) (λ_=>rfl) l
@[simp high] theorem ZtL {l:List VerR} {i:Nat} (h:i<l.length):List.take 7 (List.drop (i*7) (l.flatMap VerR.enc))=(l[i]).enc:=Zax (enc:=VerR.enc) (k:=7) (λ_=>rfl) l i l[i] (by simp[h])
@[simp high] theorem at0_VerR {l:List VerR} (h:0<l.length):List.take 7 (l.flatMap VerR.enc)=(l[0]).enc:=by have:=ZtL (l:=l) h;simpa using this
@[simp high] theorem at1_VerR {l:List VerR} (h:1<l.length):List.take 7 (List.drop 7 (l.flatMap VerR.enc))=(l[1]).enc:=by have:=ZtL (l:=l) h;simpa using this
theorem ZqA (l:List VerR) (n:Nat):(l.flatMap VerR.enc).take (n*7)=(l.take n).flatMap VerR.enc:=ZbI (enc:=VerR.enc) (k:=7) (λ_=>rfl) l n
theorem VerR.eq_iff (a b:VerR):a=b↔a.stamp=b.stamp/\a.gone=b.gone/\a.node=b.node:=by cases a;cases b;simp
def VerR.wf (c:VerR):Prop:=inI c.stamp/\c.node.wf
structure ChainR where
 ino:Int
 l:List VerR
 deriving DecidableEq
def ChainR.enc (c:ChainR):List AV:=[I c.ino,encL VerR.enc c.l]
@[simp] theorem ChainR.neat (c:ChainR):c.enc.all neat=true:=by simp[ChainR.enc]
@[simp] theorem all_ChainR (l:List ChainR):(l.flatMap ChainR.enc).all neat=true:=Zaw ChainR.neat l
@[simp] theorem ChainR.one (c:ChainR):c.enc.all Zy=true:=rfl
@[simp high] theorem ZiN (l:List ChainR):(l.flatMap ChainR.enc).all Zy=true:=Zaz ChainR.one l
@[simp high] theorem Znc (x:ChainR):x.enc.length=2:=rfl
@[simp high] theorem takec_ChainR (x:ChainR):x.enc.take 2=x.enc:=List.take_of_length_le (Nat.le_refl _)
@[simp high] theorem ZiO (l:List ChainR):(l.flatMap ChainR.enc).length=l.length*2:=Zad (enc:=ChainR.enc) (k:=2) (λ_=>rfl) l
@[simp high] theorem take_ChainR (l:List ChainR):(l.flatMap ChainR.enc).take (l.length*2)=l.flatMap ChainR.enc:=Zay (enc:=ChainR.enc) (k:=2) (λ_=>rfl) l
@[simp high] theorem Zfj {l:List ChainR} {i:Nat} (h:i<l.length):List.take 2 (List.drop (i*2) (l.flatMap ChainR.enc))=(l[i]).enc:=Zax (enc:=ChainR.enc) (k:=2) (λ_=>rfl) l i l[i] (by simp[h])
@[simp high] theorem at0_ChainR {l:List ChainR} (h:0<l.length):List.take 2 (l.flatMap ChainR.enc)=(l[0]).enc:=by have:=Zfj (l:=l) h;simpa using this
@[simp high] theorem at1_ChainR {l:List ChainR} (h:1<l.length):List.take 2 (List.drop 2 (l.flatMap ChainR.enc))=(l[1]).enc:=by have:=Zfj (l:=l) h;simpa using this
theorem Zlm (l:List ChainR) (n:Nat):(l.flatMap ChainR.enc).drop (n*2)=(l.drop n).flatMap ChainR.enc:=Zba (enc:=ChainR.enc) (k:=2) (λ_=>rfl) l n
def ChainR.wf (c:ChainR):Prop:=inI c.ino/\(∀x∈c.l,x.wf)
structure CountR where
 stamp:Int
 next:Int
 deriving DecidableEq
def CountR.enc (c:CountR):List AV:=[I c.stamp,I c.next]
@[simp] theorem CountR.neat (c:CountR):c.enc.all neat=true:=by simp[CountR.enc]
@[simp] theorem all_CountR (l:List CountR):(l.flatMap CountR.enc).all neat=true:=Zaw CountR.neat l
@[simp] theorem CountR.one (c:CountR):c.enc.all Zy=true:=rfl
@[simp high] theorem one_CountR (l:List CountR):(l.flatMap CountR.enc).all Zy=true:=Zaz CountR.one l
@[simp high] theorem lenc_CountR (x:CountR):x.enc.length=2:=rfl
@[simp high] theorem takec_CountR (x:CountR):x.enc.take 2=x.enc:=List.take_of_length_le (Nat.le_refl _)
@[simp high] theorem len_CountR (l:List CountR):(l.flatMap CountR.enc).length=l.length*2:=Zad (enc:=CountR.enc) (k:=2) (λ_=>rfl) l
@[simp high] theorem take_CountR (l:List CountR):(l.flatMap CountR.enc).take (l.length*2)=l.flatMap CountR.enc:=Zay (enc:=CountR.enc) (k:=2) (λ_=>rfl) l
@[simp high] theorem Zln {l:List CountR} {i:Nat} (h:i<l.length):List.take 2 (List.drop (i*2) (l.flatMap CountR.enc))=(l[i]).enc:=Zax (enc:=CountR.enc) (k:=2) (λ_=>rfl) l i l[i] (by simp[h])
@[simp high] theorem at0_CountR {l:List CountR} (h:0<l.length):List.take 2 (l.flatMap CountR.enc)=(l[0]).enc:=by have:=Zln (l:=l) h;simpa using this
@[simp high] theorem at1_CountR {l:List CountR} (h:1<l.length):List.take 2 (List.drop 2 (l.flatMap CountR.enc))=(l[1]).enc:=by have:=Zln (l:=l) h;simpa using this
def CountR.wf (c:CountR):Prop:=inI c.stamp/\inI c.next
structure StoreR where
 l:List ChainR
 nexts:List CountR
 stamp:Int
 deriving DecidableEq
def StoreR.enc (c:StoreR):List AV:=[encL ChainR.enc c.l,encL CountR.enc c.nexts,I c.stamp]
@[simp] theorem StoreR.neat (c:StoreR):c.enc.all neat=true:=by simp[StoreR.enc]
@[simp] theorem all_StoreR (l:List StoreR):(l.flatMap StoreR.enc).all neat=true:=Zaw StoreR.neat l
@[simp] theorem StoreR.one (c:StoreR):c.enc.all Zy=true:=rfl
@[simp high] theorem one_StoreR (l:List StoreR):(l.flatMap StoreR.enc).all Zy=true:=Zaz StoreR.one l
@[simp high] theorem lenc_StoreR (x:StoreR):x.enc.length=3:=rfl
@[simp high] theorem takec_StoreR (x:StoreR):x.enc.take 3=x.enc:=List.take_of_length_le (Nat.le_refl _)
@[simp high] theorem len_StoreR (l:List StoreR):(l.flatMap StoreR.enc).length=l.length*3:=Zad (enc:=StoreR.enc) (k:=3) (λ_=>rfl) l
@[simp high] theorem take_StoreR (l:List StoreR):(l.flatMap StoreR.enc).take (l.length*3)=l.flatMap StoreR.enc:=Zay (enc:=StoreR.enc) (k:=3) (λ_=>rfl) l
@[simp high] theorem Zlo {l:List StoreR} {i:Nat} (h:i<l.length):List.take 3 (List.drop (i*3) (l.flatMap StoreR.enc))=(l[i]).enc:=Zax (enc:=StoreR.enc) (k:=3) (λ_=>rfl) l i l[i] (by simp[h])
@[simp high] theorem at0_StoreR {l:List StoreR} (h:0<l.length):List.take 3 (l.flatMap StoreR.enc)=(l[0]).enc:=by have:=Zlo (l:=l) h;simpa using this
@[simp high] theorem at1_StoreR {l:List StoreR} (h:1<l.length):List.take 3 (List.drop 3 (l.flatMap StoreR.enc))=(l[1]).enc:=by have:=Zlo (l:=l) h;simpa using this
def StoreR.wf (c:StoreR):Prop:=(∀x∈c.l,x.wf)/\(∀x∈c.nexts,x.wf)/\inI c.stamp
structure TxnR where
 stamp:Int
 was:FSR
 now:FSR
 looks:List Int
 deriving DecidableEq
def TxnR.enc (c:TxnR):List AV:=[I c.stamp]++c.was.enc++c.now.enc++[enc1 I c.looks]
def TxnR.zero:TxnR:=⟨0,.zero,.zero,[]⟩
@[simp] theorem TxnR.neat (c:TxnR):c.enc.all neat=true:=by simp[TxnR.enc]
@[simp] theorem all_TxnR (l:List TxnR):(l.flatMap TxnR.enc).all neat=true:=Zaw TxnR.neat l
@[simp] theorem TxnR.one (c:TxnR):c.enc.all Zy=true:=rfl
@[simp high] theorem one_TxnR (l:List TxnR):(l.flatMap TxnR.enc).all Zy=true:=Zaz TxnR.one l
@[simp high] theorem lenc_TxnR (x:TxnR):x.enc.length=6:=rfl
@[simp high] theorem takec_TxnR (x:TxnR):x.enc.take 6=x.enc:=List.take_of_length_le (Nat.le_refl _)
@[simp high] theorem len_TxnR (l:List TxnR):(l.flatMap TxnR.enc).length=l.length*6:=Zad (enc:=TxnR.enc) (k:=6) (λ_=>rfl) l
@[simp high] theorem take_TxnR (l:List TxnR):(l.flatMap TxnR.enc).take (l.length*6)=l.flatMap TxnR.enc:=Zay (enc:=TxnR.enc) (k:=6) (λ_=>rfl) l
@[simp high] theorem ZtM {l:List TxnR} {i:Nat} (h:i<l.length):List.take 6 (List.drop (i*6) (l.flatMap TxnR.enc))=(l[i]).enc:=Zax (enc:=TxnR.enc) (k:=6) (λ_=>rfl) l i l[i] (by simp[h])
@[simp high] theorem at0_TxnR {l:List TxnR} (h:0<l.length):List.take 6 (l.flatMap TxnR.enc)=(l[0]).enc:=by have:=ZtM (l:=l) h;simpa using this
@[simp high] theorem at1_TxnR {l:List TxnR} (h:1<l.length):List.take 6 (List.drop 6 (l.flatMap TxnR.enc))=(l[1]).enc:=by have:=ZtM (l:=l) h;simpa using this
def TxnR.wf (c:TxnR):Prop:=inI c.stamp/\c.was.wf/\c.now.wf/\(∀x∈c.looks,inI x)
structure DecisionR where
 seq:Int
 yes:Bool
 deriving DecidableEq
def DecisionR.enc (c:DecisionR):List AV:=[I c.seq,B c.yes]
def DecisionR.zero:DecisionR:=⟨0,false⟩
@[simp] theorem DecisionR.neat (c:DecisionR):c.enc.all neat=true:=by simp[DecisionR.enc]
@[simp] theorem ZwU (l:List DecisionR):(l.flatMap DecisionR.enc).all neat=true:=Zaw DecisionR.neat l
@[simp] theorem DecisionR.one (c:DecisionR):c.enc.all Zy=true:=rfl
@[simp high] theorem Zfk (l:List DecisionR):(l.flatMap DecisionR.enc).all Zy=true:=Zaz DecisionR.one l
@[simp high] theorem Zit (x:DecisionR):x.enc.length=2:=rfl
@[simp high] theorem ZtN (x:DecisionR):x.enc.take 2=x.enc:=List.take_of_length_le (Nat.le_refl _)
@[simp high] theorem Zfl (l:List DecisionR):(l.flatMap DecisionR.enc).length=l.length*2:=Zad (enc:=DecisionR.enc) (k:=2) (λ_=>rfl) l
@[simp high] theorem ZvT (l:List DecisionR):(l.flatMap DecisionR.enc).take (l.length*2)=l.flatMap DecisionR.enc:=Zay (enc:=DecisionR.enc) (k:=2) (λ_=>rfl) l
@[simp high] theorem Zgq {l:List DecisionR} {i:Nat} (h:i<l.length):List.take 2 (List.drop (i*2) (l.flatMap DecisionR.enc))=(l[i]).enc:=Zax (enc:=DecisionR.enc) (k:=2) (λ_=>rfl) l i l[i] (by simp[h])
@[simp high] theorem ZwV {l:List DecisionR} (h:0<l.length):List.take 2 (l.flatMap DecisionR.enc)=(l[0]).enc:=by have:=Zgq (l:=l) h;simpa using this
@[simp high] theorem ZwW {l:List DecisionR} (h:1<l.length):List.take 2 (List.drop 2 (l.flatMap DecisionR.enc))=(l[1]).enc:=by have:=Zgq (l:=l) h;simpa using this
theorem Zhr (l:List DecisionR) (n:Nat):(l.flatMap DecisionR.enc).take (n*2)=(l.take n).flatMap DecisionR.enc:=ZbI (enc:=DecisionR.enc) (k:=2) (λ_=>rfl) l n
theorem Zhs (l:List DecisionR) (n:Nat):(l.flatMap DecisionR.enc).drop (n*2)=(l.drop n).flatMap DecisionR.enc:=Zba (enc:=DecisionR.enc) (k:=2) (λ_=>rfl) l n
def DecisionR.wf (c:DecisionR):Prop:=inI c.seq
structure RowR where
 client:Int
 epoch:Int
 done:Int
 l:List DecisionR
 deriving DecidableEq
def RowR.enc (c:RowR):List AV:=[I c.client,I c.epoch,I c.done,encL DecisionR.enc c.l]
def RowR.zero:RowR:=⟨0,0,0,[]⟩
@[simp] theorem RowR.neat (c:RowR):c.enc.all neat=true:=by simp[RowR.enc]
@[simp] theorem all_RowR (l:List RowR):(l.flatMap RowR.enc).all neat=true:=Zaw RowR.neat l
@[simp] theorem RowR.one (c:RowR):c.enc.all Zy=true:=rfl
@[simp high] theorem ZoM (l:List RowR):(l.flatMap RowR.enc).all Zy=true:=Zaz RowR.one l
@[simp high] theorem ZtO (x:RowR):x.enc.length=4:=rfl
@[simp high] theorem takec_RowR (x:RowR):x.enc.take 4=x.enc:=List.take_of_length_le (Nat.le_refl _)
@[simp high] theorem ZoN (l:List RowR):(l.flatMap RowR.enc).length=l.length*4:=Zad (enc:=RowR.enc) (k:=4) (λ_=>rfl) l
@[simp high] theorem take_RowR (l:List RowR):(l.flatMap RowR.enc).take (l.length*4)=l.flatMap RowR.enc:=Zay (enc:=RowR.enc) (k:=4) (λ_=>rfl) l
@[simp high] theorem Znd {l:List RowR} {i:Nat} (h:i<l.length):List.take 4 (List.drop (i*4) (l.flatMap RowR.enc))=(l[i]).enc:=Zax (enc:=RowR.enc) (k:=4) (λ_=>rfl) l i l[i] (by simp[h])
@[simp high] theorem at0_RowR {l:List RowR} (h:0<l.length):List.take 4 (l.flatMap RowR.enc)=(l[0]).enc:=by have:=Znd (l:=l) h;simpa using this
@[simp high] theorem at1_RowR {l:List RowR} (h:1<l.length):List.take 4 (List.drop 4 (l.flatMap RowR.enc))=(l[1]).enc:=by have:=Znd (l:=l) h;simpa using this
theorem ZqB (l:List RowR) (n:Nat):(l.flatMap RowR.enc).drop (n*4)=(l.drop n).flatMap RowR.enc:=Zba (enc:=RowR.enc) (k:=4) (λ_=>rfl) l n
theorem RowR.eq_iff (a b:RowR):a=b↔a.client=b.client/\a.epoch=b.epoch/\a.done=b.done/\a.l=b.l:=by cases a;cases b;simp
def RowR.wf (c:RowR):Prop:=inI c.client/\inI c.epoch/\inI c.done/\(∀x∈c.l,x.wf)
structure OpenR where
 client:Int
 epoch:Int
 seq:Int
 n:Int
 t:TxnR
 last:ReplyR
 until_:Int
 deriving DecidableEq
def OpenR.enc (c:OpenR):List AV:=[I c.client,I c.epoch,I c.seq,I c.n]++c.t.enc++c.last.enc++[I c.until_]
def OpenR.zero:OpenR:=⟨0,0,0,0,.zero,⟨0,0,0,0,.empty,[]⟩,0⟩
@[simp] theorem OpenR.neat (c:OpenR):c.enc.all neat=true:=by simp[OpenR.enc]
@[simp] theorem all_OpenR (l:List OpenR):(l.flatMap OpenR.enc).all neat=true:=Zaw OpenR.neat l
@[simp] theorem OpenR.one (c:OpenR):c.enc.all Zy=true:=rfl
@[simp high] theorem Zlp (l:List OpenR):(l.flatMap OpenR.enc).all Zy=true:=Zaz OpenR.one l
@[simp high] theorem ZqC (x:OpenR):x.enc.length=17:=rfl
@[simp high] theorem takec_OpenR (x:OpenR):x.enc.take 17=x.enc:=List.take_of_length_le (Nat.le_refl _)
@[simp high] theorem Zlq (l:List OpenR):(l.flatMap OpenR.enc).length=l.length*17:=Zad (enc:=OpenR.enc) (k:=17) (λ_=>rfl) l
@[simp high] theorem take_OpenR (l:List OpenR):(l.flatMap OpenR.enc).take (l.length*17)=l.flatMap OpenR.enc:=Zay (enc:=OpenR.enc) (k:=17) (λ_=>rfl) l
@[simp high] theorem ZoO {l:List OpenR} {i:Nat} (h:i<l.length):List.take 17 (List.drop (i*17) (l.flatMap OpenR.enc))=(l[i]).enc:=Zax (enc:=OpenR.enc) (k:=17) (λ_=>rfl) l i l[i] (by simp[h])
@[simp high] theorem at0_OpenR {l:List OpenR} (h:0<l.length):List.take 17 (l.flatMap OpenR.enc)=(l[0]).enc:=by have:=ZoO (l:=l) h;simpa using this
@[simp high] theorem at1_OpenR {l:List OpenR} (h:1<l.length):List.take 17 (List.drop 17 (l.flatMap OpenR.enc))=(l[1]).enc:=by have:=ZoO (l:=l) h;simpa using this
theorem Zne (l:List OpenR) (n:Nat):(l.flatMap OpenR.enc).take (n*17)=(l.take n).flatMap OpenR.enc:=ZbI (enc:=OpenR.enc) (k:=17) (λ_=>rfl) l n
theorem Znf (l:List OpenR) (n:Nat):(l.flatMap OpenR.enc).drop (n*17)=(l.drop n).flatMap OpenR.enc:=Zba (enc:=OpenR.enc) (k:=17) (λ_=>rfl) l n
def OpenR.wf (c:OpenR):Prop:=inI c.client/\inI c.epoch/\inI c.seq/\inI c.n/\c.t.wf/\c.last.wf/\inI c.until_
structure HostR where
 s:StoreR
 rows:List RowR
 opens:List OpenR
 now:Int
 lease:Int
 deriving DecidableEq
def HostR.enc (c:HostR):List AV:=c.s.enc++[encL RowR.enc c.rows,encL OpenR.enc c.opens,I c.now,I c.lease]
@[simp] theorem HostR.neat (c:HostR):c.enc.all neat=true:=by simp[HostR.enc]
@[simp] theorem all_HostR (l:List HostR):(l.flatMap HostR.enc).all neat=true:=Zaw HostR.neat l
@[simp] theorem HostR.one (c:HostR):c.enc.all Zy=true:=rfl
@[simp high] theorem one_HostR (l:List HostR):(l.flatMap HostR.enc).all Zy=true:=Zaz HostR.one l
@[simp high] theorem lenc_HostR (x:HostR):x.enc.length=7:=rfl
@[simp high] theorem takec_HostR (x:HostR):x.enc.take 7=x.enc:=List.take_of_length_le (Nat.le_refl _)
@[simp high] theorem len_HostR (l:List HostR):(l.flatMap HostR.enc).length=l.length*7:=Zad (enc:=HostR.enc) (k:=7) (λ_=>rfl) l
@[simp high] theorem take_HostR (l:List HostR):(l.flatMap HostR.enc).take (l.length*7)=l.flatMap HostR.enc:=Zay (enc:=HostR.enc) (k:=7) (λ_=>rfl) l
@[simp high] theorem ZoP {l:List HostR} {i:Nat} (h:i<l.length):List.take 7 (List.drop (i*7) (l.flatMap HostR.enc))=(l[i]).enc:=Zax (enc:=HostR.enc) (k:=7) (λ_=>rfl) l i l[i] (by simp[h])
@[simp high] theorem at0_HostR {l:List HostR} (h:0<l.length):List.take 7 (l.flatMap HostR.enc)=(l[0]).enc:=by have:=ZoP (l:=l) h;simpa using this
@[simp high] theorem at1_HostR {l:List HostR} (h:1<l.length):List.take 7 (List.drop 7 (l.flatMap HostR.enc))=(l[1]).enc:=by have:=ZoP (l:=l) h;simpa using this
def HostR.wf (c:HostR):Prop:=c.s.wf/\(∀x∈c.rows,x.wf)/\(∀x∈c.opens,x.wf)/\inI c.now/\inI c.lease
end Go.Cx
set_option linter.unusedVariables false
set_option linter.unusedSimpArgs false
namespace Go.Cx
variable {P:Program} {Z:Nat->Prop} {κ:Nat->Slot} {h:Za} {w:World}
theorem Wk.blk {n:Nat} {s:Zc} (id:Nat) (y:ABlk) {x:ABlk} (hx:s.h[id]? =some x) (hy:∀(Z:Nat->Prop) (κ:Nat->Slot) (w:World),ZaM Z w κ id x->ZaM Z w κ id y):Wk n s ⟨s.N,s.T,s.h.set id y⟩:=λZ κ a w r hn=>
 ⟨κ,⟨r.rel.reblk (List.getElem?_eq_some_iff.1 hx).1 (hy Z κ w (r.rel.blk id x hx)),r.size,r.tmps,r.defers⟩,.refl _ _ _,.refl _ _,by simpa using hn⟩
theorem ZiP {id ver:Nat} {cs:List AV} (m:Nat) (h:ZaM Z w κ id (.cells ver cs)):ZaM Z w κ id (.cells ver (cs.take m)):=by
 obtain⟨ob,sz,h1,h2⟩:=h
 refine⟨ob,sz,h1,?_⟩
 cases ob with
 |none=>simp only at h2⊢;rw[h2];simp
 |some b=>
  obtain⟨c,E,us,h3,h4,h5,h6,h7⟩:=h2
  refine⟨c,E,us.take m,h3,h4,Nat.le_trans (by simp;omega) h5,λj u hj=> ?_,h7.take m⟩
  rw[List.getElem?_take] at hj
  split at hj
  ·exact h6 j u hj
  ·cases hj
theorem Wk.prefix {n:Nat} {s:Zc} (id ver m:Nat) {x:ABlk} {cs:List AV} (hx:s.h[id]? =some x) (hc:blkCells x=some (ver,cs)):Wk n s ⟨s.N,s.T,s.h.set id (.cells ver (cs.take m))⟩:=
 Wk.blk id _ hx λZ κ w hb=>ZiP m (ZgP hb hc)
theorem Wk.bump {n:Nat} {s:Zc} (t id ver off m k:Nat) {cs:List AV} (ht:s.T t= .own id ver off m k) (hx:s.h[id]? =some (.cells ver cs)):Wk n s ⟨s.N,put s.T t (.own id (ver+1) off m k),s.h.set id (.cells (ver+1) cs)⟩:=by
 intro Z κ a w r hn
 obtain⟨ob,sz,h1,_⟩:=r.rel.blk id _ hx
 obtain⟨r',e,st⟩:=ZjO r.rel hx h1
 refine⟨_,⟨r',r.size,λj=> ?_,r.defers⟩,e,st.lt r.rel hn,by simpa using hn⟩
 show R Z w _ (put s.T t _ j) _
 by_cases hj:j=t
 ·subst hj
  rw[Zco]
  have h2:=r.tmps j
  rw[ht] at h2
  generalize a.tmps.getD j undef=cc at h2
  cases h2 with
  |own g1 g2 g3 g4=>
   refine .own g1 g2 g3 ?_
   simp only[ZV,h1] at g4
   simp only[ZV,Zk]
   exact⟨Nat.le_refl _,λ_=>g4.2 trivial⟩
 ·rw[Zhf _ _ hj];exact(r.tmps j).ext r.rel e st
theorem Wk.move {n:Nat} {s:Zc} (t id id2 ver off m k:Nat) {x:ABlk} {cs cs2:List AV} (hne:id2≠id) (ht:s.T t= .own id2 0 off m k) (hx:s.h[id]? =some x) (hc:blkCells x=some (ver,cs)) (hx2:s.h[id2]? =some (.cells 0 cs2)):
  Wk n s ⟨s.N,put s.T t (.own id (ver+1) off m k),(s.h.set id (.cells (ver+1) cs2)).set id2 .dead⟩:=by
 intro Z κ a w r hn
 obtain⟨ob,sz,h1,_⟩:=ZgP (r.rel.blk id _ hx) hc
 obtain⟨ob2,sz2,h2,h2b⟩:=r.rel.blk id2 _ hx2
 have hid:=(List.getElem?_eq_some_iff.1 hx).1
 have hid2:=(List.getElem?_eq_some_iff.1 hx2).1
 let κ':=upd (upd κ id (.live (ver+1) ob2 sz2)) id2 .dead
 have k2:κ' id2= .dead:=Zk _ _ _
 have k1:κ' id= .live (ver+1) ob2 sz2:=by simp only[κ'];rw[Zr _ _ (Ne.symm hne),Zk]
 have kn:∀j,j≠id->j≠id2->κ' j=κ j:=λj a b=>by simp only[κ'];rw[Zr _ _ b,Zr _ _ a]
 have st:Zq κ κ':=λj=>by
  by_cases j2:j=id2
  ·subst j2;right;rw[k2,h2];simp[Slot.step]
  ·by_cases j1:j=id
   ·subst j1;right;rw[k1,h1];simp[Slot.step]
   ·right;rw[kn j j1 j2];exact Slot.step_refl _
 have hal:∀b,ZT κ' b->ZT κ b:=by
  rintro b ⟨j,v,s',hk⟩
  by_cases j2:j=id2
  ·subst j2;rw[k2] at hk;cases hk
  ·by_cases j1:j=id
   ·subst j1;rw[k1] at hk;injection hk with _ e _;subst e;exact⟨id2,_,_,h2⟩
   ·rw[kn j j1 j2] at hk;exact⟨j,v,s',hk⟩
 have e:Ext Z κ w Z κ' w:=⟨rfl,rfl,rfl,Nat.le_refl _,λ_ _ _=>rfl,λ_ h=>h,λ_ h=> .inl h,λb ha=> .inl (hal b ha)⟩
 refine⟨κ',⟨⟨r.rel.zlt,λb hz ha=>r.rel.za b hz (hal b ha),λj hj=> ?_,λj y hy=> ?_,?_⟩,r.size,λj=> ?_,r.defers⟩,e,st.lt r.rel hn,by simpa using hn⟩
 ·simp at hj
  rw[kn j (by omega) (by omega)];exact r.rel.hole j hj
 ·by_cases j2:j=id2
  ·subst j2
   rw[List.getElem?_set_self (by simpa using hid2)] at hy
   injection hy with hy;subst hy;exact k2
  ·rw[List.getElem?_set_ne (Ne.symm j2)] at hy
   by_cases j1:j=id
   ·subst j1
    rw[List.getElem?_set_self hid] at hy
    injection hy with hy;subst hy
    refine⟨ob2,sz2,k1,?_⟩
    cases ob2 with
    |none=>exact h2b
    |some b=>
     obtain⟨c,E,us,h3,h4,h5,h6,h7⟩:=h2b
     exact⟨c,E,us,h3.up (Nat.zero_le _),h4,h5,h6,h7.ext r.rel e st⟩
   ·rw[List.getElem?_set_ne (Ne.symm j1)] at hy
    exact(r.rel.blk j y hy).ext r.rel e st (kn j j1 j2) λ_ _ _ _=>rfl
 ·intro j j' v v' b s1 s2 g1 g2
  by_cases j2:j=id2
  ·subst j2;rw[k2] at g1;cases g1
  ·by_cases j2':j'=id2
   ·subst j2';rw[k2] at g2;cases g2
   ·by_cases j1:j=id<;>by_cases j1':j'=id
    ·rw[j1,j1']
    ·subst j1
     rw[k1] at g1;rw[kn j' j1' j2'] at g2
     injection g1 with _ e1 _;subst e1
     exact absurd (r.rel.inj _ _ _ _ _ _ _ h2 g2) (Ne.symm j2')
    ·subst j1'
     rw[k1] at g2;rw[kn j j1 j2] at g1
     injection g2 with _ e1 _;subst e1
     exact absurd (r.rel.inj _ _ _ _ _ _ _ h2 g1) (Ne.symm j2)
    ·rw[kn j j1 j2] at g1;rw[kn j' j1' j2'] at g2
     exact r.rel.inj _ _ _ _ _ _ _ g1 g2
 ·show R Z w κ' (put s.T t _ j) _
  by_cases hj:j=t
  ·subst hj
   rw[Zco]
   have g:=r.tmps j
   rw[ht] at g
   generalize a.tmps.getD j undef=cc at g
   cases g with
   |own g1 g2 g3 g4=>
    refine .own g1 g2 g3 ?_
    simp only[ZV,h2] at g4
    simp only[ZV,k1]
    exact⟨Nat.le_refl _,λ_=>g4.2 trivial⟩
  ·rw[Zhf _ _ hj];exact(r.tmps j).ext r.rel e st
def WkZ (n:Nat) (s s':Zc):Prop:=
 ∀(Z:Nat->Prop) (κ:Nat->Slot) (a:Act) (w:World),SRel Z κ s a w->n<=s.h.length->∃Z' κ',SRel Z' κ' s' a w/\Ext Z κ w Z' κ' w/\ZX n κ κ'/\n<=s'.h.length
theorem AW.wkZ {n:Nat} {c:Code} {Q:Exit->Zc->Prop} {s s':Zc} (hw:WkZ n s s') (hx:AW P n c Q s'):AW P n c Q s:=λZ κ a w r hn=>by
 obtain⟨Z2,κ2,r2,e2,st2,n2⟩:=hw Z κ a w r hn
 exact wp_mono (hx Z2 κ2 a w r2 n2) λe a' w' ha=>ha.trans e2 st2
theorem WkZ.freeze {n:Nat} {s:Zc} (D:List Nat) (t:Nat) (v':AV) (hv:fzD s.h D 12 (s.T t)=some v'):WkZ n s ⟨s.N,put s.T t v',kill D s.h⟩:=by
 intro Z κ a w r hn
 obtain⟨r1,e1⟩:=ZoG D r.rel
 have st:Zq κ (Zdu D κ):=λid=> .inr (ZfR D κ id)
 refine⟨_,_,⟨r1,r.size,λj=> ?_,r.defers⟩,e1,st.lt r.rel hn,by simpa[Zfh] using hn⟩
 show R _ w _ (put s.T t v' j) _
 by_cases hj:j=t
 ·subst hj;rw[Zco];exact Ztt r.rel 12 _ _ _ hv (r.tmps j)
 ·rw[Zhf _ _ hj];exact(r.tmps j).ext r.rel e1 st
def WkE {ι:Type} (n:Nat) (s:Zc) (S:ι->Zc):Prop:=
 ∀(Z:Nat->Prop) (κ:Nat->Slot) (a:Act) (w:World),SRel Z κ s a w->n<=s.h.length->∃i κ',SRel Z κ' (S i) a w/\Ext Z κ w Z κ' w/\ZX n κ κ'/\n<=(S i).h.length
theorem WkE.one (n:Nat) (s:Zc):WkE n s (λ_:Unit=>s):=λZ κ a w r hn=>⟨(),κ,r,.refl _ _ _,.refl _ _,hn⟩
def Zcl (s:Zc) (id ver k:Nat) (cs:List AV) (cap:Nat):Zc:=⟨s.N,s.T,s.h.set id (.full ver (cs++List.replicate (cap*k -cs.length) .any))⟩
theorem WkE.full {s:Zc} {n t id ver m k:Nat} {cs:List AV} (ht:s.T t= .own id ver 0 m k) (hx:s.h[id]? =some (.cells ver cs)) (hm:0<m) (hl:cs.length=m*k) (hv:ver<bigV:=by decide):
  WkE n s (λcap:{cap:Nat//m<=cap/\cap<=maxLen}=>Zcl s id ver k cs cap.1):=by
 intro Z κ a w r hn
 have g:=r.tmps t
 rw[ht] at g
 have hid:=(List.getElem?_eq_some_iff.1 hx).1
 rcases own_slice r.rel g hx with⟨_,_,_,_,_,h0,_⟩|⟨b,sz,arr,E,us,cap,a0,e1,e2,e3,e4,e5,e6,e7,e8,e9,e10,e11,e12⟩
 ·omega
 ·refine⟨⟨cap,e3,by omega⟩,κ,⟨r.rel.reblk hid ?_,r.size,r.tmps,r.defers⟩,.refl _ _ _,.refl _ _,by simpa[Zcl] using hn⟩
  have hul:=e12.length
  have hsz:cap*k=arr.size:=by rw[e9,<-e4];simp
  refine⟨b,arr,E,by rw[e9];exact e1,e8.strict hv,?_,hv⟩
  have hsplit:arr.toList=us++arr.toList.drop us.length:=by
   apply List.ext_getElem?
   intro j
   by_cases hj:j<us.length
   ·rw[List.getElem?_append_left hj]
    have:=e11 j us[j] (by simp[hj])
    simpa[hj] using this
   ·rw[List.getElem?_append_right (by omega),List.getElem?_drop]
    congr 1;omega
  rw[hsplit]
  refine e12.append ?_
  have hlen:(arr.toList.drop us.length).length=cap*k -cs.length:=by simp[hsz,hul]
  generalize arr.toList.drop us.length=l at hlen
  rw[<-hlen]
  clear hlen hsplit
  induction l with
  |nil=>exact .nil
  |cons x l ih=>exact .cons .any ih
def PostW (P:Program) (n:Nat) (rs:List ResultVar) (v:AV) (h1:Za) (e:Exit) (s:Zc):Prop:=∃s',Wk n s s'/\ZmY P rs v h1 e s'
@[simp] theorem PostW_def (n:Nat) (rs:List ResultVar) (v:AV) (h1:Za) (e:Exit) (s:Zc):PostW P n rs v h1 e s=∃s',Wk n s s'/\(Zbs e=true/\(rs.mapM (resA P s')).map resV=some v/\s'.h.take h1.length=h1):=rfl
theorem ZaX.ownG {ι:Type} {f:FuncId} {fn:Func} {c:Code} {rs:List ResultVar} {N:Nat} {args:List AV} {h1:Za} {v:AV} (S:ι->Zc) (lit:TypeId->Bool) (hf:P.funcs[f]? =some fn) (hb:fn.body=some c) (hrs:fn.results.toList=rs) (hN:args.length+(fn.ntmps -args.length)=N) (he:Ent P f)
  (hv:refsLt h1.length v=true) (hl:h.length<=h1.length) (hh1:h1.all (ABlk.refsLt h1.length)=true) (hS:WkE h.length ⟨N,Zbr args,h⟩ S)
  (hx:∀i,AX P lit h.length c (PostW P h.length rs v h1) (S i)):ZaX P f args h (λv' h'=>v'=v/\h'=h1):=by
 subst hrs hN
 refine⟨he,λZ κ w cargs r hr=> ?_⟩
 have hs0:SRel Z κ ⟨args.length+(fn.ntmps -args.length),Zbr args,h⟩ {tmps:=cargs.toArray++Array.replicate (fn.ntmps -cargs.toArray.size) undef,defers:=[]} w:=by
  have hl:=hr.length
  refine⟨r,by simp[hl],λj=> ?_,rfl⟩
  simp only[Zbr,Array.getD_eq_getD_getElem?,Array.getElem?_append,List.size_toArray,List.getD]
  by_cases hj:j<cargs.length
  ·rw[if_pos hj]
   obtain⟨v,hv,hvr⟩:=hr.get j (args[j]'(by omega)) (by simp[hl▸hj])
   have:args[j]? =some (args[j]'(by omega)):=by simp[hl▸hj]
   rw[this]
   simpa[hv] using hvr
  ·rw[if_neg hj]
   have:args[j]? =none:=List.getElem?_eq_none (by omega)
   rw[this]
   exact .any
 obtain⟨i,κ0,rs0,ex0,st0,hn0⟩:=hS Z κ _ w hs0 (Nat.le_refl _)
 refine calls_of_wp hf hb (wp_mono (Zck c _ _ (hx i) Z κ0 _ w rs0 hn0) ?_)
 intro e a' w' ha
 obtain⟨s',Z',κ',⟨s2,hwk,hq⟩,r',ex,st,hn⟩:=ha
 obtain⟨κ2,r2,ex2,st2,hn2⟩:=hwk Z' κ' a' w' r' hn
 obtain⟨he',hm,hz⟩:=hq
 obtain⟨vs,hm,hvs⟩:=Option.map_eq_some_iff.1 hm
 obtain⟨cv,hrun,hcv⟩:=ZdM (P:=P) r2 hm
 obtain⟨r3,e3⟩:=ZfO r2.rel (n:=h1.length) (by rw[hz];exact hh1)
 rw[hz] at r3
 rw[hvs] at hcv
 have hcv2:R (cutZ h1.length Z' κ2) w' (cutK h1.length κ2) v cv:=
  (hcv.lt hv (λj hj=>show cutK h1.length κ2 j=κ2 j by simp[cutK,hj])).imp (λb hz=>⟨.inl hz,rfl⟩) (λj=> .inr (Slot.step_refl _))
 have fin:∃v' h' Z2 κ2 c,(v'=v/\h'=h1)/\Ending.returned cv= .returned c/\Rel Z2 κ2 h' w'/\R Z2 w' κ2 v' c/\Ext Z κ w Z2 κ2 w'/\ZX h.length κ κ2:=
  ⟨v,h1,_,_,cv,⟨rfl,rfl⟩,rfl,r3,hcv2,ex0.trans (ex.trans (ex2.trans e3)),(st0.trans (st.trans st2)).trans ((ZcE h1.length κ2).mono hl)⟩
 have hd:=r2.defers
 cases e with
 |normal=>exact⟨hd,cv,hrun,fin⟩
 |ret=>exact⟨hd,cv,hrun,fin⟩
 |exit id=>simp[Zbs] at he'
 |goto l=>simp[Zbs] at he'
 |panic ch=>simp[Zbs] at he'
 |outgrown=>simp[Zbs] at he'
theorem XCall.mkG {ι:Type} {f:FuncId} {fn:Func} {c:Code} {rs:List ResultVar} {N:Nat} {args:List AV} {h0 h1:Za} {v:AV} (S:Zc->ι->Zc) (lit:TypeId->Bool) (hf:P.funcs[f]? =some fn) (hb:fn.body=some c) (hrs:fn.results.toList=rs) (hN:args.length+(fn.ntmps -args.length)=N) (he:Ent P f)
  (ha:args.all (refsLt h0.length)=true) (hh:h0.all (ABlk.refsLt h0.length)=true) (hv:refsLt h1.length v=true) (hl:h0.length<=h1.length) (hh1:h1.all (ABlk.refsLt h1.length)=true)
  (hx:args.all fits=true->WkE h0.length ⟨N,Zbr args,h0⟩ (S ⟨N,Zbr args,h0⟩)/\∀i,AX P lit h0.length c (PostW P h0.length rs v h1) (S ⟨N,Zbr args,h0⟩ i)):XCall P f args h0 v h1:=by
 refine⟨ha,hh,hv,hl,hh1,?_⟩
 by_cases hfit:args.all fits=true
 ·exact ZaX.ownG (S ⟨N,Zbr args,h0⟩) lit hf hb hrs hN he hv hl hh1 (hx hfit).1 (hx hfit).2
 ·exact⟨he,λZ κ w cargs r hr=>absurd hr.fits hfit⟩
theorem ADcall.fresh {f:FuncId} {cap args args0:List AV} {h0 h1:Za} {v:AV} {K:AV->Za->Prop} {D:List Nat} (L:List Nat) (hc:XCall P f args0 h0 v h1) (ha:args++cap=args0.map (ren (ρL L))) (hb:atB (ρL L) h 0 h0)
  (hq:K (ren (Cx.grow (ρL L) h0.length h.length) v) (Cx.lay (Cx.grow (ρL L) h0.length h.length) 0 (h1.take h0.length) h++(h1.drop h0.length).map (renB (Cx.grow (ρL L) h0.length h.length)))) (hn:L.Nodup:=by decide) (hl:L.length=h0.length:=by rfl):ADcall P D .e (.fn f cap) args h K:=
 ⟨_,_,.of (hc.at L hn hl ha hb),hq⟩
theorem Zlr {tS tR e:TypeId} (ht:P.underlying tS=some (.slice e)) {size:Nat} (hk:Zd P e=some size) (A B:Option Addr) (la ca lb cb:Nat)
  (hab:∀a b,A=some a->B=some b->0<la->0<lb->a.block≠b.block/\(∃(arr:Array Value) (E:TypeId) (fr:Nat×Nat),w.heap[a.block]? =some (.cells arr E fr)/\0<arr.size)/\∃(arr:Array Value) (E:TypeId),w.heap[b.block]? =some (.cells arr E (0,0))/\0<arr.size):
  (Extern.SlicesOverlaps.overlaps #[tS,tS] #[tR] #[.slice A la ca,.slice B lb cb]).run P w= .ok (.bool false) w:=by
 change Sem.run P (α:=Value) (do
  let some t := (#[tS, tS] : Array TypeId)[0]? | stuck "slices.overlaps: no parameter types"
  let .slice elem ← underlying t | stuck "slices.overlaps: slice type expected"
  let size<-sizeOf elem
  match A,B with
  |some a,some b=>
   if la=0\/lb=0\/size=0 then pure (Value.bool false)
   else if a.block !=b.block&&(<-frozen a)&&(<-frozen b) then unsupported .addressObserved
   else do
    if a.block !=b.block then do
     noView a;noView b
     if ← mayBeOne a b then return Value.bool ((← choose (.extern "sameAddr.stringBytes" 2)) == 1)
    pure (Value.bool (a.block==b.block&&a.off<b.off+lb*size&&b.off<a.off+la*size))
  |_,_=>pure (Value.bool false)) w=_
 have hz:=run_tsize (P:=P) hk
 cases A with
 |none=>simp[run_underlying ht,hz]
 |some a=>cases B with
  |none=>simp[run_underlying ht,hz]
  |some b=>
   by_cases h0:la=0\/lb=0\/size=0
   ·simp[run_underlying ht,hz,h0]
   ·obtain⟨hne,⟨arr,E,fr,h1,h2⟩,arr',E',h3,h4⟩:=hab a b rfl rfl (by omega) (by omega)
    have hnb:(a.block !=b.block)=true:=by simpa using hne
    have hnb':(a.block==b.block)=false:=by simpa using hne
    have hsa:w.shape? a.block=some (E,arr.size):=by simp[World.shape?,h1]
    have hsb:w.shape? b.block=some (E',arr'.size):=by simp[World.shape?,h3]
    have hfb:w.frozen? b=false:=by simp[World.frozen?,h3]
    have hfe:w.frozen? {block:=b.block,off:=arr'.size}=false:=by simp[World.frozen?,h3]
    obtain⟨m,hm⟩:∃m,arr.size=m+1:=⟨arr.size -1,by omega⟩
    obtain⟨m',hm'⟩:∃m,arr'.size=m+1:=⟨arr'.size -1,by omega⟩
    rw[hm] at hsa
    rw[hm'] at hsb hfe
    cases hfa:w.frozen? a
    ·cases hfx:w.frozen? {block:=a.block,off:=m+1}<;>
     simp[run_underlying ht,hz,h0,hnb,hnb',frozen,noView,viewAt,mayBeOne,stringish,shape,Sem.run,hsa,hsb,hfa,hfb,hfe,hfx]
    ·simp[run_underlying ht,hz,h0,hnb,hnb',frozen,noView,viewAt,mayBeOne,stringish,shape,Sem.run,hsa,hsb,hfa,hfb,hfe]
theorem Zbz {f : FuncId} {fn : Func} {tS tR : TypeId} {k : Nat} (hf : P.funcs[f]? = some fn) (hnm : (fn.name == "runtime.NumGoroutine") = false) (hb : fn.body.isNone = true) (hn : (Extern.findNext fn).isNone = true) (hp : fn.params = #[tS, tS]) (hr : fn.resultTypes = #[tR])
  (he:Extern.find fn=some (Extern.SlicesOverlaps.overlaps fn.params fn.resultTypes)) (ht:ZL P tS=some k) (t:Bool) (la:Nat) (c:AV) (cs:List AV) (id ver off lb:Nat) {x:ABlk} (hx:h[id]? =some x) (hver:(blkCells x).map (·.1)=some ver) (hk0:0<k) (Q:AV->Za->Prop) (hq:Q (.val (.bool false)) h) (hvb:ver<bigV:=by decide):
  AInv P (.fn f []) [.sl t la (c::cs),.own id ver off lb k] h Q:=by
 obtain⟨e,hte,hke⟩:=ZaN ht
 refine .inr λZ κ w cargs r hr'=> ?_
 cases hr' with
 |cons h1 h2=>
  rename_i v1 vs1
  cases h2 with
  |cons h2 h3=>
   rename_i v2 vs2
   cases h3
   obtain⟨⟨ver',cs'⟩,hc,hv⟩:=Option.map_eq_some_iff.1 hver
   simp only at hv
   subst hv
   have hfn:Extern.findNext fn=none:=Option.isNone_iff_eq_none.1 hn
   have main:∃A B ca cb,v1= .slice A la ca/\v2= .slice B lb cb/\∀a b,A=some a->B=some b->0<la->0<lb->a.block≠b.block/\(∃(arr:Array Value) (E:TypeId) (fr:Nat×Nat),w.heap[a.block]? =some (.cells arr E fr)/\0<arr.size)/\∃(arr:Array Value) (E:TypeId),w.heap[b.block]? =some (.cells arr E (0,0))/\0<arr.size:=by
    cases h1 with
    |sl g1 g2 g3 g4 g5 g6 g7=>
     rename_i a ca us
     rcases own_slice2 r h2 hx hc with⟨_,A,_,rfl,_,h0,_⟩|⟨b,sz,arr,E,us',cap,a2,e1,rfl,e3,e4,e5,e6,e7,e8,e9,_⟩
     ·exact⟨some a,A,ca,0,rfl,by rw[h0],λa b _ _ _ hlb=>by omega⟩
     ·refine⟨some a,some a2,ca,cap,rfl,rfl,λa' b' ha hb' hla hlb=> ?_⟩
      injection ha with ha;injection hb' with hb'
      subst ha hb'
      have e6':=e6 (by omega)
      subst e6'
      refine⟨λeb=>r.za _ g5 ⟨id,ver',sz,by rw[e1,eb]⟩,?_,arr,E,e8.strict hvb,?_⟩
      ·cases g7 with
       |cons q1 q2=>
        have:=g6 0 _ rfl
        have hadd:(a.add 0)=a:=by simp[Addr.add]
        rw[hadd] at this
        unfold World.cell? at this
        split at this
        ·rename_i c' E' fr' hh
         refine⟨c',E',fr',hh,?_⟩
         split at this
         ·cases this
         ·exact Nat.lt_of_le_of_lt (Nat.zero_le _) (Array.getElem?_eq_some_iff.1 this).1
        ·cases this
      ·rw[e9,<-e4]
       exact Nat.mul_pos (by omega) hk0
   obtain⟨A,B,ca,cb,rfl,rfl,hm⟩:=main
   refine⟨.val (.bool false),h,Z,κ,.bool false,w,hq,?_,r,.val rfl,.refl _ _ _,.refl _ _⟩
   have ho:=Zlr (P:=P) (w:=w) (tR:=tR) hte hke A B la ca lb cb hm
   unfold callFunc
   simp only[Sem.run_bind,run_program,Result.andThen_ok,hf,hnm,hb,Bool.false_eq_true,if_false,if_true,hfn,he,hp,hr]
   simp[mark,Sem.run,ho]
@[simp] theorem cellsOf_mp (id:Nat):cellsOf (.mp id)=some [.mp id]:=rfl
@[simp] theorem cellsOf_fmap (ks vs:List AV):cellsOf (.fmap ks vs)=some [.fmap ks vs]:=rfl
@[simp] theorem isOne_mp (id:Nat):Zy (.mp id)=true:=rfl
@[simp] theorem isOne_fmap (ks vs:List AV):Zy (.fmap ks vs)=true:=rfl
def getM (m:List (Int×Int)) (k:Int):Int:=((m.find? λp=>decide (p.1=k)).map (·.2)).getD 0
def hasM (m:List (Int×Int)) (k:Int):Bool:=m.any λp=>decide (p.1=k)
def setM (m:List (Int×Int)) (k x:Int):List (Int×Int):=match m.findIdx? (λp=>decide (p.1=k)) with
 |some j=>m.set j (k,x)
 |none=>m++[(k,x)]
abbrev mKs (m:List (Int×Int)):List AV:=m.map λp=> .val (.int .i64 p.1)
abbrev mVs (m:List (Int×Int)):List AV:=m.map λp=> .val (.int .i64 p.2)
theorem ZiQ (m:List (Int×Int)) (k:Int):afind (.int .i64) (.int .i64 k) (mKs m)=some (m.findIdx? λp=>decide (p.1=k)):=by
 induction m with
 |nil=>rfl
 |cons p m ih=>
  simp only[List.map_cons,afind,Instr.sameNow,List.findIdx?_cons]
  by_cases hk:k=p.1
  ·subst hk;simp
  ·have:¬p.1=k:=λe=>hk e.symm
   have hb:(k==p.1)=false:=by simpa using hk
   simp[hb,this,ih]
theorem findIdx_spec (m:List (Int×Int)) (k:Int):(m.findIdx? (λp=>decide (p.1=k))=none/\hasM m k=false/\getM m k=0)\/∃j v,m.findIdx? (λp=>decide (p.1=k))=some j/\m[j]? =some (k,v)/\hasM m k=true/\getM m k=v:=by
 induction m with
 |nil=>exact .inl ⟨rfl,rfl,rfl⟩
 |cons p m ih=>
  by_cases hk:p.1=k
  ·refine .inr ⟨0,p.2,by simp[List.findIdx?_cons,hk],by simp[<-hk],by simp[hasM,hk],by simp[getM,hk]⟩
  ·rcases ih with⟨h1,h2,h3⟩|⟨j,v,h1,h2,h3,h4⟩
   ·exact .inl ⟨by simp[List.findIdx?_cons,hk,h1],by simpa[hasM,hk] using h2,by simpa[getM,hk] using h3⟩
   ·exact .inr ⟨j+1,v,by simp[List.findIdx?_cons,hk,h1],by simpa using h2,by simpa[hasM,hk] using h3,by simpa[getM,hk] using h4⟩
@[simp high] theorem ZqD (m:List (Int×Int)) (k:Int):Zqm (.int .i64) (.int .i64 k) (some (.val (.int .i64 0))) (mKs m,mVs m)=some (.val (.int .i64 (getM m k)),hasM m k):=by
 unfold Zqm
 rw[ZiQ]
 rcases findIdx_spec m k with⟨h1,h2,h3⟩|⟨j,v,h1,h2,h3,h4⟩
 ·rw[h1,h2,h3];rfl
 ·rw[h1,h3,h4];simp[h2]
@[simp high] theorem insMap_ints (m:List (Int×Int)) (k x:Int):ZkS (.int .i64) (.int .i64 k) (.val (.int .i64 x)) (mKs m) (mVs m)=some (.map (mKs (setM m k x)) (mVs (setM m k x))):=by
 unfold ZkS setM
 rw[ZiQ]
 rcases findIdx_spec m k with⟨h1,h2,h3⟩|⟨j,v,h1,h2,h3,h4⟩
 ·rw[h1];simp
 ·rw[h1]
  simp only[Option.some.injEq,ABlk.map.injEq]
  refine⟨?_,by simp only[mVs,List.map_set]⟩
  have hj:=(List.getElem?_eq_some_iff.1 h2).1
  simp only[mKs,List.map_set]
  apply List.ext_getElem?
  intro i
  rw[List.getElem?_set]
  split
  ·rename_i hij
   subst hij
   have e:m[j]=(k,v):=by rw[List.getElem?_eq_getElem hj] at h2;injection h2
   simp[hj,e]
  ·rfl
@[simp high] theorem lookV_ints0 (k:Int):Zqm (.int .i64) (.int .i64 k) (some (.val (.int .i64 0))) ([],[])=some (.val (.int .i64 0),false):=ZqD [] k
theorem ZdS (m:List (Int×Int)) (k x q:Int):getM (setM m k x) q=if q=k then x else getM m q:=by
 induction m with
 |nil=>
  simp only[setM,List.findIdx?_nil,List.nil_append,getM,List.find?_cons,List.find?_nil]
  by_cases h:q=k
  ·subst h;simp
  ·have:¬k=q:=λe=>h e.symm
   simp[h,this]
 |cons p m ih=>
  unfold setM at ih⊢
  rw[List.findIdx?_cons]
  by_cases hp:p.1=k
  ·simp only[hp,decide_true,if_true,List.set_cons_zero]
   unfold getM
   by_cases h:q=k
   ·subst h;simp
   ·have h':¬k=q:=λe=>h e.symm
    simp[h,h',hp]
  ·simp only[hp,decide_false,Bool.false_eq_true,if_false]
   cases hf:m.findIdx? (λp=>decide (p.1=k)) with
   |none=>
    rw[hf] at ih
    simp only[Option.map_none,List.cons_append] at ih⊢
    unfold getM at ih⊢
    by_cases h:p.1=q
    ·have:¬q=k:=λe=>hp (h.trans e)
     simp[h,this]
    ·simp only[List.find?_cons,h,decide_false];exact ih
   |some j=>
    rw[hf] at ih
    simp only[Option.map_some,List.set_cons_succ] at ih⊢
    unfold getM at ih⊢
    by_cases h:p.1=q
    ·have:¬q=k:=λe=>hp (h.trans e)
     simp[h,this]
    ·simp only[List.find?_cons,h,decide_false];exact ih
theorem ZoQ (m:List (Int×Int)) (k x q:Int):hasM (setM m k x) q=(decide (q=k)||hasM m q):=by
 induction m with
 |nil=>simp[setM,hasM,eq_comm]
 |cons p m ih=>
  unfold setM at ih⊢
  rw[List.findIdx?_cons]
  by_cases hp:p.1=k
  ·simp only[hp,decide_true,if_true,List.set_cons_zero,hasM,List.any_cons]
   by_cases h:q=k
   ·subst h;simp
   ·have h':¬k=q:=λe=>h e.symm
    simp[h,h']
  ·simp only[hp,decide_false,Bool.false_eq_true,if_false]
   cases hf:m.findIdx? (λp=>decide (p.1=k)) with
   |none=>
    rw[hf] at ih
    simp only[Option.map_none,List.cons_append] at ih⊢
    simp only[hasM,List.any_cons] at ih⊢
    rw[ih];simp only[Bool.or_left_comm]
   |some j=>
    rw[hf] at ih
    simp only[Option.map_some,List.set_cons_succ] at ih⊢
    simp only[hasM,List.any_cons] at ih⊢
    rw[ih];simp only[Bool.or_left_comm]
@[simp] theorem evCall_max (P:Program) (h:Za) (t t' ty:TypeId) (cs:Array Bool) (k:IntKind) (a b:Int):ZaJ P h .max [t,t'] ty cs [.val (.int k a),.val (.int k b)]=some (.val (.int k (max a b)),h):=by
 have e:(if b>a then b else a)=max a b:=by split<;>omega
 simp only[ZaJ,Zcb,List.mapM_cons,List.mapM_nil,conc,builtin,Builtin.max_]
 simp[Builtin.max2,e,ofV,Zaj]
@[simp] theorem evCall_min (P:Program) (h:Za) (t t' ty:TypeId) (cs:Array Bool) (k:IntKind) (a b:Int):ZaJ P h .min [t,t'] ty cs [.val (.int k a),.val (.int k b)]=some (.val (.int k (min a b)),h):=by
 have e:(if b<a then b else a)=min a b:=by split<;>omega
 simp only[ZaJ,Zcb,List.mapM_cons,List.mapM_nil,conc,builtin,Builtin.min_]
 simp[Builtin.min2,e,ofV,Zaj]
theorem optBif {c:Prop} [Decidable c] {a:AV×Za} {K:AV->Za->Prop} (hc:c) (hk:K a.1 a.2):optB (if c then some a else none) K:=by rw[if_pos hc];exact hk
def putL {α:Type} (l:List α) (i:Nat) (m:List α):List α:=l.take i++m++l.drop (i+m.length)
theorem ZQ {α:Type} {enc:α->List AV} {k:Nat} (h:∀a,(enc a).length=k) (l:List α) (i:Nat) (m:List α):putAt (l.flatMap enc) (i*k) (m.flatMap enc)=(putL l i m).flatMap enc:=by
 unfold putAt putL
 rw[Zad h,<-Nat.add_mul,ZbI h,Zba h]
 simp
theorem ZaA {α:Type} {enc:α->List AV} {k:Nat} (h:∀a,(enc a).length=k) (l:List α) (i:Nat) (x:α) (hi:i<l.length):setMany (l.flatMap enc) (i*k) (enc x)=(l.set i x).flatMap enc:=by
 have hl:i*k+k<=l.length*k:=by rw[<-Nat.succ_mul];exact Nat.mul_le_mul_right _ hi
 rw[ZcC _ _ _ (by rw[h,Zad h];exact hl)]
 have:=ZQ h l i [x]
 simp only[List.flatMap_cons,List.flatMap_nil,List.append_nil] at this
 rw[this]
 congr 1
 unfold putL
 rw[List.set_eq_take_append_cons_drop,if_pos hi]
 simp
theorem split2 {L:List AV} {a n:Nat} (hl:L.length=n) (ha:a<=n):L=L.take a++L.drop a/\(L.take a).length=a/\(L.drop a).length=n -a:=
 ⟨(List.take_append_drop a L).symm,by simp;omega,by simp;omega⟩
theorem ZdT {L A X:List AV} {a k n:Nat} (hl:L.length=n) (ha:a<=n) (hx:X.length=k) (hA:k<=A.length):
  (putAt (putAt (L++A) (a+k) (((L++A).drop a).take (n -a))) a X).take (n+k)=L.take a++X++L.drop a:=by
 obtain⟨h1,h2,h3⟩:=split2 hl ha
 generalize L.take a=P at*
 generalize L.drop a=Q at*
 subst h1
 have e1:(P++Q++A).drop a=Q++A:=by rw[List.append_assoc,List.drop_left' h2]
 have e2:(Q++A).take (n -a)=Q:=by rw[List.take_left' h3]
 rw[e1,e2]
 obtain⟨B,hB⟩:∃B,B=(P++Q++A).take (a+k):=⟨_,rfl⟩
 have e3:putAt (P++Q++A) (a+k) Q=P++((Q++A).take k++Q++(P++Q++A).drop (a+k+Q.length)):=by
  unfold putAt
  have:(P++Q++A).take (a+k)=P++(Q++A).take k:=by
   rw[List.append_assoc,List.take_append,List.take_of_length_le (by omega)]
   congr 2;omega
  rw[this];simp[List.append_assoc]
 rw[e3]
 have e4:((Q++A).take k).length=k:=by rw[List.length_take,List.length_append];omega
 generalize(Q++A).take k=C at*
 generalize(P++Q++A).drop (a+k+Q.length)=D
 unfold putAt
 rw[List.take_left' h2,hx]
 have e5:(P++(C++Q++D)).drop (a+k)=Q++D:=by
  have:P++(C++Q++D)=(P++C)++(Q++D):=by simp[List.append_assoc]
  rw[this,List.drop_left' (by simp;omega)]
 rw[e5]
 have:P++X++(Q++D)=(P++X++Q)++D:=by simp[List.append_assoc]
 rw[this,List.take_left' (by simp;omega)]
theorem ZdU {L A X Z:List AV} {a k n:Nat} (hl:L.length=n) (ha:a<=n) (hx:X.length=k) (hz:Z.length=n+k -a):
  putAt (putAt ((L++A).take a++Z) a X) (a+k) (((L++A).drop a).take (n -a))=L.take a++X++L.drop a:=by
 obtain⟨h1,h2,h3⟩:=split2 hl ha
 have e0:(L++A).take a=L.take a:=by rw[List.take_append_of_le_length (by omega)]
 rw[e0]
 generalize L.take a=P at*
 generalize L.drop a=Q at*
 subst h1
 have e1:(P++Q++A).drop a=Q++A:=by rw[List.append_assoc,List.drop_left' h2]
 have e2:(Q++A).take (n -a)=Q:=by rw[List.take_left' h3]
 rw[e1,e2]
 have e3:putAt (P++Z) a X=P++X++Z.drop k:=by
  unfold putAt
  rw[List.take_left' h2,hx,show a+k=P.length+k by omega,List.drop_append]
  simp
 rw[e3]
 unfold putAt
 have e4:(P++X++Z.drop k).take (a+k)=P++X:=by rw[List.take_left' (by simp;omega)]
 rw[e4,List.drop_eq_nil_of_le (by simp;omega)]
 simp
def insL {α:Type} (l:List α) (i:Nat) (x:α):List α:=l.take i++x::l.drop i
theorem ZcH {α:Type} {enc:α->List AV} {k:Nat} (h:∀a,(enc a).length=k) (l:List α) (i:Nat) (x:α):(l.flatMap enc).take (i*k)++enc x++(l.flatMap enc).drop (i*k)=(insL l i x).flatMap enc:=by
 rw[ZbI h,Zba h];simp[insL]
@[simp] theorem insL_length {α:Type} (l:List α) (i:Nat) (x:α):(insL l i x).length=l.length+1:=by
 simp only[insL,List.length_append,List.length_cons,List.length_take,List.length_drop];omega
theorem ZdV {α:Type} (l:List α) (x:α):insL l l.length x=l++[x]:=by simp[insL]
end Go.Cx
set_option linter.unusedVariables false
set_option linter.unusedSimpArgs false
namespace Go.Cx
variable {P:Program} {lit:TypeId->Bool} {n:Nat}
class Tst (G:Prop) (p A B:outParam Prop):Prop where
 go:(p->p=True->A)->(¬p->p=False->B)->G
class TstB (G:Prop) (t:outParam Bool) (A B:outParam Prop):Prop where
 go:(t=true->t=true->A)->(t=false->t=false->B)->G
section
variable {Q:Exit->Zc->Prop} {s:Zc} {a b:Code} {p:Prop} [Decidable p] {t:Bool}
instance:Tst (Zfe P lit n a b Q s (.val (.bool (decide p)))) p (AX P lit n a Q s) (AX P lit n b Q s):=⟨ZtD⟩
instance:Tst (Zfe P lit n a b Q s (.val (.bool (!decide p)))) p (AX P lit n b Q s) (AX P lit n a Q s):=⟨λh1 h2=>Zqx h2 h1⟩
instance:TstB (Zfe P lit n a b Q s (.val (.bool t))) t (AX P lit n a Q s) (AX P lit n b Q s):=⟨condK_b⟩
instance:TstB (Zfe P lit n a b Q s (.val (.bool (!t)))) t (AX P lit n b Q s) (AX P lit n a Q s):=⟨λh1 h2=>ZwO h2 h1⟩
end
section
variable {o:Oper} {s:Zc} {K:Zc->Prop} {i:Nat} {want:Bool} {p:Prop} [Decidable p] {t:Bool}
instance:Tst (gdK P lit o s i want K (.val (.bool (decide p)))) p (gdK P lit o s i want K (.val (.bool true))) (gdK P lit o s i want K (.val (.bool false))):=⟨gdK_dec⟩
instance:Tst (gdK P lit o s i want K (.val (.bool (!decide p)))) p (gdK P lit o s i want K (.val (.bool false))) (gdK P lit o s i want K (.val (.bool true))):=⟨ZwP⟩
instance:TstB (gdK P lit o s i want K (.val (.bool t))) t (gdK P lit o s i want K (.val (.bool true))) (gdK P lit o s i want K (.val (.bool false))):=⟨gdK_b⟩
instance:TstB (gdK P lit o s i want K (.val (.bool (!t)))) t (gdK P lit o s i want K (.val (.bool false))) (gdK P lit o s i want K (.val (.bool true))):=⟨λh1 h2=>gdK_nb h2 h1⟩
end
section
variable {D:List Nat} {cc:CC} {k:Nat} {o:Oper} {s:Zc} {K:Zc->Prop} {i:Nat} {want:Bool} {p:Prop} [Decidable p] {t:Bool}
instance:Tst (gdD P lit D cc k o s i want K (.val (.bool (decide p)))) p (gdD P lit D cc k o s i want K (.val (.bool true))) (gdD P lit D cc k o s i want K (.val (.bool false))):=⟨gdD_dec⟩
instance:Tst (gdD P lit D cc k o s i want K (.val (.bool (!decide p)))) p (gdD P lit D cc k o s i want K (.val (.bool false))) (gdD P lit D cc k o s i want K (.val (.bool true))):=⟨ZwQ⟩
instance:TstB (gdD P lit D cc k o s i want K (.val (.bool t))) t (gdD P lit D cc k o s i want K (.val (.bool true))) (gdD P lit D cc k o s i want K (.val (.bool false))):=⟨gdD_b⟩
instance:TstB (gdD P lit D cc k o s i want K (.val (.bool (!t)))) t (gdD P lit D cc k o s i want K (.val (.bool false))) (gdD P lit D cc k o s i want K (.val (.bool true))):=⟨λh1 h2=>gdD_nb h2 h1⟩
end
class Nw (p:Prop) (q:outParam Prop):Prop where
 nw:p->q
instance {a b:Int}:Nw (¬a<b) (b<=a):=⟨Int.not_lt.1⟩
instance {a b:Int}:Nw (¬a<=b) (b<a):=⟨Int.not_le.1⟩
instance {a b:Nat}:Nw (¬a<b) (b<=a):=⟨Nat.not_lt.1⟩
instance {a b:Nat}:Nw (¬a<=b) (b<a):=⟨Nat.not_le.1⟩
instance {a b:Int}:Nw (a<b) (¬b<=a):=⟨Int.not_le.2⟩
instance {a b:Int}:Nw (a<=b) (¬b<a):=⟨Int.not_lt.2⟩
instance {a b:Nat}:Nw (a<b) (¬b<=a):=⟨Nat.not_le.2⟩
instance {a b:Nat}:Nw (a<=b) (¬b<a):=⟨Nat.not_lt.2⟩
class Pc (G:Prop) (P:outParam Program) (f:outParam FuncId) (cap args:outParam (List AV)) (h:outParam Za) (K:outParam (AV->Za->Prop)):Prop where
 go:∀{args':List AV} {v:AV},Zb P f args' v->args++cap=args'->K v h->G
class Lc (G:Prop) (P:outParam Program) (f:outParam FuncId) (cap args:outParam (List AV)) (h:outParam Za) (K:outParam (AV->Za->Prop)):Prop where
 go:∀{args':List AV} {v:AV},Zb P f args' v->Zds v=true->(args++cap).mapM (frz h 0 12)=some args'->K v h->G
section
variable {f:FuncId} {cap args:List AV} {h:Za} {K:AV->Za->Prop} {D:List Nat}
instance:Pc (AInv P (.fn f cap) args h K) P f cap args h K:=⟨AInv.pure⟩
instance:Pc (ADcall P D .t (.fn f cap) args h K) P f cap args h K:=⟨λhp ha hk=>ADcall.pure hp ha hk⟩
instance:Lc (AInv P (.fn f cap) args h K) P f cap args h K:=⟨AInv.lend⟩
instance:Lc (ADcall P [] .q (.fn f cap) args h K) P f cap args h K:=⟨λhp hm ha hk=>ADcall.lend hp hm ha hk⟩
end
end Go.Cx
set_option linter.unusedVariables false
set_option linter.unusedSimpArgs false
namespace Go.Cx
variable {P:Program} {Z:Nat->Prop} {κ:Nat->Slot} {h:Za} {w:World}
theorem Zls {κ':Nat->Slot} {w':World}:∀{cs:List AV} {us:List Value} (j:Nat) (a:AV),Rs Z w κ' cs us->(∀u,us[j]? =some u->R Z w κ' a u)->Rs Z w κ' (cs.set j a) us
 |_,_,j,a,.nil,_=>by simp[Rs.nil]
 |_,_,0,a,.cons h1 h2,hr=> .cons (hr _ rfl) h2
 |_,_,j+1,a,.cons h1 h2,hr=> .cons h1 (Zls (w':=w') j a h2 λu hu=>hr u (by simpa using hu))
theorem Wk.ownNilCell {n:Nat} {s:Zc} (id ver j k:Nat) {cs:List AV} (hx:s.h[id]? =some (.cells ver cs)) (hj:cs[j]? =some (.sl true 0 [])):
  Wk n s ⟨s.N,s.T,(s.h.set id (.cells ver (cs.set j (.own s.h.length 0 0 0 k))))++[.cells 0 []]⟩:=by
 intro Z κ a w r hn
 have hidl:=(List.getElem?_eq_some_iff.1 hx).1
 have hh:=r.rel.hole s.h.length (Nat.le_refl _)
 have hs:Zq κ (upd κ s.h.length (.live 0 none 0)):= .upd (.inl hh)
 have hal:∀b,ZT (upd κ s.h.length (.live 0 none 0)) b->ZT κ b:=by
  rintro b ⟨id,ver,sz,hk⟩
  by_cases hid:id=s.h.length
  ·subst hid;rw[Zk] at hk;cases hk
  ·rw[Zr _ _ hid] at hk;exact⟨id,ver,sz,hk⟩
 have e:Ext Z κ w Z (upd κ s.h.length (.live 0 none 0)) w:=⟨rfl,rfl,rfl,Nat.le_refl _,λ_ _ _=>rfl,λ_ h=>h,λ_ h=> .inl h,λb ha=> .inl (hal b ha)⟩
 refine⟨_,⟨⟨r.rel.zlt,λb hz ha=>r.rel.za b hz (hal b ha),λid' hid'=> ?_,λid' x hx'=> ?_,?_⟩,r.size,λj=>(r.tmps j).ext r.rel e hs,r.defers⟩,e,hs.lt r.rel hn,by simp;omega⟩
 ·simp at hid'
  rw[Zr _ _ (by omega)];exact r.rel.hole id' (by omega)
 ·by_cases hid:id'=s.h.length
  ·subst hid
   simp at hx'
   subst hx'
   exact⟨none,0,Zk _ _ _,rfl⟩
  ·have hlt:id'<s.h.length:=by
    have:=(List.getElem?_eq_some_iff.1 hx').1
    simp at this;omega
   rw[List.getElem?_append_left (by simpa using hlt)] at hx'
   by_cases hii:id'=id
   ·subst hii
    rw[List.getElem?_set_self hidl] at hx'
    injection hx' with hx'
    subst hx'
    obtain⟨ob,sz,h1,h2⟩:=r.rel.blk id' _ hx
    refine⟨ob,sz,by rw[Zr _ _ hid];exact h1,?_⟩
    cases ob with
    |none=>subst h2;simp at hj
    |some b=>
     obtain⟨c,E,us,h3,h4,h5,h6,h7⟩:=h2
     refine⟨c,E,us,h3,h4,h5,h6,Zls (w':=w) j _ (h7.ext r.rel e hs) λu hu=> ?_⟩
     obtain⟨u',hu',hr⟩:=h7.get j _ hj
     rw[hu] at hu'
     injection hu' with hu'
     subst hu'
     cases hr with
     |sl0 h2 h3=>
      have h0:=h2 rfl
      subst h0
      refine .own (Nat.le_refl _) h3 (by simp) ?_
      simp[ZV,Zk,Zdm]
     |sl h2=>omega
   ·rw[List.getElem?_set_ne (Ne.symm hii)] at hx'
    exact(r.rel.blk id' x hx').ext r.rel e hs (Zr _ _ hid) λ_ _ _ _=>rfl
 ·intro id id' ver ver' b sz sz' h1 h2
  by_cases hid:id=s.h.length
  ·subst hid;rw[Zk] at h1;cases h1
  ·by_cases hid':id'=s.h.length
   ·subst hid';rw[Zk] at h2;cases h2
   ·rw[Zr _ _ hid] at h1;rw[Zr _ _ hid'] at h2
    exact r.rel.inj _ _ _ _ _ _ _ h1 h2
theorem AW.seqA {lit:TypeId->Bool} {n:Nat} {x y:Code} {Q:Exit->Zc->Prop} {s:Zc} (hx:AX P lit n x (Zfb (AW P n y Q) Q) s):AW P n (.seq x y) Q s:=λZ κ a w r hn=>by
 refine wp_seq (wp_mono (Zck x _ s hx Z κ a w r hn) λe a' w' ha=> ?_)
 cases e with
 |normal=>
  obtain⟨s',Z',κ',hq,r',ex,st,hn'⟩:=ha
  exact wp_mono (hq Z' κ' a' w' r' hn') λe2 a2 w2 h2=>h2.trans ex st
 |exit id=>exact ha
 |goto l=>exact ha
 |ret=>exact ha
 |panic ch=>exact ha
 |outgrown=>exact ha
theorem AW.loopGW {α:Type} {n:Nat} {c:Code} {Q:Exit->Zc->Prop} {s:Zc} (S:α->Zc) (μ:α->Nat) (good:α->Prop) (x0:α) (h0:Wk n s (S x0)) (g0:good x0)
  (hr:∀x,good x->∀A:Zc->Prop,(∀x' s',Wk n s' (S x')->good x'->μ x'<μ x->A s')->AW P n c (Zfb A Q) (S x)):AW P n (.loop c) Q s:=
 AW.loopFW S μ good x0 h0 g0 (λx hx=>hr x hx _ λx' s' h1 h2 h3=>⟨x',h1,h2,h3⟩)
end Go.Cx
namespace Go.Cx
@[simp high] theorem sets_CallR {l:List Zj} {i:Nat} (h:i<l.length) (x:Zj):setMany (l.flatMap Zj.enc) (i*8) x.enc=(l.set i x).flatMap Zj.enc:=ZaA (enc:=Zj.enc) (k:=8) (λ_=>rfl) l i x h
@[simp high] theorem puts_CallR (l:List Zj) (i:Nat) (m:List Zj):putAt (l.flatMap Zj.enc) (i*8) (m.flatMap Zj.enc)=(putL l i m).flatMap Zj.enc:=ZQ (enc:=Zj.enc) (k:=8) (λ_=>rfl) l i m
@[simp high] theorem hd0_CallR (c:Zj):(c.enc).head? =some (I c.kind)/\c.enc[0]? =some (I c.kind)/\c.enc[1]? =some (I c.ino)/\c.enc[2]? =some (I c.to_)/\c.enc[3]? =some (I c.at_)/\c.enc[4]? =some (I c.many)/\c.enc[5]? =some (S c.name)/\c.enc[6]? =some (S c.name2)/\c.enc[7]? =some (S c.text)/\setMany [AV.val (Value.int IntKind.i64 0),AV.val (Value.int IntKind.i64 0),AV.val (Value.int IntKind.i64 0),AV.val (Value.int IntKind.i64 0),AV.val (Value.int IntKind.i64 0),AV.val (Value.string ByteArray.empty),AV.val (Value.string ByteArray.empty),AV.val (Value.string ByteArray.empty)] 0 c.enc=c.enc:=⟨rfl,rfl,rfl,rfl,rfl,rfl,rfl,rfl,rfl,rfl⟩
@[simp high] theorem sets_ReplyR {l:List ReplyR} {i:Nat} (h:i<l.length) (x:ReplyR):setMany (l.flatMap ReplyR.enc) (i*6) x.enc=(l.set i x).flatMap ReplyR.enc:=ZaA (enc:=ReplyR.enc) (k:=6) (λ_=>rfl) l i x h
@[simp high] theorem puts_ReplyR (l:List ReplyR) (i:Nat) (m:List ReplyR):putAt (l.flatMap ReplyR.enc) (i*6) (m.flatMap ReplyR.enc)=(putL l i m).flatMap ReplyR.enc:=ZQ (enc:=ReplyR.enc) (k:=6) (λ_=>rfl) l i m
@[simp high] theorem hd0_ReplyR (c:ReplyR):(c.enc).head? =some (I c.e)/\c.enc[0]? =some (I c.e)/\c.enc[1]? =some (I c.a)/\c.enc[2]? =some (I c.b)/\c.enc[3]? =some (I c.n)/\c.enc[4]? =some (S c.text)/\c.enc[5]? =some (enc1 S c.names)/\setMany [AV.val (Value.int IntKind.i64 0),AV.val (Value.int IntKind.i64 0),AV.val (Value.int IntKind.i64 0),AV.val (Value.int IntKind.i64 0),AV.val (Value.string ByteArray.empty),AV.sl true 0 []] 0 c.enc=c.enc:=⟨rfl,rfl,rfl,rfl,rfl,rfl,rfl,rfl⟩
@[simp high] theorem sets_EntryR {l:List EntryR} {i:Nat} (h:i<l.length) (x:EntryR):setMany (l.flatMap EntryR.enc) (i*2) x.enc=(l.set i x).flatMap EntryR.enc:=ZaA (enc:=EntryR.enc) (k:=2) (λ_=>rfl) l i x h
@[simp high] theorem puts_EntryR (l:List EntryR) (i:Nat) (m:List EntryR):putAt (l.flatMap EntryR.enc) (i*2) (m.flatMap EntryR.enc)=(putL l i m).flatMap EntryR.enc:=ZQ (enc:=EntryR.enc) (k:=2) (λ_=>rfl) l i m
@[simp high] theorem hd0_EntryR (c:EntryR):(c.enc).head? =some (S c.name)/\c.enc[0]? =some (S c.name)/\c.enc[1]? =some (I c.ino)/\setMany [AV.val (Value.string ByteArray.empty),AV.val (Value.int IntKind.i64 0)] 0 c.enc=c.enc:=⟨rfl,rfl,rfl,rfl⟩
theorem ZiR (l:List EntryR) (i:Nat) (x:EntryR):(l.flatMap EntryR.enc).take (i*2)++x.enc++(l.flatMap EntryR.enc).drop (i*2)=(insL l i x).flatMap EntryR.enc:=ZcH (enc:=EntryR.enc) (k:=2) (λ_=>rfl) l i x
@[simp high] theorem sets_NodeR {l:List NodeR} {i:Nat} (h:i<l.length) (x:NodeR):setMany (l.flatMap NodeR.enc) (i*5) x.enc=(l.set i x).flatMap NodeR.enc:=ZaA (enc:=NodeR.enc) (k:=5) (λ_=>rfl) l i x h
@[simp high] theorem puts_NodeR (l:List NodeR) (i:Nat) (m:List NodeR):putAt (l.flatMap NodeR.enc) (i*5) (m.flatMap NodeR.enc)=(putL l i m).flatMap NodeR.enc:=ZQ (enc:=NodeR.enc) (k:=5) (λ_=>rfl) l i m
@[simp high] theorem hd0_NodeR (c:NodeR):(c.enc).head? =some (I c.ino)/\c.enc[0]? =some (I c.ino)/\c.enc[1]? =some (I c.kind)/\c.enc[2]? =some (I c.links)/\c.enc[3]? =some (S c.text)/\c.enc[4]? =some (encL EntryR.enc c.l)/\setMany [AV.val (Value.int IntKind.i64 0),AV.val (Value.int IntKind.i64 0),AV.val (Value.int IntKind.i64 0),AV.val (Value.string ByteArray.empty),AV.sl true 0 []] 0 c.enc=c.enc:=⟨rfl,rfl,rfl,rfl,rfl,rfl,rfl⟩
theorem Zlt (l:List NodeR) (i:Nat) (x:NodeR):(l.flatMap NodeR.enc).take (i*5)++x.enc++(l.flatMap NodeR.enc).drop (i*5)=(insL l i x).flatMap NodeR.enc:=ZcH (enc:=NodeR.enc) (k:=5) (λ_=>rfl) l i x
@[simp high] theorem sets_FSR {l:List FSR} {i:Nat} (h:i<l.length) (x:FSR):setMany (l.flatMap FSR.enc) (i*2) x.enc=(l.set i x).flatMap FSR.enc:=ZaA (enc:=FSR.enc) (k:=2) (λ_=>rfl) l i x h
@[simp high] theorem puts_FSR (l:List FSR) (i:Nat) (m:List FSR):putAt (l.flatMap FSR.enc) (i*2) (m.flatMap FSR.enc)=(putL l i m).flatMap FSR.enc:=ZQ (enc:=FSR.enc) (k:=2) (λ_=>rfl) l i m
@[simp high] theorem hd0_FSR (c:FSR):(c.enc).head? =some (encL NodeR.enc c.l)/\c.enc[0]? =some (encL NodeR.enc c.l)/\c.enc[1]? =some (I c.next)/\setMany [AV.sl true 0 [],AV.val (Value.int IntKind.i64 0)] 0 c.enc=c.enc:=⟨rfl,rfl,rfl,rfl⟩
@[simp high] theorem sets_ChangeR {l:List ChangeR} {i:Nat} (h:i<l.length) (x:ChangeR):setMany (l.flatMap ChangeR.enc) (i*7) x.enc=(l.set i x).flatMap ChangeR.enc:=ZaA (enc:=ChangeR.enc) (k:=7) (λ_=>rfl) l i x h
@[simp high] theorem puts_ChangeR (l:List ChangeR) (i:Nat) (m:List ChangeR):putAt (l.flatMap ChangeR.enc) (i*7) (m.flatMap ChangeR.enc)=(putL l i m).flatMap ChangeR.enc:=ZQ (enc:=ChangeR.enc) (k:=7) (λ_=>rfl) l i m
@[simp high] theorem hd0_ChangeR (c:ChangeR):(c.enc).head? =some (I c.ino)/\c.enc[0]? =some (I c.ino)/\c.enc[1]? =some (B c.gone)/\c.enc[2]? =some (I c.node.ino)/\c.enc[3]? =some (I c.node.kind)/\c.enc[4]? =some (I c.node.links)/\c.enc[5]? =some (S c.node.text)/\c.enc[6]? =some (encL EntryR.enc c.node.l)/\setMany [AV.val (Value.int IntKind.i64 0),AV.val (Value.bool false),AV.val (Value.int IntKind.i64 0),AV.val (Value.int IntKind.i64 0),AV.val (Value.int IntKind.i64 0),AV.val (Value.string ByteArray.empty),AV.sl true 0 []] 0 c.enc=c.enc/\(c.enc.drop 2).take 5=c.node.enc:=⟨rfl,rfl,rfl,rfl,rfl,rfl,rfl,rfl,rfl,rfl⟩
@[simp high] theorem sets_VerR {l:List VerR} {i:Nat} (h:i<l.length) (x:VerR):setMany (l.flatMap VerR.enc) (i*7) x.enc=(l.set i x).flatMap VerR.enc:=ZaA (enc:=VerR.enc) (k:=7) (λ_=>rfl) l i x h
@[simp high] theorem puts_VerR (l:List VerR) (i:Nat) (m:List VerR):putAt (l.flatMap VerR.enc) (i*7) (m.flatMap VerR.enc)=(putL l i m).flatMap VerR.enc:=ZQ (enc:=VerR.enc) (k:=7) (λ_=>rfl) l i m
@[simp high] theorem hd0_VerR (c:VerR):(c.enc).head? =some (I c.stamp)/\c.enc[0]? =some (I c.stamp)/\c.enc[1]? =some (B c.gone)/\c.enc[2]? =some (I c.node.ino)/\c.enc[3]? =some (I c.node.kind)/\c.enc[4]? =some (I c.node.links)/\c.enc[5]? =some (S c.node.text)/\c.enc[6]? =some (encL EntryR.enc c.node.l)/\setMany [AV.val (Value.int IntKind.i64 0),AV.val (Value.bool false),AV.val (Value.int IntKind.i64 0),AV.val (Value.int IntKind.i64 0),AV.val (Value.int IntKind.i64 0),AV.val (Value.string ByteArray.empty),AV.sl true 0 []] 0 c.enc=c.enc/\(c.enc.drop 2).take 5=c.node.enc:=⟨rfl,rfl,rfl,rfl,rfl,rfl,rfl,rfl,rfl,rfl⟩
@[simp high] theorem sets_ChainR {l:List ChainR} {i:Nat} (h:i<l.length) (x:ChainR):setMany (l.flatMap ChainR.enc) (i*2) x.enc=(l.set i x).flatMap ChainR.enc:=ZaA (enc:=ChainR.enc) (k:=2) (λ_=>rfl) l i x h
@[simp high] theorem puts_ChainR (l:List ChainR) (i:Nat) (m:List ChainR):putAt (l.flatMap ChainR.enc) (i*2) (m.flatMap ChainR.enc)=(putL l i m).flatMap ChainR.enc:=ZQ (enc:=ChainR.enc) (k:=2) (λ_=>rfl) l i m
@[simp high] theorem hd0_ChainR (c:ChainR):(c.enc).head? =some (I c.ino)/\c.enc[0]? =some (I c.ino)/\c.enc[1]? =some (encL VerR.enc c.l)/\setMany [AV.val (Value.int IntKind.i64 0),AV.sl true 0 []] 0 c.enc=c.enc:=⟨rfl,rfl,rfl,rfl⟩
theorem ZiS (l:List ChainR) (i:Nat) (x:ChainR):(l.flatMap ChainR.enc).take (i*2)++x.enc++(l.flatMap ChainR.enc).drop (i*2)=(insL l i x).flatMap ChainR.enc:=ZcH (enc:=ChainR.enc) (k:=2) (λ_=>rfl) l i x
@[simp high] theorem sets_CountR {l:List CountR} {i:Nat} (h:i<l.length) (x:CountR):setMany (l.flatMap CountR.enc) (i*2) x.enc=(l.set i x).flatMap CountR.enc:=ZaA (enc:=CountR.enc) (k:=2) (λ_=>rfl) l i x h
@[simp high] theorem puts_CountR (l:List CountR) (i:Nat) (m:List CountR):putAt (l.flatMap CountR.enc) (i*2) (m.flatMap CountR.enc)=(putL l i m).flatMap CountR.enc:=ZQ (enc:=CountR.enc) (k:=2) (λ_=>rfl) l i m
@[simp high] theorem hd0_CountR (c:CountR):(c.enc).head? =some (I c.stamp)/\c.enc[0]? =some (I c.stamp)/\c.enc[1]? =some (I c.next)/\setMany [AV.val (Value.int IntKind.i64 0),AV.val (Value.int IntKind.i64 0)] 0 c.enc=c.enc:=⟨rfl,rfl,rfl,rfl⟩
@[simp high] theorem sets_StoreR {l:List StoreR} {i:Nat} (h:i<l.length) (x:StoreR):setMany (l.flatMap StoreR.enc) (i*3) x.enc=(l.set i x).flatMap StoreR.enc:=ZaA (enc:=StoreR.enc) (k:=3) (λ_=>rfl) l i x h
@[simp high] theorem puts_StoreR (l:List StoreR) (i:Nat) (m:List StoreR):putAt (l.flatMap StoreR.enc) (i*3) (m.flatMap StoreR.enc)=(putL l i m).flatMap StoreR.enc:=ZQ (enc:=StoreR.enc) (k:=3) (λ_=>rfl) l i m
@[simp high] theorem hd0_StoreR (c:StoreR):(c.enc).head? =some (encL ChainR.enc c.l)/\c.enc[0]? =some (encL ChainR.enc c.l)/\c.enc[1]? =some (encL CountR.enc c.nexts)/\c.enc[2]? =some (I c.stamp)/\setMany [AV.sl true 0 [],AV.sl true 0 [],AV.val (Value.int IntKind.i64 0)] 0 c.enc=c.enc:=⟨rfl,rfl,rfl,rfl,rfl⟩
@[simp high] theorem sets_TxnR {l:List TxnR} {i:Nat} (h:i<l.length) (x:TxnR):setMany (l.flatMap TxnR.enc) (i*6) x.enc=(l.set i x).flatMap TxnR.enc:=ZaA (enc:=TxnR.enc) (k:=6) (λ_=>rfl) l i x h
@[simp high] theorem puts_TxnR (l:List TxnR) (i:Nat) (m:List TxnR):putAt (l.flatMap TxnR.enc) (i*6) (m.flatMap TxnR.enc)=(putL l i m).flatMap TxnR.enc:=ZQ (enc:=TxnR.enc) (k:=6) (λ_=>rfl) l i m
@[simp high] theorem hd0_TxnR (c:TxnR):(c.enc).head? =some (I c.stamp)/\c.enc[0]? =some (I c.stamp)/\c.enc[1]? =some (encL NodeR.enc c.was.l)/\c.enc[2]? =some (I c.was.next)/\c.enc[3]? =some (encL NodeR.enc c.now.l)/\c.enc[4]? =some (I c.now.next)/\c.enc[5]? =some (enc1 I c.looks)/\setMany [AV.val (Value.int IntKind.i64 0),AV.sl true 0 [],AV.val (Value.int IntKind.i64 0),AV.sl true 0 [],AV.val (Value.int IntKind.i64 0),AV.sl true 0 []] 0 c.enc=c.enc/\(c.enc.drop 1).take 2=c.was.enc/\(c.enc.drop 3).take 2=c.now.enc:=⟨rfl,rfl,rfl,rfl,rfl,rfl,rfl,rfl,rfl,rfl⟩
@[simp high] theorem ZvV {l:List DecisionR} {i:Nat} (h:i<l.length) (x:DecisionR):setMany (l.flatMap DecisionR.enc) (i*2) x.enc=(l.set i x).flatMap DecisionR.enc:=ZaA (enc:=DecisionR.enc) (k:=2) (λ_=>rfl) l i x h
@[simp high] theorem ZvW (l:List DecisionR) (i:Nat) (m:List DecisionR):putAt (l.flatMap DecisionR.enc) (i*2) (m.flatMap DecisionR.enc)=(putL l i m).flatMap DecisionR.enc:=ZQ (enc:=DecisionR.enc) (k:=2) (λ_=>rfl) l i m
@[simp high] theorem ZwX (c:DecisionR):(c.enc).head? =some (I c.seq)/\c.enc[0]? =some (I c.seq)/\c.enc[1]? =some (B c.yes)/\setMany [AV.val (Value.int IntKind.i64 0),AV.val (Value.bool false)] 0 c.enc=c.enc:=⟨rfl,rfl,rfl,rfl⟩
theorem Zfm (l:List DecisionR) (i:Nat) (x:DecisionR):(l.flatMap DecisionR.enc).take (i*2)++x.enc++(l.flatMap DecisionR.enc).drop (i*2)=(insL l i x).flatMap DecisionR.enc:=ZcH (enc:=DecisionR.enc) (k:=2) (λ_=>rfl) l i x
@[simp high] theorem sets_RowR {l:List RowR} {i:Nat} (h:i<l.length) (x:RowR):setMany (l.flatMap RowR.enc) (i*4) x.enc=(l.set i x).flatMap RowR.enc:=ZaA (enc:=RowR.enc) (k:=4) (λ_=>rfl) l i x h
@[simp high] theorem puts_RowR (l:List RowR) (i:Nat) (m:List RowR):putAt (l.flatMap RowR.enc) (i*4) (m.flatMap RowR.enc)=(putL l i m).flatMap RowR.enc:=ZQ (enc:=RowR.enc) (k:=4) (λ_=>rfl) l i m
@[simp high] theorem hd0_RowR (c:RowR):(c.enc).head? =some (I c.client)/\c.enc[0]? =some (I c.client)/\c.enc[1]? =some (I c.epoch)/\c.enc[2]? =some (I c.done)/\c.enc[3]? =some (encL DecisionR.enc c.l)/\setMany [AV.val (Value.int IntKind.i64 0),AV.val (Value.int IntKind.i64 0),AV.val (Value.int IntKind.i64 0),AV.sl true 0 []] 0 c.enc=c.enc:=⟨rfl,rfl,rfl,rfl,rfl,rfl⟩
theorem ZoR (l:List RowR) (i:Nat) (x:RowR):(l.flatMap RowR.enc).take (i*4)++x.enc++(l.flatMap RowR.enc).drop (i*4)=(insL l i x).flatMap RowR.enc:=ZcH (enc:=RowR.enc) (k:=4) (λ_=>rfl) l i x
@[simp high] theorem ZqE {l:List OpenR} {i:Nat} (h:i<l.length) (x:OpenR):setMany (l.flatMap OpenR.enc) (i*17) x.enc=(l.set i x).flatMap OpenR.enc:=ZaA (enc:=OpenR.enc) (k:=17) (λ_=>rfl) l i x h
@[simp high] theorem puts_OpenR (l:List OpenR) (i:Nat) (m:List OpenR):putAt (l.flatMap OpenR.enc) (i*17) (m.flatMap OpenR.enc)=(putL l i m).flatMap OpenR.enc:=ZQ (enc:=OpenR.enc) (k:=17) (λ_=>rfl) l i m
@[simp high] theorem hd0_OpenR (c:OpenR):(c.enc).head? =some (I c.client)/\c.enc[0]? =some (I c.client)/\c.enc[1]? =some (I c.epoch)/\c.enc[2]? =some (I c.seq)/\c.enc[3]? =some (I c.n)/\c.enc[4]? =some (I c.t.stamp)/\c.enc[5]? =some (encL NodeR.enc c.t.was.l)/\c.enc[6]? =some (I c.t.was.next)/\c.enc[7]? =some (encL NodeR.enc c.t.now.l)/\c.enc[8]? =some (I c.t.now.next)/\c.enc[9]? =some (enc1 I c.t.looks)/\c.enc[10]? =some (I c.last.e)/\c.enc[11]? =some (I c.last.a)/\c.enc[12]? =some (I c.last.b)/\c.enc[13]? =some (I c.last.n)/\c.enc[14]? =some (S c.last.text)/\c.enc[15]? =some (enc1 S c.last.names)/\c.enc[16]? =some (I c.until_)/\(c.enc.drop 4).take 6=c.t.enc/\(c.enc.drop 5).take 2=c.t.was.enc/\(c.enc.drop 7).take 2=c.t.now.enc/\(c.enc.drop 10).take 6=c.last.enc:=⟨rfl,rfl,rfl,rfl,rfl,rfl,rfl,rfl,rfl,rfl,rfl,rfl,rfl,rfl,rfl,rfl,rfl,rfl,rfl,rfl,rfl,rfl⟩
theorem Zlu (l:List OpenR) (i:Nat) (x:OpenR):(l.flatMap OpenR.enc).take (i*17)++x.enc++(l.flatMap OpenR.enc).drop (i*17)=(insL l i x).flatMap OpenR.enc:=ZcH (enc:=OpenR.enc) (k:=17) (λ_=>rfl) l i x
@[simp high] theorem sets_HostR {l:List HostR} {i:Nat} (h:i<l.length) (x:HostR):setMany (l.flatMap HostR.enc) (i*7) x.enc=(l.set i x).flatMap HostR.enc:=ZaA (enc:=HostR.enc) (k:=7) (λ_=>rfl) l i x h
@[simp high] theorem puts_HostR (l:List HostR) (i:Nat) (m:List HostR):putAt (l.flatMap HostR.enc) (i*7) (m.flatMap HostR.enc)=(putL l i m).flatMap HostR.enc:=ZQ (enc:=HostR.enc) (k:=7) (λ_=>rfl) l i m
@[simp high] theorem hd0_HostR (c:HostR):(c.enc).head? =some (encL ChainR.enc c.s.l)/\c.enc[0]? =some (encL ChainR.enc c.s.l)/\c.enc[1]? =some (encL CountR.enc c.s.nexts)/\c.enc[2]? =some (I c.s.stamp)/\c.enc[3]? =some (encL RowR.enc c.rows)/\c.enc[4]? =some (encL OpenR.enc c.opens)/\c.enc[5]? =some (I c.now)/\c.enc[6]? =some (I c.lease)/\setMany [AV.sl true 0 [],AV.sl true 0 [],AV.val (Value.int IntKind.i64 0),AV.sl true 0 [],AV.sl true 0 [],AV.val (Value.int IntKind.i64 0),AV.val (Value.int IntKind.i64 0)] 0 c.enc=c.enc/\(c.enc).take 3=c.s.enc:=⟨rfl,rfl,rfl,rfl,rfl,rfl,rfl,rfl,rfl,rfl⟩
end Go.Cx
set_option linter.unusedVariables false
set_option linter.unusedSimpArgs false
namespace Go.Cx
structure Ze where
 h:HostR
 client:Int
 lease:Int
 other:HostR
def Ze.enc (c:Ze):List AV:=c.h.enc++[I c.client,I c.lease]++c.other.enc
@[simp] theorem Ze.neat (c:Ze):c.enc.all neat=true:=by simp[Ze.enc]
@[simp] theorem Ze.one (c:Ze):c.enc.all Zy=true:=rfl
@[simp high] theorem ZoS (x:Ze):x.enc.length=16:=rfl
@[simp high] theorem Zng (x:Ze):x.enc.take 16=x.enc:=List.take_of_length_le (Nat.le_refl _)
@[simp high] theorem ZqF (c:Ze):(c.enc).head? =some (encL ChainR.enc c.h.s.l)/\c.enc[0]? =some (encL ChainR.enc c.h.s.l)/\c.enc[1]? =some (encL CountR.enc c.h.s.nexts)/\c.enc[2]? =some (I c.h.s.stamp)/\c.enc[3]? =some (encL RowR.enc c.h.rows)/\c.enc[4]? =some (encL OpenR.enc c.h.opens)/\c.enc[5]? =some (I c.h.now)/\c.enc[6]? =some (I c.h.lease)/\c.enc[7]? =some (I c.client)/\c.enc[8]? =some (I c.lease)/\c.enc[9]? =some (encL ChainR.enc c.other.s.l)/\c.enc[10]? =some (encL CountR.enc c.other.s.nexts)/\c.enc[11]? =some (I c.other.s.stamp)/\c.enc[12]? =some (encL RowR.enc c.other.rows)/\c.enc[13]? =some (encL OpenR.enc c.other.opens)/\c.enc[14]? =some (I c.other.now)/\c.enc[15]? =some (I c.other.lease)/\(c.enc).take 7=c.h.enc/\(c.enc).take 3=c.h.s.enc/\(c.enc.drop 9).take 7=c.other.enc/\(c.enc.drop 9).take 3=c.other.s.enc:=⟨rfl,rfl,rfl,rfl,rfl,rfl,rfl,rfl,rfl,rfl,rfl,rfl,rfl,rfl,rfl,rfl,rfl,rfl,rfl,rfl,rfl⟩
def Ze.wf (c:Ze):Prop:=c.h.wf/\inI c.client/\inI c.lease/\c.other.wf
end Go.Cx
