import Derived.Test.YtgpkaoombhobmaaGreatChecked
import Derived.Test.YtgpkaoombhobmaaGreatJTab
import Derived.Test.YtgpkaoombhobmaaGreatJShelf
import Derived.Test.YtgpkaoombhobmaaGreatJBe
import Derived.Test.YtgpkaoombhobmaaGreatJP2
import Derived.Test.YtgpkaoombhobmaaGreatJP1
import Derived.Test.YtgpkaoombhobmaaGreatJBd
import Derived.RangeFuncBox
import Derived.RangeFuncLeaves
import Derived.Shelf.Abstract
import Derived.WalkKit
import Derived.OwnWalkIn
import Derived.TacticsInMore
import Derived.LoopNIn
import Derived.LoopIn
import Derived.Maps.AppendAt
set_option linter.unusedVariables false
set_option linter.unusedSimpArgs false
namespace Go.Proofs.YtgpkaoombhobmaaGreat
open Go.Cx Tab
set_option maxHeartbeats 400000
set_option maxRecDepth 40000
instance:Mix Tryz.prog:=⟨Tryz.checked.mixed⟩
theorem ZR (s:ByteArray) (c:Nat) (hc:c<256):Zb Tryz.prog 260 [S s,Y8 c] (I (Lib.indexByte s.data.toList (UInt8.ofNat c))):=by
 refine Zb.ofCalls (by simp) rfl (Ent.mk Tryz.func260 (by kernel_rfl) rfl) λZ w cargs hz hr=> ?_
 cases hr with
 |cons h1 h2=>
  cases h2 with
  |cons h2 h3=>
   cases h3
   have hs:=Zaf h1 rfl
   have hs2:=Zaf h2 rfl
   subst hs hs2
   refine(Tryz.strings_IndexByte s c w).mono λe w' ⟨he,hw⟩=>⟨?_,by rw[hw];exact .refl _ _⟩
   rw[he]
   have:((c:Int).toNat.toUInt8)=UInt8.ofNat c:=by simp
   rw[this]
theorem check_ok (s:ByteArray):Zb Tryz.prog 230 [S s] (I (checkS s)):=by
 refine Pm Tryz.func230 λhfit=> ?_
 have e1:=Zgr s.data.toList 47
 have e2:=Zgr s.data.toList 0
 cases hn:nameOk s with
 |true=>
  obtain⟨⟨h1,h2⟩,h3,h4,h5,h6,h7⟩:=Zki hn
  have h2':=Nat.not_lt.2 h2
  have h5':¬s={data:= #[]}:=h5
  rw[h6] at e1
  rw[h7] at e2
  simp[Tryz.f230,checkS,hn,h3,h4,h5']
  have s_:=An @e1 (An @e2 (@h2'))
  have p1_:=ZR s 47 (by omega)
  have p2_:=ZR s 0 (by omega)
  exact WW
 |false=>
  simp[Tryz.f230,checkS,hn]
  rcases name_no hn with h|h|h|h|h|h
  ·have h:s={data:= #[]}:=h
   have s_:=h
   exact WW
  ·have s_:=h
   have p1_:=ZR s 47 (by omega)
   have p2_:=ZR s 0 (by omega)
   exact WW
  ·have s_:=h
   have p1_:=ZR s 47 (by omega)
   have p2_:=ZR s 0 (by omega)
   exact WW
  ·have s_:=h
   have p1_:=ZR s 47 (by omega)
   have p2_:=ZR s 0 (by omega)
   exact WW
  ·rw[h] at e1
   have s_:=e1
   have p1_:=ZR s 47 (by omega)
   have p2_:=ZR s 0 (by omega)
   exact WW
  ·rw[h] at e2
   have s_:=e2
   have p1_:=ZR s 47 (by omega)
   have p2_:=ZR s 0 (by omega)
   exact WW
theorem rcheck_ok (s:ByteArray):Zb Tryz.prog 214 [S s] (I (checkS s)):=by
 refine Pm Tryz.func214 λhfit=> ?_
 simp at hfit
 simp[Tryz.f214,checkS]
 by_cases h1:s= .empty
 ·have hn:nameOk .empty=false:=rfl
  subst h1
  have s_:=hn
  exact WW
 by_cases h2:32<s.size
 ·have hn:nameOk s=false:=by simp[nameOk,Nat.not_le.2 h2]
  have s_:=An @h1 (An @h2 (@hn))
  exact WW
 by_cases h3:s={data:= #[46]}
 ·have hn:nameOk s=false:=by rw[h3];simp[nameOk]
  rw[hn]
  have s_:=An @h1 (An @h2 (@h3))
  exact WW
 by_cases h4:s={data:= #[46,46]}
 ·have hn:nameOk s=false:=by rw[h4];simp[nameOk]
  rw[hn]
  have s_:=An @h1 (An @h2 (An @h3 (@h4)))
  exact WW
 simp[h1,h2,h3,h4]
 refine AW.loopG (lit:=λ_=>false) (λi:Nat=>⟨36,pat [(0,S s),(3,I i)],[]⟩) (λi=>s.size -i) (λi=>i<=s.size/\∀j,j<i->Zev s j≠47/\Zev s j≠0) 0 ?_ ?_ ?_
 ·exact Wk.at _ rfl rfl (by simp)
 ·simp
 rintro i ⟨h5,h6⟩ A hA
 by_cases hi:i<s.size
 case neg=>
  have hn:nameOk s=true:=by
   cases hx:nameOk s with
   |true=>rfl
   |false=>
    rcases name_no hx with h|h|h|h|h|h
    ·exact absurd h h1
    ·exact absurd h h2
    ·exact absurd h h3
    ·exact absurd h h4
    ·obtain⟨j,hj,e⟩:=(ZbS s 47).1 h
     exact absurd e (h6 j (by omega)).1
    ·obtain⟨j,hj,e⟩:=(ZbS s 0).1 h
     exact absurd e (h6 j (by omega)).2
  have s_:=hn
  exact WW
 have hw2:IntKind.i64.wrap ((i:Int)+1)=((i+1:Nat):Int):=by rw[Zh (by omega) (by omega)];omega
 by_cases h7:Zev s i=47
 ·have hn:nameOk s=false:=by
   cases hx:nameOk s with
   |false=>rfl
   |true=>
    have:=(ZbS s 47).2 ⟨i,hi,h7⟩
    rw[(Zki hx).2.2.2.2.1] at this;cases this
  have s_:=An @hn (@h7)
  exact WW
 by_cases h8:Zev s i=0
 ·have hn:nameOk s=false:=by
   cases hx:nameOk s with
   |false=>rfl
   |true=>
    have:=(ZbS s 0).2 ⟨i,hi,h8⟩
    rw[(Zki hx).2.2.2.2.2] at this;cases this
  have s_:=An @hn (An @h7 (@h8))
  exact WW
 have s_:=An @h7 (An @h8 (@hw2))
 have q1_:=λs w=>hA (i+1) s w ⟨by omega,lt_step h6 ⟨h7,h8⟩⟩ (by omega)
 exact WW
theorem right_name_ok (l:List EntryR):Zb Tryz.prog 200 [encL EntryR.enc l] (B (Ziu l)):=by
 refine Pm Tryz.func200 λhfit=> ?_
 have d1_:=D0 4 24 [] []
 simp at hfit
 simp[Tryz.f200,Ziu]
 refine AW.loopG (lit:=λ_=>false) (λi:Nat=>⟨40,pat [(0,encL EntryR.enc l),(5,encL EntryR.enc l),(6,I l.length),(7,I i)],[]⟩) (λi=>l.length -i) (λi=>i<=l.length/\ZbQ (prevAt l i) (l.drop i)=ZbQ none l) 0 ?_ ?_ ?_
 ·exact Wk.at _ rfl rfl (by simp)
 ·simp[prevAt]
 rintro i ⟨h5,h6⟩ A hA
 by_cases hi:i<l.length
 case neg=>
  rw[ZiT l i (by omega)] at h6
  have s_:=Eq.symm (h6)
  exact WW
 rw[Zlv l i hi] at h6
 have hw2:=Zg hi hfit.1
 cases i with
 |zero=>
  simp[prevAt] at h6
  have s_:=An @hi (An @EntryR.enc.eq_1 (An @hw2 (Eq.symm (h6))))
  try simp[s_]
  repeat' ((first|((first|refine Tp ?_|refine Tn ?_|refine T2 ?_ ?_)<;>intro h_ e_ n_)|(exact hA 1 _ Wc ⟨by omega,by simp[prevAt,hi];simp_all⟩ (by omega))|refine Pg (check_ok (l[0]).name) ?_|refine Dg 4 24 [] [] ?_|rw[Ip]|rw[In]|rw[Fz]|rw[Gz]|fail)<;>first|simp[e_,n_,s_]|simp[s_]|skip)
 |succ i=>
  have hw3:IntKind.i64.wrap ((i:Int)+1 -1)=(i:Int):=by rw[show(i:Int)+1 -1=i by omega];exact Zh (by omega) (by have:=ZN hfit.1;omega)
  have hw4:IntKind.i64.wrap (i:Int)=(i:Int):=Zh (by omega) (by have:=ZN hfit.1;omega)
  have hw5:IntKind.i64.wrap ((i:Int)+1+1)=(i:Int)+2:=by rw[Zh (by omega) (by have:=ZN hfit.1;omega)];omega
  have hi0:i<l.length:=by omega
  simp[prevAt,hi0] at h6
  have s_:=An @hi (An @EntryR.enc.eq_1 (An @hw2 (An @hw3 (An @hw4 (An @hw5 (An @hi0 (Eq.symm (h6))))))))
  try simp[s_]
  repeat' ((first|((first|refine Tp ?_|refine Tn ?_|refine T2 ?_ ?_)<;>intro h_ e_ n_)|(exact hA (i+2) _ Wc ⟨by omega,by simp[prevAt,hi];simp_all⟩ (by omega))|refine Pg (check_ok (l[i+1]).name) ?_|refine Dg 4 24 [] [] ?_|rw[Ip]|rw[In]|rw[Fz]|rw[Gz]|fail)<;>first|simp[e_,n_,s_]|simp[s_]|skip)
theorem ZuW (a b:List EntryR):Zb Tryz.prog 170 [encL EntryR.enc a,encL EntryR.enc b] (B (decide (a=b))):=by
 refine Pm Tryz.func170 λhfit=> ?_
 simp at hfit
 simp[Tryz.f170]
 by_cases hl:a.length=b.length
 case neg=>
  have:¬a=b:=λe=>hl (by rw[e])
  simp[hl,this]
 simp[hl]
 refine AW.loopG (lit:=λ_=>false) (λi:Nat=>⟨26,pat [(0,encL EntryR.enc a),(1,encL EntryR.enc b),(12,I b.length),(13,I i)],[]⟩) (λi=>b.length -i) (λi=>i<=b.length/\a.take i=b.take i) 0 ?_ ?_ ?_
 ·exact Wk.at _ rfl rfl (by simp[hl])
 ·simp
 ·rintro i ⟨hi,ht⟩ A hA
  by_cases h:i<b.length
  case neg=>
   have:=Zam ht (by omega) (by omega)
   simp[h,hl,eq_true this]
  have ha:i<a.length:=by omega
  simp[h,hl]
  refine Dg _ 9 [] [] ?_
  simp[h,ha]
  by_cases h2:a[i]=b[i]
  ·simp[entK,h2,Zg ha hfit.1.1]
   exact hA (i+1) _ Wa ⟨by omega,take_step ht ha h h2⟩ (by omega)
  ·have:¬a=b:=λe=>by subst e;exact h2 rfl
   simp[entK,h2,this]
theorem ZrT (a b:List EntryR):Zb Tryz.prog 97 [encL EntryR.enc a,encL EntryR.enc b] (B (decide (a=b))):=by
 refine Pm Tryz.func97 λhfit=> ?_
 simp at hfit
 simp[Tryz.f97]
 by_cases hl:a.length=b.length
 case neg=>
  have:¬a=b:=λe=>hl (by rw[e])
  simp[hl,this]
 simp[hl]
 refine AW.loopG (lit:=λ_=>false) (λi:Nat=>⟨26,pat [(0,encL EntryR.enc a),(1,encL EntryR.enc b),(5,I i)],[]⟩) (λi=>b.length -i) (λi=>i<=b.length/\a.take i=b.take i) 0 ?_ ?_ ?_
 ·exact Wk.at _ rfl rfl (by simp[hl])
 ·simp
 ·rintro i ⟨hi,ht⟩ A hA
  by_cases h:i<b.length
  case neg=>
   have:=Zam ht (by omega) (by omega)
   simp[h,hl,eq_true this]
  have ha:i<a.length:=by omega
  simp[h,hl]
  refine Dg _ 9 [] [] ?_
  simp[h,ha]
  by_cases h2:a[i]=b[i]
  ·simp[entK,h2,Zg ha hfit.1.1]
   exact hA (i+1) _ Wa ⟨by omega,take_step ht ha h h2⟩ (by omega)
  ·have:¬a=b:=λe=>by subst e;exact h2 rfl
   simp[entK,h2,this]
theorem Zix (l:List EntryR):Zb Tryz.prog 182 [encL EntryR.enc l] (B (Ziu l)):=by
 refine Pm Tryz.func182 λhfit=> ?_
 have d1_:=D0 7 28 [] []
 simp at hfit
 simp[Tryz.f182,Ziu]
 by_cases hl:l.length<=256
 case neg=>
  have s_:=hl
  exact WW
 have hl':=Nat.not_lt.2 hl
 simp[hl']
 refine AW.loopG (lit:=λ_=>false) (λi:Nat=>⟨48,pat [(0,encL EntryR.enc l),(3,I i)],[]⟩) (λi=>l.length -i) (λi=>i<=l.length/\ZbQ (prevAt l i) (l.drop i)=ZbQ none l) 0 ?_ ?_ ?_
 ·exact Wk.at _ rfl rfl (by simp)
 ·simp[prevAt]
 rintro i ⟨h5,h6⟩ A hA
 by_cases hi:i<l.length
 case neg=>
  rw[ZiT l i (by omega)] at h6
  have s_:=An (Eq.symm (h6)) (@hl)
  exact WW
 rw[Zlv l i hi] at h6
 have hw2:=Zg hi hfit.1
 cases i with
 |zero=>
  simp[prevAt] at h6
  have s_:=An @hi (An @EntryR.enc.eq_1 (An @hw2 (An (Eq.symm (h6)) (@hl))))
  try simp[s_]
  repeat' ((first|((first|refine Tp ?_|refine Tn ?_|refine T2 ?_ ?_)<;>intro h_ e_ n_)|(exact hA 1 _ Wa ⟨by omega,by simp[prevAt,hi];simp_all⟩ (by omega))|refine Pg (rcheck_ok (l[0]).name) ?_|refine Dg 7 28 [] [] ?_|rw[Ip]|rw[In]|rw[Fz]|rw[Gz]|fail)<;>first|simp[e_,n_,s_]|simp[s_]|skip)
 |succ i=>
  have hw3:IntKind.i64.wrap ((i:Int)+1 -1)=(i:Int):=by rw[show(i:Int)+1 -1=i by omega];exact Zh (by omega) (by have:=ZN hfit.1;omega)
  have hw4:IntKind.i64.wrap (i:Int)=(i:Int):=Zh (by omega) (by have:=ZN hfit.1;omega)
  have hw5:IntKind.i64.wrap ((i:Int)+1+1)=(i:Int)+2:=by rw[Zh (by omega) (by have:=ZN hfit.1;omega)];omega
  have hi0:i<l.length:=by omega
  simp[prevAt,hi0] at h6
  have s_:=An @hi (An @EntryR.enc.eq_1 (An @hw2 (An @hw3 (An @hw4 (An @hw5 (An @hi0 (An (Eq.symm (h6)) (@hl))))))))
  try simp[s_]
  repeat' ((first|((first|refine Tp ?_|refine Tn ?_|refine T2 ?_ ?_)<;>intro h_ e_ n_)|(exact hA (i+2) _ Wa ⟨by omega,by simp[prevAt,hi];simp_all⟩ (by omega))|refine Pg (rcheck_ok (l[i+1]).name) ?_|refine Dg 7 28 [] [] ?_|rw[Ip]|rw[In]|rw[Fz]|rw[Gz]|fail)<;>first|simp[e_,n_,s_]|simp[s_]|skip)
theorem nright_ok (n:NodeR):Zb Tryz.prog 163 [encN n] (B (nodeOk n)):=by
 refine Pm Tryz.func163 λhfit=> ?_
 simp[Tryz.f163,NodeR.enc,nodeOk]
 try simp
 repeat' ((first|((first|refine Tp ?_|refine Tn ?_|refine T2 ?_ ?_)<;>intro h_ e_ n_)|refine Pg (right_name_ok n.l) ?_|rw[Ip]|rw[In]|rw[Fz]|rw[Gz]|fail)<;>first|simp[e_,n_]|simp|skip)
 intro h;rw[h];rfl
theorem ZxO (n:NodeR):Zb Tryz.prog 269 [encN n] (I (sizeS n)):=by
 refine Pm Tryz.func269 λhfit=> ?_
 simp[Tryz.f269,NodeR.enc,sizeS]
 exact WW
theorem ZgM (a b:NodeR):Zb Tryz.prog 132 [encN a,encN b] (B (decide (a=b))):=by
 refine Pm Tryz.func132 λhfit=> ?_
 simp only[NodeR.eq_iff]
 simp[Tryz.f132,NodeR.enc]
 have p1_:=ZuW a.l b.l
 exact WW
theorem rnright_ok (n:NodeR):Zb Tryz.prog 151 [encN n] (B (nodeOk n)):=by
 refine Pm Tryz.func151 λhfit=> ?_
 simp[Tryz.f151,NodeR.enc,nodeOk]
 have p1_:=Zix n.l
 exact WW
theorem rnsame_ok (a b:NodeR):Zb Tryz.prog 48 [encN a,encN b] (B (decide (a=b))):=by
 refine Pm Tryz.func48 λhfit=> ?_
 simp only[NodeR.eq_iff]
 simp[Tryz.f48,NodeR.enc]
 have p1_:=ZrT a.l b.l
 exact WW
theorem Zkz (l:List NodeR) (hl:l.length<=1000000):XCall Tryz.prog 335 [encL NodeR.enc l] [] (.own 0 0 0 l.length 5) [.cells 0 (l.flatMap NodeR.enc)]:=by
 refine XCall.mkE 5 (λ_=>false) Tryz.func335 rfl rfl rfl (Ent.mk Tryz.func335 (by kernel_rfl) rfl) (by simp) (by simp) (by simp) (by simp) (by simp) λhfit=> ?_
 simp at hfit
 simp[Tryz.f335]
 rw[if_pos (by simp only[maxLen];omega)]
 simp
 intro h0
 subst h0
 simp
theorem ZuX (n:NodeR):Zb Tryz.prog 167 [encN n] (I n.ino):=by
 refine Pm Tryz.func167 λhfit=> ?_
 simp[Tryz.f167,NodeR.enc]
theorem Zej (x y:Int):Zb Tryz.prog 105 [I x,I y] (I (Lib.compareInt x y)):=by
 refine Zb.ofCalls (by simp) rfl (Ent.mk Tryz.func105 (by kernel_rfl) rfl) λZ w cargs hz hr=> ?_
 cases hr with
 |cons h1 h2=>
  cases h2 with
  |cons h2 h3=>
   cases h3
   have hs:=Zaf h1 rfl
   have hs2:=Zaf h2 rfl
   subst hs hs2
   exact(Tryz.cmp_Compare_int x y w).mono λe w' ⟨he,hw⟩=>⟨he,by rw[hw];exact .refl _ _⟩
abbrev byIno:AV:= .fn 202 [.fp [.fn 167 []]]
theorem Zge (n:NodeR) (k:Int):Zb Tryz.prog 202 [encN n,I k,.fp [.fn 167 []]] (I (Lib.compareInt n.ino k)):=by
 refine Pm Tryz.func202 λhfit=> ?_
 simp[Tryz.f202,NodeR.enc]
 have s_:= @NodeR.enc.eq_1
 have p1_:=ZuX n
 have p2_:=Zej n.ino k
 exact WW
theorem cmp_lt (x y:Int):(Lib.compareInt x y<0)=(x<y):=by
 unfold Lib.compareInt
 apply propext
 repeat' split
 all_goals(constructor<;>intro h<;>simp_all<;>omega)
theorem cmp_eq (x y:Int):(Lib.compareInt x y=0)=(x=y):=by
 unfold Lib.compareInt
 apply propext
 repeat' split
 all_goals(constructor<;>intro h<;>simp_all<;>omega)
theorem ZrU (l:List NodeR) (k:Int) (hl:l.length<=1000000):Zb Tryz.prog 201 [encL NodeR.enc l,I k,byIno] (.tup [I (bsGo (Zcm l) k 0 l.length),B (decide (bsGo (Zcm l) k 0 l.length<l.length)&&decide (Zcm l (bsGo (Zcm l) k 0 l.length)=k))]):=by
 refine Pm Tryz.func201 λhfit=> ?_
 simp at hfit
 simp[Tryz.f201]
 refine AW.loopG (lit:=λ_=>false) (λx:Nat×Nat=>⟨49,pat [(0,encL NodeR.enc l),(1,I k),(2,byIno),(8,I l.length),(9,I x.1),(10,I x.2)],[]⟩) (λx=>x.2 -x.1) (λx=>x.1<=x.2/\x.2<=l.length/\bsGo (Zcm l) k x.1 x.2=bsGo (Zcm l) k 0 l.length) (0,l.length) ?_ ?_ ?_
 ·exact Wk.at _ rfl rfl (by simp)
 ·simp
 rintro⟨i,j⟩ ⟨h1,h2,h3⟩ A hA
 simp only at h1 h2 h3
 have hat:∀m (h:m<l.length),Zcm l m=(l[m]).ino:=λm h=>by simp[Zcm,List.getD_eq_getElem?_getD,h]
 by_cases h:i<j
 case neg=>
  have hij:i=j:=by omega
  subst hij
  rw[Zdw h] at h3
  by_cases hi:i<l.length
  ·have e1:=hat i hi
   have s_:=An @h (An @hi (An (Eq.symm (h3)) (An @cmp_eq (An @NodeR.enc.eq_1 (@e1)))))
   have p1_:=Zge l[i] k
   exact WW
  ·have s_:=An @h (An @hi (Eq.symm (h3)))
   exact WW
 rw[Zdv h] at h3
 have hm:(i+j)/2<l.length:=by omega
 have e1:=hat _ hm
 have w1:IntKind.i64.wrap ((i:Int)+j)=(i:Int)+j:=Zh (by omega) (by omega)
 have w2:((i:Int)+j)%18446744073709551616=(i:Int)+j:=by omega
 have w3:((i:Int)+j).fdiv 2=(((i+j)/2:Nat):Int):=by rw[Int.fdiv_eq_ediv_of_nonneg _ (by omega)];omega
 have w4:IntKind.i64.wrap (((i+j)/2:Nat):Int)=(((i+j)/2:Nat):Int):=Zh (by omega) (by omega)
 generalize hmm:(i+j)/2=m at*
 have w5:IntKind.i64.wrap ((m:Int)+1)=((m+1:Nat):Int):=by rw[Zh (by omega) (by omega)];omega
 have hk:Zcm l m<k\/¬Zcm l m<k:=Classical.em _
 rcases hk with hk|hk
 ·rw[if_pos hk] at h3
  rw[e1] at hk
  have s_:=An @h (An @w1 (An @w2 (An @w3 (An @w4 (An @w5 (An @hm (An @cmp_lt (An @NodeR.enc.eq_1 (@hk)))))))))
  have q1_:=λs w=>hA (m+1,j) s w ⟨by simp only;omega,h2,h3⟩ (by simp only;omega)
  have p1_:=Zge l[m] k
  exact WW
 ·rw[if_neg hk] at h3
  rw[e1] at hk
  have s_:=An @h (An @w1 (An @w2 (An @w3 (An @w4 (An @w5 (An @hm (An @cmp_lt (An @NodeR.enc.eq_1 (@hk)))))))))
  have q1_:=λs w=>hA (i,m) s w ⟨by simp only;omega,by simp only;omega,h3⟩ (by simp only;omega)
  have p1_:=Zge l[m] k
  exact WW
theorem ZfF (l:List NodeR) (k:Int) (hl:l.length<=1000000):Zb Tryz.prog 166 [encL NodeR.enc l,I k,.fn 167 []] (.tup [I (plc l k),B (decide (plc l k<l.length)&&decide (Zcm l (plc l k)=k))]):=by
 refine Pm Tryz.func166 λhfit=> ?_
 simp[Tryz.f166]
 have p1_:=ZrU l k hl
 exact WW
abbrev encF (f:FSR):AV:= .agg f.enc
theorem find_ok (f:FSR) (k:Int) (hl:f.l.length<=1000000):Zb Tryz.prog 120 [encF f,I k] (.tup [encN (findB f.l k).1,B (findB f.l k).2]):=by
 refine Pm Tryz.func120 λhfit=> ?_
 by_cases h:plc f.l k<f.l.length
 case neg=>
  simp[Tryz.f120,FSR.enc,findB,h]
  have s_:=An @FSR.enc.eq_1 (An @NodeR.enc.eq_1 (An @NodeR.zero.eq_1 (@h)))
  have p1_:=ZfF f.l k hl
  exact WW
 by_cases h2:Zcm f.l (plc f.l k)=k
 case neg=>
  simp[Tryz.f120,FSR.enc,findB,h,h2]
  have s_:=An @FSR.enc.eq_1 (An @NodeR.enc.eq_1 (An @NodeR.zero.eq_1 (An @h (@h2))))
  have p1_:=ZfF f.l k hl
  exact WW
 have e:f.l.getD (plc f.l k) .zero=f.l[plc f.l k]:=by simp[List.getD_eq_getElem?_getD,h]
 simp only[findB,if_pos (An h h2),e]
 simp[Tryz.f120,FSR.enc]
 have s_:=An @FSR.enc.eq_1 (An @NodeR.enc.eq_1 (An @NodeR.zero.eq_1 (An @h (@h2))))
 have p1_:=ZfF f.l k hl
 exact WW
theorem rows_ok (f:FSR):Zb Tryz.prog 117 [encF f] (B (Zcd f)):=by
 refine Pm Tryz.func117 λhfit=> ?_
 have d1_:=D0 4 26 [] []
 obtain⟨l,next⟩:=f
 simp[FSR.enc] at hfit
 simp[Tryz.f117,Zcd,FSR.enc]
 refine AW.loopG (lit:=λ_=>false) (λi:Nat=>⟨49,pat [(1,.ptr 0 0 0),(6,encL NodeR.enc l),(7,I l.length),(8,I i)],[.cells 0 [encL NodeR.enc l,I next]]⟩) (λi=>l.length -i) (λi=>i<=l.length/\ZaY next (prevIno l i) (l.drop i)=ZaY next none l) 0 ?_ ?_ ?_
 ·exact Wa
 ·simp[prevIno]
 rintro i ⟨h5,h6⟩ A hA
 by_cases hi:i<l.length
 case neg=>
  rw[Zht next l i (by omega)] at h6
  have s_:=An (Eq.symm (h6)) (@hi)
  exact WW
 rw[ZiV next l i hi] at h6
 have hw2:=Zg hi hfit.1
 cases i with
 |zero=>
  simp[prevIno] at h6
  have s_:=An @hi (An @NodeR.enc.eq_1 (An @hw2 (Eq.symm (h6))))
  try simp[s_]
  repeat' ((first|((first|refine Tp ?_|refine Tn ?_|refine T2 ?_ ?_)<;>intro h_ e_ n_)|(exact hA 1 _ Wc ⟨by omega,by simp[prevIno,hi];simp_all⟩ (by omega))|refine Pg (nright_ok l[0]) ?_|refine Dg 4 26 [] [] ?_|rw[Ip]|rw[In]|rw[Fz]|rw[Gz]|fail)<;>first|simp[e_,n_,s_]|simp[s_]|skip)
 |succ i=>
  have hw3:IntKind.i64.wrap ((i:Int)+1 -1)=(i:Int):=by rw[show(i:Int)+1 -1=i by omega];exact Zh (by omega) (by have:=ZN hfit.1;omega)
  have hw4:IntKind.i64.wrap (i:Int)=(i:Int):=Zh (by omega) (by have:=ZN hfit.1;omega)
  have hw5:IntKind.i64.wrap ((i:Int)+1+1)=(i:Int)+2:=by rw[Zh (by omega) (by have:=ZN hfit.1;omega)];omega
  have hi0:i<l.length:=by omega
  simp[prevIno,hi0] at h6
  have s_:=An @hi (An @NodeR.enc.eq_1 (An @hw2 (An @hw3 (An @hw4 (An @hw5 (An @hi0 (Eq.symm (h6))))))))
  try simp[s_]
  repeat' ((first|((first|refine Tp ?_|refine Tn ?_|refine T2 ?_ ?_)<;>intro h_ e_ n_)|(exact hA (i+2) _ Wc ⟨by omega,by simp[prevIno,hi];simp_all⟩ (by omega))|refine Pg (nright_ok l[i+1]) ?_|refine Dg 4 26 [] [] ?_|rw[Ip]|rw[In]|rw[Fz]|rw[Gz]|fail)<;>first|simp[e_,n_,s_]|simp[s_]|skip)
theorem ZxP (f:FSR):Zb Tryz.prog 81 [encF f] (B (Zcd f)):=by
 refine Pm Tryz.func81 λhfit=> ?_
 have d1_:=D0 7 33 [] []
 obtain⟨l,next⟩:=f
 simp[FSR.enc] at hfit
 simp[Tryz.f81,Zcd,FSR.enc]
 by_cases hl:l.length<=256
 case neg=>
  have s_:=hl
  exact WW
 have hl':=Nat.not_lt.2 hl
 by_cases hn:1<=next
 case neg=>
  have s_:=An @hl (An @hl' (@hn))
  exact WW
 have hn':=Int.not_lt.2 hn
 simp[hl',hn']
 refine AW.loopG (lit:=λ_=>false) (λi:Nat=>⟨60,pat [(1,.ptr 0 0 0),(3,I i)],[.cells 0 [encL NodeR.enc l,I next]]⟩) (λi=>l.length -i) (λi=>i<=l.length/\ZaY next (prevIno l i) (l.drop i)=ZaY next none l) 0 ?_ ?_ ?_
 ·exact Wa
 ·simp[prevIno]
 rintro i ⟨h5,h6⟩ A hA
 by_cases hi:i<l.length
 case neg=>
  rw[Zht next l i (by omega)] at h6
  have s_:=An (Eq.symm (h6)) (An @hi (An @hl (@hn)))
  exact WW
 rw[ZiV next l i hi] at h6
 have hw2:=Zg hi hfit.1
 cases i with
 |zero=>
  simp[prevIno] at h6
  have s_:=An @hi (An @NodeR.enc.eq_1 (An @hw2 (An (Eq.symm (h6)) (An @hl (@hn)))))
  try simp[s_]
  repeat' ((first|((first|refine Tp ?_|refine Tn ?_|refine T2 ?_ ?_)<;>intro h_ e_ n_)|(exact hA 1 _ Wa ⟨by omega,by simp[prevIno,hi];simp_all⟩ (by omega))|refine Pg (rnright_ok l[0]) ?_|refine Dg 7 33 [] [] ?_|rw[Ip]|rw[In]|rw[Fz]|rw[Gz]|fail)<;>first|simp[e_,n_,s_]|simp[s_]|skip)
 |succ i=>
  have hw3:IntKind.i64.wrap ((i:Int)+1 -1)=(i:Int):=by rw[show(i:Int)+1 -1=i by omega];exact Zh (by omega) (by have:=ZN hfit.1;omega)
  have hw4:IntKind.i64.wrap (i:Int)=(i:Int):=Zh (by omega) (by have:=ZN hfit.1;omega)
  have hw5:IntKind.i64.wrap ((i:Int)+1+1)=(i:Int)+2:=by rw[Zh (by omega) (by have:=ZN hfit.1;omega)];omega
  have hi0:i<l.length:=by omega
  simp[prevIno,hi0] at h6
  have s_:=An @hi (An @NodeR.enc.eq_1 (An @hw2 (An @hw3 (An @hw4 (An @hw5 (An @hi0 (An (Eq.symm (h6)) (An @hl (@hn)))))))))
  try simp[s_]
  repeat' ((first|((first|refine Tp ?_|refine Tn ?_|refine T2 ?_ ?_)<;>intro h_ e_ n_)|(exact hA (i+2) _ Wa ⟨by omega,by simp[prevIno,hi];simp_all⟩ (by omega))|refine Pg (rnright_ok l[i+1]) ?_|refine Dg 7 33 [] [] ?_|rw[Ip]|rw[In]|rw[Fz]|rw[Gz]|fail)<;>first|simp[e_,n_,s_]|simp[s_]|skip)
theorem ZjA (f g:FSR):Zb Tryz.prog 106 [encF f,encF g] (B (decide (f=g))):=by
 refine Pm Tryz.func106 λhfit=> ?_
 have d1_:=D0 6 12 [] []
 obtain⟨a,m⟩:=f
 obtain⟨b,n⟩:=g
 simp only[FSR.eq_iff]
 simp[FSR.enc] at hfit
 simp[Tryz.f106,FSR.enc]
 by_cases hm:m=n
 case neg=>
  have s_:=hm
  exact WW
 by_cases hl:a.length=b.length
 case neg=>
  have:¬a=b:=λe=>hl (by rw[e])
  have s_:=An @hm (An @hl (@this))
  exact WW
 subst hm
 simp[hl]
 refine AW.loopG (lit:=λ_=>false) (λi:Nat=>⟨41,pat [(2,.ptr 0 0 0),(3,.ptr 1 0 0),(5,I i)],[.cells 0 [encL NodeR.enc a,I m],.cells 0 [encL NodeR.enc b,I m]]⟩) (λi=>b.length -i) (λi=>i<=b.length/\a.take i=b.take i) 0 ?_ ?_ ?_
 ·exact Wk.at _ rfl (by simp[hl]) (by simp[hl])
 ·simp
 ·rintro i ⟨hi,ht⟩ A hA
  by_cases h:i<b.length
  case neg=>
   have:=Zam ht (by omega) (by omega)
   have s_:=An @h (An @hl ((eq_true this)))
   exact WW
  have ha:i<a.length:=by omega
  have hw2:=Zg ha hfit.1.1
  by_cases h2:a[i]=b[i]
  ·have s_:=An @h (An @hl (An @ha (An @hw2 (@h2))))
   try simp[s_]
   repeat' ((first|((first|refine Tp ?_|refine Tn ?_|refine T2 ?_ ?_)<;>intro h_ e_ n_)|(exact hA (i+1) _ (Wk.at _ rfl (by simp[hl]) (by simp[hl])) ⟨by omega,take_step ht ha h h2⟩ (by omega))|refine Pg (rnsame_ok a[i] b[i]) ?_|refine Dg 6 12 [] [] ?_|rw[Ip]|rw[In]|rw[Fz]|rw[Gz]|fail)<;>first|simp[e_,n_,s_]|simp[s_]|skip)
  ·have:¬a=b:=λe=>by subst e;exact h2 rfl
   have s_:=An @h (An @hl (An @ha (An @hw2 (An @h2 (@this)))))
   have p1_:=rnsame_ok a[i] b[i]
   exact WW
theorem ZrV (l:List NodeR) (i:Nat) (x:NodeR) (hi:i<=l.length) (hl:l.length<=1000000):XCall Tryz.prog 336 [.own 0 0 0 l.length 5,I i,.sl true 1 x.enc] [.cells 0 (l.flatMap NodeR.enc)] (.own 0 1 0 (l.length+1) 5) [.cells 1 ((insL l i x).flatMap NodeR.enc)]:=by
 by_cases hi2:i=l.length
 case pos=>
  subst hi2
  refine XCall.mkG (λs (_:Unit)=>s) (λ_=>false) Tryz.func336 rfl rfl rfl (Ent.mk Tryz.func336 (by kernel_rfl) rfl) (by simp) (by simp) (by simp) (by simp) (by simp) λhfit=> ?_
  refine⟨WkE.one _ _,λ_=> ?_⟩
  simp[Tryz.f336]
  rw[if_pos (by simp only[maxLen];omega)]
  simp
  exact⟨_,Wk.refl _ _,by simp[ZdV]⟩
 have hi3:i<l.length:=by omega
 have hcp:∀cap,l.length<=cap->(l.length*5+(cap*5 -l.length*5))/5=cap:=λcap h=>by omega
 have hw1:IntKind.i64.wrap ((l.length:Int)+1)=((l.length+1:Nat):Int):=by rw[Zh (by omega) (by omega)];omega
 have hw2:IntKind.i64.wrap ((i:Int)+1)=((i+1:Nat):Int):=by rw[Zh (by omega) (by omega)];omega
 have hw3:IntKind.i64.wrap ((l.length:Int)+1 -i)=((l.length+1 -i:Nat):Int):=by rw[Zh (by omega) (by omega)];omega
 have hw4:((i:Int)+((l.length+1 -i:Nat):Int)).toNat=l.length+1:=by omega
 have hm1:min 1 (l.length+1 -i)=1:=by omega
 have hm2:∀cap,l.length<=cap->min (i*5) (l.length*5+(cap*5 -l.length*5))=i*5:=λcap h=>by omega
 have hov:∀(lb:Nat) (h:Za) (y:ABlk) (Q:AV->Za->Prop),h[0]? =some y->(blkCells y).map (·.1)=some 0->Q (B false) h->AInv Tryz.prog (.fn 344 []) [.sl true 1 x.enc,.own 0 0 (i+1) lb 5] h Q:=λlb h y Q hy hv hq=>
  Zbz Tryz.func344 (by kernel_rfl) rfl (by kernel_rfl) rfl rfl (by kernel_rfl) (k:=5) (by kernel_rfl) true 1 _ _ 0 0 (i+1) lb hy hv (by omega) Q hq
 refine XCall.mkG (λs (cap:{cap:Nat//l.length<=cap/\cap<=maxLen})=>Zcl s 0 0 5 (l.flatMap NodeR.enc) cap.1) (λ_=>false) Tryz.func336 rfl rfl rfl (Ent.mk Tryz.func336 (by kernel_rfl) rfl) (by simp) (by simp) (by simp) (by simp) (by simp) λhfit=> ?_
 refine⟨WkE.full (t:=0) (by simp) (by simp) (by omega) (by simp),?_⟩
 rintro⟨cap,hc1,hc2⟩
 have hcp1:=hcp cap hc1
 have hm3:=hm2 cap hc1
 have hi4:¬i=l.length:=by omega
 have hle:i<=l.length:=by omega
 generalize hA:List.replicate (cap*5 -l.length*5) AV.any=A
 have hAl:A.length=cap*5 -l.length*5:=by rw[<-hA];simp
 have hLl:(l.flatMap NodeR.enc).length=l.length*5:=Zll l
 have hta:(l.flatMap NodeR.enc++A).take (i*5)=(l.flatMap NodeR.enc).take (i*5):=List.take_append_of_le_length (by rw[hLl];omega)
 have hdr:(l.flatMap NodeR.enc).drop (i*5)=(l.drop i).flatMap NodeR.enc:=Znb l i
 have hq0:(l.flatMap NodeR.enc++A).drop (i*5)=(l.drop i).flatMap NodeR.enc++A:=by rw[List.drop_append_of_le_length (by rw[hLl];omega),hdr]
 have hdl:((l.drop i).flatMap NodeR.enc).length=l.length*5 -i*5:=by rw[Zll,List.length_drop];omega
 by_cases hr:l.length+1<=cap
 ·have hm4:min (l.length+1 -i) (l.length -i)=l.length -i:=by omega
  have hm5:min ((l.length+1 -i)*5) ((l.length -i)*5+(cap*5 -l.length*5))=(l.length+1 -i)*5:=by omega
  have hm6:min ((l.length+1 -i)*5) (l.length*5+(cap*5 -l.length*5) -i*5)=(l.length+1 -i)*5:=by omega
  have hq1:List.take ((l.length -i)*5) (List.take ((l.length+1 -i)*5) ((l.drop i).flatMap NodeR.enc++A))=(l.drop i).flatMap NodeR.enc:=by
   rw[List.take_take,Nat.min_eq_left (by omega),List.take_left' (by rw[hdl];omega)]
  have hq2:(putAt (l.flatMap NodeR.enc++A) ((i+1)*5) ((l.drop i).flatMap NodeR.enc)).length=cap*5:=by
   rw[ZE (by rw[List.length_append,hLl,hAl,hdl];omega),List.length_append,hLl,hAl];omega
  have hq3:(putAt (putAt (l.flatMap NodeR.enc++A) ((i+1)*5) ((l.drop i).flatMap NodeR.enc)) (i*5) x.enc).take ((l.length+1)*5)=(insL l i x).flatMap NodeR.enc:=by
   have:=ZdT (L:=l.flatMap NodeR.enc) (A:=A) (X:=x.enc) (a:=i*5) (k:=5) hLl (by omega) rfl (by rw[hAl];omega)
   rw[Zlt,hq0,List.take_left' (by rw[hdl])] at this
   rw[show(i+1)*5=i*5+5 by omega,show(l.length+1)*5=l.length*5+5 by omega]
   exact this
  have hone:∀y∈(l.drop i).flatMap NodeR.enc,Zy y=true:=List.all_eq_true.1 (Zlk _)
  simp[Tryz.f336,Zcl,hA]
  have s_:=An @hcp1 (An @hw1 (An @hw2 (An @hw3 (An @hw4 (An @hm1 (An @hm3 (An @hm4 (An @hq0 (An @hq1 (An @hq2 (An @hi3 (An @hi4 (An @hle (@hr))))))))))))))
  try simp[s_]
  repeat' ((first|((first|refine Tp ?_|refine Tn ?_|refine T2 ?_ ?_)<;>intro h_ e_ n_)|(refine hov _ _ _ _ rfl rfl ?_;simp)|(refine optBif ⟨rfl,by rw[List.length_append,hLl,hAl];omega,by rw[List.length_take,List.length_append,hdl,hAl];omega,by rw[hm4,hq1];exact hone⟩ ?_;simp)|refine Dg 11 9 [] [] ?_|refine Dg 15 9 [] [] ?_|rw[Ip]|rw[In]|rw[Fz]|rw[Gz]|fail)<;>first|simp[e_,n_,s_]|simp[s_]|skip)
  exact⟨_,Wk.trans (Wk.prefix 0 0 ((l.length+1)*5) rfl rfl) (Wk.bump 6 0 0 0 (l.length+1) 5 (by simp) rfl),by simp[hq3]⟩
 ·have hm5:min ((l.length -i)*5) ((l.length -i)*5+(cap*5 -l.length*5))=(l.length -i)*5:=by omega
  have hq1:List.take ((l.length -i)*5) (List.take ((l.length -i)*5) ((l.drop i).flatMap NodeR.enc++A))=(l.drop i).flatMap NodeR.enc:=by
   rw[List.take_take,Nat.min_self,List.take_left' (by rw[hdl];omega)]
  have hq4:List.take ((l.length -i)*5) ((l.drop i).flatMap NodeR.enc)=(l.drop i).flatMap NodeR.enc:=List.take_of_length_le (by rw[hdl];omega)
  have hone:∀y∈(l.drop i).flatMap NodeR.enc,Zy y=true:=List.all_eq_true.1 (Zlk _)
  simp[Tryz.f336,Zcl,hA]
  generalize hZ:(List.replicate (l.length+1 -i) [AV.val (Value.int IntKind.i64 0),AV.val (Value.int IntKind.i64 0),AV.val (Value.int IntKind.i64 0),AV.val (Value.string ByteArray.empty),AV.sl true 0 []]).flatten=Z
  have hZl:Z.length=(l.length+1 -i)*5:=by rw[<-hZ];simp
  have hta':((l.flatMap NodeR.enc).take (i*5)).length=i*5:=by rw[List.length_take,hLl];omega
  have hq2:(putAt ((l.flatMap NodeR.enc).take (i*5)++Z) (i*5) x.enc).length=(l.length+1)*5:=by
   rw[ZE (by rw[List.length_append,hta',hZl,Zqz];omega),List.length_append,hta',hZl];omega
  have hq3:putAt (putAt ((l.flatMap NodeR.enc).take (i*5)++Z) (i*5) x.enc) ((i+1)*5) ((l.drop i).flatMap NodeR.enc)=(insL l i x).flatMap NodeR.enc:=by
   have:=ZdU (L:=l.flatMap NodeR.enc) (A:=A) (X:=x.enc) (Z:=Z) (a:=i*5) (k:=5) hLl (by omega) rfl (by rw[hZl];omega)
   rw[Zlt,hta,hq0,List.take_left' (by rw[hdl])] at this
   rw[show(i+1)*5=i*5+5 by omega]
   exact this
  have s_:=An @hcp1 (An @hw1 (An @hw2 (An @hw3 (An @hw4 (An @hm1 (An @hm3 (An @hq0 (An @hq1 (An @hq4 (An @hta (An @hZ (An @hi3 (An @hi4 (An @hle (@hr)))))))))))))))
  try simp[s_]
  repeat' ((first|((first|refine Tp ?_|refine Tn ?_|refine T2 ?_ ?_)<;>intro h_ e_ n_)|(refine optBif ⟨by rw[hq2];omega,hone⟩ ?_;simp)|refine Dg 11 9 [] [] ?_|refine Dg 15 9 [] [] ?_|rw[Ip]|rw[In]|rw[Fz]|rw[Gz]|fail)<;>first|simp[e_,n_,s_]|simp[s_]|skip)
  exact⟨_,Wk.move 6 0 1 0 0 (l.length+1) 5 (by decide) (by simp;omega) rfl rfl rfl,by simp[hq3]⟩
theorem ZrW (l:List NodeR) (g:FuncId) (cap:List AV) (p:NodeR->Bool) (hcap:cap.all neat=true) (hp:∀x∈l,Zb Tryz.prog g (.agg x.enc::cap) (B (p x))) (hl:l.length<=1000000):Zb Tryz.prog 354 [encL NodeR.enc l,.fn g cap] (I (idxS p l)):=by
 refine Zb.mk (λ_=>false) Tryz.func354 rfl rfl rfl (Ent.mk Tryz.func354 (by kernel_rfl) rfl) (by simp[hcap]) (by simp) λhfit=> ?_
 simp at hfit
 simp[Tryz.f354]
 refine AW.loopG (lit:=λ_=>false) (λi:Nat=>⟨19,pat [(0,encL NodeR.enc l),(1,.fn g cap),(7,I l.length),(8,I i)],[]⟩) (λi=>l.length -i) (λi=>i<=l.length/\Zan p i (l.drop i)=idxS p l) 0 ?_ ?_ ?_
 ·exact Wk.at _ rfl rfl (by simp)
 ·simp[idxS]
 rintro i ⟨h1,h2⟩ A hA
 by_cases hi:i<l.length
 case neg=>
  rw[ZaP hi] at h2
  have s_:=An @hi (Eq.symm (h2))
  exact WW
 rw[Zbi hi] at h2
 have hw:=Zg hi hfit.1.1
 have hpi:=hp l[i] (List.getElem_mem hi)
 cases hpp:p l[i] with
 |true=>
  rw[hpp] at hpi
  simp only[hpp,if_true] at h2
  have s_:=An @hi (An (Eq.symm (h2)) (@hpp))
  have p1_:=hpi
  exact WW
 |false=>
  rw[hpp] at hpi
  simp only[hpp,Bool.false_eq_true,if_false] at h2
  have s_:=An @hi (An @hw (@hpp))
  try simp[s_]
  repeat' ((first|((first|refine Tp ?_|refine Tn ?_|refine T2 ?_ ?_)<;>intro h_ e_ n_)|(exact hA (i+1) _ Wa ⟨by omega,h2⟩ (by omega))|refine Pg hpi ?_|refine Dg 11 9 [] [] ?_|refine Dg 15 9 [] [] ?_|rw[Ip]|rw[In]|rw[Fz]|rw[Gz]|fail)<;>first|simp[e_,n_,s_]|simp[s_]|skip)
theorem ZnR (l:List NodeR) (g:FuncId) (cap cap':List AV) (hc:Za) (p:NodeR->Bool) (hcap:cap'.all neat=true) (hcr:cap.all (refsLt (hc.length+1))=true) (hhc:hc.all (ABlk.refsLt (hc.length+1))=true) (hfr:∀(f:Nat) (b0:ABlk) (tl:Za),frzs (b0::(hc++tl)) 0 (f+3) cap=some cap')
  (hp:∀x∈l,Zb Tryz.prog g (.agg x.enc::cap') (B (p x))) (hl:l.length<=1000000):XCall Tryz.prog 347 [.own 0 0 0 l.length 5,.fn g cap] (.cells 0 (l.flatMap NodeR.enc)::hc) (.own 0 0 0 (l.filter λx=> !p x).length 5) (.cells 0 ((l.filter λx=> !p x).flatMap NodeR.enc)::hc):=by
 refine XCall.mkG (λs (_:Unit)=>s) (λ_=>false) Tryz.func347 rfl rfl rfl (Ent.mk Tryz.func347 (by kernel_rfl) rfl) (by simp;simpa using hcr) (by simp;simpa using hhc) (by simp) (by simp) (by simp;simpa using hhc) λhfit=> ?_
 refine⟨WkE.one _ _,λ_=> ?_⟩
 have hix:=ZrW l g cap' p hcap hp hl
 have hfz:∀(v:AV) (b0:ABlk) (tl:Za),neat v=true->(([v]++cap).mapM (frz (b0::(hc++tl)) 0 12))=some (v::cap'):=λv b0 tl hv=>by
  have h2:cap.mapM (frz (b0::(hc++tl)) 0 12)=some cap':=hfr 9 b0 tl
  rw[List.singleton_append,List.mapM_cons,Zcp _ _ _ hv,h2];rfl
 have hlend:∀{Q:AV->Za->Prop},Q (I (idxS p l)) (.cells 0 (l.flatMap NodeR.enc)::hc)->AInv Tryz.prog (.fn 354 []) [.own 0 0 0 l.length 5,.fn g cap] (.cells 0 (l.flatMap NodeR.enc)::hc) Q:=λhq=>
  AInv.lend hix rfl (by
   have:=hfr 8 (.cells 0 (l.flatMap NodeR.enc)) []
   rw[List.append_nil] at this
   rw[List.append_nil,List.mapM_cons,List.mapM_cons,List.mapM_nil,ZmP,List.getElem?_cons_zero,Zav (by simp) (by simp),Zto,this]
   rfl) hq
 have hzs:∀x:NodeR,setMany [AV.val (Value.int IntKind.i64 0),AV.val (Value.int IntKind.i64 0),AV.val (Value.int IntKind.i64 0),AV.val (Value.string ByteArray.empty),AV.sl true 0 []] 0 x.enc=x.enc:=λ_=>rfl
 by_cases h0:idxS p l= -1
 ·obtain⟨e1,_⟩:=ZcK h0
  simp[Tryz.f347]
  have s_:=h0
  try simp[s_]
  repeat' ((first|((first|refine Tp ?_|refine Tn ?_|refine T2 ?_ ?_)<;>intro h_ e_ n_)|(refine hlend ?_;simp[h0])|refine Dg 11 9 [] [] ?_|refine Dg 15 9 [] [] ?_|rw[Ip]|rw[In]|rw[Fz]|rw[Gz]|fail)<;>first|simp[e_,n_,s_]|simp[s_]|skip)
  exact⟨_,Wk.refl _ _,by simp[e1]⟩
 obtain⟨j0,hj0,e1,e2,e3⟩:=ZcL h0
 have hw0:IntKind.i64.wrap ((j0:Int)+1)=(j0:Int)+1:=Zh (by omega) (by omega)
 have hn0:¬((j0:Int)= -1):=by omega
 simp[Tryz.f347]
 have s_:=An @e1 (An @hw0 (@hn0))
 try simp[s_]
 repeat' ((first|((first|refine Tp ?_|refine Tn ?_|refine T2 ?_ ?_)<;>intro h_ e_ n_)|(refine hlend ?_;simp[e1,hw0,hn0])|refine Dg 11 9 [] [] ?_|refine Dg 15 9 [] [] ?_|rw[Ip]|rw[In]|rw[Fz]|rw[Gz]|fail)<;>first|simp[e_,n_,s_]|simp[s_]|skip)
 refine AW.loopG (lit:=λ_=>false) (λx:Nat×Nat×List NodeR=>⟨42,pat [(0,.own 0 0 0 l.length 5),(1,.fn g cap),(5,I x.1),(6,I x.2.1)],.cells 0 (x.2.2.flatMap NodeR.enc)::hc⟩) (λx=>l.length -x.2.1) (λx=>Zer p l x.2.2 x.1 x.2.1) (j0,j0+1,l) ?_ ?_ ?_
 ·exact Wk.at _ rfl rfl (by simp)
 ·exact .start hj0 e2 e3
 rintro⟨i,j,m⟩ hd A hA
 simp only at hd hA
 have hml:=hd.len
 by_cases hj:j<l.length
 case neg=>
  obtain⟨d1,d2,d3⟩:=hd.done hj
  have s_:=An @hj (@hml)
  try simp[s_]
  repeat' ((first|((first|refine Tp ?_|refine Tn ?_|refine T2 ?_ ?_)<;>intro h_ e_ n_)|refine Dg 11 9 [] [] ?_|refine Dg 15 9 [] [] ?_|rw[Ip]|rw[In]|rw[Fz]|rw[Gz]|fail)<;>first|simp[e_,n_,s_]|simp[s_]|skip)
  exact⟨_,Wk.prefix 0 0 (i*5) rfl rfl,by simp[d2],by
   have:(putAt (m.flatMap NodeR.enc) (i*5) (zeros [AV.val (Value.int IntKind.i64 0),AV.val (Value.int IntKind.i64 0),AV.val (Value.int IntKind.i64 0),AV.val (Value.string ByteArray.empty),AV.sl true 0 []] (l.length -i))).take (i*5)=(m.take i).flatMap NodeR.enc:=by
    rw[<-Zna]
    unfold putAt
    rw[List.append_assoc,List.take_left' (by simp;omega)]
   simp only[zeros] at this
   simp[this,d1]⟩
 have hmj:=hd.get hj
 have hx:=hp l[j] (List.getElem_mem hj)
 have hw:IntKind.i64.wrap ((j:Int)+1)=((j+1:Nat):Int):=by rw[Zh (by omega) (by omega)];omega
 have hi:=hd.lt
 have hwi:IntKind.i64.wrap ((i:Int)+1)=((i+1:Nat):Int):=by rw[Zh (by omega) (by omega)];omega
 cases hpp:p l[j] with
 |true=>
  rw[hpp] at hx
  have hlx:∀(b0:ABlk) (tl:Za) {Q:AV->Za->Prop},Q (B true) (b0::(hc++tl))->AInv Tryz.prog (.fn g cap) [.agg l[j].enc] (b0::(hc++tl)) Q:=λb0 tl Q hq=>AInv.lend hx rfl (hfz _ b0 tl (by simp)) hq
  have s_:=An @hj (An @hml (An @hzs (An @hw (@hmj))))
  try simp[s_]
  repeat' ((first|((first|refine Tp ?_|refine Tn ?_|refine T2 ?_ ?_)<;>intro h_ e_ n_)|(refine hlx _ _ ?_;simp[hw])|(exact hA (i,j+1,m) _ (Wk.cutAt _ rfl (by simp) (by simp) (by simp;simpa using hhc) (by simp;simpa using hcr)) (hd.skip hj hpp) (by simp only;omega))|refine Dg 11 9 [] [] ?_|refine Dg 15 9 [] [] ?_|rw[Ip]|rw[In]|rw[Fz]|rw[Gz]|fail)<;>first|simp[e_,n_,s_]|simp[s_]|skip)
 |false=>
  rw[hpp] at hx
  have hlx:∀(b0:ABlk) (tl:Za) {Q:AV->Za->Prop},Q (B false) (b0::(hc++tl))->AInv Tryz.prog (.fn g cap) [.agg l[j].enc] (b0::(hc++tl)) Q:=λb0 tl Q hq=>AInv.lend hx rfl (hfz _ b0 tl (by simp)) hq
  have him:i<m.length:=by omega
  have hil:i<l.length:=by omega
  have s_:=An @hj (An @hml (An @hzs (An @hw (An @hwi (An @hmj (An @him (@hil)))))))
  try simp[s_]
  repeat' ((first|((first|refine Tp ?_|refine Tn ?_|refine T2 ?_ ?_)<;>intro h_ e_ n_)|(refine hlx _ _ ?_;simp[hw,hwi,hmj,him,hil])|(exact hA (i+1,j+1,m.set i l[j]) _ (Wk.cutAt _ rfl (by simp) (by simp) (by simp;simpa using hhc) (by simp;simpa using hcr)) (hd.keep hj hpp) (by simp only;omega))|refine Dg 11 9 [] [] ?_|refine Dg 15 9 [] [] ?_|rw[Ip]|rw[In]|rw[Fz]|rw[Gz]|fail)<;>first|simp[e_,n_,s_]|simp[s_]|skip)
theorem Zmk (f:FSR):Zb Tryz.prog 27 [encF f] (B (fewS f)):=by
 refine Pm Tryz.func27 λhfit=> ?_
 obtain⟨l,next⟩:=f
 simp[FSR.enc] at hfit
 have hll:=hfit.1
 simp only[maxLen] at hll
 simp[Tryz.f27,fewS,FSR.enc]
 refine AW.loopG (lit:=λ_=>false) (λx:Nat×Int=>⟨38,pat [(1,.ptr 0 0 0),(3,I x.2),(4,I x.1)],[.cells 0 [encL NodeR.enc l,I next]]⟩) (λx=>l.length -x.1) (λx=>x.1<=l.length/\ZcW x.2 (l.drop x.1)=ZcW l.length l) (0,(l.length:Int)) ?_ ?_ ?_
 ·exact Wa
 ·simp
 rintro⟨i,n⟩ ⟨h1,h2⟩ A hA
 simp only at h1 h2
 by_cases hi:i<l.length
 case neg=>
  rw[Zni hi] at h2
  have s_:=An @hi (Eq.symm (h2))
  exact WW
 rw[ZqZ hi] at h2
 by_cases hn:n<=200
 case neg=>
  rw[if_neg hn] at h2
  have s_:=An @hi (An @hn (Eq.symm (h2)))
  exact WW
 rw[if_pos hn] at h2
 have hw2:=Zg hi hfit.1
 by_cases ht:5000<l[i].text.size
 ·rw[if_pos ht] at h2
  have s_:=An @hi (An @hn (An @NodeR.enc.eq_1 (An @ht (Eq.symm (h2)))))
  exact WW
 ·rw[if_neg ht] at h2
  have s_:=An @hi (An @hn (An @NodeR.enc.eq_1 (An @hw2 (@ht))))
  try simp[s_]
  repeat' ((first|((first|refine Tp ?_|refine Tn ?_|refine T2 ?_ ?_)<;>intro h_ e_ n_)|(exact hA (i+1,IntKind.i64.wrap (n+l[i].l.length)) _ Wa ⟨by simp only;omega,h2⟩ (by simp only;omega))|rw[Ip]|rw[In]|rw[Fz]|rw[Gz]|fail)<;>first|simp[e_,n_,s_]|simp[s_]|skip)
theorem out1_ok (n:NodeR) (k:Int):Zb Tryz.prog 348 [encN n,.fp [I k]] (B (decide (n.ino=k))):=by
 refine Pm Tryz.func348 λhfit=> ?_
 simp[Tryz.f348,NodeR.enc]
theorem tout_ok (f:FSR) (k:Int) (hl:f.l.length<=1000000):Zb Tryz.prog 339 [encF f,I k] (encF (outF f k)):=by
 refine Pm Tryz.func339 λhfit=> ?_
 have hdel:=ZnR f.l 348 [.ptr 1 0 0] [.fp [I k]] [.cells 0 [I k]] (λn=>decide (n.ino=k)) (by simp) (by simp) (by simp) (λfu b0 tl=>by simp) (λx _=>out1_ok x k) hl
 simp[Tryz.f339,FSR.enc]
 refine AW.wkZ (WkZ.freeze [0] 2 (.fp [encL NodeR.enc f.l,I f.next]) (by simp)) ?_
 simp
 refine Dg 1 8 [] [(1,.t),(2,.e),(4,.e),(6,.t)] ?_
 simp
 refine ADcall.fresh [] (Zkz f.l hl) (by simp) (by simp) ?_
 simp
 refine ADcall.fresh [3,1] hdel (by simp) (by simp) ?_
 simp[outF,outS,FSR.enc]
 rw[Zav (by simp) (by simp)]
 simp[FSR.enc]
theorem ZeO (f:FSR) (n:NodeR) (hl:f.l.length<=100000) (hn:inI n.ino) (hm:n.ino≠9223372036854775807):Zb Tryz.prog 315 [encF f,encN n] (encF (putB f n)):=by
 obtain⟨hn1,hn2⟩:=hn
 have hw:IntKind.i64.wrap (n.ino+1)=n.ino+1:=Zh (by omega) (by omega)
 have hse:=ZfF f.l n.ino (by omega)
 have hple:=plc_le f.l n.ino
 by_cases h:plc f.l n.ino<f.l.length/\Zcm f.l (plc f.l n.ino)=n.ino
 ·obtain⟨h1,h2⟩:=h
  refine Pm Tryz.func315 λhfit=> ?_
  simp only[putB,if_pos (An h1 h2)]
  generalize plc f.l n.ino=q at*
  simp[Tryz.f315,FSR.enc]
  have s_:=An @FSR.enc.eq_1 (An @h1 (An @h2 (@hw)))
  have f1_:=F0 [] (Zkz f.l (by omega))
  have p1_:=hse
  exact WW
 ·refine Pm Tryz.func315 λhfit=> ?_
  simp only[putB,if_neg h]
  have hdec:(decide (plc f.l n.ino<f.l.length)&&decide (Zcm f.l (plc f.l n.ino)=n.ino))=false:=by
   rw[Bool.eq_false_iff];simpa using h
  rw[hdec] at hse
  generalize plc f.l n.ino=q at*
  have hins:=ZrV f.l q n hple (by omega)
  simp[Tryz.f315,FSR.enc]
  have s_:=An @FSR.enc.eq_1 (@hw)
  have f1_:=F0 [] (Zkz f.l (by omega))
  have f2_:=F0 [3] hins
  have p1_:=hse
  exact WW
abbrev ZuY (f:FSR) (m:MI):Za:=[.cells 0 [encL NodeR.enc f.l,I f.next],.map (mKs m) (mVs m),.cells 0 [.mp 1],.cells 0 [.fn 165 [.ptr 0 0 0,.ptr 2 0 0,.ptr 3 0 0]]]
theorem ZuZ (f:FSR) (hl:f.l.length<=1000000) (hE:∀n∈f.l,n.l.length<=256):∀(fuel:Nat) (ino:Int) (m:MI) (c:Nat),MOk m c->c+(Zbj (Zn f.l) m+1)*256<=1099511627776->Zbj (Zn f.l) m<fuel->
  Zeq Tryz.prog 165 [I ino,.ptr 0 0 0,.ptr 2 0 0,.ptr 3 0 0] (ZuY f m) (.tup []) (ZuY f (Zcz (Zv f.l) fuel ino m)):=by
 intro fuel
 induction fuel with
 |zero=>intro ino m c _ _ h;omega
 |succ fuel ih=>
 intro ino m c hm hc hu
 have hfind:=find_ok f ino hl
 refine Zeq.mk' (λ_=>false) Tryz.func165 rfl rfl rfl (Ent.mk Tryz.func165 (by kernel_rfl) rfl) (by simp) (by simp) (by simp) (by simp) (by simp) λhfit=> ?_
 rw[ZdW]
 simp[Tryz.f165]
 generalize hes:(findB f.l ino).1=n at*
 have hkid:Zv f.l ino=n.l.map (·.ino):=by unfold Zv;rw[hes]
 try simp
 repeat' ((first|((first|refine Tp ?_|refine Tn ?_|refine T2 ?_ ?_)<;>intro h_ e_ n_)|refine Pg hfind ?_|rw[Ip]|rw[In]|rw[Fz]|rw[Gz]|fail)<;>first|simp[e_,n_]|simp|skip)
 have hnl:n.l.length<=256:=by
  have:=ZeE hE ino
  rwa[hkid,List.length_map] at this
 refine AW.loopG (lit:=λ_=>false) (λx:Nat×MI×Nat=>⟨37,pat [(1,.ptr 0 0 0),(2,.ptr 2 0 0),(3,.ptr 3 0 0),(16,encL EntryR.enc n.l),(17,I n.l.length),(18,I x.1)],ZuY f x.2.1⟩) (λx=>n.l.length -x.1)
  (λx=>x.1<=n.l.length/\x.2.1=((n.l.take x.1).map (·.ino)).foldl (Zx (Zv f.l) fuel) m/\MOk x.2.1 x.2.2/\x.2.2+Zbj (Zn f.l) x.2.1*256<=c+Zbj (Zn f.l) m*256+x.1/\Zbj (Zn f.l) x.2.1<=Zbj (Zn f.l) m) (0,m,c) ?_ ?_ ?_
 ·exact Wc
 ·exact⟨by simp,by simp,hm,by simp,Nat.le_refl _⟩
 rintro⟨i,m',c'⟩ ⟨g1,g2,g3,g4,g5⟩ A hA
 simp only at g1 g2 g3 g4 g5 hA
 by_cases hi:i<n.l.length
 case neg=>
  have hti:n.l.take i=n.l:=List.take_of_length_le (by omega)
  rw[hti,<-hkid] at g2
  subst g2
  have s_:=An @hi (@PostA_n)
  exact WW
 have hkk:n.l[i].ino∈Zn f.l:=ZaK f.l ino _ (by rw[hkid];exact List.mem_map_of_mem (List.getElem_mem hi))
 have hg0:=g3.nonneg n.l[i].ino
 have hgc:=g3.le n.l[i].ino
 have hw1:IntKind.i64.wrap (getM m' n.l[i].ino+1)=getM m' n.l[i].ino+1:=Zh (by omega) (by omega)
 have hg2:getM (setM m' n.l[i].ino (getM m' n.l[i].ino+1)) n.l[i].ino=getM m' n.l[i].ino+1:=by rw[ZdS,if_pos rfl]
 have hwi:IntKind.i64.wrap ((i:Int)+1)=((i+1:Nat):Int):=by rw[IntKind.wrap_i64];omega
 have hstep:Zx (Zv f.l) fuel m' n.l[i].ino=((n.l.take (i+1)).map (·.ino)).foldl (Zx (Zv f.l) fuel) m:=by
  rw[List.take_succ_eq_append_getElem hi,List.map_append,List.foldl_append,<-g2];rfl
 obtain⟨s1,c1,o1,b1⟩:=Znj (ZaK f.l) (ZeE hE) fuel hkk g3
 have hum:=Zce (U:=Zn f.l) s1
 by_cases h0:getM m' n.l[i].ino=0
 ·have hn:=(g3.zero _).1 h0
  have hui:=ZdX hkk hn
  have hrec:=ih n.l[i].ino (incM m' n.l[i].ino) (c'+1) (g3.inc _) (by omega) (by omega)
  rw[Zx,if_pos h0] at hstep hum o1 b1
  have hinc:setM m' n.l[i].ino 1=incM m' n.l[i].ino:=by rw[incM,h0];rfl
  have hg3:getM (incM m' n.l[i].ino) n.l[i].ino=1:=by rw[incM,ZdS,if_pos rfl,h0];rfl
  have s_:=An @hi (An @h0 (An @hinc (An @hg3 (@hwi))))
  have q1_:=λs w=>hA (i+1,_,c1) s w ⟨hi,hstep,o1,by simp only;omega,by simp only;omega⟩ (by simp only;omega)
  have f1_:=H0 [0,1,2,3] hrec
  exact WW
 ·rw[Zx,if_neg h0] at hstep hum o1 b1
  have hg3:getM (incM m' n.l[i].ino) n.l[i].ino=getM m' n.l[i].ino+1:=by rw[incM,ZdS,if_pos rfl]
  obtain⟨m2,hm2⟩:∃m2,m2=incM m' n.l[i].ino:=⟨_,rfl⟩
  have hinc:setM m' n.l[i].ino (getM m' n.l[i].ino+1)=m2:=hm2.symm
  rw[<-hm2] at hstep hum o1 b1 hg3
  have s_:=An @hi (An @h0 (An @hw1 (An @hinc (An @hg3 (@hwi)))))
  have q1_:=λs w=>hA (i+1,_,c1) s w ⟨hi,hstep,o1,by simp only;omega,by simp only;omega⟩ (by simp only;omega)
  exact WW
theorem ZpF (f:FSR) (top:Int) (hl:f.l.length<=1000000) (hE:∀n∈f.l,n.l.length<=256):Zb Tryz.prog 119 [encF f,I top] (.fmap (mKs (Zdj f.l top)) (mVs (Zdj f.l top))):=by
 have hak:=ZbV hE
 have hun:Zbj (Zn f.l) []<=(Zn f.l).length:=List.length_filter_le _ _
 have h1:=ZuZ f hl hE ((Zn f.l).length+1) top [] 0 .nil (by omega) (by omega)
 refine Pm Tryz.func119 λhfit=> ?_
 simp[Tryz.f119,FSR.enc]
 have s_:= @FSR.enc.eq_1
 try simp[s_]
 repeat' ((first|((first|refine Tp ?_|refine Tn ?_|refine T2 ?_ ?_)<;>intro h_ e_ n_)|(refine AInv.heap [0,1,2,3] h1 (by simp) (by simp) ?_;simp)|rw[Ip]|rw[In]|rw[Fz]|rw[Gz]|fail)<;>first|simp[e_,n_,s_]|simp[s_]|skip)
 simp[Zdj,Function.comp_def]
theorem ZxQ (f:FSR) (ino top:Int) (hl:f.l.length<=1000000) (hE:∀n∈f.l,n.l.length<=256):Zb Tryz.prog 321 [encF f,I ino,I top] (B (decide (0<getM (Zdj f.l top) ino))):=by
 have hun:=ZpF f top hl hE
 refine Pm Tryz.func321 λhfit=> ?_
 simp[Tryz.f321,FSR.enc]
 have s_:= @FSR.enc.eq_1
 have p1_:=hun
 exact WW
theorem Zva (f:FSR):Zb Tryz.prog 118 [encF f] (.fmap (mKs (countsS f.l [])) (mVs (countsS f.l []))):=by
 refine Pm Tryz.func118 λhfit=> ?_
 obtain⟨l,next⟩:=f
 simp[FSR.enc] at hfit
 simp[Tryz.f118,FSR.enc]
 refine AW.loopG (lit:=λ_=>false) (λx:Nat×MI=>⟨31,pat [(3,.mp 1),(10,encL NodeR.enc l),(11,I l.length),(12,I x.1)],[.cells 0 [encL NodeR.enc l,I next],.map (mKs x.2) (mVs x.2)]⟩) (λx=>l.length -x.1) (λx=>x.1<=l.length/\countsS (l.drop x.1) x.2=countsS l []) (0,[]) ?_ ?_ ?_
 ·exact Wa
 ·simp
 rintro⟨i,m⟩ ⟨h1,h2⟩ A hA
 simp only at h1 h2
 by_cases hi:i<l.length
 case neg=>
  rw[List.drop_eq_nil_of_le (by omega)] at h2
  have h2':countsS l []=m:=h2.symm
  have s_:=An @hi (@h2')
  exact WW
 have hw:=Zg hi hfit.1
 rw[List.drop_eq_getElem_cons hi] at h2
 have s_:=hi
 try simp[s_]
 repeat' ((first|((first|refine Tp ?_|refine Tn ?_|refine T2 ?_ ?_)<;>intro h_ e_ n_)|rw[Ip]|rw[In]|rw[Fz]|rw[Gz]|fail)<;>first|simp[e_,n_,s_]|simp[s_]|skip)
 refine AW.loopG (lit:=λ_=>false) (λx:Nat×MI=>⟨31,pat [(3,.mp 1),(10,encL NodeR.enc l),(11,I l.length),(12,I i),(17,encL EntryR.enc l[i].l),(18,I l[i].l.length),(19,I x.1)],[.cells 0 [encL NodeR.enc l,I next],.map (mKs x.2) (mVs x.2)]⟩) (λx=>l[i].l.length -x.1) (λx=>x.1<=l[i].l.length/\Zcf (l[i].l.drop x.1) x.2=Zcf l[i].l m) (0,m) ?_ ?_ ?_
 ·exact Wc
 ·simp
 rintro⟨j,m'⟩ ⟨h3,h4⟩ A' hA'
 simp only at h3 h4
 by_cases hj:j<l[i].l.length
 case neg=>
  rw[List.drop_eq_nil_of_le (by omega)] at h4
  have h4':Zcf l[i].l m=m':=h4.symm
  have h5:countsS (l.drop (i+1)) m'=countsS l []:=by rw[<-h4',<-h2];rfl
  have s_:=An @hj (@hw)
  have q1_:=λs w=>hA (i+1,m') s w ⟨hi,h5⟩ (by simp only;omega)
  exact WW
 rw[List.drop_eq_getElem_cons hj] at h4
 have hel:l[i].l.length<=maxLen:=by
  have:=hfit.2 l[i] (List.getElem_mem hi) (encL EntryR.enc l[i].l) (by simp[NodeR.enc])
  simp at this
  exact this.1
 have hwj:=Zg hj hel
 obtain⟨m2,hm2⟩:∃m2,m2=setM m' l[i].l[j].ino (IntKind.i64.wrap (getM m' l[i].l[j].ino+1)):=⟨_,rfl⟩
 have h4':Zcf (l[i].l.drop (j+1)) m2=Zcf l[i].l m:=by rw[<-h4,hm2];rfl
 have hinc:=hm2.symm
 have s_:=An @hj (An @hwj (@hinc))
 try simp[s_]
 repeat' ((first|((first|refine Tp ?_|refine Tn ?_|refine T2 ?_ ?_)<;>intro h_ e_ n_)|(exact hA' (j+1,m2) _ Wc ⟨hj,h4'⟩ (by simp only;omega))|rw[Ip]|rw[In]|rw[Fz]|rw[Gz]|fail)<;>first|simp[e_,n_,s_]|simp[s_]|skip)
theorem ZkA (f:FSR):Zb Tryz.prog 63 [encF f] (B (rightF f)):=by
 have hrows:=rows_ok f
 have hcts:=Zva f
 by_cases hr:Zcd f=true
 case neg=>
  have hr':Zcd f=false:=by simpa using hr
  rw[hr'] at hrows
  refine Pm Tryz.func63 λhfit=> ?_
  have d1_:=D0 3 6 [] []
  simp[Tryz.f63,FSR.enc,rightF,hr']
  have s_:= @FSR.enc.eq_1
  have p1_:=hrows
  exact WW
 obtain⟨hl,hE,_⟩:=Zlz hr
 have hun:=ZpF f 1 (by omega) hE
 rw[hr] at hrows
 generalize hcc:countsS f.l []=C at*
 generalize huu:Zdj f.l 1=U at*
 have hri:rightF f=(Zhv f.l&&C.all (λp=>(findB f.l p.1).2)&&f.l.all (ZcY C U)):=by
  simp only[rightF,hr,hcc,huu,Bool.true_and]
 rw[hri]
 clear hri
 obtain⟨l,next⟩:=f
 simp only at*
 cases l with
 |nil=>
  refine Pm Tryz.func63 λhfit=> ?_
  have d1_:=D0 3 6 [] []
  simp[Tryz.f63,FSR.enc]
  have s_:= @FSR.enc.eq_1
  have p1_:=hrows
  exact WW
 |cons r l=>
 by_cases h1:r.ino=1
 case neg=>
  refine Pm Tryz.func63 λhfit=> ?_
  have d1_:=D0 3 6 [] []
  simp[Tryz.f63,FSR.enc,h1]
  have s_:=An @FSR.enc.eq_1 (An @h1 (@NodeR.enc.eq_1))
  have p1_:=hrows
  exact WW
 by_cases h2:r.kind=2
 case neg=>
  refine Pm Tryz.func63 λhfit=> ?_
  have d1_:=D0 3 6 [] []
  simp[Tryz.f63,FSR.enc,h1,h2]
  have s_:=An @FSR.enc.eq_1 (An @h1 (An @h2 (@NodeR.enc.eq_1)))
  have p1_:=hrows
  exact WW
 by_cases h3:r.links=0
 case neg=>
  refine Pm Tryz.func63 λhfit=> ?_
  have d1_:=D0 3 6 [] []
  simp[Tryz.f63,FSR.enc,h1,h2,h3]
  have s_:=An @FSR.enc.eq_1 (An @h1 (An @h2 (An @h3 (@NodeR.enc.eq_1))))
  have p1_:=hrows
  exact WW
 have hf0:=λk=>find_ok ⟨r::l,next⟩ k (by simp only;omega)
 obtain⟨NN,hNN⟩:∃NN,NN=(r::l).all (ZcY C U):=⟨_,rfl⟩
 rw[<-hNN]
 have hee:List.flatMap NodeR.enc (r::l)=r.enc++l.flatMap NodeR.enc:=rfl
 refine Pm Tryz.func63 λhfit=> ?_
 have d1_:=D0 3 6 [] []
 simp[Tryz.f63,FSR.enc,h1,h2,h3]
 have hm73:isMap Tryz.prog 176=true:=by kernel_rfl
 have s_:=An @FSR.enc.eq_1 (An @h1 (An @h2 (An @h3 (An @NodeR.enc.eq_1 (@hm73)))))
 try simp[s_]
 repeat' ((first|((first|refine Tp ?_|refine Tn ?_|refine T2 ?_ ?_)<;>intro h_ e_ n_)|refine Pg hrows ?_|refine Pg hcts ?_|refine Pg hun ?_|refine Dg 3 6 [] [] ?_|rw[Ip]|rw[In]|rw[Fz]|rw[Gz]|fail)<;>first|simp[e_,n_,s_]|simp[s_]|skip)
 refine AW.loopG (lit:=λ_=>false) (λx:List Nat×Option Nat=>⟨103,pat [(1,.ptr 0 0 0),(3,.fmap (mKs C) (mVs C)),(4,.fmap (mKs U) (mVs U)),(48,.ptr 1 0 0)],[.cells 0 [encL NodeR.enc (r::l),I next],.iter (mKs C) (mVs C) x.1 x.2]⟩) (λx=>x.1.length) (λx=>x.1.Nodup/\∀i p,C[i]? =some p->i∉x.1->(findB (r::l) p.1).2=true) (List.range C.length,none) ?_ ?_ ?_
 ·exact Wa
 ·refine⟨List.nodup_range,λi p hp hn=> ?_⟩
  have:=(List.getElem?_eq_some_iff.1 hp).1
  simp[List.mem_range] at hn
  omega
 rintro⟨todo,cur⟩ ⟨hnd,hfound⟩ A hA
 simp only at hnd hfound hA
 simp
 refine⟨λhtodo=> ?_,?_⟩
 ·subst htodo
  have hall:C.all (λp=>(findB (r::l) p.1).2)=true:=List.all_eq_true.2 λp hp=>by
   obtain⟨i,hi,e⟩:=List.getElem_of_mem hp
   exact hfound i p (by rw[List.getElem?_eq_getElem hi,e]) (by simp)
  simp only[hall,Bool.and_true]
  refine AW.loopG (lit:=λ_=>false) (λi:Nat=>⟨103,pat [(1,.ptr 0 0 0),(3,.fmap (mKs C) (mVs C)),(4,.fmap (mKs U) (mVs U)),(62,encL NodeR.enc (r::l)),(63,I (r::l).length),(64,I i)],[.cells 0 [encL NodeR.enc (r::l),I next]]⟩) (λi=>(r::l).length -i) (λi=>i<=(r::l).length/\((r::l).drop i).all (ZcY C U)=NN) 0 ?_ ?_ ?_
  ·exact Wc
  ·simp[hNN]
  generalize hL:r::l=L at*
  rintro i ⟨g1,g2⟩ K hK
  by_cases hi:i<L.length
  case neg=>
   rw[List.drop_eq_nil_of_le (by omega)] at g2
   have g2':NN=true:=g2.symm
   have s_:=An @hi (An @g2' (An @h1 (An @h2 (@h3))))
   exact WW
  rw[List.drop_eq_getElem_cons hi,List.all_cons] at g2
  have hw:=Zg hi (by simp only[maxLen];omega)
  by_cases c1:L[i].links=getM C L[i].ino
  case neg=>
   have g3:NN=false:=by rw[<-g2];simp[ZcY,c1]
   have s_:=An @hi (An @hw (An @c1 (@g3)))
   exact WW
  have c1':=c1.symm
  by_cases c2:1<L[i].ino
  case neg=>
   have g3:(L.drop (i+1)).all (ZcY C U)=NN:=by rw[<-g2];simp[ZcY,c1',c2]
   have s_:=An @hi (An @hw (An @c1' (@c2)))
   have q1_:=λs w=>hK (i+1) s w ⟨hi,g3⟩ (by omega)
   exact WW
  by_cases c3:L[i].links<1
  ·have g3:NN=false:=by rw[<-g2];simp[ZcY,c1',c2,c3]
   have s_:=An @hi (An @hw (An @c1' (An @c2 (An @c3 (@g3)))))
   exact WW
  by_cases c4:L[i].kind=2
  case neg=>
   have g3:(L.drop (i+1)).all (ZcY C U)=NN:=by rw[<-g2];simp[ZcY,c1',c2,c3,c4]
   have s_:=An @hi (An @hw (An @c1' (An @c2 (An @c3 (@c4)))))
   have q1_:=λs w=>hK (i+1) s w ⟨hi,g3⟩ (by omega)
   exact WW
  by_cases c5:L[i].links=1
  case neg=>
   have g3:NN=false:=by rw[<-g2];simp[ZcY,c1',c2,c4,c5]
   have s_:=An @hi (An @hw (An @c1' (An @c2 (An @c3 (An @c4 (An @c5 (@g3)))))))
   exact WW
  by_cases c6:getM U L[i].ino=0
  ·have g3:NN=false:=by rw[<-g2];simp[ZcY,c1',c2,c4,c6]
   have s_:=An @hi (An @hw (An @c1' (An @c2 (An @c3 (An @c4 (An @c5 (An @c6 (@g3))))))))
   exact WW
  ·have g3:(L.drop (i+1)).all (ZcY C U)=NN:=by rw[<-g2];simp[ZcY,c1',c2,c3,c4,c5,c6]
   have s_:=An @hi (An @hw (An @c1' (An @c2 (An @c3 (An @c4 (An @c5 (@c6)))))))
   have q1_:=λs w=>hK (i+1) s w ⟨hi,g3⟩ (by omega)
   exact WW
 ·intro i k v hi a b hc hk a' b' hc' hv
  subst hk hv
  have hfa:=hf0 a
  have hn:(todo.erase i).Nodup:=hnd.erase _
  have hlen:(todo.erase i).length<todo.length:=by
   have:=List.length_pos_of_mem hi
   rw[List.length_erase_of_mem hi];omega
  cases hfb:(findB (r::l) a).2 with
  |false=>
   have hall:C.all (λp=>(findB (r::l) p.1).2)=false:=by
    rw[Bool.eq_false_iff]
    intro h
    have:=List.all_eq_true.1 h (a,b) (List.mem_of_getElem? hc)
    rw[hfb] at this
    cases this
   simp only at hfa
   rw[hfb] at hfa
   simp[hc]
   have s_:=An @FSR.enc.eq_1 (@hall)
   have p1_:=hfa
   exact WW
  |true=>
   have hfound':∀j p,C[j]? =some p->j∉todo.erase i->(findB (r::l) p.1).2=true:=λj p hp hn=>by
    by_cases hji:j=i
    ·subst hji;rw[hc] at hp;injection hp with hp;subst hp;exact hfb
    ·exact hfound j p hp λhj=>hn ((List.mem_erase_of_ne hji).2 hj)
   simp only at hfa
   rw[hfb] at hfa
   simp[hc]
   have s_:= @FSR.enc.eq_1
   have q1_:=λs w=>hA (todo.erase i,some i) s w ⟨hn,hfound'⟩ hlen
   have p1_:=hfa
   exact WW
theorem bytesS (a b:ByteArray):Lib.compareBytes a.data.toList b.data.toList=cmpS a b:=by
 have key:∀x y:List UInt8,Lib.compareBytes x y=if x=y then 0 else if Op.bytesLess x y=true then-1 else 1:=by
  intro x
  induction x with
  |nil=>intro y;cases y<;>simp[Lib.compareBytes,Op.bytesLess]
  |cons a x ih=>
   intro y
   cases y with
   |nil=>simp[Lib.compareBytes,Op.bytesLess]
   |cons b y=>
    simp only[Lib.compareBytes,Op.bytesLess,ih]
    by_cases h1:a<b
    ·have:¬a=b:=λe=>by subst e;exact absurd h1 (UInt8.lt_irrefl _)
     simp[h1,this]
    ·by_cases h2:b<a
     ·have:¬a=b:=λe=>by subst e;exact absurd h2 (UInt8.lt_irrefl _)
      simp[h1,h2,this]
     ·have:a=b:=by
       by_cases q:a=b
       ·exact q
       ·rcases UInt8.lt_or_lt_of_ne q with q|q
        ·exact absurd q h1
        ·exact absurd q h2
      subst this
      simp[h1]
 rw[key]
 unfold cmpS Zac
 rw[ByteArray.toList_eq,ByteArray.toList_eq]
 have:(a.data.toList=b.data.toList)=(a=b):=by
  apply propext
  constructor
  ·intro h;cases a;cases b;congr 1;exact Array.ext' h
  ·intro h;rw[h]
 simp only[this]
theorem Zvb (a b:ByteArray):Zb Tryz.prog 332 [S a,S b] (I (cmpS a b)):=by
 refine Zb.ofCalls (by simp) rfl (Ent.mk Tryz.func332 (by kernel_rfl) rfl) λZ w cargs hz hr=> ?_
 cases hr with
 |cons h1 h2=>
  cases h2 with
  |cons h2 h3=>
   cases h3
   have hs:=Zaf h1 rfl
   have hs2:=Zaf h2 rfl
   subst hs hs2
   refine(Tryz.strings_Compare a b w).mono λe w' ⟨he,hw⟩=>⟨?_,by rw[hw];exact .refl _ _⟩
   rw[he,bytesS]
theorem Zid (x:EntryR) (s:ByteArray):Zb Tryz.prog 331 [.agg x.enc,S s] (I (cmpS x.name s)):=by
 refine Pm Tryz.func331 λhfit=> ?_
 simp[Tryz.f331,EntryR.enc]
 have s_:= @EntryR.enc.eq_1
 have p1_:=Zvb x.name s
 exact WW
theorem ZnS (l:List EntryR) (s:ByteArray) (hl:l.length<=1000000):Zb Tryz.prog 330 [encL EntryR.enc l,S s,.fn 331 []] (.tup [I (bsGo (atE l s) 0 0 l.length),B (decide (bsGo (atE l s) 0 0 l.length<l.length)&&decide (atE l s (bsGo (atE l s) 0 0 l.length)=0))]):=by
 refine Pm Tryz.func330 λhfit=> ?_
 simp at hfit
 simp[Tryz.f330]
 refine AW.loopG (lit:=λ_=>false) (λx:Nat×Nat=>⟨49,pat [(0,encL EntryR.enc l),(1,S s),(2,.fn 331 []),(8,I l.length),(9,I x.1),(10,I x.2)],[]⟩) (λx=>x.2 -x.1) (λx=>x.1<=x.2/\x.2<=l.length/\bsGo (atE l s) 0 x.1 x.2=bsGo (atE l s) 0 0 l.length) (0,l.length) ?_ ?_ ?_
 ·exact Wk.at _ rfl rfl (by simp)
 ·simp
 rintro⟨i,j⟩ ⟨h1,h2,h3⟩ A hA
 simp only at h1 h2 h3
 by_cases h:i<j
 case neg=>
  have hij:i=j:=by omega
  subst hij
  rw[Zdw h] at h3
  by_cases hi:i<l.length
  ·have e1:=ZeG s hi
   have s_:=An @h (An @hi (An (Eq.symm (h3)) (An @EntryR.enc.eq_1 (@e1))))
   have p1_:=Zid l[i] s
   exact WW
  ·have s_:=An @h (An @hi (Eq.symm (h3)))
   exact WW
 rw[Zdv h] at h3
 have hm:(i+j)/2<l.length:=by omega
 have e1:=ZeG s hm
 have w1:IntKind.i64.wrap ((i:Int)+j)=(i:Int)+j:=Zh (by omega) (by omega)
 have w2:((i:Int)+j)%18446744073709551616=(i:Int)+j:=by omega
 have w3:((i:Int)+j).fdiv 2=(((i+j)/2:Nat):Int):=by rw[Int.fdiv_eq_ediv_of_nonneg _ (by omega)];omega
 have w4:IntKind.i64.wrap (((i+j)/2:Nat):Int)=(((i+j)/2:Nat):Int):=Zh (by omega) (by omega)
 generalize hmm:(i+j)/2=m at*
 have w5:IntKind.i64.wrap ((m:Int)+1)=((m+1:Nat):Int):=by rw[Zh (by omega) (by omega)];omega
 have hk:atE l s m<0\/¬atE l s m<0:=Classical.em _
 rcases hk with hk|hk
 ·rw[if_pos hk] at h3
  rw[e1] at hk
  have s_:=An @h (An @w1 (An @w2 (An @w3 (An @w4 (An @w5 (An @hm (An @EntryR.enc.eq_1 (@hk))))))))
  have q1_:=λs w=>hA (m+1,j) s w ⟨by simp only;omega,h2,h3⟩ (by simp only;omega)
  have p1_:=Zid l[m] s
  exact WW
 ·rw[if_neg hk] at h3
  rw[e1] at hk
  have s_:=An @h (An @w1 (An @w2 (An @w3 (An @w4 (An @w5 (An @hm (An @EntryR.enc.eq_1 (@hk))))))))
  have q1_:=λs w=>hA (i,m) s w ⟨by simp only;omega,by simp only;omega,h3⟩ (by simp only;omega)
  have p1_:=Zid l[m] s
  exact WW
theorem ZkB (l:List EntryR) (s:ByteArray) (hr:Zai l=true) (hl:l.length<=1000000):Zb Tryz.prog 309 [encL EntryR.enc l,S s] (.tup [I (plE l s),B (findE l s).2]):=by
 have h1:=ZnS l s hl
 rw[bs_plE hr,(ZgJ hr s).1] at h1
 refine Pm Tryz.func309 λhfit=> ?_
 simp[Tryz.f309]
 exact WW
theorem ZgN (l:List EntryR) (s:ByteArray) (hr:Zai l=true) (hl:l.length<=1000000):Zb Tryz.prog 263 [encL EntryR.enc l,S s] (.tup [I (findE l s).1,B (findE l s).2]):=by
 have h1:=ZkB l s hr hl
 have h2:=(ZgJ hr s).2
 rcases findE_cases l s with⟨x,_,_,e⟩|⟨_,e⟩
 ·rw[e] at h1 h2⊢
  obtain⟨hp,e1,e2⟩:=h2 rfl
  simp only at h1 e2⊢
  generalize plE l s=q at*
  rw[e2]
  refine Pm Tryz.func263 λhfit=> ?_
  simp[Tryz.f263]
  have s_:=An @hp (@EntryR.enc.eq_1)
  exact WW
 ·rw[e] at h1⊢
  simp only at h1⊢
  refine Pm Tryz.func263 λhfit=> ?_
  simp[Tryz.f263]
  exact WW
theorem ZrX (l:List EntryR) (i:Nat) (x:EntryR) (hi:i<=l.length) (hl:l.length<=1000000):XCall Tryz.prog 346 [.own 0 0 0 l.length 2,I i,.sl true 1 x.enc] [.cells 0 (l.flatMap EntryR.enc)] (.own 0 1 0 (l.length+1) 2) [.cells 1 ((insL l i x).flatMap EntryR.enc)]:=by
 by_cases hi2:i=l.length
 case pos=>
  subst hi2
  refine XCall.mkG (λs (_:Unit)=>s) (λ_=>false) Tryz.func346 rfl rfl rfl (Ent.mk Tryz.func346 (by kernel_rfl) rfl) (by simp) (by simp) (by simp) (by simp) (by simp) λhfit=> ?_
  refine⟨WkE.one _ _,λ_=> ?_⟩
  simp[Tryz.f346]
  rw[if_pos (by simp only[maxLen];omega)]
  simp
  exact⟨_,Wk.refl _ _,by simp[ZdV]⟩
 have hi3:i<l.length:=by omega
 have hcp:∀cap,l.length<=cap->(l.length*2+(cap*2 -l.length*2))/2=cap:=λcap h=>by omega
 have hw1:IntKind.i64.wrap ((l.length:Int)+1)=((l.length+1:Nat):Int):=by rw[Zh (by omega) (by omega)];omega
 have hw2:IntKind.i64.wrap ((i:Int)+1)=((i+1:Nat):Int):=by rw[Zh (by omega) (by omega)];omega
 have hw3:IntKind.i64.wrap ((l.length:Int)+1 -i)=((l.length+1 -i:Nat):Int):=by rw[Zh (by omega) (by omega)];omega
 have hw4:((i:Int)+((l.length+1 -i:Nat):Int)).toNat=l.length+1:=by omega
 have hm1:min 1 (l.length+1 -i)=1:=by omega
 have hm2:∀cap,l.length<=cap->min (i*2) (l.length*2+(cap*2 -l.length*2))=i*2:=λcap h=>by omega
 have hov:∀(lb:Nat) (h:Za) (y:ABlk) (Q:AV->Za->Prop),h[0]? =some y->(blkCells y).map (·.1)=some 0->Q (B false) h->AInv Tryz.prog (.fn 352 []) [.sl true 1 x.enc,.own 0 0 (i+1) lb 2] h Q:=λlb h y Q hy hv hq=>
  Zbz Tryz.func352 (by kernel_rfl) rfl (by kernel_rfl) rfl rfl (by kernel_rfl) (k:=2) (by kernel_rfl) true 1 _ _ 0 0 (i+1) lb hy hv (by omega) Q hq
 refine XCall.mkG (λs (cap:{cap:Nat//l.length<=cap/\cap<=maxLen})=>Zcl s 0 0 2 (l.flatMap EntryR.enc) cap.1) (λ_=>false) Tryz.func346 rfl rfl rfl (Ent.mk Tryz.func346 (by kernel_rfl) rfl) (by simp) (by simp) (by simp) (by simp) (by simp) λhfit=> ?_
 refine⟨WkE.full (t:=0) (by simp) (by simp) (by omega) (by simp),?_⟩
 rintro⟨cap,hc1,hc2⟩
 have hcp1:=hcp cap hc1
 have hm3:=hm2 cap hc1
 have hi4:¬i=l.length:=by omega
 have hle:i<=l.length:=by omega
 generalize hA:List.replicate (cap*2 -l.length*2) AV.any=A
 have hAl:A.length=cap*2 -l.length*2:=by rw[<-hA];simp
 have hLl:(l.flatMap EntryR.enc).length=l.length*2:=ZdR l
 have hta:(l.flatMap EntryR.enc++A).take (i*2)=(l.flatMap EntryR.enc).take (i*2):=List.take_append_of_le_length (by rw[hLl];omega)
 have hdr:(l.flatMap EntryR.enc).drop (i*2)=(l.drop i).flatMap EntryR.enc:=Zgp l i
 have hq0:(l.flatMap EntryR.enc++A).drop (i*2)=(l.drop i).flatMap EntryR.enc++A:=by rw[List.drop_append_of_le_length (by rw[hLl];omega),hdr]
 have hdl:((l.drop i).flatMap EntryR.enc).length=l.length*2 -i*2:=by rw[ZdR,List.length_drop];omega
 by_cases hr:l.length+1<=cap
 ·have hm4:min (l.length+1 -i) (l.length -i)=l.length -i:=by omega
  have hm5:min ((l.length+1 -i)*2) ((l.length -i)*2+(cap*2 -l.length*2))=(l.length+1 -i)*2:=by omega
  have hm6:min ((l.length+1 -i)*2) (l.length*2+(cap*2 -l.length*2) -i*2)=(l.length+1 -i)*2:=by omega
  have hq1:List.take ((l.length -i)*2) (List.take ((l.length+1 -i)*2) ((l.drop i).flatMap EntryR.enc++A))=(l.drop i).flatMap EntryR.enc:=by
   rw[List.take_take,Nat.min_eq_left (by omega),List.take_left' (by rw[hdl];omega)]
  have hq2:(putAt (l.flatMap EntryR.enc++A) ((i+1)*2) ((l.drop i).flatMap EntryR.enc)).length=cap*2:=by
   rw[ZE (by rw[List.length_append,hLl,hAl,hdl];omega),List.length_append,hLl,hAl];omega
  have hq3:(putAt (putAt (l.flatMap EntryR.enc++A) ((i+1)*2) ((l.drop i).flatMap EntryR.enc)) (i*2) x.enc).take ((l.length+1)*2)=(insL l i x).flatMap EntryR.enc:=by
   have:=ZdT (L:=l.flatMap EntryR.enc) (A:=A) (X:=x.enc) (a:=i*2) (k:=2) hLl (by omega) rfl (by rw[hAl];omega)
   rw[ZiR,hq0,List.take_left' (by rw[hdl])] at this
   rw[show(i+1)*2=i*2+2 by omega,show(l.length+1)*2=l.length*2+2 by omega]
   exact this
  have hone:∀y∈(l.drop i).flatMap EntryR.enc,Zy y=true:=List.all_eq_true.1 (ZfT _)
  simp[Tryz.f346,Zcl,hA]
  have s_:=An @hcp1 (An @hw1 (An @hw2 (An @hw3 (An @hw4 (An @hm1 (An @hm3 (An @hm4 (An @hq0 (An @hq1 (An @hq2 (An @hi3 (An @hi4 (An @hle (@hr))))))))))))))
  try simp[s_]
  repeat' ((first|((first|refine Tp ?_|refine Tn ?_|refine T2 ?_ ?_)<;>intro h_ e_ n_)|(refine hov _ _ _ _ rfl rfl ?_;simp)|(refine optBif ⟨rfl,by rw[List.length_append,hLl,hAl];omega,by rw[List.length_take,List.length_append,hdl,hAl];omega,by rw[hm4,hq1];exact hone⟩ ?_;simp)|refine Dg 11 9 [] [] ?_|refine Dg 15 9 [] [] ?_|rw[Ip]|rw[In]|rw[Fz]|rw[Gz]|fail)<;>first|simp[e_,n_,s_]|simp[s_]|skip)
  exact⟨_,Wk.trans (Wk.prefix 0 0 ((l.length+1)*2) rfl rfl) (Wk.bump 6 0 0 0 (l.length+1) 2 (by simp) rfl),by simp[hq3]⟩
 ·have hm5:min ((l.length -i)*2) ((l.length -i)*2+(cap*2 -l.length*2))=(l.length -i)*2:=by omega
  have hq1:List.take ((l.length -i)*2) (List.take ((l.length -i)*2) ((l.drop i).flatMap EntryR.enc++A))=(l.drop i).flatMap EntryR.enc:=by
   rw[List.take_take,Nat.min_self,List.take_left' (by rw[hdl];omega)]
  have hq4:List.take ((l.length -i)*2) ((l.drop i).flatMap EntryR.enc)=(l.drop i).flatMap EntryR.enc:=List.take_of_length_le (by rw[hdl];omega)
  have hone:∀y∈(l.drop i).flatMap EntryR.enc,Zy y=true:=List.all_eq_true.1 (ZfT _)
  simp[Tryz.f346,Zcl,hA]
  generalize hZ:(List.replicate (l.length+1 -i) [AV.val (Value.string ByteArray.empty),AV.val (Value.int IntKind.i64 0)]).flatten=Z
  have hZl:Z.length=(l.length+1 -i)*2:=by rw[<-hZ];simp
  have hta':((l.flatMap EntryR.enc).take (i*2)).length=i*2:=by rw[List.length_take,hLl];omega
  have hq2:(putAt ((l.flatMap EntryR.enc).take (i*2)++Z) (i*2) x.enc).length=(l.length+1)*2:=by
   rw[ZE (by rw[List.length_append,hta',hZl,ZmZ];omega),List.length_append,hta',hZl];omega
  have hq3:putAt (putAt ((l.flatMap EntryR.enc).take (i*2)++Z) (i*2) x.enc) ((i+1)*2) ((l.drop i).flatMap EntryR.enc)=(insL l i x).flatMap EntryR.enc:=by
   have:=ZdU (L:=l.flatMap EntryR.enc) (A:=A) (X:=x.enc) (Z:=Z) (a:=i*2) (k:=2) hLl (by omega) rfl (by rw[hZl];omega)
   rw[ZiR,hta,hq0,List.take_left' (by rw[hdl])] at this
   rw[show(i+1)*2=i*2+2 by omega]
   exact this
  have s_:=An @hcp1 (An @hw1 (An @hw2 (An @hw3 (An @hw4 (An @hm1 (An @hm3 (An @hq0 (An @hq1 (An @hq4 (An @hta (An @hZ (An @hi3 (An @hi4 (An @hle (@hr)))))))))))))))
  try simp[s_]
  repeat' ((first|((first|refine Tp ?_|refine Tn ?_|refine T2 ?_ ?_)<;>intro h_ e_ n_)|(refine optBif ⟨by rw[hq2];omega,hone⟩ ?_;simp)|refine Dg 11 9 [] [] ?_|refine Dg 15 9 [] [] ?_|rw[Ip]|rw[In]|rw[Fz]|rw[Gz]|fail)<;>first|simp[e_,n_,s_]|simp[s_]|skip)
  exact⟨_,Wk.move 6 0 1 0 0 (l.length+1) 2 (by decide) (by simp;omega) rfl rfl rfl,by simp[hq3]⟩
theorem ZrY (l:List EntryR) (i:Nat) (hi:i<l.length) (hl:l.length<=1000000):XCall Tryz.prog 340 [.own 0 0 0 l.length 2,I i,I (i+1:Nat)] [.cells 0 (l.flatMap EntryR.enc)] (.own 0 0 0 (l.length -1) 2) [.cells 0 ((l.eraseIdx i).flatMap EntryR.enc)]:=by
 have hLl:(l.flatMap EntryR.enc).length=l.length*2:=ZdR l
 have hdr:(l.flatMap EntryR.enc).drop ((i+1)*2)=(l.drop (i+1)).flatMap EntryR.enc:=Zgp l (i+1)
 have htk:(l.flatMap EntryR.enc).take (i*2)=(l.take i).flatMap EntryR.enc:=Zlj l i
 have hdl:((l.drop (i+1)).flatMap EntryR.enc).length=(l.length -(i+1))*2:=by rw[ZdR,List.length_drop]
 have hn1:i+(l.length -(i+1))=l.length -1:=by omega
 have hi1:i+1<=l.length:=hi
 have hne:¬(i:Int)=((i+1:Nat):Int):=by omega
 have hone:∀y∈(l.drop (i+1)).flatMap EntryR.enc,Zy y=true:=List.all_eq_true.1 (ZfT _)
 refine XCall.mkG (λs (cap:{cap:Nat//l.length<=cap/\cap<=maxLen})=>Zcl s 0 0 2 (l.flatMap EntryR.enc) cap.1) (λ_=>false) Tryz.func340 rfl rfl rfl (Ent.mk Tryz.func340 (by kernel_rfl) rfl) (by simp) (by simp) (by simp) (by simp) (by simp) λhfit=> ?_
 refine⟨WkE.full (t:=0) (by simp) (by simp) (by omega) (by simp),?_⟩
 rintro⟨cap,hc1,hc2⟩
 generalize hA:List.replicate (cap*2 -l.length*2) AV.any=A
 have hAl:A.length=cap*2 -l.length*2:=by rw[<-hA];simp
 have hq0:List.take ((l.length -(i+1))*2) ((l.flatMap EntryR.enc++A).drop ((i+1)*2))=(l.drop (i+1)).flatMap EntryR.enc:=by
  rw[List.drop_append_of_le_length (by rw[hLl];omega),hdr,List.take_left' (by rw[hdl])]
 have hq3:(putAt (putAt (l.flatMap EntryR.enc++A) (i*2) ((l.drop (i+1)).flatMap EntryR.enc)) ((l.length -1)*2) [AV.val (Value.string ByteArray.empty),AV.val (Value.int IntKind.i64 0)]).take ((l.length -1)*2)=(l.eraseIdx i).flatMap EntryR.enc:=by
  rw[List.eraseIdx_eq_take_drop_succ,List.flatMap_append,<-htk]
  have e1:(l.length -1)*2=i*2+((l.drop (i+1)).flatMap EntryR.enc).length:=by rw[hdl];omega
  simp only[putAt]
  have e2:((l.flatMap EntryR.enc++A).take (i*2)).length=i*2:=by rw[List.length_take,List.length_append,hLl];omega
  have e3:(l.flatMap EntryR.enc++A).take (i*2)=(l.flatMap EntryR.enc).take (i*2):=List.take_append_of_le_length (by rw[hLl];omega)
  have e4:(((l.flatMap EntryR.enc).take (i*2)++(l.drop (i+1)).flatMap EntryR.enc)).length=(l.length -1)*2:=by rw[List.length_append,<-e3,e2];omega
  rw[e3,List.append_assoc _ [AV.val (Value.string ByteArray.empty),AV.val (Value.int IntKind.i64 0)] _,List.take_left' (by rw[List.length_take,List.length_append,e4];omega),List.take_append_of_le_length (by omega),List.take_of_length_le (by omega)]
 have hq2:(putAt (l.flatMap EntryR.enc++A) (i*2) ((l.drop (i+1)).flatMap EntryR.enc)).length=cap*2:=by
  rw[ZE (by rw[List.length_append,hLl,hAl,hdl];omega),List.length_append,hLl,hAl];omega
 have hq4:l.length*2<=cap*2:=by omega
 have hn2:l.length -(l.length -1)=1:=by omega
 have hn3:l.length -1+1=l.length:=by omega
 have hn4:l.length -1<=l.length:=by omega
 simp[Tryz.f340,Zcl,hA]
 have s_:=An @hq0 (An @hn1 (An @hi1 (An @hne (An @hLl (An @hAl (An @hq2 (An @hq4 (An @hn2 (An @hn3 (@hn4))))))))))
 try simp[s_]
 repeat' ((first|((first|refine Tp ?_|refine Tn ?_|refine T2 ?_ ?_)<;>intro h_ e_ n_)|refine Dg 5 7 [0] [] ?_|rw[Ip]|rw[In]|rw[Fz]|rw[Gz]|fail)<;>first|simp[e_,n_,s_]|simp[s_]|skip)
 exact⟨_,Wk.prefix 0 0 ((l.length -1)*2) rfl rfl,by simp[hq3]⟩
theorem Zml (l:List EntryR) (hl:l.length<=1000000):XCall Tryz.prog 341 [encL EntryR.enc l] [] (.own 0 0 0 l.length 2) [.cells 0 (l.flatMap EntryR.enc)]:=by
 refine XCall.mkE 2 (λ_=>false) Tryz.func341 rfl rfl rfl (Ent.mk Tryz.func341 (by kernel_rfl) rfl) (by simp) (by simp) (by simp) (by simp) (by simp) λhfit=> ?_
 simp at hfit
 simp[Tryz.f341]
 rw[if_pos (by simp only[maxLen];omega)]
 simp
 intro h0
 subst h0
 simp
theorem Zvc {l:List EntryR} (hr:Zai l=true) {s:ByteArray} (hf:(findE l s).2=true):l.eraseIdx (plE l s)=outE l s:=by
 obtain⟨hp,e1,_⟩:=(ZgJ hr s).2 hf
 generalize plE l s=q at*
 have hpw:=List.pairwise_iff_getElem.1 ((ZW _).1 hr)
 have ha:(l.take q).filter (λx=> !decide (x.name=s))=l.take q:=List.filter_eq_self.2 λx hx=>by
  obtain⟨j,hj,rfl⟩:=List.getElem_of_mem hx
  rw[List.length_take] at hj
  have:=ZdZ (hpw j q (by omega) hp (by omega))
  rw[e1] at this
  simpa using this
 have hb:(l.drop (q+1)).filter (λx=> !decide (x.name=s))=l.drop (q+1):=List.filter_eq_self.2 λx hx=>by
  obtain⟨j,hj,rfl⟩:=List.getElem_of_mem hx
  rw[List.length_drop] at hj
  have:=ZdZ (hpw q (q+1+j) hp (by omega) (by omega))
  rw[e1] at this
  simpa using λe=>this e.symm
 have e:l=l.take q++l[q]::l.drop (q+1):=by rw[<-List.drop_eq_getElem_cons hp,List.take_append_drop]
 rw[List.eraseIdx_eq_take_drop_succ,outE]
 conv=>rhs;rw[e]
 rw[List.filter_append,List.filter_cons,ha,hb]
 simp[e1]
theorem ZxR (l:List EntryR) (s:ByteArray) (ino:Int) (hr:Zai l=true) (hl:l.length<=100000):Zb Tryz.prog 338 [encL EntryR.enc l,S s,I ino] (.tup [encL EntryR.enc (enterE l s ino).1,I (enterE l s ino).2]):=by
 have h1:=ZkB l s hr (by omega)
 have h2:=check_ok s
 simp only[enterE,Znu]
 have hple:=plE_le l s
 generalize plE l s=q at*
 generalize(findE l s).2=is at*
 refine Pm Tryz.func338 λhfit=> ?_
 simp[Tryz.f338]
 cases hn:nameOk s with
 |false=>
  have hc:checkS s=10:=by simp[checkS,hn]
  rw[hc] at h2
  have s_:=An @hn (@hc)
  exact WW
 |true=>
  have hc:checkS s=0:=by simp[checkS,hn]
  rw[hc] at h2
  by_cases hi:ino<1
  ·have s_:=An @hn (An @hc (@hi))
   exact WW
  cases is with
  |true=>
   have s_:=An @hn (An @hc (@hi))
   exact WW
  |false=>
   by_cases h6:256<=l.length
   ·have h6':(256:Int)<=l.length:=by omega
    have s_:=An @hn (An @hc (An @hi (An @h6 (@h6'))))
    exact WW
   ·have h6':¬(256:Int)<=l.length:=by omega
    have hins:=ZrX l q ⟨s,ino⟩ hple (by omega)
    simp only[EntryR.enc] at hins
    have s_:=An @hn (An @hc (An @hi (An @h6 (An @h6' (@EntryR.enc.eq_1)))))
    have f1_:=F0 [] (Zml l (by omega))
    have f2_:=F0 [0] hins
    exact WW
theorem ZpG (l:List EntryR) (s:ByteArray) (hr:Zai l=true) (hl:l.length<=100000):Zb Tryz.prog 324 [encL EntryR.enc l,S s] (.tup [encL EntryR.enc (leaveE l s).1,I (leaveE l s).2.1,I (leaveE l s).2.2]):=by
 have h1:=ZkB l s hr (by omega)
 have h2:=(ZgJ hr s).2
 have h3:= @Zvc l hr s
 simp only[leaveE]
 cases hf:(findE l s).2 with
 |false=>
  rw[hf] at h1
  refine Pm Tryz.func324 λhfit=> ?_
  have d1_:=D0 4 14 [] []
  simp[Tryz.f324]
  exact WW
 |true=>
  rw[hf] at h1
  obtain⟨hp,e1,e2⟩:=h2 hf
  have h3:=h3 hf
  rw[e2,<-h3]
  generalize plE l s=q at*
  have hcut:=ZrY l q hp (by omega)
  have hw:IntKind.i64.wrap ((q:Int)+1)=((q+1:Nat):Int):=by rw[Zh (by omega) (by omega)];omega
  refine Pm Tryz.func324 λhfit=> ?_
  simp[Tryz.f324]
  have s_:=An @hp (An @hw (@EntryR.enc.eq_1))
  try simp[s_]
  repeat' ((first|((first|refine Tp ?_|refine Tn ?_|refine T2 ?_ ?_)<;>intro h_ e_ n_)|refine Pg h1 ?_|refine Dg 4 14 [] [(1,.e),(5,.e),(10,.t)] ?_|rw[Ip]|rw[In]|rw[Fz]|rw[Gz]|fail)<;>first|simp[e_,n_,s_]|simp[s_]|skip)
  refine ADcall.fresh [] (Zml l (by omega)) (by simp) (by simp) ?_
  simp[hw]
  refine ADcall.fresh [0] hcut (by simp) (by simp) ?_
  simp[hp,EntryR.enc]
  rw[Zav (by simp) (by simp[List.length_eraseIdx,hp])]
  simp[List.length_eraseIdx,hp]
end Go.Proofs.YtgpkaoombhobmaaGreat
namespace Go.Proofs.YtgpkaoombhobmaaGreat
open Go.RowKit Go.Shelf
attribute [local go_sem] Oper.semAt_some
abbrev PE:Type:=ByteArray×Int
def ZeP (f:Nat->PE) (k:Nat):List PE:=(List.range k).map f
theorem ZjB (f:Nat->PE) (k:Nat):ZeP f (k+1)=ZeP f k++[f k]:=by simp[ZeP,List.range_succ]
theorem Zmm (f:Nat->PE) (k:Nat):(ZeP f k).length=k:=by simp[ZeP]
set_option maxRecDepth 100000 in
set_option maxHeartbeats 2000000 in
theorem ZxS (F:Fence) (n:Nat) (hf:F.fn 334) (hro:F.round=none) (hn:1<=n) (l Bs n₀ b off len cap:Nat) (zs:List PE) (hlen:len<=1000000) (hb:b<n₀) (hW0:n₀<=0+n₀) (J Jx:List PE->World->Prop)
  (W:World) (hJ:AbidesFrom W.heap.size J) (hn₀:n₀<=W.heap.size)
  (hY:∀pre x W,J pre W->pre.length<len->YieldAt F (n -1) Tryz.prog l #[.string x.1] W λe W'=>
   (e= .returned (.bool true)/\J (pre++[x]) W'/\Below n₀ W W')\/(e= .returned (.bool false)/\Jx (pre++[x]) W'))
  (hBs:W.cell? ⟨Bs,0,none⟩=some (.slice (some ⟨b,off,none⟩) len cap)) (hc0:∀j,j<len->W.cell? ⟨b,off+j*2,none⟩=some (.string (zs[j]?.getD (.empty,0)).1)) (hc1:∀j,j<len->W.cell? ⟨b,off+j*2+1,none⟩=some (.int .i64 (zs[j]?.getD (.empty,0)).2)) (h0:J [] W):
  CallsIn F n Tryz.prog 334 #[.func (.yield l) #[] #[],.pointer (some ⟨Bs,0,none⟩)] W λe W'=>(∃v,e= .returned v)/\
   ((∃ys,ys=ZeP (λj=>zs[j]?.getD (.empty,0)) len/\J ys W')\/(∃pre,(∃k,k<=len/\pre=ZeP (λj=>zs[j]?.getD (.empty,0)) k)/\Jx pre W')):=by
 refine callsIn_of_wp Tryz.func334 rfl hf ?_ hro
 simp only[Tryz.ntmps334,List.size_toArray,List.length_cons,List.length_nil,Nat.reduceAdd,Nat.reduceSub,Array.replicate_succ,Array.replicate_zero,List.push_toArray,List.append_toArray,List.nil_append,List.cons_append]
 gi_wp2
 gi_loopw [7] (λi wr=>∃k:Nat,k<=len/\i= .int .i64 k/\J (ZeP (λj=>zs[j]?.getD (.empty,0)) k) wr/\Below n₀ W wr)
  (λi _=>len -(intOf i).toNat)
 case atStart=>exact⟨0,Nat.zero_le _,rfl,h0,Below.refl _ _⟩
 case round=>
  obtain⟨k,hk,rfl,hJs,hnx⟩:=hrel
  by_cases hlt:k<len
  ·have hcx0:wr.cell? ⟨b,off+k*2,none⟩=some (.string (zs[k]?.getD (.empty,0)).1):=(hnx.cell (p:=⟨b,off+k*2,none⟩) hb).trans (hc0 k hlt)
   have hcx1:wr.cell? ⟨b,off+k*2+1,none⟩=some (.int .i64 (zs[k]?.getD (.empty,0)).2):=(hnx.cell (p:=⟨b,off+k*2+1,none⟩) hb).trans (hc1 k hlt)
   have hJ2:=hJ _ wr (wr.alloc (.cells #[.string (zs[k]?.getD (.empty,0)).1,.int .i64 (zs[k]?.getD (.empty,0)).2] 141)) none hJs (World.grownBy_alloc wr _ none) (λr e=>by cases e)
   have hsz:n₀<=wr.heap.size:=Nat.le_trans hn₀ hnx.size
   have hB2:=(Below.refl n₀ wr).alloc hsz (.cells #[.string (zs[k]?.getD (.empty,0)).1,.int .i64 (zs[k]?.getD (.empty,0)).2] 141)
   obtain⟨fn,tmps,assign,body,hy,hR⟩:=hY _ (zs[k]?.getD (.empty,0)) _ hJ2 (by rw[Zmm];exact hlt)
   gi_wp2
   refine hR.mono ?_
   rintro e W3 (⟨rfl,hJ3,hk3⟩|⟨rfl,hJx3⟩)
   ·gi_wp2
    go_roundw
    case rel=>exact⟨k+1,by omega,by simp,by rw[ZjB];exact hJ3,hnx.trans (hB2.trans hk3)⟩
    case measure=>simp[intOf];omega
   ·gi_wp2
    refine bodyPost_ret (results_none rfl _ _ _) rfl ?_
    exact⟨⟨_,rfl⟩,.inr ⟨_,⟨k+1,by omega,(ZjB _ _).symm⟩,hJx3⟩⟩
  ·obtain rfl:k=len:=by omega
   gi_wp2
   go_end0
   exact⟨⟨_,rfl⟩,.inl ⟨_,rfl,hJs⟩⟩
set_option maxRecDepth 100000 in
set_option maxHeartbeats 1000000 in
theorem Zmn (F:Fence) (n:Nat) (hf:F.fn 334) (hro:F.round=none) (l Bs:Nat) (A:Option Addr) (cap:Nat) (J:List PE->World->Prop) (W:World) (hBs:W.cell? ⟨Bs,0,none⟩=some (.slice A 0 cap)) (h0:J [] W):
  CallsIn F n Tryz.prog 334 #[.func (.yield l) #[] #[],.pointer (some ⟨Bs,0,none⟩)] W λe W'=>(∃v,e= .returned v)/\J [] W':=by
 refine callsIn_of_wp Tryz.func334 rfl hf ?_ hro
 simp only[Tryz.ntmps334,List.size_toArray,List.length_cons,List.length_nil,Nat.reduceAdd,Nat.reduceSub,Array.replicate_succ,Array.replicate_zero,List.push_toArray,List.append_toArray,List.nil_append,List.cons_append]
 gi_wp2
 gi_loopw [7] (λi wr=>i= .int .i64 0/\J [] wr) (λ_ _=>0)
 case atStart=>exact⟨rfl,h0⟩
 case round=>
  obtain⟨rfl,hJs⟩:=hrel
  gi_wp2
  go_end0
  exact⟨⟨_,rfl⟩,hJs⟩
set_option maxHeartbeats 1000000 in
theorem told_in (F:Fence) (n:Nat) (hf:F.fn 314) (hro:F.round=none) (a:Option Addr) (len cap:Nat) (w:World):
  CallsIn F n Tryz.prog 314 #[.slice a len cap] w λe w'=>e= .returned (.func (.func 334) #[] #[.pointer (some ⟨w.heap.size,0,none⟩)])/\w'=w.alloc (.cells #[.slice a len cap] 97):=by
 refine callsIn_of_wp Tryz.func314 rfl hf ?_ hro
 simp only[Tryz.ntmps314,List.size_toArray,List.length_cons,List.length_nil,Nat.reduceAdd,Nat.reduceSub,Array.replicate_succ,Array.replicate_zero,List.push_toArray,List.append_toArray,List.nil_append,List.cons_append]
 gi_wp2
 go_ret
 exact⟨rfl,rfl⟩
theorem Zvd (zs:List PE):ZeP (λj=>zs[j]?.getD (.empty,0)) zs.length=zs:=by
 apply List.ext_getElem
 ·simp[ZeP]
 ·intro i h1 h2
  simp[ZeP,h2]
theorem ZrZ (zs:List PE) {k:Nat} (hk:k<=zs.length):ZeP (λj=>zs[j]?.getD (.empty,0)) k=zs.take k:=by
 apply List.ext_getElem
 ·simp[ZeP,hk]
 ·intro i h1 h2
  have:i<zs.length:=by simp[ZeP] at h1;omega
  simp[ZeP,this]
def ZjC (n₀:Nat) (W:World) (sv:Value) (zs:List PE):Prop:=
 (∃A cap,sv= .slice A 0 cap/\zs=[])\/∃b off cap,sv= .slice (some ⟨b,off,none⟩) zs.length cap/\b<n₀/\(∀j,j<zs.length->W.cell? ⟨b,off+j*2,none⟩=some (.string (zs[j]?.getD (.empty,0)).1))/\∀j,j<zs.length->W.cell? ⟨b,off+j*2+1,none⟩=some (.int .i64 (zs[j]?.getD (.empty,0)).2)
theorem ZjC.below {n₀:Nat} {A B:World} (h:Below n₀ A B) {sv:Value} {zs:List PE}:ZjC n₀ A sv zs->ZjC n₀ B sv zs
 | .inl e=> .inl e
 | .inr ⟨b,off,cap,e,hb,hc,hd⟩=> .inr ⟨b,off,cap,e,hb,λj hj=>(h.cell (p:=⟨b,off+j*2,none⟩) hb).trans (hc j hj),λj hj=>(h.cell (p:=⟨b,off+j*2+1,none⟩) hb).trans (hd j hj)⟩
theorem Zsa (F:Fence) (n:Nat) (hf:F.fn 334) (hro:F.round=none) (hn:1<=n) (Bs n₀:Nat) (sv:Value) (zs:List PE) (hlen:zs.length<=1000000) (w:World) (hBs:Bs<w.heap.size) (hn₀:n₀<=w.heap.size)
  (hc:w.cell? ⟨Bs,0,none⟩=some sv) (hI:ZjC n₀ w sv zs):
  SeqStopsK F n Tryz.prog 334 #[.pointer (some ⟨Bs,0,none⟩)] (λx:PE=> #[Value.string x.1]) (Below n₀) (λys=>ys=zs) (λpre=>pre<+:zs) zs.length w:=λl J Jx W hW hJ _ hY h0=>by
 have hc':=(hW.cell (p:=⟨Bs,0,none⟩) hBs).trans hc
 rcases hI.below (hW.mono hn₀) with⟨A,cap,rfl,rfl⟩|⟨b,off,cap,rfl,hb,hcs,hds⟩
 ·exact(Zmn F n hf hro l Bs A cap J W hc' h0).mono λe W' ⟨he,hj⟩=>⟨he,.inl ⟨_,rfl,hj⟩⟩
 ·refine(ZxS F n hf hro hn l Bs n₀ b off zs.length cap zs hlen hb (by omega) J Jx W hJ (Nat.le_trans hn₀ hW.size) hY hc' hcs hds h0).mono ?_
  rintro e W' ⟨he,⟨ys,rfl,hj⟩|⟨pre,⟨k,hk,rfl⟩,hj⟩⟩
  ·exact⟨he,.inl ⟨_,Zvd zs,hj⟩⟩
  ·exact⟨he,.inr ⟨_,by rw[ZrZ zs hk];exact List.take_prefix _ _,hj⟩⟩
theorem infoS:(Tryz.prog.info? 9).map (λi=>(i.zero,i.size,i.bytes))=some (some (.string .empty),1,16):=by kernel_rfl
set_option maxRecDepth 100000 in
set_option maxHeartbeats 2000000 in
theorem ZxT (F:Fence) (n:Nat) (h3:F.fn 275) (h4:F.fn 314) (h5:F.fn 334) (hro:F.round=none) (hn:3<=n) (A:Option Addr) (cap:Nat) (zs:List PE) (hlen:zs.length<=1000000) (w:World) (hL:ZjC w.heap.size w (.slice A zs.length cap) zs):
  CallsIn F n Tryz.prog 275 #[.slice A zs.length cap] w λe W'=>∃v,e= .returned v/\W'.ownsRow w.heap.size 9 1 v zs.length (zs.map λx=>Value.string x.1)/\Below w.heap.size w W':=by
 have h1:1<=n:=by omega
 obtain⟨i0,hi,hz0,hz1,hz2⟩:=info_parts infoS
 refine callsIn_of_wp_marks Tryz.func275 rfl h3 ?_ hro
 simp only[Tryz.ntmps275,List.size_toArray,List.length_cons,List.length_nil,Nat.reduceAdd,Nat.reduceSub,Array.replicate_succ,Array.replicate_zero,List.push_toArray,List.append_toArray,List.nil_append,List.cons_append]
 gi_wp2_with (gi_at_call 314;refine(told_in F (n -1) h4 hro _ _ _ _).mono ?_;rintro e w' ⟨rfl,rfl⟩)
 have bO:=Boxed.new w 39 (.slice none 0 0)
 have bN:=Boxed.new (w.alloc (.cells #[.slice none 0 0] 39)) 97 (.slice A zs.length cap)
 rw[World.size_alloc] at bN
 have hB0:Below w.heap.size w ((w.alloc (.cells #[.slice none 0 0] 39)).alloc (.cells #[.slice A zs.length cap] 97)):=((Below.refl _ w).alloc (Nat.le_refl _) _).alloc (by simp) _
 refine wpIn_rangeFunc_ownG hro h1 (gf:=334) (lb:= #[.pointer (some ⟨w.heap.size+1,0,none⟩)]) rfl h5 (enters_of Tryz.func334 (by kernel_rfl) rfl)
  (Zsa F (n -1) h5 hro (by omega) (w.heap.size+1) w.heap.size (.slice A zs.length cap) zs hlen _ (by simp) (by simp;omega) bN.cell (hL.below hB0)) belowK_t (belowK_b (by simp;omega)) (Below.refl _ _) (λ_=>rfl)
  (λpre W=>(∃v,Boxed W w.heap.size 39 v/\W.ownsRow w.heap.size 9 1 v pre.length (pre.map λx=>Value.string x.1)/\True)/\Below w.heap.size w W)
  (λ_ _ _=>False)
  (OwnFrom.and (Own.from (holdsRow_own w.heap.size w.heap.size 39 9 1 (λpre:List PE=>pre.length) (λpre=>pre.map λx=>Value.string x.1) (λpre v=>True)) _) (ownFrom_below (Nat.le_refl _) (by simp;omega)))
  (λ_ _ _ _ _ hs _ _=>hs)
  ⟨⟨_,bO.alloc _,World.ownsRow_nil _ _ _ _,trivial⟩,hB0⟩
  (λx=>{tmps:= #[.slice A zs.length cap,undef,.slice none 0 0,.pointer (some ⟨w.heap.size,0,none⟩),.string x.1,.slice A zs.length cap,.func (.func 334) #[] #[.pointer (some ⟨w.heap.size+1,0,none⟩)],.string x.1,undef,undef,undef,undef,undef],defers:=[]}) ?assign ?body ?done ?stop
 case assign=>
  intro l x W K hK
  gi_wp2
  exact hK
 case body=>
  rintro l pre x W ⟨⟨v,hv,hrow,_⟩,hB⟩ hlt
  have hc:=hv.cell
  have hmx:zs.length<=maxLen:=by simp only[maxLen];omega
  gi_wp2_with (gi_at_builtin;refine wpListIn_append_own _ rfl _ _ 39 rfl w.heap.size 9 i0 (.string .empty) 1 16 Tryz.underlying39 hi hz0 hz1 hz2 rfl (by decide) _ _ _ rfl (hrow.alloc _) ⟨W.heap.size,0,none⟩ 1 1 [.string x.1] rfl rfl (cell_one_new _ _ _) (by simp[Value.oneCell']) (by omega) (by omega) (by have:=hB.size;simp;omega) ?_;intro v' w1 hown' hgrow _;obtain⟨g',cap',rfl⟩:=ownsRow_succ hown';obtain⟨hv1,hv2,hr2,hk2,hb2⟩:=hv.appended (by decide) hrow hB.size (Nat.le_refl _) hown' hgrow;have hc1:=hv1.cell;have hf1:=hv1.frozen)
  exact⟨hk2.from _,hb2,⟨_,hv2,by simpa using hr2,trivial⟩,hB.trans hb2⟩
 case done=>
  rintro D ys W hD rfl ⟨⟨v,hv,hrow,_⟩,hB⟩ hK
  have hc:=hv.cell
  gi_wp2
  refine⟨by simp,.inl ⟨_,_,rfl,run_takeDeferred hK,?_⟩⟩
  exact⟨_,results_tmp rfl _ _ _,v,rfl,ownsRow_putObj hrow _ hK rfl,hB.trans (belowK_b (w:=w) (Nat.le_refl _) W D _ _ (by simp at hD;omega) hK rfl rfl)⟩
 case stop=>
  rintro D c pre W _ _ h _
  exact h.elim
open Go.Cx in
theorem ZjD {Z:Nat->Prop} {w:World} {κ:Nat->Slot}:∀{l:List EntryR} {us:List Value},Rs Z w κ (l.flatMap EntryR.enc) us->us=l.flatMap λx=>[Value.string x.name,.int .i64 x.ino]
 |[],_,.nil=>rfl
 |x::l,_,h=>by
  simp only[List.flatMap_cons,EntryR.enc,List.cons_append,List.nil_append] at h⊢
  cases h with
  |cons h1 h2=>
   cases h2 with
   |cons h2 h3=>
    cases h1 with
    |val _=>
     cases h2 with
     |val _=>rw[ZjD h3]
open Go.Cx in
theorem Zve {Z:Nat->Prop} {w:World} {κ:Nat->Slot}:∀l:List EntryR,Rs Z w κ ((l.map (·.name)).map S) (l.map λx=>Value.string x.name)
 |[]=> .nil
 |x::l=> .cons (.val rfl) (Zve l)
open Go.Cx in
theorem flat2 (l:List EntryR):∀(j:Nat),(h:j<l.length)->(l.flatMap λx=>[Value.string x.name,.int .i64 x.ino])[j*2]? =some (.string l[j].name)/\(l.flatMap λx=>[Value.string x.name,.int .i64 x.ino])[j*2+1]? =some (.int .i64 l[j].ino):=by
 induction l with
 |nil=>intro j h;simp at h
 |cons x l ih=>
  intro j h
  cases j with
  |zero=>simp
  |succ j=>
   have:=ih j (by simpa using h)
   simp only[List.flatMap_cons,List.getElem_cons_succ]
   rw[show(j+1)*2=2+j*2 by omega,show 2+j*2+1=2+(j*2+1) by omega]
   constructor
   ·rw[List.getElem?_append_right (by simp)];simpa using this.1
   ·rw[List.getElem?_append_right (by simp)];simpa using this.2
open Go.Cx in
theorem ZxU (l:List EntryR) (hl:l.length<=1000000):Zb Tryz.prog 275 [encL EntryR.enc l] (enc1 S (l.map (·.name))):=by
 refine⟨by simp,by simp,Ent.mk Tryz.func275 (by kernel_rfl) rfl,λZ κ w cargs r hr=> ?_⟩
 cases hr with
 |cons h1 h2=>
 cases h2
 have na:∀b,¬ZT κ b:=λb ⟨id,ver,sz,hk⟩=>by rw[r.hole id (Nat.zero_le _)] at hk;cases hk
 let zs:List PE:=l.map λx=>(x.name,x.ino)
 have hzl:zs.length=l.length:=by simp[zs]
 have hzm:zs.map (λx=>Value.string x.1)=l.map λx=>Value.string x.name:=by simp[zs,Function.comp_def]
 have main:∀(A:Option Addr) (cap:Nat) (c:Value),c= .slice A l.length cap->ZjC w.heap.size w c zs->Calls Tryz.prog 275 [c].toArray w (λe w'=>∃v h' Z' κ' c,(v=enc1 S (l.map (·.name))/\h'=[])/\e= .returned c/\Rel Z' κ' h' w'/\R Z' w' κ' v c/\Ext Z κ w Z' κ' w'/\ZX 0 κ κ'):=by
  rintro A cap c rfl hE
  rw[<-hzl] at hE⊢
  refine(callsIn_wide.1 (ZxT Fence.wide 3 trivial trivial trivial rfl (by omega) A cap zs (by omega) w hE)).mono ?_
  rintro e w' ⟨v,rfl,⟨hx1,hown⟩,b⟩
  have ex:∀Z',(∀b,Z b->Z' b)->(∀b,Z' b->Z b\/ZT κ b\/w.heap.size<=b)->Ext Z κ w Z' κ w':=λZ' h1 h2=>⟨b.os,b.tape,b.output,b.size,λk hk _=>b.block k hk,h1,h2,λ_ h=> .inl h⟩
  rcases hown with⟨rfl,h0⟩|⟨g,cap',cur,rfl,hg,hgb,hnc,hcm,hcs,htk⟩
  ·have hl0:l=[]:=List.eq_nil_of_length_eq_zero (by omega)
   subst hl0
   exact⟨_,_,Z,κ,_,⟨rfl,rfl⟩,rfl,⟨λb' hb=>Nat.lt_of_lt_of_le (r.zlt b' hb) b.size,r.za,r.hole,λid x hx=>by simp at hx,r.inj⟩,.sl0 (by simp) (by simp[maxLen]),ex Z (λ_ h=>h) (λ_ h=> .inl h),.refl _ _⟩
  ·have hglt:=(Array.getElem?_eq_some_iff.1 hgb).1
   rw[hzm] at htk hx1
   refine⟨_,_,λb=>Z b\/b=g,κ,_,⟨rfl,rfl⟩,rfl,⟨λb' hb=> ?_,λb' _=>na b',r.hole,λid x hx=>by simp at hx,r.inj⟩,?_,ex _ (λ_ h=> .inl h) (λb' h=>h.imp id λe=> .inr (by omega)),.refl _ _⟩
   ·rcases hb with hb|rfl
    ·exact Nat.lt_of_lt_of_le (r.zlt b' hb) b.size
    ·exact hglt
   ·have hlen1:(l.map (·.name)).length=zs.length:=by simp[hzl]
    simp only[enc1,hlen1]
    rcases Nat.eq_zero_or_pos zs.length with h0|h0
    ·have hl0:l=[]:=List.eq_nil_of_length_eq_zero (by omega)
     subst hl0
     exact .sl0 (by simp) hcm
    ·refine .sl h0 hnc (by simp) hcm (.inr rfl) (λj u hj=> ?_) (Zve l)
     rw[ZaT,Nat.zero_add]
     have hjl:j<l.length:=by have:=(List.getElem?_eq_some_iff.1 hj).1;simpa using this
     rw[<-htk] at hj
     rw[List.getElem?_take_of_lt (by omega)] at hj
     simp only[World.cell?,hgb]
     simpa using hj
 rcases R.sl_inv h1 with⟨h0,hcs,A,cap,rfl⟩|⟨h0,a,cap,us,rfl,hnc,hcm,hz,hat,hus⟩
 ·have hl0:l=[]:=List.eq_nil_of_length_eq_zero h0
  subst hl0
  exact main A cap _ rfl (.inl ⟨A,cap,rfl,rfl⟩)
 ·have hus:=ZjD hus
  subst hus
  have hsp:a.spot=none:=Zlg (w:=w) (v:= .string l[0].name) (by
   have:=hat 0 (.string l[0].name) (by have:=(flat2 l 0 h0).1;simpa using this)
   have e0:a.add 0=a:=by simp[Addr.add]
   rwa[e0] at this)
  obtain⟨b,off,sp⟩:=a
  simp only at hsp
  subst hsp
  have hget:∀j (h:j<l.length),zs[j]?.getD (.empty,0)=(l[j].name,l[j].ino):=λj h=>by simp[zs,h]
  refine main _ cap _ rfl (.inr ⟨b,off,cap,by rw[hzl],r.zlt b hz,λj hj=> ?_,λj hj=> ?_⟩)
  ·have hj':j<l.length:=by omega
   have:=hat (j*2) (.string l[j].name) (flat2 l j hj').1
   rw[ZaT] at this
   rw[hget j hj'];exact this
  ·have hj':j<l.length:=by omega
   have:=hat (j*2+1) (.int .i64 l[j].ino) (flat2 l j hj').2
   rw[ZaT] at this
   rw[hget j hj'];exact this
end Go.Proofs.YtgpkaoombhobmaaGreat
namespace Go.Proofs.YtgpkaoombhobmaaGreat
open Go.Cx Tab
set_option maxHeartbeats 400000
set_option maxRecDepth 40000
theorem Zmo {n:Int} (h:0<=n):Zgy Tryz.prog 3 341 (I n)=some (FL n.toNat):=Zno tui3 (by kernel_rfl) h
theorem Zmp {n:Nat} (h:n<9007199254740992):Zgy Tryz.prog 341 3 (FL n)=some (I n):=Znp (by kernel_rfl) tui3 h
theorem ZxV (a m:Nat) (h:a+m<=1099511627776):Zb Tryz.prog 311 [I a,I m] (.tup [CL a m,I 0]):=by
 have h1:¬(1099511627776:Int)<a:=by omega
 have h2:¬(1099511627776:Int) -a<m:=by omega
 have h3:IntKind.i64.wrap (1099511627776 -(a:Int))=1099511627776 -(a:Int):=Zh (by omega) (by omega)
 have e1:=Zmo (n:=(a:Int)) (by omega)
 have e2:=Zmo (n:=(m:Int)) (by omega)
 simp only[Int.toNat_natCast] at e1 e2
 refine Pm Tryz.func311 λhfit=> ?_
 simp[Tryz.f311]
 have s_:=An @h1 (An @h2 (An @h3 (An @e1 (@e2))))
 exact WW
theorem Zvf (a m:Int) (ha:inI a) (h:a<0\/1099511627776<a\/m<0\/1099511627776 -a<m):Zb Tryz.prog 311 [I a,I m] (.tup [CL 0 0,I 1]):=by
 have hz:CL 0 0=AV.val (Value.complex .f64 0 0):=rfl
 refine Pm Tryz.func311 λhfit=> ?_
 simp[Tryz.f311,FB_zero]
 by_cases h1:a<0
 ·have s_:=An @h1 (@FB_zero)
  exact WW
 by_cases h2:1099511627776<a
 ·have s_:=An @h1 (An @h2 (@FB_zero))
  exact WW
 by_cases h3:m<0
 ·have s_:=An @h1 (An @h2 (An @h3 (@FB_zero)))
  exact WW
 have h4:IntKind.i64.wrap (1099511627776 -a)=1099511627776 -a:=Zh (by omega) (by omega)
 have h5:1099511627776 -a<m:=by omega
 have s_:=An @h1 (An @h2 (An @h3 (An @h4 (An @h5 (@FB_zero)))))
 exact WW
theorem end_ok (a m:Nat) (h:a+m<=1099511627776):Zb Tryz.prog 333 [CL a m] (FL (a+m)):=by
 have e:∀t ox oy,abin Tryz.prog .add t ox oy (FL a) (FL m)=some (FL (a+m)):=λt ox oy=>Zpj t ox oy (by omega)
 refine Pm Tryz.func333 λhfit=> ?_
 simp[Tryz.f333]
 have s_:=e
 exact WW
theorem ZxW (a m:Nat) (h:a+m<=1099511627776):Zb Tryz.prog 313 [CL a m] (.tup [I a,I m]):=by
 have e1:=Zmp (n:=a) (by omega)
 have e2:=Zmp (n:=m) (by omega)
 refine Pm Tryz.func313 λhfit=> ?_
 simp[Tryz.f313]
 have s_:=An @e1 (@e2)
 exact WW
theorem both_ok (a m b k:Nat) (h:a+m<=1099511627776) (h':b+k<=1099511627776):Zb Tryz.prog 312 [CL a m,CL b k] (if min (a+m) (b+k)<=max a b then .tup [CL 0 0,B false] else .tup [CL (max a b) (min (a+m) (b+k) -max a b),B true]):=by
 have h1:=end_ok a m h
 have h2:=end_ok b k h'
 have e1:∀(h:Za) t t' ty cs,ZaJ Tryz.prog h .max [t,t'] ty cs [FL a,FL b]=some (FL (max a b),h):=λh t t' ty cs=>Znm h t t' ty cs a b (by omega) (by omega)
 have e2:∀(h:Za) t t' ty cs,ZaJ Tryz.prog h .min [t,t'] ty cs [FL (a+m),FL (b+k)]=some (FL (min (a+m) (b+k)),h):=λh t t' ty cs=>Znn h t t' ty cs (a+m) (b+k) (by omega) (by omega)
 have e3:∀t ox oy,abin Tryz.prog .geq t ox oy (FL (max a b)) (FL (min (a+m) (b+k)))=some (B (decide (min (a+m) (b+k)<=max a b))):=λt ox oy=>Zxh t ox oy (by omega) (by omega)
 by_cases hq:min (a+m) (b+k)<=max a b
 ·rw[if_pos hq]
  refine Pm Tryz.func312 λhfit=> ?_
  simp[Tryz.f312,FB_zero]
  have s_:=An @e1 (An @e2 (An @e3 (An @hq (@FB_zero))))
  exact WW
 ·have e4:∀t ox oy,abin Tryz.prog .sub t ox oy (FL (min (a+m) (b+k))) (FL (max a b))=some (FL (min (a+m) (b+k) -max a b)):=λt ox oy=>Zxf t ox oy (by omega) (by omega)
  rw[if_neg hq]
  refine Pm Tryz.func312 λhfit=> ?_
  simp[Tryz.f312]
  have s_:=An @e1 (An @e2 (An @e3 (An @e4 (@hq))))
  exact WW
theorem part_T (s:List UInt8) (a b:Nat):(T s).extract a b=T ((s.take b).drop a):=by rw[T_ext]
theorem read_ok (s:List UInt8) (at_ many:Int) (h1:inI at_) (h2:inI many) (hs:s.length<=1099511627776):Zb Tryz.prog 271 [S (T s),I at_,I many] (.tup [S (T (readT s at_ many).1),I (readT s at_ many).2]):=by
 by_cases hb:at_<0\/1099511627776<at_\/many<0\/1099511627776 -at_<many
 ·have c1:=Zvf at_ many h1 hb
  simp only[readT,if_pos hb]
  refine Pm Tryz.func271 λhfit=> ?_
  simp[Tryz.f271]
  have p1_:=c1
  exact WW
 have hb2:0<=at_/\0<=many/\at_+many<=1099511627776:=by omega
 obtain⟨b1,b2,b3⟩:=hb2
 obtain⟨a,rfl⟩:=Int.eq_ofNat_of_zero_le b1
 obtain⟨m,rfl⟩:=Int.eq_ofNat_of_zero_le b2
 have c1:=ZxV a m (by omega)
 have c2:=ZxV 0 s.length (by omega)
 have c3:=both_ok a m 0 s.length (by omega) (by omega)
 simp only[readT,if_neg hb,Int.toNat_natCast]
 by_cases hq:min (a+m) (0+s.length)<=max a 0
 ·rw[if_pos hq] at c3
  have e:(s.drop a).take m=[]:=by
   rcases Nat.lt_or_ge a s.length with q|q
   ·have:m=0:=by omega
    subst this;simp
   ·rw[List.drop_eq_nil_of_le q];simp
  rw[e]
  refine Pm Tryz.func271 λhfit=> ?_
  simp[Tryz.f271]
  have s_:=T_size
  have p1_:=c1
  have p2_:=c2
  have p3_:=c3
  exact WW
 ·rw[if_neg hq] at c3
  have c4:=ZxW (max a 0) (min (a+m) (0+s.length) -max a 0) (by omega)
  have e1:max a 0=a:=by omega
  rw[e1] at c3 c4
  generalize hn:min (a+m) (0+s.length) -a=n at*
  have hn1:a+n<=s.length:=by omega
  have hw:IntKind.i64.wrap ((a:Int)+n)=((a+n:Nat):Int):=by rw[Zh (by omega) (by omega)];omega
  have e:(T s).extract a (a+n)=T ((s.drop a).take m):=by
   rw[part_T]
   congr 1
   rw[List.drop_take,Nat.add_sub_cancel_left]
   rcases Nat.lt_or_ge (a+m) s.length with q|q
   ·have:n=m:=by omega
    rw[this]
   ·rw[List.take_of_length_le (by rw[List.length_drop];omega),List.take_of_length_le (by rw[List.length_drop];omega)]
  have hn2:(a:Int)<=((a+n:Nat):Int):=by omega
  have hn3:((a+n:Nat):Int)<=s.length:=by omega
  refine Pm Tryz.func271 λhfit=> ?_
  simp[Tryz.f271]
  have e':(T s).extract a ((a:Int)+(n:Int)).toNat=T ((s.drop a).take m):=by rw[<-e];congr 1
  have s_:=An @T_size (An @hw (An @e (An @e' (An @hn1 (An @hn2 (@hn3))))))
  have p1_:=c1
  have p2_:=c2
  have p3_:=c3
  have p4_:=c4
  exact WW
theorem Zek (s:List UInt8):Zhe (T s)=s.map yb:=rfl
theorem rep_yb (n:Nat):List.replicate n (AV.val (Value.int IntKind.u8 0))=(List.replicate n (0:UInt8)).map yb:=by
 rw[List.map_replicate];rfl
def Zie (l:List UInt8) (k:Nat) (t:List UInt8):List UInt8:=l.take k++t++l.drop (k+t.length)
theorem Zvg (l:List UInt8) (k:Nat) (t:List UInt8):putAt (l.map yb) k (t.map yb)=(Zie l k t).map yb:=by simp[putAt,Zie]
theorem cut_ok (s:List UInt8) (many:Int) (h2:inI many) (hs:s.length<=1099511627776):Zb Tryz.prog 283 [S (T s),I many] (.tup [S (T (cutT s many).1),I (cutT s many).2]):=by
 by_cases hb:many<0\/1099511627776<many
 ·have c1:=Zvf many 0 h2 (by omega)
  simp only[cutT,if_pos hb]
  refine Pm Tryz.func283 λhfit=> ?_
  simp[Tryz.f283]
  have p1_:=c1
  exact WW
 obtain⟨m,rfl⟩:=Int.eq_ofNat_of_zero_le (show 0<=many by omega)
 have c1:=ZxV m 0 (by omega)
 by_cases hc:(4096:Int)<m
 ·simp only[cutT,if_neg hb,if_pos hc]
  have hc2:4096<m:=by omega
  refine Pm Tryz.func283 λhfit=> ?_
  simp[Tryz.f283]
  have s_:=An @hc (@hc2)
  have p1_:=c1
  exact WW
 simp only[cutT,if_neg hb,if_neg hc,Int.toNat_natCast]
 have hc2:¬4096<m:=by omega
 have hp:putAt (List.replicate m (AV.val (Value.int IntKind.u8 0))) 0 ((s.map yb).take (min s.length m))=(s.take m++List.replicate (m -s.length) 0).map yb:=by
  rw[rep_yb,<-List.map_take,Zvg]
  congr 1
  simp only[Zie,List.take_zero,List.nil_append,Nat.zero_add,List.drop_replicate,List.length_take]
  rcases Nat.le_total s.length m with q|q
  ·rw[Nat.min_eq_left q,List.take_of_length_le (Nat.le_refl _),List.take_of_length_le q,Nat.min_self]
  ·rw[Nat.min_eq_right q]
   congr 2
   omega
 refine Pm Tryz.func283 λhfit=> ?_
 simp[Tryz.f283]
 have s_:=An @hc (@hc2)
 try simp[s_]
 repeat' ((first|((first|refine Tp ?_|refine Tn ?_|refine T2 ?_ ?_)<;>intro h_ e_ n_)|refine Pg c1 ?_|rw[Ip]|rw[In]|rw[Fz]|rw[Gz]|fail)<;>first|simp[e_,n_,s_]|simp[s_]|skip)
 rw[if_pos ⟨by rw[Zek,List.length_map];rfl,λx hx=>List.all_eq_true.1 (ZmS s) x (List.mem_of_mem_take hx)⟩,Zek,T_size,hp]
 have hXl:(s.take m++List.replicate (m -s.length) 0).length=m:=by simp;omega
 generalize s.take m++List.replicate (m -s.length) 0=X at*
 have hXt:List.take m (X.map yb)=X.map yb:=List.take_of_length_le (by simp[hXl])
 simp[hXl,hXt]
theorem over_eq (s:List UInt8) (k:Nat) (t:List UInt8) (ht:t≠[]):Zie (Zie (List.replicate (max s.length (k+t.length)) 0) 0 s) k t=overL s k t:=by
 have h1:Zie (List.replicate (max s.length (k+t.length)) 0) 0 s=s++List.replicate (k+t.length -s.length) 0:=by
  simp only[Zie,List.take_zero,List.nil_append,Nat.zero_add,List.drop_replicate]
  congr 2;omega
 rw[h1,Zie,overL]
 congr 1
 ·congr 1
  have e:s++List.replicate (k+t.length -s.length) 0=(s++List.replicate (k -s.length) 0)++List.replicate (k+t.length -s.length -(k -s.length)) 0:=by
   rw[List.append_assoc,List.replicate_append_replicate];congr 2;omega
  rw[e,List.take_append_of_le_length (by simp;omega)]
 ·rw[List.drop_append]
  rw[show List.drop (k+t.length -s.length) (List.replicate (k+t.length -s.length) (0:UInt8))=[] by simp]
  simp
theorem Zvh (s:List UInt8) (k:Nat) (t:List UInt8):(overL s k t).length=max s.length (k+t.length):=by
 simp only[overL,List.length_append,List.length_take,List.length_replicate,List.length_drop];omega
theorem ZxX (s:List UInt8) (at_:Int) (t:List UInt8) (h1:inI at_) (hs:s.length<=1000000) (ht:t.length<=9223372036854775807):Zb Tryz.prog 280 [S (T s),I at_,S (T t)] (.tup [S (T (writeT s at_ t).1),I (writeT s at_ t).2]):=by
 by_cases hb:at_<0\/1099511627776 -t.length<at_
 ·have c1:=Zvf at_ t.length h1 (by omega)
  simp only[writeT,if_pos hb]
  refine Pm Tryz.func280 λhfit=> ?_
  simp[Tryz.f280]
  have s_:=T_size
  have p1_:=c1
  exact WW
 obtain⟨a,rfl⟩:=Int.eq_ofNat_of_zero_le (show 0<=at_ by omega)
 have c1:=ZxV a t.length (by omega)
 have e1:∀tt ox oy,abin Tryz.prog .add tt ox oy (FL a) (FL t.length)=some (FL (a+t.length)):=λtt ox oy=>Zpj tt ox oy (by omega)
 have e2:∀tt ox oy,abin Tryz.prog .gtr tt ox oy (FL (a+t.length)) (.val (.float .f64 4661225614328463360))=some (B (decide (4096<a+t.length))):=λtt ox oy=>by
  have:FB 4096=4661225614328463360:=by rw[ZtT (by decide) (by decide)];decide
  rw[<-this]
  exact Zxg tt ox oy (by omega) (by decide)
 simp only[writeT,if_neg hb,Int.toNat_natCast]
 by_cases hc:(4096:Int)<a+t.length
 ·have hc2:4096<a+t.length:=by omega
  rw[if_pos hc]
  refine Pm Tryz.func280 λhfit=> ?_
  simp[Tryz.f280]
  have s_:=An @hc (An @hc2 (An @e1 (An @e2 (@T_size))))
  have p1_:=c1
  exact WW
 rw[if_neg hc]
 have hc2:¬4096<a+t.length:=by omega
 by_cases hn:t=[]
 ·subst hn
  have hn2:T ([]:List UInt8)=(⟨#[]⟩:ByteArray):=rfl
  rw[if_pos rfl]
  simp only[List.length_nil,Nat.add_zero] at*
  refine Pm Tryz.func280 λhfit=> ?_
  simp[Tryz.f280]
  have s_:=An @hc (An @hc2 (An @e1 (An @e2 (An @hn2 (@T_size)))))
  have p1_:=c1
  exact WW
 rw[if_neg hn]
 have hn2:¬T t=(⟨#[]⟩:ByteArray):=λh=>hn (by have:=congrArg bs h;rw[bs_T] at this;exact this)
 have hw:IntKind.i64.wrap ((a:Int)+t.length)=(a:Int)+t.length:=by rw[Zh (by omega) (by omega)]
 have hov:=over_eq s a t hn
 have hol:=Zvh s a t
 have hl1:(Zie (List.replicate (max s.length (a+t.length)) 0) 0 s).length=max s.length (a+t.length):=by simp[Zie];omega
 generalize hM:max s.length (a+t.length)=M at*
 have hmx:max (s.length:Int) ((a:Int)+t.length)=(M:Int):=by omega
 have hM1:s.length<=M:=by omega
 have hM2:a+t.length<=M:=by omega
 generalize hX:Zie (List.replicate M 0) 0 s=X at*
 generalize overL s a t=Y at*
 have hp:putAt (List.replicate M (AV.val (Value.int IntKind.u8 0))) 0 ((s.map yb).take (min s.length M))=X.map yb:=by
  rw[rep_yb,Nat.min_eq_left hM1,List.take_of_length_le (by simp),Zvg,hX]
 have hp2:putAt (X.map yb) a ((t.map yb).take (min t.length (M -a)))=Y.map yb:=by
  rw[Nat.min_eq_left (by omega),List.take_of_length_le (by simp),Zvg,hov]
 refine Pm Tryz.func280 λhfit=> ?_
 simp[Tryz.f280]
 have s_:=An @hc (An @hc2 (An @e1 (An @e2 (An @hn2 (An @hw (An @hmx (@T_size)))))))
 try simp[s_]
 repeat' ((first|((first|refine Tp ?_|refine Tn ?_|refine T2 ?_ ?_)<;>intro h_ e_ n_)|refine Pg c1 ?_|rw[Ip]|rw[In]|rw[Fz]|rw[Gz]|fail)<;>first|simp[e_,n_,s_]|simp[s_]|skip)
 rw[if_pos ⟨by rw[Zek,List.length_map],λx hx=>List.all_eq_true.1 (ZmS s) x (List.mem_of_mem_take hx)⟩,Zek,hp]
 have ha:a<=M:=by omega
 have ha2:(a:Int)<=M:=by omega
 simp[ha,ha2,hl1]
 have s_:=An @ha (An @ha2 (An @hl1 (@T_size)))
 try simp[s_]
 repeat' ((first|((first|refine Tp ?_|refine Tn ?_|refine T2 ?_ ?_)<;>intro h_ e_ n_)|rw[Ip]|rw[In]|rw[Fz]|rw[Gz]|fail)<;>first|simp[e_,n_,s_]|simp[s_]|skip)
 rw[if_pos ⟨by rw[Zek,List.length_map],λx hx=>List.all_eq_true.1 (ZmS t) x (List.mem_of_mem_take hx)⟩,Zek,hp2]
 have hXt:List.take M (Y.map yb)=Y.map yb:=List.take_of_length_le (by simp[hol])
 simp[hol,hXt]
end Go.Proofs.YtgpkaoombhobmaaGreat
