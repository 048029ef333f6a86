import Derived.Test.YtgpkaoombhobmaaGreatChecked
import Derived.Test.YtgpkaoombhobmaaGreatVTab
import Derived.Test.YtgpkaoombhobmaaGreatVShelf
import Derived.Test.YtgpkaoombhobmaaGreatVBe
import Derived.Test.YtgpkaoombhobmaaGreatVP2
import Derived.Test.YtgpkaoombhobmaaGreatVP1
import Derived.Test.YtgpkaoombhobmaaGreatVBd
import Derived.RangeFuncBox
import Derived.RangeFuncLeaves
import Derived.Shelf.Abstract
import Derived.WalkKit
import Derived.OwnWalkIn
import Derived.TacticsInMore
import Derived.LoopNIn
import Derived.LoopIn
import Derived.Maps.AppendAt
set_option linter.unusedVariables false
set_option linter.unusedSimpArgs false
namespace Go.Proofs.YtgpkaoombhobmaaGreat
open Go.Cx Tab
set_option maxHeartbeats 400000
set_option maxRecDepth 40000
instance:Mix Tryz.prog:=⟨Tryz.checked.mixed⟩
theorem ZM (s:ByteArray) (c:Nat) (hc:c<256):Zd Tryz.prog 260 [S s,Y8 c] (I (Lib.indexByte s.data.toList (UInt8.ofNat c))):=by
 refine Zd.ofCalls (by simp) rfl (Ent.mk Tryz.func260 (by kernel_rfl) rfl) λZ w cargs hz hr=> ?_
 cases hr with
 |cons h1 h2=>
  cases h2 with
  |cons h2 h3=>
   cases h3
   have hs:=Zae h1 rfl
   have hs2:=Zae h2 rfl
   subst hs hs2
   refine(Tryz.strings_IndexByte s c w).mono λe w' ⟨he,hw⟩=>⟨?_,by rw[hw];exact .refl _ _⟩
   rw[he]
   have:((c:Int).toNat.toUInt8)=UInt8.ofNat c:=by simp
   rw[this]
theorem check_ok (s:ByteArray):Zd Tryz.prog 230 [S s] (I (checkS s)):=by
 refine Pm Tryz.func230 λhfit=> ?_
 have e1:=Zgm s.data.toList 47
 have e2:=Zgm s.data.toList 0
 cases hn:nameOk s with
 |true=>
  obtain⟨⟨h1,h2⟩,h3,h4,h5,h6,h7⟩:=ZjZ hn
  have h2':=Nat.not_lt.2 h2
  have h5':¬s={data:= #[]}:=h5
  rw[h6] at e1
  rw[h7] at e2
  simp[Tryz.f230,checkS,hn,h3,h4,h5']
  have s_:=An @e1 (An @e2 (@h2'))
  have p1_:=ZM s 47 (by omega)
  have p2_:=ZM s 0 (by omega)
  exact WW
 |false=>
  simp[Tryz.f230,checkS,hn]
  rcases name_no hn with h|h|h|h|h|h
  ·have h:s={data:= #[]}:=h
   have s_:=h
   exact WW
  ·have s_:=h
   have p1_:=ZM s 47 (by omega)
   have p2_:=ZM s 0 (by omega)
   exact WW
  ·have s_:=h
   have p1_:=ZM s 47 (by omega)
   have p2_:=ZM s 0 (by omega)
   exact WW
  ·have s_:=h
   have p1_:=ZM s 47 (by omega)
   have p2_:=ZM s 0 (by omega)
   exact WW
  ·rw[h] at e1
   have s_:=e1
   have p1_:=ZM s 47 (by omega)
   have p2_:=ZM s 0 (by omega)
   exact WW
  ·rw[h] at e2
   have s_:=e2
   have p1_:=ZM s 47 (by omega)
   have p2_:=ZM s 0 (by omega)
   exact WW
theorem rcheck_ok (s:ByteArray):Zd Tryz.prog 214 [S s] (I (checkS s)):=by
 refine Pm Tryz.func214 λhfit=> ?_
 simp at hfit
 simp[Tryz.f214,checkS]
 by_cases h1:s= .empty
 ·have hn:nameOk .empty=false:=rfl
  subst h1
  have s_:=hn
  exact WW
 by_cases h2:32<s.size
 ·have hn:nameOk s=false:=by simp[nameOk,Nat.not_le.2 h2]
  have s_:=An @h1 (An @h2 (@hn))
  exact WW
 by_cases h3:s={data:= #[46]}
 ·have hn:nameOk s=false:=by rw[h3];simp[nameOk]
  rw[hn]
  have s_:=An @h1 (An @h2 (@h3))
  exact WW
 by_cases h4:s={data:= #[46,46]}
 ·have hn:nameOk s=false:=by rw[h4];simp[nameOk]
  rw[hn]
  have s_:=An @h1 (An @h2 (An @h3 (@h4)))
  exact WW
 simp[h1,h2,h3,h4]
 refine AW.loopG (lit:=λ_=>false) (λi:Nat=>⟨36,pat [(0,S s),(3,I i)],[]⟩) (λi=>s.size -i) (λi=>i<=s.size/\∀j,j<i->Zeq s j≠47/\Zeq s j≠0) 0 ?_ ?_ ?_
 ·exact Wk.at _ rfl rfl (by simp)
 ·simp
 rintro i ⟨h5,h6⟩ A hA
 by_cases hi:i<s.size
 case neg=>
  have hn:nameOk s=true:=by
   cases hx:nameOk s with
   |true=>rfl
   |false=>
    rcases name_no hx with h|h|h|h|h|h
    ·exact absurd h h1
    ·exact absurd h h2
    ·exact absurd h h3
    ·exact absurd h h4
    ·obtain⟨j,hj,e⟩:=(ZbJ s 47).1 h
     exact absurd e (h6 j (by omega)).1
    ·obtain⟨j,hj,e⟩:=(ZbJ s 0).1 h
     exact absurd e (h6 j (by omega)).2
  have s_:=hn
  exact WW
 have hw2:IntKind.i64.wrap ((i:Int)+1)=((i+1:Nat):Int):=by rw[Zf (by omega) (by omega)];omega
 by_cases h7:Zeq s i=47
 ·have hn:nameOk s=false:=by
   cases hx:nameOk s with
   |false=>rfl
   |true=>
    have:=(ZbJ s 47).2 ⟨i,hi,h7⟩
    rw[(ZjZ hx).2.2.2.2.1] at this;cases this
  have s_:=An @hn (@h7)
  exact WW
 by_cases h8:Zeq s i=0
 ·have hn:nameOk s=false:=by
   cases hx:nameOk s with
   |false=>rfl
   |true=>
    have:=(ZbJ s 0).2 ⟨i,hi,h8⟩
    rw[(ZjZ hx).2.2.2.2.2] at this;cases this
  have s_:=An @hn (An @h7 (@h8))
  exact WW
 have s_:=An @h7 (An @h8 (@hw2))
 have q1_:=λs w=>hA (i+1) s w ⟨by omega,lt_step h6 ⟨h7,h8⟩⟩ (by omega)
 exact WW
theorem right_name_ok (l:List EntryR):Zd Tryz.prog 200 [encL EntryR.enc l] (B (Zin l)):=by
 refine Pm Tryz.func200 λhfit=> ?_
 have d1_:=D0 4 24 [] []
 simp at hfit
 simp[Tryz.f200,Zin]
 refine AW.loopG (lit:=λ_=>false) (λi:Nat=>⟨40,pat [(0,encL EntryR.enc l),(5,encL EntryR.enc l),(6,I l.length),(7,I i)],[]⟩) (λi=>l.length -i) (λi=>i<=l.length/\ZbH (prevAt l i) (l.drop i)=ZbH none l) 0 ?_ ?_ ?_
 ·exact Wk.at _ rfl rfl (by simp)
 ·simp[prevAt]
 rintro i ⟨h5,h6⟩ A hA
 by_cases hi:i<l.length
 case neg=>
  rw[ZiP l i (by omega)] at h6
  have s_:=Eq.symm (h6)
  exact WW
 rw[Zll l i hi] at h6
 have hw2:=Zh hi hfit.1
 cases i with
 |zero=>
  simp[prevAt] at h6
  have s_:=An @hi (An @EntryR.enc.eq_1 (An @hw2 (Eq.symm (h6))))
  try simp[s_]
  repeat' ((first|((first|refine Tp ?_|refine Tn ?_|refine T2 ?_ ?_)<;>intro h_ e_ n_)|(exact hA 1 _ Wc ⟨by omega,by simp[prevAt,hi];simp_all⟩ (by omega))|refine Pg (check_ok (l[0]).name) ?_|refine Dg 4 24 [] [] ?_|rw[Ip]|rw[In]|rw[Fz]|rw[Gz]|fail)<;>first|simp[e_,n_,s_]|simp[s_]|skip)
 |succ i=>
  have hw3:IntKind.i64.wrap ((i:Int)+1 -1)=(i:Int):=by rw[show(i:Int)+1 -1=i by omega];exact Zf (by omega) (by have:=ZaW hfit.1;omega)
  have hw4:IntKind.i64.wrap (i:Int)=(i:Int):=Zf (by omega) (by have:=ZaW hfit.1;omega)
  have hw5:IntKind.i64.wrap ((i:Int)+1+1)=(i:Int)+2:=by rw[Zf (by omega) (by have:=ZaW hfit.1;omega)];omega
  have hi0:i<l.length:=by omega
  simp[prevAt,hi0] at h6
  have s_:=An @hi (An @EntryR.enc.eq_1 (An @hw2 (An @hw3 (An @hw4 (An @hw5 (An @hi0 (Eq.symm (h6))))))))
  try simp[s_]
  repeat' ((first|((first|refine Tp ?_|refine Tn ?_|refine T2 ?_ ?_)<;>intro h_ e_ n_)|(exact hA (i+2) _ Wc ⟨by omega,by simp[prevAt,hi];simp_all⟩ (by omega))|refine Pg (check_ok (l[i+1]).name) ?_|refine Dg 4 24 [] [] ?_|rw[Ip]|rw[In]|rw[Fz]|rw[Gz]|fail)<;>first|simp[e_,n_,s_]|simp[s_]|skip)
theorem ZtO (a b:List EntryR):Zd Tryz.prog 170 [encL EntryR.enc a,encL EntryR.enc b] (B (decide (a=b))):=by
 refine Pm Tryz.func170 λhfit=> ?_
 simp at hfit
 simp[Tryz.f170]
 by_cases hl:a.length=b.length
 case neg=>
  have:¬a=b:=λe=>hl (by rw[e])
  simp[hl,this]
 simp[hl]
 refine AW.loopG (lit:=λ_=>false) (λi:Nat=>⟨26,pat [(0,encL EntryR.enc a),(1,encL EntryR.enc b),(12,I b.length),(13,I i)],[]⟩) (λi=>b.length -i) (λi=>i<=b.length/\a.take i=b.take i) 0 ?_ ?_ ?_
 ·exact Wk.at _ rfl rfl (by simp[hl])
 ·simp
 ·rintro i ⟨hi,ht⟩ A hA
  by_cases h:i<b.length
  case neg=>
   have:=ZbV ht (by omega) (by omega)
   simp[h,hl,eq_true this]
  have ha:i<a.length:=by omega
  simp[h,hl]
  refine Dg _ 9 [] [] ?_
  simp[h,ha]
  by_cases h2:a[i]=b[i]
  ·simp[entK,h2,Zh ha hfit.1.1]
   exact hA (i+1) _ Wa ⟨by omega,take_step ht ha h h2⟩ (by omega)
  ·have:¬a=b:=λe=>by subst e;exact h2 rfl
   simp[entK,h2,this]
theorem ZqZ (a b:List EntryR):Zd Tryz.prog 97 [encL EntryR.enc a,encL EntryR.enc b] (B (decide (a=b))):=by
 refine Pm Tryz.func97 λhfit=> ?_
 simp at hfit
 simp[Tryz.f97]
 by_cases hl:a.length=b.length
 case neg=>
  have:¬a=b:=λe=>hl (by rw[e])
  simp[hl,this]
 simp[hl]
 refine AW.loopG (lit:=λ_=>false) (λi:Nat=>⟨26,pat [(0,encL EntryR.enc a),(1,encL EntryR.enc b),(5,I i)],[]⟩) (λi=>b.length -i) (λi=>i<=b.length/\a.take i=b.take i) 0 ?_ ?_ ?_
 ·exact Wk.at _ rfl rfl (by simp[hl])
 ·simp
 ·rintro i ⟨hi,ht⟩ A hA
  by_cases h:i<b.length
  case neg=>
   have:=ZbV ht (by omega) (by omega)
   simp[h,hl,eq_true this]
  have ha:i<a.length:=by omega
  simp[h,hl]
  refine Dg _ 9 [] [] ?_
  simp[h,ha]
  by_cases h2:a[i]=b[i]
  ·simp[entK,h2,Zh ha hfit.1.1]
   exact hA (i+1) _ Wa ⟨by omega,take_step ht ha h h2⟩ (by omega)
  ·have:¬a=b:=λe=>by subst e;exact h2 rfl
   simp[entK,h2,this]
theorem Zit (l:List EntryR):Zd Tryz.prog 182 [encL EntryR.enc l] (B (Zin l)):=by
 refine Pm Tryz.func182 λhfit=> ?_
 have d1_:=D0 7 28 [] []
 simp at hfit
 simp[Tryz.f182,Zin]
 by_cases hl:l.length<=256
 case neg=>
  have s_:=hl
  exact WW
 have hl':=Nat.not_lt.2 hl
 simp[hl']
 refine AW.loopG (lit:=λ_=>false) (λi:Nat=>⟨48,pat [(0,encL EntryR.enc l),(3,I i)],[]⟩) (λi=>l.length -i) (λi=>i<=l.length/\ZbH (prevAt l i) (l.drop i)=ZbH none l) 0 ?_ ?_ ?_
 ·exact Wk.at _ rfl rfl (by simp)
 ·simp[prevAt]
 rintro i ⟨h5,h6⟩ A hA
 by_cases hi:i<l.length
 case neg=>
  rw[ZiP l i (by omega)] at h6
  have s_:=An (Eq.symm (h6)) (@hl)
  exact WW
 rw[Zll l i hi] at h6
 have hw2:=Zh hi hfit.1
 cases i with
 |zero=>
  simp[prevAt] at h6
  have s_:=An @hi (An @EntryR.enc.eq_1 (An @hw2 (An (Eq.symm (h6)) (@hl))))
  try simp[s_]
  repeat' ((first|((first|refine Tp ?_|refine Tn ?_|refine T2 ?_ ?_)<;>intro h_ e_ n_)|(exact hA 1 _ Wa ⟨by omega,by simp[prevAt,hi];simp_all⟩ (by omega))|refine Pg (rcheck_ok (l[0]).name) ?_|refine Dg 7 28 [] [] ?_|rw[Ip]|rw[In]|rw[Fz]|rw[Gz]|fail)<;>first|simp[e_,n_,s_]|simp[s_]|skip)
 |succ i=>
  have hw3:IntKind.i64.wrap ((i:Int)+1 -1)=(i:Int):=by rw[show(i:Int)+1 -1=i by omega];exact Zf (by omega) (by have:=ZaW hfit.1;omega)
  have hw4:IntKind.i64.wrap (i:Int)=(i:Int):=Zf (by omega) (by have:=ZaW hfit.1;omega)
  have hw5:IntKind.i64.wrap ((i:Int)+1+1)=(i:Int)+2:=by rw[Zf (by omega) (by have:=ZaW hfit.1;omega)];omega
  have hi0:i<l.length:=by omega
  simp[prevAt,hi0] at h6
  have s_:=An @hi (An @EntryR.enc.eq_1 (An @hw2 (An @hw3 (An @hw4 (An @hw5 (An @hi0 (An (Eq.symm (h6)) (@hl))))))))
  try simp[s_]
  repeat' ((first|((first|refine Tp ?_|refine Tn ?_|refine T2 ?_ ?_)<;>intro h_ e_ n_)|(exact hA (i+2) _ Wa ⟨by omega,by simp[prevAt,hi];simp_all⟩ (by omega))|refine Pg (rcheck_ok (l[i+1]).name) ?_|refine Dg 7 28 [] [] ?_|rw[Ip]|rw[In]|rw[Fz]|rw[Gz]|fail)<;>first|simp[e_,n_,s_]|simp[s_]|skip)
theorem ZtP (n:NodeR):Zd Tryz.prog 163 [encN n] (B (nodeOk n)):=by
 refine Pm Tryz.func163 λhfit=> ?_
 simp[Tryz.f163,NodeR.enc,nodeOk]
 try simp
 repeat' ((first|((first|refine Tp ?_|refine Tn ?_|refine T2 ?_ ?_)<;>intro h_ e_ n_)|refine Pg (right_name_ok n.l) ?_|rw[Ip]|rw[In]|rw[Fz]|rw[Gz]|fail)<;>first|simp[e_,n_]|simp|skip)
 intro h;rw[h];rfl
theorem Zwq (n:NodeR):Zd Tryz.prog 269 [encN n] (I (sizeS n)):=by
 refine Pm Tryz.func269 λhfit=> ?_
 simp[Tryz.f269,NodeR.enc,sizeS]
 exact WW
theorem Zph (a b:NodeR):Zd Tryz.prog 132 [encN a,encN b] (B (decide (a=b))):=by
 refine Pm Tryz.func132 λhfit=> ?_
 simp only[NodeR.eq_iff]
 simp[Tryz.f132,NodeR.enc]
 have p1_:=ZtO a.l b.l
 exact WW
theorem rnright_ok (n:NodeR):Zd Tryz.prog 151 [encN n] (B (nodeOk n)):=by
 refine Pm Tryz.func151 λhfit=> ?_
 simp[Tryz.f151,NodeR.enc,nodeOk]
 have p1_:=Zit n.l
 exact WW
theorem rnsame_ok (a b:NodeR):Zd Tryz.prog 48 [encN a,encN b] (B (decide (a=b))):=by
 refine Pm Tryz.func48 λhfit=> ?_
 simp only[NodeR.eq_iff]
 simp[Tryz.f48,NodeR.enc]
 have p1_:=ZqZ a.l b.l
 exact WW
theorem Zkr (l:List NodeR) (hl:l.length<=1000000):XCall Tryz.prog 335 [encL NodeR.enc l] [] (.own 0 0 0 l.length 5) [.cells 0 (l.flatMap NodeR.enc)]:=by
 refine XCall.mkE 5 (λ_=>false) Tryz.func335 rfl rfl rfl (Ent.mk Tryz.func335 (by kernel_rfl) rfl) (by simp) (by simp) (by simp) (by simp) (by simp) λhfit=> ?_
 simp at hfit
 simp[Tryz.f335]
 rw[if_pos (by simp only[maxLen];omega)]
 simp
 intro h0
 subst h0
 simp
theorem ZtQ (n:NodeR):Zd Tryz.prog 167 [encN n] (I n.ino):=by
 refine Pm Tryz.func167 λhfit=> ?_
 simp[Tryz.f167,NodeR.enc]
theorem Zeg (x y:Int):Zd Tryz.prog 105 [I x,I y] (I (Lib.compareInt x y)):=by
 refine Zd.ofCalls (by simp) rfl (Ent.mk Tryz.func105 (by kernel_rfl) rfl) λZ w cargs hz hr=> ?_
 cases hr with
 |cons h1 h2=>
  cases h2 with
  |cons h2 h3=>
   cases h3
   have hs:=Zae h1 rfl
   have hs2:=Zae h2 rfl
   subst hs hs2
   exact(Tryz.cmp_Compare_int x y w).mono λe w' ⟨he,hw⟩=>⟨he,by rw[hw];exact .refl _ _⟩
abbrev byIno:AV:= .fn 202 [.fp [.fn 167 []]]
theorem ZfX (n:NodeR) (k:Int):Zd Tryz.prog 202 [encN n,I k,.fp [.fn 167 []]] (I (Lib.compareInt n.ino k)):=by
 refine Pm Tryz.func202 λhfit=> ?_
 simp[Tryz.f202,NodeR.enc]
 have s_:= @NodeR.enc.eq_1
 have p1_:=ZtQ n
 have p2_:=Zeg n.ino k
 exact WW
theorem cmp_lt (x y:Int):(Lib.compareInt x y<0)=(x<y):=by
 unfold Lib.compareInt
 apply propext
 repeat' split
 all_goals(constructor<;>intro h<;>simp_all<;>omega)
theorem cmp_eq (x y:Int):(Lib.compareInt x y=0)=(x=y):=by
 unfold Lib.compareInt
 apply propext
 repeat' split
 all_goals(constructor<;>intro h<;>simp_all<;>omega)
theorem Zra (l:List NodeR) (k:Int) (hl:l.length<=1000000):Zd Tryz.prog 201 [encL NodeR.enc l,I k,byIno] (.tup [I (bsGo (Zce l) k 0 l.length),B (decide (bsGo (Zce l) k 0 l.length<l.length)&&decide (Zce l (bsGo (Zce l) k 0 l.length)=k))]):=by
 refine Pm Tryz.func201 λhfit=> ?_
 simp at hfit
 simp[Tryz.f201]
 refine AW.loopG (lit:=λ_=>false) (λx:Nat×Nat=>⟨49,pat [(0,encL NodeR.enc l),(1,I k),(2,byIno),(8,I l.length),(9,I x.1),(10,I x.2)],[]⟩) (λx=>x.2 -x.1) (λx=>x.1<=x.2/\x.2<=l.length/\bsGo (Zce l) k x.1 x.2=bsGo (Zce l) k 0 l.length) (0,l.length) ?_ ?_ ?_
 ·exact Wk.at _ rfl rfl (by simp)
 ·simp
 rintro⟨i,j⟩ ⟨h1,h2,h3⟩ A hA
 simp only at h1 h2 h3
 have hat:∀m (h:m<l.length),Zce l m=(l[m]).ino:=λm h=>by simp[Zce,List.getD_eq_getElem?_getD,h]
 by_cases h:i<j
 case neg=>
  have hij:i=j:=by omega
  subst hij
  rw[Zdo h] at h3
  by_cases hi:i<l.length
  ·have e1:=hat i hi
   have s_:=An @h (An @hi (An (Eq.symm (h3)) (An @cmp_eq (An @NodeR.enc.eq_1 (@e1)))))
   have p1_:=ZfX l[i] k
   exact WW
  ·have s_:=An @h (An @hi (Eq.symm (h3)))
   exact WW
 rw[Zdn h] at h3
 have hm:(i+j)/2<l.length:=by omega
 have e1:=hat _ hm
 have w1:IntKind.i64.wrap ((i:Int)+j)=(i:Int)+j:=Zf (by omega) (by omega)
 have w2:((i:Int)+j)%18446744073709551616=(i:Int)+j:=by omega
 have w3:((i:Int)+j).fdiv 2=(((i+j)/2:Nat):Int):=by rw[Int.fdiv_eq_ediv_of_nonneg _ (by omega)];omega
 have w4:IntKind.i64.wrap (((i+j)/2:Nat):Int)=(((i+j)/2:Nat):Int):=Zf (by omega) (by omega)
 generalize hmm:(i+j)/2=m at*
 have w5:IntKind.i64.wrap ((m:Int)+1)=((m+1:Nat):Int):=by rw[Zf (by omega) (by omega)];omega
 have hk:Zce l m<k\/¬Zce l m<k:=Classical.em _
 rcases hk with hk|hk
 ·rw[if_pos hk] at h3
  rw[e1] at hk
  have s_:=An @h (An @w1 (An @w2 (An @w3 (An @w4 (An @w5 (An @hm (An @cmp_lt (An @NodeR.enc.eq_1 (@hk)))))))))
  have q1_:=λs w=>hA (m+1,j) s w ⟨by simp only;omega,h2,h3⟩ (by simp only;omega)
  have p1_:=ZfX l[m] k
  exact WW
 ·rw[if_neg hk] at h3
  rw[e1] at hk
  have s_:=An @h (An @w1 (An @w2 (An @w3 (An @w4 (An @w5 (An @hm (An @cmp_lt (An @NodeR.enc.eq_1 (@hk)))))))))
  have q1_:=λs w=>hA (i,m) s w ⟨by simp only;omega,by simp only;omega,h3⟩ (by simp only;omega)
  have p1_:=ZfX l[m] k
  exact WW
theorem Zfz (l:List NodeR) (k:Int) (hl:l.length<=1000000):Zd Tryz.prog 166 [encL NodeR.enc l,I k,.fn 167 []] (.tup [I (plc l k),B (decide (plc l k<l.length)&&decide (Zce l (plc l k)=k))]):=by
 refine Pm Tryz.func166 λhfit=> ?_
 simp[Tryz.f166]
 have p1_:=Zra l k hl
 exact WW
abbrev encF (f:FSR):AV:= .agg f.enc
theorem find_ok (f:FSR) (k:Int) (hl:f.l.length<=1000000):Zd Tryz.prog 120 [encF f,I k] (.tup [encN (findB f.l k).1,B (findB f.l k).2]):=by
 refine Pm Tryz.func120 λhfit=> ?_
 by_cases h:plc f.l k<f.l.length
 case neg=>
  simp[Tryz.f120,FSR.enc,findB,h]
  have s_:=An @FSR.enc.eq_1 (An @NodeR.enc.eq_1 (An @NodeR.zero.eq_1 (@h)))
  have p1_:=Zfz f.l k hl
  exact WW
 by_cases h2:Zce f.l (plc f.l k)=k
 case neg=>
  simp[Tryz.f120,FSR.enc,findB,h,h2]
  have s_:=An @FSR.enc.eq_1 (An @NodeR.enc.eq_1 (An @NodeR.zero.eq_1 (An @h (@h2))))
  have p1_:=Zfz f.l k hl
  exact WW
 have e:f.l.getD (plc f.l k) .zero=f.l[plc f.l k]:=by simp[List.getD_eq_getElem?_getD,h]
 simp only[findB,if_pos (An h h2),e]
 simp[Tryz.f120,FSR.enc]
 have s_:=An @FSR.enc.eq_1 (An @NodeR.enc.eq_1 (An @NodeR.zero.eq_1 (An @h (@h2))))
 have p1_:=Zfz f.l k hl
 exact WW
theorem Zwr (f:FSR):Zd Tryz.prog 81 [encF f] (B (Zdr f)):=by
 refine Pm Tryz.func81 λhfit=> ?_
 have d1_:=D0 7 33 [] []
 obtain⟨l,next⟩:=f
 simp[FSR.enc] at hfit
 simp[Tryz.f81,Zdr,FSR.enc]
 by_cases hl:l.length<=256
 case neg=>
  have s_:=hl
  exact WW
 have hl':=Nat.not_lt.2 hl
 by_cases hn:1<=next
 case neg=>
  have s_:=An @hl (An @hl' (@hn))
  exact WW
 have hn':=Int.not_lt.2 hn
 simp[hl',hn']
 refine AW.loopG (lit:=λ_=>false) (λi:Nat=>⟨60,pat [(1,.ptr 0 0 0),(3,I i)],[.cells 0 [encL NodeR.enc l,I next]]⟩) (λi=>l.length -i) (λi=>i<=l.length/\Zbo next (prevIno l i) (l.drop i)=Zbo next none l) 0 ?_ ?_ ?_
 ·exact Wa
 ·simp[prevIno]
 rintro i ⟨h5,h6⟩ A hA
 by_cases hi:i<l.length
 case neg=>
  rw[ZmW next l i (by omega)] at h6
  have s_:=An (Eq.symm (h6)) (An @hi (An @hl (@hn)))
  exact WW
 rw[Zqd next l i hi] at h6
 have hw2:=Zh hi hfit.1
 cases i with
 |zero=>
  simp[prevIno] at h6
  have s_:=An @hi (An @NodeR.enc.eq_1 (An @hw2 (An (Eq.symm (h6)) (An @hl (@hn)))))
  try simp[s_]
  repeat' ((first|((first|refine Tp ?_|refine Tn ?_|refine T2 ?_ ?_)<;>intro h_ e_ n_)|(exact hA 1 _ Wa ⟨by omega,by simp[prevIno,hi];simp_all⟩ (by omega))|refine Pg (rnright_ok l[0]) ?_|refine Dg 7 33 [] [] ?_|rw[Ip]|rw[In]|rw[Fz]|rw[Gz]|fail)<;>first|simp[e_,n_,s_]|simp[s_]|skip)
 |succ i=>
  have hw3:IntKind.i64.wrap ((i:Int)+1 -1)=(i:Int):=by rw[show(i:Int)+1 -1=i by omega];exact Zf (by omega) (by have:=ZaW hfit.1;omega)
  have hw4:IntKind.i64.wrap (i:Int)=(i:Int):=Zf (by omega) (by have:=ZaW hfit.1;omega)
  have hw5:IntKind.i64.wrap ((i:Int)+1+1)=(i:Int)+2:=by rw[Zf (by omega) (by have:=ZaW hfit.1;omega)];omega
  have hi0:i<l.length:=by omega
  simp[prevIno,hi0] at h6
  have s_:=An @hi (An @NodeR.enc.eq_1 (An @hw2 (An @hw3 (An @hw4 (An @hw5 (An @hi0 (An (Eq.symm (h6)) (An @hl (@hn)))))))))
  try simp[s_]
  repeat' ((first|((first|refine Tp ?_|refine Tn ?_|refine T2 ?_ ?_)<;>intro h_ e_ n_)|(exact hA (i+2) _ Wa ⟨by omega,by simp[prevIno,hi];simp_all⟩ (by omega))|refine Pg (rnright_ok l[i+1]) ?_|refine Dg 7 33 [] [] ?_|rw[Ip]|rw[In]|rw[Fz]|rw[Gz]|fail)<;>first|simp[e_,n_,s_]|simp[s_]|skip)
theorem Zjs (f g:FSR):Zd Tryz.prog 106 [encF f,encF g] (B (decide (f=g))):=by
 refine Pm Tryz.func106 λhfit=> ?_
 have d1_:=D0 6 12 [] []
 obtain⟨a,m⟩:=f
 obtain⟨b,n⟩:=g
 simp only[FSR.eq_iff]
 simp[FSR.enc] at hfit
 simp[Tryz.f106,FSR.enc]
 by_cases hm:m=n
 case neg=>
  have s_:=hm
  exact WW
 by_cases hl:a.length=b.length
 case neg=>
  have:¬a=b:=λe=>hl (by rw[e])
  have s_:=An @hm (An @hl (@this))
  exact WW
 subst hm
 simp[hl]
 refine AW.loopG (lit:=λ_=>false) (λi:Nat=>⟨41,pat [(2,.ptr 0 0 0),(3,.ptr 1 0 0),(5,I i)],[.cells 0 [encL NodeR.enc a,I m],.cells 0 [encL NodeR.enc b,I m]]⟩) (λi=>b.length -i) (λi=>i<=b.length/\a.take i=b.take i) 0 ?_ ?_ ?_
 ·exact Wk.at _ rfl (by simp[hl]) (by simp[hl])
 ·simp
 ·rintro i ⟨hi,ht⟩ A hA
  by_cases h:i<b.length
  case neg=>
   have:=ZbV ht (by omega) (by omega)
   have s_:=An @h (An @hl ((eq_true this)))
   exact WW
  have ha:i<a.length:=by omega
  have hw2:=Zh ha hfit.1.1
  by_cases h2:a[i]=b[i]
  ·have s_:=An @h (An @hl (An @ha (An @hw2 (@h2))))
   try simp[s_]
   repeat' ((first|((first|refine Tp ?_|refine Tn ?_|refine T2 ?_ ?_)<;>intro h_ e_ n_)|(exact hA (i+1) _ (Wk.at _ rfl (by simp[hl]) (by simp[hl])) ⟨by omega,take_step ht ha h h2⟩ (by omega))|refine Pg (rnsame_ok a[i] b[i]) ?_|refine Dg 6 12 [] [] ?_|rw[Ip]|rw[In]|rw[Fz]|rw[Gz]|fail)<;>first|simp[e_,n_,s_]|simp[s_]|skip)
  ·have:¬a=b:=λe=>by subst e;exact h2 rfl
   have s_:=An @h (An @hl (An @ha (An @hw2 (An @h2 (@this)))))
   have p1_:=rnsame_ok a[i] b[i]
   exact WW
theorem Zrb (l:List NodeR) (i:Nat) (x:NodeR) (hi:i<=l.length) (hl:l.length<=1000000):XCall Tryz.prog 336 [.own 0 0 0 l.length 5,I i,.sl true 1 x.enc] [.cells 0 (l.flatMap NodeR.enc)] (.own 0 1 0 (l.length+1) 5) [.cells 1 ((insL l i x).flatMap NodeR.enc)]:=by
 by_cases hi2:i=l.length
 case pos=>
  subst hi2
  refine XCall.mkG (λs (_:Unit)=>s) (λ_=>false) Tryz.func336 rfl rfl rfl (Ent.mk Tryz.func336 (by kernel_rfl) rfl) (by simp) (by simp) (by simp) (by simp) (by simp) λhfit=> ?_
  refine⟨WkE.one _ _,λ_=> ?_⟩
  simp[Tryz.f336]
  rw[if_pos (by simp only[maxLen];omega)]
  simp
  exact⟨_,Wk.refl _ _,by simp[ZdT]⟩
 have hi3:i<l.length:=by omega
 have hcp:∀cap,l.length<=cap->(l.length*5+(cap*5 -l.length*5))/5=cap:=λcap h=>by omega
 have hw1:IntKind.i64.wrap ((l.length:Int)+1)=((l.length+1:Nat):Int):=by rw[Zf (by omega) (by omega)];omega
 have hw2:IntKind.i64.wrap ((i:Int)+1)=((i+1:Nat):Int):=by rw[Zf (by omega) (by omega)];omega
 have hw3:IntKind.i64.wrap ((l.length:Int)+1 -i)=((l.length+1 -i:Nat):Int):=by rw[Zf (by omega) (by omega)];omega
 have hw4:((i:Int)+((l.length+1 -i:Nat):Int)).toNat=l.length+1:=by omega
 have hm1:min 1 (l.length+1 -i)=1:=by omega
 have hm2:∀cap,l.length<=cap->min (i*5) (l.length*5+(cap*5 -l.length*5))=i*5:=λcap h=>by omega
 have hov:∀(lb:Nat) (h:Za) (y:ABlk) (Q:AV->Za->Prop),h[0]? =some y->(blkCells y).map (·.1)=some 0->Q (B false) h->AInv Tryz.prog (.fn 344 []) [.sl true 1 x.enc,.own 0 0 (i+1) lb 5] h Q:=λlb h y Q hy hv hq=>
  Zbu Tryz.func344 (by kernel_rfl) rfl (by kernel_rfl) rfl rfl (by kernel_rfl) (k:=5) (by kernel_rfl) true 1 _ _ 0 0 (i+1) lb hy hv (by omega) Q hq
 refine XCall.mkG (λs (cap:{cap:Nat//l.length<=cap/\cap<=maxLen})=>Zcd s 0 0 5 (l.flatMap NodeR.enc) cap.1) (λ_=>false) Tryz.func336 rfl rfl rfl (Ent.mk Tryz.func336 (by kernel_rfl) rfl) (by simp) (by simp) (by simp) (by simp) (by simp) λhfit=> ?_
 refine⟨WkE.full (t:=0) (by simp) (by simp) (by omega) (by simp),?_⟩
 rintro⟨cap,hc1,hc2⟩
 have hcp1:=hcp cap hc1
 have hm3:=hm2 cap hc1
 have hi4:¬i=l.length:=by omega
 have hle:i<=l.length:=by omega
 generalize hA:List.replicate (cap*5 -l.length*5) AV.any=A
 have hAl:A.length=cap*5 -l.length*5:=by rw[<-hA];simp
 have hLl:(l.flatMap NodeR.enc).length=l.length*5:=Zlb l
 have hta:(l.flatMap NodeR.enc++A).take (i*5)=(l.flatMap NodeR.enc).take (i*5):=List.take_append_of_le_length (by rw[hLl];omega)
 have hdr:(l.flatMap NodeR.enc).drop (i*5)=(l.drop i).flatMap NodeR.enc:=ZmQ l i
 have hq0:(l.flatMap NodeR.enc++A).drop (i*5)=(l.drop i).flatMap NodeR.enc++A:=by rw[List.drop_append_of_le_length (by rw[hLl];omega),hdr]
 have hdl:((l.drop i).flatMap NodeR.enc).length=l.length*5 -i*5:=by rw[Zlb,List.length_drop];omega
 by_cases hr:l.length+1<=cap
 ·have hm4:min (l.length+1 -i) (l.length -i)=l.length -i:=by omega
  have hm5:min ((l.length+1 -i)*5) ((l.length -i)*5+(cap*5 -l.length*5))=(l.length+1 -i)*5:=by omega
  have hm6:min ((l.length+1 -i)*5) (l.length*5+(cap*5 -l.length*5) -i*5)=(l.length+1 -i)*5:=by omega
  have hq1:List.take ((l.length -i)*5) (List.take ((l.length+1 -i)*5) ((l.drop i).flatMap NodeR.enc++A))=(l.drop i).flatMap NodeR.enc:=by
   rw[List.take_take,Nat.min_eq_left (by omega),List.take_left' (by rw[hdl];omega)]
  have hq2:(putAt (l.flatMap NodeR.enc++A) ((i+1)*5) ((l.drop i).flatMap NodeR.enc)).length=cap*5:=by
   rw[ZD (by rw[List.length_append,hLl,hAl,hdl];omega),List.length_append,hLl,hAl];omega
  have hq3:(putAt (putAt (l.flatMap NodeR.enc++A) ((i+1)*5) ((l.drop i).flatMap NodeR.enc)) (i*5) x.enc).take ((l.length+1)*5)=(insL l i x).flatMap NodeR.enc:=by
   have:=ZdR (L:=l.flatMap NodeR.enc) (A:=A) (X:=x.enc) (a:=i*5) (k:=5) hLl (by omega) rfl (by rw[hAl];omega)
   rw[Zlj,hq0,List.take_left' (by rw[hdl])] at this
   rw[show(i+1)*5=i*5+5 by omega,show(l.length+1)*5=l.length*5+5 by omega]
   exact this
  have hone:∀y∈(l.drop i).flatMap NodeR.enc,Zx y=true:=List.all_eq_true.1 (Zla _)
  simp[Tryz.f336,Zcd,hA]
  have s_:=An @hcp1 (An @hw1 (An @hw2 (An @hw3 (An @hw4 (An @hm1 (An @hm3 (An @hm4 (An @hq0 (An @hq1 (An @hq2 (An @hi3 (An @hi4 (An @hle (@hr))))))))))))))
  try simp[s_]
  repeat' ((first|((first|refine Tp ?_|refine Tn ?_|refine T2 ?_ ?_)<;>intro h_ e_ n_)|(refine hov _ _ _ _ rfl rfl ?_;simp)|(refine optBif ⟨rfl,by rw[List.length_append,hLl,hAl];omega,by rw[List.length_take,List.length_append,hdl,hAl];omega,by rw[hm4,hq1];exact hone⟩ ?_;simp)|refine Dg 11 9 [] [] ?_|refine Dg 15 9 [] [] ?_|rw[Ip]|rw[In]|rw[Fz]|rw[Gz]|fail)<;>first|simp[e_,n_,s_]|simp[s_]|skip)
  exact⟨_,Wk.trans (Wk.prefix 0 0 ((l.length+1)*5) rfl rfl) (Wk.bump 6 0 0 0 (l.length+1) 5 (by simp) rfl),by simp[hq3]⟩
 ·have hm5:min ((l.length -i)*5) ((l.length -i)*5+(cap*5 -l.length*5))=(l.length -i)*5:=by omega
  have hq1:List.take ((l.length -i)*5) (List.take ((l.length -i)*5) ((l.drop i).flatMap NodeR.enc++A))=(l.drop i).flatMap NodeR.enc:=by
   rw[List.take_take,Nat.min_self,List.take_left' (by rw[hdl];omega)]
  have hq4:List.take ((l.length -i)*5) ((l.drop i).flatMap NodeR.enc)=(l.drop i).flatMap NodeR.enc:=List.take_of_length_le (by rw[hdl];omega)
  have hone:∀y∈(l.drop i).flatMap NodeR.enc,Zx y=true:=List.all_eq_true.1 (Zla _)
  simp[Tryz.f336,Zcd,hA]
  generalize hZ:(List.replicate (l.length+1 -i) [AV.val (Value.int IntKind.i64 0),AV.val (Value.int IntKind.i64 0),AV.val (Value.int IntKind.i64 0),AV.val (Value.string ByteArray.empty),AV.sl true 0 []]).flatten=Z
  have hZl:Z.length=(l.length+1 -i)*5:=by rw[<-hZ];simp
  have hta':((l.flatMap NodeR.enc).take (i*5)).length=i*5:=by rw[List.length_take,hLl];omega
  have hq2:(putAt ((l.flatMap NodeR.enc).take (i*5)++Z) (i*5) x.enc).length=(l.length+1)*5:=by
   rw[ZD (by rw[List.length_append,hta',hZl,ZpX];omega),List.length_append,hta',hZl];omega
  have hq3:putAt (putAt ((l.flatMap NodeR.enc).take (i*5)++Z) (i*5) x.enc) ((i+1)*5) ((l.drop i).flatMap NodeR.enc)=(insL l i x).flatMap NodeR.enc:=by
   have:=ZdS (L:=l.flatMap NodeR.enc) (A:=A) (X:=x.enc) (Z:=Z) (a:=i*5) (k:=5) hLl (by omega) rfl (by rw[hZl];omega)
   rw[Zlj,hta,hq0,List.take_left' (by rw[hdl])] at this
   rw[show(i+1)*5=i*5+5 by omega]
   exact this
  have s_:=An @hcp1 (An @hw1 (An @hw2 (An @hw3 (An @hw4 (An @hm1 (An @hm3 (An @hq0 (An @hq1 (An @hq4 (An @hta (An @hZ (An @hi3 (An @hi4 (An @hle (@hr)))))))))))))))
  try simp[s_]
  repeat' ((first|((first|refine Tp ?_|refine Tn ?_|refine T2 ?_ ?_)<;>intro h_ e_ n_)|(refine optBif ⟨by rw[hq2];omega,hone⟩ ?_;simp)|refine Dg 11 9 [] [] ?_|refine Dg 15 9 [] [] ?_|rw[Ip]|rw[In]|rw[Fz]|rw[Gz]|fail)<;>first|simp[e_,n_,s_]|simp[s_]|skip)
  exact⟨_,Wk.move 6 0 1 0 0 (l.length+1) 5 (by decide) (by simp;omega) rfl rfl rfl,by simp[hq3]⟩
theorem Zrc (l:List NodeR) (g:FuncId) (cap:List AV) (p:NodeR->Bool) (hcap:cap.all neat=true) (hp:∀x∈l,Zd Tryz.prog g (.agg x.enc::cap) (B (p x))) (hl:l.length<=1000000):Zd Tryz.prog 354 [encL NodeR.enc l,.fn g cap] (I (idxS p l)):=by
 refine Zd.mk (λ_=>false) Tryz.func354 rfl rfl rfl (Ent.mk Tryz.func354 (by kernel_rfl) rfl) (by simp[hcap]) (by simp) λhfit=> ?_
 simp at hfit
 simp[Tryz.f354]
 refine AW.loopG (lit:=λ_=>false) (λi:Nat=>⟨19,pat [(0,encL NodeR.enc l),(1,.fn g cap),(7,I l.length),(8,I i)],[]⟩) (λi=>l.length -i) (λi=>i<=l.length/\ZaM p i (l.drop i)=idxS p l) 0 ?_ ?_ ?_
 ·exact Wk.at _ rfl rfl (by simp)
 ·simp[idxS]
 rintro i ⟨h1,h2⟩ A hA
 by_cases hi:i<l.length
 case neg=>
  rw[ZbX hi] at h2
  have s_:=An @hi (Eq.symm (h2))
  exact WW
 rw[ZcG hi] at h2
 have hw:=Zh hi hfit.1.1
 have hpi:=hp l[i] (List.getElem_mem hi)
 cases hpp:p l[i] with
 |true=>
  rw[hpp] at hpi
  simp only[hpp,if_true] at h2
  have s_:=An @hi (An (Eq.symm (h2)) (@hpp))
  have p1_:=hpi
  exact WW
 |false=>
  rw[hpp] at hpi
  simp only[hpp,Bool.false_eq_true,if_false] at h2
  have s_:=An @hi (An @hw (@hpp))
  try simp[s_]
  repeat' ((first|((first|refine Tp ?_|refine Tn ?_|refine T2 ?_ ?_)<;>intro h_ e_ n_)|(exact hA (i+1) _ Wa ⟨by omega,h2⟩ (by omega))|refine Pg hpi ?_|refine Dg 11 9 [] [] ?_|refine Dg 15 9 [] [] ?_|rw[Ip]|rw[In]|rw[Fz]|rw[Gz]|fail)<;>first|simp[e_,n_,s_]|simp[s_]|skip)
theorem ZnL (l:List NodeR) (g:FuncId) (cap cap':List AV) (hc:Za) (p:NodeR->Bool) (hcap:cap'.all neat=true) (hcr:cap.all (refsLt (hc.length+1))=true) (hhc:hc.all (ABlk.refsLt (hc.length+1))=true) (hfr:∀(f:Nat) (b0:ABlk) (tl:Za),frzs (b0::(hc++tl)) 0 (f+3) cap=some cap')
  (hp:∀x∈l,Zd Tryz.prog g (.agg x.enc::cap') (B (p x))) (hl:l.length<=1000000):XCall Tryz.prog 347 [.own 0 0 0 l.length 5,.fn g cap] (.cells 0 (l.flatMap NodeR.enc)::hc) (.own 0 0 0 (l.filter λx=> !p x).length 5) (.cells 0 ((l.filter λx=> !p x).flatMap NodeR.enc)::hc):=by
 refine XCall.mkG (λs (_:Unit)=>s) (λ_=>false) Tryz.func347 rfl rfl rfl (Ent.mk Tryz.func347 (by kernel_rfl) rfl) (by simp;simpa using hcr) (by simp;simpa using hhc) (by simp) (by simp) (by simp;simpa using hhc) λhfit=> ?_
 refine⟨WkE.one _ _,λ_=> ?_⟩
 have hix:=Zrc l g cap' p hcap hp hl
 have hfz:∀(v:AV) (b0:ABlk) (tl:Za),neat v=true->(([v]++cap).mapM (frz (b0::(hc++tl)) 0 12))=some (v::cap'):=λv b0 tl hv=>by
  have h2:cap.mapM (frz (b0::(hc++tl)) 0 12)=some cap':=hfr 9 b0 tl
  rw[List.singleton_append,List.mapM_cons,Zci _ _ _ hv,h2];rfl
 have hlend:∀{Q:AV->Za->Prop},Q (I (idxS p l)) (.cells 0 (l.flatMap NodeR.enc)::hc)->AInv Tryz.prog (.fn 354 []) [.own 0 0 0 l.length 5,.fn g cap] (.cells 0 (l.flatMap NodeR.enc)::hc) Q:=λhq=>
  AInv.lend hix rfl (by
   have:=hfr 8 (.cells 0 (l.flatMap NodeR.enc)) []
   rw[List.append_nil] at this
   rw[List.append_nil,List.mapM_cons,List.mapM_cons,List.mapM_nil,ZmE,List.getElem?_cons_zero,Zat (by simp) (by simp),Zsq,this]
   rfl) hq
 have hzs:∀x:NodeR,setMany [AV.val (Value.int IntKind.i64 0),AV.val (Value.int IntKind.i64 0),AV.val (Value.int IntKind.i64 0),AV.val (Value.string ByteArray.empty),AV.sl true 0 []] 0 x.enc=x.enc:=λ_=>rfl
 by_cases h0:idxS p l= -1
 ·obtain⟨e1,_⟩:=Zdp h0
  simp[Tryz.f347]
  have s_:=h0
  try simp[s_]
  repeat' ((first|((first|refine Tp ?_|refine Tn ?_|refine T2 ?_ ?_)<;>intro h_ e_ n_)|(refine hlend ?_;simp[h0])|refine Dg 11 9 [] [] ?_|refine Dg 15 9 [] [] ?_|rw[Ip]|rw[In]|rw[Fz]|rw[Gz]|fail)<;>first|simp[e_,n_,s_]|simp[s_]|skip)
  exact⟨_,Wk.refl _ _,by simp[e1]⟩
 obtain⟨j0,hj0,e1,e2,e3⟩:=Zdq h0
 have hw0:IntKind.i64.wrap ((j0:Int)+1)=(j0:Int)+1:=Zf (by omega) (by omega)
 have hn0:¬((j0:Int)= -1):=by omega
 simp[Tryz.f347]
 have s_:=An @e1 (An @hw0 (@hn0))
 try simp[s_]
 repeat' ((first|((first|refine Tp ?_|refine Tn ?_|refine T2 ?_ ?_)<;>intro h_ e_ n_)|(refine hlend ?_;simp[e1,hw0,hn0])|refine Dg 11 9 [] [] ?_|refine Dg 15 9 [] [] ?_|rw[Ip]|rw[In]|rw[Fz]|rw[Gz]|fail)<;>first|simp[e_,n_,s_]|simp[s_]|skip)
 refine AW.loopG (lit:=λ_=>false) (λx:Nat×Nat×List NodeR=>⟨42,pat [(0,.own 0 0 0 l.length 5),(1,.fn g cap),(5,I x.1),(6,I x.2.1)],.cells 0 (x.2.2.flatMap NodeR.enc)::hc⟩) (λx=>l.length -x.2.1) (λx=>Zem p l x.2.2 x.1 x.2.1) (j0,j0+1,l) ?_ ?_ ?_
 ·exact Wk.at _ rfl rfl (by simp)
 ·exact .start hj0 e2 e3
 rintro⟨i,j,m⟩ hd A hA
 simp only at hd hA
 have hml:=hd.len
 by_cases hj:j<l.length
 case neg=>
  obtain⟨d1,d2,d3⟩:=hd.done hj
  have s_:=An @hj (@hml)
  try simp[s_]
  repeat' ((first|((first|refine Tp ?_|refine Tn ?_|refine T2 ?_ ?_)<;>intro h_ e_ n_)|refine Dg 11 9 [] [] ?_|refine Dg 15 9 [] [] ?_|rw[Ip]|rw[In]|rw[Fz]|rw[Gz]|fail)<;>first|simp[e_,n_,s_]|simp[s_]|skip)
  exact⟨_,Wk.prefix 0 0 (i*5) rfl rfl,by simp[d2],by
   have:(putAt (m.flatMap NodeR.enc) (i*5) (zeros [AV.val (Value.int IntKind.i64 0),AV.val (Value.int IntKind.i64 0),AV.val (Value.int IntKind.i64 0),AV.val (Value.string ByteArray.empty),AV.sl true 0 []] (l.length -i))).take (i*5)=(m.take i).flatMap NodeR.enc:=by
    rw[<-ZmP]
    unfold putAt
    rw[List.append_assoc,List.take_left' (by simp;omega)]
   simp only[zeros] at this
   simp[this,d1]⟩
 have hmj:=hd.get hj
 have hx:=hp l[j] (List.getElem_mem hj)
 have hw:IntKind.i64.wrap ((j:Int)+1)=((j+1:Nat):Int):=by rw[Zf (by omega) (by omega)];omega
 have hi:=hd.lt
 have hwi:IntKind.i64.wrap ((i:Int)+1)=((i+1:Nat):Int):=by rw[Zf (by omega) (by omega)];omega
 cases hpp:p l[j] with
 |true=>
  rw[hpp] at hx
  have hlx:∀(b0:ABlk) (tl:Za) {Q:AV->Za->Prop},Q (B true) (b0::(hc++tl))->AInv Tryz.prog (.fn g cap) [.agg l[j].enc] (b0::(hc++tl)) Q:=λb0 tl Q hq=>AInv.lend hx rfl (hfz _ b0 tl (by simp)) hq
  have s_:=An @hj (An @hml (An @hzs (An @hw (@hmj))))
  try simp[s_]
  repeat' ((first|((first|refine Tp ?_|refine Tn ?_|refine T2 ?_ ?_)<;>intro h_ e_ n_)|(refine hlx _ _ ?_;simp[hw])|(exact hA (i,j+1,m) _ (Wk.cutAt _ rfl (by simp) (by simp) (by simp;simpa using hhc) (by simp;simpa using hcr)) (hd.skip hj hpp) (by simp only;omega))|refine Dg 11 9 [] [] ?_|refine Dg 15 9 [] [] ?_|rw[Ip]|rw[In]|rw[Fz]|rw[Gz]|fail)<;>first|simp[e_,n_,s_]|simp[s_]|skip)
 |false=>
  rw[hpp] at hx
  have hlx:∀(b0:ABlk) (tl:Za) {Q:AV->Za->Prop},Q (B false) (b0::(hc++tl))->AInv Tryz.prog (.fn g cap) [.agg l[j].enc] (b0::(hc++tl)) Q:=λb0 tl Q hq=>AInv.lend hx rfl (hfz _ b0 tl (by simp)) hq
  have him:i<m.length:=by omega
  have hil:i<l.length:=by omega
  have s_:=An @hj (An @hml (An @hzs (An @hw (An @hwi (An @hmj (An @him (@hil)))))))
  try simp[s_]
  repeat' ((first|((first|refine Tp ?_|refine Tn ?_|refine T2 ?_ ?_)<;>intro h_ e_ n_)|(refine hlx _ _ ?_;simp[hw,hwi,hmj,him,hil])|(exact hA (i+1,j+1,m.set i l[j]) _ (Wk.cutAt _ rfl (by simp) (by simp) (by simp;simpa using hhc) (by simp;simpa using hcr)) (hd.keep hj hpp) (by simp only;omega))|refine Dg 11 9 [] [] ?_|refine Dg 15 9 [] [] ?_|rw[Ip]|rw[In]|rw[Fz]|rw[Gz]|fail)<;>first|simp[e_,n_,s_]|simp[s_]|skip)
theorem ZtR (f:FSR):Zd Tryz.prog 27 [encF f] (B (fewS f)):=by
 refine Pm Tryz.func27 λhfit=> ?_
 obtain⟨l,next⟩:=f
 simp[FSR.enc] at hfit
 have hll:=hfit.1
 simp only[maxLen] at hll
 simp[Tryz.f27,fewS,FSR.enc]
 refine AW.loopG (lit:=λ_=>false) (λx:Nat×Int=>⟨38,pat [(1,.ptr 0 0 0),(3,I x.2),(4,I x.1)],[.cells 0 [encL NodeR.enc l,I next]]⟩) (λx=>l.length -x.1) (λx=>x.1<=l.length/\ZcQ x.2 (l.drop x.1)=ZcQ l.length l) (0,(l.length:Int)) ?_ ?_ ?_
 ·exact Wa
 ·simp
 rintro⟨i,n⟩ ⟨h1,h2⟩ A hA
 simp only at h1 h2
 by_cases hi:i<l.length
 case neg=>
  rw[ZmX hi] at h2
  have s_:=An @hi (Eq.symm (h2))
  exact WW
 rw[Zqe hi] at h2
 by_cases hn:n<=200
 case neg=>
  rw[if_neg hn] at h2
  have s_:=An @hi (An @hn (Eq.symm (h2)))
  exact WW
 rw[if_pos hn] at h2
 have hw2:=Zh hi hfit.1
 by_cases ht:5000<l[i].text.size
 ·rw[if_pos ht] at h2
  have s_:=An @hi (An @hn (An @NodeR.enc.eq_1 (An @ht (Eq.symm (h2)))))
  exact WW
 ·rw[if_neg ht] at h2
  have s_:=An @hi (An @hn (An @NodeR.enc.eq_1 (An @hw2 (@ht))))
  try simp[s_]
  repeat' ((first|((first|refine Tp ?_|refine Tn ?_|refine T2 ?_ ?_)<;>intro h_ e_ n_)|(exact hA (i+1,IntKind.i64.wrap (n+l[i].l.length)) _ Wa ⟨by simp only;omega,h2⟩ (by simp only;omega))|rw[Ip]|rw[In]|rw[Fz]|rw[Gz]|fail)<;>first|simp[e_,n_,s_]|simp[s_]|skip)
theorem out1_ok (n:NodeR) (k:Int):Zd Tryz.prog 348 [encN n,.fp [I k]] (B (decide (n.ino=k))):=by
 refine Pm Tryz.func348 λhfit=> ?_
 simp[Tryz.f348,NodeR.enc]
theorem tout_ok (f:FSR) (k:Int) (hl:f.l.length<=1000000):Zd Tryz.prog 339 [encF f,I k] (encF (outF f k)):=by
 refine Pm Tryz.func339 λhfit=> ?_
 have hdel:=ZnL f.l 348 [.ptr 1 0 0] [.fp [I k]] [.cells 0 [I k]] (λn=>decide (n.ino=k)) (by simp) (by simp) (by simp) (λfu b0 tl=>by simp) (λx _=>out1_ok x k) hl
 simp[Tryz.f339,FSR.enc]
 refine AW.wkZ (WkZ.freeze [0] 2 (.fp [encL NodeR.enc f.l,I f.next]) (by simp)) ?_
 simp
 refine Dg 1 8 [] [(1,.t),(2,.e),(4,.e),(6,.t)] ?_
 simp
 refine ADcall.fresh [] (Zkr f.l hl) (by simp) (by simp) ?_
 simp
 refine ADcall.fresh [3,1] hdel (by simp) (by simp) ?_
 simp[outF,outS,FSR.enc]
 rw[Zat (by simp) (by simp)]
 simp[FSR.enc]
theorem ZeK (f:FSR) (n:NodeR) (hl:f.l.length<=100000) (hn:inI n.ino) (hm:n.ino≠9223372036854775807):Zd Tryz.prog 315 [encF f,encN n] (encF (putB f n)):=by
 obtain⟨hn1,hn2⟩:=hn
 have hw:IntKind.i64.wrap (n.ino+1)=n.ino+1:=Zf (by omega) (by omega)
 have hse:=Zfz f.l n.ino (by omega)
 have hple:=plc_le f.l n.ino
 by_cases h:plc f.l n.ino<f.l.length/\Zce f.l (plc f.l n.ino)=n.ino
 ·obtain⟨h1,h2⟩:=h
  refine Pm Tryz.func315 λhfit=> ?_
  simp only[putB,if_pos (An h1 h2)]
  generalize plc f.l n.ino=q at*
  simp[Tryz.f315,FSR.enc]
  have s_:=An @FSR.enc.eq_1 (An @h1 (An @h2 (@hw)))
  have f1_:=F0 [] (Zkr f.l (by omega))
  have p1_:=hse
  exact WW
 ·refine Pm Tryz.func315 λhfit=> ?_
  simp only[putB,if_neg h]
  have hdec:(decide (plc f.l n.ino<f.l.length)&&decide (Zce f.l (plc f.l n.ino)=n.ino))=false:=by
   rw[Bool.eq_false_iff];simpa using h
  rw[hdec] at hse
  generalize plc f.l n.ino=q at*
  have hins:=Zrb f.l q n hple (by omega)
  simp[Tryz.f315,FSR.enc]
  have s_:=An @FSR.enc.eq_1 (@hw)
  have f1_:=F0 [] (Zkr f.l (by omega))
  have f2_:=F0 [3] hins
  have p1_:=hse
  exact WW
theorem keyR_ok (n:RowR):Zd Tryz.prog 126 [.agg n.enc] (I n.client):=by
 refine Pm Tryz.func126 λhfit=> ?_
 simp[Tryz.f126,RowR.enc]
abbrev byR:AV:= .fn 172 [.fp [.fn 126 []]]
theorem ZeM (n:RowR) (k:Int):Zd Tryz.prog 172 [.agg n.enc,I k,.fp [.fn 126 []]] (I (Lib.compareInt n.client k)):=by
 refine Pm Tryz.func172 λhfit=> ?_
 simp[Tryz.f172,RowR.enc]
 have s_:= @RowR.enc.eq_1
 have p1_:=keyR_ok n
 have p2_:=Zeg n.client k
 exact WW
abbrev atR (l:List RowR) (i:Nat):Int:=(l.getD i .zero).client
theorem ZnV (l:List RowR) (k:Int) (hl:l.length<=1000000):Zd Tryz.prog 171 [encL RowR.enc l,I k,byR] (.tup [I (bsGo (atR l) k 0 l.length),B (decide (bsGo (atR l) k 0 l.length<l.length)&&decide (atR l (bsGo (atR l) k 0 l.length)=k))]):=by
 refine Pm Tryz.func171 λhfit=> ?_
 simp at hfit
 simp[Tryz.f171]
 refine AW.loopG (lit:=λ_=>false) (λx:Nat×Nat=>⟨49,pat [(0,encL RowR.enc l),(1,I k),(2,byR),(8,I l.length),(9,I x.1),(10,I x.2)],[]⟩) (λx=>x.2 -x.1) (λx=>x.1<=x.2/\x.2<=l.length/\bsGo (atR l) k x.1 x.2=bsGo (atR l) k 0 l.length) (0,l.length) ?_ ?_ ?_
 ·exact Wk.at _ rfl rfl (by simp)
 ·simp
 rintro⟨i,j⟩ ⟨h1,h2,h3⟩ A hA
 simp only at h1 h2 h3
 have hat:∀m (h:m<l.length),atR l m=(l[m]).client:=λm h=>by simp[atR,List.getD_eq_getElem?_getD,h]
 by_cases h:i<j
 case neg=>
  have hij:i=j:=by omega
  subst hij
  rw[Zdo h] at h3
  by_cases hi:i<l.length
  ·have e1:=hat i hi
   have s_:=An @h (An @hi (An (Eq.symm (h3)) (An @cmp_eq (An @RowR.enc.eq_1 (@e1)))))
   have p1_:=ZeM l[i] k
   exact WW
  ·have s_:=An @h (An @hi (Eq.symm (h3)))
   exact WW
 rw[Zdn h] at h3
 have hm:(i+j)/2<l.length:=by omega
 have e1:=hat _ hm
 have w1:IntKind.i64.wrap ((i:Int)+j)=(i:Int)+j:=Zf (by omega) (by omega)
 have w2:((i:Int)+j)%18446744073709551616=(i:Int)+j:=by omega
 have w3:((i:Int)+j).fdiv 2=(((i+j)/2:Nat):Int):=by rw[Int.fdiv_eq_ediv_of_nonneg _ (by omega)];omega
 have w4:IntKind.i64.wrap (((i+j)/2:Nat):Int)=(((i+j)/2:Nat):Int):=Zf (by omega) (by omega)
 generalize hmm:(i+j)/2=m at*
 have w5:IntKind.i64.wrap ((m:Int)+1)=((m+1:Nat):Int):=by rw[Zf (by omega) (by omega)];omega
 have hk:atR l m<k\/¬atR l m<k:=Classical.em _
 rcases hk with hk|hk
 ·rw[if_pos hk] at h3
  rw[e1] at hk
  have s_:=An @h (An @w1 (An @w2 (An @w3 (An @w4 (An @w5 (An @hm (An @cmp_lt (An @RowR.enc.eq_1 (@hk)))))))))
  have q1_:=λs w=>hA (m+1,j) s w ⟨by simp only;omega,h2,h3⟩ (by simp only;omega)
  have p1_:=ZeM l[m] k
  exact WW
 ·rw[if_neg hk] at h3
  rw[e1] at hk
  have s_:=An @h (An @w1 (An @w2 (An @w3 (An @w4 (An @w5 (An @hm (An @cmp_lt (An @RowR.enc.eq_1 (@hk)))))))))
  have q1_:=λs w=>hA (i,m) s w ⟨by simp only;omega,by simp only;omega,h3⟩ (by simp only;omega)
  have p1_:=ZeM l[m] k
  exact WW
theorem ZwU (l:List RowR) (k:Int) (hr:Zn RowR.client l=true) (hl:l.length<=1000000):Zd Tryz.prog 140 [encL RowR.enc l,I k,.fn 126 []] (.tup [I (placeS RowR.client l k),B (Zaf RowR.client l k).isSome]):=by
 have h1:=ZnV l k hl
 have hat:∀m (h:m<l.length),atR l m=(l[m]).client:=λm h=>by simp[atR,List.getD_eq_getElem?_getD,h]
 rw[Zfj RowR.client hr hat k] at h1
 have e:(decide (placeS RowR.client l k<l.length)&&decide (atR l (placeS RowR.client l k)=k))=(Zaf RowR.client l k).isSome:=by
  cases hf:Zaf RowR.client l k with
  |some x=>
   obtain⟨hp,e⟩:=Zam RowR.client hr hf
   rw[hat _ hp,e]
   simp[hp,(ZA RowR.client hf).2]
  |none=>
   by_cases hp:placeS RowR.client l k<l.length
   ·have:=ZcH RowR.client hr hf hp
    rw[hat _ hp]
    simp[this]
   ·simp[hp]
 rw[e] at h1
 refine Pm Tryz.func140 λhfit=> ?_
 simp[Tryz.f140]
 exact WW
theorem cloneR_ok (l:List RowR) (hl:l.length<=1000000):XCall Tryz.prog 173 [encL RowR.enc l] [] (.own 0 0 0 l.length 4) [.cells 0 (l.flatMap RowR.enc)]:=by
 refine XCall.mkE 4 (λ_=>false) Tryz.func173 rfl rfl rfl (Ent.mk Tryz.func173 (by kernel_rfl) rfl) (by simp) (by simp) (by simp) (by simp) (by simp) λhfit=> ?_
 simp at hfit
 simp[Tryz.f173]
 rw[if_pos (by simp only[maxLen];omega)]
 simp
 intro h0
 subst h0
 simp
theorem keyD_ok (n:DecisionR):Zd Tryz.prog 75 [.agg n.enc] (I n.seq):=by
 refine Pm Tryz.func75 λhfit=> ?_
 simp[Tryz.f75,DecisionR.enc]
abbrev byD:AV:= .fn 142 [.fp [.fn 75 []]]
theorem ZeN (n:DecisionR) (k:Int):Zd Tryz.prog 142 [.agg n.enc,I k,.fp [.fn 75 []]] (I (Lib.compareInt n.seq k)):=by
 refine Pm Tryz.func142 λhfit=> ?_
 simp[Tryz.f142,DecisionR.enc]
 have s_:= @DecisionR.enc.eq_1
 have p1_:=keyD_ok n
 have p2_:=Zeg n.seq k
 exact WW
abbrev atD (l:List DecisionR) (i:Nat):Int:=(l.getD i .zero).seq
theorem ZnW (l:List DecisionR) (k:Int) (hl:l.length<=1000000):Zd Tryz.prog 141 [encL DecisionR.enc l,I k,byD] (.tup [I (bsGo (atD l) k 0 l.length),B (decide (bsGo (atD l) k 0 l.length<l.length)&&decide (atD l (bsGo (atD l) k 0 l.length)=k))]):=by
 refine Pm Tryz.func141 λhfit=> ?_
 simp at hfit
 simp[Tryz.f141]
 refine AW.loopG (lit:=λ_=>false) (λx:Nat×Nat=>⟨49,pat [(0,encL DecisionR.enc l),(1,I k),(2,byD),(8,I l.length),(9,I x.1),(10,I x.2)],[]⟩) (λx=>x.2 -x.1) (λx=>x.1<=x.2/\x.2<=l.length/\bsGo (atD l) k x.1 x.2=bsGo (atD l) k 0 l.length) (0,l.length) ?_ ?_ ?_
 ·exact Wk.at _ rfl rfl (by simp)
 ·simp
 rintro⟨i,j⟩ ⟨h1,h2,h3⟩ A hA
 simp only at h1 h2 h3
 have hat:∀m (h:m<l.length),atD l m=(l[m]).seq:=λm h=>by simp[atD,List.getD_eq_getElem?_getD,h]
 by_cases h:i<j
 case neg=>
  have hij:i=j:=by omega
  subst hij
  rw[Zdo h] at h3
  by_cases hi:i<l.length
  ·have e1:=hat i hi
   have s_:=An @h (An @hi (An (Eq.symm (h3)) (An @cmp_eq (An @DecisionR.enc.eq_1 (@e1)))))
   have p1_:=ZeN l[i] k
   exact WW
  ·have s_:=An @h (An @hi (Eq.symm (h3)))
   exact WW
 rw[Zdn h] at h3
 have hm:(i+j)/2<l.length:=by omega
 have e1:=hat _ hm
 have w1:IntKind.i64.wrap ((i:Int)+j)=(i:Int)+j:=Zf (by omega) (by omega)
 have w2:((i:Int)+j)%18446744073709551616=(i:Int)+j:=by omega
 have w3:((i:Int)+j).fdiv 2=(((i+j)/2:Nat):Int):=by rw[Int.fdiv_eq_ediv_of_nonneg _ (by omega)];omega
 have w4:IntKind.i64.wrap (((i+j)/2:Nat):Int)=(((i+j)/2:Nat):Int):=Zf (by omega) (by omega)
 generalize hmm:(i+j)/2=m at*
 have w5:IntKind.i64.wrap ((m:Int)+1)=((m+1:Nat):Int):=by rw[Zf (by omega) (by omega)];omega
 have hk:atD l m<k\/¬atD l m<k:=Classical.em _
 rcases hk with hk|hk
 ·rw[if_pos hk] at h3
  rw[e1] at hk
  have s_:=An @h (An @w1 (An @w2 (An @w3 (An @w4 (An @w5 (An @hm (An @cmp_lt (An @DecisionR.enc.eq_1 (@hk)))))))))
  have q1_:=λs w=>hA (m+1,j) s w ⟨by simp only;omega,h2,h3⟩ (by simp only;omega)
  have p1_:=ZeN l[m] k
  exact WW
 ·rw[if_neg hk] at h3
  rw[e1] at hk
  have s_:=An @h (An @w1 (An @w2 (An @w3 (An @w4 (An @w5 (An @hm (An @cmp_lt (An @DecisionR.enc.eq_1 (@hk)))))))))
  have q1_:=λs w=>hA (i,m) s w ⟨by simp only;omega,by simp only;omega,h3⟩ (by simp only;omega)
  have p1_:=ZeN l[m] k
  exact WW
theorem Zpu (l:List DecisionR) (k:Int) (hr:Zn DecisionR.seq l=true) (hl:l.length<=1000000):Zd Tryz.prog 74 [encL DecisionR.enc l,I k,.fn 75 []] (.tup [I (placeS DecisionR.seq l k),B (Zaf DecisionR.seq l k).isSome]):=by
 have h1:=ZnW l k hl
 have hat:∀m (h:m<l.length),atD l m=(l[m]).seq:=λm h=>by simp[atD,List.getD_eq_getElem?_getD,h]
 rw[Zfj DecisionR.seq hr hat k] at h1
 have e:(decide (placeS DecisionR.seq l k<l.length)&&decide (atD l (placeS DecisionR.seq l k)=k))=(Zaf DecisionR.seq l k).isSome:=by
  cases hf:Zaf DecisionR.seq l k with
  |some x=>
   obtain⟨hp,e⟩:=Zam DecisionR.seq hr hf
   rw[hat _ hp,e]
   simp[hp,(ZA DecisionR.seq hf).2]
  |none=>
   by_cases hp:placeS DecisionR.seq l k<l.length
   ·have:=ZcH DecisionR.seq hr hf hp
    rw[hat _ hp]
    simp[this]
   ·simp[hp]
 rw[e] at h1
 refine Pm Tryz.func74 λhfit=> ?_
 simp[Tryz.f74]
 exact WW
theorem cloneD_ok (l:List DecisionR) (hl:l.length<=1000000):XCall Tryz.prog 146 [encL DecisionR.enc l] [] (.own 0 0 0 l.length 2) [.cells 0 (l.flatMap DecisionR.enc)]:=by
 refine XCall.mkE 2 (λ_=>false) Tryz.func146 rfl rfl rfl (Ent.mk Tryz.func146 (by kernel_rfl) rfl) (by simp) (by simp) (by simp) (by simp) (by simp) λhfit=> ?_
 simp at hfit
 simp[Tryz.f146]
 rw[if_pos (by simp only[maxLen];omega)]
 simp
 intro h0
 subst h0
 simp
theorem Zrv (l:List RowR) (i:Nat) (x:RowR) (hi:i<=l.length) (hl:l.length<=1000000):XCall Tryz.prog 174 [.own 0 0 0 l.length 4,I i,.sl true 1 x.enc] [.cells 0 (l.flatMap RowR.enc)] (.own 0 1 0 (l.length+1) 4) [.cells 1 ((insL l i x).flatMap RowR.enc)]:=by
 by_cases hi2:i=l.length
 case pos=>
  subst hi2
  refine XCall.mkG (λs (_:Unit)=>s) (λ_=>false) Tryz.func174 rfl rfl rfl (Ent.mk Tryz.func174 (by kernel_rfl) rfl) (by simp) (by simp) (by simp) (by simp) (by simp) λhfit=> ?_
  refine⟨WkE.one _ _,λ_=> ?_⟩
  simp[Tryz.f174]
  rw[if_pos (by simp only[maxLen];omega)]
  simp
  exact⟨_,Wk.refl _ _,by simp[ZdT]⟩
 have hi3:i<l.length:=by omega
 have hcp:∀cap,l.length<=cap->(l.length*4+(cap*4 -l.length*4))/4=cap:=λcap h=>by omega
 have hw1:IntKind.i64.wrap ((l.length:Int)+1)=((l.length+1:Nat):Int):=by rw[Zf (by omega) (by omega)];omega
 have hw2:IntKind.i64.wrap ((i:Int)+1)=((i+1:Nat):Int):=by rw[Zf (by omega) (by omega)];omega
 have hw3:IntKind.i64.wrap ((l.length:Int)+1 -i)=((l.length+1 -i:Nat):Int):=by rw[Zf (by omega) (by omega)];omega
 have hw4:((i:Int)+((l.length+1 -i:Nat):Int)).toNat=l.length+1:=by omega
 have hm1:min 1 (l.length+1 -i)=1:=by omega
 have hm2:∀cap,l.length<=cap->min (i*4) (l.length*4+(cap*4 -l.length*4))=i*4:=λcap h=>by omega
 have hov:∀(lb:Nat) (h:Za) (y:ABlk) (Q:AV->Za->Prop),h[0]? =some y->(blkCells y).map (·.1)=some 0->Q (B false) h->AInv Tryz.prog (.fn 203 []) [.sl true 1 x.enc,.own 0 0 (i+1) lb 4] h Q:=λlb h y Q hy hv hq=>
  Zbu Tryz.func203 (by kernel_rfl) rfl (by kernel_rfl) rfl rfl (by kernel_rfl) (k:=4) (by kernel_rfl) true 1 _ _ 0 0 (i+1) lb hy hv (by omega) Q hq
 refine XCall.mkG (λs (cap:{cap:Nat//l.length<=cap/\cap<=maxLen})=>Zcd s 0 0 4 (l.flatMap RowR.enc) cap.1) (λ_=>false) Tryz.func174 rfl rfl rfl (Ent.mk Tryz.func174 (by kernel_rfl) rfl) (by simp) (by simp) (by simp) (by simp) (by simp) λhfit=> ?_
 refine⟨WkE.full (t:=0) (by simp) (by simp) (by omega) (by simp),?_⟩
 rintro⟨cap,hc1,hc2⟩
 have hcp1:=hcp cap hc1
 have hm3:=hm2 cap hc1
 have hi4:¬i=l.length:=by omega
 have hle:i<=l.length:=by omega
 generalize hA:List.replicate (cap*4 -l.length*4) AV.any=A
 have hAl:A.length=cap*4 -l.length*4:=by rw[<-hA];simp
 have hLl:(l.flatMap RowR.enc).length=l.length*4:=ZoE l
 have hta:(l.flatMap RowR.enc++A).take (i*4)=(l.flatMap RowR.enc).take (i*4):=List.take_append_of_le_length (by rw[hLl];omega)
 have hdr:(l.flatMap RowR.enc).drop (i*4)=(l.drop i).flatMap RowR.enc:=ZpZ l i
 have hq0:(l.flatMap RowR.enc++A).drop (i*4)=(l.drop i).flatMap RowR.enc++A:=by rw[List.drop_append_of_le_length (by rw[hLl];omega),hdr]
 have hdl:((l.drop i).flatMap RowR.enc).length=l.length*4 -i*4:=by rw[ZoE,List.length_drop];omega
 by_cases hr:l.length+1<=cap
 ·have hm4:min (l.length+1 -i) (l.length -i)=l.length -i:=by omega
  have hm5:min ((l.length+1 -i)*4) ((l.length -i)*4+(cap*4 -l.length*4))=(l.length+1 -i)*4:=by omega
  have hm6:min ((l.length+1 -i)*4) (l.length*4+(cap*4 -l.length*4) -i*4)=(l.length+1 -i)*4:=by omega
  have hq1:List.take ((l.length -i)*4) (List.take ((l.length+1 -i)*4) ((l.drop i).flatMap RowR.enc++A))=(l.drop i).flatMap RowR.enc:=by
   rw[List.take_take,Nat.min_eq_left (by omega),List.take_left' (by rw[hdl];omega)]
  have hq2:(putAt (l.flatMap RowR.enc++A) ((i+1)*4) ((l.drop i).flatMap RowR.enc)).length=cap*4:=by
   rw[ZD (by rw[List.length_append,hLl,hAl,hdl];omega),List.length_append,hLl,hAl];omega
  have hq3:(putAt (putAt (l.flatMap RowR.enc++A) ((i+1)*4) ((l.drop i).flatMap RowR.enc)) (i*4) x.enc).take ((l.length+1)*4)=(insL l i x).flatMap RowR.enc:=by
   have:=ZdR (L:=l.flatMap RowR.enc) (A:=A) (X:=x.enc) (a:=i*4) (k:=4) hLl (by omega) rfl (by rw[hAl];omega)
   rw[ZoI,hq0,List.take_left' (by rw[hdl])] at this
   rw[show(i+1)*4=i*4+4 by omega,show(l.length+1)*4=l.length*4+4 by omega]
   exact this
  have hone:∀y∈(l.drop i).flatMap RowR.enc,Zx y=true:=List.all_eq_true.1 (ZoD _)
  simp[Tryz.f174,Zcd,hA]
  have s_:=An @hcp1 (An @hw1 (An @hw2 (An @hw3 (An @hw4 (An @hm1 (An @hm3 (An @hm4 (An @hq0 (An @hq1 (An @hq2 (An @hi3 (An @hi4 (An @hle (@hr))))))))))))))
  try simp[s_]
  repeat' ((first|((first|refine Tp ?_|refine Tn ?_|refine T2 ?_ ?_)<;>intro h_ e_ n_)|(refine hov _ _ _ _ rfl rfl ?_;simp)|(refine optBif ⟨rfl,by rw[List.length_append,hLl,hAl];omega,by rw[List.length_take,List.length_append,hdl,hAl];omega,by rw[hm4,hq1];exact hone⟩ ?_;simp)|refine Dg 11 9 [] [] ?_|refine Dg 15 9 [] [] ?_|rw[Ip]|rw[In]|rw[Fz]|rw[Gz]|fail)<;>first|simp[e_,n_,s_]|simp[s_]|skip)
  exact⟨_,Wk.trans (Wk.prefix 0 0 ((l.length+1)*4) rfl rfl) (Wk.bump 6 0 0 0 (l.length+1) 4 (by simp) rfl),by simp[hq3]⟩
 ·have hm5:min ((l.length -i)*4) ((l.length -i)*4+(cap*4 -l.length*4))=(l.length -i)*4:=by omega
  have hq1:List.take ((l.length -i)*4) (List.take ((l.length -i)*4) ((l.drop i).flatMap RowR.enc++A))=(l.drop i).flatMap RowR.enc:=by
   rw[List.take_take,Nat.min_self,List.take_left' (by rw[hdl];omega)]
  have hq4:List.take ((l.length -i)*4) ((l.drop i).flatMap RowR.enc)=(l.drop i).flatMap RowR.enc:=List.take_of_length_le (by rw[hdl];omega)
  have hone:∀y∈(l.drop i).flatMap RowR.enc,Zx y=true:=List.all_eq_true.1 (ZoD _)
  simp[Tryz.f174,Zcd,hA]
  generalize hZ:(List.replicate (l.length+1 -i) [AV.val (Value.int IntKind.i64 0),AV.val (Value.int IntKind.i64 0),AV.val (Value.int IntKind.i64 0),AV.sl true 0 []]).flatten=Z
  have hZl:Z.length=(l.length+1 -i)*4:=by rw[<-hZ];simp
  have hta':((l.flatMap RowR.enc).take (i*4)).length=i*4:=by rw[List.length_take,hLl];omega
  have hq2:(putAt ((l.flatMap RowR.enc).take (i*4)++Z) (i*4) x.enc).length=(l.length+1)*4:=by
   rw[ZD (by rw[List.length_append,hta',hZl,ZsQ];omega),List.length_append,hta',hZl];omega
  have hq3:putAt (putAt ((l.flatMap RowR.enc).take (i*4)++Z) (i*4) x.enc) ((i+1)*4) ((l.drop i).flatMap RowR.enc)=(insL l i x).flatMap RowR.enc:=by
   have:=ZdS (L:=l.flatMap RowR.enc) (A:=A) (X:=x.enc) (Z:=Z) (a:=i*4) (k:=4) hLl (by omega) rfl (by rw[hZl];omega)
   rw[ZoI,hta,hq0,List.take_left' (by rw[hdl])] at this
   rw[show(i+1)*4=i*4+4 by omega]
   exact this
  have s_:=An @hcp1 (An @hw1 (An @hw2 (An @hw3 (An @hw4 (An @hm1 (An @hm3 (An @hq0 (An @hq1 (An @hq4 (An @hta (An @hZ (An @hi3 (An @hi4 (An @hle (@hr)))))))))))))))
  try simp[s_]
  repeat' ((first|((first|refine Tp ?_|refine Tn ?_|refine T2 ?_ ?_)<;>intro h_ e_ n_)|(refine optBif ⟨by rw[hq2];omega,hone⟩ ?_;simp)|refine Dg 11 9 [] [] ?_|refine Dg 15 9 [] [] ?_|rw[Ip]|rw[In]|rw[Fz]|rw[Gz]|fail)<;>first|simp[e_,n_,s_]|simp[s_]|skip)
  exact⟨_,Wk.move 6 0 1 0 0 (l.length+1) 4 (by decide) (by simp;omega) rfl rfl rfl,by simp[hq3]⟩
theorem Zrw (l:List DecisionR) (i:Nat) (x:DecisionR) (hi:i<=l.length) (hl:l.length<=1000000):XCall Tryz.prog 213 [.own 0 0 0 l.length 2,I i,.sl true 1 x.enc] [.cells 0 (l.flatMap DecisionR.enc)] (.own 0 1 0 (l.length+1) 2) [.cells 1 ((insL l i x).flatMap DecisionR.enc)]:=by
 by_cases hi2:i=l.length
 case pos=>
  subst hi2
  refine XCall.mkG (λs (_:Unit)=>s) (λ_=>false) Tryz.func213 rfl rfl rfl (Ent.mk Tryz.func213 (by kernel_rfl) rfl) (by simp) (by simp) (by simp) (by simp) (by simp) λhfit=> ?_
  refine⟨WkE.one _ _,λ_=> ?_⟩
  simp[Tryz.f213]
  rw[if_pos (by simp only[maxLen];omega)]
  simp
  exact⟨_,Wk.refl _ _,by simp[ZdT]⟩
 have hi3:i<l.length:=by omega
 have hcp:∀cap,l.length<=cap->(l.length*2+(cap*2 -l.length*2))/2=cap:=λcap h=>by omega
 have hw1:IntKind.i64.wrap ((l.length:Int)+1)=((l.length+1:Nat):Int):=by rw[Zf (by omega) (by omega)];omega
 have hw2:IntKind.i64.wrap ((i:Int)+1)=((i+1:Nat):Int):=by rw[Zf (by omega) (by omega)];omega
 have hw3:IntKind.i64.wrap ((l.length:Int)+1 -i)=((l.length+1 -i:Nat):Int):=by rw[Zf (by omega) (by omega)];omega
 have hw4:((i:Int)+((l.length+1 -i:Nat):Int)).toNat=l.length+1:=by omega
 have hm1:min 1 (l.length+1 -i)=1:=by omega
 have hm2:∀cap,l.length<=cap->min (i*2) (l.length*2+(cap*2 -l.length*2))=i*2:=λcap h=>by omega
 have hov:∀(lb:Nat) (h:Za) (y:ABlk) (Q:AV->Za->Prop),h[0]? =some y->(blkCells y).map (·.1)=some 0->Q (B false) h->AInv Tryz.prog (.fn 244 []) [.sl true 1 x.enc,.own 0 0 (i+1) lb 2] h Q:=λlb h y Q hy hv hq=>
  Zbu Tryz.func244 (by kernel_rfl) rfl (by kernel_rfl) rfl rfl (by kernel_rfl) (k:=2) (by kernel_rfl) true 1 _ _ 0 0 (i+1) lb hy hv (by omega) Q hq
 refine XCall.mkG (λs (cap:{cap:Nat//l.length<=cap/\cap<=maxLen})=>Zcd s 0 0 2 (l.flatMap DecisionR.enc) cap.1) (λ_=>false) Tryz.func213 rfl rfl rfl (Ent.mk Tryz.func213 (by kernel_rfl) rfl) (by simp) (by simp) (by simp) (by simp) (by simp) λhfit=> ?_
 refine⟨WkE.full (t:=0) (by simp) (by simp) (by omega) (by simp),?_⟩
 rintro⟨cap,hc1,hc2⟩
 have hcp1:=hcp cap hc1
 have hm3:=hm2 cap hc1
 have hi4:¬i=l.length:=by omega
 have hle:i<=l.length:=by omega
 generalize hA:List.replicate (cap*2 -l.length*2) AV.any=A
 have hAl:A.length=cap*2 -l.length*2:=by rw[<-hA];simp
 have hLl:(l.flatMap DecisionR.enc).length=l.length*2:=Zfg l
 have hta:(l.flatMap DecisionR.enc++A).take (i*2)=(l.flatMap DecisionR.enc).take (i*2):=List.take_append_of_le_length (by rw[hLl];omega)
 have hdr:(l.flatMap DecisionR.enc).drop (i*2)=(l.drop i).flatMap DecisionR.enc:=Zhn l i
 have hq0:(l.flatMap DecisionR.enc++A).drop (i*2)=(l.drop i).flatMap DecisionR.enc++A:=by rw[List.drop_append_of_le_length (by rw[hLl];omega),hdr]
 have hdl:((l.drop i).flatMap DecisionR.enc).length=l.length*2 -i*2:=by rw[Zfg,List.length_drop];omega
 by_cases hr:l.length+1<=cap
 ·have hm4:min (l.length+1 -i) (l.length -i)=l.length -i:=by omega
  have hm5:min ((l.length+1 -i)*2) ((l.length -i)*2+(cap*2 -l.length*2))=(l.length+1 -i)*2:=by omega
  have hm6:min ((l.length+1 -i)*2) (l.length*2+(cap*2 -l.length*2) -i*2)=(l.length+1 -i)*2:=by omega
  have hq1:List.take ((l.length -i)*2) (List.take ((l.length+1 -i)*2) ((l.drop i).flatMap DecisionR.enc++A))=(l.drop i).flatMap DecisionR.enc:=by
   rw[List.take_take,Nat.min_eq_left (by omega),List.take_left' (by rw[hdl];omega)]
  have hq2:(putAt (l.flatMap DecisionR.enc++A) ((i+1)*2) ((l.drop i).flatMap DecisionR.enc)).length=cap*2:=by
   rw[ZD (by rw[List.length_append,hLl,hAl,hdl];omega),List.length_append,hLl,hAl];omega
  have hq3:(putAt (putAt (l.flatMap DecisionR.enc++A) ((i+1)*2) ((l.drop i).flatMap DecisionR.enc)) (i*2) x.enc).take ((l.length+1)*2)=(insL l i x).flatMap DecisionR.enc:=by
   have:=ZdR (L:=l.flatMap DecisionR.enc) (A:=A) (X:=x.enc) (a:=i*2) (k:=2) hLl (by omega) rfl (by rw[hAl];omega)
   rw[Zfh,hq0,List.take_left' (by rw[hdl])] at this
   rw[show(i+1)*2=i*2+2 by omega,show(l.length+1)*2=l.length*2+2 by omega]
   exact this
  have hone:∀y∈(l.drop i).flatMap DecisionR.enc,Zx y=true:=List.all_eq_true.1 (Zff _)
  simp[Tryz.f213,Zcd,hA]
  have s_:=An @hcp1 (An @hw1 (An @hw2 (An @hw3 (An @hw4 (An @hm1 (An @hm3 (An @hm4 (An @hq0 (An @hq1 (An @hq2 (An @hi3 (An @hi4 (An @hle (@hr))))))))))))))
  try simp[s_]
  repeat' ((first|((first|refine Tp ?_|refine Tn ?_|refine T2 ?_ ?_)<;>intro h_ e_ n_)|(refine hov _ _ _ _ rfl rfl ?_;simp)|(refine optBif ⟨rfl,by rw[List.length_append,hLl,hAl];omega,by rw[List.length_take,List.length_append,hdl,hAl];omega,by rw[hm4,hq1];exact hone⟩ ?_;simp)|refine Dg 11 9 [] [] ?_|refine Dg 15 9 [] [] ?_|rw[Ip]|rw[In]|rw[Fz]|rw[Gz]|fail)<;>first|simp[e_,n_,s_]|simp[s_]|skip)
  exact⟨_,Wk.trans (Wk.prefix 0 0 ((l.length+1)*2) rfl rfl) (Wk.bump 6 0 0 0 (l.length+1) 2 (by simp) rfl),by simp[hq3]⟩
 ·have hm5:min ((l.length -i)*2) ((l.length -i)*2+(cap*2 -l.length*2))=(l.length -i)*2:=by omega
  have hq1:List.take ((l.length -i)*2) (List.take ((l.length -i)*2) ((l.drop i).flatMap DecisionR.enc++A))=(l.drop i).flatMap DecisionR.enc:=by
   rw[List.take_take,Nat.min_self,List.take_left' (by rw[hdl];omega)]
  have hq4:List.take ((l.length -i)*2) ((l.drop i).flatMap DecisionR.enc)=(l.drop i).flatMap DecisionR.enc:=List.take_of_length_le (by rw[hdl];omega)
  have hone:∀y∈(l.drop i).flatMap DecisionR.enc,Zx y=true:=List.all_eq_true.1 (Zff _)
  simp[Tryz.f213,Zcd,hA]
  generalize hZ:(List.replicate (l.length+1 -i) [AV.val (Value.int IntKind.i64 0),AV.val (Value.bool false)]).flatten=Z
  have hZl:Z.length=(l.length+1 -i)*2:=by rw[<-hZ];simp
  have hta':((l.flatMap DecisionR.enc).take (i*2)).length=i*2:=by rw[List.length_take,hLl];omega
  have hq2:(putAt ((l.flatMap DecisionR.enc).take (i*2)++Z) (i*2) x.enc).length=(l.length+1)*2:=by
   rw[ZD (by rw[List.length_append,hta',hZl,Zim];omega),List.length_append,hta',hZl];omega
  have hq3:putAt (putAt ((l.flatMap DecisionR.enc).take (i*2)++Z) (i*2) x.enc) ((i+1)*2) ((l.drop i).flatMap DecisionR.enc)=(insL l i x).flatMap DecisionR.enc:=by
   have:=ZdS (L:=l.flatMap DecisionR.enc) (A:=A) (X:=x.enc) (Z:=Z) (a:=i*2) (k:=2) hLl (by omega) rfl (by rw[hZl];omega)
   rw[Zfh,hta,hq0,List.take_left' (by rw[hdl])] at this
   rw[show(i+1)*2=i*2+2 by omega]
   exact this
  have s_:=An @hcp1 (An @hw1 (An @hw2 (An @hw3 (An @hw4 (An @hm1 (An @hm3 (An @hq0 (An @hq1 (An @hq4 (An @hta (An @hZ (An @hi3 (An @hi4 (An @hle (@hr)))))))))))))))
  try simp[s_]
  repeat' ((first|((first|refine Tp ?_|refine Tn ?_|refine T2 ?_ ?_)<;>intro h_ e_ n_)|(refine optBif ⟨by rw[hq2];omega,hone⟩ ?_;simp)|refine Dg 11 9 [] [] ?_|refine Dg 15 9 [] [] ?_|rw[Ip]|rw[In]|rw[Fz]|rw[Gz]|fail)<;>first|simp[e_,n_,s_]|simp[s_]|skip)
  exact⟨_,Wk.move 6 0 1 0 0 (l.length+1) 2 (by decide) (by simp;omega) rfl rfl rfl,by simp[hq3]⟩
theorem Zrx (l:List DecisionR) (g:FuncId) (cap:List AV) (p:DecisionR->Bool) (hcap:cap.all neat=true) (hp:∀x∈l,Zd Tryz.prog g (.agg x.enc::cap) (B (p x))) (hl:l.length<=1000000):Zd Tryz.prog 175 [encL DecisionR.enc l,.fn g cap] (I (idxS p l)):=by
 refine Zd.mk (λ_=>false) Tryz.func175 rfl rfl rfl (Ent.mk Tryz.func175 (by kernel_rfl) rfl) (by simp[hcap]) (by simp) λhfit=> ?_
 simp at hfit
 simp[Tryz.f175]
 refine AW.loopG (lit:=λ_=>false) (λi:Nat=>⟨19,pat [(0,encL DecisionR.enc l),(1,.fn g cap),(7,I l.length),(8,I i)],[]⟩) (λi=>l.length -i) (λi=>i<=l.length/\ZaM p i (l.drop i)=idxS p l) 0 ?_ ?_ ?_
 ·exact Wk.at _ rfl rfl (by simp)
 ·simp[idxS]
 rintro i ⟨h1,h2⟩ A hA
 by_cases hi:i<l.length
 case neg=>
  rw[ZbX hi] at h2
  have s_:=An @hi (Eq.symm (h2))
  exact WW
 rw[ZcG hi] at h2
 have hw:=Zh hi hfit.1.1
 have hpi:=hp l[i] (List.getElem_mem hi)
 cases hpp:p l[i] with
 |true=>
  rw[hpp] at hpi
  simp only[hpp,if_true] at h2
  have s_:=An @hi (An (Eq.symm (h2)) (@hpp))
  have p1_:=hpi
  exact WW
 |false=>
  rw[hpp] at hpi
  simp only[hpp,Bool.false_eq_true,if_false] at h2
  have s_:=An @hi (An @hw (@hpp))
  try simp[s_]
  repeat' ((first|((first|refine Tp ?_|refine Tn ?_|refine T2 ?_ ?_)<;>intro h_ e_ n_)|(exact hA (i+1) _ Wa ⟨by omega,h2⟩ (by omega))|refine Pg hpi ?_|refine Dg 11 9 [] [] ?_|refine Dg 15 9 [] [] ?_|rw[Ip]|rw[In]|rw[Fz]|rw[Gz]|fail)<;>first|simp[e_,n_,s_]|simp[s_]|skip)
theorem ZnX (l:List DecisionR) (g:FuncId) (cap cap':List AV) (hc:Za) (p:DecisionR->Bool) (hcap:cap'.all neat=true) (hcr:cap.all (refsLt (hc.length+1))=true) (hhc:hc.all (ABlk.refsLt (hc.length+1))=true) (hfr:∀(f:Nat) (b0:ABlk) (tl:Za),frzs (b0::(hc++tl)) 0 (f+3) cap=some cap')
  (hp:∀x∈l,Zd Tryz.prog g (.agg x.enc::cap') (B (p x))) (hl:l.length<=1000000):XCall Tryz.prog 145 [.own 0 0 0 l.length 2,.fn g cap] (.cells 0 (l.flatMap DecisionR.enc)::hc) (.own 0 0 0 (l.filter λx=> !p x).length 2) (.cells 0 ((l.filter λx=> !p x).flatMap DecisionR.enc)::hc):=by
 refine XCall.mkG (λs (_:Unit)=>s) (λ_=>false) Tryz.func145 rfl rfl rfl (Ent.mk Tryz.func145 (by kernel_rfl) rfl) (by simp;simpa using hcr) (by simp;simpa using hhc) (by simp) (by simp) (by simp;simpa using hhc) λhfit=> ?_
 refine⟨WkE.one _ _,λ_=> ?_⟩
 have hix:=Zrx l g cap' p hcap hp hl
 have hfz:∀(v:AV) (b0:ABlk) (tl:Za),neat v=true->(([v]++cap).mapM (frz (b0::(hc++tl)) 0 12))=some (v::cap'):=λv b0 tl hv=>by
  have h2:cap.mapM (frz (b0::(hc++tl)) 0 12)=some cap':=hfr 9 b0 tl
  rw[List.singleton_append,List.mapM_cons,Zci _ _ _ hv,h2];rfl
 have hlend:∀{Q:AV->Za->Prop},Q (I (idxS p l)) (.cells 0 (l.flatMap DecisionR.enc)::hc)->AInv Tryz.prog (.fn 175 []) [.own 0 0 0 l.length 2,.fn g cap] (.cells 0 (l.flatMap DecisionR.enc)::hc) Q:=λhq=>
  AInv.lend hix rfl (by
   have:=hfr 8 (.cells 0 (l.flatMap DecisionR.enc)) []
   rw[List.append_nil] at this
   rw[List.append_nil,List.mapM_cons,List.mapM_cons,List.mapM_nil,ZmE,List.getElem?_cons_zero,Zat (by simp) (by simp),Zsq,this]
   rfl) hq
 have hzs:∀x:DecisionR,setMany [AV.val (Value.int IntKind.i64 0),AV.val (Value.bool false)] 0 x.enc=x.enc:=λ_=>rfl
 by_cases h0:idxS p l= -1
 ·obtain⟨e1,_⟩:=Zdp h0
  simp[Tryz.f145]
  have s_:=h0
  try simp[s_]
  repeat' ((first|((first|refine Tp ?_|refine Tn ?_|refine T2 ?_ ?_)<;>intro h_ e_ n_)|(refine hlend ?_;simp[h0])|refine Dg 11 9 [] [] ?_|refine Dg 15 9 [] [] ?_|rw[Ip]|rw[In]|rw[Fz]|rw[Gz]|fail)<;>first|simp[e_,n_,s_]|simp[s_]|skip)
  exact⟨_,Wk.refl _ _,by simp[e1]⟩
 obtain⟨j0,hj0,e1,e2,e3⟩:=Zdq h0
 have hw0:IntKind.i64.wrap ((j0:Int)+1)=(j0:Int)+1:=Zf (by omega) (by omega)
 have hn0:¬((j0:Int)= -1):=by omega
 simp[Tryz.f145]
 have s_:=An @e1 (An @hw0 (@hn0))
 try simp[s_]
 repeat' ((first|((first|refine Tp ?_|refine Tn ?_|refine T2 ?_ ?_)<;>intro h_ e_ n_)|(refine hlend ?_;simp[e1,hw0,hn0])|refine Dg 11 9 [] [] ?_|refine Dg 15 9 [] [] ?_|rw[Ip]|rw[In]|rw[Fz]|rw[Gz]|fail)<;>first|simp[e_,n_,s_]|simp[s_]|skip)
 refine AW.loopG (lit:=λ_=>false) (λx:Nat×Nat×List DecisionR=>⟨42,pat [(0,.own 0 0 0 l.length 2),(1,.fn g cap),(5,I x.1),(6,I x.2.1)],.cells 0 (x.2.2.flatMap DecisionR.enc)::hc⟩) (λx=>l.length -x.2.1) (λx=>Zem p l x.2.2 x.1 x.2.1) (j0,j0+1,l) ?_ ?_ ?_
 ·exact Wk.at _ rfl rfl (by simp)
 ·exact .start hj0 e2 e3
 rintro⟨i,j,m⟩ hd A hA
 simp only at hd hA
 have hml:=hd.len
 by_cases hj:j<l.length
 case neg=>
  obtain⟨d1,d2,d3⟩:=hd.done hj
  have s_:=An @hj (@hml)
  try simp[s_]
  repeat' ((first|((first|refine Tp ?_|refine Tn ?_|refine T2 ?_ ?_)<;>intro h_ e_ n_)|refine Dg 11 9 [] [] ?_|refine Dg 15 9 [] [] ?_|rw[Ip]|rw[In]|rw[Fz]|rw[Gz]|fail)<;>first|simp[e_,n_,s_]|simp[s_]|skip)
  exact⟨_,Wk.prefix 0 0 (i*2) rfl rfl,by simp[d2],by
   have:(putAt (m.flatMap DecisionR.enc) (i*2) (zeros [AV.val (Value.int IntKind.i64 0),AV.val (Value.bool false)] (l.length -i))).take (i*2)=(m.take i).flatMap DecisionR.enc:=by
    rw[<-Zhm]
    unfold putAt
    rw[List.append_assoc,List.take_left' (by simp;omega)]
   simp only[zeros] at this
   simp[this,d1]⟩
 have hmj:=hd.get hj
 have hx:=hp l[j] (List.getElem_mem hj)
 have hw:IntKind.i64.wrap ((j:Int)+1)=((j+1:Nat):Int):=by rw[Zf (by omega) (by omega)];omega
 have hi:=hd.lt
 have hwi:IntKind.i64.wrap ((i:Int)+1)=((i+1:Nat):Int):=by rw[Zf (by omega) (by omega)];omega
 cases hpp:p l[j] with
 |true=>
  rw[hpp] at hx
  have hlx:∀(b0:ABlk) (tl:Za) {Q:AV->Za->Prop},Q (B true) (b0::(hc++tl))->AInv Tryz.prog (.fn g cap) [.agg l[j].enc] (b0::(hc++tl)) Q:=λb0 tl Q hq=>AInv.lend hx rfl (hfz _ b0 tl (by simp)) hq
  have s_:=An @hj (An @hml (An @hzs (An @hw (@hmj))))
  try simp[s_]
  repeat' ((first|((first|refine Tp ?_|refine Tn ?_|refine T2 ?_ ?_)<;>intro h_ e_ n_)|(refine hlx _ _ ?_;simp[hw])|(exact hA (i,j+1,m) _ (Wk.cutAt _ rfl (by simp) (by simp) (by simp;simpa using hhc) (by simp;simpa using hcr)) (hd.skip hj hpp) (by simp only;omega))|refine Dg 11 9 [] [] ?_|refine Dg 15 9 [] [] ?_|rw[Ip]|rw[In]|rw[Fz]|rw[Gz]|fail)<;>first|simp[e_,n_,s_]|simp[s_]|skip)
 |false=>
  rw[hpp] at hx
  have hlx:∀(b0:ABlk) (tl:Za) {Q:AV->Za->Prop},Q (B false) (b0::(hc++tl))->AInv Tryz.prog (.fn g cap) [.agg l[j].enc] (b0::(hc++tl)) Q:=λb0 tl Q hq=>AInv.lend hx rfl (hfz _ b0 tl (by simp)) hq
  have him:i<m.length:=by omega
  have hil:i<l.length:=by omega
  have s_:=An @hj (An @hml (An @hzs (An @hw (An @hwi (An @hmj (An @him (@hil)))))))
  try simp[s_]
  repeat' ((first|((first|refine Tp ?_|refine Tn ?_|refine T2 ?_ ?_)<;>intro h_ e_ n_)|(refine hlx _ _ ?_;simp[hw,hwi,hmj,him,hil])|(exact hA (i+1,j+1,m.set i l[j]) _ (Wk.cutAt _ rfl (by simp) (by simp) (by simp;simpa using hhc) (by simp;simpa using hcr)) (hd.keep hj hpp) (by simp only;omega))|refine Dg 11 9 [] [] ?_|refine Dg 15 9 [] [] ?_|rw[Ip]|rw[In]|rw[Fz]|rw[Gz]|fail)<;>first|simp[e_,n_,s_]|simp[s_]|skip)
theorem Zut (l:List RowR) (c e n:Int) (h:badS c e n=true):Zd Tryz.prog 73 [encL RowR.enc l,I c,I e,I n] (.tup [.agg RowR.zero.enc,I 0,I 1]):=by
 simp only[badS,Bool.or_eq_true,decide_eq_true_eq] at h
 refine Pm Tryz.func73 λhfit=> ?_
 simp[Tryz.f73]
 by_cases h1:c<0
 ·have s_:=An @h1 (An @RowR.enc.eq_1 (@RowR.zero.eq_1))
  exact WW
 by_cases h2:e<1
 ·have s_:=An @h1 (An @h2 (An @RowR.enc.eq_1 (@RowR.zero.eq_1)))
  exact WW
 have h3:n<1:=by omega
 have s_:=An @h1 (An @h2 (An @h3 (An @RowR.enc.eq_1 (@RowR.zero.eq_1))))
 exact WW
theorem Zuu (l:List RowR) (c e n:Int) (h:badS c e n=false) (hr:Zn RowR.client l=true) (hl:l.length<=1000000):Zd Tryz.prog 73 [encL RowR.enc l,I c,I e,I n] (.tup [.agg (rowS l c e n).enc,I (placeS RowR.client l c),I (whyS l c e n)]):=by
 obtain⟨h1,h2,h3⟩:=ZdW h
 have hf:=ZwU l c hr hl
 simp only[rowS,whyS,h]
 cases hx:Zaf RowR.client l c with
 |none=>
  rw[hx] at hf
  simp only[Option.isSome_none] at hf
  refine Pm Tryz.func73 λhfit=> ?_
  simp[Tryz.f73]
  have s_:=An @h1 (An @h2 (An @h3 (@RowR.enc.eq_1)))
  have p1_:=hf
  exact WW
 |some r=>
  rw[hx] at hf
  simp only[Option.isSome_some] at hf
  obtain⟨hp,hpx⟩:=Zam RowR.client hr hx
  generalize placeS RowR.client l c=q at*
  subst hpx
  refine Pm Tryz.func73 λhfit=> ?_
  simp[Tryz.f73]
  by_cases h4:l[q].epoch<e
  ·have h5:¬l[q].epoch=e:=by omega
   have s_:=An @h1 (An @h2 (An @h3 (An @h4 (An @h5 (An @hp (@RowR.enc.eq_1))))))
   have p1_:=hf
   exact WW
  by_cases h5:e<l[q].epoch
  ·have h6:¬l[q].epoch=e:=by omega
   have s_:=An @h1 (An @h2 (An @h3 (An @h4 (An @h5 (An @h6 (An @hp (@RowR.enc.eq_1)))))))
   have p1_:=hf
   exact WW
  have h6:l[q].epoch=e:=by omega
  have h7:¬e<e:=by omega
  have s_:=An @h1 (An @h2 (An @h3 (An @h6 (An @h7 (An @hp (@RowR.enc.eq_1))))))
  have p1_:=hf
  exact WW
theorem Zih {l:List RowR} (R:Zar l) (c e n:Int):Zn DecisionR.seq (rowS l c e n).l=true/\(rowS l c e n).l.length<=256:=by
 unfold rowS
 split
 ·exact⟨rfl,by simp[RowR.zero]⟩
 ·split
  ·exact⟨rfl,by simp⟩
  ·rename_i r hr
   split
   ·have:=R.ok r (ZA _ hr).1
    exact⟨this.rise,this.len⟩
   ·exact⟨rfl,by simp⟩
theorem Zuv (l:List RowR) (c e n:Int) (R:Zar l):Zd Tryz.prog 36 [encL RowR.enc l,I c,I e,I n] (.tup [B (askS l c e n).1,I (askS l c e n).2]):=by
 have hl:=R.len
 cases hb:badS c e n with
 |true=>
  have h1:=Zut l c e n hb
  have hw:whyS l c e n=1:=by simp[whyS,hb]
  have hs:askS l c e n=(false,1):=by simp[askS,hw]
  refine Pm Tryz.func36 λhfit=> ?_
  simp[Tryz.f36,hs]
  have s_:=An @RowR.zero.eq_1 (@RowR.enc.eq_1)
  exact WW
 |false=>
  have h1:=Zuu l c e n hb R.rise (by omega)
  obtain⟨r1,r2⟩:=Zih R c e n
  generalize hrw:rowS l c e n=r at*
  generalize hwy:whyS l c e n=y at*
  generalize placeS RowR.client l c=q at*
  by_cases h2:y=0
  case neg=>
   have hs:askS l c e n=(false,y):=by simp[askS,hwy,h2]
   refine Pm Tryz.func36 λhfit=> ?_
   simp[Tryz.f36,hs]
   have s_:=An @h2 (@RowR.enc.eq_1)
   exact WW
  by_cases h3:n<=r.done
  ·have hs:askS l c e n=(false,18):=by simp[askS,hwy,h2,hrw,h3]
   refine Pm Tryz.func36 λhfit=> ?_
   simp[Tryz.f36,hs]
   have s_:=An @h2 (An @h3 (@RowR.enc.eq_1))
   exact WW
  have hf:=Zpu r.l n r1 (by omega)
  cases hx:Zaf DecisionR.seq r.l n with
  |none=>
   have hs:askS l c e n=(false,6):=by simp[askS,hwy,h2,hrw,h3,hx]
   rw[hx] at hf
   simp only[Option.isSome_none] at hf
   refine Pm Tryz.func36 λhfit=> ?_
   simp[Tryz.f36,hs]
   have s_:=An @h2 (An @h3 (@RowR.enc.eq_1))
   have p1_:=hf
   exact WW
  |some d=>
   have hs:askS l c e n=(d.yes,0):=by simp[askS,hwy,h2,hrw,h3,hx]
   rw[hx] at hf
   simp only[Option.isSome_some] at hf
   obtain⟨hp,hpx⟩:=Zam DecisionR.seq r1 hx
   generalize placeS DecisionR.seq r.l n=k at*
   refine Pm Tryz.func36 λhfit=> ?_
   simp[Tryz.f36,hs]
   have s_:=An @h2 (An @h3 (An @hp (An @hpx (An @RowR.enc.eq_1 (@DecisionR.enc.eq_1)))))
   have p1_:=hf
   exact WW
theorem cli_at {l:List RowR} {i:Nat} (hi:i<l.length) (h:i*4<(l.flatMap RowR.enc).length):(l.flatMap RowR.enc)[i*4]=I l[i].client:=by
 have h1:=congrArg (λx=>x[0]?) (ZmS hi)
 simp only[List.getElem?_take,List.getElem?_drop] at h1
 rw[List.getElem_eq_iff]
 simpa[RowR.enc] using h1
theorem Zpv (l:List RowR) (i:Nat) (r r':RowR) (g:FuncId) (cap:List AV) (hcap:cap.all neat=true) (hp:Zd Tryz.prog g (.agg r.enc::cap) (.agg r'.enc)) (hi:i<l.length) (hk:l[i].client=r.client) (hl:l.length<=100000):Zd Tryz.prog 143 [encL RowR.enc l,I i,.agg r.enc,.fn g cap] (encL RowR.enc (l.set i r')):=by
 refine Zd.mk (λ_=>false) Tryz.func143 rfl rfl rfl (Ent.mk Tryz.func143 (by kernel_rfl) rfl) (by simp[hcap]) (by simp) λhfit=> ?_
 have hc:=cli_at hi
 simp[Tryz.f143]
 have s_:=An @hi (An @hk (@hc))
 try simp[s_]
 repeat' ((first|((first|refine Tp ?_|refine Tn ?_|refine T2 ?_ ?_)<;>intro h_ e_ n_)|(refine AInv.fresh [] (cloneR_ok l (by omega)) (by simp) (by simp) ?_;simp[hi,hk])|refine Pg hp ?_|refine Dg 2 14 [] [] ?_|rw[Ip]|rw[In]|rw[Fz]|rw[Gz]|fail)<;>first|simp[e_,n_,s_]|simp[s_]|skip)
theorem ZwV (l:List RowR) (i:Nat) (r r':RowR) (g:FuncId) (cap:List AV) (hcap:cap.all neat=true) (hp:Zd Tryz.prog g (.agg r.enc::cap) (.agg r'.enc)) (hi:i<=l.length) (hk:∀h:i<l.length,l[i].client≠r.client) (hl:l.length<=100000):Zd Tryz.prog 143 [encL RowR.enc l,I i,.agg r.enc,.fn g cap] (encL RowR.enc (insL l i r')):=by
 refine Zd.mk (λ_=>false) Tryz.func143 rfl rfl rfl (Ent.mk Tryz.func143 (by kernel_rfl) rfl) (by simp[hcap]) (by simp) λhfit=> ?_
 have hins:=Zrv l i r' hi (by omega)
 simp[Tryz.f143]
 by_cases h:i<l.length
 ·have hc:=cli_at h
  have hk:=hk h
  have s_:=An @h (An @hk (@hc))
  try simp[s_]
  repeat' ((first|((first|refine Tp ?_|refine Tn ?_|refine T2 ?_ ?_)<;>intro h_ e_ n_)|(refine AInv.fresh [] (cloneR_ok l (by omega)) (by simp) (by simp) ?_;simp[h,hk])|(refine AInv.fresh [1] hins (by simp) (by simp) ?_;simp[h,hk])|refine Pg hp ?_|refine Dg 2 14 [] [] ?_|rw[Ip]|rw[In]|rw[Fz]|rw[Gz]|fail)<;>first|simp[e_,n_,s_]|simp[s_]|skip)
 ·have s_:=h
  try simp[s_]
  repeat' ((first|((first|refine Tp ?_|refine Tn ?_|refine T2 ?_ ?_)<;>intro h_ e_ n_)|(refine AInv.fresh [] (cloneR_ok l (by omega)) (by simp) (by simp) ?_;simp[h])|(refine AInv.fresh [1] hins (by simp) (by simp) ?_;simp[h])|refine Pg hp ?_|refine Dg 2 14 [] [] ?_|rw[Ip]|rw[In]|rw[Fz]|rw[Gz]|fail)<;>first|simp[e_,n_,s_]|simp[s_]|skip)
theorem Zry (r:RowR) (n:Int) (yes:Bool) (hr:Zn DecisionR.seq r.l=true) (hx:Zaf DecisionR.seq r.l n=none) (hl:r.l.length<=100000):Zd Tryz.prog 212 [.agg r.enc,.fp [I n],.fp [B yes]] (.agg (decR r n yes).enc):=by
 have hf:=Zpu r.l n hr (by omega)
 have hpl:=ZcE DecisionR.seq r.l n
 have hpi:=Zkd DecisionR.seq hr (x:=⟨n,yes⟩) ((ZaS _).1 hx)
 have hins:=Zrw r.l (placeS DecisionR.seq r.l n) ⟨n,yes⟩ hpl (by omega)
 rw[show DecisionR.enc ⟨n,yes⟩=[I n,B yes] from rfl] at hins
 simp only at hpi
 unfold decR
 rw[<-hpi]
 generalize placeS DecisionR.seq r.l n=q at*
 refine Pm Tryz.func212 λhfit=> ?_
 simp[Tryz.f212]
 have s_:=An @RowR.enc.eq_1 (@DecisionR.enc.eq_1)
 try simp[s_]
 repeat' ((first|((first|refine Tp ?_|refine Tn ?_|refine T2 ?_ ?_)<;>intro h_ e_ n_)|(refine ADcall.fresh [] (cloneD_ok r.l (by omega)) (by simp) (by simp) ?_;simp)|(refine ADcall.fresh [2] hins (by simp) (by simp) ?_;simp)|refine Pg hf ?_|refine Dg 2 10 [] [(1,.e),(2,.e),(4,.t),(5,.t),(8,.e)] ?_|rw[Ip]|rw[In]|rw[Fz]|rw[Gz]|fail)<;>first|simp[e_,n_,s_]|simp[s_]|skip)
theorem Zii (l:List RowR) (c e n:Int) (yes:Bool) (R:Zar l):Zd Tryz.prog 180 [encL RowR.enc l,I c,I e,I n,B yes] (.tup [encL RowR.enc (decideS l c e n yes).1,B (decideS l c e n yes).2.1,I (decideS l c e n yes).2.2]):=by
 have hl:=R.len
 have h1:=Zuv l c e n R
 by_cases h6:(askS l c e n).2=6
 case neg=>
  have hs:decideS l c e n yes=(l,(askS l c e n).1,(askS l c e n).2):=by simp[decideS,h6]
  refine Pm Tryz.func180 λhfit=> ?_
  have d1_:=D0 8 9 [] []
  simp[Tryz.f180,hs]
  have s_:=h6
  exact WW
 rw[h6] at h1
 obtain⟨hb,hn⟩:=Zke h6
 have h2:=Zuu l c e n hb R.rise (by omega)
 obtain⟨r1,r2⟩:=Zih R c e n
 obtain⟨k1,k2⟩:=ZgA l hb
 have h3:=Zry (rowS l c e n) n yes r1 hn (by omega)
 have hkey:RowR.client (decR (rowS l c e n) n yes)=c:=k1
 have hgive:∀v:AV,neat v=true->True:=λ_ _=>trivial
 cases hx:Zaf RowR.client l c with
 |none=>
  have hpl:=ZcE RowR.client l c
  have hpn:∀h:placeS RowR.client l c<l.length,l[placeS RowR.client l c].client≠c:=λh=>ZcH RowR.client R.rise hx h
  have hpi:=Zkd RowR.client R.rise (x:=decR (rowS l c e n) n yes) (by rw[hkey];exact(ZaS _).1 hx)
  rw[hkey] at hpi
  by_cases hrm:ZaT l c e n=true
  ·have hs:decideS l c e n yes=(l,false,12):=by simp[decideS,h6,hrm]
   simp only[ZaT,hx,Bool.or_eq_true,Bool.and_eq_true,decide_eq_true_eq,true_and] at hrm
   generalize rowS l c e n=r at*
   generalize placeS RowR.client l c=q at*
   by_cases hq:q<l.length
   ·have hq2:=hpn hq
    by_cases hr1:64<=l.length
    ·refine Pm Tryz.func180 λhfit=> ?_
     have d1_:=D0 8 9 [] []
     simp[Tryz.f180,hs]
     have s_:=An @hq (An @hq2 (@hr1))
     exact WW
    ·have hr2:256<=r.l.length:=by omega
     refine Pm Tryz.func180 λhfit=> ?_
     have d1_:=D0 8 9 [] []
     simp[Tryz.f180,hs]
     have s_:=An @hq (An @hq2 (An @hr1 (@hr2)))
     exact WW
   ·by_cases hr1:64<=l.length
    ·refine Pm Tryz.func180 λhfit=> ?_
     have d1_:=D0 8 9 [] []
     simp[Tryz.f180,hs]
     have s_:=An @hq (@hr1)
     exact WW
    ·have hr2:256<=r.l.length:=by omega
     refine Pm Tryz.func180 λhfit=> ?_
     have d1_:=D0 8 9 [] []
     simp[Tryz.f180,hs]
     have s_:=An @hq (An @hr1 (@hr2))
     exact WW
  ·have hs:decideS l c e n yes=(insL l (placeS RowR.client l c) (decR (rowS l c e n) n yes),yes,0):=by rw[hpi];simp[decideS,h6,hrm]
   simp only[ZaT,hx,Bool.or_eq_true,Bool.and_eq_true,decide_eq_true_eq,true_and,not_or] at hrm
   obtain⟨hr1,hr2⟩:=hrm
   have h4:=ZwV l (placeS RowR.client l c) (rowS l c e n) (decR (rowS l c e n) n yes) 212 [.fp [I n],.fp [B yes]] (by simp) h3 hpl (by rw[k1];exact hpn) (by omega)
   generalize decR (rowS l c e n) n yes=r' at*
   generalize rowS l c e n=r at*
   generalize placeS RowR.client l c=q at*
   by_cases hq:q<l.length
   ·have hq2:=hpn hq
    refine Pm Tryz.func180 λhfit=> ?_
    simp[Tryz.f180,hs]
    have s_:=An @hq (An @hq2 (An @hr1 (@hr2)))
    try simp[s_]
    repeat' ((first|((first|refine Tp ?_|refine Tn ?_|refine T2 ?_ ?_)<;>intro h_ e_ n_)|(refine AW.wkZ (WkZ.freeze [0] 8 (.fp [I n]) (by simp)) ?_;refine AW.wkZ (WkZ.freeze [1] 9 (.fp [B yes]) (by simp)) ?_;simp;refine Dg 8 9 [] [(5,.t)] ?_;simp)|refine Pg h1 ?_|refine Pg h2 ?_|refine Pg h4 ?_|refine Dg 8 9 [] [] ?_|rw[Ip]|rw[In]|rw[Fz]|rw[Gz]|fail)<;>first|simp[e_,n_,s_]|simp[s_]|skip)
   ·refine Pm Tryz.func180 λhfit=> ?_
    simp[Tryz.f180,hs]
    have s_:=An @hq (An @hr1 (@hr2))
    try simp[s_]
    repeat' ((first|((first|refine Tp ?_|refine Tn ?_|refine T2 ?_ ?_)<;>intro h_ e_ n_)|(refine AW.wkZ (WkZ.freeze [0] 8 (.fp [I n]) (by simp)) ?_;refine AW.wkZ (WkZ.freeze [1] 9 (.fp [B yes]) (by simp)) ?_;simp;refine Dg 8 9 [] [(5,.t)] ?_;simp)|refine Pg h1 ?_|refine Pg h2 ?_|refine Pg h4 ?_|refine Dg 8 9 [] [] ?_|rw[Ip]|rw[In]|rw[Fz]|rw[Gz]|fail)<;>first|simp[e_,n_,s_]|simp[s_]|skip)
 |some r0=>
  obtain⟨hq,hqx⟩:=Zam RowR.client R.rise hx
  have hq2:l[placeS RowR.client l c].client=c:=by rw[hqx];exact(ZA _ hx).2
  have hpi:=Zkc RowR.client R.rise (x:=decR (rowS l c e n) n yes) hq (by rw[hkey];exact hq2)
  by_cases hrm:ZaT l c e n=true
  ·have hs:decideS l c e n yes=(l,false,12):=by simp[decideS,h6,hrm]
   simp only[ZaT,hx,Bool.or_eq_true,Bool.and_eq_true,decide_eq_true_eq,reduceCtorEq,false_and,false_or] at hrm
   generalize rowS l c e n=r at*
   generalize placeS RowR.client l c=q at*
   refine Pm Tryz.func180 λhfit=> ?_
   have d1_:=D0 8 9 [] []
   simp[Tryz.f180,hs]
   have s_:=An @hq (An @hq2 (@hrm))
   exact WW
  ·have hs:decideS l c e n yes=(l.set (placeS RowR.client l c) (decR (rowS l c e n) n yes),yes,0):=by rw[hpi];simp[decideS,h6,hrm]
   simp only[ZaT,hx,Bool.or_eq_true,Bool.and_eq_true,decide_eq_true_eq,reduceCtorEq,false_and,false_or] at hrm
   have h4:=Zpv l (placeS RowR.client l c) (rowS l c e n) (decR (rowS l c e n) n yes) 212 [.fp [I n],.fp [B yes]] (by simp) h3 hq (by rw[k1];exact hq2) (by omega)
   generalize decR (rowS l c e n) n yes=r' at*
   generalize rowS l c e n=r at*
   generalize placeS RowR.client l c=q at*
   refine Pm Tryz.func180 λhfit=> ?_
   simp[Tryz.f180,hs]
   have s_:=An @hq (An @hq2 (@hrm))
   try simp[s_]
   repeat' ((first|((first|refine Tp ?_|refine Tn ?_|refine T2 ?_ ?_)<;>intro h_ e_ n_)|(refine AW.wkZ (WkZ.freeze [0] 8 (.fp [I n]) (by simp)) ?_;refine AW.wkZ (WkZ.freeze [1] 9 (.fp [B yes]) (by simp)) ?_;simp;refine Dg 8 9 [] [(5,.t)] ?_;simp)|refine Pg h1 ?_|refine Pg h2 ?_|refine Pg h4 ?_|refine Dg 8 9 [] [] ?_|rw[Ip]|rw[In]|rw[Fz]|rw[Gz]|fail)<;>first|simp[e_,n_,s_]|simp[s_]|skip)
theorem ZnY (d:DecisionR) (c e m:Int) (l:List DecisionR):Zd Tryz.prog 147 [.agg d.enc,.fp [I c,I e,I m,encL DecisionR.enc l]] (B (decide (d.seq<=m))):=by
 refine Pm Tryz.func147 λhfit=> ?_
 simp[Tryz.f147,DecisionR.enc]
theorem Zrz (r:RowR) (d:Int) (hl:r.l.length<=100000):Zd Tryz.prog 144 [.agg r.enc,.fp [I d]] (.agg (forR r d).enc):=by
 obtain⟨c,e,dn,l⟩:=r
 simp only at hl
 have hdel:=ZnX l 147 [.ptr 1 0 0] [.fp [I c,I e,I (max dn d),encL DecisionR.enc l]] [.cells 0 [I c,I e,I (max dn d),encL DecisionR.enc l]] (λx=>decide (x.seq<=max dn d)) (by simp) (by simp) (by simp) (λfu b0 tl=>by simp) (λx _=>ZnY x c e (max dn d) l) (by omega)
 unfold forR
 refine Pm Tryz.func144 λhfit=> ?_
 simp[Tryz.f144,RowR.enc]
 refine AInv.fresh [] (cloneD_ok l (by omega)) (by simp) (by simp) ?_
 simp
 refine AInv.fresh [2,0] hdel (by simp) (by simp) ?_
 simp
 rw[Zat (by simp) (by simp)]
 simp
theorem Zuw (l:List RowR) (c e n:Int) (R:Zar l):Zd Tryz.prog 77 [encL RowR.enc l,I c,I e,I n] (.tup [encL RowR.enc (forgetS l c e n).1,I (forgetS l c e n).2]):=by
 have hl:=R.len
 cases hb:badS c e n with
 |true=>
  have h1:=Zut l c e n hb
  have hw:whyS l c e n=1:=by simp[whyS,hb]
  have hs:forgetS l c e n=(l,1):=by simp[forgetS,hw]
  refine Pm Tryz.func77 λhfit=> ?_
  simp[Tryz.f77,hs]
  exact WW
 |false=>
  have h1:=Zuu l c e n hb R.rise (by omega)
  by_cases hw:whyS l c e n=0
  case neg=>
   have hs:forgetS l c e n=(l,whyS l c e n):=by simp[forgetS,hw]
   generalize whyS l c e n=y at*
   refine Pm Tryz.func77 λhfit=> ?_
   simp[Tryz.f77,hs]
   have s_:=hw
   exact WW
  obtain⟨r1,r2⟩:=Zih R c e n
  obtain⟨k1,k2⟩:=ZgA l hb
  have h3:=Zrz (rowS l c e n) n (by omega)
  have hkey:RowR.client (forR (rowS l c e n) n)=c:=k1
  cases hx:Zaf RowR.client l c with
  |none=>simp[whyS,hb,hx] at hw
  |some r0=>
   obtain⟨hq,hqx⟩:=Zam RowR.client R.rise hx
   have hq2:l[placeS RowR.client l c].client=c:=by rw[hqx];exact(ZA _ hx).2
   have hpi:=Zkc RowR.client R.rise (x:=forR (rowS l c e n) n) hq (by rw[hkey];exact hq2)
   have hs:forgetS l c e n=(l.set (placeS RowR.client l c) (forR (rowS l c e n) n),0):=by rw[hpi];simp[forgetS,hw]
   have h4:=Zpv l (placeS RowR.client l c) (rowS l c e n) (forR (rowS l c e n) n) 144 [.fp [I n]] (by simp) h3 hq (by rw[k1];exact hq2) (by omega)
   rw[hw] at h1
   generalize forR (rowS l c e n) n=r' at*
   generalize rowS l c e n=r at*
   generalize placeS RowR.client l c=q at*
   refine Zd.mkW Tryz.func77 rfl rfl rfl (Ent.mk Tryz.func77 (by kernel_rfl) rfl) (by simp) (by simp) λhfit=> ?_
   refine AW.seqA (lit:=λ_=>false) ?_
   simp
   refine AW.wkZ (WkZ.freeze [0] 7 (.fp [I n]) (by simp)) ?_
   refine Zey (lit:=λ_=>false) _ _ _ ?_
   simp[hs]
   exact WW
theorem keyO_ok (n:OpenR):Zd Tryz.prog 58 [.agg n.enc] (I n.client):=by
 refine Pm Tryz.func58 λhfit=> ?_
 simp[Tryz.f58,OpenR.enc]
abbrev byO:AV:= .fn 104 [.fp [.fn 58 []]]
theorem ZeJ (n:OpenR) (k:Int):Zd Tryz.prog 104 [.agg n.enc,I k,.fp [.fn 58 []]] (I (Lib.compareInt n.client k)):=by
 refine Pm Tryz.func104 λhfit=> ?_
 simp[Tryz.f104,OpenR.enc]
 have s_:= @OpenR.enc.eq_1
 have p1_:=keyO_ok n
 have p2_:=Zeg n.client k
 exact WW
abbrev atO (l:List OpenR) (i:Nat):Int:=(l.getD i .zero).client
theorem ZnH (l:List OpenR) (k:Int) (hl:l.length<=1000000):Zd Tryz.prog 103 [encL OpenR.enc l,I k,byO] (.tup [I (bsGo (atO l) k 0 l.length),B (decide (bsGo (atO l) k 0 l.length<l.length)&&decide (atO l (bsGo (atO l) k 0 l.length)=k))]):=by
 refine Pm Tryz.func103 λhfit=> ?_
 simp at hfit
 simp[Tryz.f103]
 refine AW.loopG (lit:=λ_=>false) (λx:Nat×Nat=>⟨49,pat [(0,encL OpenR.enc l),(1,I k),(2,byO),(8,I l.length),(9,I x.1),(10,I x.2)],[]⟩) (λx=>x.2 -x.1) (λx=>x.1<=x.2/\x.2<=l.length/\bsGo (atO l) k x.1 x.2=bsGo (atO l) k 0 l.length) (0,l.length) ?_ ?_ ?_
 ·exact Wk.at _ rfl rfl (by simp)
 ·simp
 rintro⟨i,j⟩ ⟨h1,h2,h3⟩ A hA
 simp only at h1 h2 h3
 have hat:∀m (h:m<l.length),atO l m=(l[m]).client:=λm h=>by simp[atO,List.getD_eq_getElem?_getD,h]
 by_cases h:i<j
 case neg=>
  have hij:i=j:=by omega
  subst hij
  rw[Zdo h] at h3
  by_cases hi:i<l.length
  ·have e1:=hat i hi
   have s_:=An @h (An @hi (An (Eq.symm (h3)) (An @cmp_eq (An @OpenR.enc.eq_1 (@e1)))))
   have p1_:=ZeJ l[i] k
   exact WW
  ·have s_:=An @h (An @hi (Eq.symm (h3)))
   exact WW
 rw[Zdn h] at h3
 have hm:(i+j)/2<l.length:=by omega
 have e1:=hat _ hm
 have w1:IntKind.i64.wrap ((i:Int)+j)=(i:Int)+j:=Zf (by omega) (by omega)
 have w2:((i:Int)+j)%18446744073709551616=(i:Int)+j:=by omega
 have w3:((i:Int)+j).fdiv 2=(((i+j)/2:Nat):Int):=by rw[Int.fdiv_eq_ediv_of_nonneg _ (by omega)];omega
 have w4:IntKind.i64.wrap (((i+j)/2:Nat):Int)=(((i+j)/2:Nat):Int):=Zf (by omega) (by omega)
 generalize hmm:(i+j)/2=m at*
 have w5:IntKind.i64.wrap ((m:Int)+1)=((m+1:Nat):Int):=by rw[Zf (by omega) (by omega)];omega
 have hk:atO l m<k\/¬atO l m<k:=Classical.em _
 rcases hk with hk|hk
 ·rw[if_pos hk] at h3
  rw[e1] at hk
  have s_:=An @h (An @w1 (An @w2 (An @w3 (An @w4 (An @w5 (An @hm (An @cmp_lt (An @OpenR.enc.eq_1 (@hk)))))))))
  have q1_:=λs w=>hA (m+1,j) s w ⟨by simp only;omega,h2,h3⟩ (by simp only;omega)
  have p1_:=ZeJ l[m] k
  exact WW
 ·rw[if_neg hk] at h3
  rw[e1] at hk
  have s_:=An @h (An @w1 (An @w2 (An @w3 (An @w4 (An @w5 (An @hm (An @cmp_lt (An @OpenR.enc.eq_1 (@hk)))))))))
  have q1_:=λs w=>hA (i,m) s w ⟨by simp only;omega,by simp only;omega,h3⟩ (by simp only;omega)
  have p1_:=ZeJ l[m] k
  exact WW
theorem Zpe (l:List OpenR) (k:Int) (hr:Zn OpenR.client l=true) (hl:l.length<=1000000):Zd Tryz.prog 57 [encL OpenR.enc l,I k,.fn 58 []] (.tup [I (placeS OpenR.client l k),B (Zaf OpenR.client l k).isSome]):=by
 have h1:=ZnH l k hl
 have hat:∀m (h:m<l.length),atO l m=(l[m]).client:=λm h=>by simp[atO,List.getD_eq_getElem?_getD,h]
 rw[Zfj OpenR.client hr hat k] at h1
 have e:(decide (placeS OpenR.client l k<l.length)&&decide (atO l (placeS OpenR.client l k)=k))=(Zaf OpenR.client l k).isSome:=by
  cases hf:Zaf OpenR.client l k with
  |some x=>
   obtain⟨hp,e⟩:=Zam OpenR.client hr hf
   rw[hat _ hp,e]
   simp[hp,(ZA OpenR.client hf).2]
  |none=>
   by_cases hp:placeS OpenR.client l k<l.length
   ·have:=ZcH OpenR.client hr hf hp
    rw[hat _ hp]
    simp[this]
   ·simp[hp]
 rw[e] at h1
 refine Pm Tryz.func57 λhfit=> ?_
 simp[Tryz.f57]
 exact WW
theorem Zfw (l:List OpenR) (hl:l.length<=1000000):XCall Tryz.prog 54 [encL OpenR.enc l] [] (.own 0 0 0 l.length 17) [.cells 0 (l.flatMap OpenR.enc)]:=by
 refine XCall.mkE 17 (λ_=>false) Tryz.func54 rfl rfl rfl (Ent.mk Tryz.func54 (by kernel_rfl) rfl) (by simp) (by simp) (by simp) (by simp) (by simp) λhfit=> ?_
 simp at hfit
 simp[Tryz.f54]
 rw[if_pos (by simp only[maxLen];omega)]
 simp
 intro h0
 subst h0
 simp
theorem ZqR (l:List OpenR) (i:Nat) (x:OpenR) (hi:i<=l.length) (hl:l.length<=1000000):XCall Tryz.prog 205 [.own 0 0 0 l.length 17,I i,.sl true 1 x.enc] [.cells 0 (l.flatMap OpenR.enc)] (.own 0 1 0 (l.length+1) 17) [.cells 1 ((insL l i x).flatMap OpenR.enc)]:=by
 by_cases hi2:i=l.length
 case pos=>
  subst hi2
  refine XCall.mkG (λs (_:Unit)=>s) (λ_=>false) Tryz.func205 rfl rfl rfl (Ent.mk Tryz.func205 (by kernel_rfl) rfl) (by simp) (by simp) (by simp) (by simp) (by simp) λhfit=> ?_
  refine⟨WkE.one _ _,λ_=> ?_⟩
  simp[Tryz.f205]
  rw[if_pos (by simp only[maxLen];omega)]
  simp
  exact⟨_,Wk.refl _ _,by simp[ZdT]⟩
 have hi3:i<l.length:=by omega
 have hcp:∀cap,l.length<=cap->(l.length*17+(cap*17 -l.length*17))/17=cap:=λcap h=>by omega
 have hw1:IntKind.i64.wrap ((l.length:Int)+1)=((l.length+1:Nat):Int):=by rw[Zf (by omega) (by omega)];omega
 have hw2:IntKind.i64.wrap ((i:Int)+1)=((i+1:Nat):Int):=by rw[Zf (by omega) (by omega)];omega
 have hw3:IntKind.i64.wrap ((l.length:Int)+1 -i)=((l.length+1 -i:Nat):Int):=by rw[Zf (by omega) (by omega)];omega
 have hw4:((i:Int)+((l.length+1 -i:Nat):Int)).toNat=l.length+1:=by omega
 have hm1:min 1 (l.length+1 -i)=1:=by omega
 have hm2:∀cap,l.length<=cap->min (i*17) (l.length*17+(cap*17 -l.length*17))=i*17:=λcap h=>by omega
 have hov:∀(lb:Nat) (h:Za) (y:ABlk) (Q:AV->Za->Prop),h[0]? =some y->(blkCells y).map (·.1)=some 0->Q (B false) h->AInv Tryz.prog (.fn 232 []) [.sl true 1 x.enc,.own 0 0 (i+1) lb 17] h Q:=λlb h y Q hy hv hq=>
  Zbu Tryz.func232 (by kernel_rfl) rfl (by kernel_rfl) rfl rfl (by kernel_rfl) (k:=17) (by kernel_rfl) true 1 _ _ 0 0 (i+1) lb hy hv (by omega) Q hq
 refine XCall.mkG (λs (cap:{cap:Nat//l.length<=cap/\cap<=maxLen})=>Zcd s 0 0 17 (l.flatMap OpenR.enc) cap.1) (λ_=>false) Tryz.func205 rfl rfl rfl (Ent.mk Tryz.func205 (by kernel_rfl) rfl) (by simp) (by simp) (by simp) (by simp) (by simp) λhfit=> ?_
 refine⟨WkE.full (t:=0) (by simp) (by simp) (by omega) (by simp),?_⟩
 rintro⟨cap,hc1,hc2⟩
 have hcp1:=hcp cap hc1
 have hm3:=hm2 cap hc1
 have hi4:¬i=l.length:=by omega
 have hle:i<=l.length:=by omega
 generalize hA:List.replicate (cap*17 -l.length*17) AV.any=A
 have hAl:A.length=cap*17 -l.length*17:=by rw[<-hA];simp
 have hLl:(l.flatMap OpenR.enc).length=l.length*17:=Zlg l
 have hta:(l.flatMap OpenR.enc++A).take (i*17)=(l.flatMap OpenR.enc).take (i*17):=List.take_append_of_le_length (by rw[hLl];omega)
 have hdr:(l.flatMap OpenR.enc).drop (i*17)=(l.drop i).flatMap OpenR.enc:=ZmU l i
 have hq0:(l.flatMap OpenR.enc++A).drop (i*17)=(l.drop i).flatMap OpenR.enc++A:=by rw[List.drop_append_of_le_length (by rw[hLl];omega),hdr]
 have hdl:((l.drop i).flatMap OpenR.enc).length=l.length*17 -i*17:=by rw[Zlg,List.length_drop];omega
 by_cases hr:l.length+1<=cap
 ·have hm4:min (l.length+1 -i) (l.length -i)=l.length -i:=by omega
  have hm5:min ((l.length+1 -i)*17) ((l.length -i)*17+(cap*17 -l.length*17))=(l.length+1 -i)*17:=by omega
  have hm6:min ((l.length+1 -i)*17) (l.length*17+(cap*17 -l.length*17) -i*17)=(l.length+1 -i)*17:=by omega
  have hq1:List.take ((l.length -i)*17) (List.take ((l.length+1 -i)*17) ((l.drop i).flatMap OpenR.enc++A))=(l.drop i).flatMap OpenR.enc:=by
   rw[List.take_take,Nat.min_eq_left (by omega),List.take_left' (by rw[hdl];omega)]
  have hq2:(putAt (l.flatMap OpenR.enc++A) ((i+1)*17) ((l.drop i).flatMap OpenR.enc)).length=cap*17:=by
   rw[ZD (by rw[List.length_append,hLl,hAl,hdl];omega),List.length_append,hLl,hAl];omega
  have hq3:(putAt (putAt (l.flatMap OpenR.enc++A) ((i+1)*17) ((l.drop i).flatMap OpenR.enc)) (i*17) x.enc).take ((l.length+1)*17)=(insL l i x).flatMap OpenR.enc:=by
   have:=ZdR (L:=l.flatMap OpenR.enc) (A:=A) (X:=x.enc) (a:=i*17) (k:=17) hLl (by omega) rfl (by rw[hAl];omega)
   rw[Zlk,hq0,List.take_left' (by rw[hdl])] at this
   rw[show(i+1)*17=i*17+17 by omega,show(l.length+1)*17=l.length*17+17 by omega]
   exact this
  have hone:∀y∈(l.drop i).flatMap OpenR.enc,Zx y=true:=List.all_eq_true.1 (Zlf _)
  simp[Tryz.f205,Zcd,hA]
  have s_:=An @hcp1 (An @hw1 (An @hw2 (An @hw3 (An @hw4 (An @hm1 (An @hm3 (An @hm4 (An @hq0 (An @hq1 (An @hq2 (An @hi3 (An @hi4 (An @hle (@hr))))))))))))))
  try simp[s_]
  repeat' ((first|((first|refine Tp ?_|refine Tn ?_|refine T2 ?_ ?_)<;>intro h_ e_ n_)|(refine hov _ _ _ _ rfl rfl ?_;simp)|(refine optBif ⟨rfl,by rw[List.length_append,hLl,hAl];omega,by rw[List.length_take,List.length_append,hdl,hAl];omega,by rw[hm4,hq1];exact hone⟩ ?_;simp)|refine Dg 11 9 [] [] ?_|refine Dg 15 9 [] [] ?_|rw[Ip]|rw[In]|rw[Fz]|rw[Gz]|fail)<;>first|simp[e_,n_,s_]|simp[s_]|skip)
  exact⟨_,Wk.trans (Wk.prefix 0 0 ((l.length+1)*17) rfl rfl) (Wk.bump 6 0 0 0 (l.length+1) 17 (by simp) rfl),by simp[hq3]⟩
 ·have hm5:min ((l.length -i)*17) ((l.length -i)*17+(cap*17 -l.length*17))=(l.length -i)*17:=by omega
  have hq1:List.take ((l.length -i)*17) (List.take ((l.length -i)*17) ((l.drop i).flatMap OpenR.enc++A))=(l.drop i).flatMap OpenR.enc:=by
   rw[List.take_take,Nat.min_self,List.take_left' (by rw[hdl];omega)]
  have hq4:List.take ((l.length -i)*17) ((l.drop i).flatMap OpenR.enc)=(l.drop i).flatMap OpenR.enc:=List.take_of_length_le (by rw[hdl];omega)
  have hone:∀y∈(l.drop i).flatMap OpenR.enc,Zx y=true:=List.all_eq_true.1 (Zlf _)
  simp[Tryz.f205,Zcd,hA]
  generalize hZ:(List.replicate (l.length+1 -i) [AV.val (Value.int IntKind.i64 0),AV.val (Value.int IntKind.i64 0),AV.val (Value.int IntKind.i64 0),AV.val (Value.int IntKind.i64 0),AV.val (Value.int IntKind.i64 0),AV.sl true 0 [],AV.val (Value.int IntKind.i64 0),AV.sl true 0 [],AV.val (Value.int IntKind.i64 0),AV.sl true 0 [],AV.val (Value.int IntKind.i64 0),AV.val (Value.int IntKind.i64 0),AV.val (Value.int IntKind.i64 0),AV.val (Value.int IntKind.i64 0),AV.val (Value.string ByteArray.empty),AV.sl true 0 [],AV.val (Value.int IntKind.i64 0)]).flatten=Z
  have hZl:Z.length=(l.length+1 -i)*17:=by rw[<-hZ];simp
  have hta':((l.flatMap OpenR.enc).take (i*17)).length=i*17:=by rw[List.length_take,hLl];omega
  have hq2:(putAt ((l.flatMap OpenR.enc).take (i*17)++Z) (i*17) x.enc).length=(l.length+1)*17:=by
   rw[ZD (by rw[List.length_append,hta',hZl,Zqa];omega),List.length_append,hta',hZl];omega
  have hq3:putAt (putAt ((l.flatMap OpenR.enc).take (i*17)++Z) (i*17) x.enc) ((i+1)*17) ((l.drop i).flatMap OpenR.enc)=(insL l i x).flatMap OpenR.enc:=by
   have:=ZdS (L:=l.flatMap OpenR.enc) (A:=A) (X:=x.enc) (Z:=Z) (a:=i*17) (k:=17) hLl (by omega) rfl (by rw[hZl];omega)
   rw[Zlk,hta,hq0,List.take_left' (by rw[hdl])] at this
   rw[show(i+1)*17=i*17+17 by omega]
   exact this
  have s_:=An @hcp1 (An @hw1 (An @hw2 (An @hw3 (An @hw4 (An @hm1 (An @hm3 (An @hq0 (An @hq1 (An @hq4 (An @hta (An @hZ (An @hi3 (An @hi4 (An @hle (@hr)))))))))))))))
  try simp[s_]
  repeat' ((first|((first|refine Tp ?_|refine Tn ?_|refine T2 ?_ ?_)<;>intro h_ e_ n_)|(refine optBif ⟨by rw[hq2];omega,hone⟩ ?_;simp)|refine Dg 11 9 [] [] ?_|refine Dg 15 9 [] [] ?_|rw[Ip]|rw[In]|rw[Fz]|rw[Gz]|fail)<;>first|simp[e_,n_,s_]|simp[s_]|skip)
  exact⟨_,Wk.move 6 0 1 0 0 (l.length+1) 17 (by decide) (by simp;omega) rfl rfl rfl,by simp[hq3]⟩
theorem ZqS (l:List OpenR) (g:FuncId) (cap:List AV) (p:OpenR->Bool) (hcap:cap.all neat=true) (hp:∀x∈l,Zd Tryz.prog g (.agg x.enc::cap) (B (p x))) (hl:l.length<=1000000):Zd Tryz.prog 98 [encL OpenR.enc l,.fn g cap] (I (idxS p l)):=by
 refine Zd.mk (λ_=>false) Tryz.func98 rfl rfl rfl (Ent.mk Tryz.func98 (by kernel_rfl) rfl) (by simp[hcap]) (by simp) λhfit=> ?_
 simp at hfit
 simp[Tryz.f98]
 refine AW.loopG (lit:=λ_=>false) (λi:Nat=>⟨19,pat [(0,encL OpenR.enc l),(1,.fn g cap),(7,I l.length),(8,I i)],[]⟩) (λi=>l.length -i) (λi=>i<=l.length/\ZaM p i (l.drop i)=idxS p l) 0 ?_ ?_ ?_
 ·exact Wk.at _ rfl rfl (by simp)
 ·simp[idxS]
 rintro i ⟨h1,h2⟩ A hA
 by_cases hi:i<l.length
 case neg=>
  rw[ZbX hi] at h2
  have s_:=An @hi (Eq.symm (h2))
  exact WW
 rw[ZcG hi] at h2
 have hw:=Zh hi hfit.1.1
 have hpi:=hp l[i] (List.getElem_mem hi)
 cases hpp:p l[i] with
 |true=>
  rw[hpp] at hpi
  simp only[hpp,if_true] at h2
  have s_:=An @hi (An (Eq.symm (h2)) (@hpp))
  have p1_:=hpi
  exact WW
 |false=>
  rw[hpp] at hpi
  simp only[hpp,Bool.false_eq_true,if_false] at h2
  have s_:=An @hi (An @hw (@hpp))
  have q1_:=λs w=>hA (i+1) s w ⟨by omega,h2⟩ (by omega)
  have p1_:=hpi
  exact WW
theorem ZhV (l:List OpenR) (g:FuncId) (cap cap':List AV) (hc:Za) (p:OpenR->Bool) (hcap:cap'.all neat=true) (hcr:cap.all (refsLt (hc.length+1))=true) (hhc:hc.all (ABlk.refsLt (hc.length+1))=true) (hfr:∀(f:Nat) (b0:ABlk) (tl:Za),frzs (b0::(hc++tl)) 0 (f+3) cap=some cap')
  (hp:∀x∈l,Zd Tryz.prog g (.agg x.enc::cap') (B (p x))) (hl:l.length<=1000000):XCall Tryz.prog 53 [.own 0 0 0 l.length 17,.fn g cap] (.cells 0 (l.flatMap OpenR.enc)::hc) (.own 0 0 0 (l.filter λx=> !p x).length 17) (.cells 0 ((l.filter λx=> !p x).flatMap OpenR.enc)::hc):=by
 refine XCall.mkG (λs (_:Unit)=>s) (λ_=>false) Tryz.func53 rfl rfl rfl (Ent.mk Tryz.func53 (by kernel_rfl) rfl) (by simp;simpa using hcr) (by simp;simpa using hhc) (by simp) (by simp) (by simp;simpa using hhc) λhfit=> ?_
 refine⟨WkE.one _ _,λ_=> ?_⟩
 have hix:=ZqS l g cap' p hcap hp hl
 have hfz:∀(v:AV) (b0:ABlk) (tl:Za),neat v=true->(([v]++cap).mapM (frz (b0::(hc++tl)) 0 12))=some (v::cap'):=λv b0 tl hv=>by
  have h2:cap.mapM (frz (b0::(hc++tl)) 0 12)=some cap':=hfr 9 b0 tl
  rw[List.singleton_append,List.mapM_cons,Zci _ _ _ hv,h2];rfl
 have hlend:∀{Q:AV->Za->Prop},Q (I (idxS p l)) (.cells 0 (l.flatMap OpenR.enc)::hc)->AInv Tryz.prog (.fn 98 []) [.own 0 0 0 l.length 17,.fn g cap] (.cells 0 (l.flatMap OpenR.enc)::hc) Q:=λhq=>
  AInv.lend hix rfl (by
   have:=hfr 8 (.cells 0 (l.flatMap OpenR.enc)) []
   rw[List.append_nil] at this
   rw[List.append_nil,List.mapM_cons,List.mapM_cons,List.mapM_nil,ZmE,List.getElem?_cons_zero,Zat (by simp) (by simp),Zsq,this]
   rfl) hq
 have hzs:∀x:OpenR,setMany [AV.val (Value.int IntKind.i64 0),AV.val (Value.int IntKind.i64 0),AV.val (Value.int IntKind.i64 0),AV.val (Value.int IntKind.i64 0),AV.val (Value.int IntKind.i64 0),AV.sl true 0 [],AV.val (Value.int IntKind.i64 0),AV.sl true 0 [],AV.val (Value.int IntKind.i64 0),AV.sl true 0 [],AV.val (Value.int IntKind.i64 0),AV.val (Value.int IntKind.i64 0),AV.val (Value.int IntKind.i64 0),AV.val (Value.int IntKind.i64 0),AV.val (Value.string ByteArray.empty),AV.sl true 0 [],AV.val (Value.int IntKind.i64 0)] 0 x.enc=x.enc:=λ_=>rfl
 by_cases h0:idxS p l= -1
 ·obtain⟨e1,_⟩:=Zdp h0
  simp[Tryz.f53]
  have s_:=h0
  try simp[s_]
  repeat' ((first|((first|refine Tp ?_|refine Tn ?_|refine T2 ?_ ?_)<;>intro h_ e_ n_)|(refine hlend ?_;simp[h0])|refine Dg 11 9 [] [] ?_|refine Dg 15 9 [] [] ?_|rw[Ip]|rw[In]|rw[Fz]|rw[Gz]|fail)<;>first|simp[e_,n_,s_]|simp[s_]|skip)
  exact⟨_,Wk.refl _ _,by simp[e1]⟩
 obtain⟨j0,hj0,e1,e2,e3⟩:=Zdq h0
 have hw0:IntKind.i64.wrap ((j0:Int)+1)=(j0:Int)+1:=Zf (by omega) (by omega)
 have hn0:¬((j0:Int)= -1):=by omega
 simp[Tryz.f53]
 have s_:=An @e1 (An @hw0 (@hn0))
 try simp[s_]
 repeat' ((first|((first|refine Tp ?_|refine Tn ?_|refine T2 ?_ ?_)<;>intro h_ e_ n_)|(refine hlend ?_;simp[e1,hw0,hn0])|refine Dg 11 9 [] [] ?_|refine Dg 15 9 [] [] ?_|rw[Ip]|rw[In]|rw[Fz]|rw[Gz]|fail)<;>first|simp[e_,n_,s_]|simp[s_]|skip)
 refine AW.loopG (lit:=λ_=>false) (λx:Nat×Nat×List OpenR=>⟨42,pat [(0,.own 0 0 0 l.length 17),(1,.fn g cap),(5,I x.1),(6,I x.2.1)],.cells 0 (x.2.2.flatMap OpenR.enc)::hc⟩) (λx=>l.length -x.2.1) (λx=>Zem p l x.2.2 x.1 x.2.1) (j0,j0+1,l) ?_ ?_ ?_
 ·exact Wk.at _ rfl rfl (by simp)
 ·exact .start hj0 e2 e3
 rintro⟨i,j,m⟩ hd A hA
 simp only at hd hA
 have hml:=hd.len
 by_cases hj:j<l.length
 case neg=>
  obtain⟨d1,d2,d3⟩:=hd.done hj
  have s_:=An @hj (@hml)
  try simp[s_]
  repeat' ((first|((first|refine Tp ?_|refine Tn ?_|refine T2 ?_ ?_)<;>intro h_ e_ n_)|refine Dg 11 9 [] [] ?_|refine Dg 15 9 [] [] ?_|rw[Ip]|rw[In]|rw[Fz]|rw[Gz]|fail)<;>first|simp[e_,n_,s_]|simp[s_]|skip)
  exact⟨_,Wk.prefix 0 0 (i*17) rfl rfl,by simp[d2],by
   have:(putAt (m.flatMap OpenR.enc) (i*17) (zeros [AV.val (Value.int IntKind.i64 0),AV.val (Value.int IntKind.i64 0),AV.val (Value.int IntKind.i64 0),AV.val (Value.int IntKind.i64 0),AV.val (Value.int IntKind.i64 0),AV.sl true 0 [],AV.val (Value.int IntKind.i64 0),AV.sl true 0 [],AV.val (Value.int IntKind.i64 0),AV.sl true 0 [],AV.val (Value.int IntKind.i64 0),AV.val (Value.int IntKind.i64 0),AV.val (Value.int IntKind.i64 0),AV.val (Value.int IntKind.i64 0),AV.val (Value.string ByteArray.empty),AV.sl true 0 [],AV.val (Value.int IntKind.i64 0)] (l.length -i))).take (i*17)=(m.take i).flatMap OpenR.enc:=by
    rw[<-ZmT]
    unfold putAt
    rw[List.append_assoc,List.take_left' (by simp;omega)]
   simp only[zeros] at this
   simp[this,d1]⟩
 have hmj:=hd.get hj
 have hx:=hp l[j] (List.getElem_mem hj)
 have hw:IntKind.i64.wrap ((j:Int)+1)=((j+1:Nat):Int):=by rw[Zf (by omega) (by omega)];omega
 have hi:=hd.lt
 have hwi:IntKind.i64.wrap ((i:Int)+1)=((i+1:Nat):Int):=by rw[Zf (by omega) (by omega)];omega
 cases hpp:p l[j] with
 |true=>
  rw[hpp] at hx
  have hlx:∀(b0:ABlk) (tl:Za) {Q:AV->Za->Prop},Q (B true) (b0::(hc++tl))->AInv Tryz.prog (.fn g cap) [.agg l[j].enc] (b0::(hc++tl)) Q:=λb0 tl Q hq=>AInv.lend hx rfl (hfz _ b0 tl (by simp)) hq
  have s_:=An @hj (An @hml (An @hzs (An @hw (@hmj))))
  try simp[s_]
  repeat' ((first|((first|refine Tp ?_|refine Tn ?_|refine T2 ?_ ?_)<;>intro h_ e_ n_)|(refine hlx _ _ ?_;simp[hw])|(exact hA (i,j+1,m) _ (Wk.cutAt _ rfl (by simp) (by simp) (by simp;simpa using hhc) (by simp;simpa using hcr)) (hd.skip hj hpp) (by simp only;omega))|refine Dg 11 9 [] [] ?_|refine Dg 15 9 [] [] ?_|rw[Ip]|rw[In]|rw[Fz]|rw[Gz]|fail)<;>first|simp[e_,n_,s_]|simp[s_]|skip)
 |false=>
  rw[hpp] at hx
  have hlx:∀(b0:ABlk) (tl:Za) {Q:AV->Za->Prop},Q (B false) (b0::(hc++tl))->AInv Tryz.prog (.fn g cap) [.agg l[j].enc] (b0::(hc++tl)) Q:=λb0 tl Q hq=>AInv.lend hx rfl (hfz _ b0 tl (by simp)) hq
  have him:i<m.length:=by omega
  have hil:i<l.length:=by omega
  have s_:=An @hj (An @hml (An @hzs (An @hw (An @hwi (An @hmj (An @him (@hil)))))))
  try simp[s_]
  repeat' ((first|((first|refine Tp ?_|refine Tn ?_|refine T2 ?_ ?_)<;>intro h_ e_ n_)|(refine hlx _ _ ?_;simp[hw,hwi,hmj,him,hil])|(exact hA (i+1,j+1,m.set i l[j]) _ (Wk.cutAt _ rfl (by simp) (by simp) (by simp;simpa using hhc) (by simp;simpa using hcr)) (hd.keep hj hpp) (by simp only;omega))|refine Dg 11 9 [] [] ?_|refine Dg 15 9 [] [] ?_|rw[Ip]|rw[In]|rw[Fz]|rw[Gz]|fail)<;>first|simp[e_,n_,s_]|simp[s_]|skip)
theorem encH7 (h:HostR):h.enc=[encL ChainR.enc h.s.l,encL CountR.enc h.s.nexts,I h.s.stamp,encL RowR.enc h.rows,encL OpenR.enc h.opens,I h.now,I h.lease]:=rfl
theorem zeroO:OpenR.zero.enc=[I 0,I 0,I 0,I 0,I 0,.sl false 0 [],I 0,.sl false 0 [],I 0,.sl false 0 [],I 0,I 0,I 0,I 0,S .empty,.sl false 0 [],I 0]:=rfl
@[simp] theorem zsetO (c:OpenR):setMany [AV.val (Value.int IntKind.i64 0),AV.val (Value.int IntKind.i64 0),AV.val (Value.int IntKind.i64 0),AV.val (Value.int IntKind.i64 0),AV.val (Value.int IntKind.i64 0),AV.sl true 0 [],AV.val (Value.int IntKind.i64 0),AV.sl true 0 [],AV.val (Value.int IntKind.i64 0),AV.sl true 0 [],AV.val (Value.int IntKind.i64 0),AV.val (Value.int IntKind.i64 0),AV.val (Value.int IntKind.i64 0),AV.val (Value.int IntKind.i64 0),AV.val (Value.string ByteArray.empty),AV.sl true 0 [],AV.val (Value.int IntKind.i64 0)] 0 c.enc=c.enc:=rfl
theorem ZE (e:Int):Zd Tryz.prog 78 [I e] (.agg (errR e).enc):=by
 refine Pm Tryz.func78 λhfit=> ?_
 simp[Tryz.f78]
 have s_:=An @errR.eq_1 (@ReplyR.enc.eq_1)
 exact WW
abbrev oTup (o:Option OpenR):AV:= .tup [.agg (o.getD .zero).enc,B o.isSome]
theorem ZgF (h:HostR) (c:Int) (hr:Zn OpenR.client h.opens=true) (hl:h.opens.length<=1000000):Zd Tryz.prog 23 [.agg h.enc,I c] (oTup (ZcK h c)):=by
 have h1:=Zpe h.opens c hr hl
 show Zd _ _ _ (oTup (Zaf OpenR.client h.opens c))
 cases hx:Zaf OpenR.client h.opens c with
 |none=>
  rw[hx] at h1
  simp only[Option.isSome_none] at h1
  generalize placeS OpenR.client h.opens c=q at*
  refine Pm Tryz.func23 λhfit=> ?_
  simp[Tryz.f23]
  have s_:=zeroO
  exact WW
 |some o=>
  rw[hx] at h1
  simp only[Option.isSome_some] at h1
  obtain⟨hp,hpx⟩:=Zam OpenR.client hr hx
  generalize placeS OpenR.client h.opens c=q at*
  refine Pm Tryz.func23 λhfit=> ?_
  simp[Tryz.f23]
  have s_:=An @hp (@hpx)
  exact WW
theorem Zpf (h:HostR) (o:OpenR) (hr:Zn OpenR.client h.opens=true) (hl:h.opens.length<=100000):Zd Tryz.prog 176 [.agg h.enc,.agg o.enc] (.agg (withO h o).enc):=by
 have h1:=Zpe h.opens o.client hr (by omega)
 have hpl:=ZcE OpenR.client h.opens o.client
 show Zd _ _ _ (.agg (HostR.enc {h with opens:=putS OpenR.client h.opens o}))
 cases hx:Zaf OpenR.client h.opens o.client with
 |none=>
  rw[hx] at h1
  simp only[Option.isSome_none] at h1
  have hins:=ZqR h.opens (placeS OpenR.client h.opens o.client) o hpl (by omega)
  rw[<-Zkd OpenR.client hr ((ZaS _).1 hx)]
  generalize placeS OpenR.client h.opens o.client=q at*
  refine Pm Tryz.func176 λhfit=> ?_
  simp[Tryz.f176]
  have s_:=encH7
  have f1_:=F0 [] (Zfw h.opens (by omega))
  have f2_:=F0 [3] hins
  exact WW
 |some r=>
  rw[hx] at h1
  simp only[Option.isSome_some] at h1
  obtain⟨hp,hpx⟩:=Zam OpenR.client hr hx
  rw[<-Zkc OpenR.client hr hp (by rw[hpx];exact(ZA _ hx).2)]
  generalize placeS OpenR.client h.opens o.client=q at*
  refine Pm Tryz.func176 λhfit=> ?_
  simp[Tryz.f176]
  have s_:=An @hp (@encH7)
  have f1_:=F0 [] (Zfw h.opens (by omega))
  exact WW
theorem setO_enc (f k:OpenR):setMany f.enc 0 k.enc=k.enc:=by
 have:=Zqc (l:=[f]) (i:=0) (by simp) k
 simpa using this
abbrev uTup (u:OpenR×Bool×Bool):AV:= .tup [.agg u.1.enc,B u.2.1,B u.2.2]
theorem Zfx (h:HostR) (m:MsgR) (hr:Zn OpenR.client h.opens=true) (hl:h.opens.length<=1000000):Zd Tryz.prog 76 [.agg h.enc,.agg m.enc] (uTup (ownMsg h m)):=by
 have h1:=ZgF h m.client hr hl
 unfold ownMsg
 cases hx:ZcK h m.client with
 |none=>
  rw[hx] at h1
  simp only[oTup,Option.getD_none,Option.isSome_none] at h1
  refine Pm Tryz.func76 λhfit=> ?_
  simp[Tryz.f76]
  have s_:=zeroO
  exact WW
 |some o=>
  rw[hx] at h1
  simp only[oTup,Option.getD_some,Option.isSome_some] at h1
  refine Pm Tryz.func76 λhfit=> ?_
  simp[Tryz.f76]
  have s_:=An @isO.eq_1 (An @lateO.eq_1 (@setO_enc))
  exact WW
abbrev ZtS (f:FSR) (m:MI):Za:=[.cells 0 [encL NodeR.enc f.l,I f.next],.map (mKs m) (mVs m),.cells 0 [.mp 1],.cells 0 [.fn 165 [.ptr 0 0 0,.ptr 2 0 0,.ptr 3 0 0]]]
theorem ZtT (f:FSR) (hl:f.l.length<=1000000) (hE:∀n∈f.l,n.l.length<=256):∀(fuel:Nat) (ino:Int) (m:MI) (c:Nat),MOk m c->c+(Zbe (Zm f.l) m+1)*256<=1099511627776->Zbe (Zm f.l) m<fuel->
  Zel Tryz.prog 165 [I ino,.ptr 0 0 0,.ptr 2 0 0,.ptr 3 0 0] (ZtS f m) (.tup []) (ZtS f (Zcu (Zt f.l) fuel ino m)):=by
 intro fuel
 induction fuel with
 |zero=>intro ino m c _ _ h;omega
 |succ fuel ih=>
 intro ino m c hm hc hu
 have hfind:=find_ok f ino hl
 refine Zel.mk' (λ_=>false) Tryz.func165 rfl rfl rfl (Ent.mk Tryz.func165 (by kernel_rfl) rfl) (by simp) (by simp) (by simp) (by simp) (by simp) λhfit=> ?_
 rw[ZdU]
 simp[Tryz.f165]
 generalize hes:(findB f.l ino).1=n at*
 have hkid:Zt f.l ino=n.l.map (·.ino):=by unfold Zt;rw[hes]
 try simp
 repeat' ((first|((first|refine Tp ?_|refine Tn ?_|refine T2 ?_ ?_)<;>intro h_ e_ n_)|refine Pg hfind ?_|rw[Ip]|rw[In]|rw[Fz]|rw[Gz]|fail)<;>first|simp[e_,n_]|simp|skip)
 have hnl:n.l.length<=256:=by
  have:=ZeB hE ino
  rwa[hkid,List.length_map] at this
 refine AW.loopG (lit:=λ_=>false) (λx:Nat×MI×Nat=>⟨37,pat [(1,.ptr 0 0 0),(2,.ptr 2 0 0),(3,.ptr 3 0 0),(16,encL EntryR.enc n.l),(17,I n.l.length),(18,I x.1)],ZtS f x.2.1⟩) (λx=>n.l.length -x.1)
  (λx=>x.1<=n.l.length/\x.2.1=((n.l.take x.1).map (·.ino)).foldl (Zv (Zt f.l) fuel) m/\MOk x.2.1 x.2.2/\x.2.2+Zbe (Zm f.l) x.2.1*256<=c+Zbe (Zm f.l) m*256+x.1/\Zbe (Zm f.l) x.2.1<=Zbe (Zm f.l) m) (0,m,c) ?_ ?_ ?_
 ·exact Wc
 ·exact⟨by simp,by simp,hm,by simp,Nat.le_refl _⟩
 rintro⟨i,m',c'⟩ ⟨g1,g2,g3,g4,g5⟩ A hA
 simp only at g1 g2 g3 g4 g5 hA
 by_cases hi:i<n.l.length
 case neg=>
  have hti:n.l.take i=n.l:=List.take_of_length_le (by omega)
  rw[hti,<-hkid] at g2
  subst g2
  have s_:=An @hi (@PostA_n)
  exact WW
 have hkk:n.l[i].ino∈Zm f.l:=ZaI f.l ino _ (by rw[hkid];exact List.mem_map_of_mem (List.getElem_mem hi))
 have hg0:=g3.nonneg n.l[i].ino
 have hgc:=g3.le n.l[i].ino
 have hw1:IntKind.i64.wrap (getM m' n.l[i].ino+1)=getM m' n.l[i].ino+1:=Zf (by omega) (by omega)
 have hg2:getM (setM m' n.l[i].ino (getM m' n.l[i].ino+1)) n.l[i].ino=getM m' n.l[i].ino+1:=by rw[ZdQ,if_pos rfl]
 have hwi:IntKind.i64.wrap ((i:Int)+1)=((i+1:Nat):Int):=by rw[IntKind.wrap_i64];omega
 have hstep:Zv (Zt f.l) fuel m' n.l[i].ino=((n.l.take (i+1)).map (·.ino)).foldl (Zv (Zt f.l) fuel) m:=by
  rw[List.take_succ_eq_append_getElem hi,List.map_append,List.foldl_append,<-g2];rfl
 obtain⟨s1,c1,o1,b1⟩:=ZmY (ZaI f.l) (ZeB hE) fuel hkk g3
 have hum:=ZbY (U:=Zm f.l) s1
 by_cases h0:getM m' n.l[i].ino=0
 ·have hn:=(g3.zero _).1 h0
  have hui:=ZdV hkk hn
  have hrec:=ih n.l[i].ino (incM m' n.l[i].ino) (c'+1) (g3.inc _) (by omega) (by omega)
  rw[Zv,if_pos h0] at hstep hum o1 b1
  have hinc:setM m' n.l[i].ino 1=incM m' n.l[i].ino:=by rw[incM,h0];rfl
  have hg3:getM (incM m' n.l[i].ino) n.l[i].ino=1:=by rw[incM,ZdQ,if_pos rfl,h0];rfl
  have s_:=An @hi (An @h0 (An @hinc (An @hg3 (@hwi))))
  have q1_:=λs w=>hA (i+1,_,c1) s w ⟨hi,hstep,o1,by simp only;omega,by simp only;omega⟩ (by simp only;omega)
  have f1_:=H0 [0,1,2,3] hrec
  exact WW
 ·rw[Zv,if_neg h0] at hstep hum o1 b1
  have hg3:getM (incM m' n.l[i].ino) n.l[i].ino=getM m' n.l[i].ino+1:=by rw[incM,ZdQ,if_pos rfl]
  obtain⟨m2,hm2⟩:∃m2,m2=incM m' n.l[i].ino:=⟨_,rfl⟩
  have hinc:setM m' n.l[i].ino (getM m' n.l[i].ino+1)=m2:=hm2.symm
  rw[<-hm2] at hstep hum o1 b1 hg3
  have s_:=An @hi (An @h0 (An @hw1 (An @hinc (An @hg3 (@hwi)))))
  have q1_:=λs w=>hA (i+1,_,c1) s w ⟨hi,hstep,o1,by simp only;omega,by simp only;omega⟩ (by simp only;omega)
  exact WW
theorem Zws (f:FSR) (top:Int) (hl:f.l.length<=1000000) (hE:∀n∈f.l,n.l.length<=256):Zd Tryz.prog 119 [encF f,I top] (.fmap (mKs (Zds f.l top)) (mVs (Zds f.l top))):=by
 have hak:=ZbM hE
 have hun:Zbe (Zm f.l) []<=(Zm f.l).length:=List.length_filter_le _ _
 have h1:=ZtT f hl hE ((Zm f.l).length+1) top [] 0 .nil (by omega) (by omega)
 refine Pm Tryz.func119 λhfit=> ?_
 simp[Tryz.f119,FSR.enc]
 have s_:= @FSR.enc.eq_1
 try simp[s_]
 repeat' ((first|((first|refine Tp ?_|refine Tn ?_|refine T2 ?_ ?_)<;>intro h_ e_ n_)|(refine AInv.heap [0,1,2,3] h1 (by simp) (by simp) ?_;simp)|rw[Ip]|rw[In]|rw[Fz]|rw[Gz]|fail)<;>first|simp[e_,n_,s_]|simp[s_]|skip)
 simp[Zds,Function.comp_def]
theorem Zwt (f:FSR) (ino top:Int) (hl:f.l.length<=1000000) (hE:∀n∈f.l,n.l.length<=256):Zd Tryz.prog 321 [encF f,I ino,I top] (B (decide (0<getM (Zds f.l top) ino))):=by
 have hun:=Zws f top hl hE
 refine Pm Tryz.func321 λhfit=> ?_
 simp[Tryz.f321,FSR.enc]
 have s_:= @FSR.enc.eq_1
 have p1_:=hun
 exact WW
theorem bytesS (a b:ByteArray):Lib.compareBytes a.data.toList b.data.toList=cmpS a b:=by
 have key:∀x y:List UInt8,Lib.compareBytes x y=if x=y then 0 else if Op.bytesLess x y=true then-1 else 1:=by
  intro x
  induction x with
  |nil=>intro y;cases y<;>simp[Lib.compareBytes,Op.bytesLess]
  |cons a x ih=>
   intro y
   cases y with
   |nil=>simp[Lib.compareBytes,Op.bytesLess]
   |cons b y=>
    simp only[Lib.compareBytes,Op.bytesLess,ih]
    by_cases h1:a<b
    ·have:¬a=b:=λe=>by subst e;exact absurd h1 (UInt8.lt_irrefl _)
     simp[h1,this]
    ·by_cases h2:b<a
     ·have:¬a=b:=λe=>by subst e;exact absurd h2 (UInt8.lt_irrefl _)
      simp[h1,h2,this]
     ·have:a=b:=by
       by_cases q:a=b
       ·exact q
       ·rcases UInt8.lt_or_lt_of_ne q with q|q
        ·exact absurd q h1
        ·exact absurd q h2
      subst this
      simp[h1]
 rw[key]
 unfold cmpS Zab
 rw[ByteArray.toList_eq,ByteArray.toList_eq]
 have:(a.data.toList=b.data.toList)=(a=b):=by
  apply propext
  constructor
  ·intro h;cases a;cases b;congr 1;exact Array.ext' h
  ·intro h;rw[h]
 simp only[this]
theorem ZtU (a b:ByteArray):Zd Tryz.prog 332 [S a,S b] (I (cmpS a b)):=by
 refine Zd.ofCalls (by simp) rfl (Ent.mk Tryz.func332 (by kernel_rfl) rfl) λZ w cargs hz hr=> ?_
 cases hr with
 |cons h1 h2=>
  cases h2 with
  |cons h2 h3=>
   cases h3
   have hs:=Zae h1 rfl
   have hs2:=Zae h2 rfl
   subst hs hs2
   refine(Tryz.strings_Compare a b w).mono λe w' ⟨he,hw⟩=>⟨?_,by rw[hw];exact .refl _ _⟩
   rw[he,bytesS]
theorem ZhX (x:EntryR) (s:ByteArray):Zd Tryz.prog 331 [.agg x.enc,S s] (I (cmpS x.name s)):=by
 refine Pm Tryz.func331 λhfit=> ?_
 simp[Tryz.f331,EntryR.enc]
 have s_:= @EntryR.enc.eq_1
 have p1_:=ZtU x.name s
 exact WW
theorem ZnM (l:List EntryR) (s:ByteArray) (hl:l.length<=1000000):Zd Tryz.prog 330 [encL EntryR.enc l,S s,.fn 331 []] (.tup [I (bsGo (atE l s) 0 0 l.length),B (decide (bsGo (atE l s) 0 0 l.length<l.length)&&decide (atE l s (bsGo (atE l s) 0 0 l.length)=0))]):=by
 refine Pm Tryz.func330 λhfit=> ?_
 simp at hfit
 simp[Tryz.f330]
 refine AW.loopG (lit:=λ_=>false) (λx:Nat×Nat=>⟨49,pat [(0,encL EntryR.enc l),(1,S s),(2,.fn 331 []),(8,I l.length),(9,I x.1),(10,I x.2)],[]⟩) (λx=>x.2 -x.1) (λx=>x.1<=x.2/\x.2<=l.length/\bsGo (atE l s) 0 x.1 x.2=bsGo (atE l s) 0 0 l.length) (0,l.length) ?_ ?_ ?_
 ·exact Wk.at _ rfl rfl (by simp)
 ·simp
 rintro⟨i,j⟩ ⟨h1,h2,h3⟩ A hA
 simp only at h1 h2 h3
 by_cases h:i<j
 case neg=>
  have hij:i=j:=by omega
  subst hij
  rw[Zdo h] at h3
  by_cases hi:i<l.length
  ·have e1:=ZeD s hi
   have s_:=An @h (An @hi (An (Eq.symm (h3)) (An @EntryR.enc.eq_1 (@e1))))
   have p1_:=ZhX l[i] s
   exact WW
  ·have s_:=An @h (An @hi (Eq.symm (h3)))
   exact WW
 rw[Zdn h] at h3
 have hm:(i+j)/2<l.length:=by omega
 have e1:=ZeD s hm
 have w1:IntKind.i64.wrap ((i:Int)+j)=(i:Int)+j:=Zf (by omega) (by omega)
 have w2:((i:Int)+j)%18446744073709551616=(i:Int)+j:=by omega
 have w3:((i:Int)+j).fdiv 2=(((i+j)/2:Nat):Int):=by rw[Int.fdiv_eq_ediv_of_nonneg _ (by omega)];omega
 have w4:IntKind.i64.wrap (((i+j)/2:Nat):Int)=(((i+j)/2:Nat):Int):=Zf (by omega) (by omega)
 generalize hmm:(i+j)/2=m at*
 have w5:IntKind.i64.wrap ((m:Int)+1)=((m+1:Nat):Int):=by rw[Zf (by omega) (by omega)];omega
 have hk:atE l s m<0\/¬atE l s m<0:=Classical.em _
 rcases hk with hk|hk
 ·rw[if_pos hk] at h3
  rw[e1] at hk
  have s_:=An @h (An @w1 (An @w2 (An @w3 (An @w4 (An @w5 (An @hm (An @EntryR.enc.eq_1 (@hk))))))))
  have q1_:=λs w=>hA (m+1,j) s w ⟨by simp only;omega,h2,h3⟩ (by simp only;omega)
  have p1_:=ZhX l[m] s
  exact WW
 ·rw[if_neg hk] at h3
  rw[e1] at hk
  have s_:=An @h (An @w1 (An @w2 (An @w3 (An @w4 (An @w5 (An @hm (An @EntryR.enc.eq_1 (@hk))))))))
  have q1_:=λs w=>hA (i,m) s w ⟨by simp only;omega,by simp only;omega,h3⟩ (by simp only;omega)
  have p1_:=ZhX l[m] s
  exact WW
theorem Zks (l:List EntryR) (s:ByteArray) (hr:Zai l=true) (hl:l.length<=1000000):Zd Tryz.prog 309 [encL EntryR.enc l,S s] (.tup [I (plE l s),B (findE l s).2]):=by
 have h1:=ZnM l s hl
 rw[bs_plE hr,(ZgC hr s).1] at h1
 refine Pm Tryz.func309 λhfit=> ?_
 simp[Tryz.f309]
 exact WW
theorem ZgG (l:List EntryR) (s:ByteArray) (hr:Zai l=true) (hl:l.length<=1000000):Zd Tryz.prog 263 [encL EntryR.enc l,S s] (.tup [I (findE l s).1,B (findE l s).2]):=by
 have h1:=Zks l s hr hl
 have h2:=(ZgC hr s).2
 rcases findE_cases l s with⟨x,_,_,e⟩|⟨_,e⟩
 ·rw[e] at h1 h2⊢
  obtain⟨hp,e1,e2⟩:=h2 rfl
  simp only at h1 e2⊢
  generalize plE l s=q at*
  rw[e2]
  refine Pm Tryz.func263 λhfit=> ?_
  simp[Tryz.f263]
  have s_:=An @hp (@EntryR.enc.eq_1)
  exact WW
 ·rw[e] at h1⊢
  simp only at h1⊢
  refine Pm Tryz.func263 λhfit=> ?_
  simp[Tryz.f263]
  exact WW
theorem Zrd (l:List EntryR) (i:Nat) (x:EntryR) (hi:i<=l.length) (hl:l.length<=1000000):XCall Tryz.prog 346 [.own 0 0 0 l.length 2,I i,.sl true 1 x.enc] [.cells 0 (l.flatMap EntryR.enc)] (.own 0 1 0 (l.length+1) 2) [.cells 1 ((insL l i x).flatMap EntryR.enc)]:=by
 by_cases hi2:i=l.length
 case pos=>
  subst hi2
  refine XCall.mkG (λs (_:Unit)=>s) (λ_=>false) Tryz.func346 rfl rfl rfl (Ent.mk Tryz.func346 (by kernel_rfl) rfl) (by simp) (by simp) (by simp) (by simp) (by simp) λhfit=> ?_
  refine⟨WkE.one _ _,λ_=> ?_⟩
  simp[Tryz.f346]
  rw[if_pos (by simp only[maxLen];omega)]
  simp
  exact⟨_,Wk.refl _ _,by simp[ZdT]⟩
 have hi3:i<l.length:=by omega
 have hcp:∀cap,l.length<=cap->(l.length*2+(cap*2 -l.length*2))/2=cap:=λcap h=>by omega
 have hw1:IntKind.i64.wrap ((l.length:Int)+1)=((l.length+1:Nat):Int):=by rw[Zf (by omega) (by omega)];omega
 have hw2:IntKind.i64.wrap ((i:Int)+1)=((i+1:Nat):Int):=by rw[Zf (by omega) (by omega)];omega
 have hw3:IntKind.i64.wrap ((l.length:Int)+1 -i)=((l.length+1 -i:Nat):Int):=by rw[Zf (by omega) (by omega)];omega
 have hw4:((i:Int)+((l.length+1 -i:Nat):Int)).toNat=l.length+1:=by omega
 have hm1:min 1 (l.length+1 -i)=1:=by omega
 have hm2:∀cap,l.length<=cap->min (i*2) (l.length*2+(cap*2 -l.length*2))=i*2:=λcap h=>by omega
 have hov:∀(lb:Nat) (h:Za) (y:ABlk) (Q:AV->Za->Prop),h[0]? =some y->(blkCells y).map (·.1)=some 0->Q (B false) h->AInv Tryz.prog (.fn 352 []) [.sl true 1 x.enc,.own 0 0 (i+1) lb 2] h Q:=λlb h y Q hy hv hq=>
  Zbu Tryz.func352 (by kernel_rfl) rfl (by kernel_rfl) rfl rfl (by kernel_rfl) (k:=2) (by kernel_rfl) true 1 _ _ 0 0 (i+1) lb hy hv (by omega) Q hq
 refine XCall.mkG (λs (cap:{cap:Nat//l.length<=cap/\cap<=maxLen})=>Zcd s 0 0 2 (l.flatMap EntryR.enc) cap.1) (λ_=>false) Tryz.func346 rfl rfl rfl (Ent.mk Tryz.func346 (by kernel_rfl) rfl) (by simp) (by simp) (by simp) (by simp) (by simp) λhfit=> ?_
 refine⟨WkE.full (t:=0) (by simp) (by simp) (by omega) (by simp),?_⟩
 rintro⟨cap,hc1,hc2⟩
 have hcp1:=hcp cap hc1
 have hm3:=hm2 cap hc1
 have hi4:¬i=l.length:=by omega
 have hle:i<=l.length:=by omega
 generalize hA:List.replicate (cap*2 -l.length*2) AV.any=A
 have hAl:A.length=cap*2 -l.length*2:=by rw[<-hA];simp
 have hLl:(l.flatMap EntryR.enc).length=l.length*2:=ZdP l
 have hta:(l.flatMap EntryR.enc++A).take (i*2)=(l.flatMap EntryR.enc).take (i*2):=List.take_append_of_le_length (by rw[hLl];omega)
 have hdr:(l.flatMap EntryR.enc).drop (i*2)=(l.drop i).flatMap EntryR.enc:=Zgk l i
 have hq0:(l.flatMap EntryR.enc++A).drop (i*2)=(l.drop i).flatMap EntryR.enc++A:=by rw[List.drop_append_of_le_length (by rw[hLl];omega),hdr]
 have hdl:((l.drop i).flatMap EntryR.enc).length=l.length*2 -i*2:=by rw[ZdP,List.length_drop];omega
 by_cases hr:l.length+1<=cap
 ·have hm4:min (l.length+1 -i) (l.length -i)=l.length -i:=by omega
  have hm5:min ((l.length+1 -i)*2) ((l.length -i)*2+(cap*2 -l.length*2))=(l.length+1 -i)*2:=by omega
  have hm6:min ((l.length+1 -i)*2) (l.length*2+(cap*2 -l.length*2) -i*2)=(l.length+1 -i)*2:=by omega
  have hq1:List.take ((l.length -i)*2) (List.take ((l.length+1 -i)*2) ((l.drop i).flatMap EntryR.enc++A))=(l.drop i).flatMap EntryR.enc:=by
   rw[List.take_take,Nat.min_eq_left (by omega),List.take_left' (by rw[hdl];omega)]
  have hq2:(putAt (l.flatMap EntryR.enc++A) ((i+1)*2) ((l.drop i).flatMap EntryR.enc)).length=cap*2:=by
   rw[ZD (by rw[List.length_append,hLl,hAl,hdl];omega),List.length_append,hLl,hAl];omega
  have hq3:(putAt (putAt (l.flatMap EntryR.enc++A) ((i+1)*2) ((l.drop i).flatMap EntryR.enc)) (i*2) x.enc).take ((l.length+1)*2)=(insL l i x).flatMap EntryR.enc:=by
   have:=ZdR (L:=l.flatMap EntryR.enc) (A:=A) (X:=x.enc) (a:=i*2) (k:=2) hLl (by omega) rfl (by rw[hAl];omega)
   rw[ZiN,hq0,List.take_left' (by rw[hdl])] at this
   rw[show(i+1)*2=i*2+2 by omega,show(l.length+1)*2=l.length*2+2 by omega]
   exact this
  have hone:∀y∈(l.drop i).flatMap EntryR.enc,Zx y=true:=List.all_eq_true.1 (ZfM _)
  simp[Tryz.f346,Zcd,hA]
  have s_:=An @hcp1 (An @hw1 (An @hw2 (An @hw3 (An @hw4 (An @hm1 (An @hm3 (An @hm4 (An @hq0 (An @hq1 (An @hq2 (An @hi3 (An @hi4 (An @hle (@hr))))))))))))))
  try simp[s_]
  repeat' ((first|((first|refine Tp ?_|refine Tn ?_|refine T2 ?_ ?_)<;>intro h_ e_ n_)|(refine hov _ _ _ _ rfl rfl ?_;simp)|(refine optBif ⟨rfl,by rw[List.length_append,hLl,hAl];omega,by rw[List.length_take,List.length_append,hdl,hAl];omega,by rw[hm4,hq1];exact hone⟩ ?_;simp)|refine Dg 11 9 [] [] ?_|refine Dg 15 9 [] [] ?_|rw[Ip]|rw[In]|rw[Fz]|rw[Gz]|fail)<;>first|simp[e_,n_,s_]|simp[s_]|skip)
  exact⟨_,Wk.trans (Wk.prefix 0 0 ((l.length+1)*2) rfl rfl) (Wk.bump 6 0 0 0 (l.length+1) 2 (by simp) rfl),by simp[hq3]⟩
 ·have hm5:min ((l.length -i)*2) ((l.length -i)*2+(cap*2 -l.length*2))=(l.length -i)*2:=by omega
  have hq1:List.take ((l.length -i)*2) (List.take ((l.length -i)*2) ((l.drop i).flatMap EntryR.enc++A))=(l.drop i).flatMap EntryR.enc:=by
   rw[List.take_take,Nat.min_self,List.take_left' (by rw[hdl];omega)]
  have hq4:List.take ((l.length -i)*2) ((l.drop i).flatMap EntryR.enc)=(l.drop i).flatMap EntryR.enc:=List.take_of_length_le (by rw[hdl];omega)
  have hone:∀y∈(l.drop i).flatMap EntryR.enc,Zx y=true:=List.all_eq_true.1 (ZfM _)
  simp[Tryz.f346,Zcd,hA]
  generalize hZ:(List.replicate (l.length+1 -i) [AV.val (Value.string ByteArray.empty),AV.val (Value.int IntKind.i64 0)]).flatten=Z
  have hZl:Z.length=(l.length+1 -i)*2:=by rw[<-hZ];simp
  have hta':((l.flatMap EntryR.enc).take (i*2)).length=i*2:=by rw[List.length_take,hLl];omega
  have hq2:(putAt ((l.flatMap EntryR.enc).take (i*2)++Z) (i*2) x.enc).length=(l.length+1)*2:=by
   rw[ZD (by rw[List.length_append,hta',hZl,ZmO];omega),List.length_append,hta',hZl];omega
  have hq3:putAt (putAt ((l.flatMap EntryR.enc).take (i*2)++Z) (i*2) x.enc) ((i+1)*2) ((l.drop i).flatMap EntryR.enc)=(insL l i x).flatMap EntryR.enc:=by
   have:=ZdS (L:=l.flatMap EntryR.enc) (A:=A) (X:=x.enc) (Z:=Z) (a:=i*2) (k:=2) hLl (by omega) rfl (by rw[hZl];omega)
   rw[ZiN,hta,hq0,List.take_left' (by rw[hdl])] at this
   rw[show(i+1)*2=i*2+2 by omega]
   exact this
  have s_:=An @hcp1 (An @hw1 (An @hw2 (An @hw3 (An @hw4 (An @hm1 (An @hm3 (An @hq0 (An @hq1 (An @hq4 (An @hta (An @hZ (An @hi3 (An @hi4 (An @hle (@hr)))))))))))))))
  try simp[s_]
  repeat' ((first|((first|refine Tp ?_|refine Tn ?_|refine T2 ?_ ?_)<;>intro h_ e_ n_)|(refine optBif ⟨by rw[hq2];omega,hone⟩ ?_;simp)|refine Dg 11 9 [] [] ?_|refine Dg 15 9 [] [] ?_|rw[Ip]|rw[In]|rw[Fz]|rw[Gz]|fail)<;>first|simp[e_,n_,s_]|simp[s_]|skip)
  exact⟨_,Wk.move 6 0 1 0 0 (l.length+1) 2 (by decide) (by simp;omega) rfl rfl rfl,by simp[hq3]⟩
theorem Zre (l:List EntryR) (i:Nat) (hi:i<l.length) (hl:l.length<=1000000):XCall Tryz.prog 340 [.own 0 0 0 l.length 2,I i,I (i+1:Nat)] [.cells 0 (l.flatMap EntryR.enc)] (.own 0 0 0 (l.length -1) 2) [.cells 0 ((l.eraseIdx i).flatMap EntryR.enc)]:=by
 have hLl:(l.flatMap EntryR.enc).length=l.length*2:=ZdP l
 have hdr:(l.flatMap EntryR.enc).drop ((i+1)*2)=(l.drop (i+1)).flatMap EntryR.enc:=Zgk l (i+1)
 have htk:(l.flatMap EntryR.enc).take (i*2)=(l.take i).flatMap EntryR.enc:=ZkZ l i
 have hdl:((l.drop (i+1)).flatMap EntryR.enc).length=(l.length -(i+1))*2:=by rw[ZdP,List.length_drop]
 have hn1:i+(l.length -(i+1))=l.length -1:=by omega
 have hi1:i+1<=l.length:=hi
 have hne:¬(i:Int)=((i+1:Nat):Int):=by omega
 have hone:∀y∈(l.drop (i+1)).flatMap EntryR.enc,Zx y=true:=List.all_eq_true.1 (ZfM _)
 refine XCall.mkG (λs (cap:{cap:Nat//l.length<=cap/\cap<=maxLen})=>Zcd s 0 0 2 (l.flatMap EntryR.enc) cap.1) (λ_=>false) Tryz.func340 rfl rfl rfl (Ent.mk Tryz.func340 (by kernel_rfl) rfl) (by simp) (by simp) (by simp) (by simp) (by simp) λhfit=> ?_
 refine⟨WkE.full (t:=0) (by simp) (by simp) (by omega) (by simp),?_⟩
 rintro⟨cap,hc1,hc2⟩
 generalize hA:List.replicate (cap*2 -l.length*2) AV.any=A
 have hAl:A.length=cap*2 -l.length*2:=by rw[<-hA];simp
 have hq0:List.take ((l.length -(i+1))*2) ((l.flatMap EntryR.enc++A).drop ((i+1)*2))=(l.drop (i+1)).flatMap EntryR.enc:=by
  rw[List.drop_append_of_le_length (by rw[hLl];omega),hdr,List.take_left' (by rw[hdl])]
 have hq3:(putAt (putAt (l.flatMap EntryR.enc++A) (i*2) ((l.drop (i+1)).flatMap EntryR.enc)) ((l.length -1)*2) [AV.val (Value.string ByteArray.empty),AV.val (Value.int IntKind.i64 0)]).take ((l.length -1)*2)=(l.eraseIdx i).flatMap EntryR.enc:=by
  rw[List.eraseIdx_eq_take_drop_succ,List.flatMap_append,<-htk]
  have e1:(l.length -1)*2=i*2+((l.drop (i+1)).flatMap EntryR.enc).length:=by rw[hdl];omega
  simp only[putAt]
  have e2:((l.flatMap EntryR.enc++A).take (i*2)).length=i*2:=by rw[List.length_take,List.length_append,hLl];omega
  have e3:(l.flatMap EntryR.enc++A).take (i*2)=(l.flatMap EntryR.enc).take (i*2):=List.take_append_of_le_length (by rw[hLl];omega)
  have e4:(((l.flatMap EntryR.enc).take (i*2)++(l.drop (i+1)).flatMap EntryR.enc)).length=(l.length -1)*2:=by rw[List.length_append,<-e3,e2];omega
  rw[e3,List.append_assoc _ [AV.val (Value.string ByteArray.empty),AV.val (Value.int IntKind.i64 0)] _,List.take_left' (by rw[List.length_take,List.length_append,e4];omega),List.take_append_of_le_length (by omega),List.take_of_length_le (by omega)]
 have hq2:(putAt (l.flatMap EntryR.enc++A) (i*2) ((l.drop (i+1)).flatMap EntryR.enc)).length=cap*2:=by
  rw[ZD (by rw[List.length_append,hLl,hAl,hdl];omega),List.length_append,hLl,hAl];omega
 have hq4:l.length*2<=cap*2:=by omega
 have hn2:l.length -(l.length -1)=1:=by omega
 have hn3:l.length -1+1=l.length:=by omega
 have hn4:l.length -1<=l.length:=by omega
 simp[Tryz.f340,Zcd,hA]
 have s_:=An @hq0 (An @hn1 (An @hi1 (An @hne (An @hLl (An @hAl (An @hq2 (An @hq4 (An @hn2 (An @hn3 (@hn4))))))))))
 try simp[s_]
 repeat' ((first|((first|refine Tp ?_|refine Tn ?_|refine T2 ?_ ?_)<;>intro h_ e_ n_)|refine Dg 5 7 [0] [] ?_|rw[Ip]|rw[In]|rw[Fz]|rw[Gz]|fail)<;>first|simp[e_,n_,s_]|simp[s_]|skip)
 exact⟨_,Wk.prefix 0 0 ((l.length -1)*2) rfl rfl,by simp[hq3]⟩
theorem Zmg (l:List EntryR) (hl:l.length<=1000000):XCall Tryz.prog 341 [encL EntryR.enc l] [] (.own 0 0 0 l.length 2) [.cells 0 (l.flatMap EntryR.enc)]:=by
 refine XCall.mkE 2 (λ_=>false) Tryz.func341 rfl rfl rfl (Ent.mk Tryz.func341 (by kernel_rfl) rfl) (by simp) (by simp) (by simp) (by simp) (by simp) λhfit=> ?_
 simp at hfit
 simp[Tryz.f341]
 rw[if_pos (by simp only[maxLen];omega)]
 simp
 intro h0
 subst h0
 simp
theorem ZtV {l:List EntryR} (hr:Zai l=true) {s:ByteArray} (hf:(findE l s).2=true):l.eraseIdx (plE l s)=outE l s:=by
 obtain⟨hp,e1,_⟩:=(ZgC hr s).2 hf
 generalize plE l s=q at*
 have hpw:=List.pairwise_iff_getElem.1 ((ZT _).1 hr)
 have ha:(l.take q).filter (λx=> !decide (x.name=s))=l.take q:=List.filter_eq_self.2 λx hx=>by
  obtain⟨j,hj,rfl⟩:=List.getElem_of_mem hx
  rw[List.length_take] at hj
  have:=ZdX (hpw j q (by omega) hp (by omega))
  rw[e1] at this
  simpa using this
 have hb:(l.drop (q+1)).filter (λx=> !decide (x.name=s))=l.drop (q+1):=List.filter_eq_self.2 λx hx=>by
  obtain⟨j,hj,rfl⟩:=List.getElem_of_mem hx
  rw[List.length_drop] at hj
  have:=ZdX (hpw q (q+1+j) hp (by omega) (by omega))
  rw[e1] at this
  simpa using λe=>this e.symm
 have e:l=l.take q++l[q]::l.drop (q+1):=by rw[<-List.drop_eq_getElem_cons hp,List.take_append_drop]
 rw[List.eraseIdx_eq_take_drop_succ,outE]
 conv=>rhs;rw[e]
 rw[List.filter_append,List.filter_cons,ha,hb]
 simp[e1]
theorem Zwu (l:List EntryR) (s:ByteArray) (ino:Int) (hr:Zai l=true) (hl:l.length<=100000):Zd Tryz.prog 338 [encL EntryR.enc l,S s,I ino] (.tup [encL EntryR.enc (enterE l s ino).1,I (enterE l s ino).2]):=by
 have h1:=Zks l s hr (by omega)
 have h2:=check_ok s
 simp only[enterE,Znj]
 have hple:=plE_le l s
 generalize plE l s=q at*
 generalize(findE l s).2=is at*
 refine Pm Tryz.func338 λhfit=> ?_
 simp[Tryz.f338]
 cases hn:nameOk s with
 |false=>
  have hc:checkS s=10:=by simp[checkS,hn]
  rw[hc] at h2
  have s_:=An @hn (@hc)
  exact WW
 |true=>
  have hc:checkS s=0:=by simp[checkS,hn]
  rw[hc] at h2
  by_cases hi:ino<1
  ·have s_:=An @hn (An @hc (@hi))
   exact WW
  cases is with
  |true=>
   have s_:=An @hn (An @hc (@hi))
   exact WW
  |false=>
   by_cases h6:256<=l.length
   ·have h6':(256:Int)<=l.length:=by omega
    have s_:=An @hn (An @hc (An @hi (An @h6 (@h6'))))
    exact WW
   ·have h6':¬(256:Int)<=l.length:=by omega
    have hins:=Zrd l q ⟨s,ino⟩ hple (by omega)
    simp only[EntryR.enc] at hins
    have s_:=An @hn (An @hc (An @hi (An @h6 (An @h6' (@EntryR.enc.eq_1)))))
    have f1_:=F0 [] (Zmg l (by omega))
    have f2_:=F0 [0] hins
    exact WW
theorem Zpi (l:List EntryR) (s:ByteArray) (hr:Zai l=true) (hl:l.length<=100000):Zd Tryz.prog 324 [encL EntryR.enc l,S s] (.tup [encL EntryR.enc (leaveE l s).1,I (leaveE l s).2.1,I (leaveE l s).2.2]):=by
 have h1:=Zks l s hr (by omega)
 have h2:=(ZgC hr s).2
 have h3:= @ZtV l hr s
 simp only[leaveE]
 cases hf:(findE l s).2 with
 |false=>
  rw[hf] at h1
  refine Pm Tryz.func324 λhfit=> ?_
  have d1_:=D0 4 14 [] []
  simp[Tryz.f324]
  exact WW
 |true=>
  rw[hf] at h1
  obtain⟨hp,e1,e2⟩:=h2 hf
  have h3:=h3 hf
  rw[e2,<-h3]
  generalize plE l s=q at*
  have hcut:=Zre l q hp (by omega)
  have hw:IntKind.i64.wrap ((q:Int)+1)=((q+1:Nat):Int):=by rw[Zf (by omega) (by omega)];omega
  refine Pm Tryz.func324 λhfit=> ?_
  simp[Tryz.f324]
  have s_:=An @hp (An @hw (@EntryR.enc.eq_1))
  try simp[s_]
  repeat' ((first|((first|refine Tp ?_|refine Tn ?_|refine T2 ?_ ?_)<;>intro h_ e_ n_)|refine Pg h1 ?_|refine Dg 4 14 [] [(1,.e),(5,.e),(10,.t)] ?_|rw[Ip]|rw[In]|rw[Fz]|rw[Gz]|fail)<;>first|simp[e_,n_,s_]|simp[s_]|skip)
  refine ADcall.fresh [] (Zmg l (by omega)) (by simp) (by simp) ?_
  simp[hw]
  refine ADcall.fresh [0] hcut (by simp) (by simp) ?_
  simp[hp,EntryR.enc]
  rw[Zat (by simp) (by simp[List.length_eraseIdx,hp])]
  simp[List.length_eraseIdx,hp]
end Go.Proofs.YtgpkaoombhobmaaGreat
namespace Go.Proofs.YtgpkaoombhobmaaGreat
open Go.RowKit Go.Shelf
attribute [local go_sem] Oper.semAt_some
abbrev PE:Type:=ByteArray×Int
def ZeL (f:Nat->PE) (k:Nat):List PE:=(List.range k).map f
theorem Zjt (f:Nat->PE) (k:Nat):ZeL f (k+1)=ZeL f k++[f k]:=by simp[ZeL,List.range_succ]
theorem Zmh (f:Nat->PE) (k:Nat):(ZeL f k).length=k:=by simp[ZeL]
set_option maxRecDepth 100000 in
set_option maxHeartbeats 2000000 in
theorem Zwv (F:Fence) (n:Nat) (hf:F.fn 334) (hro:F.round=none) (hn:1<=n) (l Bs n₀ b off len cap:Nat) (zs:List PE) (hlen:len<=1000000) (hb:b<n₀) (hW0:n₀<=0+n₀) (J Jx:List PE->World->Prop)
  (W:World) (hJ:AbidesFrom W.heap.size J) (hn₀:n₀<=W.heap.size)
  (hY:∀pre x W,J pre W->pre.length<len->YieldAt F (n -1) Tryz.prog l #[.string x.1] W λe W'=>
   (e= .returned (.bool true)/\J (pre++[x]) W'/\Below n₀ W W')\/(e= .returned (.bool false)/\Jx (pre++[x]) W'))
  (hBs:W.cell? ⟨Bs,0,none⟩=some (.slice (some ⟨b,off,none⟩) len cap)) (hc0:∀j,j<len->W.cell? ⟨b,off+j*2,none⟩=some (.string (zs[j]?.getD (.empty,0)).1)) (hc1:∀j,j<len->W.cell? ⟨b,off+j*2+1,none⟩=some (.int .i64 (zs[j]?.getD (.empty,0)).2)) (h0:J [] W):
  CallsIn F n Tryz.prog 334 #[.func (.yield l) #[] #[],.pointer (some ⟨Bs,0,none⟩)] W λe W'=>(∃v,e= .returned v)/\
   ((∃ys,ys=ZeL (λj=>zs[j]?.getD (.empty,0)) len/\J ys W')\/(∃pre,(∃k,k<=len/\pre=ZeL (λj=>zs[j]?.getD (.empty,0)) k)/\Jx pre W')):=by
 refine callsIn_of_wp Tryz.func334 rfl hf ?_ hro
 simp only[Tryz.ntmps334,List.size_toArray,List.length_cons,List.length_nil,Nat.reduceAdd,Nat.reduceSub,Array.replicate_succ,Array.replicate_zero,List.push_toArray,List.append_toArray,List.nil_append,List.cons_append]
 gi_wp2
 gi_loopw [7] (λi wr=>∃k:Nat,k<=len/\i= .int .i64 k/\J (ZeL (λj=>zs[j]?.getD (.empty,0)) k) wr/\Below n₀ W wr)
  (λi _=>len -(intOf i).toNat)
 case atStart=>exact⟨0,Nat.zero_le _,rfl,h0,Below.refl _ _⟩
 case round=>
  obtain⟨k,hk,rfl,hJs,hnx⟩:=hrel
  by_cases hlt:k<len
  ·have hcx0:wr.cell? ⟨b,off+k*2,none⟩=some (.string (zs[k]?.getD (.empty,0)).1):=(hnx.cell (p:=⟨b,off+k*2,none⟩) hb).trans (hc0 k hlt)
   have hcx1:wr.cell? ⟨b,off+k*2+1,none⟩=some (.int .i64 (zs[k]?.getD (.empty,0)).2):=(hnx.cell (p:=⟨b,off+k*2+1,none⟩) hb).trans (hc1 k hlt)
   have hJ2:=hJ _ wr (wr.alloc (.cells #[.string (zs[k]?.getD (.empty,0)).1,.int .i64 (zs[k]?.getD (.empty,0)).2] 141)) none hJs (World.grownBy_alloc wr _ none) (λr e=>by cases e)
   have hsz:n₀<=wr.heap.size:=Nat.le_trans hn₀ hnx.size
   have hB2:=(Below.refl n₀ wr).alloc hsz (.cells #[.string (zs[k]?.getD (.empty,0)).1,.int .i64 (zs[k]?.getD (.empty,0)).2] 141)
   obtain⟨fn,tmps,assign,body,hy,hR⟩:=hY _ (zs[k]?.getD (.empty,0)) _ hJ2 (by rw[Zmh];exact hlt)
   gi_wp2
   refine hR.mono ?_
   rintro e W3 (⟨rfl,hJ3,hk3⟩|⟨rfl,hJx3⟩)
   ·gi_wp2
    go_roundw
    case rel=>exact⟨k+1,by omega,by simp,by rw[Zjt];exact hJ3,hnx.trans (hB2.trans hk3)⟩
    case measure=>simp[intOf];omega
   ·gi_wp2
    refine bodyPost_ret (results_none rfl _ _ _) rfl ?_
    exact⟨⟨_,rfl⟩,.inr ⟨_,⟨k+1,by omega,(Zjt _ _).symm⟩,hJx3⟩⟩
  ·obtain rfl:k=len:=by omega
   gi_wp2
   go_end0
   exact⟨⟨_,rfl⟩,.inl ⟨_,rfl,hJs⟩⟩
set_option maxRecDepth 100000 in
set_option maxHeartbeats 1000000 in
theorem Zmi (F:Fence) (n:Nat) (hf:F.fn 334) (hro:F.round=none) (l Bs:Nat) (A:Option Addr) (cap:Nat) (J:List PE->World->Prop) (W:World) (hBs:W.cell? ⟨Bs,0,none⟩=some (.slice A 0 cap)) (h0:J [] W):
  CallsIn F n Tryz.prog 334 #[.func (.yield l) #[] #[],.pointer (some ⟨Bs,0,none⟩)] W λe W'=>(∃v,e= .returned v)/\J [] W':=by
 refine callsIn_of_wp Tryz.func334 rfl hf ?_ hro
 simp only[Tryz.ntmps334,List.size_toArray,List.length_cons,List.length_nil,Nat.reduceAdd,Nat.reduceSub,Array.replicate_succ,Array.replicate_zero,List.push_toArray,List.append_toArray,List.nil_append,List.cons_append]
 gi_wp2
 gi_loopw [7] (λi wr=>i= .int .i64 0/\J [] wr) (λ_ _=>0)
 case atStart=>exact⟨rfl,h0⟩
 case round=>
  obtain⟨rfl,hJs⟩:=hrel
  gi_wp2
  go_end0
  exact⟨⟨_,rfl⟩,hJs⟩
set_option maxHeartbeats 1000000 in
theorem told_in (F:Fence) (n:Nat) (hf:F.fn 314) (hro:F.round=none) (a:Option Addr) (len cap:Nat) (w:World):
  CallsIn F n Tryz.prog 314 #[.slice a len cap] w λe w'=>e= .returned (.func (.func 334) #[] #[.pointer (some ⟨w.heap.size,0,none⟩)])/\w'=w.alloc (.cells #[.slice a len cap] 97):=by
 refine callsIn_of_wp Tryz.func314 rfl hf ?_ hro
 simp only[Tryz.ntmps314,List.size_toArray,List.length_cons,List.length_nil,Nat.reduceAdd,Nat.reduceSub,Array.replicate_succ,Array.replicate_zero,List.push_toArray,List.append_toArray,List.nil_append,List.cons_append]
 gi_wp2
 go_ret
 exact⟨rfl,rfl⟩
theorem ZtW (zs:List PE):ZeL (λj=>zs[j]?.getD (.empty,0)) zs.length=zs:=by
 apply List.ext_getElem
 ·simp[ZeL]
 ·intro i h1 h2
  simp[ZeL,h2]
theorem Zrf (zs:List PE) {k:Nat} (hk:k<=zs.length):ZeL (λj=>zs[j]?.getD (.empty,0)) k=zs.take k:=by
 apply List.ext_getElem
 ·simp[ZeL,hk]
 ·intro i h1 h2
  have:i<zs.length:=by simp[ZeL] at h1;omega
  simp[ZeL,this]
def Zju (n₀:Nat) (W:World) (sv:Value) (zs:List PE):Prop:=
 (∃A cap,sv= .slice A 0 cap/\zs=[])\/∃b off cap,sv= .slice (some ⟨b,off,none⟩) zs.length cap/\b<n₀/\(∀j,j<zs.length->W.cell? ⟨b,off+j*2,none⟩=some (.string (zs[j]?.getD (.empty,0)).1))/\∀j,j<zs.length->W.cell? ⟨b,off+j*2+1,none⟩=some (.int .i64 (zs[j]?.getD (.empty,0)).2)
theorem Zju.below {n₀:Nat} {A B:World} (h:Below n₀ A B) {sv:Value} {zs:List PE}:Zju n₀ A sv zs->Zju n₀ B sv zs
 | .inl e=> .inl e
 | .inr ⟨b,off,cap,e,hb,hc,hd⟩=> .inr ⟨b,off,cap,e,hb,λj hj=>(h.cell (p:=⟨b,off+j*2,none⟩) hb).trans (hc j hj),λj hj=>(h.cell (p:=⟨b,off+j*2+1,none⟩) hb).trans (hd j hj)⟩
theorem Zrg (F:Fence) (n:Nat) (hf:F.fn 334) (hro:F.round=none) (hn:1<=n) (Bs n₀:Nat) (sv:Value) (zs:List PE) (hlen:zs.length<=1000000) (w:World) (hBs:Bs<w.heap.size) (hn₀:n₀<=w.heap.size)
  (hc:w.cell? ⟨Bs,0,none⟩=some sv) (hI:Zju n₀ w sv zs):
  SeqStopsK F n Tryz.prog 334 #[.pointer (some ⟨Bs,0,none⟩)] (λx:PE=> #[Value.string x.1]) (Below n₀) (λys=>ys=zs) (λpre=>pre<+:zs) zs.length w:=λl J Jx W hW hJ _ hY h0=>by
 have hc':=(hW.cell (p:=⟨Bs,0,none⟩) hBs).trans hc
 rcases hI.below (hW.mono hn₀) with⟨A,cap,rfl,rfl⟩|⟨b,off,cap,rfl,hb,hcs,hds⟩
 ·exact(Zmi F n hf hro l Bs A cap J W hc' h0).mono λe W' ⟨he,hj⟩=>⟨he,.inl ⟨_,rfl,hj⟩⟩
 ·refine(Zwv F n hf hro hn l Bs n₀ b off zs.length cap zs hlen hb (by omega) J Jx W hJ (Nat.le_trans hn₀ hW.size) hY hc' hcs hds h0).mono ?_
  rintro e W' ⟨he,⟨ys,rfl,hj⟩|⟨pre,⟨k,hk,rfl⟩,hj⟩⟩
  ·exact⟨he,.inl ⟨_,ZtW zs,hj⟩⟩
  ·exact⟨he,.inr ⟨_,by rw[Zrf zs hk];exact List.take_prefix _ _,hj⟩⟩
theorem infoS:(Tryz.prog.info? 9).map (λi=>(i.zero,i.size,i.bytes))=some (some (.string .empty),1,16):=by kernel_rfl
set_option maxRecDepth 100000 in
set_option maxHeartbeats 2000000 in
theorem Zww (F:Fence) (n:Nat) (h3:F.fn 275) (h4:F.fn 314) (h5:F.fn 334) (hro:F.round=none) (hn:3<=n) (A:Option Addr) (cap:Nat) (zs:List PE) (hlen:zs.length<=1000000) (w:World) (hL:Zju w.heap.size w (.slice A zs.length cap) zs):
  CallsIn F n Tryz.prog 275 #[.slice A zs.length cap] w λe W'=>∃v,e= .returned v/\W'.ownsRow w.heap.size 9 1 v zs.length (zs.map λx=>Value.string x.1)/\Below w.heap.size w W':=by
 have h1:1<=n:=by omega
 obtain⟨i0,hi,hz0,hz1,hz2⟩:=info_parts infoS
 refine callsIn_of_wp_marks Tryz.func275 rfl h3 ?_ hro
 simp only[Tryz.ntmps275,List.size_toArray,List.length_cons,List.length_nil,Nat.reduceAdd,Nat.reduceSub,Array.replicate_succ,Array.replicate_zero,List.push_toArray,List.append_toArray,List.nil_append,List.cons_append]
 gi_wp2_with (gi_at_call 314;refine(told_in F (n -1) h4 hro _ _ _ _).mono ?_;rintro e w' ⟨rfl,rfl⟩)
 have bO:=Boxed.new w 39 (.slice none 0 0)
 have bN:=Boxed.new (w.alloc (.cells #[.slice none 0 0] 39)) 97 (.slice A zs.length cap)
 rw[World.size_alloc] at bN
 have hB0:Below w.heap.size w ((w.alloc (.cells #[.slice none 0 0] 39)).alloc (.cells #[.slice A zs.length cap] 97)):=((Below.refl _ w).alloc (Nat.le_refl _) _).alloc (by simp) _
 refine wpIn_rangeFunc_ownG hro h1 (gf:=334) (lb:= #[.pointer (some ⟨w.heap.size+1,0,none⟩)]) rfl h5 (enters_of Tryz.func334 (by kernel_rfl) rfl)
  (Zrg F (n -1) h5 hro (by omega) (w.heap.size+1) w.heap.size (.slice A zs.length cap) zs hlen _ (by simp) (by simp;omega) bN.cell (hL.below hB0)) belowK_t (belowK_b (by simp;omega)) (Below.refl _ _) (λ_=>rfl)
  (λpre W=>(∃v,Boxed W w.heap.size 39 v/\W.ownsRow w.heap.size 9 1 v pre.length (pre.map λx=>Value.string x.1)/\True)/\Below w.heap.size w W)
  (λ_ _ _=>False)
  (OwnFrom.and (Own.from (holdsRow_own w.heap.size w.heap.size 39 9 1 (λpre:List PE=>pre.length) (λpre=>pre.map λx=>Value.string x.1) (λpre v=>True)) _) (ownFrom_below (Nat.le_refl _) (by simp;omega)))
  (λ_ _ _ _ _ hs _ _=>hs)
  ⟨⟨_,bO.alloc _,World.ownsRow_nil _ _ _ _,trivial⟩,hB0⟩
  (λx=>{tmps:= #[.slice A zs.length cap,undef,.slice none 0 0,.pointer (some ⟨w.heap.size,0,none⟩),.string x.1,.slice A zs.length cap,.func (.func 334) #[] #[.pointer (some ⟨w.heap.size+1,0,none⟩)],.string x.1,undef,undef,undef,undef,undef],defers:=[]}) ?assign ?body ?done ?stop
 case assign=>
  intro l x W K hK
  gi_wp2
  exact hK
 case body=>
  rintro l pre x W ⟨⟨v,hv,hrow,_⟩,hB⟩ hlt
  have hc:=hv.cell
  have hmx:zs.length<=maxLen:=by simp only[maxLen];omega
  gi_wp2_with (gi_at_builtin;refine wpListIn_append_own _ rfl _ _ 39 rfl w.heap.size 9 i0 (.string .empty) 1 16 Tryz.underlying39 hi hz0 hz1 hz2 rfl (by decide) _ _ _ rfl (hrow.alloc _) ⟨W.heap.size,0,none⟩ 1 1 [.string x.1] rfl rfl (cell_one_new _ _ _) (by simp[Value.oneCell']) (by omega) (by omega) (by have:=hB.size;simp;omega) ?_;intro v' w1 hown' hgrow _;obtain⟨g',cap',rfl⟩:=ownsRow_succ hown';obtain⟨hv1,hv2,hr2,hk2,hb2⟩:=hv.appended (by decide) hrow hB.size (Nat.le_refl _) hown' hgrow;have hc1:=hv1.cell;have hf1:=hv1.frozen)
  exact⟨hk2.from _,hb2,⟨_,hv2,by simpa using hr2,trivial⟩,hB.trans hb2⟩
 case done=>
  rintro D ys W hD rfl ⟨⟨v,hv,hrow,_⟩,hB⟩ hK
  have hc:=hv.cell
  gi_wp2
  refine⟨by simp,.inl ⟨_,_,rfl,run_takeDeferred hK,?_⟩⟩
  exact⟨_,results_tmp rfl _ _ _,v,rfl,ownsRow_putObj hrow _ hK rfl,hB.trans (belowK_b (w:=w) (Nat.le_refl _) W D _ _ (by simp at hD;omega) hK rfl rfl)⟩
 case stop=>
  rintro D c pre W _ _ h _
  exact h.elim
open Go.Cx in
theorem Zjv {Z:Nat->Prop} {w:World} {κ:Nat->Slot}:∀{l:List EntryR} {us:List Value},Rs Z w κ (l.flatMap EntryR.enc) us->us=l.flatMap λx=>[Value.string x.name,.int .i64 x.ino]
 |[],_,.nil=>rfl
 |x::l,_,h=>by
  simp only[List.flatMap_cons,EntryR.enc,List.cons_append,List.nil_append] at h⊢
  cases h with
  |cons h1 h2=>
   cases h2 with
   |cons h2 h3=>
    cases h1 with
    |val _=>
     cases h2 with
     |val _=>rw[Zjv h3]
open Go.Cx in
theorem ZtX {Z:Nat->Prop} {w:World} {κ:Nat->Slot}:∀l:List EntryR,Rs Z w κ ((l.map (·.name)).map S) (l.map λx=>Value.string x.name)
 |[]=> .nil
 |x::l=> .cons (.val rfl) (ZtX l)
open Go.Cx in
theorem flat2 (l:List EntryR):∀(j:Nat),(h:j<l.length)->(l.flatMap λx=>[Value.string x.name,.int .i64 x.ino])[j*2]? =some (.string l[j].name)/\(l.flatMap λx=>[Value.string x.name,.int .i64 x.ino])[j*2+1]? =some (.int .i64 l[j].ino):=by
 induction l with
 |nil=>intro j h;simp at h
 |cons x l ih=>
  intro j h
  cases j with
  |zero=>simp
  |succ j=>
   have:=ih j (by simpa using h)
   simp only[List.flatMap_cons,List.getElem_cons_succ]
   rw[show(j+1)*2=2+j*2 by omega,show 2+j*2+1=2+(j*2+1) by omega]
   constructor
   ·rw[List.getElem?_append_right (by simp)];simpa using this.1
   ·rw[List.getElem?_append_right (by simp)];simpa using this.2
open Go.Cx in
theorem Zwx (l:List EntryR) (hl:l.length<=1000000):Zd Tryz.prog 275 [encL EntryR.enc l] (enc1 S (l.map (·.name))):=by
 refine⟨by simp,by simp,Ent.mk Tryz.func275 (by kernel_rfl) rfl,λZ κ w cargs r hr=> ?_⟩
 cases hr with
 |cons h1 h2=>
 cases h2
 have na:∀b,¬ZQ κ b:=λb ⟨id,ver,sz,hk⟩=>by rw[r.hole id (Nat.zero_le _)] at hk;cases hk
 let zs:List PE:=l.map λx=>(x.name,x.ino)
 have hzl:zs.length=l.length:=by simp[zs]
 have hzm:zs.map (λx=>Value.string x.1)=l.map λx=>Value.string x.name:=by simp[zs,Function.comp_def]
 have main:∀(A:Option Addr) (cap:Nat) (c:Value),c= .slice A l.length cap->Zju w.heap.size w c zs->Calls Tryz.prog 275 [c].toArray w (λe w'=>∃v h' Z' κ' c,(v=enc1 S (l.map (·.name))/\h'=[])/\e= .returned c/\Rel Z' κ' h' w'/\R Z' w' κ' v c/\Ext Z κ w Z' κ' w'/\ZU 0 κ κ'):=by
  rintro A cap c rfl hE
  rw[<-hzl] at hE⊢
  refine(callsIn_wide.1 (Zww Fence.wide 3 trivial trivial trivial rfl (by omega) A cap zs (by omega) w hE)).mono ?_
  rintro e w' ⟨v,rfl,⟨hx1,hown⟩,b⟩
  have ex:∀Z',(∀b,Z b->Z' b)->(∀b,Z' b->Z b\/ZQ κ b\/w.heap.size<=b)->Ext Z κ w Z' κ w':=λZ' h1 h2=>⟨b.os,b.tape,b.output,b.size,λk hk _=>b.block k hk,h1,h2,λ_ h=> .inl h⟩
  rcases hown with⟨rfl,h0⟩|⟨g,cap',cur,rfl,hg,hgb,hnc,hcm,hcs,htk⟩
  ·have hl0:l=[]:=List.eq_nil_of_length_eq_zero (by omega)
   subst hl0
   exact⟨_,_,Z,κ,_,⟨rfl,rfl⟩,rfl,⟨λb' hb=>Nat.lt_of_lt_of_le (r.zlt b' hb) b.size,r.za,r.hole,λid x hx=>by simp at hx,r.inj⟩,.sl0 (by simp) (by simp[maxLen]),ex Z (λ_ h=>h) (λ_ h=> .inl h),.refl _ _⟩
  ·have hglt:=(Array.getElem?_eq_some_iff.1 hgb).1
   rw[hzm] at htk hx1
   refine⟨_,_,λb=>Z b\/b=g,κ,_,⟨rfl,rfl⟩,rfl,⟨λb' hb=> ?_,λb' _=>na b',r.hole,λid x hx=>by simp at hx,r.inj⟩,?_,ex _ (λ_ h=> .inl h) (λb' h=>h.imp id λe=> .inr (by omega)),.refl _ _⟩
   ·rcases hb with hb|rfl
    ·exact Nat.lt_of_lt_of_le (r.zlt b' hb) b.size
    ·exact hglt
   ·have hlen1:(l.map (·.name)).length=zs.length:=by simp[hzl]
    simp only[enc1,hlen1]
    rcases Nat.eq_zero_or_pos zs.length with h0|h0
    ·have hl0:l=[]:=List.eq_nil_of_length_eq_zero (by omega)
     subst hl0
     exact .sl0 (by simp) hcm
    ·refine .sl h0 hnc (by simp) hcm (.inr rfl) (λj u hj=> ?_) (ZtX l)
     rw[ZaP,Nat.zero_add]
     have hjl:j<l.length:=by have:=(List.getElem?_eq_some_iff.1 hj).1;simpa using this
     rw[<-htk] at hj
     rw[List.getElem?_take_of_lt (by omega)] at hj
     simp only[World.cell?,hgb]
     simpa using hj
 rcases R.sl_inv h1 with⟨h0,hcs,A,cap,rfl⟩|⟨h0,a,cap,us,rfl,hnc,hcm,hz,hat,hus⟩
 ·have hl0:l=[]:=List.eq_nil_of_length_eq_zero h0
  subst hl0
  exact main A cap _ rfl (.inl ⟨A,cap,rfl,rfl⟩)
 ·have hus:=Zjv hus
  subst hus
  have hsp:a.spot=none:=ZkW (w:=w) (v:= .string l[0].name) (by
   have:=hat 0 (.string l[0].name) (by have:=(flat2 l 0 h0).1;simpa using this)
   have e0:a.add 0=a:=by simp[Addr.add]
   rwa[e0] at this)
  obtain⟨b,off,sp⟩:=a
  simp only at hsp
  subst hsp
  have hget:∀j (h:j<l.length),zs[j]?.getD (.empty,0)=(l[j].name,l[j].ino):=λj h=>by simp[zs,h]
  refine main _ cap _ rfl (.inr ⟨b,off,cap,by rw[hzl],r.zlt b hz,λj hj=> ?_,λj hj=> ?_⟩)
  ·have hj':j<l.length:=by omega
   have:=hat (j*2) (.string l[j].name) (flat2 l j hj').1
   rw[ZaP] at this
   rw[hget j hj'];exact this
  ·have hj':j<l.length:=by omega
   have:=hat (j*2+1) (.int .i64 l[j].ino) (flat2 l j hj').2
   rw[ZaP] at this
   rw[hget j hj'];exact this
end Go.Proofs.YtgpkaoombhobmaaGreat
