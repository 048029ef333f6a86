import Derived.Test.YtgpkaoombhobmaaGreatChecked
import Derived.Test.YtgpkaoombhobmaaGreatZTab
import Derived.Test.YtgpkaoombhobmaaGreatZShelf
import Derived.Test.YtgpkaoombhobmaaGreatZBe
import Derived.Test.YtgpkaoombhobmaaGreatZP2
import Derived.Test.YtgpkaoombhobmaaGreatZP1
import Derived.Test.YtgpkaoombhobmaaGreatZBd
set_option linter.unusedVariables false
set_option linter.unusedSimpArgs false
namespace Go.Proofs.YtgpkaoombhobmaaGreat
open Go.Cx Tab
set_option maxHeartbeats 400000
set_option maxRecDepth 40000
instance:Mix Tryz.prog:=⟨Tryz.checked.mixed⟩
theorem indexByte_ok (s:ByteArray) (c:Nat) (hc:c<256):Zd Tryz.prog 260 [S s,Y8 c] (I (Lib.indexByte s.data.toList (UInt8.ofNat c))):=by
 refine Zd.ofCalls (by simp) rfl (Ent.mk Tryz.func260 (by kernel_rfl) rfl) fun Z w cargs hz hr=> ?_
 cases hr with
 |cons h1 h2=>
  cases h2 with
  |cons h2 h3=>
   cases h3
   have hs:=Zab h1 rfl
   have hs2:=Zab h2 rfl
   subst hs hs2
   refine(Tryz.strings_IndexByte s c w).mono fun e w' ⟨he,hw⟩=>⟨?_,by rw[hw];exact .refl _ _⟩
   rw[he]
   have:((c:Int).toNat.toUInt8)=UInt8.ofNat c:=by simp
   rw[this]
theorem check_ok (s:ByteArray):Zd Tryz.prog 230 [S s] (I (checkS s)):=by
 refine Pm Tryz.func230 fun hfit=> ?_
 have e1:=ZfV s.data.toList 47
 have e2:=ZfV s.data.toList 0
 cases hn:nameOk s with
 |true=>
  obtain⟨⟨h1,h2⟩,h3,h4,h5,h6,h7⟩:=ZjJ hn
  have h2':=Nat.not_lt.2 h2
  have h5':¬s={data:= #[]}:=h5
  rw[h6] at e1
  rw[h7] at e2
  simp[Tryz.f230,checkS,hn,h3,h4,h5']
  have s_:=An @e1 (An @e2 (@h2'))
  try simp[s_]
  repeat' ((first|((first|refine Tp ?_|refine Tn ?_|refine T2 ?_ ?_)<;>intro h_ e_ n_)|refine Pg (indexByte_ok s 47 (by omega)) ?_|refine Pg (indexByte_ok s 0 (by omega)) ?_|rw[Ip]|rw[In]|rw[Fz]|rw[Gz]|fail)<;>first|simp[e_,n_,s_]|simp[s_]|skip)
 |false=>
  simp[Tryz.f230,checkS,hn]
  rcases name_no hn with h|h|h|h|h|h
  ·have h:s={data:= #[]}:=h
   have s_:=h
   try simp[s_]
   repeat' ((first|((first|refine Tp ?_|refine Tn ?_|refine T2 ?_ ?_)<;>intro h_ e_ n_)|rw[Ip]|rw[In]|rw[Fz]|rw[Gz]|fail)<;>first|simp[e_,n_,s_]|simp[s_]|skip)
  ·have s_:=h
   try simp[s_]
   repeat' ((first|((first|refine Tp ?_|refine Tn ?_|refine T2 ?_ ?_)<;>intro h_ e_ n_)|refine Pg (indexByte_ok s 47 (by omega)) ?_|refine Pg (indexByte_ok s 0 (by omega)) ?_|rw[Ip]|rw[In]|rw[Fz]|rw[Gz]|fail)<;>first|simp[e_,n_,s_]|simp[s_]|skip)
  ·have s_:=h
   try simp[s_]
   repeat' ((first|((first|refine Tp ?_|refine Tn ?_|refine T2 ?_ ?_)<;>intro h_ e_ n_)|refine Pg (indexByte_ok s 47 (by omega)) ?_|refine Pg (indexByte_ok s 0 (by omega)) ?_|rw[Ip]|rw[In]|rw[Fz]|rw[Gz]|fail)<;>first|simp[e_,n_,s_]|simp[s_]|skip)
  ·have s_:=h
   try simp[s_]
   repeat' ((first|((first|refine Tp ?_|refine Tn ?_|refine T2 ?_ ?_)<;>intro h_ e_ n_)|refine Pg (indexByte_ok s 47 (by omega)) ?_|refine Pg (indexByte_ok s 0 (by omega)) ?_|rw[Ip]|rw[In]|rw[Fz]|rw[Gz]|fail)<;>first|simp[e_,n_,s_]|simp[s_]|skip)
  ·rw[h] at e1
   have s_:=e1
   try simp[s_]
   repeat' ((first|((first|refine Tp ?_|refine Tn ?_|refine T2 ?_ ?_)<;>intro h_ e_ n_)|refine Pg (indexByte_ok s 47 (by omega)) ?_|refine Pg (indexByte_ok s 0 (by omega)) ?_|rw[Ip]|rw[In]|rw[Fz]|rw[Gz]|fail)<;>first|simp[e_,n_,s_]|simp[s_]|skip)
  ·rw[h] at e2
   have s_:=e2
   try simp[s_]
   repeat' ((first|((first|refine Tp ?_|refine Tn ?_|refine T2 ?_ ?_)<;>intro h_ e_ n_)|refine Pg (indexByte_ok s 47 (by omega)) ?_|refine Pg (indexByte_ok s 0 (by omega)) ?_|rw[Ip]|rw[In]|rw[Fz]|rw[Gz]|fail)<;>first|simp[e_,n_,s_]|simp[s_]|skip)
theorem rcheck_ok (s:ByteArray):Zd Tryz.prog 214 [S s] (I (checkS s)):=by
 refine Pm Tryz.func214 fun hfit=> ?_
 simp at hfit
 simp[Tryz.f214,checkS]
 by_cases h1:s= .empty
 ·have hn:nameOk .empty=false:=rfl
  subst h1
  have s_:=hn
  try simp[s_]
  repeat' ((first|((first|refine Tp ?_|refine Tn ?_|refine T2 ?_ ?_)<;>intro h_ e_ n_)|rw[Ip]|rw[In]|rw[Fz]|rw[Gz]|fail)<;>first|simp[e_,n_,s_]|simp[s_]|skip)
 by_cases h2:32<s.size
 ·have hn:nameOk s=false:=by simp[nameOk,Nat.not_le.2 h2]
  have s_:=An @h1 (An @h2 (@hn))
  try simp[s_]
  repeat' ((first|((first|refine Tp ?_|refine Tn ?_|refine T2 ?_ ?_)<;>intro h_ e_ n_)|rw[Ip]|rw[In]|rw[Fz]|rw[Gz]|fail)<;>first|simp[e_,n_,s_]|simp[s_]|skip)
 by_cases h3:s={data:= #[46]}
 ·have hn:nameOk s=false:=by rw[h3];simp[nameOk]
  rw[hn]
  have s_:=An @h1 (An @h2 (@h3))
  try simp[s_]
  repeat' ((first|((first|refine Tp ?_|refine Tn ?_|refine T2 ?_ ?_)<;>intro h_ e_ n_)|rw[Ip]|rw[In]|rw[Fz]|rw[Gz]|fail)<;>first|simp[e_,n_,s_]|simp[s_]|skip)
 by_cases h4:s={data:= #[46,46]}
 ·have hn:nameOk s=false:=by rw[h4];simp[nameOk]
  rw[hn]
  have s_:=An @h1 (An @h2 (An @h3 (@h4)))
  try simp[s_]
  repeat' ((first|((first|refine Tp ?_|refine Tn ?_|refine T2 ?_ ?_)<;>intro h_ e_ n_)|rw[Ip]|rw[In]|rw[Fz]|rw[Gz]|fail)<;>first|simp[e_,n_,s_]|simp[s_]|skip)
 simp[h1,h2,h3,h4]
 refine AW.loopG (lit:=fun _=>false) (fun i:Nat=>⟨36,pat [(0,S s),(3,I i)],[]⟩) (fun i=>s.size -i) (fun i=>i≤s.size∧∀j,j<i→Zeg s j≠47∧Zeg s j≠0) 0 ?_ ?_ ?_
 ·exact Wk.at _ rfl rfl (by simp)
 ·simp
 rintro i ⟨h5,h6⟩ A hA
 by_cases hi:i<s.size
 case neg=>
  have hn:nameOk s=true:=by
   cases hx:nameOk s with
   |true=>rfl
   |false=>
    rcases name_no hx with h|h|h|h|h|h
    ·exact absurd h h1
    ·exact absurd h h2
    ·exact absurd h h3
    ·exact absurd h h4
    ·obtain⟨j,hj,e⟩:=(ZbF s 47).1 h
     exact absurd e (h6 j (by omega)).1
    ·obtain⟨j,hj,e⟩:=(ZbF s 0).1 h
     exact absurd e (h6 j (by omega)).2
  have s_:=hn
  try simp[s_]
  repeat' ((first|((first|refine Tp ?_|refine Tn ?_|refine T2 ?_ ?_)<;>intro h_ e_ n_)|rw[Ip]|rw[In]|rw[Fz]|rw[Gz]|fail)<;>first|simp[e_,n_,s_]|simp[s_]|skip)
 have hw2:IntKind.i64.wrap ((i:Int)+1)=((i+1:Nat):Int):=by rw[Zf (by omega) (by omega)];omega
 by_cases h7:Zeg s i=47
 ·have hn:nameOk s=false:=by
   cases hx:nameOk s with
   |false=>rfl
   |true=>
    have:=(ZbF s 47).2 ⟨i,hi,h7⟩
    rw[(ZjJ hx).2.2.2.2.1] at this;cases this
  have s_:=An @hn (@h7)
  try simp[s_]
  repeat' ((first|((first|refine Tp ?_|refine Tn ?_|refine T2 ?_ ?_)<;>intro h_ e_ n_)|rw[Ip]|rw[In]|rw[Fz]|rw[Gz]|fail)<;>first|simp[e_,n_,s_]|simp[s_]|skip)
 by_cases h8:Zeg s i=0
 ·have hn:nameOk s=false:=by
   cases hx:nameOk s with
   |false=>rfl
   |true=>
    have:=(ZbF s 0).2 ⟨i,hi,h8⟩
    rw[(ZjJ hx).2.2.2.2.2] at this;cases this
  have s_:=An @hn (An @h7 (@h8))
  try simp[s_]
  repeat' ((first|((first|refine Tp ?_|refine Tn ?_|refine T2 ?_ ?_)<;>intro h_ e_ n_)|rw[Ip]|rw[In]|rw[Fz]|rw[Gz]|fail)<;>first|simp[e_,n_,s_]|simp[s_]|skip)
 have s_:=An @h7 (An @h8 (@hw2))
 try simp[s_]
 repeat' ((first|((first|refine Tp ?_|refine Tn ?_|refine T2 ?_ ?_)<;>intro h_ e_ n_)|(exact hA (i+1) _ Wa ⟨by omega,lt_step h6 ⟨h7,h8⟩⟩ (by omega))|rw[Ip]|rw[In]|rw[Fz]|rw[Gz]|fail)<;>first|simp[e_,n_,s_]|simp[s_]|skip)
theorem right_name_ok (l:List EntryR):Zd Tryz.prog 200 [encL EntryR.enc l] (B (ZhZ l)):=by
 refine Pm Tryz.func200 fun hfit=> ?_
 simp at hfit
 simp[Tryz.f200,ZhZ]
 refine AW.loopG (lit:=fun _=>false) (fun i:Nat=>⟨40,pat [(0,encL EntryR.enc l),(5,encL EntryR.enc l),(6,I l.length),(7,I i)],[]⟩) (fun i=>l.length -i) (fun i=>i≤l.length∧ZbE (prevAt l i) (l.drop i)=ZbE none l) 0 ?_ ?_ ?_
 ·exact Wk.at _ rfl rfl (by simp)
 ·simp[prevAt]
 rintro i ⟨h5,h6⟩ A hA
 by_cases hi:i<l.length
 case neg=>
  rw[Zix l i (by omega)] at h6
  have s_:=Eq.symm (h6)
  try simp[s_]
  repeat' ((first|((first|refine Tp ?_|refine Tn ?_|refine T2 ?_ ?_)<;>intro h_ e_ n_)|refine Dg 4 24 [] [] ?_|rw[Ip]|rw[In]|rw[Fz]|rw[Gz]|fail)<;>first|simp[e_,n_,s_]|simp[s_]|skip)
 rw[ZkS l i hi] at h6
 have hw2:=Zi hi hfit.1
 cases i with
 |zero=>
  simp[prevAt] at h6
  have s_:=An @hi (An @EntryR.enc.eq_1 (An @hw2 (Eq.symm (h6))))
  try simp[s_]
  repeat' ((first|((first|refine Tp ?_|refine Tn ?_|refine T2 ?_ ?_)<;>intro h_ e_ n_)|(exact hA 1 _ Wc ⟨by omega,by simp[prevAt,hi];simp_all⟩ (by omega))|refine Pg (check_ok (l[0]).name) ?_|refine Dg 4 24 [] [] ?_|rw[Ip]|rw[In]|rw[Fz]|rw[Gz]|fail)<;>first|simp[e_,n_,s_]|simp[s_]|skip)
 |succ i=>
  have hw3:IntKind.i64.wrap ((i:Int)+1 -1)=(i:Int):=by rw[show(i:Int)+1 -1=i by omega];exact Zf (by omega) (by have:=ZaU hfit.1;omega)
  have hw4:IntKind.i64.wrap (i:Int)=(i:Int):=Zf (by omega) (by have:=ZaU hfit.1;omega)
  have hw5:IntKind.i64.wrap ((i:Int)+1+1)=(i:Int)+2:=by rw[Zf (by omega) (by have:=ZaU hfit.1;omega)];omega
  have hi0:i<l.length:=by omega
  simp[prevAt,hi0] at h6
  have s_:=An @hi (An @EntryR.enc.eq_1 (An @hw2 (An @hw3 (An @hw4 (An @hw5 (An @hi0 (Eq.symm (h6))))))))
  try simp[s_]
  repeat' ((first|((first|refine Tp ?_|refine Tn ?_|refine T2 ?_ ?_)<;>intro h_ e_ n_)|(exact hA (i+2) _ Wc ⟨by omega,by simp[prevAt,hi];simp_all⟩ (by omega))|refine Pg (check_ok (l[i+1]).name) ?_|refine Dg 4 24 [] [] ?_|rw[Ip]|rw[In]|rw[Fz]|rw[Gz]|fail)<;>first|simp[e_,n_,s_]|simp[s_]|skip)
theorem eqEnts_ok (a b:List EntryR):Zd Tryz.prog 170 [encL EntryR.enc a,encL EntryR.enc b] (B (decide (a=b))):=by
 refine Pm Tryz.func170 fun hfit=> ?_
 simp at hfit
 simp[Tryz.f170]
 by_cases hl:a.length=b.length
 case neg=>
  have:¬a=b:=fun e=>hl (by rw[e])
  simp[hl,this]
 simp[hl]
 refine AW.loopG (lit:=fun _=>false) (fun i:Nat=>⟨26,pat [(0,encL EntryR.enc a),(1,encL EntryR.enc b),(12,I b.length),(13,I i)],[]⟩) (fun i=>b.length -i) (fun i=>i≤b.length∧a.take i=b.take i) 0 ?_ ?_ ?_
 ·exact Wk.at _ rfl rfl (by simp[hl])
 ·simp
 ·rintro i ⟨hi,ht⟩ A hA
  by_cases h:i<b.length
  case neg=>
   have:=ZbN ht (by omega) (by omega)
   simp[h,hl,eq_true this]
  have ha:i<a.length:=by omega
  simp[h,hl]
  refine Dg _ 9 [] [] ?_
  simp[h,ha]
  by_cases h2:a[i]=b[i]
  ·simp[entK,h2,Zi ha hfit.1.1]
   exact hA (i+1) _ Wa ⟨by omega,take_step ht ha h h2⟩ (by omega)
  ·have:¬a=b:=fun e=>by subst e;exact h2 rfl
   simp[entK,h2,this]
theorem rsame06_ok (a b:List EntryR):Zd Tryz.prog 97 [encL EntryR.enc a,encL EntryR.enc b] (B (decide (a=b))):=by
 refine Pm Tryz.func97 fun hfit=> ?_
 simp at hfit
 simp[Tryz.f97]
 by_cases hl:a.length=b.length
 case neg=>
  have:¬a=b:=fun e=>hl (by rw[e])
  simp[hl,this]
 simp[hl]
 refine AW.loopG (lit:=fun _=>false) (fun i:Nat=>⟨26,pat [(0,encL EntryR.enc a),(1,encL EntryR.enc b),(5,I i)],[]⟩) (fun i=>b.length -i) (fun i=>i≤b.length∧a.take i=b.take i) 0 ?_ ?_ ?_
 ·exact Wk.at _ rfl rfl (by simp[hl])
 ·simp
 ·rintro i ⟨hi,ht⟩ A hA
  by_cases h:i<b.length
  case neg=>
   have:=ZbN ht (by omega) (by omega)
   simp[h,hl,eq_true this]
  have ha:i<a.length:=by omega
  simp[h,hl]
  refine Dg _ 9 [] [] ?_
  simp[h,ha]
  by_cases h2:a[i]=b[i]
  ·simp[entK,h2,Zi ha hfit.1.1]
   exact hA (i+1) _ Wa ⟨by omega,take_step ht ha h h2⟩ (by omega)
  ·have:¬a=b:=fun e=>by subst e;exact h2 rfl
   simp[entK,h2,this]
theorem rright_name_ok (l:List EntryR):Zd Tryz.prog 182 [encL EntryR.enc l] (B (ZhZ l)):=by
 refine Pm Tryz.func182 fun hfit=> ?_
 simp at hfit
 simp[Tryz.f182,ZhZ]
 by_cases hl:l.length≤256
 case neg=>
  have s_:=hl
  try simp[s_]
  repeat' ((first|((first|refine Tp ?_|refine Tn ?_|refine T2 ?_ ?_)<;>intro h_ e_ n_)|refine Dg 7 28 [] [] ?_|rw[Ip]|rw[In]|rw[Fz]|rw[Gz]|fail)<;>first|simp[e_,n_,s_]|simp[s_]|skip)
 have hl':=Nat.not_lt.2 hl
 simp[hl']
 refine AW.loopG (lit:=fun _=>false) (fun i:Nat=>⟨48,pat [(0,encL EntryR.enc l),(3,I i)],[]⟩) (fun i=>l.length -i) (fun i=>i≤l.length∧ZbE (prevAt l i) (l.drop i)=ZbE none l) 0 ?_ ?_ ?_
 ·exact Wk.at _ rfl rfl (by simp)
 ·simp[prevAt]
 rintro i ⟨h5,h6⟩ A hA
 by_cases hi:i<l.length
 case neg=>
  rw[Zix l i (by omega)] at h6
  have s_:=An (Eq.symm (h6)) (@hl)
  try simp[s_]
  repeat' ((first|((first|refine Tp ?_|refine Tn ?_|refine T2 ?_ ?_)<;>intro h_ e_ n_)|refine Dg 7 28 [] [] ?_|rw[Ip]|rw[In]|rw[Fz]|rw[Gz]|fail)<;>first|simp[e_,n_,s_]|simp[s_]|skip)
 rw[ZkS l i hi] at h6
 have hw2:=Zi hi hfit.1
 cases i with
 |zero=>
  simp[prevAt] at h6
  have s_:=An @hi (An @EntryR.enc.eq_1 (An @hw2 (An (Eq.symm (h6)) (@hl))))
  try simp[s_]
  repeat' ((first|((first|refine Tp ?_|refine Tn ?_|refine T2 ?_ ?_)<;>intro h_ e_ n_)|(exact hA 1 _ Wa ⟨by omega,by simp[prevAt,hi];simp_all⟩ (by omega))|refine Pg (rcheck_ok (l[0]).name) ?_|refine Dg 7 28 [] [] ?_|rw[Ip]|rw[In]|rw[Fz]|rw[Gz]|fail)<;>first|simp[e_,n_,s_]|simp[s_]|skip)
 |succ i=>
  have hw3:IntKind.i64.wrap ((i:Int)+1 -1)=(i:Int):=by rw[show(i:Int)+1 -1=i by omega];exact Zf (by omega) (by have:=ZaU hfit.1;omega)
  have hw4:IntKind.i64.wrap (i:Int)=(i:Int):=Zf (by omega) (by have:=ZaU hfit.1;omega)
  have hw5:IntKind.i64.wrap ((i:Int)+1+1)=(i:Int)+2:=by rw[Zf (by omega) (by have:=ZaU hfit.1;omega)];omega
  have hi0:i<l.length:=by omega
  simp[prevAt,hi0] at h6
  have s_:=An @hi (An @EntryR.enc.eq_1 (An @hw2 (An @hw3 (An @hw4 (An @hw5 (An @hi0 (An (Eq.symm (h6)) (@hl))))))))
  try simp[s_]
  repeat' ((first|((first|refine Tp ?_|refine Tn ?_|refine T2 ?_ ?_)<;>intro h_ e_ n_)|(exact hA (i+2) _ Wa ⟨by omega,by simp[prevAt,hi];simp_all⟩ (by omega))|refine Pg (rcheck_ok (l[i+1]).name) ?_|refine Dg 7 28 [] [] ?_|rw[Ip]|rw[In]|rw[Fz]|rw[Gz]|fail)<;>first|simp[e_,n_,s_]|simp[s_]|skip)
theorem Ztk (n:NodeR):Zd Tryz.prog 163 [encN n] (B (nodeOk n)):=by
 refine Pm Tryz.func163 fun hfit=> ?_
 simp[Tryz.f163,NodeR.enc,nodeOk]
 try simp
 repeat' ((first|((first|refine Tp ?_|refine Tn ?_|refine T2 ?_ ?_)<;>intro h_ e_ n_)|refine Pg (right_name_ok n.l) ?_|rw[Ip]|rw[In]|rw[Fz]|rw[Gz]|fail)<;>first|simp[e_,n_]|simp|skip)
 intro h;rw[h];rfl
theorem ZvE (n:NodeR):Zd Tryz.prog 269 [encN n] (I (sizeS n)):=by
 refine Pm Tryz.func269 fun hfit=> ?_
 simp[Tryz.f269,NodeR.enc,sizeS]
 try simp
 repeat' ((first|((first|refine Tp ?_|refine Tn ?_|refine T2 ?_ ?_)<;>intro h_ e_ n_)|rw[Ip]|rw[In]|rw[Fz]|rw[Gz]|fail)<;>first|simp[e_,n_]|simp|skip)
theorem ZoG (a b:NodeR):Zd Tryz.prog 132 [encN a,encN b] (B (decide (a=b))):=by
 refine Pm Tryz.func132 fun hfit=> ?_
 simp only[NodeR.eq_iff]
 simp[Tryz.f132,NodeR.enc]
 try simp
 repeat' ((first|((first|refine Tp ?_|refine Tn ?_|refine T2 ?_ ?_)<;>intro h_ e_ n_)|refine Pg (eqEnts_ok a.l b.l) ?_|rw[Ip]|rw[In]|rw[Fz]|rw[Gz]|fail)<;>first|simp[e_,n_]|simp|skip)
theorem rnright_ok (n:NodeR):Zd Tryz.prog 151 [encN n] (B (nodeOk n)):=by
 refine Pm Tryz.func151 fun hfit=> ?_
 simp[Tryz.f151,NodeR.enc,nodeOk]
 try simp
 repeat' ((first|((first|refine Tp ?_|refine Tn ?_|refine T2 ?_ ?_)<;>intro h_ e_ n_)|refine Pg (rright_name_ok n.l) ?_|rw[Ip]|rw[In]|rw[Fz]|rw[Gz]|fail)<;>first|simp[e_,n_]|simp|skip)
theorem rnsame_ok (a b:NodeR):Zd Tryz.prog 48 [encN a,encN b] (B (decide (a=b))):=by
 refine Pm Tryz.func48 fun hfit=> ?_
 simp only[NodeR.eq_iff]
 simp[Tryz.f48,NodeR.enc]
 try simp
 repeat' ((first|((first|refine Tp ?_|refine Tn ?_|refine T2 ?_ ?_)<;>intro h_ e_ n_)|refine Pg (rsame06_ok a.l b.l) ?_|rw[Ip]|rw[In]|rw[Fz]|rw[Gz]|fail)<;>first|simp[e_,n_]|simp|skip)
theorem clone_ok (l:List NodeR) (hl:l.length≤1000000):XCall Tryz.prog 335 [encL NodeR.enc l] [] (.own 0 0 0 l.length 5) [.cells 0 (l.flatMap NodeR.enc)]:=by
 refine XCall.mkE 5 (fun _=>false) Tryz.func335 rfl rfl rfl (Ent.mk Tryz.func335 (by kernel_rfl) rfl) (by simp) (by simp) (by simp) (by simp) (by simp) fun hfit=> ?_
 simp at hfit
 simp[Tryz.f335]
 rw[if_pos (by simp only[maxLen];omega)]
 simp
 intro h0
 subst h0
 simp
theorem number_ok (n:NodeR):Zd Tryz.prog 167 [encN n] (I n.ino):=by
 refine Pm Tryz.func167 fun hfit=> ?_
 simp[Tryz.f167,NodeR.enc]
theorem compare_ok (x y:Int):Zd Tryz.prog 105 [I x,I y] (I (Lib.compareInt x y)):=by
 refine Zd.ofCalls (by simp) rfl (Ent.mk Tryz.func105 (by kernel_rfl) rfl) fun Z w cargs hz hr=> ?_
 cases hr with
 |cons h1 h2=>
  cases h2 with
  |cons h2 h3=>
   cases h3
   have hs:=Zab h1 rfl
   have hs2:=Zab h2 rfl
   subst hs hs2
   exact(Tryz.cmp_Compare_int x y w).mono fun e w' ⟨he,hw⟩=>⟨he,by rw[hw];exact .refl _ _⟩
abbrev byIno:AV:= .fn 202 [.fp [.fn 167 []]]
theorem search1_ok (n:NodeR) (k:Int):Zd Tryz.prog 202 [encN n,I k,.fp [.fn 167 []]] (I (Lib.compareInt n.ino k)):=by
 refine Pm Tryz.func202 fun hfit=> ?_
 simp[Tryz.f202,NodeR.enc]
 have s_:= @NodeR.enc.eq_1
 try simp[s_]
 repeat' ((first|((first|refine Tp ?_|refine Tn ?_|refine T2 ?_ ?_)<;>intro h_ e_ n_)|refine Pg (number_ok n) ?_|refine Pg (compare_ok n.ino k) ?_|rw[Ip]|rw[In]|rw[Fz]|rw[Gz]|fail)<;>first|simp[e_,n_,s_]|simp[s_]|skip)
theorem cmp_lt (x y:Int):(Lib.compareInt x y<0)=(x<y):=by
 unfold Lib.compareInt
 apply propext
 repeat' split
 all_goals(constructor<;>intro h<;>simp_all<;>omega)
theorem cmp_eq (x y:Int):(Lib.compareInt x y=0)=(x=y):=by
 unfold Lib.compareInt
 apply propext
 repeat' split
 all_goals(constructor<;>intro h<;>simp_all<;>omega)
theorem bsearch_ok (l:List NodeR) (k:Int) (hl:l.length≤1000000):Zd Tryz.prog 201 [encL NodeR.enc l,I k,byIno] (.tup [I (bsGo (ZbV l) k 0 l.length),B (decide (bsGo (ZbV l) k 0 l.length<l.length)&&decide (ZbV l (bsGo (ZbV l) k 0 l.length)=k))]):=by
 refine Pm Tryz.func201 fun hfit=> ?_
 simp at hfit
 simp[Tryz.f201]
 refine AW.loopG (lit:=fun _=>false) (fun x:Nat×Nat=>⟨49,pat [(0,encL NodeR.enc l),(1,I k),(2,byIno),(8,I l.length),(9,I x.1),(10,I x.2)],[]⟩) (fun x=>x.2 -x.1) (fun x=>x.1≤x.2∧x.2≤l.length∧bsGo (ZbV l) k x.1 x.2=bsGo (ZbV l) k 0 l.length) (0,l.length) ?_ ?_ ?_
 ·exact Wk.at _ rfl rfl (by simp)
 ·simp
 rintro⟨i,j⟩ ⟨h1,h2,h3⟩ A hA
 simp only at h1 h2 h3
 have hat:∀m (h:m<l.length),ZbV l m=(l[m]).ino:=fun m h=>by simp[ZbV,List.getD_eq_getElem?_getD,h]
 by_cases h:i<j
 case neg=>
  have hij:i=j:=by omega
  subst hij
  rw[Zdj h] at h3
  by_cases hi:i<l.length
  ·have e1:=hat i hi
   have s_:=An @h (An @hi (An (Eq.symm (h3)) (An @cmp_eq (An @NodeR.enc.eq_1 (@e1)))))
   try simp[s_]
   repeat' ((first|((first|refine Tp ?_|refine Tn ?_|refine T2 ?_ ?_)<;>intro h_ e_ n_)|refine Pg (search1_ok l[i] k) ?_|rw[Ip]|rw[In]|rw[Fz]|rw[Gz]|fail)<;>first|simp[e_,n_,s_]|simp[s_]|skip)
  ·have s_:=An @h (An @hi (Eq.symm (h3)))
   try simp[s_]
   repeat' ((first|((first|refine Tp ?_|refine Tn ?_|refine T2 ?_ ?_)<;>intro h_ e_ n_)|rw[Ip]|rw[In]|rw[Fz]|rw[Gz]|fail)<;>first|simp[e_,n_,s_]|simp[s_]|skip)
 rw[Zdi h] at h3
 have hm:(i+j)/2<l.length:=by omega
 have e1:=hat _ hm
 have w1:IntKind.i64.wrap ((i:Int)+j)=(i:Int)+j:=Zf (by omega) (by omega)
 have w2:((i:Int)+j)%18446744073709551616=(i:Int)+j:=by omega
 have w3:((i:Int)+j).fdiv 2=(((i+j)/2:Nat):Int):=by rw[Int.fdiv_eq_ediv_of_nonneg _ (by omega)];omega
 have w4:IntKind.i64.wrap (((i+j)/2:Nat):Int)=(((i+j)/2:Nat):Int):=Zf (by omega) (by omega)
 generalize hmm:(i+j)/2=m at*
 have w5:IntKind.i64.wrap ((m:Int)+1)=((m+1:Nat):Int):=by rw[Zf (by omega) (by omega)];omega
 have hk:ZbV l m<k∨¬ZbV l m<k:=Classical.em _
 rcases hk with hk|hk
 ·rw[if_pos hk] at h3
  rw[e1] at hk
  have s_:=An @h (An @w1 (An @w2 (An @w3 (An @w4 (An @w5 (An @hm (An @cmp_lt (An @NodeR.enc.eq_1 (@hk)))))))))
  try simp[s_]
  repeat' ((first|((first|refine Tp ?_|refine Tn ?_|refine T2 ?_ ?_)<;>intro h_ e_ n_)|(exact hA (m+1,j) _ Wa ⟨by simp only;omega,h2,h3⟩ (by simp only;omega))|refine Pg (search1_ok l[m] k) ?_|rw[Ip]|rw[In]|rw[Fz]|rw[Gz]|fail)<;>first|simp[e_,n_,s_]|simp[s_]|skip)
 ·rw[if_neg hk] at h3
  rw[e1] at hk
  have s_:=An @h (An @w1 (An @w2 (An @w3 (An @w4 (An @w5 (An @hm (An @cmp_lt (An @NodeR.enc.eq_1 (@hk)))))))))
  try simp[s_]
  repeat' ((first|((first|refine Tp ?_|refine Tn ?_|refine T2 ?_ ?_)<;>intro h_ e_ n_)|(exact hA (i,m) _ Wa ⟨by simp only;omega,by simp only;omega,h3⟩ (by simp only;omega))|refine Pg (search1_ok l[m] k) ?_|rw[Ip]|rw[In]|rw[Fz]|rw[Gz]|fail)<;>first|simp[e_,n_,s_]|simp[s_]|skip)
theorem search_ok (l:List NodeR) (k:Int) (hl:l.length≤1000000):Zd Tryz.prog 166 [encL NodeR.enc l,I k,.fn 167 []] (.tup [I (plc l k),B (decide (plc l k<l.length)&&decide (ZbV l (plc l k)=k))]):=by
 refine Pm Tryz.func166 fun hfit=> ?_
 simp[Tryz.f166]
 try simp
 repeat' ((first|((first|refine Tp ?_|refine Tn ?_|refine T2 ?_ ?_)<;>intro h_ e_ n_)|refine Lg (bsearch_ok l k hl) ?_|rw[Ip]|rw[In]|rw[Fz]|rw[Gz]|fail)<;>first|simp[e_,n_]|simp|skip)
abbrev encF (f:FSR):AV:= .agg f.enc
theorem find_ok (f:FSR) (k:Int) (hl:f.l.length≤1000000):Zd Tryz.prog 120 [encF f,I k] (.tup [encN (findB f.l k).1,B (findB f.l k).2]):=by
 refine Pm Tryz.func120 fun hfit=> ?_
 by_cases h:plc f.l k<f.l.length
 case neg=>
  simp[Tryz.f120,FSR.enc,findB,h]
  have s_:=An @FSR.enc.eq_1 (An @NodeR.enc.eq_1 (An @NodeR.zero.eq_1 (@h)))
  try simp[s_]
  repeat' ((first|((first|refine Tp ?_|refine Tn ?_|refine T2 ?_ ?_)<;>intro h_ e_ n_)|refine Pg (search_ok f.l k hl) ?_|rw[Ip]|rw[In]|rw[Fz]|rw[Gz]|fail)<;>first|simp[e_,n_,s_]|simp[s_]|skip)
 by_cases h2:ZbV f.l (plc f.l k)=k
 case neg=>
  simp[Tryz.f120,FSR.enc,findB,h,h2]
  have s_:=An @FSR.enc.eq_1 (An @NodeR.enc.eq_1 (An @NodeR.zero.eq_1 (An @h (@h2))))
  try simp[s_]
  repeat' ((first|((first|refine Tp ?_|refine Tn ?_|refine T2 ?_ ?_)<;>intro h_ e_ n_)|refine Pg (search_ok f.l k hl) ?_|rw[Ip]|rw[In]|rw[Fz]|rw[Gz]|fail)<;>first|simp[e_,n_,s_]|simp[s_]|skip)
 have e:f.l.getD (plc f.l k) .zero=f.l[plc f.l k]:=by simp[List.getD_eq_getElem?_getD,h]
 simp only[findB,if_pos (An h h2),e]
 simp[Tryz.f120,FSR.enc]
 have s_:=An @FSR.enc.eq_1 (An @NodeR.enc.eq_1 (An @NodeR.zero.eq_1 (An @h (@h2))))
 try simp[s_]
 repeat' ((first|((first|refine Tp ?_|refine Tn ?_|refine T2 ?_ ?_)<;>intro h_ e_ n_)|refine Pg (search_ok f.l k hl) ?_|rw[Ip]|rw[In]|rw[Fz]|rw[Gz]|fail)<;>first|simp[e_,n_,s_]|simp[s_]|skip)
theorem ZvF (f:FSR):Zd Tryz.prog 81 [encF f] (B (Zdk f)):=by
 refine Pm Tryz.func81 fun hfit=> ?_
 obtain⟨l,next⟩:=f
 simp[FSR.enc] at hfit
 simp[Tryz.f81,Zdk,FSR.enc]
 by_cases hl:l.length≤256
 case neg=>
  have s_:=hl
  try simp[s_]
  repeat' ((first|((first|refine Tp ?_|refine Tn ?_|refine T2 ?_ ?_)<;>intro h_ e_ n_)|refine Dg 7 33 [] [] ?_|rw[Ip]|rw[In]|rw[Fz]|rw[Gz]|fail)<;>first|simp[e_,n_,s_]|simp[s_]|skip)
 have hl':=Nat.not_lt.2 hl
 by_cases hn:1≤next
 case neg=>
  have s_:=An @hl (An @hl' (@hn))
  try simp[s_]
  repeat' ((first|((first|refine Tp ?_|refine Tn ?_|refine T2 ?_ ?_)<;>intro h_ e_ n_)|refine Dg 7 33 [] [] ?_|rw[Ip]|rw[In]|rw[Fz]|rw[Gz]|fail)<;>first|simp[e_,n_,s_]|simp[s_]|skip)
 have hn':=Int.not_lt.2 hn
 simp[hl',hn']
 refine AW.loopG (lit:=fun _=>false) (fun i:Nat=>⟨60,pat [(1,.ptr 0 0 0),(3,I i)],[.cells 0 [encL NodeR.enc l,I next]]⟩) (fun i=>l.length -i) (fun i=>i≤l.length∧Zbm next (prevIno l i) (l.drop i)=Zbm next none l) 0 ?_ ?_ ?_
 ·exact Wa
 ·simp[prevIno]
 rintro i ⟨h5,h6⟩ A hA
 by_cases hi:i<l.length
 case neg=>
  rw[Zmz next l i (by omega)] at h6
  have s_:=An (Eq.symm (h6)) (An @hi (An @hl (@hn)))
  try simp[s_]
  repeat' ((first|((first|refine Tp ?_|refine Tn ?_|refine T2 ?_ ?_)<;>intro h_ e_ n_)|refine Dg 7 33 [] [] ?_|rw[Ip]|rw[In]|rw[Fz]|rw[Gz]|fail)<;>first|simp[e_,n_,s_]|simp[s_]|skip)
 rw[ZpF next l i hi] at h6
 have hw2:=Zi hi hfit.1
 cases i with
 |zero=>
  simp[prevIno] at h6
  have s_:=An @hi (An @NodeR.enc.eq_1 (An @hw2 (An (Eq.symm (h6)) (An @hl (@hn)))))
  try simp[s_]
  repeat' ((first|((first|refine Tp ?_|refine Tn ?_|refine T2 ?_ ?_)<;>intro h_ e_ n_)|(exact hA 1 _ Wa ⟨by omega,by simp[prevIno,hi];simp_all⟩ (by omega))|refine Pg (rnright_ok l[0]) ?_|refine Dg 7 33 [] [] ?_|rw[Ip]|rw[In]|rw[Fz]|rw[Gz]|fail)<;>first|simp[e_,n_,s_]|simp[s_]|skip)
 |succ i=>
  have hw3:IntKind.i64.wrap ((i:Int)+1 -1)=(i:Int):=by rw[show(i:Int)+1 -1=i by omega];exact Zf (by omega) (by have:=ZaU hfit.1;omega)
  have hw4:IntKind.i64.wrap (i:Int)=(i:Int):=Zf (by omega) (by have:=ZaU hfit.1;omega)
  have hw5:IntKind.i64.wrap ((i:Int)+1+1)=(i:Int)+2:=by rw[Zf (by omega) (by have:=ZaU hfit.1;omega)];omega
  have hi0:i<l.length:=by omega
  simp[prevIno,hi0] at h6
  have s_:=An @hi (An @NodeR.enc.eq_1 (An @hw2 (An @hw3 (An @hw4 (An @hw5 (An @hi0 (An (Eq.symm (h6)) (An @hl (@hn)))))))))
  try simp[s_]
  repeat' ((first|((first|refine Tp ?_|refine Tn ?_|refine T2 ?_ ?_)<;>intro h_ e_ n_)|(exact hA (i+2) _ Wa ⟨by omega,by simp[prevIno,hi];simp_all⟩ (by omega))|refine Pg (rnright_ok l[i+1]) ?_|refine Dg 7 33 [] [] ?_|rw[Ip]|rw[In]|rw[Fz]|rw[Gz]|fail)<;>first|simp[e_,n_,s_]|simp[s_]|skip)
theorem Zjc (f g:FSR):Zd Tryz.prog 106 [encF f,encF g] (B (decide (f=g))):=by
 refine Pm Tryz.func106 fun hfit=> ?_
 obtain⟨a,m⟩:=f
 obtain⟨b,n⟩:=g
 simp only[FSR.eq_iff]
 simp[FSR.enc] at hfit
 simp[Tryz.f106,FSR.enc]
 by_cases hm:m=n
 case neg=>
  have s_:=hm
  try simp[s_]
  repeat' ((first|((first|refine Tp ?_|refine Tn ?_|refine T2 ?_ ?_)<;>intro h_ e_ n_)|refine Dg 6 12 [] [] ?_|rw[Ip]|rw[In]|rw[Fz]|rw[Gz]|fail)<;>first|simp[e_,n_,s_]|simp[s_]|skip)
 by_cases hl:a.length=b.length
 case neg=>
  have:¬a=b:=fun e=>hl (by rw[e])
  have s_:=An @hm (An @hl (@this))
  try simp[s_]
  repeat' ((first|((first|refine Tp ?_|refine Tn ?_|refine T2 ?_ ?_)<;>intro h_ e_ n_)|refine Dg 6 12 [] [] ?_|rw[Ip]|rw[In]|rw[Fz]|rw[Gz]|fail)<;>first|simp[e_,n_,s_]|simp[s_]|skip)
 subst hm
 simp[hl]
 refine AW.loopG (lit:=fun _=>false) (fun i:Nat=>⟨41,pat [(2,.ptr 0 0 0),(3,.ptr 1 0 0),(5,I i)],[.cells 0 [encL NodeR.enc a,I m],.cells 0 [encL NodeR.enc b,I m]]⟩) (fun i=>b.length -i) (fun i=>i≤b.length∧a.take i=b.take i) 0 ?_ ?_ ?_
 ·exact Wk.at _ rfl (by simp[hl]) (by simp[hl])
 ·simp
 ·rintro i ⟨hi,ht⟩ A hA
  by_cases h:i<b.length
  case neg=>
   have:=ZbN ht (by omega) (by omega)
   have s_:=An @h (An @hl ((eq_true this)))
   try simp[s_]
   repeat' ((first|((first|refine Tp ?_|refine Tn ?_|refine T2 ?_ ?_)<;>intro h_ e_ n_)|refine Dg 6 12 [] [] ?_|rw[Ip]|rw[In]|rw[Fz]|rw[Gz]|fail)<;>first|simp[e_,n_,s_]|simp[s_]|skip)
  have ha:i<a.length:=by omega
  have hw2:=Zi ha hfit.1.1
  by_cases h2:a[i]=b[i]
  ·have s_:=An @h (An @hl (An @ha (An @hw2 (@h2))))
   try simp[s_]
   repeat' ((first|((first|refine Tp ?_|refine Tn ?_|refine T2 ?_ ?_)<;>intro h_ e_ n_)|(exact hA (i+1) _ (Wk.at _ rfl (by simp[hl]) (by simp[hl])) ⟨by omega,take_step ht ha h h2⟩ (by omega))|refine Pg (rnsame_ok a[i] b[i]) ?_|refine Dg 6 12 [] [] ?_|rw[Ip]|rw[In]|rw[Fz]|rw[Gz]|fail)<;>first|simp[e_,n_,s_]|simp[s_]|skip)
  ·have:¬a=b:=fun e=>by subst e;exact h2 rfl
   have s_:=An @h (An @hl (An @ha (An @hw2 (An @h2 (@this)))))
   try simp[s_]
   repeat' ((first|((first|refine Tp ?_|refine Tn ?_|refine T2 ?_ ?_)<;>intro h_ e_ n_)|refine Pg (rnsame_ok a[i] b[i]) ?_|refine Dg 6 12 [] [] ?_|rw[Ip]|rw[In]|rw[Fz]|rw[Gz]|fail)<;>first|simp[e_,n_,s_]|simp[s_]|skip)
theorem ZqA (l:List NodeR) (i:Nat) (x:NodeR) (hi:i≤l.length) (hl:l.length≤1000000):XCall Tryz.prog 336 [.own 0 0 0 l.length 5,I i,.sl true 1 x.enc] [.cells 0 (l.flatMap NodeR.enc)] (.own 0 1 0 (l.length+1) 5) [.cells 1 ((insL l i x).flatMap NodeR.enc)]:=by
 by_cases hi2:i=l.length
 case pos=>
  subst hi2
  refine XCall.mkG (fun s (_:Unit)=>s) (fun _=>false) Tryz.func336 rfl rfl rfl (Ent.mk Tryz.func336 (by kernel_rfl) rfl) (by simp) (by simp) (by simp) (by simp) (by simp) fun hfit=> ?_
  refine⟨WkE.one _ _,fun _=> ?_⟩
  simp[Tryz.f336]
  rw[if_pos (by simp only[maxLen];omega)]
  simp
  exact⟨_,Wk.refl _ _,by simp[ZdK]⟩
 have hi3:i<l.length:=by omega
 have hcp:∀cap,l.length≤cap→(l.length*5+(cap*5 -l.length*5))/5=cap:=fun cap h=>by omega
 have hw1:IntKind.i64.wrap ((l.length:Int)+1)=((l.length+1:Nat):Int):=by rw[Zf (by omega) (by omega)];omega
 have hw2:IntKind.i64.wrap ((i:Int)+1)=((i+1:Nat):Int):=by rw[Zf (by omega) (by omega)];omega
 have hw3:IntKind.i64.wrap ((l.length:Int)+1 -i)=((l.length+1 -i:Nat):Int):=by rw[Zf (by omega) (by omega)];omega
 have hw4:((i:Int)+((l.length+1 -i:Nat):Int)).toNat=l.length+1:=by omega
 have hm1:min 1 (l.length+1 -i)=1:=by omega
 have hm2:∀cap,l.length≤cap→min (i*5) (l.length*5+(cap*5 -l.length*5))=i*5:=fun cap h=>by omega
 have hov:∀(lb:Nat) (h:Za) (y:ABlk) (Q:AV→Za→Prop),h[0]? =some y→(blkCells y).map (·.1)=some 0→Q (B false) h→AInv Tryz.prog (.fn 344 []) [.sl true 1 x.enc,.own 0 0 (i+1) lb 5] h Q:=fun lb h y Q hy hv hq=>
  Zbr Tryz.func344 (by kernel_rfl) rfl (by kernel_rfl) rfl rfl (by kernel_rfl) (k:=5) (by kernel_rfl) true 1 _ _ 0 0 (i+1) lb hy hv (by omega) Q hq
 refine XCall.mkG (fun s (cap:{cap:Nat//l.length≤cap∧cap≤maxLen})=>ZbU s 0 0 5 (l.flatMap NodeR.enc) cap.1) (fun _=>false) Tryz.func336 rfl rfl rfl (Ent.mk Tryz.func336 (by kernel_rfl) rfl) (by simp) (by simp) (by simp) (by simp) (by simp) fun hfit=> ?_
 refine⟨WkE.full (t:=0) (by simp) (by simp) (by omega) (by simp),?_⟩
 rintro⟨cap,hc1,hc2⟩
 have hcp1:=hcp cap hc1
 have hm3:=hm2 cap hc1
 have hi4:¬i=l.length:=by omega
 have hle:i≤l.length:=by omega
 generalize hA:List.replicate (cap*5 -l.length*5) AV.any=A
 have hAl:A.length=cap*5 -l.length*5:=by rw[←hA];simp
 have hLl:(l.flatMap NodeR.enc).length=l.length*5:=ZkI l
 have hta:(l.flatMap NodeR.enc++A).take (i*5)=(l.flatMap NodeR.enc).take (i*5):=List.take_append_of_le_length (by rw[hLl];omega)
 have hdr:(l.flatMap NodeR.enc).drop (i*5)=(l.drop i).flatMap NodeR.enc:=Zmt l i
 have hq0:(l.flatMap NodeR.enc++A).drop (i*5)=(l.drop i).flatMap NodeR.enc++A:=by rw[List.drop_append_of_le_length (by rw[hLl];omega),hdr]
 have hdl:((l.drop i).flatMap NodeR.enc).length=l.length*5 -i*5:=by rw[ZkI,List.length_drop];omega
 by_cases hr:l.length+1≤cap
 ·have hm4:min (l.length+1 -i) (l.length -i)=l.length -i:=by omega
  have hm5:min ((l.length+1 -i)*5) ((l.length -i)*5+(cap*5 -l.length*5))=(l.length+1 -i)*5:=by omega
  have hm6:min ((l.length+1 -i)*5) (l.length*5+(cap*5 -l.length*5) -i*5)=(l.length+1 -i)*5:=by omega
  have hq1:List.take ((l.length -i)*5) (List.take ((l.length+1 -i)*5) ((l.drop i).flatMap NodeR.enc++A))=(l.drop i).flatMap NodeR.enc:=by
   rw[List.take_take,Nat.min_eq_left (by omega),List.take_left' (by rw[hdl];omega)]
  have hq2:(putAt (l.flatMap NodeR.enc++A) ((i+1)*5) ((l.drop i).flatMap NodeR.enc)).length=cap*5:=by
   rw[ZB (by rw[List.length_append,hLl,hAl,hdl];omega),List.length_append,hLl,hAl];omega
  have hq3:(putAt (putAt (l.flatMap NodeR.enc++A) ((i+1)*5) ((l.drop i).flatMap NodeR.enc)) (i*5) x.enc).take ((l.length+1)*5)=(insL l i x).flatMap NodeR.enc:=by
   have:=ZdI (L:=l.flatMap NodeR.enc) (A:=A) (X:=x.enc) (a:=i*5) (k:=5) hLl (by omega) rfl (by rw[hAl];omega)
   rw[ZkQ,hq0,List.take_left' (by rw[hdl])] at this
   rw[show(i+1)*5=i*5+5 by omega,show(l.length+1)*5=l.length*5+5 by omega]
   exact this
  have hone:∀y∈(l.drop i).flatMap NodeR.enc,Zx y=true:=List.all_eq_true.1 (ZkH _)
  simp[Tryz.f336,ZbU,hA]
  have s_:=An @hcp1 (An @hw1 (An @hw2 (An @hw3 (An @hw4 (An @hm1 (An @hm3 (An @hm4 (An @hq0 (An @hq1 (An @hq2 (An @hi3 (An @hi4 (An @hle (@hr))))))))))))))
  try simp[s_]
  repeat' ((first|((first|refine Tp ?_|refine Tn ?_|refine T2 ?_ ?_)<;>intro h_ e_ n_)|(refine hov _ _ _ _ rfl rfl ?_;simp)|(refine optBif ⟨rfl,by rw[List.length_append,hLl,hAl];omega,by rw[List.length_take,List.length_append,hdl,hAl];omega,by rw[hm4,hq1];exact hone⟩ ?_;simp)|refine Dg 11 9 [] [] ?_|refine Dg 15 9 [] [] ?_|rw[Ip]|rw[In]|rw[Fz]|rw[Gz]|fail)<;>first|simp[e_,n_,s_]|simp[s_]|skip)
  exact⟨_,Wk.trans (Wk.prefix 0 0 ((l.length+1)*5) rfl rfl) (Wk.bump 6 0 0 0 (l.length+1) 5 (by simp) rfl),by simp[hq3]⟩
 ·have hm5:min ((l.length -i)*5) ((l.length -i)*5+(cap*5 -l.length*5))=(l.length -i)*5:=by omega
  have hq1:List.take ((l.length -i)*5) (List.take ((l.length -i)*5) ((l.drop i).flatMap NodeR.enc++A))=(l.drop i).flatMap NodeR.enc:=by
   rw[List.take_take,Nat.min_self,List.take_left' (by rw[hdl];omega)]
  have hq4:List.take ((l.length -i)*5) ((l.drop i).flatMap NodeR.enc)=(l.drop i).flatMap NodeR.enc:=List.take_of_length_le (by rw[hdl];omega)
  have hone:∀y∈(l.drop i).flatMap NodeR.enc,Zx y=true:=List.all_eq_true.1 (ZkH _)
  simp[Tryz.f336,ZbU,hA]
  generalize hZ:(List.replicate (l.length+1 -i) [AV.val (Value.int IntKind.i64 0),AV.val (Value.int IntKind.i64 0),AV.val (Value.int IntKind.i64 0),AV.val (Value.string ByteArray.empty),AV.sl true 0 []]).flatten=Z
  have hZl:Z.length=(l.length+1 -i)*5:=by rw[←hZ];simp
  have hta':((l.flatMap NodeR.enc).take (i*5)).length=i*5:=by rw[List.length_take,hLl];omega
  have hq2:(putAt ((l.flatMap NodeR.enc).take (i*5)++Z) (i*5) x.enc).length=(l.length+1)*5:=by
   rw[ZB (by rw[List.length_append,hta',hZl,Zpz];omega),List.length_append,hta',hZl];omega
  have hq3:putAt (putAt ((l.flatMap NodeR.enc).take (i*5)++Z) (i*5) x.enc) ((i+1)*5) ((l.drop i).flatMap NodeR.enc)=(insL l i x).flatMap NodeR.enc:=by
   have:=ZdJ (L:=l.flatMap NodeR.enc) (A:=A) (X:=x.enc) (Z:=Z) (a:=i*5) (k:=5) hLl (by omega) rfl (by rw[hZl];omega)
   rw[ZkQ,hta,hq0,List.take_left' (by rw[hdl])] at this
   rw[show(i+1)*5=i*5+5 by omega]
   exact this
  have s_:=An @hcp1 (An @hw1 (An @hw2 (An @hw3 (An @hw4 (An @hm1 (An @hm3 (An @hq0 (An @hq1 (An @hq4 (An @hta (An @hZ (An @hi3 (An @hi4 (An @hle (@hr)))))))))))))))
  try simp[s_]
  repeat' ((first|((first|refine Tp ?_|refine Tn ?_|refine T2 ?_ ?_)<;>intro h_ e_ n_)|(refine optBif ⟨by rw[hq2];omega,hone⟩ ?_;simp)|refine Dg 11 9 [] [] ?_|refine Dg 15 9 [] [] ?_|rw[Ip]|rw[In]|rw[Fz]|rw[Gz]|fail)<;>first|simp[e_,n_,s_]|simp[s_]|skip)
  exact⟨_,Wk.move 6 0 1 0 0 (l.length+1) 5 (by decide) (by simp;omega) rfl rfl rfl,by simp[hq3]⟩
theorem ZqB (l:List NodeR) (g:FuncId) (cap:List AV) (p:NodeR→Bool) (hcap:cap.all neat=true) (hp:∀x∈l,Zd Tryz.prog g (.agg x.enc::cap) (B (p x))) (hl:l.length≤1000000):Zd Tryz.prog 354 [encL NodeR.enc l,.fn g cap] (I (idxS p l)):=by
 refine Zd.mk (fun _=>false) Tryz.func354 rfl rfl rfl (Ent.mk Tryz.func354 (by kernel_rfl) rfl) (by simp[hcap]) (by simp) fun hfit=> ?_
 simp at hfit
 simp[Tryz.f354]
 refine AW.loopG (lit:=fun _=>false) (fun i:Nat=>⟨19,pat [(0,encL NodeR.enc l),(1,.fn g cap),(7,I l.length),(8,I i)],[]⟩) (fun i=>l.length -i) (fun i=>i≤l.length∧ZaS p i (l.drop i)=idxS p l) 0 ?_ ?_ ?_
 ·exact Wk.at _ rfl rfl (by simp)
 ·simp[idxS]
 rintro i ⟨h1,h2⟩ A hA
 by_cases hi:i<l.length
 case neg=>
  rw[ZcH hi] at h2
  have s_:=An @hi (Eq.symm (h2))
  try simp[s_]
  repeat' ((first|((first|refine Tp ?_|refine Tn ?_|refine T2 ?_ ?_)<;>intro h_ e_ n_)|refine Dg 11 9 [] [] ?_|refine Dg 15 9 [] [] ?_|rw[Ip]|rw[In]|rw[Fz]|rw[Gz]|fail)<;>first|simp[e_,n_,s_]|simp[s_]|skip)
 rw[ZdL hi] at h2
 have hw:=Zi hi hfit.1.1
 have hpi:=hp l[i] (List.getElem_mem hi)
 cases hpp:p l[i] with
 |true=>
  rw[hpp] at hpi
  simp only[hpp,if_true] at h2
  have s_:=An @hi (An (Eq.symm (h2)) (@hpp))
  try simp[s_]
  repeat' ((first|((first|refine Tp ?_|refine Tn ?_|refine T2 ?_ ?_)<;>intro h_ e_ n_)|refine Pg hpi ?_|refine Dg 11 9 [] [] ?_|refine Dg 15 9 [] [] ?_|rw[Ip]|rw[In]|rw[Fz]|rw[Gz]|fail)<;>first|simp[e_,n_,s_]|simp[s_]|skip)
 |false=>
  rw[hpp] at hpi
  simp only[hpp,Bool.false_eq_true,if_false] at h2
  have s_:=An @hi (An @hw (@hpp))
  try simp[s_]
  repeat' ((first|((first|refine Tp ?_|refine Tn ?_|refine T2 ?_ ?_)<;>intro h_ e_ n_)|(exact hA (i+1) _ Wa ⟨by omega,h2⟩ (by omega))|refine Pg hpi ?_|refine Dg 11 9 [] [] ?_|refine Dg 15 9 [] [] ?_|rw[Ip]|rw[In]|rw[Fz]|rw[Gz]|fail)<;>first|simp[e_,n_,s_]|simp[s_]|skip)
theorem Znl (l:List NodeR) (g:FuncId) (cap cap':List AV) (hc:Za) (p:NodeR→Bool) (hcap:cap'.all neat=true) (hcr:cap.all (refsLt (hc.length+1))=true) (hhc:hc.all (ABlk.refsLt (hc.length+1))=true) (hfr:∀(f:Nat) (b0:ABlk) (tl:Za),frzs (b0::(hc++tl)) 0 (f+3) cap=some cap')
  (hp:∀x∈l,Zd Tryz.prog g (.agg x.enc::cap') (B (p x))) (hl:l.length≤1000000):XCall Tryz.prog 347 [.own 0 0 0 l.length 5,.fn g cap] (.cells 0 (l.flatMap NodeR.enc)::hc) (.own 0 0 0 (l.filter fun x=> !p x).length 5) (.cells 0 ((l.filter fun x=> !p x).flatMap NodeR.enc)::hc):=by
 refine XCall.mkG (fun s (_:Unit)=>s) (fun _=>false) Tryz.func347 rfl rfl rfl (Ent.mk Tryz.func347 (by kernel_rfl) rfl) (by simp;simpa using hcr) (by simp;simpa using hhc) (by simp) (by simp) (by simp;simpa using hhc) fun hfit=> ?_
 refine⟨WkE.one _ _,fun _=> ?_⟩
 have hix:=ZqB l g cap' p hcap hp hl
 have hfz:∀(v:AV) (b0:ABlk) (tl:Za),neat v=true→(([v]++cap).mapM (frz (b0::(hc++tl)) 0 12))=some (v::cap'):=fun v b0 tl hv=>by
  have h2:cap.mapM (frz (b0::(hc++tl)) 0 12)=some cap':=hfr 9 b0 tl
  rw[List.singleton_append,List.mapM_cons,ZbZ _ _ _ hv,h2];rfl
 have hlend:∀{Q:AV→Za→Prop},Q (I (idxS p l)) (.cells 0 (l.flatMap NodeR.enc)::hc)→AInv Tryz.prog (.fn 354 []) [.own 0 0 0 l.length 5,.fn g cap] (.cells 0 (l.flatMap NodeR.enc)::hc) Q:=fun hq=>
  AInv.lend hix rfl (by
   have:=hfr 8 (.cells 0 (l.flatMap NodeR.enc)) []
   rw[List.append_nil] at this
   rw[List.append_nil,List.mapM_cons,List.mapM_cons,List.mapM_nil,Zmh,List.getElem?_cons_zero,Zap (by simp) (by simp),ZrP,this]
   rfl) hq
 have hzs:∀x:NodeR,setMany [AV.val (Value.int IntKind.i64 0),AV.val (Value.int IntKind.i64 0),AV.val (Value.int IntKind.i64 0),AV.val (Value.string ByteArray.empty),AV.sl true 0 []] 0 x.enc=x.enc:=fun _=>rfl
 by_cases h0:idxS p l= -1
 ·obtain⟨e1,_⟩:=ZeX h0
  simp[Tryz.f347]
  have s_:=h0
  try simp[s_]
  repeat' ((first|((first|refine Tp ?_|refine Tn ?_|refine T2 ?_ ?_)<;>intro h_ e_ n_)|(refine hlend ?_;simp[h0])|refine Dg 11 9 [] [] ?_|refine Dg 15 9 [] [] ?_|rw[Ip]|rw[In]|rw[Fz]|rw[Gz]|fail)<;>first|simp[e_,n_,s_]|simp[s_]|skip)
  exact⟨_,Wk.refl _ _,by simp[e1]⟩
 obtain⟨j0,hj0,e1,e2,e3⟩:=ZeY h0
 have hw0:IntKind.i64.wrap ((j0:Int)+1)=(j0:Int)+1:=Zf (by omega) (by omega)
 have hn0:¬((j0:Int)= -1):=by omega
 simp[Tryz.f347]
 have s_:=An @e1 (An @hw0 (@hn0))
 try simp[s_]
 repeat' ((first|((first|refine Tp ?_|refine Tn ?_|refine T2 ?_ ?_)<;>intro h_ e_ n_)|(refine hlend ?_;simp[e1,hw0,hn0])|refine Dg 11 9 [] [] ?_|refine Dg 15 9 [] [] ?_|rw[Ip]|rw[In]|rw[Fz]|rw[Gz]|fail)<;>first|simp[e_,n_,s_]|simp[s_]|skip)
 refine AW.loopG (lit:=fun _=>false) (fun x:Nat×Nat×List NodeR=>⟨42,pat [(0,.own 0 0 0 l.length 5),(1,.fn g cap),(5,I x.1),(6,I x.2.1)],.cells 0 (x.2.2.flatMap NodeR.enc)::hc⟩) (fun x=>l.length -x.2.1) (fun x=>Zec p l x.2.2 x.1 x.2.1) (j0,j0+1,l) ?_ ?_ ?_
 ·exact Wk.at _ rfl rfl (by simp)
 ·exact .start hj0 e2 e3
 rintro⟨i,j,m⟩ hd A hA
 simp only at hd hA
 have hml:=hd.len
 by_cases hj:j<l.length
 case neg=>
  obtain⟨d1,d2,d3⟩:=hd.done hj
  have s_:=An @hj (@hml)
  try simp[s_]
  repeat' ((first|((first|refine Tp ?_|refine Tn ?_|refine T2 ?_ ?_)<;>intro h_ e_ n_)|refine Dg 11 9 [] [] ?_|refine Dg 15 9 [] [] ?_|rw[Ip]|rw[In]|rw[Fz]|rw[Gz]|fail)<;>first|simp[e_,n_,s_]|simp[s_]|skip)
  exact⟨_,Wk.prefix 0 0 (i*5) rfl rfl,by simp[d2],by
   have:(putAt (m.flatMap NodeR.enc) (i*5) (zeros [AV.val (Value.int IntKind.i64 0),AV.val (Value.int IntKind.i64 0),AV.val (Value.int IntKind.i64 0),AV.val (Value.string ByteArray.empty),AV.sl true 0 []] (l.length -i))).take (i*5)=(m.take i).flatMap NodeR.enc:=by
    rw[←Zms]
    unfold putAt
    rw[List.append_assoc,List.take_left' (by simp;omega)]
   simp only[zeros] at this
   simp[this,d1]⟩
 have hmj:=hd.get hj
 have hx:=hp l[j] (List.getElem_mem hj)
 have hw:IntKind.i64.wrap ((j:Int)+1)=((j+1:Nat):Int):=by rw[Zf (by omega) (by omega)];omega
 have hi:=hd.lt
 have hwi:IntKind.i64.wrap ((i:Int)+1)=((i+1:Nat):Int):=by rw[Zf (by omega) (by omega)];omega
 cases hpp:p l[j] with
 |true=>
  rw[hpp] at hx
  have hlx:∀(b0:ABlk) (tl:Za) {Q:AV→Za→Prop},Q (B true) (b0::(hc++tl))→AInv Tryz.prog (.fn g cap) [.agg l[j].enc] (b0::(hc++tl)) Q:=fun b0 tl Q hq=>AInv.lend hx rfl (hfz _ b0 tl (by simp)) hq
  have s_:=An @hj (An @hml (An @hzs (An @hw (@hmj))))
  try simp[s_]
  repeat' ((first|((first|refine Tp ?_|refine Tn ?_|refine T2 ?_ ?_)<;>intro h_ e_ n_)|(refine hlx _ _ ?_;simp[hw])|(exact hA (i,j+1,m) _ (Wk.cutAt _ rfl (by simp) (by simp) (by simp;simpa using hhc) (by simp;simpa using hcr)) (hd.skip hj hpp) (by simp only;omega))|refine Dg 11 9 [] [] ?_|refine Dg 15 9 [] [] ?_|rw[Ip]|rw[In]|rw[Fz]|rw[Gz]|fail)<;>first|simp[e_,n_,s_]|simp[s_]|skip)
 |false=>
  rw[hpp] at hx
  have hlx:∀(b0:ABlk) (tl:Za) {Q:AV→Za→Prop},Q (B false) (b0::(hc++tl))→AInv Tryz.prog (.fn g cap) [.agg l[j].enc] (b0::(hc++tl)) Q:=fun b0 tl Q hq=>AInv.lend hx rfl (hfz _ b0 tl (by simp)) hq
  have him:i<m.length:=by omega
  have hil:i<l.length:=by omega
  have s_:=An @hj (An @hml (An @hzs (An @hw (An @hwi (An @hmj (An @him (@hil)))))))
  try simp[s_]
  repeat' ((first|((first|refine Tp ?_|refine Tn ?_|refine T2 ?_ ?_)<;>intro h_ e_ n_)|(refine hlx _ _ ?_;simp[hw,hwi,hmj,him,hil])|(exact hA (i+1,j+1,m.set i l[j]) _ (Wk.cutAt _ rfl (by simp) (by simp) (by simp;simpa using hhc) (by simp;simpa using hcr)) (hd.keep hj hpp) (by simp only;omega))|refine Dg 11 9 [] [] ?_|refine Dg 15 9 [] [] ?_|rw[Ip]|rw[In]|rw[Fz]|rw[Gz]|fail)<;>first|simp[e_,n_,s_]|simp[s_]|skip)
theorem Ztl (f:FSR):Zd Tryz.prog 27 [encF f] (B (fewS f)):=by
 refine Pm Tryz.func27 fun hfit=> ?_
 obtain⟨l,next⟩:=f
 simp[FSR.enc] at hfit
 have hll:=hfit.1
 simp only[maxLen] at hll
 simp[Tryz.f27,fewS,FSR.enc]
 refine AW.loopG (lit:=fun _=>false) (fun x:Nat×Int=>⟨38,pat [(1,.ptr 0 0 0),(3,I x.2),(4,I x.1)],[.cells 0 [encL NodeR.enc l,I next]]⟩) (fun x=>l.length -x.1) (fun x=>x.1≤l.length∧ZcJ x.2 (l.drop x.1)=ZcJ l.length l) (0,(l.length:Int)) ?_ ?_ ?_
 ·exact Wa
 ·simp
 rintro⟨i,n⟩ ⟨h1,h2⟩ A hA
 simp only at h1 h2
 by_cases hi:i<l.length
 case neg=>
  rw[ZmA hi] at h2
  have s_:=An @hi (Eq.symm (h2))
  try simp[s_]
  repeat' ((first|((first|refine Tp ?_|refine Tn ?_|refine T2 ?_ ?_)<;>intro h_ e_ n_)|rw[Ip]|rw[In]|rw[Fz]|rw[Gz]|fail)<;>first|simp[e_,n_,s_]|simp[s_]|skip)
 rw[ZpG hi] at h2
 by_cases hn:n≤200
 case neg=>
  rw[if_neg hn] at h2
  have s_:=An @hi (An @hn (Eq.symm (h2)))
  try simp[s_]
  repeat' ((first|((first|refine Tp ?_|refine Tn ?_|refine T2 ?_ ?_)<;>intro h_ e_ n_)|rw[Ip]|rw[In]|rw[Fz]|rw[Gz]|fail)<;>first|simp[e_,n_,s_]|simp[s_]|skip)
 rw[if_pos hn] at h2
 have hw2:=Zi hi hfit.1
 by_cases ht:5000<l[i].text.size
 ·rw[if_pos ht] at h2
  have s_:=An @hi (An @hn (An @NodeR.enc.eq_1 (An @ht (Eq.symm (h2)))))
  try simp[s_]
  repeat' ((first|((first|refine Tp ?_|refine Tn ?_|refine T2 ?_ ?_)<;>intro h_ e_ n_)|rw[Ip]|rw[In]|rw[Fz]|rw[Gz]|fail)<;>first|simp[e_,n_,s_]|simp[s_]|skip)
 ·rw[if_neg ht] at h2
  have s_:=An @hi (An @hn (An @NodeR.enc.eq_1 (An @hw2 (@ht))))
  try simp[s_]
  repeat' ((first|((first|refine Tp ?_|refine Tn ?_|refine T2 ?_ ?_)<;>intro h_ e_ n_)|(exact hA (i+1,IntKind.i64.wrap (n+l[i].l.length)) _ Wa ⟨by simp only;omega,h2⟩ (by simp only;omega))|rw[Ip]|rw[In]|rw[Fz]|rw[Gz]|fail)<;>first|simp[e_,n_,s_]|simp[s_]|skip)
theorem out1_ok (n:NodeR) (k:Int):Zd Tryz.prog 348 [encN n,.fp [I k]] (B (decide (n.ino=k))):=by
 refine Pm Tryz.func348 fun hfit=> ?_
 simp[Tryz.f348,NodeR.enc]
theorem tout_ok (f:FSR) (k:Int) (hl:f.l.length≤1000000):Zd Tryz.prog 339 [encF f,I k] (encF (outF f k)):=by
 refine Pm Tryz.func339 fun hfit=> ?_
 have hdel:=Znl f.l 348 [.ptr 1 0 0] [.fp [I k]] [.cells 0 [I k]] (fun n=>decide (n.ino=k)) (by simp) (by simp) (by simp) (fun fu b0 tl=>by simp) (fun x _=>out1_ok x k) hl
 simp[Tryz.f339,FSR.enc]
 refine AW.wkZ (WkZ.freeze [0] 2 (.fp [encL NodeR.enc f.l,I f.next]) (by simp)) ?_
 simp
 refine Dg 1 8 [] [(1,.t),(2,.e),(4,.e),(6,.t)] ?_
 simp
 refine ADcall.fresh [] (clone_ok f.l hl) (by simp) (by simp) ?_
 simp
 refine ADcall.fresh [3,1] hdel (by simp) (by simp) ?_
 simp[outF,outS,FSR.enc]
 rw[Zap (by simp) (by simp)]
 simp[FSR.enc]
theorem Zez (f:FSR) (n:NodeR) (hl:f.l.length≤100000) (hn:inI n.ino) (hm:n.ino≠9223372036854775807):Zd Tryz.prog 315 [encF f,encN n] (encF (putB f n)):=by
 obtain⟨hn1,hn2⟩:=hn
 have hw:IntKind.i64.wrap (n.ino+1)=n.ino+1:=Zf (by omega) (by omega)
 have hse:=search_ok f.l n.ino (by omega)
 have hple:=plc_le f.l n.ino
 by_cases h:plc f.l n.ino<f.l.length∧ZbV f.l (plc f.l n.ino)=n.ino
 ·obtain⟨h1,h2⟩:=h
  refine Pm Tryz.func315 fun hfit=> ?_
  simp only[putB,if_pos (An h1 h2)]
  generalize plc f.l n.ino=q at*
  simp[Tryz.f315,FSR.enc]
  have s_:=An @FSR.enc.eq_1 (An @h1 (An @h2 (@hw)))
  try simp[s_]
  repeat' ((first|((first|refine Tp ?_|refine Tn ?_|refine T2 ?_ ?_)<;>intro h_ e_ n_)|(refine AInv.fresh [] (clone_ok f.l (by omega)) (by simp) (by simp) ?_;simp[h1,h2,hw])|refine Pg hse ?_|rw[Ip]|rw[In]|rw[Fz]|rw[Gz]|fail)<;>first|simp[e_,n_,s_]|simp[s_]|skip)
 ·refine Pm Tryz.func315 fun hfit=> ?_
  simp only[putB,if_neg h]
  have hdec:(decide (plc f.l n.ino<f.l.length)&&decide (ZbV f.l (plc f.l n.ino)=n.ino))=false:=by
   rw[Bool.eq_false_iff];simpa using h
  rw[hdec] at hse
  generalize plc f.l n.ino=q at*
  have hins:=ZqA f.l q n hple (by omega)
  simp[Tryz.f315,FSR.enc]
  have s_:=An @FSR.enc.eq_1 (@hw)
  try simp[s_]
  repeat' ((first|((first|refine Tp ?_|refine Tn ?_|refine T2 ?_ ?_)<;>intro h_ e_ n_)|(refine AInv.fresh [] (clone_ok f.l (by omega)) (by simp) (by simp) ?_;simp[hw])|(refine AInv.fresh [3] hins (by simp) (by simp) ?_;simp[hw])|refine Pg hse ?_|rw[Ip]|rw[In]|rw[Fz]|rw[Gz]|fail)<;>first|simp[e_,n_,s_]|simp[s_]|skip)
theorem keyR_ok (n:RowR):Zd Tryz.prog 126 [.agg n.enc] (I n.client):=by
 refine Pm Tryz.func126 fun hfit=> ?_
 simp[Tryz.f126,RowR.enc]
abbrev byR:AV:= .fn 172 [.fp [.fn 126 []]]
theorem search1R_ok (n:RowR) (k:Int):Zd Tryz.prog 172 [.agg n.enc,I k,.fp [.fn 126 []]] (I (Lib.compareInt n.client k)):=by
 refine Pm Tryz.func172 fun hfit=> ?_
 simp[Tryz.f172,RowR.enc]
 have s_:= @RowR.enc.eq_1
 try simp[s_]
 repeat' ((first|((first|refine Tp ?_|refine Tn ?_|refine T2 ?_ ?_)<;>intro h_ e_ n_)|refine Pg (keyR_ok n) ?_|refine Pg (compare_ok n.client k) ?_|rw[Ip]|rw[In]|rw[Fz]|rw[Gz]|fail)<;>first|simp[e_,n_,s_]|simp[s_]|skip)
abbrev atR (l:List RowR) (i:Nat):Int:=(l.getD i .zero).client
theorem Znu (l:List RowR) (k:Int) (hl:l.length≤1000000):Zd Tryz.prog 171 [encL RowR.enc l,I k,byR] (.tup [I (bsGo (atR l) k 0 l.length),B (decide (bsGo (atR l) k 0 l.length<l.length)&&decide (atR l (bsGo (atR l) k 0 l.length)=k))]):=by
 refine Pm Tryz.func171 fun hfit=> ?_
 simp at hfit
 simp[Tryz.f171]
 refine AW.loopG (lit:=fun _=>false) (fun x:Nat×Nat=>⟨49,pat [(0,encL RowR.enc l),(1,I k),(2,byR),(8,I l.length),(9,I x.1),(10,I x.2)],[]⟩) (fun x=>x.2 -x.1) (fun x=>x.1≤x.2∧x.2≤l.length∧bsGo (atR l) k x.1 x.2=bsGo (atR l) k 0 l.length) (0,l.length) ?_ ?_ ?_
 ·exact Wk.at _ rfl rfl (by simp)
 ·simp
 rintro⟨i,j⟩ ⟨h1,h2,h3⟩ A hA
 simp only at h1 h2 h3
 have hat:∀m (h:m<l.length),atR l m=(l[m]).client:=fun m h=>by simp[atR,List.getD_eq_getElem?_getD,h]
 by_cases h:i<j
 case neg=>
  have hij:i=j:=by omega
  subst hij
  rw[Zdj h] at h3
  by_cases hi:i<l.length
  ·have e1:=hat i hi
   have s_:=An @h (An @hi (An (Eq.symm (h3)) (An @cmp_eq (An @RowR.enc.eq_1 (@e1)))))
   try simp[s_]
   repeat' ((first|((first|refine Tp ?_|refine Tn ?_|refine T2 ?_ ?_)<;>intro h_ e_ n_)|refine Pg (search1R_ok l[i] k) ?_|rw[Ip]|rw[In]|rw[Fz]|rw[Gz]|fail)<;>first|simp[e_,n_,s_]|simp[s_]|skip)
  ·have s_:=An @h (An @hi (Eq.symm (h3)))
   try simp[s_]
   repeat' ((first|((first|refine Tp ?_|refine Tn ?_|refine T2 ?_ ?_)<;>intro h_ e_ n_)|rw[Ip]|rw[In]|rw[Fz]|rw[Gz]|fail)<;>first|simp[e_,n_,s_]|simp[s_]|skip)
 rw[Zdi h] at h3
 have hm:(i+j)/2<l.length:=by omega
 have e1:=hat _ hm
 have w1:IntKind.i64.wrap ((i:Int)+j)=(i:Int)+j:=Zf (by omega) (by omega)
 have w2:((i:Int)+j)%18446744073709551616=(i:Int)+j:=by omega
 have w3:((i:Int)+j).fdiv 2=(((i+j)/2:Nat):Int):=by rw[Int.fdiv_eq_ediv_of_nonneg _ (by omega)];omega
 have w4:IntKind.i64.wrap (((i+j)/2:Nat):Int)=(((i+j)/2:Nat):Int):=Zf (by omega) (by omega)
 generalize hmm:(i+j)/2=m at*
 have w5:IntKind.i64.wrap ((m:Int)+1)=((m+1:Nat):Int):=by rw[Zf (by omega) (by omega)];omega
 have hk:atR l m<k∨¬atR l m<k:=Classical.em _
 rcases hk with hk|hk
 ·rw[if_pos hk] at h3
  rw[e1] at hk
  have s_:=An @h (An @w1 (An @w2 (An @w3 (An @w4 (An @w5 (An @hm (An @cmp_lt (An @RowR.enc.eq_1 (@hk)))))))))
  try simp[s_]
  repeat' ((first|((first|refine Tp ?_|refine Tn ?_|refine T2 ?_ ?_)<;>intro h_ e_ n_)|(exact hA (m+1,j) _ Wa ⟨by simp only;omega,h2,h3⟩ (by simp only;omega))|refine Pg (search1R_ok l[m] k) ?_|rw[Ip]|rw[In]|rw[Fz]|rw[Gz]|fail)<;>first|simp[e_,n_,s_]|simp[s_]|skip)
 ·rw[if_neg hk] at h3
  rw[e1] at hk
  have s_:=An @h (An @w1 (An @w2 (An @w3 (An @w4 (An @w5 (An @hm (An @cmp_lt (An @RowR.enc.eq_1 (@hk)))))))))
  try simp[s_]
  repeat' ((first|((first|refine Tp ?_|refine Tn ?_|refine T2 ?_ ?_)<;>intro h_ e_ n_)|(exact hA (i,m) _ Wa ⟨by simp only;omega,by simp only;omega,h3⟩ (by simp only;omega))|refine Pg (search1R_ok l[m] k) ?_|rw[Ip]|rw[In]|rw[Fz]|rw[Gz]|fail)<;>first|simp[e_,n_,s_]|simp[s_]|skip)
theorem Zwi (l:List RowR) (k:Int) (hr:Zn RowR.client l=true) (hl:l.length≤1000000):Zd Tryz.prog 140 [encL RowR.enc l,I k,.fn 126 []] (.tup [I (placeS RowR.client l k),B (ZW RowR.client l k).isSome]):=by
 have h1:=Znu l k hl
 have hat:∀m (h:m<l.length),atR l m=(l[m]).client:=fun m h=>by simp[atR,List.getD_eq_getElem?_getD,h]
 rw[ZeW RowR.client hr hat k] at h1
 have e:(decide (placeS RowR.client l k<l.length)&&decide (atR l (placeS RowR.client l k)=k))=(ZW RowR.client l k).isSome:=by
  cases hf:ZW RowR.client l k with
  |some x=>
   obtain⟨hp,e⟩:=Zaj RowR.client hr hf
   rw[hat _ hp,e]
   simp[hp,(Zu RowR.client hf).2]
  |none=>
   by_cases hp:placeS RowR.client l k<l.length
   ·have:=Zcw RowR.client hr hf hp
    rw[hat _ hp]
    simp[this]
   ·simp[hp]
 rw[e] at h1
 refine Pm Tryz.func140 fun hfit=> ?_
 simp[Tryz.f140]
 try simp
 repeat' ((first|((first|refine Tp ?_|refine Tn ?_|refine T2 ?_ ?_)<;>intro h_ e_ n_)|refine Lg h1 ?_|rw[Ip]|rw[In]|rw[Fz]|rw[Gz]|fail)<;>first|simp[e_,n_]|simp|skip)
theorem cloneR_ok (l:List RowR) (hl:l.length≤1000000):XCall Tryz.prog 173 [encL RowR.enc l] [] (.own 0 0 0 l.length 4) [.cells 0 (l.flatMap RowR.enc)]:=by
 refine XCall.mkE 4 (fun _=>false) Tryz.func173 rfl rfl rfl (Ent.mk Tryz.func173 (by kernel_rfl) rfl) (by simp) (by simp) (by simp) (by simp) (by simp) fun hfit=> ?_
 simp at hfit
 simp[Tryz.f173]
 rw[if_pos (by simp only[maxLen];omega)]
 simp
 intro h0
 subst h0
 simp
theorem keyD_ok (n:DecisionR):Zd Tryz.prog 75 [.agg n.enc] (I n.seq):=by
 refine Pm Tryz.func75 fun hfit=> ?_
 simp[Tryz.f75,DecisionR.enc]
abbrev byD:AV:= .fn 142 [.fp [.fn 75 []]]
theorem search1D_ok (n:DecisionR) (k:Int):Zd Tryz.prog 142 [.agg n.enc,I k,.fp [.fn 75 []]] (I (Lib.compareInt n.seq k)):=by
 refine Pm Tryz.func142 fun hfit=> ?_
 simp[Tryz.f142,DecisionR.enc]
 have s_:= @DecisionR.enc.eq_1
 try simp[s_]
 repeat' ((first|((first|refine Tp ?_|refine Tn ?_|refine T2 ?_ ?_)<;>intro h_ e_ n_)|refine Pg (keyD_ok n) ?_|refine Pg (compare_ok n.seq k) ?_|rw[Ip]|rw[In]|rw[Fz]|rw[Gz]|fail)<;>first|simp[e_,n_,s_]|simp[s_]|skip)
abbrev atD (l:List DecisionR) (i:Nat):Int:=(l.getD i .zero).seq
theorem Znv (l:List DecisionR) (k:Int) (hl:l.length≤1000000):Zd Tryz.prog 141 [encL DecisionR.enc l,I k,byD] (.tup [I (bsGo (atD l) k 0 l.length),B (decide (bsGo (atD l) k 0 l.length<l.length)&&decide (atD l (bsGo (atD l) k 0 l.length)=k))]):=by
 refine Pm Tryz.func141 fun hfit=> ?_
 simp at hfit
 simp[Tryz.f141]
 refine AW.loopG (lit:=fun _=>false) (fun x:Nat×Nat=>⟨49,pat [(0,encL DecisionR.enc l),(1,I k),(2,byD),(8,I l.length),(9,I x.1),(10,I x.2)],[]⟩) (fun x=>x.2 -x.1) (fun x=>x.1≤x.2∧x.2≤l.length∧bsGo (atD l) k x.1 x.2=bsGo (atD l) k 0 l.length) (0,l.length) ?_ ?_ ?_
 ·exact Wk.at _ rfl rfl (by simp)
 ·simp
 rintro⟨i,j⟩ ⟨h1,h2,h3⟩ A hA
 simp only at h1 h2 h3
 have hat:∀m (h:m<l.length),atD l m=(l[m]).seq:=fun m h=>by simp[atD,List.getD_eq_getElem?_getD,h]
 by_cases h:i<j
 case neg=>
  have hij:i=j:=by omega
  subst hij
  rw[Zdj h] at h3
  by_cases hi:i<l.length
  ·have e1:=hat i hi
   have s_:=An @h (An @hi (An (Eq.symm (h3)) (An @cmp_eq (An @DecisionR.enc.eq_1 (@e1)))))
   try simp[s_]
   repeat' ((first|((first|refine Tp ?_|refine Tn ?_|refine T2 ?_ ?_)<;>intro h_ e_ n_)|refine Pg (search1D_ok l[i] k) ?_|rw[Ip]|rw[In]|rw[Fz]|rw[Gz]|fail)<;>first|simp[e_,n_,s_]|simp[s_]|skip)
  ·have s_:=An @h (An @hi (Eq.symm (h3)))
   try simp[s_]
   repeat' ((first|((first|refine Tp ?_|refine Tn ?_|refine T2 ?_ ?_)<;>intro h_ e_ n_)|rw[Ip]|rw[In]|rw[Fz]|rw[Gz]|fail)<;>first|simp[e_,n_,s_]|simp[s_]|skip)
 rw[Zdi h] at h3
 have hm:(i+j)/2<l.length:=by omega
 have e1:=hat _ hm
 have w1:IntKind.i64.wrap ((i:Int)+j)=(i:Int)+j:=Zf (by omega) (by omega)
 have w2:((i:Int)+j)%18446744073709551616=(i:Int)+j:=by omega
 have w3:((i:Int)+j).fdiv 2=(((i+j)/2:Nat):Int):=by rw[Int.fdiv_eq_ediv_of_nonneg _ (by omega)];omega
 have w4:IntKind.i64.wrap (((i+j)/2:Nat):Int)=(((i+j)/2:Nat):Int):=Zf (by omega) (by omega)
 generalize hmm:(i+j)/2=m at*
 have w5:IntKind.i64.wrap ((m:Int)+1)=((m+1:Nat):Int):=by rw[Zf (by omega) (by omega)];omega
 have hk:atD l m<k∨¬atD l m<k:=Classical.em _
 rcases hk with hk|hk
 ·rw[if_pos hk] at h3
  rw[e1] at hk
  have s_:=An @h (An @w1 (An @w2 (An @w3 (An @w4 (An @w5 (An @hm (An @cmp_lt (An @DecisionR.enc.eq_1 (@hk)))))))))
  try simp[s_]
  repeat' ((first|((first|refine Tp ?_|refine Tn ?_|refine T2 ?_ ?_)<;>intro h_ e_ n_)|(exact hA (m+1,j) _ Wa ⟨by simp only;omega,h2,h3⟩ (by simp only;omega))|refine Pg (search1D_ok l[m] k) ?_|rw[Ip]|rw[In]|rw[Fz]|rw[Gz]|fail)<;>first|simp[e_,n_,s_]|simp[s_]|skip)
 ·rw[if_neg hk] at h3
  rw[e1] at hk
  have s_:=An @h (An @w1 (An @w2 (An @w3 (An @w4 (An @w5 (An @hm (An @cmp_lt (An @DecisionR.enc.eq_1 (@hk)))))))))
  try simp[s_]
  repeat' ((first|((first|refine Tp ?_|refine Tn ?_|refine T2 ?_ ?_)<;>intro h_ e_ n_)|(exact hA (i,m) _ Wa ⟨by simp only;omega,by simp only;omega,h3⟩ (by simp only;omega))|refine Pg (search1D_ok l[m] k) ?_|rw[Ip]|rw[In]|rw[Fz]|rw[Gz]|fail)<;>first|simp[e_,n_,s_]|simp[s_]|skip)
theorem ZoU (l:List DecisionR) (k:Int) (hr:Zn DecisionR.seq l=true) (hl:l.length≤1000000):Zd Tryz.prog 74 [encL DecisionR.enc l,I k,.fn 75 []] (.tup [I (placeS DecisionR.seq l k),B (ZW DecisionR.seq l k).isSome]):=by
 have h1:=Znv l k hl
 have hat:∀m (h:m<l.length),atD l m=(l[m]).seq:=fun m h=>by simp[atD,List.getD_eq_getElem?_getD,h]
 rw[ZeW DecisionR.seq hr hat k] at h1
 have e:(decide (placeS DecisionR.seq l k<l.length)&&decide (atD l (placeS DecisionR.seq l k)=k))=(ZW DecisionR.seq l k).isSome:=by
  cases hf:ZW DecisionR.seq l k with
  |some x=>
   obtain⟨hp,e⟩:=Zaj DecisionR.seq hr hf
   rw[hat _ hp,e]
   simp[hp,(Zu DecisionR.seq hf).2]
  |none=>
   by_cases hp:placeS DecisionR.seq l k<l.length
   ·have:=Zcw DecisionR.seq hr hf hp
    rw[hat _ hp]
    simp[this]
   ·simp[hp]
 rw[e] at h1
 refine Pm Tryz.func74 fun hfit=> ?_
 simp[Tryz.f74]
 try simp
 repeat' ((first|((first|refine Tp ?_|refine Tn ?_|refine T2 ?_ ?_)<;>intro h_ e_ n_)|refine Lg h1 ?_|rw[Ip]|rw[In]|rw[Fz]|rw[Gz]|fail)<;>first|simp[e_,n_]|simp|skip)
theorem cloneD_ok (l:List DecisionR) (hl:l.length≤1000000):XCall Tryz.prog 146 [encL DecisionR.enc l] [] (.own 0 0 0 l.length 2) [.cells 0 (l.flatMap DecisionR.enc)]:=by
 refine XCall.mkE 2 (fun _=>false) Tryz.func146 rfl rfl rfl (Ent.mk Tryz.func146 (by kernel_rfl) rfl) (by simp) (by simp) (by simp) (by simp) (by simp) fun hfit=> ?_
 simp at hfit
 simp[Tryz.f146]
 rw[if_pos (by simp only[maxLen];omega)]
 simp
 intro h0
 subst h0
 simp
theorem ZqU (l:List RowR) (i:Nat) (x:RowR) (hi:i≤l.length) (hl:l.length≤1000000):XCall Tryz.prog 174 [.own 0 0 0 l.length 4,I i,.sl true 1 x.enc] [.cells 0 (l.flatMap RowR.enc)] (.own 0 1 0 (l.length+1) 4) [.cells 1 ((insL l i x).flatMap RowR.enc)]:=by
 by_cases hi2:i=l.length
 case pos=>
  subst hi2
  refine XCall.mkG (fun s (_:Unit)=>s) (fun _=>false) Tryz.func174 rfl rfl rfl (Ent.mk Tryz.func174 (by kernel_rfl) rfl) (by simp) (by simp) (by simp) (by simp) (by simp) fun hfit=> ?_
  refine⟨WkE.one _ _,fun _=> ?_⟩
  simp[Tryz.f174]
  rw[if_pos (by simp only[maxLen];omega)]
  simp
  exact⟨_,Wk.refl _ _,by simp[ZdK]⟩
 have hi3:i<l.length:=by omega
 have hcp:∀cap,l.length≤cap→(l.length*4+(cap*4 -l.length*4))/4=cap:=fun cap h=>by omega
 have hw1:IntKind.i64.wrap ((l.length:Int)+1)=((l.length+1:Nat):Int):=by rw[Zf (by omega) (by omega)];omega
 have hw2:IntKind.i64.wrap ((i:Int)+1)=((i+1:Nat):Int):=by rw[Zf (by omega) (by omega)];omega
 have hw3:IntKind.i64.wrap ((l.length:Int)+1 -i)=((l.length+1 -i:Nat):Int):=by rw[Zf (by omega) (by omega)];omega
 have hw4:((i:Int)+((l.length+1 -i:Nat):Int)).toNat=l.length+1:=by omega
 have hm1:min 1 (l.length+1 -i)=1:=by omega
 have hm2:∀cap,l.length≤cap→min (i*4) (l.length*4+(cap*4 -l.length*4))=i*4:=fun cap h=>by omega
 have hov:∀(lb:Nat) (h:Za) (y:ABlk) (Q:AV→Za→Prop),h[0]? =some y→(blkCells y).map (·.1)=some 0→Q (B false) h→AInv Tryz.prog (.fn 203 []) [.sl true 1 x.enc,.own 0 0 (i+1) lb 4] h Q:=fun lb h y Q hy hv hq=>
  Zbr Tryz.func203 (by kernel_rfl) rfl (by kernel_rfl) rfl rfl (by kernel_rfl) (k:=4) (by kernel_rfl) true 1 _ _ 0 0 (i+1) lb hy hv (by omega) Q hq
 refine XCall.mkG (fun s (cap:{cap:Nat//l.length≤cap∧cap≤maxLen})=>ZbU s 0 0 4 (l.flatMap RowR.enc) cap.1) (fun _=>false) Tryz.func174 rfl rfl rfl (Ent.mk Tryz.func174 (by kernel_rfl) rfl) (by simp) (by simp) (by simp) (by simp) (by simp) fun hfit=> ?_
 refine⟨WkE.full (t:=0) (by simp) (by simp) (by omega) (by simp),?_⟩
 rintro⟨cap,hc1,hc2⟩
 have hcp1:=hcp cap hc1
 have hm3:=hm2 cap hc1
 have hi4:¬i=l.length:=by omega
 have hle:i≤l.length:=by omega
 generalize hA:List.replicate (cap*4 -l.length*4) AV.any=A
 have hAl:A.length=cap*4 -l.length*4:=by rw[←hA];simp
 have hLl:(l.flatMap RowR.enc).length=l.length*4:=Zod l
 have hta:(l.flatMap RowR.enc++A).take (i*4)=(l.flatMap RowR.enc).take (i*4):=List.take_append_of_le_length (by rw[hLl];omega)
 have hdr:(l.flatMap RowR.enc).drop (i*4)=(l.drop i).flatMap RowR.enc:=ZpB l i
 have hq0:(l.flatMap RowR.enc++A).drop (i*4)=(l.drop i).flatMap RowR.enc++A:=by rw[List.drop_append_of_le_length (by rw[hLl];omega),hdr]
 have hdl:((l.drop i).flatMap RowR.enc).length=l.length*4 -i*4:=by rw[Zod,List.length_drop];omega
 by_cases hr:l.length+1≤cap
 ·have hm4:min (l.length+1 -i) (l.length -i)=l.length -i:=by omega
  have hm5:min ((l.length+1 -i)*4) ((l.length -i)*4+(cap*4 -l.length*4))=(l.length+1 -i)*4:=by omega
  have hm6:min ((l.length+1 -i)*4) (l.length*4+(cap*4 -l.length*4) -i*4)=(l.length+1 -i)*4:=by omega
  have hq1:List.take ((l.length -i)*4) (List.take ((l.length+1 -i)*4) ((l.drop i).flatMap RowR.enc++A))=(l.drop i).flatMap RowR.enc:=by
   rw[List.take_take,Nat.min_eq_left (by omega),List.take_left' (by rw[hdl];omega)]
  have hq2:(putAt (l.flatMap RowR.enc++A) ((i+1)*4) ((l.drop i).flatMap RowR.enc)).length=cap*4:=by
   rw[ZB (by rw[List.length_append,hLl,hAl,hdl];omega),List.length_append,hLl,hAl];omega
  have hq3:(putAt (putAt (l.flatMap RowR.enc++A) ((i+1)*4) ((l.drop i).flatMap RowR.enc)) (i*4) x.enc).take ((l.length+1)*4)=(insL l i x).flatMap RowR.enc:=by
   have:=ZdI (L:=l.flatMap RowR.enc) (A:=A) (X:=x.enc) (a:=i*4) (k:=4) hLl (by omega) rfl (by rw[hAl];omega)
   rw[Zoh,hq0,List.take_left' (by rw[hdl])] at this
   rw[show(i+1)*4=i*4+4 by omega,show(l.length+1)*4=l.length*4+4 by omega]
   exact this
  have hone:∀y∈(l.drop i).flatMap RowR.enc,Zx y=true:=List.all_eq_true.1 (Zoc _)
  simp[Tryz.f174,ZbU,hA]
  have s_:=An @hcp1 (An @hw1 (An @hw2 (An @hw3 (An @hw4 (An @hm1 (An @hm3 (An @hm4 (An @hq0 (An @hq1 (An @hq2 (An @hi3 (An @hi4 (An @hle (@hr))))))))))))))
  try simp[s_]
  repeat' ((first|((first|refine Tp ?_|refine Tn ?_|refine T2 ?_ ?_)<;>intro h_ e_ n_)|(refine hov _ _ _ _ rfl rfl ?_;simp)|(refine optBif ⟨rfl,by rw[List.length_append,hLl,hAl];omega,by rw[List.length_take,List.length_append,hdl,hAl];omega,by rw[hm4,hq1];exact hone⟩ ?_;simp)|refine Dg 11 9 [] [] ?_|refine Dg 15 9 [] [] ?_|rw[Ip]|rw[In]|rw[Fz]|rw[Gz]|fail)<;>first|simp[e_,n_,s_]|simp[s_]|skip)
  exact⟨_,Wk.trans (Wk.prefix 0 0 ((l.length+1)*4) rfl rfl) (Wk.bump 6 0 0 0 (l.length+1) 4 (by simp) rfl),by simp[hq3]⟩
 ·have hm5:min ((l.length -i)*4) ((l.length -i)*4+(cap*4 -l.length*4))=(l.length -i)*4:=by omega
  have hq1:List.take ((l.length -i)*4) (List.take ((l.length -i)*4) ((l.drop i).flatMap RowR.enc++A))=(l.drop i).flatMap RowR.enc:=by
   rw[List.take_take,Nat.min_self,List.take_left' (by rw[hdl];omega)]
  have hq4:List.take ((l.length -i)*4) ((l.drop i).flatMap RowR.enc)=(l.drop i).flatMap RowR.enc:=List.take_of_length_le (by rw[hdl];omega)
  have hone:∀y∈(l.drop i).flatMap RowR.enc,Zx y=true:=List.all_eq_true.1 (Zoc _)
  simp[Tryz.f174,ZbU,hA]
  generalize hZ:(List.replicate (l.length+1 -i) [AV.val (Value.int IntKind.i64 0),AV.val (Value.int IntKind.i64 0),AV.val (Value.int IntKind.i64 0),AV.sl true 0 []]).flatten=Z
  have hZl:Z.length=(l.length+1 -i)*4:=by rw[←hZ];simp
  have hta':((l.flatMap RowR.enc).take (i*4)).length=i*4:=by rw[List.length_take,hLl];omega
  have hq2:(putAt ((l.flatMap RowR.enc).take (i*4)++Z) (i*4) x.enc).length=(l.length+1)*4:=by
   rw[ZB (by rw[List.length_append,hta',hZl,Zsp];omega),List.length_append,hta',hZl];omega
  have hq3:putAt (putAt ((l.flatMap RowR.enc).take (i*4)++Z) (i*4) x.enc) ((i+1)*4) ((l.drop i).flatMap RowR.enc)=(insL l i x).flatMap RowR.enc:=by
   have:=ZdJ (L:=l.flatMap RowR.enc) (A:=A) (X:=x.enc) (Z:=Z) (a:=i*4) (k:=4) hLl (by omega) rfl (by rw[hZl];omega)
   rw[Zoh,hta,hq0,List.take_left' (by rw[hdl])] at this
   rw[show(i+1)*4=i*4+4 by omega]
   exact this
  have s_:=An @hcp1 (An @hw1 (An @hw2 (An @hw3 (An @hw4 (An @hm1 (An @hm3 (An @hq0 (An @hq1 (An @hq4 (An @hta (An @hZ (An @hi3 (An @hi4 (An @hle (@hr)))))))))))))))
  try simp[s_]
  repeat' ((first|((first|refine Tp ?_|refine Tn ?_|refine T2 ?_ ?_)<;>intro h_ e_ n_)|(refine optBif ⟨by rw[hq2];omega,hone⟩ ?_;simp)|refine Dg 11 9 [] [] ?_|refine Dg 15 9 [] [] ?_|rw[Ip]|rw[In]|rw[Fz]|rw[Gz]|fail)<;>first|simp[e_,n_,s_]|simp[s_]|skip)
  exact⟨_,Wk.move 6 0 1 0 0 (l.length+1) 4 (by decide) (by simp;omega) rfl rfl rfl,by simp[hq3]⟩
theorem ZqV (l:List DecisionR) (i:Nat) (x:DecisionR) (hi:i≤l.length) (hl:l.length≤1000000):XCall Tryz.prog 213 [.own 0 0 0 l.length 2,I i,.sl true 1 x.enc] [.cells 0 (l.flatMap DecisionR.enc)] (.own 0 1 0 (l.length+1) 2) [.cells 1 ((insL l i x).flatMap DecisionR.enc)]:=by
 by_cases hi2:i=l.length
 case pos=>
  subst hi2
  refine XCall.mkG (fun s (_:Unit)=>s) (fun _=>false) Tryz.func213 rfl rfl rfl (Ent.mk Tryz.func213 (by kernel_rfl) rfl) (by simp) (by simp) (by simp) (by simp) (by simp) fun hfit=> ?_
  refine⟨WkE.one _ _,fun _=> ?_⟩
  simp[Tryz.f213]
  rw[if_pos (by simp only[maxLen];omega)]
  simp
  exact⟨_,Wk.refl _ _,by simp[ZdK]⟩
 have hi3:i<l.length:=by omega
 have hcp:∀cap,l.length≤cap→(l.length*2+(cap*2 -l.length*2))/2=cap:=fun cap h=>by omega
 have hw1:IntKind.i64.wrap ((l.length:Int)+1)=((l.length+1:Nat):Int):=by rw[Zf (by omega) (by omega)];omega
 have hw2:IntKind.i64.wrap ((i:Int)+1)=((i+1:Nat):Int):=by rw[Zf (by omega) (by omega)];omega
 have hw3:IntKind.i64.wrap ((l.length:Int)+1 -i)=((l.length+1 -i:Nat):Int):=by rw[Zf (by omega) (by omega)];omega
 have hw4:((i:Int)+((l.length+1 -i:Nat):Int)).toNat=l.length+1:=by omega
 have hm1:min 1 (l.length+1 -i)=1:=by omega
 have hm2:∀cap,l.length≤cap→min (i*2) (l.length*2+(cap*2 -l.length*2))=i*2:=fun cap h=>by omega
 have hov:∀(lb:Nat) (h:Za) (y:ABlk) (Q:AV→Za→Prop),h[0]? =some y→(blkCells y).map (·.1)=some 0→Q (B false) h→AInv Tryz.prog (.fn 244 []) [.sl true 1 x.enc,.own 0 0 (i+1) lb 2] h Q:=fun lb h y Q hy hv hq=>
  Zbr Tryz.func244 (by kernel_rfl) rfl (by kernel_rfl) rfl rfl (by kernel_rfl) (k:=2) (by kernel_rfl) true 1 _ _ 0 0 (i+1) lb hy hv (by omega) Q hq
 refine XCall.mkG (fun s (cap:{cap:Nat//l.length≤cap∧cap≤maxLen})=>ZbU s 0 0 2 (l.flatMap DecisionR.enc) cap.1) (fun _=>false) Tryz.func213 rfl rfl rfl (Ent.mk Tryz.func213 (by kernel_rfl) rfl) (by simp) (by simp) (by simp) (by simp) (by simp) fun hfit=> ?_
 refine⟨WkE.full (t:=0) (by simp) (by simp) (by omega) (by simp),?_⟩
 rintro⟨cap,hc1,hc2⟩
 have hcp1:=hcp cap hc1
 have hm3:=hm2 cap hc1
 have hi4:¬i=l.length:=by omega
 have hle:i≤l.length:=by omega
 generalize hA:List.replicate (cap*2 -l.length*2) AV.any=A
 have hAl:A.length=cap*2 -l.length*2:=by rw[←hA];simp
 have hLl:(l.flatMap DecisionR.enc).length=l.length*2:=ZeT l
 have hta:(l.flatMap DecisionR.enc++A).take (i*2)=(l.flatMap DecisionR.enc).take (i*2):=List.take_append_of_le_length (by rw[hLl];omega)
 have hdr:(l.flatMap DecisionR.enc).drop (i*2)=(l.drop i).flatMap DecisionR.enc:=ZgX l i
 have hq0:(l.flatMap DecisionR.enc++A).drop (i*2)=(l.drop i).flatMap DecisionR.enc++A:=by rw[List.drop_append_of_le_length (by rw[hLl];omega),hdr]
 have hdl:((l.drop i).flatMap DecisionR.enc).length=l.length*2 -i*2:=by rw[ZeT,List.length_drop];omega
 by_cases hr:l.length+1≤cap
 ·have hm4:min (l.length+1 -i) (l.length -i)=l.length -i:=by omega
  have hm5:min ((l.length+1 -i)*2) ((l.length -i)*2+(cap*2 -l.length*2))=(l.length+1 -i)*2:=by omega
  have hm6:min ((l.length+1 -i)*2) (l.length*2+(cap*2 -l.length*2) -i*2)=(l.length+1 -i)*2:=by omega
  have hq1:List.take ((l.length -i)*2) (List.take ((l.length+1 -i)*2) ((l.drop i).flatMap DecisionR.enc++A))=(l.drop i).flatMap DecisionR.enc:=by
   rw[List.take_take,Nat.min_eq_left (by omega),List.take_left' (by rw[hdl];omega)]
  have hq2:(putAt (l.flatMap DecisionR.enc++A) ((i+1)*2) ((l.drop i).flatMap DecisionR.enc)).length=cap*2:=by
   rw[ZB (by rw[List.length_append,hLl,hAl,hdl];omega),List.length_append,hLl,hAl];omega
  have hq3:(putAt (putAt (l.flatMap DecisionR.enc++A) ((i+1)*2) ((l.drop i).flatMap DecisionR.enc)) (i*2) x.enc).take ((l.length+1)*2)=(insL l i x).flatMap DecisionR.enc:=by
   have:=ZdI (L:=l.flatMap DecisionR.enc) (A:=A) (X:=x.enc) (a:=i*2) (k:=2) hLl (by omega) rfl (by rw[hAl];omega)
   rw[ZeU,hq0,List.take_left' (by rw[hdl])] at this
   rw[show(i+1)*2=i*2+2 by omega,show(l.length+1)*2=l.length*2+2 by omega]
   exact this
  have hone:∀y∈(l.drop i).flatMap DecisionR.enc,Zx y=true:=List.all_eq_true.1 (ZeS _)
  simp[Tryz.f213,ZbU,hA]
  have s_:=An @hcp1 (An @hw1 (An @hw2 (An @hw3 (An @hw4 (An @hm1 (An @hm3 (An @hm4 (An @hq0 (An @hq1 (An @hq2 (An @hi3 (An @hi4 (An @hle (@hr))))))))))))))
  try simp[s_]
  repeat' ((first|((first|refine Tp ?_|refine Tn ?_|refine T2 ?_ ?_)<;>intro h_ e_ n_)|(refine hov _ _ _ _ rfl rfl ?_;simp)|(refine optBif ⟨rfl,by rw[List.length_append,hLl,hAl];omega,by rw[List.length_take,List.length_append,hdl,hAl];omega,by rw[hm4,hq1];exact hone⟩ ?_;simp)|refine Dg 11 9 [] [] ?_|refine Dg 15 9 [] [] ?_|rw[Ip]|rw[In]|rw[Fz]|rw[Gz]|fail)<;>first|simp[e_,n_,s_]|simp[s_]|skip)
  exact⟨_,Wk.trans (Wk.prefix 0 0 ((l.length+1)*2) rfl rfl) (Wk.bump 6 0 0 0 (l.length+1) 2 (by simp) rfl),by simp[hq3]⟩
 ·have hm5:min ((l.length -i)*2) ((l.length -i)*2+(cap*2 -l.length*2))=(l.length -i)*2:=by omega
  have hq1:List.take ((l.length -i)*2) (List.take ((l.length -i)*2) ((l.drop i).flatMap DecisionR.enc++A))=(l.drop i).flatMap DecisionR.enc:=by
   rw[List.take_take,Nat.min_self,List.take_left' (by rw[hdl];omega)]
  have hq4:List.take ((l.length -i)*2) ((l.drop i).flatMap DecisionR.enc)=(l.drop i).flatMap DecisionR.enc:=List.take_of_length_le (by rw[hdl];omega)
  have hone:∀y∈(l.drop i).flatMap DecisionR.enc,Zx y=true:=List.all_eq_true.1 (ZeS _)
  simp[Tryz.f213,ZbU,hA]
  generalize hZ:(List.replicate (l.length+1 -i) [AV.val (Value.int IntKind.i64 0),AV.val (Value.bool false)]).flatten=Z
  have hZl:Z.length=(l.length+1 -i)*2:=by rw[←hZ];simp
  have hta':((l.flatMap DecisionR.enc).take (i*2)).length=i*2:=by rw[List.length_take,hLl];omega
  have hq2:(putAt ((l.flatMap DecisionR.enc).take (i*2)++Z) (i*2) x.enc).length=(l.length+1)*2:=by
   rw[ZB (by rw[List.length_append,hta',hZl,ZhY];omega),List.length_append,hta',hZl];omega
  have hq3:putAt (putAt ((l.flatMap DecisionR.enc).take (i*2)++Z) (i*2) x.enc) ((i+1)*2) ((l.drop i).flatMap DecisionR.enc)=(insL l i x).flatMap DecisionR.enc:=by
   have:=ZdJ (L:=l.flatMap DecisionR.enc) (A:=A) (X:=x.enc) (Z:=Z) (a:=i*2) (k:=2) hLl (by omega) rfl (by rw[hZl];omega)
   rw[ZeU,hta,hq0,List.take_left' (by rw[hdl])] at this
   rw[show(i+1)*2=i*2+2 by omega]
   exact this
  have s_:=An @hcp1 (An @hw1 (An @hw2 (An @hw3 (An @hw4 (An @hm1 (An @hm3 (An @hq0 (An @hq1 (An @hq4 (An @hta (An @hZ (An @hi3 (An @hi4 (An @hle (@hr)))))))))))))))
  try simp[s_]
  repeat' ((first|((first|refine Tp ?_|refine Tn ?_|refine T2 ?_ ?_)<;>intro h_ e_ n_)|(refine optBif ⟨by rw[hq2];omega,hone⟩ ?_;simp)|refine Dg 11 9 [] [] ?_|refine Dg 15 9 [] [] ?_|rw[Ip]|rw[In]|rw[Fz]|rw[Gz]|fail)<;>first|simp[e_,n_,s_]|simp[s_]|skip)
  exact⟨_,Wk.move 6 0 1 0 0 (l.length+1) 2 (by decide) (by simp;omega) rfl rfl rfl,by simp[hq3]⟩
theorem ZqW (l:List DecisionR) (g:FuncId) (cap:List AV) (p:DecisionR→Bool) (hcap:cap.all neat=true) (hp:∀x∈l,Zd Tryz.prog g (.agg x.enc::cap) (B (p x))) (hl:l.length≤1000000):Zd Tryz.prog 175 [encL DecisionR.enc l,.fn g cap] (I (idxS p l)):=by
 refine Zd.mk (fun _=>false) Tryz.func175 rfl rfl rfl (Ent.mk Tryz.func175 (by kernel_rfl) rfl) (by simp[hcap]) (by simp) fun hfit=> ?_
 simp at hfit
 simp[Tryz.f175]
 refine AW.loopG (lit:=fun _=>false) (fun i:Nat=>⟨19,pat [(0,encL DecisionR.enc l),(1,.fn g cap),(7,I l.length),(8,I i)],[]⟩) (fun i=>l.length -i) (fun i=>i≤l.length∧ZaS p i (l.drop i)=idxS p l) 0 ?_ ?_ ?_
 ·exact Wk.at _ rfl rfl (by simp)
 ·simp[idxS]
 rintro i ⟨h1,h2⟩ A hA
 by_cases hi:i<l.length
 case neg=>
  rw[ZcH hi] at h2
  have s_:=An @hi (Eq.symm (h2))
  try simp[s_]
  repeat' ((first|((first|refine Tp ?_|refine Tn ?_|refine T2 ?_ ?_)<;>intro h_ e_ n_)|refine Dg 11 9 [] [] ?_|refine Dg 15 9 [] [] ?_|rw[Ip]|rw[In]|rw[Fz]|rw[Gz]|fail)<;>first|simp[e_,n_,s_]|simp[s_]|skip)
 rw[ZdL hi] at h2
 have hw:=Zi hi hfit.1.1
 have hpi:=hp l[i] (List.getElem_mem hi)
 cases hpp:p l[i] with
 |true=>
  rw[hpp] at hpi
  simp only[hpp,if_true] at h2
  have s_:=An @hi (An (Eq.symm (h2)) (@hpp))
  try simp[s_]
  repeat' ((first|((first|refine Tp ?_|refine Tn ?_|refine T2 ?_ ?_)<;>intro h_ e_ n_)|refine Pg hpi ?_|refine Dg 11 9 [] [] ?_|refine Dg 15 9 [] [] ?_|rw[Ip]|rw[In]|rw[Fz]|rw[Gz]|fail)<;>first|simp[e_,n_,s_]|simp[s_]|skip)
 |false=>
  rw[hpp] at hpi
  simp only[hpp,Bool.false_eq_true,if_false] at h2
  have s_:=An @hi (An @hw (@hpp))
  try simp[s_]
  repeat' ((first|((first|refine Tp ?_|refine Tn ?_|refine T2 ?_ ?_)<;>intro h_ e_ n_)|(exact hA (i+1) _ Wa ⟨by omega,h2⟩ (by omega))|refine Pg hpi ?_|refine Dg 11 9 [] [] ?_|refine Dg 15 9 [] [] ?_|rw[Ip]|rw[In]|rw[Fz]|rw[Gz]|fail)<;>first|simp[e_,n_,s_]|simp[s_]|skip)
theorem Znw (l:List DecisionR) (g:FuncId) (cap cap':List AV) (hc:Za) (p:DecisionR→Bool) (hcap:cap'.all neat=true) (hcr:cap.all (refsLt (hc.length+1))=true) (hhc:hc.all (ABlk.refsLt (hc.length+1))=true) (hfr:∀(f:Nat) (b0:ABlk) (tl:Za),frzs (b0::(hc++tl)) 0 (f+3) cap=some cap')
  (hp:∀x∈l,Zd Tryz.prog g (.agg x.enc::cap') (B (p x))) (hl:l.length≤1000000):XCall Tryz.prog 145 [.own 0 0 0 l.length 2,.fn g cap] (.cells 0 (l.flatMap DecisionR.enc)::hc) (.own 0 0 0 (l.filter fun x=> !p x).length 2) (.cells 0 ((l.filter fun x=> !p x).flatMap DecisionR.enc)::hc):=by
 refine XCall.mkG (fun s (_:Unit)=>s) (fun _=>false) Tryz.func145 rfl rfl rfl (Ent.mk Tryz.func145 (by kernel_rfl) rfl) (by simp;simpa using hcr) (by simp;simpa using hhc) (by simp) (by simp) (by simp;simpa using hhc) fun hfit=> ?_
 refine⟨WkE.one _ _,fun _=> ?_⟩
 have hix:=ZqW l g cap' p hcap hp hl
 have hfz:∀(v:AV) (b0:ABlk) (tl:Za),neat v=true→(([v]++cap).mapM (frz (b0::(hc++tl)) 0 12))=some (v::cap'):=fun v b0 tl hv=>by
  have h2:cap.mapM (frz (b0::(hc++tl)) 0 12)=some cap':=hfr 9 b0 tl
  rw[List.singleton_append,List.mapM_cons,ZbZ _ _ _ hv,h2];rfl
 have hlend:∀{Q:AV→Za→Prop},Q (I (idxS p l)) (.cells 0 (l.flatMap DecisionR.enc)::hc)→AInv Tryz.prog (.fn 175 []) [.own 0 0 0 l.length 2,.fn g cap] (.cells 0 (l.flatMap DecisionR.enc)::hc) Q:=fun hq=>
  AInv.lend hix rfl (by
   have:=hfr 8 (.cells 0 (l.flatMap DecisionR.enc)) []
   rw[List.append_nil] at this
   rw[List.append_nil,List.mapM_cons,List.mapM_cons,List.mapM_nil,Zmh,List.getElem?_cons_zero,Zap (by simp) (by simp),ZrP,this]
   rfl) hq
 have hzs:∀x:DecisionR,setMany [AV.val (Value.int IntKind.i64 0),AV.val (Value.bool false)] 0 x.enc=x.enc:=fun _=>rfl
 by_cases h0:idxS p l= -1
 ·obtain⟨e1,_⟩:=ZeX h0
  simp[Tryz.f145]
  have s_:=h0
  try simp[s_]
  repeat' ((first|((first|refine Tp ?_|refine Tn ?_|refine T2 ?_ ?_)<;>intro h_ e_ n_)|(refine hlend ?_;simp[h0])|refine Dg 11 9 [] [] ?_|refine Dg 15 9 [] [] ?_|rw[Ip]|rw[In]|rw[Fz]|rw[Gz]|fail)<;>first|simp[e_,n_,s_]|simp[s_]|skip)
  exact⟨_,Wk.refl _ _,by simp[e1]⟩
 obtain⟨j0,hj0,e1,e2,e3⟩:=ZeY h0
 have hw0:IntKind.i64.wrap ((j0:Int)+1)=(j0:Int)+1:=Zf (by omega) (by omega)
 have hn0:¬((j0:Int)= -1):=by omega
 simp[Tryz.f145]
 have s_:=An @e1 (An @hw0 (@hn0))
 try simp[s_]
 repeat' ((first|((first|refine Tp ?_|refine Tn ?_|refine T2 ?_ ?_)<;>intro h_ e_ n_)|(refine hlend ?_;simp[e1,hw0,hn0])|refine Dg 11 9 [] [] ?_|refine Dg 15 9 [] [] ?_|rw[Ip]|rw[In]|rw[Fz]|rw[Gz]|fail)<;>first|simp[e_,n_,s_]|simp[s_]|skip)
 refine AW.loopG (lit:=fun _=>false) (fun x:Nat×Nat×List DecisionR=>⟨42,pat [(0,.own 0 0 0 l.length 2),(1,.fn g cap),(5,I x.1),(6,I x.2.1)],.cells 0 (x.2.2.flatMap DecisionR.enc)::hc⟩) (fun x=>l.length -x.2.1) (fun x=>Zec p l x.2.2 x.1 x.2.1) (j0,j0+1,l) ?_ ?_ ?_
 ·exact Wk.at _ rfl rfl (by simp)
 ·exact .start hj0 e2 e3
 rintro⟨i,j,m⟩ hd A hA
 simp only at hd hA
 have hml:=hd.len
 by_cases hj:j<l.length
 case neg=>
  obtain⟨d1,d2,d3⟩:=hd.done hj
  have s_:=An @hj (@hml)
  try simp[s_]
  repeat' ((first|((first|refine Tp ?_|refine Tn ?_|refine T2 ?_ ?_)<;>intro h_ e_ n_)|refine Dg 11 9 [] [] ?_|refine Dg 15 9 [] [] ?_|rw[Ip]|rw[In]|rw[Fz]|rw[Gz]|fail)<;>first|simp[e_,n_,s_]|simp[s_]|skip)
  exact⟨_,Wk.prefix 0 0 (i*2) rfl rfl,by simp[d2],by
   have:(putAt (m.flatMap DecisionR.enc) (i*2) (zeros [AV.val (Value.int IntKind.i64 0),AV.val (Value.bool false)] (l.length -i))).take (i*2)=(m.take i).flatMap DecisionR.enc:=by
    rw[←ZgW]
    unfold putAt
    rw[List.append_assoc,List.take_left' (by simp;omega)]
   simp only[zeros] at this
   simp[this,d1]⟩
 have hmj:=hd.get hj
 have hx:=hp l[j] (List.getElem_mem hj)
 have hw:IntKind.i64.wrap ((j:Int)+1)=((j+1:Nat):Int):=by rw[Zf (by omega) (by omega)];omega
 have hi:=hd.lt
 have hwi:IntKind.i64.wrap ((i:Int)+1)=((i+1:Nat):Int):=by rw[Zf (by omega) (by omega)];omega
 cases hpp:p l[j] with
 |true=>
  rw[hpp] at hx
  have hlx:∀(b0:ABlk) (tl:Za) {Q:AV→Za→Prop},Q (B true) (b0::(hc++tl))→AInv Tryz.prog (.fn g cap) [.agg l[j].enc] (b0::(hc++tl)) Q:=fun b0 tl Q hq=>AInv.lend hx rfl (hfz _ b0 tl (by simp)) hq
  have s_:=An @hj (An @hml (An @hzs (An @hw (@hmj))))
  try simp[s_]
  repeat' ((first|((first|refine Tp ?_|refine Tn ?_|refine T2 ?_ ?_)<;>intro h_ e_ n_)|(refine hlx _ _ ?_;simp[hw])|(exact hA (i,j+1,m) _ (Wk.cutAt _ rfl (by simp) (by simp) (by simp;simpa using hhc) (by simp;simpa using hcr)) (hd.skip hj hpp) (by simp only;omega))|refine Dg 11 9 [] [] ?_|refine Dg 15 9 [] [] ?_|rw[Ip]|rw[In]|rw[Fz]|rw[Gz]|fail)<;>first|simp[e_,n_,s_]|simp[s_]|skip)
 |false=>
  rw[hpp] at hx
  have hlx:∀(b0:ABlk) (tl:Za) {Q:AV→Za→Prop},Q (B false) (b0::(hc++tl))→AInv Tryz.prog (.fn g cap) [.agg l[j].enc] (b0::(hc++tl)) Q:=fun b0 tl Q hq=>AInv.lend hx rfl (hfz _ b0 tl (by simp)) hq
  have him:i<m.length:=by omega
  have hil:i<l.length:=by omega
  have s_:=An @hj (An @hml (An @hzs (An @hw (An @hwi (An @hmj (An @him (@hil)))))))
  try simp[s_]
  repeat' ((first|((first|refine Tp ?_|refine Tn ?_|refine T2 ?_ ?_)<;>intro h_ e_ n_)|(refine hlx _ _ ?_;simp[hw,hwi,hmj,him,hil])|(exact hA (i+1,j+1,m.set i l[j]) _ (Wk.cutAt _ rfl (by simp) (by simp) (by simp;simpa using hhc) (by simp;simpa using hcr)) (hd.keep hj hpp) (by simp only;omega))|refine Dg 11 9 [] [] ?_|refine Dg 15 9 [] [] ?_|rw[Ip]|rw[In]|rw[Fz]|rw[Gz]|fail)<;>first|simp[e_,n_,s_]|simp[s_]|skip)
theorem ZtM (l:List RowR) (c e n:Int) (h:badS c e n=true):Zd Tryz.prog 73 [encL RowR.enc l,I c,I e,I n] (.tup [.agg RowR.zero.enc,I 0,I 1]):=by
 simp only[badS,Bool.or_eq_true,decide_eq_true_eq] at h
 refine Pm Tryz.func73 fun hfit=> ?_
 simp[Tryz.f73]
 by_cases h1:c<0
 ·have s_:=An @h1 (An @RowR.enc.eq_1 (@RowR.zero.eq_1))
  try simp[s_]
  repeat' ((first|((first|refine Tp ?_|refine Tn ?_|refine T2 ?_ ?_)<;>intro h_ e_ n_)|rw[Ip]|rw[In]|rw[Fz]|rw[Gz]|fail)<;>first|simp[e_,n_,s_]|simp[s_]|skip)
 by_cases h2:e<1
 ·have s_:=An @h1 (An @h2 (An @RowR.enc.eq_1 (@RowR.zero.eq_1)))
  try simp[s_]
  repeat' ((first|((first|refine Tp ?_|refine Tn ?_|refine T2 ?_ ?_)<;>intro h_ e_ n_)|rw[Ip]|rw[In]|rw[Fz]|rw[Gz]|fail)<;>first|simp[e_,n_,s_]|simp[s_]|skip)
 have h3:n<1:=by omega
 have s_:=An @h1 (An @h2 (An @h3 (An @RowR.enc.eq_1 (@RowR.zero.eq_1))))
 try simp[s_]
 repeat' ((first|((first|refine Tp ?_|refine Tn ?_|refine T2 ?_ ?_)<;>intro h_ e_ n_)|rw[Ip]|rw[In]|rw[Fz]|rw[Gz]|fail)<;>first|simp[e_,n_,s_]|simp[s_]|skip)
theorem ZtN (l:List RowR) (c e n:Int) (h:badS c e n=false) (hr:Zn RowR.client l=true) (hl:l.length≤1000000):Zd Tryz.prog 73 [encL RowR.enc l,I c,I e,I n] (.tup [.agg (rowS l c e n).enc,I (placeS RowR.client l c),I (whyS l c e n)]):=by
 obtain⟨h1,h2,h3⟩:=ZdO h
 have hf:=Zwi l c hr hl
 simp only[rowS,whyS,h]
 cases hx:ZW RowR.client l c with
 |none=>
  rw[hx] at hf
  simp only[Option.isSome_none] at hf
  refine Pm Tryz.func73 fun hfit=> ?_
  simp[Tryz.f73]
  have s_:=An @h1 (An @h2 (An @h3 (@RowR.enc.eq_1)))
  try simp[s_]
  repeat' ((first|((first|refine Tp ?_|refine Tn ?_|refine T2 ?_ ?_)<;>intro h_ e_ n_)|refine Pg hf ?_|rw[Ip]|rw[In]|rw[Fz]|rw[Gz]|fail)<;>first|simp[e_,n_,s_]|simp[s_]|skip)
 |some r=>
  rw[hx] at hf
  simp only[Option.isSome_some] at hf
  obtain⟨hp,hpx⟩:=Zaj RowR.client hr hx
  generalize placeS RowR.client l c=q at*
  subst hpx
  refine Pm Tryz.func73 fun hfit=> ?_
  simp[Tryz.f73]
  by_cases h4:l[q].epoch<e
  ·have h5:¬l[q].epoch=e:=by omega
   have s_:=An @h1 (An @h2 (An @h3 (An @h4 (An @h5 (An @hp (@RowR.enc.eq_1))))))
   try simp[s_]
   repeat' ((first|((first|refine Tp ?_|refine Tn ?_|refine T2 ?_ ?_)<;>intro h_ e_ n_)|refine Pg hf ?_|rw[Ip]|rw[In]|rw[Fz]|rw[Gz]|fail)<;>first|simp[e_,n_,s_]|simp[s_]|skip)
  by_cases h5:e<l[q].epoch
  ·have h6:¬l[q].epoch=e:=by omega
   have s_:=An @h1 (An @h2 (An @h3 (An @h4 (An @h5 (An @h6 (An @hp (@RowR.enc.eq_1)))))))
   try simp[s_]
   repeat' ((first|((first|refine Tp ?_|refine Tn ?_|refine T2 ?_ ?_)<;>intro h_ e_ n_)|refine Pg hf ?_|rw[Ip]|rw[In]|rw[Fz]|rw[Gz]|fail)<;>first|simp[e_,n_,s_]|simp[s_]|skip)
  have h6:l[q].epoch=e:=by omega
  have h7:¬e<e:=by omega
  have s_:=An @h1 (An @h2 (An @h3 (An @h6 (An @h7 (An @hp (@RowR.enc.eq_1))))))
  try simp[s_]
  repeat' ((first|((first|refine Tp ?_|refine Tn ?_|refine T2 ?_ ?_)<;>intro h_ e_ n_)|refine Pg hf ?_|rw[Ip]|rw[In]|rw[Fz]|rw[Gz]|fail)<;>first|simp[e_,n_,s_]|simp[s_]|skip)
theorem ZhT {l:List RowR} (R:Zaa l) (c e n:Int):Zn DecisionR.seq (rowS l c e n).l=true∧(rowS l c e n).l.length≤256:=by
 unfold rowS
 split
 ·exact⟨rfl,by simp[RowR.zero]⟩
 ·split
  ·exact⟨rfl,by simp⟩
  ·rename_i r hr
   split
   ·have:=R.ok r (Zu _ hr).1
    exact⟨this.rise,this.len⟩
   ·exact⟨rfl,by simp⟩
theorem ZtO (l:List RowR) (c e n:Int) (R:Zaa l):Zd Tryz.prog 36 [encL RowR.enc l,I c,I e,I n] (.tup [B (askS l c e n).1,I (askS l c e n).2]):=by
 have hl:=R.len
 cases hb:badS c e n with
 |true=>
  have h1:=ZtM l c e n hb
  have hw:whyS l c e n=1:=by simp[whyS,hb]
  have hs:askS l c e n=(false,1):=by simp[askS,hw]
  refine Pm Tryz.func36 fun hfit=> ?_
  simp[Tryz.f36,hs]
  have s_:=An @RowR.zero.eq_1 (@RowR.enc.eq_1)
  try simp[s_]
  repeat' ((first|((first|refine Tp ?_|refine Tn ?_|refine T2 ?_ ?_)<;>intro h_ e_ n_)|refine Pg h1 ?_|rw[Ip]|rw[In]|rw[Fz]|rw[Gz]|fail)<;>first|simp[e_,n_,s_]|simp[s_]|skip)
 |false=>
  have h1:=ZtN l c e n hb R.rise (by omega)
  obtain⟨r1,r2⟩:=ZhT R c e n
  generalize hrw:rowS l c e n=r at*
  generalize hwy:whyS l c e n=y at*
  generalize placeS RowR.client l c=q at*
  by_cases h2:y=0
  case neg=>
   have hs:askS l c e n=(false,y):=by simp[askS,hwy,h2]
   refine Pm Tryz.func36 fun hfit=> ?_
   simp[Tryz.f36,hs]
   have s_:=An @h2 (@RowR.enc.eq_1)
   try simp[s_]
   repeat' ((first|((first|refine Tp ?_|refine Tn ?_|refine T2 ?_ ?_)<;>intro h_ e_ n_)|refine Pg h1 ?_|rw[Ip]|rw[In]|rw[Fz]|rw[Gz]|fail)<;>first|simp[e_,n_,s_]|simp[s_]|skip)
  by_cases h3:n≤r.done
  ·have hs:askS l c e n=(false,18):=by simp[askS,hwy,h2,hrw,h3]
   refine Pm Tryz.func36 fun hfit=> ?_
   simp[Tryz.f36,hs]
   have s_:=An @h2 (An @h3 (@RowR.enc.eq_1))
   try simp[s_]
   repeat' ((first|((first|refine Tp ?_|refine Tn ?_|refine T2 ?_ ?_)<;>intro h_ e_ n_)|refine Pg h1 ?_|rw[Ip]|rw[In]|rw[Fz]|rw[Gz]|fail)<;>first|simp[e_,n_,s_]|simp[s_]|skip)
  have hf:=ZoU r.l n r1 (by omega)
  cases hx:ZW DecisionR.seq r.l n with
  |none=>
   have hs:askS l c e n=(false,6):=by simp[askS,hwy,h2,hrw,h3,hx]
   rw[hx] at hf
   simp only[Option.isSome_none] at hf
   refine Pm Tryz.func36 fun hfit=> ?_
   simp[Tryz.f36,hs]
   have s_:=An @h2 (An @h3 (@RowR.enc.eq_1))
   try simp[s_]
   repeat' ((first|((first|refine Tp ?_|refine Tn ?_|refine T2 ?_ ?_)<;>intro h_ e_ n_)|refine Pg h1 ?_|refine Pg hf ?_|rw[Ip]|rw[In]|rw[Fz]|rw[Gz]|fail)<;>first|simp[e_,n_,s_]|simp[s_]|skip)
  |some d=>
   have hs:askS l c e n=(d.yes,0):=by simp[askS,hwy,h2,hrw,h3,hx]
   rw[hx] at hf
   simp only[Option.isSome_some] at hf
   obtain⟨hp,hpx⟩:=Zaj DecisionR.seq r1 hx
   generalize placeS DecisionR.seq r.l n=k at*
   refine Pm Tryz.func36 fun hfit=> ?_
   simp[Tryz.f36,hs]
   have s_:=An @h2 (An @h3 (An @hp (An @hpx (An @RowR.enc.eq_1 (@DecisionR.enc.eq_1)))))
   try simp[s_]
   repeat' ((first|((first|refine Tp ?_|refine Tn ?_|refine T2 ?_ ?_)<;>intro h_ e_ n_)|refine Pg h1 ?_|refine Pg hf ?_|rw[Ip]|rw[In]|rw[Fz]|rw[Gz]|fail)<;>first|simp[e_,n_,s_]|simp[s_]|skip)
theorem cli_at {l:List RowR} {i:Nat} (hi:i<l.length) (h:i*4<(l.flatMap RowR.enc).length):(l.flatMap RowR.enc)[i*4]=I l[i].client:=by
 have h1:=congrArg (fun x=>x[0]?) (Zmv hi)
 simp only[List.getElem?_take,List.getElem?_drop] at h1
 rw[List.getElem_eq_iff]
 simpa[RowR.enc] using h1
theorem ZoV (l:List RowR) (i:Nat) (r r':RowR) (g:FuncId) (cap:List AV) (hcap:cap.all neat=true) (hp:Zd Tryz.prog g (.agg r.enc::cap) (.agg r'.enc)) (hi:i<l.length) (hk:l[i].client=r.client) (hl:l.length≤100000):Zd Tryz.prog 143 [encL RowR.enc l,I i,.agg r.enc,.fn g cap] (encL RowR.enc (l.set i r')):=by
 refine Zd.mk (fun _=>false) Tryz.func143 rfl rfl rfl (Ent.mk Tryz.func143 (by kernel_rfl) rfl) (by simp[hcap]) (by simp) fun hfit=> ?_
 have hc:=cli_at hi
 simp[Tryz.f143]
 have s_:=An @hi (An @hk (@hc))
 try simp[s_]
 repeat' ((first|((first|refine Tp ?_|refine Tn ?_|refine T2 ?_ ?_)<;>intro h_ e_ n_)|(refine AInv.fresh [] (cloneR_ok l (by omega)) (by simp) (by simp) ?_;simp[hi,hk])|refine Pg hp ?_|refine Dg 2 14 [] [] ?_|rw[Ip]|rw[In]|rw[Fz]|rw[Gz]|fail)<;>first|simp[e_,n_,s_]|simp[s_]|skip)
theorem Zwj (l:List RowR) (i:Nat) (r r':RowR) (g:FuncId) (cap:List AV) (hcap:cap.all neat=true) (hp:Zd Tryz.prog g (.agg r.enc::cap) (.agg r'.enc)) (hi:i≤l.length) (hk:∀h:i<l.length,l[i].client≠r.client) (hl:l.length≤100000):Zd Tryz.prog 143 [encL RowR.enc l,I i,.agg r.enc,.fn g cap] (encL RowR.enc (insL l i r')):=by
 refine Zd.mk (fun _=>false) Tryz.func143 rfl rfl rfl (Ent.mk Tryz.func143 (by kernel_rfl) rfl) (by simp[hcap]) (by simp) fun hfit=> ?_
 have hins:=ZqU l i r' hi (by omega)
 simp[Tryz.f143]
 by_cases h:i<l.length
 ·have hc:=cli_at h
  have hk:=hk h
  have s_:=An @h (An @hk (@hc))
  try simp[s_]
  repeat' ((first|((first|refine Tp ?_|refine Tn ?_|refine T2 ?_ ?_)<;>intro h_ e_ n_)|(refine AInv.fresh [] (cloneR_ok l (by omega)) (by simp) (by simp) ?_;simp[h,hk])|(refine AInv.fresh [1] hins (by simp) (by simp) ?_;simp[h,hk])|refine Pg hp ?_|refine Dg 2 14 [] [] ?_|rw[Ip]|rw[In]|rw[Fz]|rw[Gz]|fail)<;>first|simp[e_,n_,s_]|simp[s_]|skip)
 ·have s_:=h
  try simp[s_]
  repeat' ((first|((first|refine Tp ?_|refine Tn ?_|refine T2 ?_ ?_)<;>intro h_ e_ n_)|(refine AInv.fresh [] (cloneR_ok l (by omega)) (by simp) (by simp) ?_;simp[h])|(refine AInv.fresh [1] hins (by simp) (by simp) ?_;simp[h])|refine Pg hp ?_|refine Dg 2 14 [] [] ?_|rw[Ip]|rw[In]|rw[Fz]|rw[Gz]|fail)<;>first|simp[e_,n_,s_]|simp[s_]|skip)
theorem ZqX (r:RowR) (n:Int) (yes:Bool) (hr:Zn DecisionR.seq r.l=true) (hx:ZW DecisionR.seq r.l n=none) (hl:r.l.length≤100000):Zd Tryz.prog 212 [.agg r.enc,.fp [I n],.fp [B yes]] (.agg (decR r n yes).enc):=by
 have hf:=ZoU r.l n hr (by omega)
 have hpl:=Zcu DecisionR.seq r.l n
 have hpi:=ZjN DecisionR.seq hr (x:=⟨n,yes⟩) ((Zbd _).1 hx)
 have hins:=ZqV r.l (placeS DecisionR.seq r.l n) ⟨n,yes⟩ hpl (by omega)
 rw[show DecisionR.enc ⟨n,yes⟩=[I n,B yes] from rfl] at hins
 simp only at hpi
 unfold decR
 rw[←hpi]
 generalize placeS DecisionR.seq r.l n=q at*
 refine Pm Tryz.func212 fun hfit=> ?_
 simp[Tryz.f212]
 have s_:=An @RowR.enc.eq_1 (@DecisionR.enc.eq_1)
 try simp[s_]
 repeat' ((first|((first|refine Tp ?_|refine Tn ?_|refine T2 ?_ ?_)<;>intro h_ e_ n_)|(refine ADcall.fresh [] (cloneD_ok r.l (by omega)) (by simp) (by simp) ?_;simp)|(refine ADcall.fresh [2] hins (by simp) (by simp) ?_;simp)|refine Pg hf ?_|refine Dg 2 10 [] [(1,.e),(2,.e),(4,.t),(5,.t),(8,.e)] ?_|rw[Ip]|rw[In]|rw[Fz]|rw[Gz]|fail)<;>first|simp[e_,n_,s_]|simp[s_]|skip)
theorem ZhU (l:List RowR) (c e n:Int) (yes:Bool) (R:Zaa l):Zd Tryz.prog 180 [encL RowR.enc l,I c,I e,I n,B yes] (.tup [encL RowR.enc (decideS l c e n yes).1,B (decideS l c e n yes).2.1,I (decideS l c e n yes).2.2]):=by
 have hl:=R.len
 have h1:=ZtO l c e n R
 by_cases h6:(askS l c e n).2=6
 case neg=>
  have hs:decideS l c e n yes=(l,(askS l c e n).1,(askS l c e n).2):=by simp[decideS,h6]
  refine Pm Tryz.func180 fun hfit=> ?_
  simp[Tryz.f180,hs]
  have s_:=h6
  try simp[s_]
  repeat' ((first|((first|refine Tp ?_|refine Tn ?_|refine T2 ?_ ?_)<;>intro h_ e_ n_)|refine Pg h1 ?_|refine Dg 8 9 [] [] ?_|rw[Ip]|rw[In]|rw[Fz]|rw[Gz]|fail)<;>first|simp[e_,n_,s_]|simp[s_]|skip)
 rw[h6] at h1
 obtain⟨hb,hn⟩:=Zhe h6
 have h2:=ZtN l c e n hb R.rise (by omega)
 obtain⟨r1,r2⟩:=ZhT R c e n
 obtain⟨k1,k2⟩:=Zfb l hb
 have h3:=ZqX (rowS l c e n) n yes r1 hn (by omega)
 have hkey:RowR.client (decR (rowS l c e n) n yes)=c:=k1
 have hgive:∀v:AV,neat v=true→True:=fun _ _=>trivial
 cases hx:ZW RowR.client l c with
 |none=>
  have hpl:=Zcu RowR.client l c
  have hpn:∀h:placeS RowR.client l c<l.length,l[placeS RowR.client l c].client≠c:=fun h=>Zcw RowR.client R.rise hx h
  have hpi:=ZjN RowR.client R.rise (x:=decR (rowS l c e n) n yes) (by rw[hkey];exact(Zbd _).1 hx)
  rw[hkey] at hpi
  by_cases hrm:ZaQ l c e n=true
  ·have hs:decideS l c e n yes=(l,false,12):=by simp[decideS,h6,hrm]
   simp only[ZaQ,hx,Bool.or_eq_true,Bool.and_eq_true,decide_eq_true_eq,true_and] at hrm
   generalize rowS l c e n=r at*
   generalize placeS RowR.client l c=q at*
   by_cases hq:q<l.length
   ·have hq2:=hpn hq
    by_cases hr1:64≤l.length
    ·refine Pm Tryz.func180 fun hfit=> ?_
     simp[Tryz.f180,hs]
     have s_:=An @hq (An @hq2 (@hr1))
     try simp[s_]
     repeat' ((first|((first|refine Tp ?_|refine Tn ?_|refine T2 ?_ ?_)<;>intro h_ e_ n_)|refine Pg h1 ?_|refine Pg h2 ?_|refine Dg 8 9 [] [] ?_|rw[Ip]|rw[In]|rw[Fz]|rw[Gz]|fail)<;>first|simp[e_,n_,s_]|simp[s_]|skip)
    ·have hr2:256≤r.l.length:=by omega
     refine Pm Tryz.func180 fun hfit=> ?_
     simp[Tryz.f180,hs]
     have s_:=An @hq (An @hq2 (An @hr1 (@hr2)))
     try simp[s_]
     repeat' ((first|((first|refine Tp ?_|refine Tn ?_|refine T2 ?_ ?_)<;>intro h_ e_ n_)|refine Pg h1 ?_|refine Pg h2 ?_|refine Dg 8 9 [] [] ?_|rw[Ip]|rw[In]|rw[Fz]|rw[Gz]|fail)<;>first|simp[e_,n_,s_]|simp[s_]|skip)
   ·by_cases hr1:64≤l.length
    ·refine Pm Tryz.func180 fun hfit=> ?_
     simp[Tryz.f180,hs]
     have s_:=An @hq (@hr1)
     try simp[s_]
     repeat' ((first|((first|refine Tp ?_|refine Tn ?_|refine T2 ?_ ?_)<;>intro h_ e_ n_)|refine Pg h1 ?_|refine Pg h2 ?_|refine Dg 8 9 [] [] ?_|rw[Ip]|rw[In]|rw[Fz]|rw[Gz]|fail)<;>first|simp[e_,n_,s_]|simp[s_]|skip)
    ·have hr2:256≤r.l.length:=by omega
     refine Pm Tryz.func180 fun hfit=> ?_
     simp[Tryz.f180,hs]
     have s_:=An @hq (An @hr1 (@hr2))
     try simp[s_]
     repeat' ((first|((first|refine Tp ?_|refine Tn ?_|refine T2 ?_ ?_)<;>intro h_ e_ n_)|refine Pg h1 ?_|refine Pg h2 ?_|refine Dg 8 9 [] [] ?_|rw[Ip]|rw[In]|rw[Fz]|rw[Gz]|fail)<;>first|simp[e_,n_,s_]|simp[s_]|skip)
  ·have hs:decideS l c e n yes=(insL l (placeS RowR.client l c) (decR (rowS l c e n) n yes),yes,0):=by rw[hpi];simp[decideS,h6,hrm]
   simp only[ZaQ,hx,Bool.or_eq_true,Bool.and_eq_true,decide_eq_true_eq,true_and,not_or] at hrm
   obtain⟨hr1,hr2⟩:=hrm
   have h4:=Zwj l (placeS RowR.client l c) (rowS l c e n) (decR (rowS l c e n) n yes) 212 [.fp [I n],.fp [B yes]] (by simp) h3 hpl (by rw[k1];exact hpn) (by omega)
   generalize decR (rowS l c e n) n yes=r' at*
   generalize rowS l c e n=r at*
   generalize placeS RowR.client l c=q at*
   by_cases hq:q<l.length
   ·have hq2:=hpn hq
    refine Pm Tryz.func180 fun hfit=> ?_
    simp[Tryz.f180,hs]
    have s_:=An @hq (An @hq2 (An @hr1 (@hr2)))
    try simp[s_]
    repeat' ((first|((first|refine Tp ?_|refine Tn ?_|refine T2 ?_ ?_)<;>intro h_ e_ n_)|(refine AW.wkZ (WkZ.freeze [0] 8 (.fp [I n]) (by simp)) ?_;refine AW.wkZ (WkZ.freeze [1] 9 (.fp [B yes]) (by simp)) ?_;simp;refine Dg 8 9 [] [(5,.t)] ?_;simp)|refine Pg h1 ?_|refine Pg h2 ?_|refine Pg h4 ?_|refine Dg 8 9 [] [] ?_|rw[Ip]|rw[In]|rw[Fz]|rw[Gz]|fail)<;>first|simp[e_,n_,s_]|simp[s_]|skip)
   ·refine Pm Tryz.func180 fun hfit=> ?_
    simp[Tryz.f180,hs]
    have s_:=An @hq (An @hr1 (@hr2))
    try simp[s_]
    repeat' ((first|((first|refine Tp ?_|refine Tn ?_|refine T2 ?_ ?_)<;>intro h_ e_ n_)|(refine AW.wkZ (WkZ.freeze [0] 8 (.fp [I n]) (by simp)) ?_;refine AW.wkZ (WkZ.freeze [1] 9 (.fp [B yes]) (by simp)) ?_;simp;refine Dg 8 9 [] [(5,.t)] ?_;simp)|refine Pg h1 ?_|refine Pg h2 ?_|refine Pg h4 ?_|refine Dg 8 9 [] [] ?_|rw[Ip]|rw[In]|rw[Fz]|rw[Gz]|fail)<;>first|simp[e_,n_,s_]|simp[s_]|skip)
 |some r0=>
  obtain⟨hq,hqx⟩:=Zaj RowR.client R.rise hx
  have hq2:l[placeS RowR.client l c].client=c:=by rw[hqx];exact(Zu _ hx).2
  have hpi:=ZjM RowR.client R.rise (x:=decR (rowS l c e n) n yes) hq (by rw[hkey];exact hq2)
  by_cases hrm:ZaQ l c e n=true
  ·have hs:decideS l c e n yes=(l,false,12):=by simp[decideS,h6,hrm]
   simp only[ZaQ,hx,Bool.or_eq_true,Bool.and_eq_true,decide_eq_true_eq,reduceCtorEq,false_and,false_or] at hrm
   generalize rowS l c e n=r at*
   generalize placeS RowR.client l c=q at*
   refine Pm Tryz.func180 fun hfit=> ?_
   simp[Tryz.f180,hs]
   have s_:=An @hq (An @hq2 (@hrm))
   try simp[s_]
   repeat' ((first|((first|refine Tp ?_|refine Tn ?_|refine T2 ?_ ?_)<;>intro h_ e_ n_)|refine Pg h1 ?_|refine Pg h2 ?_|refine Dg 8 9 [] [] ?_|rw[Ip]|rw[In]|rw[Fz]|rw[Gz]|fail)<;>first|simp[e_,n_,s_]|simp[s_]|skip)
  ·have hs:decideS l c e n yes=(l.set (placeS RowR.client l c) (decR (rowS l c e n) n yes),yes,0):=by rw[hpi];simp[decideS,h6,hrm]
   simp only[ZaQ,hx,Bool.or_eq_true,Bool.and_eq_true,decide_eq_true_eq,reduceCtorEq,false_and,false_or] at hrm
   have h4:=ZoV l (placeS RowR.client l c) (rowS l c e n) (decR (rowS l c e n) n yes) 212 [.fp [I n],.fp [B yes]] (by simp) h3 hq (by rw[k1];exact hq2) (by omega)
   generalize decR (rowS l c e n) n yes=r' at*
   generalize rowS l c e n=r at*
   generalize placeS RowR.client l c=q at*
   refine Pm Tryz.func180 fun hfit=> ?_
   simp[Tryz.f180,hs]
   have s_:=An @hq (An @hq2 (@hrm))
   try simp[s_]
   repeat' ((first|((first|refine Tp ?_|refine Tn ?_|refine T2 ?_ ?_)<;>intro h_ e_ n_)|(refine AW.wkZ (WkZ.freeze [0] 8 (.fp [I n]) (by simp)) ?_;refine AW.wkZ (WkZ.freeze [1] 9 (.fp [B yes]) (by simp)) ?_;simp;refine Dg 8 9 [] [(5,.t)] ?_;simp)|refine Pg h1 ?_|refine Pg h2 ?_|refine Pg h4 ?_|refine Dg 8 9 [] [] ?_|rw[Ip]|rw[In]|rw[Fz]|rw[Gz]|fail)<;>first|simp[e_,n_,s_]|simp[s_]|skip)
theorem Znx (d:DecisionR) (c e m:Int) (l:List DecisionR):Zd Tryz.prog 147 [.agg d.enc,.fp [I c,I e,I m,encL DecisionR.enc l]] (B (decide (d.seq≤m))):=by
 refine Pm Tryz.func147 fun hfit=> ?_
 simp[Tryz.f147,DecisionR.enc]
theorem ZqY (r:RowR) (d:Int) (hl:r.l.length≤100000):Zd Tryz.prog 144 [.agg r.enc,.fp [I d]] (.agg (forR r d).enc):=by
 obtain⟨c,e,dn,l⟩:=r
 simp only at hl
 have hdel:=Znw l 147 [.ptr 1 0 0] [.fp [I c,I e,I (max dn d),encL DecisionR.enc l]] [.cells 0 [I c,I e,I (max dn d),encL DecisionR.enc l]] (fun x=>decide (x.seq≤max dn d)) (by simp) (by simp) (by simp) (fun fu b0 tl=>by simp) (fun x _=>Znx x c e (max dn d) l) (by omega)
 unfold forR
 refine Pm Tryz.func144 fun hfit=> ?_
 simp[Tryz.f144,RowR.enc]
 refine AInv.fresh [] (cloneD_ok l (by omega)) (by simp) (by simp) ?_
 simp
 refine AInv.fresh [2,0] hdel (by simp) (by simp) ?_
 simp
 rw[Zap (by simp) (by simp)]
 simp
theorem ZtP (l:List RowR) (c e n:Int) (R:Zaa l):Zd Tryz.prog 77 [encL RowR.enc l,I c,I e,I n] (.tup [encL RowR.enc (forgetS l c e n).1,I (forgetS l c e n).2]):=by
 have hl:=R.len
 cases hb:badS c e n with
 |true=>
  have h1:=ZtM l c e n hb
  have hw:whyS l c e n=1:=by simp[whyS,hb]
  have hs:forgetS l c e n=(l,1):=by simp[forgetS,hw]
  refine Pm Tryz.func77 fun hfit=> ?_
  simp[Tryz.f77,hs]
  try simp
  repeat' ((first|((first|refine Tp ?_|refine Tn ?_|refine T2 ?_ ?_)<;>intro h_ e_ n_)|refine Pg h1 ?_|rw[Ip]|rw[In]|rw[Fz]|rw[Gz]|fail)<;>first|simp[e_,n_]|simp|skip)
 |false=>
  have h1:=ZtN l c e n hb R.rise (by omega)
  by_cases hw:whyS l c e n=0
  case neg=>
   have hs:forgetS l c e n=(l,whyS l c e n):=by simp[forgetS,hw]
   generalize whyS l c e n=y at*
   refine Pm Tryz.func77 fun hfit=> ?_
   simp[Tryz.f77,hs]
   have s_:=hw
   try simp[s_]
   repeat' ((first|((first|refine Tp ?_|refine Tn ?_|refine T2 ?_ ?_)<;>intro h_ e_ n_)|refine Pg h1 ?_|rw[Ip]|rw[In]|rw[Fz]|rw[Gz]|fail)<;>first|simp[e_,n_,s_]|simp[s_]|skip)
  obtain⟨r1,r2⟩:=ZhT R c e n
  obtain⟨k1,k2⟩:=Zfb l hb
  have h3:=ZqY (rowS l c e n) n (by omega)
  have hkey:RowR.client (forR (rowS l c e n) n)=c:=k1
  cases hx:ZW RowR.client l c with
  |none=>simp[whyS,hb,hx] at hw
  |some r0=>
   obtain⟨hq,hqx⟩:=Zaj RowR.client R.rise hx
   have hq2:l[placeS RowR.client l c].client=c:=by rw[hqx];exact(Zu _ hx).2
   have hpi:=ZjM RowR.client R.rise (x:=forR (rowS l c e n) n) hq (by rw[hkey];exact hq2)
   have hs:forgetS l c e n=(l.set (placeS RowR.client l c) (forR (rowS l c e n) n),0):=by rw[hpi];simp[forgetS,hw]
   have h4:=ZoV l (placeS RowR.client l c) (rowS l c e n) (forR (rowS l c e n) n) 144 [.fp [I n]] (by simp) h3 hq (by rw[k1];exact hq2) (by omega)
   rw[hw] at h1
   generalize forR (rowS l c e n) n=r' at*
   generalize rowS l c e n=r at*
   generalize placeS RowR.client l c=q at*
   refine Zd.mkW Tryz.func77 rfl rfl rfl (Ent.mk Tryz.func77 (by kernel_rfl) rfl) (by simp) (by simp) fun hfit=> ?_
   refine AW.seqA (lit:=fun _=>false) ?_
   simp
   refine AW.wkZ (WkZ.freeze [0] 7 (.fp [I n]) (by simp)) ?_
   refine Zen (lit:=fun _=>false) _ _ _ ?_
   simp[hs]
   try simp
   repeat' ((first|((first|refine Tp ?_|refine Tn ?_|refine T2 ?_ ?_)<;>intro h_ e_ n_)|refine Pg h1 ?_|refine Pg h4 ?_|rw[Ip]|rw[In]|rw[Fz]|rw[Gz]|fail)<;>first|simp[e_,n_]|simp|skip)
theorem keyO_ok (n:OpenR):Zd Tryz.prog 58 [.agg n.enc] (I n.client):=by
 refine Pm Tryz.func58 fun hfit=> ?_
 simp[Tryz.f58,OpenR.enc]
abbrev byO:AV:= .fn 104 [.fp [.fn 58 []]]
theorem search1O_ok (n:OpenR) (k:Int):Zd Tryz.prog 104 [.agg n.enc,I k,.fp [.fn 58 []]] (I (Lib.compareInt n.client k)):=by
 refine Pm Tryz.func104 fun hfit=> ?_
 simp[Tryz.f104,OpenR.enc]
 have s_:= @OpenR.enc.eq_1
 try simp[s_]
 repeat' ((first|((first|refine Tp ?_|refine Tn ?_|refine T2 ?_ ?_)<;>intro h_ e_ n_)|refine Pg (keyO_ok n) ?_|refine Pg (compare_ok n.client k) ?_|rw[Ip]|rw[In]|rw[Fz]|rw[Gz]|fail)<;>first|simp[e_,n_,s_]|simp[s_]|skip)
abbrev atO (l:List OpenR) (i:Nat):Int:=(l.getD i .zero).client
theorem Znf (l:List OpenR) (k:Int) (hl:l.length≤1000000):Zd Tryz.prog 103 [encL OpenR.enc l,I k,byO] (.tup [I (bsGo (atO l) k 0 l.length),B (decide (bsGo (atO l) k 0 l.length<l.length)&&decide (atO l (bsGo (atO l) k 0 l.length)=k))]):=by
 refine Pm Tryz.func103 fun hfit=> ?_
 simp at hfit
 simp[Tryz.f103]
 refine AW.loopG (lit:=fun _=>false) (fun x:Nat×Nat=>⟨49,pat [(0,encL OpenR.enc l),(1,I k),(2,byO),(8,I l.length),(9,I x.1),(10,I x.2)],[]⟩) (fun x=>x.2 -x.1) (fun x=>x.1≤x.2∧x.2≤l.length∧bsGo (atO l) k x.1 x.2=bsGo (atO l) k 0 l.length) (0,l.length) ?_ ?_ ?_
 ·exact Wk.at _ rfl rfl (by simp)
 ·simp
 rintro⟨i,j⟩ ⟨h1,h2,h3⟩ A hA
 simp only at h1 h2 h3
 have hat:∀m (h:m<l.length),atO l m=(l[m]).client:=fun m h=>by simp[atO,List.getD_eq_getElem?_getD,h]
 by_cases h:i<j
 case neg=>
  have hij:i=j:=by omega
  subst hij
  rw[Zdj h] at h3
  by_cases hi:i<l.length
  ·have e1:=hat i hi
   have s_:=An @h (An @hi (An (Eq.symm (h3)) (An @cmp_eq (An @OpenR.enc.eq_1 (@e1)))))
   try simp[s_]
   repeat' ((first|((first|refine Tp ?_|refine Tn ?_|refine T2 ?_ ?_)<;>intro h_ e_ n_)|refine Pg (search1O_ok l[i] k) ?_|rw[Ip]|rw[In]|rw[Fz]|rw[Gz]|fail)<;>first|simp[e_,n_,s_]|simp[s_]|skip)
  ·have s_:=An @h (An @hi (Eq.symm (h3)))
   try simp[s_]
   repeat' ((first|((first|refine Tp ?_|refine Tn ?_|refine T2 ?_ ?_)<;>intro h_ e_ n_)|rw[Ip]|rw[In]|rw[Fz]|rw[Gz]|fail)<;>first|simp[e_,n_,s_]|simp[s_]|skip)
 rw[Zdi h] at h3
 have hm:(i+j)/2<l.length:=by omega
 have e1:=hat _ hm
 have w1:IntKind.i64.wrap ((i:Int)+j)=(i:Int)+j:=Zf (by omega) (by omega)
 have w2:((i:Int)+j)%18446744073709551616=(i:Int)+j:=by omega
 have w3:((i:Int)+j).fdiv 2=(((i+j)/2:Nat):Int):=by rw[Int.fdiv_eq_ediv_of_nonneg _ (by omega)];omega
 have w4:IntKind.i64.wrap (((i+j)/2:Nat):Int)=(((i+j)/2:Nat):Int):=Zf (by omega) (by omega)
 generalize hmm:(i+j)/2=m at*
 have w5:IntKind.i64.wrap ((m:Int)+1)=((m+1:Nat):Int):=by rw[Zf (by omega) (by omega)];omega
 have hk:atO l m<k∨¬atO l m<k:=Classical.em _
 rcases hk with hk|hk
 ·rw[if_pos hk] at h3
  rw[e1] at hk
  have s_:=An @h (An @w1 (An @w2 (An @w3 (An @w4 (An @w5 (An @hm (An @cmp_lt (An @OpenR.enc.eq_1 (@hk)))))))))
  try simp[s_]
  repeat' ((first|((first|refine Tp ?_|refine Tn ?_|refine T2 ?_ ?_)<;>intro h_ e_ n_)|(exact hA (m+1,j) _ Wa ⟨by simp only;omega,h2,h3⟩ (by simp only;omega))|refine Pg (search1O_ok l[m] k) ?_|rw[Ip]|rw[In]|rw[Fz]|rw[Gz]|fail)<;>first|simp[e_,n_,s_]|simp[s_]|skip)
 ·rw[if_neg hk] at h3
  rw[e1] at hk
  have s_:=An @h (An @w1 (An @w2 (An @w3 (An @w4 (An @w5 (An @hm (An @cmp_lt (An @OpenR.enc.eq_1 (@hk)))))))))
  try simp[s_]
  repeat' ((first|((first|refine Tp ?_|refine Tn ?_|refine T2 ?_ ?_)<;>intro h_ e_ n_)|(exact hA (i,m) _ Wa ⟨by simp only;omega,by simp only;omega,h3⟩ (by simp only;omega))|refine Pg (search1O_ok l[m] k) ?_|rw[Ip]|rw[In]|rw[Fz]|rw[Gz]|fail)<;>first|simp[e_,n_,s_]|simp[s_]|skip)
theorem ZoD (l:List OpenR) (k:Int) (hr:Zn OpenR.client l=true) (hl:l.length≤1000000):Zd Tryz.prog 57 [encL OpenR.enc l,I k,.fn 58 []] (.tup [I (placeS OpenR.client l k),B (ZW OpenR.client l k).isSome]):=by
 have h1:=Znf l k hl
 have hat:∀m (h:m<l.length),atO l m=(l[m]).client:=fun m h=>by simp[atO,List.getD_eq_getElem?_getD,h]
 rw[ZeW OpenR.client hr hat k] at h1
 have e:(decide (placeS OpenR.client l k<l.length)&&decide (atO l (placeS OpenR.client l k)=k))=(ZW OpenR.client l k).isSome:=by
  cases hf:ZW OpenR.client l k with
  |some x=>
   obtain⟨hp,e⟩:=Zaj OpenR.client hr hf
   rw[hat _ hp,e]
   simp[hp,(Zu OpenR.client hf).2]
  |none=>
   by_cases hp:placeS OpenR.client l k<l.length
   ·have:=Zcw OpenR.client hr hf hp
    rw[hat _ hp]
    simp[this]
   ·simp[hp]
 rw[e] at h1
 refine Pm Tryz.func57 fun hfit=> ?_
 simp[Tryz.f57]
 try simp
 repeat' ((first|((first|refine Tp ?_|refine Tn ?_|refine T2 ?_ ?_)<;>intro h_ e_ n_)|refine Lg h1 ?_|rw[Ip]|rw[In]|rw[Fz]|rw[Gz]|fail)<;>first|simp[e_,n_]|simp|skip)
theorem cloneO_ok (l:List OpenR) (hl:l.length≤1000000):XCall Tryz.prog 54 [encL OpenR.enc l] [] (.own 0 0 0 l.length 17) [.cells 0 (l.flatMap OpenR.enc)]:=by
 refine XCall.mkE 17 (fun _=>false) Tryz.func54 rfl rfl rfl (Ent.mk Tryz.func54 (by kernel_rfl) rfl) (by simp) (by simp) (by simp) (by simp) (by simp) fun hfit=> ?_
 simp at hfit
 simp[Tryz.f54]
 rw[if_pos (by simp only[maxLen];omega)]
 simp
 intro h0
 subst h0
 simp
theorem Zqu (l:List OpenR) (i:Nat) (x:OpenR) (hi:i≤l.length) (hl:l.length≤1000000):XCall Tryz.prog 205 [.own 0 0 0 l.length 17,I i,.sl true 1 x.enc] [.cells 0 (l.flatMap OpenR.enc)] (.own 0 1 0 (l.length+1) 17) [.cells 1 ((insL l i x).flatMap OpenR.enc)]:=by
 by_cases hi2:i=l.length
 case pos=>
  subst hi2
  refine XCall.mkG (fun s (_:Unit)=>s) (fun _=>false) Tryz.func205 rfl rfl rfl (Ent.mk Tryz.func205 (by kernel_rfl) rfl) (by simp) (by simp) (by simp) (by simp) (by simp) fun hfit=> ?_
  refine⟨WkE.one _ _,fun _=> ?_⟩
  simp[Tryz.f205]
  rw[if_pos (by simp only[maxLen];omega)]
  simp
  exact⟨_,Wk.refl _ _,by simp[ZdK]⟩
 have hi3:i<l.length:=by omega
 have hcp:∀cap,l.length≤cap→(l.length*17+(cap*17 -l.length*17))/17=cap:=fun cap h=>by omega
 have hw1:IntKind.i64.wrap ((l.length:Int)+1)=((l.length+1:Nat):Int):=by rw[Zf (by omega) (by omega)];omega
 have hw2:IntKind.i64.wrap ((i:Int)+1)=((i+1:Nat):Int):=by rw[Zf (by omega) (by omega)];omega
 have hw3:IntKind.i64.wrap ((l.length:Int)+1 -i)=((l.length+1 -i:Nat):Int):=by rw[Zf (by omega) (by omega)];omega
 have hw4:((i:Int)+((l.length+1 -i:Nat):Int)).toNat=l.length+1:=by omega
 have hm1:min 1 (l.length+1 -i)=1:=by omega
 have hm2:∀cap,l.length≤cap→min (i*17) (l.length*17+(cap*17 -l.length*17))=i*17:=fun cap h=>by omega
 have hov:∀(lb:Nat) (h:Za) (y:ABlk) (Q:AV→Za→Prop),h[0]? =some y→(blkCells y).map (·.1)=some 0→Q (B false) h→AInv Tryz.prog (.fn 232 []) [.sl true 1 x.enc,.own 0 0 (i+1) lb 17] h Q:=fun lb h y Q hy hv hq=>
  Zbr Tryz.func232 (by kernel_rfl) rfl (by kernel_rfl) rfl rfl (by kernel_rfl) (k:=17) (by kernel_rfl) true 1 _ _ 0 0 (i+1) lb hy hv (by omega) Q hq
 refine XCall.mkG (fun s (cap:{cap:Nat//l.length≤cap∧cap≤maxLen})=>ZbU s 0 0 17 (l.flatMap OpenR.enc) cap.1) (fun _=>false) Tryz.func205 rfl rfl rfl (Ent.mk Tryz.func205 (by kernel_rfl) rfl) (by simp) (by simp) (by simp) (by simp) (by simp) fun hfit=> ?_
 refine⟨WkE.full (t:=0) (by simp) (by simp) (by omega) (by simp),?_⟩
 rintro⟨cap,hc1,hc2⟩
 have hcp1:=hcp cap hc1
 have hm3:=hm2 cap hc1
 have hi4:¬i=l.length:=by omega
 have hle:i≤l.length:=by omega
 generalize hA:List.replicate (cap*17 -l.length*17) AV.any=A
 have hAl:A.length=cap*17 -l.length*17:=by rw[←hA];simp
 have hLl:(l.flatMap OpenR.enc).length=l.length*17:=ZkN l
 have hta:(l.flatMap OpenR.enc++A).take (i*17)=(l.flatMap OpenR.enc).take (i*17):=List.take_append_of_le_length (by rw[hLl];omega)
 have hdr:(l.flatMap OpenR.enc).drop (i*17)=(l.drop i).flatMap OpenR.enc:=Zmx l i
 have hq0:(l.flatMap OpenR.enc++A).drop (i*17)=(l.drop i).flatMap OpenR.enc++A:=by rw[List.drop_append_of_le_length (by rw[hLl];omega),hdr]
 have hdl:((l.drop i).flatMap OpenR.enc).length=l.length*17 -i*17:=by rw[ZkN,List.length_drop];omega
 by_cases hr:l.length+1≤cap
 ·have hm4:min (l.length+1 -i) (l.length -i)=l.length -i:=by omega
  have hm5:min ((l.length+1 -i)*17) ((l.length -i)*17+(cap*17 -l.length*17))=(l.length+1 -i)*17:=by omega
  have hm6:min ((l.length+1 -i)*17) (l.length*17+(cap*17 -l.length*17) -i*17)=(l.length+1 -i)*17:=by omega
  have hq1:List.take ((l.length -i)*17) (List.take ((l.length+1 -i)*17) ((l.drop i).flatMap OpenR.enc++A))=(l.drop i).flatMap OpenR.enc:=by
   rw[List.take_take,Nat.min_eq_left (by omega),List.take_left' (by rw[hdl];omega)]
  have hq2:(putAt (l.flatMap OpenR.enc++A) ((i+1)*17) ((l.drop i).flatMap OpenR.enc)).length=cap*17:=by
   rw[ZB (by rw[List.length_append,hLl,hAl,hdl];omega),List.length_append,hLl,hAl];omega
  have hq3:(putAt (putAt (l.flatMap OpenR.enc++A) ((i+1)*17) ((l.drop i).flatMap OpenR.enc)) (i*17) x.enc).take ((l.length+1)*17)=(insL l i x).flatMap OpenR.enc:=by
   have:=ZdI (L:=l.flatMap OpenR.enc) (A:=A) (X:=x.enc) (a:=i*17) (k:=17) hLl (by omega) rfl (by rw[hAl];omega)
   rw[ZkR,hq0,List.take_left' (by rw[hdl])] at this
   rw[show(i+1)*17=i*17+17 by omega,show(l.length+1)*17=l.length*17+17 by omega]
   exact this
  have hone:∀y∈(l.drop i).flatMap OpenR.enc,Zx y=true:=List.all_eq_true.1 (ZkM _)
  simp[Tryz.f205,ZbU,hA]
  have s_:=An @hcp1 (An @hw1 (An @hw2 (An @hw3 (An @hw4 (An @hm1 (An @hm3 (An @hm4 (An @hq0 (An @hq1 (An @hq2 (An @hi3 (An @hi4 (An @hle (@hr))))))))))))))
  try simp[s_]
  repeat' ((first|((first|refine Tp ?_|refine Tn ?_|refine T2 ?_ ?_)<;>intro h_ e_ n_)|(refine hov _ _ _ _ rfl rfl ?_;simp)|(refine optBif ⟨rfl,by rw[List.length_append,hLl,hAl];omega,by rw[List.length_take,List.length_append,hdl,hAl];omega,by rw[hm4,hq1];exact hone⟩ ?_;simp)|refine Dg 11 9 [] [] ?_|refine Dg 15 9 [] [] ?_|rw[Ip]|rw[In]|rw[Fz]|rw[Gz]|fail)<;>first|simp[e_,n_,s_]|simp[s_]|skip)
  exact⟨_,Wk.trans (Wk.prefix 0 0 ((l.length+1)*17) rfl rfl) (Wk.bump 6 0 0 0 (l.length+1) 17 (by simp) rfl),by simp[hq3]⟩
 ·have hm5:min ((l.length -i)*17) ((l.length -i)*17+(cap*17 -l.length*17))=(l.length -i)*17:=by omega
  have hq1:List.take ((l.length -i)*17) (List.take ((l.length -i)*17) ((l.drop i).flatMap OpenR.enc++A))=(l.drop i).flatMap OpenR.enc:=by
   rw[List.take_take,Nat.min_self,List.take_left' (by rw[hdl];omega)]
  have hq4:List.take ((l.length -i)*17) ((l.drop i).flatMap OpenR.enc)=(l.drop i).flatMap OpenR.enc:=List.take_of_length_le (by rw[hdl];omega)
  have hone:∀y∈(l.drop i).flatMap OpenR.enc,Zx y=true:=List.all_eq_true.1 (ZkM _)
  simp[Tryz.f205,ZbU,hA]
  generalize hZ:(List.replicate (l.length+1 -i) [AV.val (Value.int IntKind.i64 0),AV.val (Value.int IntKind.i64 0),AV.val (Value.int IntKind.i64 0),AV.val (Value.int IntKind.i64 0),AV.val (Value.int IntKind.i64 0),AV.sl true 0 [],AV.val (Value.int IntKind.i64 0),AV.sl true 0 [],AV.val (Value.int IntKind.i64 0),AV.sl true 0 [],AV.val (Value.int IntKind.i64 0),AV.val (Value.int IntKind.i64 0),AV.val (Value.int IntKind.i64 0),AV.val (Value.int IntKind.i64 0),AV.val (Value.string ByteArray.empty),AV.sl true 0 [],AV.val (Value.int IntKind.i64 0)]).flatten=Z
  have hZl:Z.length=(l.length+1 -i)*17:=by rw[←hZ];simp
  have hta':((l.flatMap OpenR.enc).take (i*17)).length=i*17:=by rw[List.length_take,hLl];omega
  have hq2:(putAt ((l.flatMap OpenR.enc).take (i*17)++Z) (i*17) x.enc).length=(l.length+1)*17:=by
   rw[ZB (by rw[List.length_append,hta',hZl,ZpC];omega),List.length_append,hta',hZl];omega
  have hq3:putAt (putAt ((l.flatMap OpenR.enc).take (i*17)++Z) (i*17) x.enc) ((i+1)*17) ((l.drop i).flatMap OpenR.enc)=(insL l i x).flatMap OpenR.enc:=by
   have:=ZdJ (L:=l.flatMap OpenR.enc) (A:=A) (X:=x.enc) (Z:=Z) (a:=i*17) (k:=17) hLl (by omega) rfl (by rw[hZl];omega)
   rw[ZkR,hta,hq0,List.take_left' (by rw[hdl])] at this
   rw[show(i+1)*17=i*17+17 by omega]
   exact this
  have s_:=An @hcp1 (An @hw1 (An @hw2 (An @hw3 (An @hw4 (An @hm1 (An @hm3 (An @hq0 (An @hq1 (An @hq4 (An @hta (An @hZ (An @hi3 (An @hi4 (An @hle (@hr)))))))))))))))
  try simp[s_]
  repeat' ((first|((first|refine Tp ?_|refine Tn ?_|refine T2 ?_ ?_)<;>intro h_ e_ n_)|(refine optBif ⟨by rw[hq2];omega,hone⟩ ?_;simp)|refine Dg 11 9 [] [] ?_|refine Dg 15 9 [] [] ?_|rw[Ip]|rw[In]|rw[Fz]|rw[Gz]|fail)<;>first|simp[e_,n_,s_]|simp[s_]|skip)
  exact⟨_,Wk.move 6 0 1 0 0 (l.length+1) 17 (by decide) (by simp;omega) rfl rfl rfl,by simp[hq3]⟩
theorem Zqv (l:List OpenR) (g:FuncId) (cap:List AV) (p:OpenR→Bool) (hcap:cap.all neat=true) (hp:∀x∈l,Zd Tryz.prog g (.agg x.enc::cap) (B (p x))) (hl:l.length≤1000000):Zd Tryz.prog 98 [encL OpenR.enc l,.fn g cap] (I (idxS p l)):=by
 refine Zd.mk (fun _=>false) Tryz.func98 rfl rfl rfl (Ent.mk Tryz.func98 (by kernel_rfl) rfl) (by simp[hcap]) (by simp) fun hfit=> ?_
 simp at hfit
 simp[Tryz.f98]
 refine AW.loopG (lit:=fun _=>false) (fun i:Nat=>⟨19,pat [(0,encL OpenR.enc l),(1,.fn g cap),(7,I l.length),(8,I i)],[]⟩) (fun i=>l.length -i) (fun i=>i≤l.length∧ZaS p i (l.drop i)=idxS p l) 0 ?_ ?_ ?_
 ·exact Wk.at _ rfl rfl (by simp)
 ·simp[idxS]
 rintro i ⟨h1,h2⟩ A hA
 by_cases hi:i<l.length
 case neg=>
  rw[ZcH hi] at h2
  have s_:=An @hi (Eq.symm (h2))
  try simp[s_]
  repeat' ((first|((first|refine Tp ?_|refine Tn ?_|refine T2 ?_ ?_)<;>intro h_ e_ n_)|refine Dg 11 9 [] [] ?_|refine Dg 15 9 [] [] ?_|rw[Ip]|rw[In]|rw[Fz]|rw[Gz]|fail)<;>first|simp[e_,n_,s_]|simp[s_]|skip)
 rw[ZdL hi] at h2
 have hw:=Zi hi hfit.1.1
 have hpi:=hp l[i] (List.getElem_mem hi)
 cases hpp:p l[i] with
 |true=>
  rw[hpp] at hpi
  simp only[hpp,if_true] at h2
  have s_:=An @hi (An (Eq.symm (h2)) (@hpp))
  try simp[s_]
  repeat' ((first|((first|refine Tp ?_|refine Tn ?_|refine T2 ?_ ?_)<;>intro h_ e_ n_)|refine Pg hpi ?_|refine Dg 11 9 [] [] ?_|refine Dg 15 9 [] [] ?_|rw[Ip]|rw[In]|rw[Fz]|rw[Gz]|fail)<;>first|simp[e_,n_,s_]|simp[s_]|skip)
 |false=>
  rw[hpp] at hpi
  simp only[hpp,Bool.false_eq_true,if_false] at h2
  have s_:=An @hi (An @hw (@hpp))
  try simp[s_]
  repeat' ((first|((first|refine Tp ?_|refine Tn ?_|refine T2 ?_ ?_)<;>intro h_ e_ n_)|(exact hA (i+1) _ Wa ⟨by omega,h2⟩ (by omega))|refine Pg hpi ?_|refine Dg 11 9 [] [] ?_|refine Dg 15 9 [] [] ?_|rw[Ip]|rw[In]|rw[Fz]|rw[Gz]|fail)<;>first|simp[e_,n_,s_]|simp[s_]|skip)
theorem Zng (l:List OpenR) (g:FuncId) (cap cap':List AV) (hc:Za) (p:OpenR→Bool) (hcap:cap'.all neat=true) (hcr:cap.all (refsLt (hc.length+1))=true) (hhc:hc.all (ABlk.refsLt (hc.length+1))=true) (hfr:∀(f:Nat) (b0:ABlk) (tl:Za),frzs (b0::(hc++tl)) 0 (f+3) cap=some cap')
  (hp:∀x∈l,Zd Tryz.prog g (.agg x.enc::cap') (B (p x))) (hl:l.length≤1000000):XCall Tryz.prog 53 [.own 0 0 0 l.length 17,.fn g cap] (.cells 0 (l.flatMap OpenR.enc)::hc) (.own 0 0 0 (l.filter fun x=> !p x).length 17) (.cells 0 ((l.filter fun x=> !p x).flatMap OpenR.enc)::hc):=by
 refine XCall.mkG (fun s (_:Unit)=>s) (fun _=>false) Tryz.func53 rfl rfl rfl (Ent.mk Tryz.func53 (by kernel_rfl) rfl) (by simp;simpa using hcr) (by simp;simpa using hhc) (by simp) (by simp) (by simp;simpa using hhc) fun hfit=> ?_
 refine⟨WkE.one _ _,fun _=> ?_⟩
 have hix:=Zqv l g cap' p hcap hp hl
 have hfz:∀(v:AV) (b0:ABlk) (tl:Za),neat v=true→(([v]++cap).mapM (frz (b0::(hc++tl)) 0 12))=some (v::cap'):=fun v b0 tl hv=>by
  have h2:cap.mapM (frz (b0::(hc++tl)) 0 12)=some cap':=hfr 9 b0 tl
  rw[List.singleton_append,List.mapM_cons,ZbZ _ _ _ hv,h2];rfl
 have hlend:∀{Q:AV→Za→Prop},Q (I (idxS p l)) (.cells 0 (l.flatMap OpenR.enc)::hc)→AInv Tryz.prog (.fn 98 []) [.own 0 0 0 l.length 17,.fn g cap] (.cells 0 (l.flatMap OpenR.enc)::hc) Q:=fun hq=>
  AInv.lend hix rfl (by
   have:=hfr 8 (.cells 0 (l.flatMap OpenR.enc)) []
   rw[List.append_nil] at this
   rw[List.append_nil,List.mapM_cons,List.mapM_cons,List.mapM_nil,Zmh,List.getElem?_cons_zero,Zap (by simp) (by simp),ZrP,this]
   rfl) hq
 have hzs:∀x:OpenR,setMany [AV.val (Value.int IntKind.i64 0),AV.val (Value.int IntKind.i64 0),AV.val (Value.int IntKind.i64 0),AV.val (Value.int IntKind.i64 0),AV.val (Value.int IntKind.i64 0),AV.sl true 0 [],AV.val (Value.int IntKind.i64 0),AV.sl true 0 [],AV.val (Value.int IntKind.i64 0),AV.sl true 0 [],AV.val (Value.int IntKind.i64 0),AV.val (Value.int IntKind.i64 0),AV.val (Value.int IntKind.i64 0),AV.val (Value.int IntKind.i64 0),AV.val (Value.string ByteArray.empty),AV.sl true 0 [],AV.val (Value.int IntKind.i64 0)] 0 x.enc=x.enc:=fun _=>rfl
 by_cases h0:idxS p l= -1
 ·obtain⟨e1,_⟩:=ZeX h0
  simp[Tryz.f53]
  have s_:=h0
  try simp[s_]
  repeat' ((first|((first|refine Tp ?_|refine Tn ?_|refine T2 ?_ ?_)<;>intro h_ e_ n_)|(refine hlend ?_;simp[h0])|refine Dg 11 9 [] [] ?_|refine Dg 15 9 [] [] ?_|rw[Ip]|rw[In]|rw[Fz]|rw[Gz]|fail)<;>first|simp[e_,n_,s_]|simp[s_]|skip)
  exact⟨_,Wk.refl _ _,by simp[e1]⟩
 obtain⟨j0,hj0,e1,e2,e3⟩:=ZeY h0
 have hw0:IntKind.i64.wrap ((j0:Int)+1)=(j0:Int)+1:=Zf (by omega) (by omega)
 have hn0:¬((j0:Int)= -1):=by omega
 simp[Tryz.f53]
 have s_:=An @e1 (An @hw0 (@hn0))
 try simp[s_]
 repeat' ((first|((first|refine Tp ?_|refine Tn ?_|refine T2 ?_ ?_)<;>intro h_ e_ n_)|(refine hlend ?_;simp[e1,hw0,hn0])|refine Dg 11 9 [] [] ?_|refine Dg 15 9 [] [] ?_|rw[Ip]|rw[In]|rw[Fz]|rw[Gz]|fail)<;>first|simp[e_,n_,s_]|simp[s_]|skip)
 refine AW.loopG (lit:=fun _=>false) (fun x:Nat×Nat×List OpenR=>⟨42,pat [(0,.own 0 0 0 l.length 17),(1,.fn g cap),(5,I x.1),(6,I x.2.1)],.cells 0 (x.2.2.flatMap OpenR.enc)::hc⟩) (fun x=>l.length -x.2.1) (fun x=>Zec p l x.2.2 x.1 x.2.1) (j0,j0+1,l) ?_ ?_ ?_
 ·exact Wk.at _ rfl rfl (by simp)
 ·exact .start hj0 e2 e3
 rintro⟨i,j,m⟩ hd A hA
 simp only at hd hA
 have hml:=hd.len
 by_cases hj:j<l.length
 case neg=>
  obtain⟨d1,d2,d3⟩:=hd.done hj
  have s_:=An @hj (@hml)
  try simp[s_]
  repeat' ((first|((first|refine Tp ?_|refine Tn ?_|refine T2 ?_ ?_)<;>intro h_ e_ n_)|refine Dg 11 9 [] [] ?_|refine Dg 15 9 [] [] ?_|rw[Ip]|rw[In]|rw[Fz]|rw[Gz]|fail)<;>first|simp[e_,n_,s_]|simp[s_]|skip)
  exact⟨_,Wk.prefix 0 0 (i*17) rfl rfl,by simp[d2],by
   have:(putAt (m.flatMap OpenR.enc) (i*17) (zeros [AV.val (Value.int IntKind.i64 0),AV.val (Value.int IntKind.i64 0),AV.val (Value.int IntKind.i64 0),AV.val (Value.int IntKind.i64 0),AV.val (Value.int IntKind.i64 0),AV.sl true 0 [],AV.val (Value.int IntKind.i64 0),AV.sl true 0 [],AV.val (Value.int IntKind.i64 0),AV.sl true 0 [],AV.val (Value.int IntKind.i64 0),AV.val (Value.int IntKind.i64 0),AV.val (Value.int IntKind.i64 0),AV.val (Value.int IntKind.i64 0),AV.val (Value.string ByteArray.empty),AV.sl true 0 [],AV.val (Value.int IntKind.i64 0)] (l.length -i))).take (i*17)=(m.take i).flatMap OpenR.enc:=by
    rw[←Zmw]
    unfold putAt
    rw[List.append_assoc,List.take_left' (by simp;omega)]
   simp only[zeros] at this
   simp[this,d1]⟩
 have hmj:=hd.get hj
 have hx:=hp l[j] (List.getElem_mem hj)
 have hw:IntKind.i64.wrap ((j:Int)+1)=((j+1:Nat):Int):=by rw[Zf (by omega) (by omega)];omega
 have hi:=hd.lt
 have hwi:IntKind.i64.wrap ((i:Int)+1)=((i+1:Nat):Int):=by rw[Zf (by omega) (by omega)];omega
 cases hpp:p l[j] with
 |true=>
  rw[hpp] at hx
  have hlx:∀(b0:ABlk) (tl:Za) {Q:AV→Za→Prop},Q (B true) (b0::(hc++tl))→AInv Tryz.prog (.fn g cap) [.agg l[j].enc] (b0::(hc++tl)) Q:=fun b0 tl Q hq=>AInv.lend hx rfl (hfz _ b0 tl (by simp)) hq
  have s_:=An @hj (An @hml (An @hzs (An @hw (@hmj))))
  try simp[s_]
  repeat' ((first|((first|refine Tp ?_|refine Tn ?_|refine T2 ?_ ?_)<;>intro h_ e_ n_)|(refine hlx _ _ ?_;simp[hw])|(exact hA (i,j+1,m) _ (Wk.cutAt _ rfl (by simp) (by simp) (by simp;simpa using hhc) (by simp;simpa using hcr)) (hd.skip hj hpp) (by simp only;omega))|refine Dg 11 9 [] [] ?_|refine Dg 15 9 [] [] ?_|rw[Ip]|rw[In]|rw[Fz]|rw[Gz]|fail)<;>first|simp[e_,n_,s_]|simp[s_]|skip)
 |false=>
  rw[hpp] at hx
  have hlx:∀(b0:ABlk) (tl:Za) {Q:AV→Za→Prop},Q (B false) (b0::(hc++tl))→AInv Tryz.prog (.fn g cap) [.agg l[j].enc] (b0::(hc++tl)) Q:=fun b0 tl Q hq=>AInv.lend hx rfl (hfz _ b0 tl (by simp)) hq
  have him:i<m.length:=by omega
  have hil:i<l.length:=by omega
  have s_:=An @hj (An @hml (An @hzs (An @hw (An @hwi (An @hmj (An @him (@hil)))))))
  try simp[s_]
  repeat' ((first|((first|refine Tp ?_|refine Tn ?_|refine T2 ?_ ?_)<;>intro h_ e_ n_)|(refine hlx _ _ ?_;simp[hw,hwi,hmj,him,hil])|(exact hA (i+1,j+1,m.set i l[j]) _ (Wk.cutAt _ rfl (by simp) (by simp) (by simp;simpa using hhc) (by simp;simpa using hcr)) (hd.keep hj hpp) (by simp only;omega))|refine Dg 11 9 [] [] ?_|refine Dg 15 9 [] [] ?_|rw[Ip]|rw[In]|rw[Fz]|rw[Gz]|fail)<;>first|simp[e_,n_,s_]|simp[s_]|skip)
theorem encH7 (h:HostR):h.enc=[encL ChainR.enc h.s.l,encL CountR.enc h.s.nexts,I h.s.stamp,encL RowR.enc h.rows,encL OpenR.enc h.opens,I h.now,I h.lease]:=rfl
theorem zeroO:OpenR.zero.enc=[I 0,I 0,I 0,I 0,I 0,.sl false 0 [],I 0,.sl false 0 [],I 0,.sl false 0 [],I 0,I 0,I 0,I 0,S .empty,.sl false 0 [],I 0]:=rfl
@[simp] theorem zsetO (c:OpenR):setMany [AV.val (Value.int IntKind.i64 0),AV.val (Value.int IntKind.i64 0),AV.val (Value.int IntKind.i64 0),AV.val (Value.int IntKind.i64 0),AV.val (Value.int IntKind.i64 0),AV.sl true 0 [],AV.val (Value.int IntKind.i64 0),AV.sl true 0 [],AV.val (Value.int IntKind.i64 0),AV.sl true 0 [],AV.val (Value.int IntKind.i64 0),AV.val (Value.int IntKind.i64 0),AV.val (Value.int IntKind.i64 0),AV.val (Value.int IntKind.i64 0),AV.val (Value.string ByteArray.empty),AV.sl true 0 [],AV.val (Value.int IntKind.i64 0)] 0 c.enc=c.enc:=rfl
theorem ZC (e:Int):Zd Tryz.prog 78 [I e] (.agg (errR e).enc):=by
 refine Pm Tryz.func78 fun hfit=> ?_
 simp[Tryz.f78]
 have s_:=An @errR.eq_1 (@ReplyR.enc.eq_1)
 try simp[s_]
 repeat' ((first|((first|refine Tp ?_|refine Tn ?_|refine T2 ?_ ?_)<;>intro h_ e_ n_)|rw[Ip]|rw[In]|rw[Fz]|rw[Gz]|fail)<;>first|simp[e_,n_,s_]|simp[s_]|skip)
abbrev oTup (o:Option OpenR):AV:= .tup [.agg (o.getD .zero).enc,B o.isSome]
theorem ZoE (h:HostR) (c:Int) (hr:Zn OpenR.client h.opens=true) (hl:h.opens.length≤1000000):Zd Tryz.prog 23 [.agg h.enc,I c] (oTup (ZcT h c)):=by
 have h1:=ZoD h.opens c hr hl
 show Zd _ _ _ (oTup (ZW OpenR.client h.opens c))
 cases hx:ZW OpenR.client h.opens c with
 |none=>
  rw[hx] at h1
  simp only[Option.isSome_none] at h1
  generalize placeS OpenR.client h.opens c=q at*
  refine Pm Tryz.func23 fun hfit=> ?_
  simp[Tryz.f23]
  have s_:=zeroO
  try simp[s_]
  repeat' ((first|((first|refine Tp ?_|refine Tn ?_|refine T2 ?_ ?_)<;>intro h_ e_ n_)|refine Pg h1 ?_|rw[Ip]|rw[In]|rw[Fz]|rw[Gz]|fail)<;>first|simp[e_,n_,s_]|simp[s_]|skip)
 |some o=>
  rw[hx] at h1
  simp only[Option.isSome_some] at h1
  obtain⟨hp,hpx⟩:=Zaj OpenR.client hr hx
  generalize placeS OpenR.client h.opens c=q at*
  refine Pm Tryz.func23 fun hfit=> ?_
  simp[Tryz.f23]
  have s_:=An @hp (@hpx)
  try simp[s_]
  repeat' ((first|((first|refine Tp ?_|refine Tn ?_|refine T2 ?_ ?_)<;>intro h_ e_ n_)|refine Pg h1 ?_|rw[Ip]|rw[In]|rw[Fz]|rw[Gz]|fail)<;>first|simp[e_,n_,s_]|simp[s_]|skip)
theorem ZoF (h:HostR) (o:OpenR) (hr:Zn OpenR.client h.opens=true) (hl:h.opens.length≤100000):Zd Tryz.prog 176 [.agg h.enc,.agg o.enc] (.agg (withO h o).enc):=by
 have h1:=ZoD h.opens o.client hr (by omega)
 have hpl:=Zcu OpenR.client h.opens o.client
 show Zd _ _ _ (.agg (HostR.enc {h with opens:=putS OpenR.client h.opens o}))
 cases hx:ZW OpenR.client h.opens o.client with
 |none=>
  rw[hx] at h1
  simp only[Option.isSome_none] at h1
  have hins:=Zqu h.opens (placeS OpenR.client h.opens o.client) o hpl (by omega)
  rw[←ZjN OpenR.client hr ((Zbd _).1 hx)]
  generalize placeS OpenR.client h.opens o.client=q at*
  refine Pm Tryz.func176 fun hfit=> ?_
  simp[Tryz.f176]
  have s_:=encH7
  try simp[s_]
  repeat' ((first|((first|refine Tp ?_|refine Tn ?_|refine T2 ?_ ?_)<;>intro h_ e_ n_)|(refine AInv.fresh [] (cloneO_ok h.opens (by omega)) (by simp) (by simp) ?_;simp)|(refine AInv.fresh [3] hins (by simp) (by simp) ?_;simp)|refine Pg h1 ?_|rw[Ip]|rw[In]|rw[Fz]|rw[Gz]|fail)<;>first|simp[e_,n_,s_]|simp[s_]|skip)
 |some r=>
  rw[hx] at h1
  simp only[Option.isSome_some] at h1
  obtain⟨hp,hpx⟩:=Zaj OpenR.client hr hx
  rw[←ZjM OpenR.client hr hp (by rw[hpx];exact(Zu _ hx).2)]
  generalize placeS OpenR.client h.opens o.client=q at*
  refine Pm Tryz.func176 fun hfit=> ?_
  simp[Tryz.f176]
  have s_:=An @hp (@encH7)
  try simp[s_]
  repeat' ((first|((first|refine Tp ?_|refine Tn ?_|refine T2 ?_ ?_)<;>intro h_ e_ n_)|(refine AInv.fresh [] (cloneO_ok h.opens (by omega)) (by simp) (by simp) ?_;simp[hp])|refine Pg h1 ?_|rw[Ip]|rw[In]|rw[Fz]|rw[Gz]|fail)<;>first|simp[e_,n_,s_]|simp[s_]|skip)
theorem setO_enc (f k:OpenR):setMany f.enc 0 k.enc=k.enc:=by
 have:=ZpE (l:=[f]) (i:=0) (by simp) k
 simpa using this
abbrev uTup (u:OpenR×Bool×Bool):AV:= .tup [.agg u.1.enc,B u.2.1,B u.2.2]
theorem Zfl (h:HostR) (m:MsgR) (hr:Zn OpenR.client h.opens=true) (hl:h.opens.length≤1000000):Zd Tryz.prog 76 [.agg h.enc,.agg m.enc] (uTup (ownMsg h m)):=by
 have h1:=ZoE h m.client hr hl
 unfold ownMsg
 cases hx:ZcT h m.client with
 |none=>
  rw[hx] at h1
  simp only[oTup,Option.getD_none,Option.isSome_none] at h1
  refine Pm Tryz.func76 fun hfit=> ?_
  simp[Tryz.f76]
  have s_:=zeroO
  try simp[s_]
  repeat' ((first|((first|refine Tp ?_|refine Tn ?_|refine T2 ?_ ?_)<;>intro h_ e_ n_)|refine Pg h1 ?_|rw[Ip]|rw[In]|rw[Fz]|rw[Gz]|fail)<;>first|simp[e_,n_,s_]|simp[s_]|skip)
 |some o=>
  rw[hx] at h1
  simp only[oTup,Option.getD_some,Option.isSome_some] at h1
  refine Pm Tryz.func76 fun hfit=> ?_
  simp[Tryz.f76]
  have s_:=An @isO.eq_1 (An @lateO.eq_1 (@setO_enc))
  try simp[s_]
  repeat' ((first|((first|refine Tp ?_|refine Tn ?_|refine T2 ?_ ?_)<;>intro h_ e_ n_)|refine Pg h1 ?_|rw[Ip]|rw[In]|rw[Fz]|rw[Gz]|fail)<;>first|simp[e_,n_,s_]|simp[s_]|skip)
abbrev Ztm (f:FSR) (m:MI):Za:=[.cells 0 [encL NodeR.enc f.l,I f.next],.map (mKs m) (mVs m),.cells 0 [.mp 1],.cells 0 [.fn 165 [.ptr 0 0 0,.ptr 2 0 0,.ptr 3 0 0]]]
theorem Ztn (f:FSR) (hl:f.l.length≤1000000) (hE:∀n∈f.l,n.l.length≤256):∀(fuel:Nat) (ino:Int) (m:MI) (c:Nat),MOk m c→c+(Zbc (Zl f.l) m+1)*256≤1099511627776→Zbc (Zl f.l) m<fuel→
  Zep Tryz.prog 165 [I ino,.ptr 0 0 0,.ptr 2 0 0,.ptr 3 0 0] (Ztm f m) (.tup []) (Ztm f (Zcj (Zs f.l) fuel ino m)):=by
 intro fuel
 induction fuel with
 |zero=>intro ino m c _ _ h;omega
 |succ fuel ih=>
 intro ino m c hm hc hu
 have hfind:=find_ok f ino hl
 refine Zep.mk' (fun _=>false) Tryz.func165 rfl rfl rfl (Ent.mk Tryz.func165 (by kernel_rfl) rfl) (by simp) (by simp) (by simp) (by simp) (by simp) fun hfit=> ?_
 rw[ZdM]
 simp[Tryz.f165]
 generalize hes:(findB f.l ino).1=n at*
 have hkid:Zs f.l ino=n.l.map (·.ino):=by unfold Zs;rw[hes]
 try simp
 repeat' ((first|((first|refine Tp ?_|refine Tn ?_|refine T2 ?_ ?_)<;>intro h_ e_ n_)|refine Pg hfind ?_|rw[Ip]|rw[In]|rw[Fz]|rw[Gz]|fail)<;>first|simp[e_,n_]|simp|skip)
 have hnl:n.l.length≤256:=by
  have:=Zer hE ino
  rwa[hkid,List.length_map] at this
 refine AW.loopG (lit:=fun _=>false) (fun x:Nat×MI×Nat=>⟨37,pat [(1,.ptr 0 0 0),(2,.ptr 2 0 0),(3,.ptr 3 0 0),(16,encL EntryR.enc n.l),(17,I n.l.length),(18,I x.1)],Ztm f x.2.1⟩) (fun x=>n.l.length -x.1)
  (fun x=>x.1≤n.l.length∧x.2.1=((n.l.take x.1).map (·.ino)).foldl (Zv (Zs f.l) fuel) m∧MOk x.2.1 x.2.2∧x.2.2+Zbc (Zl f.l) x.2.1*256≤c+Zbc (Zl f.l) m*256+x.1∧Zbc (Zl f.l) x.2.1≤Zbc (Zl f.l) m) (0,m,c) ?_ ?_ ?_
 ·exact Wc
 ·exact⟨by simp,by simp,hm,by simp,Nat.le_refl _⟩
 rintro⟨i,m',c'⟩ ⟨g1,g2,g3,g4,g5⟩ A hA
 simp only at g1 g2 g3 g4 g5 hA
 by_cases hi:i<n.l.length
 case neg=>
  have hti:n.l.take i=n.l:=List.take_of_length_le (by omega)
  rw[hti,←hkid] at g2
  subst g2
  have s_:=An @hi (@PostA_n)
  try simp[s_]
  repeat' ((first|((first|refine Tp ?_|refine Tn ?_|refine T2 ?_ ?_)<;>intro h_ e_ n_)|rw[Ip]|rw[In]|rw[Fz]|rw[Gz]|fail)<;>first|simp[e_,n_,s_]|simp[s_]|skip)
 have hkk:n.l[i].ino∈Zl f.l:=ZaD f.l ino _ (by rw[hkid];exact List.mem_map_of_mem (List.getElem_mem hi))
 have hg0:=g3.nonneg n.l[i].ino
 have hgc:=g3.le n.l[i].ino
 have hw1:IntKind.i64.wrap (getM m' n.l[i].ino+1)=getM m' n.l[i].ino+1:=Zf (by omega) (by omega)
 have hg2:getM (setM m' n.l[i].ino (getM m' n.l[i].ino+1)) n.l[i].ino=getM m' n.l[i].ino+1:=by rw[ZdH,if_pos rfl]
 have hwi:IntKind.i64.wrap ((i:Int)+1)=((i+1:Nat):Int):=by rw[IntKind.wrap_i64];omega
 have hstep:Zv (Zs f.l) fuel m' n.l[i].ino=((n.l.take (i+1)).map (·.ino)).foldl (Zv (Zs f.l) fuel) m:=by
  rw[List.take_succ_eq_append_getElem hi,List.map_append,List.foldl_append,←g2];rfl
 obtain⟨s1,c1,o1,b1⟩:=ZmB (ZaD f.l) (Zer hE) fuel hkk g3
 have hum:=ZbP (U:=Zl f.l) s1
 by_cases h0:getM m' n.l[i].ino=0
 ·have hn:=(g3.zero _).1 h0
  have hui:=ZdN hkk hn
  have hrec:=ih n.l[i].ino (incM m' n.l[i].ino) (c'+1) (g3.inc _) (by omega) (by omega)
  rw[Zv,if_pos h0] at hstep hum o1 b1
  have hinc:setM m' n.l[i].ino 1=incM m' n.l[i].ino:=by rw[incM,h0];rfl
  have hg3:getM (incM m' n.l[i].ino) n.l[i].ino=1:=by rw[incM,ZdH,if_pos rfl,h0];rfl
  have s_:=An @hi (An @h0 (An @hinc (An @hg3 (@hwi))))
  try simp[s_]
  repeat' ((first|((first|refine Tp ?_|refine Tn ?_|refine T2 ?_ ?_)<;>intro h_ e_ n_)|(refine AInv.heap [0,1,2,3] hrec (by simp) (by simp) ?_;simp[hwi])|(exact hA (i+1,_,c1) _ Wc ⟨hi,hstep,o1,by simp only;omega,by simp only;omega⟩ (by simp only;omega))|rw[Ip]|rw[In]|rw[Fz]|rw[Gz]|fail)<;>first|simp[e_,n_,s_]|simp[s_]|skip)
 ·rw[Zv,if_neg h0] at hstep hum o1 b1
  have hg3:getM (incM m' n.l[i].ino) n.l[i].ino=getM m' n.l[i].ino+1:=by rw[incM,ZdH,if_pos rfl]
  obtain⟨m2,hm2⟩:∃m2,m2=incM m' n.l[i].ino:=⟨_,rfl⟩
  have hinc:setM m' n.l[i].ino (getM m' n.l[i].ino+1)=m2:=hm2.symm
  rw[←hm2] at hstep hum o1 b1 hg3
  have s_:=An @hi (An @h0 (An @hw1 (An @hinc (An @hg3 (@hwi)))))
  try simp[s_]
  repeat' ((first|((first|refine Tp ?_|refine Tn ?_|refine T2 ?_ ?_)<;>intro h_ e_ n_)|(exact hA (i+1,_,c1) _ Wc ⟨hi,hstep,o1,by simp only;omega,by simp only;omega⟩ (by simp only;omega))|rw[Ip]|rw[In]|rw[Fz]|rw[Gz]|fail)<;>first|simp[e_,n_,s_]|simp[s_]|skip)
theorem ZvG (f:FSR) (top:Int) (hl:f.l.length≤1000000) (hE:∀n∈f.l,n.l.length≤256):Zd Tryz.prog 119 [encF f,I top] (.fmap (mKs (Zdl f.l top)) (mVs (Zdl f.l top))):=by
 have hak:=ZbH hE
 have hun:Zbc (Zl f.l) []≤(Zl f.l).length:=List.length_filter_le _ _
 have h1:=Ztn f hl hE ((Zl f.l).length+1) top [] 0 .nil (by omega) (by omega)
 refine Pm Tryz.func119 fun hfit=> ?_
 simp[Tryz.f119,FSR.enc]
 have s_:= @FSR.enc.eq_1
 try simp[s_]
 repeat' ((first|((first|refine Tp ?_|refine Tn ?_|refine T2 ?_ ?_)<;>intro h_ e_ n_)|(refine AInv.heap [0,1,2,3] h1 (by simp) (by simp) ?_;simp)|rw[Ip]|rw[In]|rw[Fz]|rw[Gz]|fail)<;>first|simp[e_,n_,s_]|simp[s_]|skip)
 simp[Zdl,Function.comp_def]
theorem ZvH (f:FSR) (ino top:Int) (hl:f.l.length≤1000000) (hE:∀n∈f.l,n.l.length≤256):Zd Tryz.prog 321 [encF f,I ino,I top] (B (decide (0<getM (Zdl f.l top) ino))):=by
 have hun:=ZvG f top hl hE
 refine Pm Tryz.func321 fun hfit=> ?_
 simp[Tryz.f321,FSR.enc]
 have s_:= @FSR.enc.eq_1
 try simp[s_]
 repeat' ((first|((first|refine Tp ?_|refine Tn ?_|refine T2 ?_ ?_)<;>intro h_ e_ n_)|refine Pg hun ?_|rw[Ip]|rw[In]|rw[Fz]|rw[Gz]|fail)<;>first|simp[e_,n_,s_]|simp[s_]|skip)
theorem bytesS (a b:ByteArray):Lib.compareBytes a.data.toList b.data.toList=cmpS a b:=by
 have key:∀x y:List UInt8,Lib.compareBytes x y=if x=y then 0 else if Op.bytesLess x y=true then-1 else 1:=by
  intro x
  induction x with
  |nil=>intro y;cases y<;>simp[Lib.compareBytes,Op.bytesLess]
  |cons a x ih=>
   intro y
   cases y with
   |nil=>simp[Lib.compareBytes,Op.bytesLess]
   |cons b y=>
    simp only[Lib.compareBytes,Op.bytesLess,ih]
    by_cases h1:a<b
    ·have:¬a=b:=fun e=>by subst e;exact absurd h1 (UInt8.lt_irrefl _)
     simp[h1,this]
    ·by_cases h2:b<a
     ·have:¬a=b:=fun e=>by subst e;exact absurd h2 (UInt8.lt_irrefl _)
      simp[h1,h2,this]
     ·have:a=b:=by
       by_cases q:a=b
       ·exact q
       ·rcases UInt8.lt_or_lt_of_ne q with q|q
        ·exact absurd q h1
        ·exact absurd q h2
      subst this
      simp[h1]
 rw[key]
 unfold cmpS ZX
 rw[ByteArray.toList_eq,ByteArray.toList_eq]
 have:(a.data.toList=b.data.toList)=(a=b):=by
  apply propext
  constructor
  ·intro h;cases a;cases b;congr 1;exact Array.ext' h
  ·intro h;rw[h]
 simp only[this]
theorem strcmp_ok (a b:ByteArray):Zd Tryz.prog 332 [S a,S b] (I (cmpS a b)):=by
 refine Zd.ofCalls (by simp) rfl (Ent.mk Tryz.func332 (by kernel_rfl) rfl) fun Z w cargs hz hr=> ?_
 cases hr with
 |cons h1 h2=>
  cases h2 with
  |cons h2 h3=>
   cases h3
   have hs:=Zab h1 rfl
   have hs2:=Zab h2 rfl
   subst hs hs2
   refine(Tryz.strings_Compare a b w).mono fun e w' ⟨he,hw⟩=>⟨?_,by rw[hw];exact .refl _ _⟩
   rw[he,bytesS]
theorem place1_ok (x:EntryR) (s:ByteArray):Zd Tryz.prog 331 [.agg x.enc,S s] (I (cmpS x.name s)):=by
 refine Pm Tryz.func331 fun hfit=> ?_
 simp[Tryz.f331,EntryR.enc]
 have s_:= @EntryR.enc.eq_1
 try simp[s_]
 repeat' ((first|((first|refine Tp ?_|refine Tn ?_|refine T2 ?_ ?_)<;>intro h_ e_ n_)|refine Pg (strcmp_ok x.name s) ?_|rw[Ip]|rw[In]|rw[Fz]|rw[Gz]|fail)<;>first|simp[e_,n_,s_]|simp[s_]|skip)
theorem Znm (l:List EntryR) (s:ByteArray) (hl:l.length≤1000000):Zd Tryz.prog 330 [encL EntryR.enc l,S s,.fn 331 []] (.tup [I (bsGo (atE l s) 0 0 l.length),B (decide (bsGo (atE l s) 0 0 l.length<l.length)&&decide (atE l s (bsGo (atE l s) 0 0 l.length)=0))]):=by
 refine Pm Tryz.func330 fun hfit=> ?_
 simp at hfit
 simp[Tryz.f330]
 refine AW.loopG (lit:=fun _=>false) (fun x:Nat×Nat=>⟨49,pat [(0,encL EntryR.enc l),(1,S s),(2,.fn 331 []),(8,I l.length),(9,I x.1),(10,I x.2)],[]⟩) (fun x=>x.2 -x.1) (fun x=>x.1≤x.2∧x.2≤l.length∧bsGo (atE l s) 0 x.1 x.2=bsGo (atE l s) 0 0 l.length) (0,l.length) ?_ ?_ ?_
 ·exact Wk.at _ rfl rfl (by simp)
 ·simp
 rintro⟨i,j⟩ ⟨h1,h2,h3⟩ A hA
 simp only at h1 h2 h3
 by_cases h:i<j
 case neg=>
  have hij:i=j:=by omega
  subst hij
  rw[Zdj h] at h3
  by_cases hi:i<l.length
  ·have e1:=Zeu s hi
   have s_:=An @h (An @hi (An (Eq.symm (h3)) (An @EntryR.enc.eq_1 (@e1))))
   try simp[s_]
   repeat' ((first|((first|refine Tp ?_|refine Tn ?_|refine T2 ?_ ?_)<;>intro h_ e_ n_)|refine Pg (place1_ok l[i] s) ?_|rw[Ip]|rw[In]|rw[Fz]|rw[Gz]|fail)<;>first|simp[e_,n_,s_]|simp[s_]|skip)
  ·have s_:=An @h (An @hi (Eq.symm (h3)))
   try simp[s_]
   repeat' ((first|((first|refine Tp ?_|refine Tn ?_|refine T2 ?_ ?_)<;>intro h_ e_ n_)|rw[Ip]|rw[In]|rw[Fz]|rw[Gz]|fail)<;>first|simp[e_,n_,s_]|simp[s_]|skip)
 rw[Zdi h] at h3
 have hm:(i+j)/2<l.length:=by omega
 have e1:=Zeu s hm
 have w1:IntKind.i64.wrap ((i:Int)+j)=(i:Int)+j:=Zf (by omega) (by omega)
 have w2:((i:Int)+j)%18446744073709551616=(i:Int)+j:=by omega
 have w3:((i:Int)+j).fdiv 2=(((i+j)/2:Nat):Int):=by rw[Int.fdiv_eq_ediv_of_nonneg _ (by omega)];omega
 have w4:IntKind.i64.wrap (((i+j)/2:Nat):Int)=(((i+j)/2:Nat):Int):=Zf (by omega) (by omega)
 generalize hmm:(i+j)/2=m at*
 have w5:IntKind.i64.wrap ((m:Int)+1)=((m+1:Nat):Int):=by rw[Zf (by omega) (by omega)];omega
 have hk:atE l s m<0∨¬atE l s m<0:=Classical.em _
 rcases hk with hk|hk
 ·rw[if_pos hk] at h3
  rw[e1] at hk
  have s_:=An @h (An @w1 (An @w2 (An @w3 (An @w4 (An @w5 (An @hm (An @EntryR.enc.eq_1 (@hk))))))))
  try simp[s_]
  repeat' ((first|((first|refine Tp ?_|refine Tn ?_|refine T2 ?_ ?_)<;>intro h_ e_ n_)|(exact hA (m+1,j) _ Wa ⟨by simp only;omega,h2,h3⟩ (by simp only;omega))|refine Pg (place1_ok l[m] s) ?_|rw[Ip]|rw[In]|rw[Fz]|rw[Gz]|fail)<;>first|simp[e_,n_,s_]|simp[s_]|skip)
 ·rw[if_neg hk] at h3
  rw[e1] at hk
  have s_:=An @h (An @w1 (An @w2 (An @w3 (An @w4 (An @w5 (An @hm (An @EntryR.enc.eq_1 (@hk))))))))
  try simp[s_]
  repeat' ((first|((first|refine Tp ?_|refine Tn ?_|refine T2 ?_ ?_)<;>intro h_ e_ n_)|(exact hA (i,m) _ Wa ⟨by simp only;omega,by simp only;omega,h3⟩ (by simp only;omega))|refine Pg (place1_ok l[m] s) ?_|rw[Ip]|rw[In]|rw[Fz]|rw[Gz]|fail)<;>first|simp[e_,n_,s_]|simp[s_]|skip)
theorem ZjZ (l:List EntryR) (s:ByteArray) (hr:Zaf l=true) (hl:l.length≤1000000):Zd Tryz.prog 309 [encL EntryR.enc l,S s] (.tup [I (plE l s),B (findE l s).2]):=by
 have h1:=Znm l s hl
 rw[bs_plE hr,(Zgo hr s).1] at h1
 refine Pm Tryz.func309 fun hfit=> ?_
 simp[Tryz.f309]
 try simp
 repeat' ((first|((first|refine Tp ?_|refine Tn ?_|refine T2 ?_ ?_)<;>intro h_ e_ n_)|refine Pg h1 ?_|rw[Ip]|rw[In]|rw[Fz]|rw[Gz]|fail)<;>first|simp[e_,n_]|simp|skip)
theorem nfind_ok (l:List EntryR) (s:ByteArray) (hr:Zaf l=true) (hl:l.length≤1000000):Zd Tryz.prog 263 [encL EntryR.enc l,S s] (.tup [I (findE l s).1,B (findE l s).2]):=by
 have h1:=ZjZ l s hr hl
 have h2:=(Zgo hr s).2
 rcases findE_cases l s with⟨x,_,_,e⟩|⟨_,e⟩
 ·rw[e] at h1 h2⊢
  obtain⟨hp,e1,e2⟩:=h2 rfl
  simp only at h1 e2⊢
  generalize plE l s=q at*
  rw[e2]
  refine Pm Tryz.func263 fun hfit=> ?_
  simp[Tryz.f263]
  have s_:=An @hp (@EntryR.enc.eq_1)
  try simp[s_]
  repeat' ((first|((first|refine Tp ?_|refine Tn ?_|refine T2 ?_ ?_)<;>intro h_ e_ n_)|refine Pg h1 ?_|rw[Ip]|rw[In]|rw[Fz]|rw[Gz]|fail)<;>first|simp[e_,n_,s_]|simp[s_]|skip)
 ·rw[e] at h1⊢
  simp only at h1⊢
  refine Pm Tryz.func263 fun hfit=> ?_
  simp[Tryz.f263]
  try simp
  repeat' ((first|((first|refine Tp ?_|refine Tn ?_|refine T2 ?_ ?_)<;>intro h_ e_ n_)|refine Pg h1 ?_|rw[Ip]|rw[In]|rw[Fz]|rw[Gz]|fail)<;>first|simp[e_,n_]|simp|skip)
theorem ZqC (l:List EntryR) (i:Nat) (x:EntryR) (hi:i≤l.length) (hl:l.length≤1000000):XCall Tryz.prog 346 [.own 0 0 0 l.length 2,I i,.sl true 1 x.enc] [.cells 0 (l.flatMap EntryR.enc)] (.own 0 1 0 (l.length+1) 2) [.cells 1 ((insL l i x).flatMap EntryR.enc)]:=by
 by_cases hi2:i=l.length
 case pos=>
  subst hi2
  refine XCall.mkG (fun s (_:Unit)=>s) (fun _=>false) Tryz.func346 rfl rfl rfl (Ent.mk Tryz.func346 (by kernel_rfl) rfl) (by simp) (by simp) (by simp) (by simp) (by simp) fun hfit=> ?_
  refine⟨WkE.one _ _,fun _=> ?_⟩
  simp[Tryz.f346]
  rw[if_pos (by simp only[maxLen];omega)]
  simp
  exact⟨_,Wk.refl _ _,by simp[ZdK]⟩
 have hi3:i<l.length:=by omega
 have hcp:∀cap,l.length≤cap→(l.length*2+(cap*2 -l.length*2))/2=cap:=fun cap h=>by omega
 have hw1:IntKind.i64.wrap ((l.length:Int)+1)=((l.length+1:Nat):Int):=by rw[Zf (by omega) (by omega)];omega
 have hw2:IntKind.i64.wrap ((i:Int)+1)=((i+1:Nat):Int):=by rw[Zf (by omega) (by omega)];omega
 have hw3:IntKind.i64.wrap ((l.length:Int)+1 -i)=((l.length+1 -i:Nat):Int):=by rw[Zf (by omega) (by omega)];omega
 have hw4:((i:Int)+((l.length+1 -i:Nat):Int)).toNat=l.length+1:=by omega
 have hm1:min 1 (l.length+1 -i)=1:=by omega
 have hm2:∀cap,l.length≤cap→min (i*2) (l.length*2+(cap*2 -l.length*2))=i*2:=fun cap h=>by omega
 have hov:∀(lb:Nat) (h:Za) (y:ABlk) (Q:AV→Za→Prop),h[0]? =some y→(blkCells y).map (·.1)=some 0→Q (B false) h→AInv Tryz.prog (.fn 352 []) [.sl true 1 x.enc,.own 0 0 (i+1) lb 2] h Q:=fun lb h y Q hy hv hq=>
  Zbr Tryz.func352 (by kernel_rfl) rfl (by kernel_rfl) rfl rfl (by kernel_rfl) (k:=2) (by kernel_rfl) true 1 _ _ 0 0 (i+1) lb hy hv (by omega) Q hq
 refine XCall.mkG (fun s (cap:{cap:Nat//l.length≤cap∧cap≤maxLen})=>ZbU s 0 0 2 (l.flatMap EntryR.enc) cap.1) (fun _=>false) Tryz.func346 rfl rfl rfl (Ent.mk Tryz.func346 (by kernel_rfl) rfl) (by simp) (by simp) (by simp) (by simp) (by simp) fun hfit=> ?_
 refine⟨WkE.full (t:=0) (by simp) (by simp) (by omega) (by simp),?_⟩
 rintro⟨cap,hc1,hc2⟩
 have hcp1:=hcp cap hc1
 have hm3:=hm2 cap hc1
 have hi4:¬i=l.length:=by omega
 have hle:i≤l.length:=by omega
 generalize hA:List.replicate (cap*2 -l.length*2) AV.any=A
 have hAl:A.length=cap*2 -l.length*2:=by rw[←hA];simp
 have hLl:(l.flatMap EntryR.enc).length=l.length*2:=ZdG l
 have hta:(l.flatMap EntryR.enc++A).take (i*2)=(l.flatMap EntryR.enc).take (i*2):=List.take_append_of_le_length (by rw[hLl];omega)
 have hdr:(l.flatMap EntryR.enc).drop (i*2)=(l.drop i).flatMap EntryR.enc:=ZfT l i
 have hq0:(l.flatMap EntryR.enc++A).drop (i*2)=(l.drop i).flatMap EntryR.enc++A:=by rw[List.drop_append_of_le_length (by rw[hLl];omega),hdr]
 have hdl:((l.drop i).flatMap EntryR.enc).length=l.length*2 -i*2:=by rw[ZdG,List.length_drop];omega
 by_cases hr:l.length+1≤cap
 ·have hm4:min (l.length+1 -i) (l.length -i)=l.length -i:=by omega
  have hm5:min ((l.length+1 -i)*2) ((l.length -i)*2+(cap*2 -l.length*2))=(l.length+1 -i)*2:=by omega
  have hm6:min ((l.length+1 -i)*2) (l.length*2+(cap*2 -l.length*2) -i*2)=(l.length+1 -i)*2:=by omega
  have hq1:List.take ((l.length -i)*2) (List.take ((l.length+1 -i)*2) ((l.drop i).flatMap EntryR.enc++A))=(l.drop i).flatMap EntryR.enc:=by
   rw[List.take_take,Nat.min_eq_left (by omega),List.take_left' (by rw[hdl];omega)]
  have hq2:(putAt (l.flatMap EntryR.enc++A) ((i+1)*2) ((l.drop i).flatMap EntryR.enc)).length=cap*2:=by
   rw[ZB (by rw[List.length_append,hLl,hAl,hdl];omega),List.length_append,hLl,hAl];omega
  have hq3:(putAt (putAt (l.flatMap EntryR.enc++A) ((i+1)*2) ((l.drop i).flatMap EntryR.enc)) (i*2) x.enc).take ((l.length+1)*2)=(insL l i x).flatMap EntryR.enc:=by
   have:=ZdI (L:=l.flatMap EntryR.enc) (A:=A) (X:=x.enc) (a:=i*2) (k:=2) hLl (by omega) rfl (by rw[hAl];omega)
   rw[Ziv,hq0,List.take_left' (by rw[hdl])] at this
   rw[show(i+1)*2=i*2+2 by omega,show(l.length+1)*2=l.length*2+2 by omega]
   exact this
  have hone:∀y∈(l.drop i).flatMap EntryR.enc,Zx y=true:=List.all_eq_true.1 (Zfz _)
  simp[Tryz.f346,ZbU,hA]
  have s_:=An @hcp1 (An @hw1 (An @hw2 (An @hw3 (An @hw4 (An @hm1 (An @hm3 (An @hm4 (An @hq0 (An @hq1 (An @hq2 (An @hi3 (An @hi4 (An @hle (@hr))))))))))))))
  try simp[s_]
  repeat' ((first|((first|refine Tp ?_|refine Tn ?_|refine T2 ?_ ?_)<;>intro h_ e_ n_)|(refine hov _ _ _ _ rfl rfl ?_;simp)|(refine optBif ⟨rfl,by rw[List.length_append,hLl,hAl];omega,by rw[List.length_take,List.length_append,hdl,hAl];omega,by rw[hm4,hq1];exact hone⟩ ?_;simp)|refine Dg 11 9 [] [] ?_|refine Dg 15 9 [] [] ?_|rw[Ip]|rw[In]|rw[Fz]|rw[Gz]|fail)<;>first|simp[e_,n_,s_]|simp[s_]|skip)
  exact⟨_,Wk.trans (Wk.prefix 0 0 ((l.length+1)*2) rfl rfl) (Wk.bump 6 0 0 0 (l.length+1) 2 (by simp) rfl),by simp[hq3]⟩
 ·have hm5:min ((l.length -i)*2) ((l.length -i)*2+(cap*2 -l.length*2))=(l.length -i)*2:=by omega
  have hq1:List.take ((l.length -i)*2) (List.take ((l.length -i)*2) ((l.drop i).flatMap EntryR.enc++A))=(l.drop i).flatMap EntryR.enc:=by
   rw[List.take_take,Nat.min_self,List.take_left' (by rw[hdl];omega)]
  have hq4:List.take ((l.length -i)*2) ((l.drop i).flatMap EntryR.enc)=(l.drop i).flatMap EntryR.enc:=List.take_of_length_le (by rw[hdl];omega)
  have hone:∀y∈(l.drop i).flatMap EntryR.enc,Zx y=true:=List.all_eq_true.1 (Zfz _)
  simp[Tryz.f346,ZbU,hA]
  generalize hZ:(List.replicate (l.length+1 -i) [AV.val (Value.string ByteArray.empty),AV.val (Value.int IntKind.i64 0)]).flatten=Z
  have hZl:Z.length=(l.length+1 -i)*2:=by rw[←hZ];simp
  have hta':((l.flatMap EntryR.enc).take (i*2)).length=i*2:=by rw[List.length_take,hLl];omega
  have hq2:(putAt ((l.flatMap EntryR.enc).take (i*2)++Z) (i*2) x.enc).length=(l.length+1)*2:=by
   rw[ZB (by rw[List.length_append,hta',hZl,Zmr];omega),List.length_append,hta',hZl];omega
  have hq3:putAt (putAt ((l.flatMap EntryR.enc).take (i*2)++Z) (i*2) x.enc) ((i+1)*2) ((l.drop i).flatMap EntryR.enc)=(insL l i x).flatMap EntryR.enc:=by
   have:=ZdJ (L:=l.flatMap EntryR.enc) (A:=A) (X:=x.enc) (Z:=Z) (a:=i*2) (k:=2) hLl (by omega) rfl (by rw[hZl];omega)
   rw[Ziv,hta,hq0,List.take_left' (by rw[hdl])] at this
   rw[show(i+1)*2=i*2+2 by omega]
   exact this
  have s_:=An @hcp1 (An @hw1 (An @hw2 (An @hw3 (An @hw4 (An @hm1 (An @hm3 (An @hq0 (An @hq1 (An @hq4 (An @hta (An @hZ (An @hi3 (An @hi4 (An @hle (@hr)))))))))))))))
  try simp[s_]
  repeat' ((first|((first|refine Tp ?_|refine Tn ?_|refine T2 ?_ ?_)<;>intro h_ e_ n_)|(refine optBif ⟨by rw[hq2];omega,hone⟩ ?_;simp)|refine Dg 11 9 [] [] ?_|refine Dg 15 9 [] [] ?_|rw[Ip]|rw[In]|rw[Fz]|rw[Gz]|fail)<;>first|simp[e_,n_,s_]|simp[s_]|skip)
  exact⟨_,Wk.move 6 0 1 0 0 (l.length+1) 2 (by decide) (by simp;omega) rfl rfl rfl,by simp[hq3]⟩
theorem ZqD (l:List EntryR) (i:Nat) (hi:i<l.length) (hl:l.length≤1000000):XCall Tryz.prog 340 [.own 0 0 0 l.length 2,I i,I (i+1:Nat)] [.cells 0 (l.flatMap EntryR.enc)] (.own 0 0 0 (l.length -1) 2) [.cells 0 ((l.eraseIdx i).flatMap EntryR.enc)]:=by
 have hLl:(l.flatMap EntryR.enc).length=l.length*2:=ZdG l
 have hdr:(l.flatMap EntryR.enc).drop ((i+1)*2)=(l.drop (i+1)).flatMap EntryR.enc:=ZfT l (i+1)
 have htk:(l.flatMap EntryR.enc).take (i*2)=(l.take i).flatMap EntryR.enc:=ZkG l i
 have hdl:((l.drop (i+1)).flatMap EntryR.enc).length=(l.length -(i+1))*2:=by rw[ZdG,List.length_drop]
 have hn1:i+(l.length -(i+1))=l.length -1:=by omega
 have hi1:i+1≤l.length:=hi
 have hne:¬(i:Int)=((i+1:Nat):Int):=by omega
 have hone:∀y∈(l.drop (i+1)).flatMap EntryR.enc,Zx y=true:=List.all_eq_true.1 (Zfz _)
 refine XCall.mkG (fun s (cap:{cap:Nat//l.length≤cap∧cap≤maxLen})=>ZbU s 0 0 2 (l.flatMap EntryR.enc) cap.1) (fun _=>false) Tryz.func340 rfl rfl rfl (Ent.mk Tryz.func340 (by kernel_rfl) rfl) (by simp) (by simp) (by simp) (by simp) (by simp) fun hfit=> ?_
 refine⟨WkE.full (t:=0) (by simp) (by simp) (by omega) (by simp),?_⟩
 rintro⟨cap,hc1,hc2⟩
 generalize hA:List.replicate (cap*2 -l.length*2) AV.any=A
 have hAl:A.length=cap*2 -l.length*2:=by rw[←hA];simp
 have hq0:List.take ((l.length -(i+1))*2) ((l.flatMap EntryR.enc++A).drop ((i+1)*2))=(l.drop (i+1)).flatMap EntryR.enc:=by
  rw[List.drop_append_of_le_length (by rw[hLl];omega),hdr,List.take_left' (by rw[hdl])]
 have hq3:(putAt (putAt (l.flatMap EntryR.enc++A) (i*2) ((l.drop (i+1)).flatMap EntryR.enc)) ((l.length -1)*2) [AV.val (Value.string ByteArray.empty),AV.val (Value.int IntKind.i64 0)]).take ((l.length -1)*2)=(l.eraseIdx i).flatMap EntryR.enc:=by
  rw[List.eraseIdx_eq_take_drop_succ,List.flatMap_append,←htk]
  have e1:(l.length -1)*2=i*2+((l.drop (i+1)).flatMap EntryR.enc).length:=by rw[hdl];omega
  simp only[putAt]
  have e2:((l.flatMap EntryR.enc++A).take (i*2)).length=i*2:=by rw[List.length_take,List.length_append,hLl];omega
  have e3:(l.flatMap EntryR.enc++A).take (i*2)=(l.flatMap EntryR.enc).take (i*2):=List.take_append_of_le_length (by rw[hLl];omega)
  have e4:(((l.flatMap EntryR.enc).take (i*2)++(l.drop (i+1)).flatMap EntryR.enc)).length=(l.length -1)*2:=by rw[List.length_append,←e3,e2];omega
  rw[e3,List.append_assoc _ [AV.val (Value.string ByteArray.empty),AV.val (Value.int IntKind.i64 0)] _,List.take_left' (by rw[List.length_take,List.length_append,e4];omega),List.take_append_of_le_length (by omega),List.take_of_length_le (by omega)]
 have hq2:(putAt (l.flatMap EntryR.enc++A) (i*2) ((l.drop (i+1)).flatMap EntryR.enc)).length=cap*2:=by
  rw[ZB (by rw[List.length_append,hLl,hAl,hdl];omega),List.length_append,hLl,hAl];omega
 have hq4:l.length*2≤cap*2:=by omega
 have hn2:l.length -(l.length -1)=1:=by omega
 have hn3:l.length -1+1=l.length:=by omega
 have hn4:l.length -1≤l.length:=by omega
 simp[Tryz.f340,ZbU,hA]
 have s_:=An @hq0 (An @hn1 (An @hi1 (An @hne (An @hLl (An @hAl (An @hq2 (An @hq4 (An @hn2 (An @hn3 (@hn4))))))))))
 try simp[s_]
 repeat' ((first|((first|refine Tp ?_|refine Tn ?_|refine T2 ?_ ?_)<;>intro h_ e_ n_)|refine Dg 5 7 [0] [] ?_|rw[Ip]|rw[In]|rw[Fz]|rw[Gz]|fail)<;>first|simp[e_,n_,s_]|simp[s_]|skip)
 exact⟨_,Wk.prefix 0 0 ((l.length -1)*2) rfl rfl,by simp[hq3]⟩
end Go.Proofs.YtgpkaoombhobmaaGreat
