import Derived.Test.YtgpkaoombhobmaaGreatJW1
import Derived.Test.YtgpkaoombhobmaaGreatJP1
import Derived.Test.YtgpkaoombhobmaaGreatJP2
set_option linter.unusedVariables false
set_option linter.unusedSimpArgs false
namespace Go.Proofs.YtgpkaoombhobmaaGreat
open Go.Cx Tab
set_option maxHeartbeats 400000
set_option maxRecDepth 40000
theorem ZbC (l:List Int) (hl:l.length<=1000000):Zb Tryz.prog 310 [enc1 I l] (I (firstS l)):=by
 refine Pm Tryz.func310 λhfit=> ?_
 simp[Tryz.f310]
 refine AW.loopG (lit:=λ_=>false) (λi:Nat=>⟨15,pat [(5,enc1 I l),(6,I l.length),(7,I i)],[]⟩) (λi=>l.length -i) (λi=>i<=l.length/\firstS (l.drop i)=firstS l) 0 ?_ ?_ ?_
 ·exact Wa
 ·simp
 rintro i ⟨h1,h2⟩ A hA
 by_cases hi:i<l.length
 case neg=>
  rw[List.drop_eq_nil_of_le (by omega)] at h2
  have s_:=An @hi (An (Eq.symm (h2)) (An @firstS.eq_1 (@firstS.eq_2)))
  exact WW
 rw[List.drop_eq_getElem_cons hi] at h2
 have hwi:=Zg hi (by simp only[maxLen];omega)
 by_cases hk:l[i]=0
 ·have h3:firstS (l.drop (i+1))=firstS l:=by rw[<-h2];simp[firstS,hk]
  have s_:=An @hi (An @hwi (@hk))
  have q1_:=λs w=>hA (i+1) s w ⟨hi,h3⟩ (by omega)
  exact WW
 ·have h3:firstS l=l[i]:=by rw[<-h2];simp[firstS,hk]
  have s_:=An @hi (An @hwi (An @hk (@h3)))
  exact WW
theorem ZdI (b:Bool) (e:Int):Zb Tryz.prog 318 [B b,I e] (I (unlessS b e)):=by
 refine Pm Tryz.func318 λhfit=> ?_
 simp[Tryz.f318,unlessS]
 cases b<;>simp
theorem ZpH (d:NodeR) (s:ByteArray) (hr:Zai d.l=true) (hl:d.l.length<=1000000):Zb Tryz.prog 319 [encN d,S s] (B (findE d.l s).2):=by
 refine Pm Tryz.func319 λhfit=> ?_
 simp[Tryz.f319]
 have p1_:=ZgN d.l s hr hl
 exact WW
theorem zeroN_enc:NodeR.zero.enc=[I 0,I 0,I 0,S .empty,.sl false 0 []]:=rfl
theorem unl_t (e:Int):Zb Tryz.prog 318 [B true,I e] (I e):=ZdI true e
theorem unl_f (e:Int):Zb Tryz.prog 318 [B false,I e] (I 0):=ZdI false e
theorem over_ok (n old:NodeR):Zb Tryz.prog 322 [encN n,encN old] (I (overD n old)):=by
 have h4:∀a b c:Int,Zb Tryz.prog 310 [enc1 I [a,b,c]] (I (firstS [a,b,c])):=λa b c=>ZbC [a,b,c] (by simp)
 have e8:Zb Tryz.prog 310 [enc1 I [8,0,0]] (I 8):=h4 8 0 0
 have e8':Zb Tryz.prog 310 [enc1 I [8,0,11]] (I 8):=h4 8 0 11
 have e9:Zb Tryz.prog 310 [enc1 I [0,9,0]] (I 9):=h4 0 9 0
 have e9':Zb Tryz.prog 310 [enc1 I [0,9,11]] (I 9):=h4 0 9 11
 have e0:Zb Tryz.prog 310 [enc1 I [0,0,0]] (I 0):=h4 0 0 0
 have e0':Zb Tryz.prog 310 [enc1 I [0,0,11]] (I 11):=h4 0 0 11
 by_cases q1:n.kind=2<;>by_cases q2:old.kind=2<;>by_cases q3:0<old.l.length
 all_goals
  refine Pm Tryz.func322 λhfit=> ?_
  simp[Tryz.f322,overD,q1,q2,q3]
  have s_:=An @q1 (An @q2 (@q3))
  try simp[s_]
  repeat' ((first|((first|refine Tp ?_|refine Tn ?_|refine T2 ?_ ?_)<;>intro h_ e_ n_)|refine Pg (unl_t 8) ?_|refine Pg (unl_f 8) ?_|refine Pg (unl_t 9) ?_|refine Pg (unl_f 9) ?_|refine Pg (unl_t 11) ?_|refine Pg (unl_f 11) ?_|refine Lg e8 ?_|refine Sg e8 ?_|refine Lg e8' ?_|refine Sg e8' ?_|refine Lg e9 ?_|refine Sg e9 ?_|refine Lg e9' ?_|refine Sg e9' ?_|refine Lg e0 ?_|refine Sg e0 ?_|refine Lg e0' ?_|refine Sg e0' ?_|refine Dg 1 26 [] [] ?_|rw[Ip]|rw[In]|rw[Fz]|rw[Gz]|fail)<;>first|simp[e_,n_,s_]|simp[s_]|skip)
theorem Zmq (f:FSR) (d:Int) (h:f.l.length<=1000000):Zb Tryz.prog 274 [encF f,I d] (.tup [encN (dirD f d).1,I (dirD f d).2]):=by
 have h1:=find_ok f d h
 unfold dirD
 by_cases q1:(findB f.l d).2=false
 ·rw[if_pos q1]
  refine Pm Tryz.func274 λhfit=> ?_
  simp[Tryz.f274]
  have s_:=An @q1 (@zeroN_enc)
  exact WW
 by_cases q2:(findB f.l d).1.kind≠2
 ·rw[if_neg q1,if_pos q2]
  refine Pm Tryz.func274 λhfit=> ?_
  simp[Tryz.f274]
  have s_:=An @q1 (An @q2 (@zeroN_enc))
  exact WW
 ·rw[if_neg q1,if_neg q2]
  refine Pm Tryz.func274 λhfit=> ?_
  simp[Tryz.f274]
  have s_:=An @q1 (@q2)
  exact WW
theorem setF_enc (f k:FSR):setMany f.enc 0 k.enc=k.enc:=rfl
theorem ZbP (f:FSR) (d:Int) (s:ByteArray) (h:Zi f):Zb Tryz.prog 265 [encF f,I d,S s] (.tup [encN (lookD f d s).1,I (lookD f d s).2]):=by
 have hlen:=h.len
 have h1:=Zmq f d (by omega)
 have h2:=check_ok s
 have hrow:=h.dirRow d
 have h3:=ZgN (dirD f d).1.l s hrow.rise (by have:=hrow.len;omega)
 have h4:=find_ok f (findE (dirD f d).1.l s).1 (by omega)
 have h5:=ZbC [(dirD f d).2,checkS s] (by simp)
 unfold lookD
 generalize dirD f d=D at*
 generalize findE D.1.l s=E at*
 generalize findB f.l E.1=N at*
 obtain⟨D1,De⟩:=D
 obtain⟨E1,E2⟩:=E
 obtain⟨N1,N2⟩:=N
 simp only at*
 by_cases q1:De=0
 case neg=>
  rw[if_pos q1]
  refine Pm Tryz.func265 λhfit=> ?_
  simp[Tryz.f265]
  have s_:=An @q1 (An @firstS.eq_1 (An @firstS.eq_2 (@zeroN_enc)))
  exact WW
 rw[if_neg (by simpa using q1)]
 by_cases q2:checkS s=0
 case neg=>
  rw[if_pos q2]
  refine Pm Tryz.func265 λhfit=> ?_
  simp[Tryz.f265]
  have s_:=An @q1 (An @q2 (An @firstS.eq_1 (An @firstS.eq_2 (@zeroN_enc))))
  exact WW
 rw[if_neg (by simpa using q2)]
 cases E2 with
 |false=>
  rw[if_pos rfl]
  refine Pm Tryz.func265 λhfit=> ?_
  simp[Tryz.f265]
  have s_:=An @q1 (An @q2 (An @firstS.eq_1 (An @firstS.eq_2 (@zeroN_enc))))
  exact WW
 |true=>
  rw[if_neg (by simp)]
  cases N2 with
  |false=>
   rw[if_pos rfl]
   refine Pm Tryz.func265 λhfit=> ?_
   simp[Tryz.f265]
   have s_:=An @q1 (An @q2 (An @firstS.eq_1 (An @firstS.eq_2 (@zeroN_enc))))
   exact WW
  |true=>
   rw[if_neg (by simp)]
   refine Pm Tryz.func265 λhfit=> ?_
   simp[Tryz.f265]
   have s_:=An @q1 (An @q2 (An @firstS.eq_1 (An @firstS.eq_2 (@zeroN_enc))))
   exact WW
theorem Zgf (f:FSR) (d:NodeR) (s:ByteArray) (ino:Int) (hr:RowE d.l) (hl:f.l.length<=100000) (hn:inI d.ino) (hm:d.ino≠9223372036854775807):Zb Tryz.prog 320 [encF f,encN d,S s,I ino] (encF (putB f {d with l:=(enterE d.l s ino).1})):=by
 have h1:=ZxR d.l s ino hr.rise (by have:=hr.len;omega)
 have h2:=ZeO f {d with l:=(enterE d.l s ino).1} hl hn hm
 generalize enterE d.l s ino=E at*
 refine Pm Tryz.func320 λhfit=> ?_
 simp[Tryz.f320]
 exact WW
theorem ZjE (f:FSR) (dir:Int) (s:ByteArray) (n:NodeR) (h:Zi f) (hb:f.next<=4611686018427387904) (hd:(findB f.l dir).2=true) (hn:n=(findB f.l n.ino).1) (hf:(findB f.l n.ino).2=true) (hne:n.ino≠dir):Zb Tryz.prog 323 [encF f,I dir,S s,encN n] (encF (withoutD f dir s n.ino)):=by
 have hlen:=h.len
 have h1:=find_ok f dir (by omega)
 have hrow:=h.row dir
 have h2:=ZpG (findB f.l dir).1.l s hrow.rise (by have:=hrow.len;omega)
 have hnum:=h.num dir
 have hnn:=h.num n.ino
 have hlk:=h.links n.ino
 rw[<-hn] at hnn hlk
 have hs:=Zcg h hd s
 have h3:=ZeO f {(findB f.l dir).1 with l:=(leaveE (findB f.l dir).1.l s).1} (by omega) ⟨by simp only;omega,by simp only;omega⟩ (by simp only;omega)
 have h4:=tout_ok (leftD f dir s) n.ino (by have:=hs.len;omega)
 have h5:=ZeO (leftD f dir s) {n with links:=n.links -1} (by have:=hs.len;omega) ⟨by simp only;omega,by simp only;omega⟩ (by simp only;omega)
 have hw:IntKind.i64.wrap (n.links -1)=n.links -1:=Zh (by omega) (by omega)
 rw[Zrm h hd s hne,<-hn]
 have e:putB f {(findB f.l dir).1 with l:=(leaveE (findB f.l dir).1.l s).1}=leftD f dir s:=rfl
 rw[e] at h3
 generalize leftD f dir s=K at*
 generalize leaveE (findB f.l dir).1.l s=L at*
 generalize findB f.l dir=D at*
 by_cases q:n.links<=1
 ·rw[if_pos q]
  refine Pm Tryz.func323 λhfit=> ?_
  simp[Tryz.f323]
  have s_:=An @q (@setF_enc)
  exact WW
 ·rw[if_neg q]
  refine Pm Tryz.func323 λhfit=> ?_
  simp[Tryz.f323]
  have s_:=An @q (An @hw (@setF_enc))
  exact WW
theorem take_ok (f:FSR) (dir:Int) (s:ByteArray) (h:Zi f) (hb:f.next<=4611686018427387904) (hne:(lookD f dir s).2=0->(lookD f dir s).1.ino≠dir):Zb Tryz.prog 317 [encF f,I dir,S s] (.tup [encF (takeD f dir s).1,I (takeD f dir s).2]):=by
 have h1:=ZbP f dir s h
 unfold takeD
 by_cases q1:(lookD f dir s).2=0
 case neg=>
  rw[if_pos q1]
  have h5:=ZbC [(lookD f dir s).2,0] (by simp)
  have h6:=ZbC [(lookD f dir s).2,11] (by simp)
  by_cases q2:0<(lookD f dir s).1.l.length
  ·refine Pm Tryz.func317 λhfit=> ?_
   simp[Tryz.f317]
   have s_:=An @q1 (An @q2 (An @firstS.eq_1 (@firstS.eq_2)))
   have p1_:=unl_t 11
   have p2_:=unl_f 11
   exact WW
  ·refine Pm Tryz.func317 λhfit=> ?_
   simp[Tryz.f317]
   have s_:=An @q1 (An @q2 (An @firstS.eq_1 (@firstS.eq_2)))
   have p1_:=unl_t 11
   have p2_:=unl_f 11
   exact WW
 rw[if_neg (by simpa using q1)]
 obtain⟨g1,g2,g3,g4,g5⟩:=Zeb q1
 obtain⟨g6,g7,g8⟩:=Zbf g1
 have hi:(findB f.l (lookD f dir s).1.ino)=((lookD f dir s).1,true):=findB_of h.rise (Zfs q1)
 have h2:=ZjE f dir s (lookD f dir s).1 h hb g6 (by rw[hi]) (by rw[hi]) (hne q1)
 have h5:=ZbC [0,0] (by simp)
 have h6:=ZbC [0,11] (by simp)
 generalize lookD f dir s=L at*
 by_cases q2:0<L.1.l.length
 ·rw[if_pos q2]
  refine Pm Tryz.func317 λhfit=> ?_
  simp[Tryz.f317]
  have s_:=An @q1 (An @q2 (An @firstS.eq_1 (@firstS.eq_2)))
  have p1_:=unl_t 11
  have p2_:=unl_f 11
  exact WW
 ·rw[if_neg q2]
  refine Pm Tryz.func317 λhfit=> ?_
  simp[Tryz.f317]
  have s_:=An @q1 (An @q2 (An @firstS.eq_1 (@firstS.eq_2)))
  have p1_:=unl_t 11
  have p2_:=unl_f 11
  exact WW
theorem add1_ok (s:ByteArray) (d:NodeR) (f:FSR) (n:NodeR) (hr:RowE d.l):Zb Tryz.prog 337 [.fp [S s],.fp d.enc,.fp f.enc,.fp n.enc] (I (mayD f d s n)):=by
 have h1:=check_ok s
 have h2:=ZpH d s hr.rise (by have:=hr.len;omega)
 have h3:=nright_ok n
 have e:∀a b c:Int,Zb Tryz.prog 310 [enc1 I [checkS s,a,b,c]] (I (firstS [checkS s,a,b,c])):=λa b c=>ZbC [checkS s,a,b,c] (by simp)
 unfold mayD
 generalize checkS s=k at*
 generalize(findE d.l s).2=th at*
 generalize nodeOk n=ok at*
 cases th<;>cases ok<;>by_cases q1:256<=f.l.length<;>by_cases q2:256<=d.l.length<;>by_cases q3:0<n.l.length
 all_goals
  refine Pm Tryz.func337 λhfit=> ?_
  simp[Tryz.f337,unlessS,q1,q2,q3]
  have s_:=An @q1 (An @q2 (An @q3 (@FSR.enc.eq_1)))
  try simp[s_]
  repeat' ((first|((first|refine Tp ?_|refine Tn ?_|refine T2 ?_ ?_)<;>intro h_ e_ n_)|refine Pg h1 ?_|refine Pg h2 ?_|refine Pg h3 ?_|refine Pg (unl_t 7) ?_|refine Pg (unl_f 7) ?_|refine Pg (unl_t 12) ?_|refine Pg (unl_f 12) ?_|refine Pg (unl_t 1) ?_|refine Pg (unl_f 1) ?_|refine Lg (e 0 0 0) ?_|refine Sg (e 0 0 0) ?_|refine Lg (e 0 0 1) ?_|refine Sg (e 0 0 1) ?_|refine Lg (e 0 12 0) ?_|refine Sg (e 0 12 0) ?_|refine Lg (e 0 12 1) ?_|refine Sg (e 0 12 1) ?_|refine Lg (e 7 0 0) ?_|refine Sg (e 7 0 0) ?_|refine Lg (e 7 0 1) ?_|refine Sg (e 7 0 1) ?_|refine Lg (e 7 12 0) ?_|refine Sg (e 7 12 0) ?_|refine Lg (e 7 12 1) ?_|refine Sg (e 7 12 1) ?_|refine Dg 1 30 [] [] ?_|rw[Ip]|rw[In]|rw[Fz]|rw[Gz]|fail)<;>first|simp[e_,n_,s_]|simp[s_]|skip)
theorem newN_enc (f:FSR) (n:NodeR):(n.enc.set 0 (AV.val (.int .i64 f.next))).set 2 (AV.val (.int .i64 1))=(newN f n).enc:=rfl
theorem add_ok (f:FSR) (dir:Int) (s:ByteArray) (n:NodeR) (h:Zi f) (hb:f.next<4611686018427387904):Zb Tryz.prog 316 [encF f,I dir,S s,encN n] (.tup [encF (addD f dir s n).1,I (addD f dir s n).2]):=by
 have hlen:=h.len
 have hnx:=h.next
 have hrow:=h.dirRow dir
 have h1:=Zmq f dir (by omega)
 have h2:=add1_ok s (dirD f dir).1 f (newN f n) hrow
 have h3:=ZbC [(dirD f dir).2,mayD f (dirD f dir).1 s (newN f n)] (by simp)
 rw[Znz]
 by_cases q:firstS [(dirD f dir).2,mayD f (dirD f dir).1 s (newN f n)]=0
 ·obtain⟨q1,q2⟩:=ZlM q
  obtain⟨g1,g2,g3⟩:=Zbf q1
  have hs:=ZaQ h g1 g2 s f.next
  have hn:=h.num dir
  rw[g3] at hrow
  have h4:=Zgf f (findB f.l dir).1 s f.next hrow (by omega) ⟨by omega,by omega⟩ (by omega)
  have e:putB f {(findB f.l dir).1 with l:=(enterE (findB f.l dir).1.l s f.next).1}=enteredD f dir s f.next:=rfl
  rw[e] at h4
  have h5:=ZeO (enteredD f dir s f.next) (newN f n) (by have:=hs.len;omega) (by simp only[newN];exact⟨by omega,by omega⟩) (by simp only[newN];omega)
  rw[if_pos q]
  rw[g3] at h1 h2 h3 q
  rw[q] at h3
  generalize enteredD f dir s f.next=K at*
  generalize mayD f (findB f.l dir).1 s (newN f n)=m at*
  generalize(dirD f dir).2=De at*
  subst q1
  refine Pm Tryz.func316 λhfit=> ?_
  have d1_:=D0 7 8 [] []
  simp[Tryz.f316]
  have s_:=An @newN_enc (@FSR.enc.eq_1)
  exact WW
 ·rw[if_neg q]
  generalize mayD f (dirD f dir).1 s (newN f n)=m at*
  generalize dirD f dir=D at*
  generalize firstS [D.2,m]=r at*
  refine Pm Tryz.func316 λhfit=> ?_
  have d1_:=D0 7 8 [] []
  simp[Tryz.f316]
  have s_:=An @q (An @newN_enc (@FSR.enc.eq_1))
  exact WW
theorem ZxY (f:FSR) (dir:Int) (s:ByteArray) (ino:Int) (h:Zi f) (hb:f.next<4611686018427387904):Zb Tryz.prog 292 [encF f,I dir,S s,I ino] (.tup [encF (giveD f dir s ino).1,I (giveD f dir s ino).2]):=by
 have hlen:=h.len
 have hrow:=h.dirRow dir
 have h1:=Zmq f dir (by omega)
 have h2:=find_ok f ino (by omega)
 have h3:=check_ok s
 have h4:=ZpH (dirD f dir).1 s hrow.rise (by have:=hrow.len;omega)
 have hlk:=h.links ino
 have hnn:=h.num ino
 have h0:=ZnA (f:=f) (dir:=dir) (s:=s) (ino:=ino)
 have hG:∀a b c d:Int,Zb Tryz.prog 310 [enc1 I [(dirD f dir).2,a,b,checkS s,c,d]] (I (firstS [(dirD f dir).2,a,b,checkS s,c,d])):=λa b c d=>ZbC [(dirD f dir).2,a,b,checkS s,c,d] (by simp)
 have h5:=hG (unlessS (!(findB f.l ino).2) 6) (unlessS (decide ((findB f.l ino).1.kind=2)) 9) (unlessS (findE (dirD f dir).1.l s).2 7) (unlessS (decide (256<=(dirD f dir).1.l.length)||decide (64<=(findB f.l ino).1.links)) 12)
 have e5:giveE f dir s ino=firstS [(dirD f dir).2,unlessS (!(findB f.l ino).2) 6,unlessS (decide ((findB f.l ino).1.kind=2)) 9,checkS s,unlessS (findE (dirD f dir).1.l s).2 7,unlessS (decide (256<=(dirD f dir).1.l.length)||decide (64<=(findB f.l ino).1.links)) 12]:=rfl
 rw[<-e5] at h5
 rw[ZbT]
 have u1:=ZdI (!(findB f.l ino).2) 6
 have u2:=ZdI (decide ((findB f.l ino).1.kind=2)) 9
 have u3:=ZdI (findE (dirD f dir).1.l s).2 7
 have hw:IntKind.i64.wrap ((findB f.l ino).1.links+1)=(findB f.l ino).1.links+1:=Zh (by omega) (by omega)
 by_cases q:giveE f dir s ino=0
 ·obtain⟨g1,g2,g3,g4,g5,g6,g7⟩:=h0 q
  obtain⟨k1,k2,k3⟩:=Zbf g1
  have hs:=ZaQ h k1 k2 s ino
  have hn:=h.num dir
  rw[k3] at hrow g6
  have h6:=Zgf f (findB f.l dir).1 s ino hrow (by omega) ⟨by omega,by omega⟩ (by omega)
  have e:putB f {(findB f.l dir).1 with l:=(enterE (findB f.l dir).1.l s ino).1}=enteredD f dir s ino:=rfl
  rw[e] at h6
  have h7:=ZeO (enteredD f dir s ino) {(findB f.l ino).1 with links:=(findB f.l ino).1.links+1} (by have:=hs.len;omega) ⟨by simp only;omega,by simp only;omega⟩ (by simp only;omega)
  have p1:¬256<=(findB f.l dir).1.l.length:=by omega
  have p2:¬64<=(findB f.l ino).1.links:=by omega
  rw[if_pos q]
  clear e5 hG h0
  simp only[k3,g1,g2,g4,g5,q] at h1 h2 h3 h4 h5 u1 u2 u3
  generalize enteredD f dir s ino=K at*
  generalize findB f.l dir=D at*
  generalize findB f.l ino=N at*
  simp[unlessS,g3,p1,p2] at h5 u1 u2 u3
  refine Pm Tryz.func292 λhfit=> ?_
  have d1_:=D0 4 18 [] []
  have d2_:=D0 8 7 [] []
  simp[Tryz.f292]
  have s_:=An @p1 (An @p2 (An @g3 (An @hw (@FSR.enc.eq_1))))
  have p1_:=u1
  have p2_:=u2
  have p3_:=u3
  have p4_:=unl_f 12
  exact WW
 ·rw[if_neg q]
  clear h0 e5 hG
  generalize giveE f dir s ino=r at*
  generalize dirD f dir=D at*
  generalize findB f.l ino=N at*
  generalize unlessS (!N.2) 6=a1 at*
  generalize unlessS (decide (N.1.kind=2)) 9=a2 at*
  generalize unlessS (findE D.1.l s).2 7=a3 at*
  by_cases q1:256<=D.1.l.length
  ·simp[unlessS,q1] at h5
   refine Pm Tryz.func292 λhfit=> ?_
   have d1_:=D0 4 18 [] []
   have d2_:=D0 8 7 [] []
   simp[Tryz.f292]
   have s_:=An @q (An @q1 (@FSR.enc.eq_1))
   have p1_:=u1
   have p2_:=u2
   have p3_:=u3
   have p4_:=unl_t 12
   have p5_:=unl_f 12
   exact WW
  by_cases q2:64<=N.1.links
  ·simp[unlessS,q1,q2] at h5
   refine Pm Tryz.func292 λhfit=> ?_
   have d1_:=D0 4 18 [] []
   have d2_:=D0 8 7 [] []
   simp[Tryz.f292]
   have s_:=An @q (An @q1 (An @q2 (@FSR.enc.eq_1)))
   have p1_:=u1
   have p2_:=u2
   have p3_:=u3
   have p4_:=unl_t 12
   have p5_:=unl_f 12
   exact WW
  ·simp[unlessS,q1,q2] at h5
   refine Pm Tryz.func292 λhfit=> ?_
   have d1_:=D0 4 18 [] []
   have d2_:=D0 8 7 [] []
   simp[Tryz.f292]
   have s_:=An @q (An @q1 (An @q2 (@FSR.enc.eq_1)))
   have p1_:=u1
   have p2_:=u2
   have p3_:=u3
   have p4_:=unl_t 12
   have p5_:=unl_f 12
   exact WW
theorem setN_enc (n m:NodeR):setMany n.enc 0 m.enc=m.enc:=rfl
theorem setN4_enc (n m:NodeR) (v:AV):setMany (n.enc.set 4 v) 0 m.enc=m.enc:=rfl
theorem move_ok (f:FSR) (dir:Int) (s:ByteArray) (to:Int) (t:ByteArray) (h:Zi f) (hb:f.next<4611686018427387904) (hT:(lookD f to t).2=0->(lookD f to t).1.ino≠to):
  Zb Tryz.prog 294 [encF f,I dir,S s,I to,S t] (.tup [encF (moveD f dir s to t).1,I (moveD f dir s to t).2]):=by
 have hlen:=h.len
 have h1:=ZbP f dir s h
 have h2:=Zmq f to (by omega)
 have h3:=check_ok t
 have h4:=ZbC [(lookD f dir s).2,(dirD f to).2,checkS t] (by simp)
 have h5:=ZxQ f to (lookD f dir s).1.ino (by omega) (λn hn=>((ZbL _).1 ((Zs n).1 (h.ok n hn)).row).len)
 have eb:decide (0<getM (Zdj f.l (lookD f dir s).1.ino) to)=belowD f to (lookD f dir s).1.ino:=rfl
 rw[eb] at h5
 have h6:=ZbP f to t h
 have h7:=over_ok (lookD f dir s).1 (lookD f to t).1
 unfold moveD
 by_cases q1:(lookD f dir s).2=0
 case neg=>
  rw[if_pos q1]
  generalize lookD f dir s=L at*
  generalize dirD f to=D at*
  refine Pm Tryz.func294 λhfit=> ?_
  simp[Tryz.f294]
  have s_:=An @q1 (An @firstS.eq_1 (@firstS.eq_2))
  exact WW
 rw[if_neg (by simpa using q1)]
 by_cases q2:(dirD f to).2=0
 case neg=>
  rw[if_pos q2]
  generalize lookD f dir s=L at*
  generalize dirD f to=D at*
  refine Pm Tryz.func294 λhfit=> ?_
  simp[Tryz.f294]
  have s_:=An @q1 (An @q2 (An @firstS.eq_1 (@firstS.eq_2)))
  exact WW
 rw[if_neg (by simpa using q2)]
 by_cases q3:checkS t=0
 case neg=>
  rw[if_pos q3]
  generalize lookD f dir s=L at*
  generalize dirD f to=D at*
  refine Pm Tryz.func294 λhfit=> ?_
  simp[Tryz.f294]
  have s_:=An @q1 (An @q2 (An @q3 (An @firstS.eq_1 (@firstS.eq_2))))
  exact WW
 rw[if_neg (by simpa using q3)]
 obtain⟨d1,d2,d3⟩:=Zbf q2
 obtain⟨l1,l2,l3,l4,l5⟩:=Zeb q1
 obtain⟨c1,c2,c3⟩:=Zbf l1
 by_cases q4:(lookD f dir s).1.kind=2/\((lookD f dir s).1.ino=to\/belowD f to (lookD f dir s).1.ino=true)
 ·rw[if_pos q4]
  obtain⟨q4,q5⟩:=q4
  generalize belowD f to (lookD f dir s).1.ino=bl at*
  generalize lookD f dir s=L at*
  generalize dirD f to=D at*
  by_cases q6:L.1.ino=to
  ·refine Pm Tryz.func294 λhfit=> ?_
   simp[Tryz.f294]
   have s_:=An @q1 (An @q2 (An @q3 (An @q4 (An @q6 (An @firstS.eq_1 (@firstS.eq_2))))))
   exact WW
  ·have q7:bl=true:=q5.resolve_left q6
   subst q7
   refine Pm Tryz.func294 λhfit=> ?_
   simp[Tryz.f294]
   have s_:=An @q1 (An @q2 (An @q3 (An @q4 (An @q6 (An @firstS.eq_1 (@firstS.eq_2))))))
   exact WW
 rw[if_neg q4]
 have q4':(lookD f dir s).1.kind≠2\/(lookD f dir s).1.kind=2/\(lookD f dir s).1.ino≠to/\belowD f to (lookD f dir s).1.ino=false:=by
  by_cases k:(lookD f dir s).1.kind=2
  ·exact .inr ⟨k,λe=>q4 ⟨k,.inl e⟩,by
    cases hb:belowD f to (lookD f dir s).1.ino
    ·rfl
    ·exact absurd ⟨k,.inr hb⟩ q4⟩
  ·exact .inl k
 clear q4
 by_cases q5:(lookD f to t).2=0/\(lookD f to t).1.ino=(lookD f dir s).1.ino
 ·rw[if_pos q5]
  obtain⟨q5,q6⟩:=q5
  generalize belowD f to (lookD f dir s).1.ino=bl at*
  generalize lookD f dir s=L at*
  generalize lookD f to t=O at*
  generalize dirD f to=D at*
  rcases q4' with q4|⟨q4,q7,rfl⟩
  ·refine Pm Tryz.func294 λhfit=> ?_
   simp[Tryz.f294]
   have s_:=An @q1 (An @q2 (An @q3 (An @q4 (An @q5 (An @q6 (An @firstS.eq_1 (@firstS.eq_2)))))))
   exact WW
  ·refine Pm Tryz.func294 λhfit=> ?_
   simp[Tryz.f294]
   have s_:=An @q1 (An @q2 (An @q3 (An @q4 (An @q5 (An @q6 (An @q7 (An @firstS.eq_1 (@firstS.eq_2))))))))
   exact WW
 rw[if_neg q5]
 by_cases q8:(lookD f to t).2=0/\overD (lookD f dir s).1 (lookD f to t).1≠0
 ·rw[if_pos q8]
  obtain⟨q8,q9⟩:=q8
  have q6:¬(lookD f to t).1.ino=(lookD f dir s).1.ino:=λe=>q5 ⟨q8,e⟩
  generalize belowD f to (lookD f dir s).1.ino=bl at*
  generalize overD (lookD f dir s).1 (lookD f to t).1=ov at*
  generalize lookD f dir s=L at*
  generalize lookD f to t=O at*
  generalize dirD f to=D at*
  rcases q4' with q4|⟨q4,q7,rfl⟩
  ·refine Pm Tryz.func294 λhfit=> ?_
   simp[Tryz.f294]
   have s_:=An @q1 (An @q2 (An @q3 (An @q4 (An @q6 (An @q8 (An @q9 (An @firstS.eq_1 (@firstS.eq_2))))))))
   exact WW
  ·refine Pm Tryz.func294 λhfit=> ?_
   simp[Tryz.f294]
   have s_:=An @q1 (An @q2 (An @q3 (An @q4 (An @q6 (An @q7 (An @q8 (An @q9 (An @firstS.eq_1 (@firstS.eq_2)))))))))
   exact WW
 rw[if_neg q8]
 have hK:=Zjd h to t
 have hkl:=hK.rows.len
 have hkn:=hK.next
 have h8:=find_ok (clearD f to t) to (by omega)
 have h9:=find_ok (clearD f to t) dir (by omega)
 have hC:=Zec h to t dir (λhl e=>by
  have ho:overD (lookD f dir s).1 (lookD f to t).1=0:=Decidable.byContradiction λk=>q8 ⟨hl,k⟩
  have hi:=findB_of h.rise (Zfs hl)
  rw[<-e] at hi
  have hl0:¬0<(lookD f to t).1.l.length:=λk=>by
   unfold overD at ho
   rw[if_pos k] at ho
   split at ho
   ·simp at ho
   ·split at ho<;>simp at ho
  rw[c3,hi] at l3
  have:(lookD f to t).1.l=[]:=List.eq_nil_of_length_eq_zero (by omega)
  simp only[this] at l3
  simp[findE] at l3) hT
 have hfd:(findB (clearD f to t).l dir).2=true:=by
  rw[hC]
  split
  ·rfl
  ·exact c1
 have hrow:=hK.rows.row dir
 have hnum:=hK.rows.num dir
 have h10:=ZpG (findB (clearD f to t).l dir).1.l s hrow.rise (by have:=hrow.len;omega)
 have h11:=ZeO (clearD f to t) {(findB (clearD f to t).l dir).1 with l:=(leaveE (findB (clearD f to t).l dir).1.l s).1} (by omega) ⟨by simp only;omega,by simp only;omega⟩ (by simp only;omega)
 have e11:putB (clearD f to t) {(findB (clearD f to t).l dir).1 with l:=(leaveE (findB (clearD f to t).l dir).1.l s).1}=leftD (clearD f to t) dir s:=rfl
 rw[e11] at h11
 have hM:=Zcg hK.rows hfd s
 have hml:=hM.rows.len
 have hmn:=hM.next
 have h12:=find_ok (leftD (clearD f to t) dir s) to (by omega)
 have hrow2:=hM.rows.row to
 have hnum2:=hM.rows.num to
 have h13:=Zgf (leftD (clearD f to t) dir s) (findB (leftD (clearD f to t) dir s).l to).1 t (lookD f dir s).1.ino hrow2 (by omega) ⟨by omega,by omega⟩ (by omega)
 have e13:putB (leftD (clearD f to t) dir s) {(findB (leftD (clearD f to t) dir s).l to).1 with l:=(enterE (findB (leftD (clearD f to t) dir s).l to).1.l t (lookD f dir s).1.ino).1}=enteredD (leftD (clearD f to t) dir s) to t (lookD f dir s).1.ino:=rfl
 rw[e13] at h13
 by_cases q9:(lookD f to t).2=0
 ·have q6:¬(lookD f to t).1.ino=(lookD f dir s).1.ino:=λe=>q5 ⟨q9,e⟩
  have ho:overD (lookD f dir s).1 (lookD f to t).1=0:=Decidable.byContradiction λk=>q8 ⟨q9,k⟩
  have hi:=findB_of h.rise (Zfs q9)
  have h14:=ZjE f to t (lookD f to t).1 h (by omega) d1 (by rw[hi]) (by rw[hi]) (hT q9)
  have e14:withoutD f to t (lookD f to t).1.ino=clearD f to t:=by unfold clearD;rw[if_pos q9]
  rw[e14] at h14
  rw[ho] at h7
  clear e11 e13 e14 hC
  generalize enteredD (leftD (clearD f to t) dir s) to t (lookD f dir s).1.ino=R at*
  generalize leftD (clearD f to t) dir s=M at*
  generalize clearD f to t=K at*
  generalize belowD f to (lookD f dir s).1.ino=bl at*
  generalize lookD f dir s=L at*
  generalize lookD f to t=O at*
  generalize dirD f to=D at*
  by_cases r1:dir=to
  ·rw[if_neg (λk=>k.1 r1)]
   subst r1
   rcases q4' with q4|⟨q4,q7,rfl⟩
   ·refine Pm Tryz.func294 λhfit=> ?_
    simp[Tryz.f294]
    have s_:=An @q1 (An @q2 (An @q3 (An @q4 (An @q6 (An @q9 (An @firstS.eq_1 (An @firstS.eq_2 (An @setF_enc (An @setN_enc (@setN4_enc))))))))))
    exact WW
   ·refine Pm Tryz.func294 λhfit=> ?_
    simp[Tryz.f294]
    have s_:=An @q1 (An @q2 (An @q3 (An @q4 (An @q6 (An @q7 (An @q9 (An @firstS.eq_1 (An @firstS.eq_2 (An @setF_enc (An @setN_enc (@setN4_enc)))))))))))
    exact WW
  by_cases r2:256<=(findB K.l to).1.l.length
  ·rw[if_pos ⟨r1,r2⟩]
   rcases q4' with q4|⟨q4,q7,rfl⟩
   ·refine Pm Tryz.func294 λhfit=> ?_
    simp[Tryz.f294]
    have s_:=An @q1 (An @q2 (An @q3 (An @q4 (An @q6 (An @q9 (An @r1 (An @r2 (An @firstS.eq_1 (An @firstS.eq_2 (An @setF_enc (An @setN_enc (@setN4_enc))))))))))))
    exact WW
   ·refine Pm Tryz.func294 λhfit=> ?_
    simp[Tryz.f294]
    have s_:=An @q1 (An @q2 (An @q3 (An @q4 (An @q6 (An @q7 (An @q9 (An @r1 (An @r2 (An @firstS.eq_1 (An @firstS.eq_2 (An @setF_enc (An @setN_enc (@setN4_enc)))))))))))))
    exact WW
  ·rw[if_neg (λk=>r2 k.2)]
   rcases q4' with q4|⟨q4,q7,rfl⟩
   ·refine Pm Tryz.func294 λhfit=> ?_
    simp[Tryz.f294]
    have s_:=An @q1 (An @q2 (An @q3 (An @q4 (An @q6 (An @q9 (An @r1 (An @r2 (An @firstS.eq_1 (An @firstS.eq_2 (An @setF_enc (An @setN_enc (@setN4_enc))))))))))))
    exact WW
   ·refine Pm Tryz.func294 λhfit=> ?_
    simp[Tryz.f294]
    have s_:=An @q1 (An @q2 (An @q3 (An @q4 (An @q6 (An @q7 (An @q9 (An @r1 (An @r2 (An @firstS.eq_1 (An @firstS.eq_2 (An @setF_enc (An @setN_enc (@setN4_enc)))))))))))))
    exact WW
 ·have e14:clearD f to t=f:=by unfold clearD;rw[if_neg q9]
  rw[e14] at h8 h9 h10 h11 h12 h13⊢
  clear e11 e13 e14 hC
  generalize enteredD (leftD f dir s) to t (lookD f dir s).1.ino=R at*
  generalize leftD f dir s=M at*
  generalize belowD f to (lookD f dir s).1.ino=bl at*
  generalize lookD f dir s=L at*
  generalize lookD f to t=O at*
  generalize dirD f to=D at*
  by_cases r1:dir=to
  ·rw[if_neg (λk=>k.1 r1)]
   subst r1
   rcases q4' with q4|⟨q4,q7,rfl⟩
   ·refine Pm Tryz.func294 λhfit=> ?_
    simp[Tryz.f294]
    have s_:=An @q1 (An @q2 (An @q3 (An @q4 (An @q9 (An @firstS.eq_1 (An @firstS.eq_2 (An @setF_enc (An @setN_enc (@setN4_enc)))))))))
    exact WW
   ·refine Pm Tryz.func294 λhfit=> ?_
    simp[Tryz.f294]
    have s_:=An @q1 (An @q2 (An @q3 (An @q4 (An @q7 (An @q9 (An @firstS.eq_1 (An @firstS.eq_2 (An @setF_enc (An @setN_enc (@setN4_enc))))))))))
    exact WW
  by_cases r2:256<=(findB f.l to).1.l.length
  ·rw[if_pos ⟨r1,r2⟩]
   rcases q4' with q4|⟨q4,q7,rfl⟩
   ·refine Pm Tryz.func294 λhfit=> ?_
    simp[Tryz.f294]
    have s_:=An @q1 (An @q2 (An @q3 (An @q4 (An @q9 (An @r1 (An @r2 (An @firstS.eq_1 (An @firstS.eq_2 (An @setF_enc (An @setN_enc (@setN4_enc)))))))))))
    exact WW
   ·refine Pm Tryz.func294 λhfit=> ?_
    simp[Tryz.f294]
    have s_:=An @q1 (An @q2 (An @q3 (An @q4 (An @q7 (An @q9 (An @r1 (An @r2 (An @firstS.eq_1 (An @firstS.eq_2 (An @setF_enc (An @setN_enc (@setN4_enc))))))))))))
    exact WW
  ·rw[if_neg (λk=>r2 k.2)]
   rcases q4' with q4|⟨q4,q7,rfl⟩
   ·refine Pm Tryz.func294 λhfit=> ?_
    simp[Tryz.f294]
    have s_:=An @q1 (An @q2 (An @q3 (An @q4 (An @q9 (An @r1 (An @r2 (An @firstS.eq_1 (An @firstS.eq_2 (An @setF_enc (An @setN_enc (@setN4_enc)))))))))))
    exact WW
   ·refine Pm Tryz.func294 λhfit=> ?_
    simp[Tryz.f294]
    have s_:=An @q1 (An @q2 (An @q3 (An @q4 (An @q7 (An @q9 (An @r1 (An @r2 (An @firstS.eq_1 (An @firstS.eq_2 (An @setF_enc (An @setN_enc (@setN4_enc))))))))))))
    exact WW
abbrev encR (r:ReplyR):AV:= .agg r.enc
abbrev encC (c:Zj):AV:= .agg c.enc
theorem ZpI (f:FSR) (ino kind:Int) (h:f.l.length<=1000000):Zb Tryz.prog 268 [encF f,I ino,I kind] (.tup [encN (ofD f ino kind).1,I (ofD f ino kind).2]):=by
 have h1:=find_ok f ino h
 unfold ofD
 generalize findB f.l ino=N at*
 obtain⟨n,is⟩:=N
 simp only at*
 cases is with
 |false=>
  refine Pm Tryz.func268 λhfit=> ?_
  simp[Tryz.f268]
  exact WW
 |true=>
  by_cases q1:kind=0
  ·refine Pm Tryz.func268 λhfit=> ?_
   simp[Tryz.f268,q1]
   have s_:=q1
   exact WW
  ·by_cases q2:n.kind=kind
   ·refine Pm Tryz.func268 λhfit=> ?_
    simp[Tryz.f268,q1,q2]
    have s_:=An @q1 (@q2)
    exact WW
   ·refine Pm Tryz.func268 λhfit=> ?_
    simp[Tryz.f268,q1,q2]
    have s_:=An @q1 (@q2)
    exact WW
theorem Zvi (r:ReplyR) (e:Int):Zb Tryz.prog 266 [encR r,I e] (encR (toldR r e)):=by
 unfold toldR errR
 by_cases q:e=0
 ·refine Pm Tryz.func266 λhfit=> ?_
  simp[Tryz.f266,q]
 ·refine Pm Tryz.func266 λhfit=> ?_
  simp[Tryz.f266,q]
  have s_:=An @q (@ReplyR.enc.eq_1)
  exact WW
theorem ZfG (a b n:Int) (t:ByteArray) (e:Int):Zb Tryz.prog 266 [.agg [I 0,I a,I b,I n,S t,.sl false 0 []],I e] (encR (toldR ⟨0,a,b,n,t,[]⟩ e)):=Zvi ⟨0,a,b,n,t,[]⟩ e
theorem ZpJ (b:ByteArray):(bs b).length=b.size:=rfl
theorem ZnT (f:FSR) (ino k:Int):(ofD f ino k).1=(findB f.l ino).1:=by
 unfold ofD
 split
 ·rfl
 ·split<;>rfl
theorem ZpK (f:FSR) (ino:Int) (g:List UInt8->List UInt8×Int) (fid:FuncId) (c:Zj) (hg:∀b:ByteArray,b.size<=4096->Zb Tryz.prog fid [S b,.fp c.enc] (.tup [S (T (g (bs b)).1),I (g (bs b)).2])) (h:Zi f) (hb:f.next<4611686018427387904):
  Zb Tryz.prog 278 [encF f,I ino,.fn fid [.fp c.enc]] (.tup [encF (textD f ino g).1,I (textD f ino g).2]):=by
 have hlen:=h.len
 have h1:=ZpI f ino 1 (by omega)
 have hnum:=h.num ino
 have htx:=h.text ino
 have h2:=hg (findB f.l ino).1.text htx
 have h3:=ZeO f {(findB f.l ino).1 with text:=T (g (bs (findB f.l ino).1.text)).1} (by omega) ⟨by simp only;omega,by simp only;omega⟩ (by simp only;omega)
 unfold textD
 rw[ZnT] at h1
 simp only[ZnT]
 generalize(ofD f ino 1).2=oe at*
 generalize findB f.l ino=N at*
 generalize g (bs N.1.text)=G at*
 by_cases q1:oe=0
 case neg=>
  rw[if_pos q1]
  refine Pm Tryz.func278 λhfit=> ?_
  simp[Tryz.f278]
  have s_:=q1
  exact WW
 rw[if_neg (by simpa using q1)]
 by_cases q2:G.2=0
 case neg=>
  rw[if_pos q2]
  refine Pm Tryz.func278 λhfit=> ?_
  simp[Tryz.f278]
  have s_:=An @q1 (@q2)
  exact WW
 rw[if_neg (by simpa using q2)]
 refine Pm Tryz.func278 λhfit=> ?_
 simp[Tryz.f278]
 have s_:=An @q1 (@q2)
 exact WW
theorem ZnU (f:FSR) (c:Zj) (n:NodeR) (h:Zi f) (hb:f.next<4611686018427387904):Zb Tryz.prog 285 [encF f,encC c,encN n] (.tup [encF (addO f c n).1,encR (addO f c n).2]):=by
 have h1:=add_ok f c.ino c.name n h hb
 unfold addO
 generalize addD f c.ino c.name n=A at*
 by_cases q1:4096<n.text.size
 ·rw[if_pos q1]
  refine Pm Tryz.func285 λhfit=> ?_
  have d1_:=D0 6 6 [] []
  simp[Tryz.f285]
  have s_:=An @q1 (An @errR.eq_1 (@ReplyR.enc.eq_1))
  exact WW
 rw[if_neg q1]
 by_cases q2:A.2=0
 case neg=>
  rw[if_pos q2]
  refine Pm Tryz.func285 λhfit=> ?_
  have d1_:=D0 6 6 [] []
  simp[Tryz.f285]
  have s_:=An @q1 (An @q2 (An @errR.eq_1 (@ReplyR.enc.eq_1)))
  exact WW
 rw[if_neg (by simpa using q2)]
 refine Pm Tryz.func285 λhfit=> ?_
 have d1_:=D0 6 6 [] []
 simp[Tryz.f285]
 have s_:=An @q1 (An @q2 (An @errR.eq_1 (@ReplyR.enc.eq_1)))
 have e1_:=D0 6 5 [3] []
 exact WW
theorem ZjF (f:FSR) (c:Zj) (b:Bool) (h:Zi f) (hb:f.next<4611686018427387904) (hne:(lookD f c.ino c.name).2=0->(lookD f c.ino c.name).1.ino≠c.ino):
  Zb Tryz.prog 289 [encF f,encC c,B b] (.tup [encF (removeO f c b).1,encR (removeO f c b).2]):=by
 have h1:=ZbP f c.ino c.name h
 have h2:=take_ok f c.ino c.name h (by omega) hne
 unfold removeO
 generalize lookD f c.ino c.name=L at*
 generalize takeD f c.ino c.name=A at*
 by_cases q1:L.2=0
 case neg=>
  rw[if_pos q1]
  refine Pm Tryz.func289 λhfit=> ?_
  simp[Tryz.f289]
  have s_:=An @q1 (An @errR.eq_1 (@ReplyR.enc.eq_1))
  exact WW
 rw[if_neg (by simpa using q1)]
 by_cases q2:L.1.kind=2<;>cases b
 all_goals
  refine Pm Tryz.func289 λhfit=> ?_
  simp[Tryz.f289,q2]
  have s_:=An @q1 (An @q2 (An @errR.eq_1 (@ReplyR.enc.eq_1)))
  exact WW
abbrev aCap (f:FSR) (c:Zj):List AV:=[.fp f.enc,.fp c.enc]
theorem ZxZ (f:FSR) (c:Zj) (h:Zi f):Zb Tryz.prog 264 (aCap f c) (encR (toldR ⟨0,(lookD f c.ino c.name).1.ino,0,0,.empty,[]⟩ (lookD f c.ino c.name).2)):=by
 have h1:=ZbP f c.ino c.name h
 generalize lookD f c.ino c.name=L at*
 have h2:=ZfG L.1.ino 0 0 .empty L.2
 generalize toldR ⟨0,L.1.ino,0,0,.empty,[]⟩ L.2=R at*
 refine Pm Tryz.func264 λhfit=> ?_
 simp[Tryz.f264]
 exact WW
theorem Zya (f:FSR) (c:Zj) (h:Zi f):Zb Tryz.prog 267 (aCap f c) (encR (toldR ⟨0,(ofD f c.ino 0).1.kind,(ofD f c.ino 0).1.links,sizeS (ofD f c.ino 0).1,.empty,[]⟩ (ofD f c.ino 0).2)):=by
 have h1:=ZpI f c.ino 0 (by have:=h.len;omega)
 generalize ofD f c.ino 0=L at*
 have h2:=ZfG L.1.kind L.1.links (sizeS L.1) .empty L.2
 have h3:=ZxO L.1
 generalize toldR ⟨0,L.1.kind,L.1.links,sizeS L.1,.empty,[]⟩ L.2=R at*
 refine Pm Tryz.func267 λhfit=> ?_
 have d1_:=D0 2 9 [] []
 simp[Tryz.f267]
 exact WW
theorem Zyb (f:FSR) (c:Zj) (h:Zi f) (hc:c.wf):Zb Tryz.prog 270 (aCap f c) (encR (if(ofD f c.ino 1).2≠0 then errR (ofD f c.ino 1).2 else toldR ⟨0,0,0,0,T (readT (bs (ofD f c.ino 1).1.text) c.at_ c.many).1,[]⟩ (readT (bs (ofD f c.ino 1).1.text) c.at_ c.many).2)):=by
 have h1:=ZpI f c.ino 1 (by have:=h.len;omega)
 have htx:=h.text c.ino
 rw[<-ZnT f c.ino 1] at htx
 generalize ofD f c.ino 1=L at*
 have h3:=read_ok (bs L.1.text) c.at_ c.many hc.2.2.2.1 hc.2.2.2.2.1 (by rw[ZpJ];omega)
 rw[T_bs] at h3
 generalize readT (bs L.1.text) c.at_ c.many=Q at*
 have h2:=ZfG 0 0 0 (T Q.1) Q.2
 generalize toldR ⟨0,0,0,0,T Q.1,[]⟩ Q.2=R at*
 by_cases q:L.2=0
 case neg=>
  rw[if_pos q]
  refine Pm Tryz.func270 λhfit=> ?_
  simp[Tryz.f270]
  have s_:=An @q (An @errR.eq_1 (@ReplyR.enc.eq_1))
  exact WW
 rw[if_neg (by simpa using q)]
 refine Pm Tryz.func270 λhfit=> ?_
 simp[Tryz.f270]
 have s_:=q
 exact WW
theorem Zyc (f:FSR) (c:Zj) (h:Zi f):Zb Tryz.prog 272 (aCap f c) (encR (toldR ⟨0,0,0,0,(ofD f c.ino 3).1.text,[]⟩ (ofD f c.ino 3).2)):=by
 have h1:=ZpI f c.ino 3 (by have:=h.len;omega)
 generalize ofD f c.ino 3=L at*
 have h2:=ZfG 0 0 0 L.1.text L.2
 generalize toldR ⟨0,0,0,0,L.1.text,[]⟩ L.2=R at*
 refine Pm Tryz.func272 λhfit=> ?_
 simp[Tryz.f272]
 exact WW
theorem Zyd (f:FSR) (c:Zj) (h:Zi f):Zb Tryz.prog 273 (aCap f c) (encR (toldR ⟨0,0,0,0,.empty,(dirD f c.ino).1.l.map (·.name)⟩ (dirD f c.ino).2)):=by
 have h1:=Zmq f c.ino (by have:=h.len;omega)
 have hrow:=h.dirRow c.ino
 generalize dirD f c.ino=L at*
 have h3:=ZxU L.1.l (by have:=hrow.len;omega)
 generalize L.1.l.map (·.name)=M at*
 have h2:=Zvi ⟨0,0,0,0,.empty,M⟩ L.2
 generalize toldR ⟨0,0,0,0,.empty,M⟩ L.2=R at*
 refine Pm Tryz.func273 λhfit=> ?_
 simp[Tryz.f273]
 exact WW
theorem ZnV (l:List NodeR) (hl:∀n∈l,n.text.size<=4096):0<=sizesF l/\sizesF l<=l.length*4096:=by
 induction l with
 |nil=>simp[sizesF]
 |cons a l ih=>
  have h1:=hl a (by simp)
  have h2:=ih λn hn=>hl n (by simp[hn])
  simp only[sizesF,List.map_cons,List.sum_cons,List.length_cons] at*
  omega
theorem Zye (f:FSR) (h:Zi f):Zb Tryz.prog 276 [.fp f.enc] (encR ⟨0,f.l.length,sizesF f.l,0,.empty,[]⟩):=by
 have hlen:=h.len
 have htx:∀n∈f.l,n.text.size<=4096:=λn hn=>((Zs n).1 (h.ok n hn)).size
 clear h
 obtain⟨l,next⟩:=f
 simp only at*
 refine Pm Tryz.func276 λhfit=> ?_
 simp[Tryz.f276,FSR.enc]
 refine AW.loopG (lit:=λ_=>false) (λi:Nat=>⟨25,pat [(1,.ptr 0 0 0),(2,.ptr 1 0 0),(10,encL NodeR.enc l),(11,I l.length),(12,I i)],[.cells 0 [I 0,I 0,I 0,I 0,S .empty,.sl true 0 []],.cells 0 [I 0,I l.length,I (sizesF (l.take i)),I 0,S .empty,.sl true 0 []]]⟩) (λi=>l.length -i) (λi=>i<=l.length) 0 ?_ ?_ ?_
 ·exact Wk.at _ rfl (by simp[sizesF]) (by simp)
 ·simp
 rintro i g1 A hA
 by_cases hi:i<l.length
 case neg=>
  have e:List.take i l=l:=List.take_of_length_le (by omega)
  have s_:=An @hi (An @ReplyR.enc.eq_1 (@e))
  exact WW
 have hwi:=Zg hi (by simp only[maxLen];omega)
 have g2:=ZnV (l.take (i+1)) λn hn=>htx n (List.mem_of_mem_take hn)
 have g3:sizesF (l.take (i+1))=sizesF (l.take i)+l[i].text.size:=by
  rw[List.take_succ_eq_append_getElem hi]
  simp only[sizesF,List.map_append,List.sum_append,List.map_cons,List.map_nil,List.sum_cons,List.sum_nil]
  omega
 have hw2:IntKind.i64.wrap (sizesF (l.take i)+(l[i].text.size:Int))=sizesF (l.take (i+1)):=by
  rw[<-g3,Zh (by omega) (by simp at g2;omega)]
 have s_:=An @hi (An @hwi (@hw2))
 have q1_:=λs w=>hA (i+1) s w hi (by omega)
 exact WW
theorem Zsb (c:Zj) (hc:c.wf) (b:ByteArray) (hb:b.size<=4096):Zb Tryz.prog 279 [S b,.fp c.enc] (.tup [S (T (writeT (bs b) c.at_ (bs c.text)).1),I (writeT (bs b) c.at_ (bs c.text)).2]):=by
 have h1:=ZxX (bs b) c.at_ (bs c.text) hc.2.2.2.1 (by rw[ZpJ];omega) (by rw[ZpJ];have:=hc.2.2.2.2.2.2.2;simp only[maxLen] at this;omega)
 rw[T_bs,T_bs] at h1
 generalize writeT (bs b) c.at_ (bs c.text)=W at*
 refine Pm Tryz.func279 λhfit=> ?_
 simp[Tryz.f279]
 exact WW
theorem Zsc (c:Zj) (hc:c.wf) (b:ByteArray) (hb:b.size<=4096):Zb Tryz.prog 282 [S b,.fp c.enc] (.tup [S (T (cutT (bs b) c.many).1),I (cutT (bs b) c.many).2]):=by
 have h1:=cut_ok (bs b) c.many hc.2.2.2.2.1 (by rw[ZpJ];omega)
 rw[T_bs] at h1
 generalize cutT (bs b) c.many=W at*
 refine Pm Tryz.func282 λhfit=> ?_
 simp[Tryz.f282]
 exact WW
abbrev rTup (x:FSR×ReplyR):AV:= .tup [encF x.1,encR x.2]
theorem Zvj (f:FSR) (c:Zj) (h:Zi f) (hb:f.next<4611686018427387904) (hc:c.wf):
  Zb Tryz.prog 277 (aCap f c) (rTup ((textD f c.ino λs=>writeT s c.at_ (bs c.text)).1,toldR ⟨0,c.text.size,0,0,.empty,[]⟩ (textD f c.ino λs=>writeT s c.at_ (bs c.text)).2)):=by
 have h1:=ZpK f c.ino (λs=>writeT s c.at_ (bs c.text)) 279 c (λb hb=>Zsb c hc b hb) h hb
 generalize(textD f c.ino λs=>writeT s c.at_ (bs c.text))=X at*
 have h2:=ZfG c.text.size 0 0 .empty X.2
 generalize toldR ⟨0,c.text.size,0,0,.empty,[]⟩ X.2=R at*
 refine Pm Tryz.func277 λhfit=> ?_
 have d1_:=D0 2 7 [] []
 simp[Tryz.f277]
 exact WW
theorem Zvk (f:FSR) (c:Zj) (h:Zi f) (hb:f.next<4611686018427387904) (hc:c.wf):
  Zb Tryz.prog 281 (aCap f c) (rTup ((textD f c.ino λs=>cutT s c.many).1,errR (textD f c.ino λs=>cutT s c.many).2)):=by
 have h1:=ZpK f c.ino (λs=>cutT s c.many) 282 c (λb hb=>Zsc c hc b hb) h hb
 generalize(textD f c.ino λs=>cutT s c.many)=X at*
 refine Pm Tryz.func281 λhfit=> ?_
 simp[Tryz.f281]
 have s_:=An @errR.eq_1 (@ReplyR.enc.eq_1)
 exact WW
theorem Zvl (f:FSR) (c:Zj) (h:Zi f) (hb:f.next<4611686018427387904):Zb Tryz.prog 284 (aCap f c) (rTup (addO f c ⟨0,1,0,.empty,[]⟩)):=by
 have h1:=ZnU f c ⟨0,1,0,.empty,[]⟩ h hb
 generalize addO f c ⟨0,1,0,.empty,[]⟩=X at*
 have h1:Zb Tryz.prog 285 [encF f,encC c,.agg [I 0,I 1,I 0,S .empty,.sl false 0 []]] (rTup X):=h1
 refine Pm Tryz.func284 λhfit=> ?_
 simp[Tryz.f284]
 exact WW
theorem Zvm (f:FSR) (c:Zj) (h:Zi f) (hb:f.next<4611686018427387904):Zb Tryz.prog 286 (aCap f c) (rTup (addO f c ⟨0,2,0,.empty,[]⟩)):=by
 have h1:=ZnU f c ⟨0,2,0,.empty,[]⟩ h hb
 generalize addO f c ⟨0,2,0,.empty,[]⟩=X at*
 have h1:Zb Tryz.prog 285 [encF f,encC c,.agg [I 0,I 2,I 0,S .empty,.sl false 0 []]] (rTup X):=h1
 refine Pm Tryz.func286 λhfit=> ?_
 simp[Tryz.f286]
 exact WW
theorem Zvn (f:FSR) (c:Zj) (h:Zi f) (hb:f.next<4611686018427387904):Zb Tryz.prog 287 (aCap f c) (rTup (addO f c ⟨0,3,0,c.text,[]⟩)):=by
 have h1:=ZnU f c ⟨0,3,0,c.text,[]⟩ h hb
 generalize addO f c ⟨0,3,0,c.text,[]⟩=X at*
 have h1:Zb Tryz.prog 285 [encF f,encC c,.agg [I 0,I 3,I 0,S c.text,.sl false 0 []]] (rTup X):=h1
 refine Pm Tryz.func287 λhfit=> ?_
 simp[Tryz.f287]
 exact WW
theorem Zvo (f:FSR) (c:Zj) (h:Zi f) (hb:f.next<4611686018427387904) (hne:(lookD f c.ino c.name).2=0->(lookD f c.ino c.name).1.ino≠c.ino):Zb Tryz.prog 288 (aCap f c) (rTup (removeO f c false)):=by
 have h1:=ZjF f c false h hb hne
 generalize removeO f c false=X at*
 refine Pm Tryz.func288 λhfit=> ?_
 simp[Tryz.f288]
 exact WW
theorem Zvp (f:FSR) (c:Zj) (h:Zi f) (hb:f.next<4611686018427387904) (hne:(lookD f c.ino c.name).2=0->(lookD f c.ino c.name).1.ino≠c.ino):Zb Tryz.prog 290 (aCap f c) (rTup (removeO f c true)):=by
 have h1:=ZjF f c true h hb hne
 generalize removeO f c true=X at*
 refine Pm Tryz.func290 λhfit=> ?_
 simp[Tryz.f290]
 exact WW
theorem Zvq (f:FSR) (c:Zj) (h:Zi f) (hb:f.next<4611686018427387904):Zb Tryz.prog 291 (aCap f c) (rTup ((giveD f c.ino c.name c.to_).1,errR (giveD f c.ino c.name c.to_).2)):=by
 have h1:=ZxY f c.ino c.name c.to_ h hb
 generalize giveD f c.ino c.name c.to_=X at*
 refine Pm Tryz.func291 λhfit=> ?_
 simp[Tryz.f291]
 have s_:=An @errR.eq_1 (@ReplyR.enc.eq_1)
 exact WW
theorem Zvr (f:FSR) (c:Zj) (h:Zi f) (hb:f.next<4611686018427387904) (hT:(lookD f c.to_ c.name2).2=0->(lookD f c.to_ c.name2).1.ino≠c.to_):Zb Tryz.prog 293 (aCap f c) (rTup ((moveD f c.ino c.name c.to_ c.name2).1,errR (moveD f c.ino c.name c.to_ c.name2).2)):=by
 have h1:=move_ok f c.ino c.name c.to_ c.name2 h hb hT
 generalize moveD f c.ino c.name c.to_ c.name2=X at*
 refine Pm Tryz.func293 λhfit=> ?_
 simp[Tryz.f293]
 have s_:=An @errR.eq_1 (@ReplyR.enc.eq_1)
 exact WW
abbrev asksM (f:FSR) (c:Zj):AV:= .fmap [I 1,I 2,I 3,I 13,I 14,I 15] [.fn 264 (aCap f c),.fn 267 (aCap f c),.fn 270 (aCap f c),.fn 272 (aCap f c),.fn 273 (aCap f c),.fn 276 [.fp f.enc]]
theorem asks_ok (f:FSR) (c:Zj):Zb Tryz.prog 237 [encF f,encC c] (asksM f c):=by
 refine Pm Tryz.func237 λhfit=> ?_
 simp[Tryz.f237]
 try simp
 repeat' ((first|((first|refine Tp ?_|refine Tn ?_|refine T2 ?_ ?_)<;>intro h_ e_ n_)|rw[Ip]|rw[In]|rw[Fz]|rw[Gz]|fail)<;>first|simp[e_,n_]|simp|skip)
abbrev turnsM (f:FSR) (c:Zj):AV:= .fmap [I 4,I 5,I 6,I 7,I 8,I 9,I 10,I 11,I 12] [.fn 277 (aCap f c),.fn 281 (aCap f c),.fn 284 (aCap f c),.fn 286 (aCap f c),.fn 287 (aCap f c),.fn 288 (aCap f c),.fn 290 (aCap f c),.fn 291 (aCap f c),.fn 293 (aCap f c)]
theorem Zyf (f:FSR) (c:Zj):Zb Tryz.prog 238 [encF f,encC c] (turnsM f c):=by
 refine Pm Tryz.func238 λhfit=> ?_
 simp[Tryz.f238]
 try simp
 repeat' ((first|((first|refine Tp ?_|refine Tn ?_|refine T2 ?_ ?_)<;>intro h_ e_ n_)|rw[Ip]|rw[In]|rw[Fz]|rw[Gz]|fail)<;>first|simp[e_,n_]|simp|skip)
theorem do_ok (f:FSR) (c:Zj) (h:Zi f) (hb:f.next<4611686018427387904) (hc:c.wf) (hk:CalmF f c):Zb Tryz.prog 207 [encF f,encC c] (rTup (doS f c)):=by
 have ha:=asks_ok f c
 have hu:=Zyf f c
 by_cases k1:c.kind=1
 ·have h1:=ZxZ f c h
  have e:doS f c=(f,toldR ⟨0,(lookD f c.ino c.name).1.ino,0,0,.empty,[]⟩ (lookD f c.ino c.name).2):=by unfold doS;rw[k1];rfl
  rw[e]
  generalize toldR ⟨0,(lookD f c.ino c.name).1.ino,0,0,.empty,[]⟩ (lookD f c.ino c.name).2=R at*
  refine Pm Tryz.func207 λhfit=> ?_
  have d1_:=D0 1 11 [] []
  have d2_:=D0 3 3 [] []
  have d3_:=D0 4 11 [] []
  simp[Tryz.f207]
  have s_:=k1
  have p1_:=ha
  exact WW
 by_cases k2:c.kind=2
 ·have h1:=Zya f c h
  have e:doS f c=(f,toldR ⟨0,(ofD f c.ino 0).1.kind,(ofD f c.ino 0).1.links,sizeS (ofD f c.ino 0).1,.empty,[]⟩ (ofD f c.ino 0).2):=by unfold doS;rw[k2];rfl
  rw[e]
  generalize toldR ⟨0,(ofD f c.ino 0).1.kind,(ofD f c.ino 0).1.links,sizeS (ofD f c.ino 0).1,.empty,[]⟩ (ofD f c.ino 0).2=R at*
  refine Pm Tryz.func207 λhfit=> ?_
  have d1_:=D0 1 11 [] []
  have d2_:=D0 3 3 [] []
  have d3_:=D0 4 11 [] []
  simp[Tryz.f207]
  have s_:=k2
  have p1_:=ha
  exact WW
 by_cases k3:c.kind=3
 ·have h1:=Zyb f c h hc
  have e:doS f c=(f,if(ofD f c.ino 1).2≠0 then errR (ofD f c.ino 1).2 else toldR ⟨0,0,0,0,T (readT (bs (ofD f c.ino 1).1.text) c.at_ c.many).1,[]⟩ (readT (bs (ofD f c.ino 1).1.text) c.at_ c.many).2):=by unfold doS;rw[k3];rfl
  rw[e]
  generalize(if(ofD f c.ino 1).2≠0 then errR (ofD f c.ino 1).2 else toldR ⟨0,0,0,0,T (readT (bs (ofD f c.ino 1).1.text) c.at_ c.many).1,[]⟩ (readT (bs (ofD f c.ino 1).1.text) c.at_ c.many).2)=R at*
  refine Pm Tryz.func207 λhfit=> ?_
  have d1_:=D0 1 11 [] []
  have d2_:=D0 3 3 [] []
  have d3_:=D0 4 11 [] []
  simp[Tryz.f207]
  have s_:=k3
  have p1_:=ha
  exact WW
 by_cases k4:c.kind=4
 ·have h1:=Zvj f c h hb hc
  have e:doS f c=((textD f c.ino λs=>writeT s c.at_ (bs c.text)).1,toldR ⟨0,c.text.size,0,0,.empty,[]⟩ (textD f c.ino λs=>writeT s c.at_ (bs c.text)).2):=by unfold doS;rw[k4];rfl
  rw[e]
  generalize((textD f c.ino λs=>writeT s c.at_ (bs c.text)).1,toldR ⟨0,c.text.size,0,0,.empty,[]⟩ (textD f c.ino λs=>writeT s c.at_ (bs c.text)).2)=X at*
  refine Pm Tryz.func207 λhfit=> ?_
  have d1_:=D0 1 11 [] []
  have d2_:=D0 3 3 [] []
  have d3_:=D0 4 11 [] []
  simp[Tryz.f207]
  have s_:=k4
  have p1_:=ha
  have p2_:=hu
  exact WW
 by_cases k5:c.kind=5
 ·have h1:=Zvk f c h hb hc
  have e:doS f c=((textD f c.ino λs=>cutT s c.many).1,errR (textD f c.ino λs=>cutT s c.many).2):=by unfold doS;rw[k5];rfl
  rw[e]
  generalize((textD f c.ino λs=>cutT s c.many).1,errR (textD f c.ino λs=>cutT s c.many).2)=X at*
  refine Pm Tryz.func207 λhfit=> ?_
  have d1_:=D0 1 11 [] []
  have d2_:=D0 3 3 [] []
  have d3_:=D0 4 11 [] []
  simp[Tryz.f207]
  have s_:=k5
  have p1_:=ha
  have p2_:=hu
  exact WW
 by_cases k6:c.kind=6
 ·have h1:=Zvl f c h hb
  have e:doS f c=addO f c ⟨0,1,0,.empty,[]⟩:=by unfold doS;rw[k6];rfl
  rw[e]
  generalize addO f c ⟨0,1,0,.empty,[]⟩=X at*
  refine Pm Tryz.func207 λhfit=> ?_
  have d1_:=D0 1 11 [] []
  have d2_:=D0 3 3 [] []
  have d3_:=D0 4 11 [] []
  simp[Tryz.f207]
  have s_:=k6
  have p1_:=ha
  have p2_:=hu
  exact WW
 by_cases k7:c.kind=7
 ·have h1:=Zvm f c h hb
  have e:doS f c=addO f c ⟨0,2,0,.empty,[]⟩:=by unfold doS;rw[k7];rfl
  rw[e]
  generalize addO f c ⟨0,2,0,.empty,[]⟩=X at*
  refine Pm Tryz.func207 λhfit=> ?_
  have d1_:=D0 1 11 [] []
  have d2_:=D0 3 3 [] []
  have d3_:=D0 4 11 [] []
  simp[Tryz.f207]
  have s_:=k7
  have p1_:=ha
  have p2_:=hu
  exact WW
 by_cases k8:c.kind=8
 ·have h1:=Zvn f c h hb
  have e:doS f c=addO f c ⟨0,3,0,c.text,[]⟩:=by unfold doS;rw[k8];rfl
  rw[e]
  generalize addO f c ⟨0,3,0,c.text,[]⟩=X at*
  refine Pm Tryz.func207 λhfit=> ?_
  have d1_:=D0 1 11 [] []
  have d2_:=D0 3 3 [] []
  have d3_:=D0 4 11 [] []
  simp[Tryz.f207]
  have s_:=k8
  have p1_:=ha
  have p2_:=hu
  exact WW
 by_cases k9:c.kind=9
 ·have h1:=Zvo f c h hb (hk.here (.inl k9))
  have e:doS f c=removeO f c false:=by unfold doS;rw[k9];rfl
  rw[e]
  generalize removeO f c false=X at*
  refine Pm Tryz.func207 λhfit=> ?_
  have d1_:=D0 1 11 [] []
  have d2_:=D0 3 3 [] []
  have d3_:=D0 4 11 [] []
  simp[Tryz.f207]
  have s_:=k9
  have p1_:=ha
  have p2_:=hu
  exact WW
 by_cases k10:c.kind=10
 ·have h1:=Zvp f c h hb (hk.here (.inr k10))
  have e:doS f c=removeO f c true:=by unfold doS;rw[k10];rfl
  rw[e]
  generalize removeO f c true=X at*
  refine Pm Tryz.func207 λhfit=> ?_
  have d1_:=D0 1 11 [] []
  have d2_:=D0 3 3 [] []
  have d3_:=D0 4 11 [] []
  simp[Tryz.f207]
  have s_:=k10
  have p1_:=ha
  have p2_:=hu
  exact WW
 by_cases k11:c.kind=11
 ·have h1:=Zvq f c h hb
  have e:doS f c=((giveD f c.ino c.name c.to_).1,errR (giveD f c.ino c.name c.to_).2):=by unfold doS;rw[k11];rfl
  rw[e]
  generalize((giveD f c.ino c.name c.to_).1,errR (giveD f c.ino c.name c.to_).2)=X at*
  refine Pm Tryz.func207 λhfit=> ?_
  have d1_:=D0 1 11 [] []
  have d2_:=D0 3 3 [] []
  have d3_:=D0 4 11 [] []
  simp[Tryz.f207]
  have s_:=k11
  have p1_:=ha
  have p2_:=hu
  exact WW
 by_cases k12:c.kind=12
 ·have h1:=Zvr f c h hb (hk.there k12)
  have e:doS f c=((moveD f c.ino c.name c.to_ c.name2).1,errR (moveD f c.ino c.name c.to_ c.name2).2):=by unfold doS;rw[k12];rfl
  rw[e]
  generalize((moveD f c.ino c.name c.to_ c.name2).1,errR (moveD f c.ino c.name c.to_ c.name2).2)=X at*
  refine Pm Tryz.func207 λhfit=> ?_
  have d1_:=D0 1 11 [] []
  have d2_:=D0 3 3 [] []
  have d3_:=D0 4 11 [] []
  simp[Tryz.f207]
  have s_:=k12
  have p1_:=ha
  have p2_:=hu
  exact WW
 by_cases k13:c.kind=13
 ·have h1:=Zyc f c h
  have e:doS f c=(f,toldR ⟨0,0,0,0,(ofD f c.ino 3).1.text,[]⟩ (ofD f c.ino 3).2):=by unfold doS;rw[k13];rfl
  rw[e]
  generalize toldR ⟨0,0,0,0,(ofD f c.ino 3).1.text,[]⟩ (ofD f c.ino 3).2=R at*
  refine Pm Tryz.func207 λhfit=> ?_
  have d1_:=D0 1 11 [] []
  have d2_:=D0 3 3 [] []
  have d3_:=D0 4 11 [] []
  simp[Tryz.f207]
  have s_:=k13
  have p1_:=ha
  exact WW
 by_cases k14:c.kind=14
 ·have h1:=Zyd f c h
  have e:doS f c=(f,toldR ⟨0,0,0,0,.empty,(dirD f c.ino).1.l.map (·.name)⟩ (dirD f c.ino).2):=by unfold doS;rw[k14];rfl
  rw[e]
  generalize toldR ⟨0,0,0,0,.empty,(dirD f c.ino).1.l.map (·.name)⟩ (dirD f c.ino).2=R at*
  refine Pm Tryz.func207 λhfit=> ?_
  have d1_:=D0 1 11 [] []
  have d2_:=D0 3 3 [] []
  have d3_:=D0 4 11 [] []
  simp[Tryz.f207]
  have s_:=k14
  have p1_:=ha
  exact WW
 by_cases k15:c.kind=15
 ·have h1:=Zye f h
  have e:doS f c=(f,(⟨0,f.l.length,sizesF f.l,0,.empty,[]⟩:ReplyR)):=by unfold doS;rw[k15];rfl
  rw[e]
  generalize(⟨0,f.l.length,sizesF f.l,0,.empty,[]⟩:ReplyR)=R at*
  refine Pm Tryz.func207 λhfit=> ?_
  have d1_:=D0 1 11 [] []
  have d2_:=D0 3 3 [] []
  have d3_:=D0 4 11 [] []
  simp[Tryz.f207]
  have s_:=k15
  have p1_:=ha
  exact WW
 have e:doS f c=(f,errR 1):=by unfold doS;rw[if_neg k1,if_neg k2,if_neg k3,if_neg k4,if_neg k5,if_neg k6,if_neg k7,if_neg k8,if_neg k9,if_neg k10,if_neg k11,if_neg k12,if_neg k13,if_neg k14,if_neg k15]
 rw[e]
 have b1:(c.kind==1)=false:=by simpa using k1
 have b2:(c.kind==2)=false:=by simpa using k2
 have b3:(c.kind==3)=false:=by simpa using k3
 have b4:(c.kind==4)=false:=by simpa using k4
 have b5:(c.kind==5)=false:=by simpa using k5
 have b6:(c.kind==6)=false:=by simpa using k6
 have b7:(c.kind==7)=false:=by simpa using k7
 have b8:(c.kind==8)=false:=by simpa using k8
 have b9:(c.kind==9)=false:=by simpa using k9
 have b10:(c.kind==10)=false:=by simpa using k10
 have b11:(c.kind==11)=false:=by simpa using k11
 have b12:(c.kind==12)=false:=by simpa using k12
 have b13:(c.kind==13)=false:=by simpa using k13
 have b14:(c.kind==14)=false:=by simpa using k14
 have b15:(c.kind==15)=false:=by simpa using k15
 refine Pm Tryz.func207 λhfit=> ?_
 have d1_:=D0 1 11 [] []
 have d2_:=D0 3 3 [] []
 have d3_:=D0 4 11 [] []
 simp[Tryz.f207]
 have s_:=An @b1 (An @b2 (An @b3 (An @b4 (An @b5 (An @b6 (An @b7 (An @b8 (An @b9 (An @b10 (An @b11 (An @b12 (An @b13 (An @b14 (An @b15 (An @errR.eq_1 (@ReplyR.enc.eq_1))))))))))))))))
 have p1_:=ha
 have p2_:=hu
 exact WW
theorem Zsd (a b:List ByteArray):Zb Tryz.prog 85 [enc1 S a,enc1 S b] (B (decide (a=b))):=by
 refine Pm Tryz.func85 λhfit=> ?_
 simp at hfit
 simp[Tryz.f85]
 by_cases hl:a.length=b.length
 case neg=>
  have:¬a=b:=λe=>hl (by rw[e])
  simp[hl,this]
 simp[hl]
 refine AW.loopF (lit:=λ_=>false) (λi:Nat=>⟨26,pat [(0,enc1 S a),(1,enc1 S b),(5,I i)],[]⟩) (λi=>b.length -i) (λi=>i<=b.length/\a.take i=b.take i) 0 ?_ ?_ ?_
 ·exact Wz
 ·simp
 ·rintro i ⟨hi,ht⟩
  simp
  refine ZcU _ _ (λh=> ?_) (λh=> ?_)
  ·simp at h
   have ha:i<a.length:=by omega
   simp
   refine Dg _ 9 [] [] ?_
   have hb:i<b.length:=by omega
   simp[ha,hb]
   refine ZcU _ _ (λh2=> ?_) (λh2=> ?_)
   ·simp at h2
    have:¬a=b:=λe=>by subst e;exact h2 rfl
    simp[this]
   ·simp at h2
    simp[Zg ha hfit.1]
    exact⟨i+1,Wz,⟨by omega,take_step ht ha hb h2⟩,by omega⟩
  ·simp at h
   have:=Zam ht (by omega) (by omega)
   simp[this]
theorem Zyg (a b:ReplyR):Zb Tryz.prog 44 [.agg a.enc,.agg b.enc] (B (decide (a=b))):=by
 refine Pm Tryz.func44 λhfit=> ?_
 simp only[ReplyR.eq_iff]
 simp[ReplyR.enc,Tryz.f44]
 refine AInv.pure (Zsd a.names b.names) rfl ?_
 by_cases h1:a.names=b.names
 case neg=>simp[h1]
 by_cases h2:a.e=b.e
 case neg=>simp[h1,h2]
 by_cases h3:a.a=b.a
 case neg=>simp[h1,h2,h3]
 by_cases h4:a.b=b.b
 case neg=>simp[h1,h2,h3,h4]
 by_cases h5:a.n=b.n
 case neg=>simp[h1,h2,h3,h4,h5]
 simp[h1,h2,h3,h4,h5]
theorem Zse (a b:List ByteArray):Zb Tryz.prog 130 [enc1 S a,enc1 S b] (B (decide (a=b))):=by
 refine Pm Tryz.func130 λhfit=> ?_
 simp at hfit
 simp[Tryz.f130]
 by_cases hl:a.length=b.length
 case neg=>
  have:¬a=b:=λe=>hl (by rw[e])
  simp[hl,this]
 simp[hl]
 refine AW.loopF (lit:=λ_=>false) (λi:Nat=>⟨26,pat [(0,enc1 S a),(1,enc1 S b),(12,I b.length),(13,I i)],[]⟩) (λi=>b.length -i) (λi=>i<=b.length/\a.take i=b.take i) 0 ?_ ?_ ?_
 ·exact Wk.keep _ (by simp[hl])
 ·simp
 ·rintro i ⟨hi,ht⟩
  by_cases h:i<b.length
  case neg=>
   have:=Zam ht (by omega) (by omega)
   simp[h,eq_true this]
  have ha:i<a.length:=by omega
  simp[h]
  refine Dg _ 9 [] [] ?_
  simp[h,ha]
  by_cases h2:a[i]=b[i]
  ·simp[h2,Zg ha hfit.1]
   exact⟨i+1,Wz,⟨by omega,take_step ht ha h h2⟩,by omega⟩
  ·have:¬a=b:=λe=>by subst e;exact h2 rfl
   simp[h2,this]
theorem Zsf (a b:ReplyR):Zb Tryz.prog 69 [.agg a.enc,.agg b.enc] (B (decide (a=b))):=by
 refine Pm Tryz.func69 λhfit=> ?_
 simp only[ReplyR.eq_iff]
 simp[ReplyR.enc,Tryz.f69]
 have p1_:=Zse a.names b.names
 exact WW
theorem ZpL (ver:Nat) (l:List Int) (hl:l.length<4611686018427387904):Zeq Tryz.prog 198 [.own 0 ver 0 l.length 1] [.cells ver (l.map I)] (.tup []) [.cells ver ((sortI l).map I)]:=
 Zrc (Ent.mk Tryz.func198 (by kernel_rfl) rfl) (λblk off cap zs w h1 h2 h3=>Tryz.slices_Sort_int blk off cap zs w h1 h2 h3) (λp cap w=>Tryz.slices_Sort_int_none p cap w) ver l hl
theorem Zif (ver:Nat) (l:List Int) (hl:l.length<=9223372036854775807):Zeq Tryz.prog 199 [.own 0 ver 0 l.length 1] [.cells ver (l.map I)] (.own 0 ver 0 (Lib.compact l).length 1) [.cells ver ((Lib.compact l++List.replicate (l.length -(Lib.compact l).length) 0).map I)]:=
 Zkp (Ent.mk Tryz.func199 (by kernel_rfl) rfl) Lib.compact ZhB (λzs h=>ZnB h) (λblk off cap zs w h1 h2 h3=>Tryz.slices_Compact_int blk off cap zs w h1 h2 h3) (λp cap w=>Tryz.slices_Compact_int_empty p cap w) ver l hl
theorem ZnW (ver:Nat) (l:List Int) (hl:l.length<4611686018427387904):Zeq Tryz.prog 243 [.own 0 ver 0 l.length 1] [.cells ver (l.map I)] (.own 0 ver 0 (numsS l).length 1) [.cells ver ((numsS l++List.replicate (l.length -(numsS l).length) 0).map I)]:=by
 have h1:=ZpL ver l hl
 have hsl:(sortI l).length=l.length:=List.length_mergeSort _
 have h2:=Zif ver (sortI l) (by omega)
 rw[show Lib.compact (sortI l)=numsS l from Zdz l,hsl] at h2
 generalize sortI l=z at*
 generalize numsS l=q at*
 refine Zeq.mk' (λ_=>false) Tryz.func243 rfl rfl rfl (Ent.mk Tryz.func243 (by kernel_rfl) rfl) (by simp) (by simp) (by simp) (by simp) (by simp) λhfit=> ?_
 simp[Tryz.f243]
 refine AInv.heap [0] h1 (by simp) (by simp) ?_
 simp
 refine AInv.heap [0] h2 (by simp) (by simp) ?_
 simp
theorem Zgg (ver:Nat) (l:List Int) (hl:l.length<4611686018427387904):Zeq Tryz.prog 243 [.own 0 ver 0 l.length 1] [.cells ver (l.map I)] (.own 0 ver 0 (numsS l).length 1) [.cells ver ((numsS l).map I)]:=by
 obtain⟨h1,h2,h3,h4,h5,h6,h7⟩:=ZnW ver l hl
 refine⟨h1,h2,h3,rfl,by simp,h6,λZ κ w cargs r hr=> ?_⟩
 refine(h7 Z κ w cargs r hr).mono ?_
 rintro e w' ⟨v,h',Z',κ',c,⟨rfl,rfl⟩,he,r',hv,ex,st⟩
 have hb:=r'.blk 0 _ rfl
 have hp:=ZiP (numsS l).length hb
 have e2:((numsS l++List.replicate (l.length -(numsS l).length) 0).map I).take (numsS l).length=(numsS l).map I:=by simp
 rw[e2] at hp
 have r2:=r'.reblk (id:=0) (by simp) hp
 exact⟨_,_,Z',κ',c,⟨rfl,rfl⟩,he,r2,hv,ex,st⟩
abbrev ZZ (f:FSR) (d:Int) (s:ByteArray):List Int:=if(findE (findB f.l d).1.l s).2=true then[(findE (findB f.l d).1.l s).1] else[]
abbrev Zcx (f:FSR) (c:Zj) (d:Int):List Int:=[c.name,c.name2].flatMap (ZZ f d)
def ZaR (f:FSR) (c:Zj):List Int:=[c.ino,c.to_]++[c.ino,c.to_].flatMap (Zcx f c)
theorem Zyh (l:List Int) (f:FSR) (d:Int) (s:ByteArray):ZbK l f d s=(ZZ f d s).foldl ZbJ l:=by
 unfold ZbK ZZ
 split<;>rfl
theorem Zyi (f:FSR) (c:Zj) (h:c.kind≠15):looksS f c=numsS (ZaR f c):=by
 unfold looksS
 rw[if_neg h]
 simp only[Zyh,numsS,ZaR,Zcx,List.flatMap_cons,List.flatMap_nil,List.append_nil,List.foldl_append,List.foldl_cons,List.foldl_nil]
theorem Zsg (f:FSR) (c:Zj):(ZaR f c).length<=6:=by
 have h:∀d s,(ZZ f d s).length<=1:=λd s=>by unfold ZZ;split<;>simp
 have h1:=h c.ino c.name
 have h2:=h c.ino c.name2
 have h3:=h c.to_ c.name
 have h4:=h c.to_ c.name2
 simp only[ZaR,Zcx,List.flatMap_cons,List.flatMap_nil,List.append_nil,List.length_append,List.length_cons,List.length_nil]
 omega
theorem Zyj (m:Nat) (hm:m<=1000000):XCall Tryz.prog 300 [.sl true 0 [],I m] [] (.own 0 0 0 0 5) [.cells 0 []]:=by
 have hw:IntKind.i64.wrap (m:Int)=m:=Zh (by omega) (by omega)
 by_cases h0:m=0
 ·subst h0
  refine XCall.mkG (λs (_:Unit)=>s) (λ_=>false) Tryz.func300 rfl rfl rfl (Ent.mk Tryz.func300 (by kernel_rfl) rfl) (by simp) (by simp) (by simp) (by simp) (by simp) λhfit=> ?_
  refine⟨WkE.one _ _,λ_=> ?_⟩
  have s_:=An (@Tryz.f300.eq_1) (@hw)
  try simp[s_]
  repeat' ((first|((first|refine Tp ?_|refine Tn ?_|refine T2 ?_ ?_)<;>intro h_ e_ n_)|rw[Ip]|rw[In]|rw[Fz]|rw[Gz]|fail)<;>first|simp[e_,n_,s_]|simp[s_]|skip)
  exact⟨_,Wk.ownNil 4 5 (by simp),by simp⟩
 ·refine XCall.mkG (λs (_:Unit)=>s) (λ_=>false) Tryz.func300 rfl rfl rfl (Ent.mk Tryz.func300 (by kernel_rfl) rfl) (by simp) (by simp) (by simp) (by simp) (by simp) λhfit=> ?_
  refine⟨WkE.one _ _,λ_=> ?_⟩
  have h1:0<m:=by omega
  have hx:m<=maxLen:=by simp only[maxLen];omega
  have s_:=An (@Tryz.f300.eq_1) (An @hw (An @h0 (An @h1 (@hx))))
  try simp[s_]
  repeat' ((first|((first|refine Tp ?_|refine Tn ?_|refine T2 ?_ ?_)<;>intro h_ e_ n_)|rw[Ip]|rw[In]|rw[Fz]|rw[Gz]|fail)<;>first|simp[e_,n_,s_]|simp[s_]|skip)
  exact⟨_,Wk.prefix 0 0 0 rfl rfl,by simp⟩
theorem Zsh (a b:List NodeR) (ha:a.length<=400000) (hb:b.length<=400000):Zb Tryz.prog 242 [.sl false 2 [encL NodeR.enc a,encL NodeR.enc b]] (encL NodeR.enc (a++b)):=by
 have hg:=Zyj (a.length+b.length) (by omega)
 have hw1:IntKind.i64.wrap (a.length:Int)=a.length:=Zh (by omega) (by omega)
 have hw2:IntKind.i64.wrap ((a.length:Int)+b.length)=((a.length+b.length:Nat):Int):=by rw[Zh (by omega) (by omega)];omega
 refine Pm Tryz.func242 λhfit=> ?_
 simp[Tryz.f242]
 refine AW.loopG (lit:=λ_=>false) (λi:Nat=>⟨36,pat [(0,.sl false 2 [encL NodeR.enc a,encL NodeR.enc b]),(3,I (if i=0 then 0 else if i=1 then a.length else a.length+b.length:Nat)),(9,.sl false 2 [encL NodeR.enc a,encL NodeR.enc b]),(10,I 2),(11,I i)],[]⟩) (λi=>2 -i) (λi=>i<=2) 0 ?_ ?_ ?_
 ·exact Wa
 ·simp
 rintro i g1 A hA
 have hi:i=0\/i=1\/i=2:=by omega
 rcases hi with rfl|rfl|rfl
 ·have s_:=hw1
  have q1_:=λs w=>hA 1 s w (by simp) (by simp)
  exact WW
 ·have s_:=hw2
  have q1_:=λs w=>hA 2 s w (by simp) (by simp)
  exact WW
 ·try simp
  repeat' ((first|((first|refine Tp ?_|refine Tn ?_|refine T2 ?_ ?_)<;>intro h_ e_ n_)|(refine AInv.fresh [] hg (by simp) (by simp) ?_;simp)|rw[Ip]|rw[In]|rw[Fz]|rw[Gz]|fail)<;>first|simp[e_,n_]|simp|skip)
  refine AW.loopG (lit:=λ_=>false) (λx:Nat×Nat×List NodeR=>⟨36,pat [(6,.own 0 x.2.1 0 x.2.2.length 5),(25,.sl false 2 [encL NodeR.enc a,encL NodeR.enc b]),(26,I 2),(27,I x.1)],[.cells x.2.1 (x.2.2.flatMap NodeR.enc)]⟩) (λx=>2 -x.1) (λx=>x.1<=2/\x.2.2=if x.1=0 then[] else if x.1=1 then a else a++b) (0,0,[]) ?_ ?_ ?_
  ·exact Wa
  ·simp
  rintro⟨j,ver,acc⟩ ⟨k1,k2⟩ A2 hA2
  simp only at k1 k2 hA2
  have hj:j=0\/j=1\/j=2:=by omega
  rcases hj with rfl|rfl|rfl
  ·have k2:acc=[]:=k2
   subst k2
   have hx:a.length<=maxLen:=by simp only[maxLen];omega
   have s_:=hx
   have q1_:=λs w=>hA2 (1,ver+1,a) s w ⟨by simp,by simp⟩ (by simp)
   exact WW
  ·have k2:acc=a:=k2
   subst k2
   have hx:acc.length+b.length<=maxLen:=by simp only[maxLen];omega
   have s_:=hx
   have q1_:=λs w=>hA2 (2,ver+1,acc++b) s w ⟨by simp,by simp⟩ (by simp)
   exact WW
  ·have k2:acc=a++b:=k2
   subst k2
   exact WW
theorem chg_set (k:Int) (y:NodeR):setMany [AV.val (.int .i64 k),AV.val (.bool false),AV.val (.int .i64 0),AV.val (.int .i64 0),AV.val (.int .i64 0),AV.val (.string .empty),AV.sl true 0 []] 2 y.enc=(⟨k,false,y⟩:ChangeR).enc:=rfl
theorem Zsi (a b:FSR) (ha:a.l.length<=100000) (hb:b.l.length<=100000):Zb Tryz.prog 211 [encF a,encF b] (encL ChangeR.enc (changesS a b)):=by
 have hcc:=Zsh a.l b.l (by omega) (by omega)
 have hall:(a.l++b.l).length=a.l.length+b.l.length:=List.length_append
 have ech:changesS a b=(numsS ((a.l++b.l).map (·.ino))).flatMap (changeS a b):=by rw[changesS,List.map_append]
 rw[ech]
 generalize hL:a.l++b.l=L at*
 refine Pm Tryz.func211 λhfit=> ?_
 simp[Tryz.f211,FSR.enc]
 try simp
 repeat' ((first|((first|refine Tp ?_|refine Tn ?_|refine T2 ?_ ?_)<;>intro h_ e_ n_)|refine Sg hcc ?_|rw[Ip]|rw[In]|rw[Fz]|rw[Gz]|fail)<;>first|simp[e_,n_]|simp|skip)
 refine AW.loopG (lit:=λ_=>false) (λx:Nat×List Int=>⟨76,pat [(2,.ptr 0 0 0),(3,.ptr 1 0 0),(5,.own 2 x.2.length 0 x.2.length 1),(20,encL NodeR.enc L),(21,I L.length),(22,I x.1)],[.cells 0 [encL NodeR.enc a.l,I a.next],.cells 0 [encL NodeR.enc b.l,I b.next],.cells x.2.length (x.2.map I)]⟩) (λx=>L.length -x.1) (λx=>x.1<=L.length/\x.2.length=x.1/\x.2++(L.drop x.1).map (·.ino)=L.map (·.ino)) (0,[]) ?_ ?_ ?_
 ·exact Wk.trans (Wk.ownNil 5 1 (by simp)) Wa
 ·simp
 rintro⟨i,acc⟩ ⟨g1,g2,g3⟩ A hA
 simp only at g1 g2 g3 hA
 by_cases hi:i<L.length
 case pos=>
  have hwi:=Zg hi (by simp only[maxLen];omega)
  have hm:acc.length+1<=maxLen:=by simp only[maxLen];omega
  rw[List.drop_eq_getElem_cons hi,List.map_cons] at g3
  have hal:(acc++[L[i].ino]).length=acc.length+1:=by simp
  have s_:=An @hi (An @hwi (An @hm ((show acc.length+1<=17592186044416 by omega))))
  try simp[s_]
  repeat' ((first|((first|refine Tp ?_|refine Tn ?_|refine T2 ?_ ?_)<;>intro h_ e_ n_)|(exact hA (i+1,acc++[L[i].ino]) _ Wc ⟨hi,by simp only[hal];omega,by simpa using g3⟩ (by simp only;omega))|rw[Ip]|rw[In]|rw[Fz]|rw[Gz]|fail)<;>first|simp[e_,n_,s_]|simp[s_]|skip)
 rw[List.drop_eq_nil_of_le (by omega),List.map_nil,List.append_nil] at g3
 have hnum:=Zgg acc.length acc (by omega)
 obtain⟨q,hq⟩:∃q,q=numsS (L.map (·.ino)):=⟨_,rfl⟩
 rw[g3,<-hq] at hnum
 rw[<-hq]
 have hql:q.length<=1000000:=by
  have h1:=Zdz (L.map (·.ino))
  have h2:=ZhB ((L.map (·.ino)).mergeSort λx y=>decide (x<=y))
  rw[h1,<-hq,List.length_mergeSort,List.length_map] at h2
  omega
 rw[<-g3] at hnum
 have s_:=hi
 try simp[s_]
 repeat' ((first|((first|refine Tp ?_|refine Tn ?_|refine T2 ?_ ?_)<;>intro h_ e_ n_)|(refine AInv.heap [2] hnum (by simp) (by simp) ?_;simp)|rw[Ip]|rw[In]|rw[Fz]|rw[Gz]|fail)<;>first|simp[e_,n_,s_]|simp[s_]|skip)
 generalize acc.length=ver at*
 refine AW.loopG (lit:=λ_=>false) (λx:Nat×List ChangeR=>⟨76,pat [(2,.ptr 0 0 0),(3,.ptr 1 0 0),(8,.own 3 x.2.length 0 x.2.length 7),(33,.own 2 ver 0 q.length 1),(34,I q.length),(35,I x.1)],[.cells 0 [encL NodeR.enc a.l,I a.next],.cells 0 [encL NodeR.enc b.l,I b.next],.cells ver (q.map I),.cells x.2.length (x.2.flatMap ChangeR.enc)]⟩) (λx=>q.length -x.1) (λx=>x.1<=q.length/\x.2.length<=x.1/\x.2++(q.drop x.1).flatMap (changeS a b)=q.flatMap (changeS a b)) (0,[]) ?_ ?_ ?_
 ·exact Wk.trans (Wk.ownNil 8 7 (by simp)) Wa
 ·simp
 rintro⟨j,out⟩ ⟨k1,k2,k3⟩ A2 hA2
 simp only at k1 k2 k3 hA2
 by_cases hj:j<q.length
 case neg=>
  rw[List.drop_eq_nil_of_le (by omega),List.flatMap_nil,List.append_nil] at k3
  rw[<-k3]
  have s_:=hj
  exact WW
 rw[List.drop_eq_getElem_cons hj,List.flatMap_cons] at k3
 have hwj:=Zg hj (by simp only[maxLen];omega)
 have hm:out.length+1<=maxLen:=by simp only[maxLen];omega
 have f1:Zb Tryz.prog 120 [.agg [encL NodeR.enc a.l,I a.next],I q[j]] (.tup [encN (findB a.l q[j]).1,B (findB a.l q[j]).2]):=find_ok a q[j] (by omega)
 have f2:Zb Tryz.prog 120 [.agg [encL NodeR.enc b.l,I b.next],I q[j]] (.tup [encN (findB b.l q[j]).1,B (findB b.l q[j]).2]):=find_ok b q[j] (by omega)
 have f3:=ZgM (findB a.l q[j]).1 (findB b.l q[j]).1
 have hal:∀c:ChangeR,(out++[c]).length=out.length+1:=λc=>by simp
 generalize hk:q[j]=k at*
 have hr:=show changeS a b k=_ from rfl
 cases hb2:(findB b.l k).2 with
 |false=>
  have e:changeS a b k=[⟨k,true,.zero⟩]:=by unfold changeS;rw[if_pos hb2]
  rw[e] at k3
  rw[hb2] at f2
  have s_:=An @hj (An @hwj (An @hm (@hk)))
  try simp[s_]
  repeat' ((first|((first|refine Tp ?_|refine Tn ?_|refine T2 ?_ ?_)<;>intro h_ e_ n_)|refine Pg f1 ?_|refine Pg f2 ?_|rw[Ip]|rw[In]|rw[Fz]|rw[Gz]|fail)<;>first|simp[e_,n_,s_]|simp[s_]|skip)
  refine hA2 (j+1,out++[⟨k,true,.zero⟩]) _ (Wk.trans (Wk.softEnd 3 (out.length+1) (out.flatMap ChangeR.enc) (x':=[I k,B true,I 0,I 0,I 0,S .empty,.sl false 0 []]) rfl (by simp)) (Wk.cutAt _ rfl (by simp) ?_ (by simp) (by simp))) ⟨hj,by simp only[hal];omega,by simpa using k3⟩ (by simp only;omega)
  simp[ChangeR.enc,zeroN_enc]
 |true=>
  rw[hb2] at f2
  cases ha2:(findB a.l k).2 with
  |false=>
   have e:changeS a b k=[⟨k,false,(findB b.l k).1⟩]:=by unfold changeS;rw[if_neg (by rw[hb2];simp),if_pos (.inl ha2)]
   rw[e] at k3
   rw[ha2] at f1
   generalize(findB b.l k).1=y at*
   have s_:=An @hj (An @hwj (An @hm (An @hk (@chg_set))))
   have q1_:=λs w=>hA2 (j+1,out++[⟨k,false,y⟩]) s w ⟨hj,by simp only[hal];omega,by simpa using k3⟩ (by simp only;omega)
   have p1_:=f1
   have p2_:=f2
   exact WW
  |true=>
   rw[ha2] at f1
   by_cases hxy:(findB a.l k).1=(findB b.l k).1
   ·have e:changeS a b k=[]:=by unfold changeS;rw[if_neg (by rw[hb2];simp),if_neg (by rw[ha2];simpa using hxy)]
    rw[e,List.nil_append] at k3
    rw[show decide ((findB a.l k).1=(findB b.l k).1)=true from decide_eq_true hxy] at f3
    generalize(findB b.l k).1=y at*
    generalize(findB a.l k).1=z at*
    have s_:=An @hj (An @hwj (An @hm (An @hk (@chg_set))))
    have q1_:=λs w=>hA2 (j+1,out) s w ⟨hj,by simp only;omega,k3⟩ (by simp only;omega)
    have p1_:=f1
    have p2_:=f2
    have p3_:=f3
    exact WW
   ·have e:changeS a b k=[⟨k,false,(findB b.l k).1⟩]:=by unfold changeS;rw[if_neg (by rw[hb2];simp),if_pos (.inr hxy)]
    rw[e] at k3
    rw[show decide ((findB a.l k).1=(findB b.l k).1)=false from decide_eq_false hxy] at f3
    generalize(findB b.l k).1=y at*
    generalize(findB a.l k).1=z at*
    have s_:=An @hj (An @hwj (An @hm (An @hk (@chg_set))))
    have q1_:=λs w=>hA2 (j+1,out++[⟨k,false,y⟩]) s w ⟨hj,by simp only[hal];omega,by simpa using k3⟩ (by simp only;omega)
    have p1_:=f1
    have p2_:=f2
    have p3_:=f3
    exact WW
theorem ZjG (f:FSR) (k:Int) (hr:Zo NodeR.ino f.l=true) (hl:f.l.length<=1000000):Zb Tryz.prog 50 [encF f,I k] (.tup [encN (findB f.l k).1,B (findB f.l k).2]):=by
 have hiff:=Zdx hr k
 have hnone:= @ZbW f.l k
 obtain⟨l,next⟩:=f
 simp only at*
 refine Pm Tryz.func50 λhfit=> ?_
 simp[Tryz.f50,FSR.enc]
 refine AW.loopG (lit:=λ_=>false) (λi:Nat=>⟨28,pat [(1,I k),(2,.ptr 0 0 0),(4,.ptr 1 0 0),(6,I i)],[.cells 0 [encL NodeR.enc l,I next],.cells 0 [I 0,I 0,I 0,S .empty,.sl true 0 []]]⟩) (λi=>l.length -i) (λi=>i<=l.length/\∀j (h:j<l.length),j<i->l[j].ino≠k) 0 ?_ ?_ ?_
 ·exact Wa
 ·simp
 rintro i ⟨g1,g2⟩ A hA
 by_cases hi:i<l.length
 case neg=>
  have e:findB l k=(.zero,false):=hnone λn hn=>by
   obtain⟨j,hj,rfl⟩:=List.getElem_of_mem hn
   exact g2 j hj (by omega)
  rw[e]
  have s_:=An @hi (@zeroN_enc)
  exact WW
 have hwi:=Zg hi (by simp only[maxLen];omega)
 by_cases hk:l[i].ino=k
 ·have e:findB l k=(l[i],true):=(hiff _).2 ⟨List.getElem_mem hi,hk⟩
  rw[e]
  have s_:=An @hi (@hk)
  exact WW
 ·have g3:∀j (h:j<l.length),j<i+1->l[j].ino≠k:=λj h hj=>by
   by_cases e:j=i
   ·subst e;exact hk
   ·exact g2 j h (by omega)
  have s_:=An @hi (An @hwi (@hk))
  have q1_:=λs w=>hA (i+1) s w ⟨hi,g3⟩ (by omega)
  exact WW
theorem Zvs (l:List Int) (k:Int) (hl:l.length<=1000000):Zb Tryz.prog 84 [enc1 I l,I k] (B (decide (k∈l))):=by
 refine Pm Tryz.func84 λhfit=> ?_
 simp[Tryz.f84]
 refine AW.loopG (lit:=λ_=>false) (λi:Nat=>⟨18,pat [(0,enc1 I l),(1,I k),(5,I i)],[]⟩) (λi=>l.length -i) (λi=>i<=l.length/\∀j (h:j<l.length),j<i->l[j]≠k) 0 ?_ ?_ ?_
 ·exact Wa
 ·simp
 rintro i ⟨g1,g2⟩ A hA
 by_cases hi:i<l.length
 case neg=>
  have e:¬k∈l:=λhm=>by
   obtain⟨j,hj,e⟩:=List.getElem_of_mem hm
   exact g2 j hj (by omega) e
  have s_:=An @hi (@e)
  exact WW
 have hwi:=Zg hi (by simp only[maxLen];omega)
 by_cases hk:l[i]=k
 ·have e:k∈l:=hk▸List.getElem_mem hi
  have s_:=An @hi (An @hk (@e))
  exact WW
 ·have g3:∀j (h:j<l.length),j<i+1->l[j]≠k:=λj h hj=>by
   by_cases e:j=i
   ·subst e;exact hk
   ·exact g2 j h (by omega)
  have s_:=An @hi (An @hwi (@hk))
  have q1_:=λs w=>hA (i+1) s w ⟨hi,g3⟩ (by omega)
  exact WW
theorem ZnX (f:FSR) (k:Int) (hl:f.l.length<=256) (hE:∀n∈f.l,n.l.length<=256):Zb Tryz.prog 83 [encF f,I k] (I ((Zn f.l).count k:Nat)):=by
 have hak:=ZbV hE
 obtain⟨l,next⟩:=f
 simp only at*
 have hcl:=fun(L:List Int)=>List.count_le_length (a:=k) (l:=L)
 refine Pm Tryz.func83 λhfit=> ?_
 simp[Tryz.f83,FSR.enc]
 refine AW.loopG (lit:=λ_=>false) (λx:Nat×Nat=>⟨41,pat [(1,I k),(2,.ptr 0 0 0),(5,I x.2),(6,I x.1)],[.cells 0 [encL NodeR.enc l,I next]]⟩) (λx=>l.length -x.1) (λx=>x.1<=l.length/\x.2+(Zn (l.drop x.1)).count k=(Zn l).count k) (0,0) ?_ ?_ ?_
 ·exact Wa
 ·simp
 rintro⟨i,n⟩ ⟨g1,g2⟩ A hA
 simp only at g1 g2 hA
 by_cases hi:i<l.length
 case neg=>
  rw[List.drop_eq_nil_of_le (by omega)] at g2
  simp only[Zn,List.flatMap_nil,List.count_nil,Nat.add_zero] at g2
  have e:List.count k (Zn l)=n:=g2.symm
  have s_:=An @hi (@e)
  exact WW
 have hwi:=Zg hi (by simp only[maxLen];omega)
 have g3:n+((l[i].l.map (·.ino)).count k+(Zn (l.drop (i+1))).count k)=(Zn l).count k:=by
  rw[<-g2,List.drop_eq_getElem_cons hi]
  simp only[Zn,List.flatMap_cons,List.count_append]
 have hb:=hcl (Zn l)
 have hei:=hE l[i] (List.getElem_mem hi)
 have s_:=hi
 try simp[s_]
 repeat' ((first|((first|refine Tp ?_|refine Tn ?_|refine T2 ?_ ?_)<;>intro h_ e_ n_)|rw[Ip]|rw[In]|rw[Fz]|rw[Gz]|fail)<;>first|simp[e_,n_,s_]|simp[s_]|skip)
 refine AW.loopG (lit:=λ_=>false) (λx:Nat×Nat=>⟨41,pat [(1,I k),(2,.ptr 0 0 0),(5,I x.2),(6,I i),(7,I x.1)],[.cells 0 [encL NodeR.enc l,I next]]⟩) (λx=>l[i].l.length -x.1) (λx=>x.1<=l[i].l.length/\x.2+(((l[i].l.drop x.1).map (·.ino)).count k+(Zn (l.drop (i+1))).count k)=(Zn l).count k) (0,n) ?_ ?_ ?_
 ·exact Wa
 ·exact⟨by simp,by simpa using g3⟩
 rintro⟨j,m⟩ ⟨k1,k2⟩ A2 hA2
 simp only at k1 k2 hA2
 by_cases hj:j<l[i].l.length
 case neg=>
  rw[List.drop_eq_nil_of_le (by omega)] at k2
  simp only[List.map_nil,List.count_nil,Nat.zero_add] at k2
  have s_:=An @hi (An @hj (@hwi))
  have q1_:=λs w=>hA (i+1,m) s w ⟨hi,k2⟩ (by simp only;omega)
  exact WW
 have hwj:=Zg hj (by simp only[maxLen];omega)
 rw[List.drop_eq_getElem_cons hj,List.map_cons,List.count_cons] at k2
 by_cases hk:l[i].l[j].ino=k
 ·rw[if_pos (by simpa using hk)] at k2
  have hwm:IntKind.i64.wrap ((m:Int)+1)=((m+1:Nat):Int):=by rw[Zh (by omega) (by omega)];omega
  have s_:=An @hi (An @hj (An @hwi (An @hwj (An @hwm (@hk)))))
  have q1_:=λs w=>hA2 (j+1,m+1) s w ⟨hj,by simp only;omega⟩ (by simp only;omega)
  exact WW
 ·rw[if_neg (by simpa using hk),Nat.add_zero] at k2
  have s_:=An @hi (An @hj (An @hwi (An @hwj (@hk))))
  have q1_:=λs w=>hA2 (j+1,m) s w ⟨hj,k2⟩ (by simp only;omega)
  exact WW
theorem Zig (o:List Int) (k:Int) (ks:List Int):Zbb o (k::ks)=Zbb (Zch o k) ks:=rfl
theorem Zsj (f:FSR) (top:Int) (hr:Zo NodeR.ino f.l=true) (hl:f.l.length<=256) (hE:∀n∈f.l,n.l.length<=256):Zb Tryz.prog 82 [encF f,I top] (enc1 I (belowL f.l top)):=by
 have hak:=ZbV hE
 have hfind:=λk=>ZjG f k hr (by omega)
 have hkl:=ZeE hE
 have hst:=ZhD f.l top
 obtain⟨l,next⟩:=f
 simp only at*
 have hkT:Zv l top=(findB l top).1.l.map (·.ino):=rfl
 have hU:=ZaK l
 have hkt:=hkl top
 rw[hkT,List.length_map] at hkt
 unfold belowL
 rw[hkT] at hst⊢
 have h1:=hfind top
 generalize hn:(findB l top)=Nd at*
 refine Pm Tryz.func82 λhfit=> ?_
 simp[Tryz.f82,FSR.enc]
 have s_:= @FSR.enc.eq_1
 try simp[s_]
 repeat' ((first|((first|refine Tp ?_|refine Tn ?_|refine T2 ?_ ?_)<;>intro h_ e_ n_)|refine Pg h1 ?_|rw[Ip]|rw[In]|rw[Fz]|rw[Gz]|fail)<;>first|simp[e_,n_,s_]|simp[s_]|skip)
 refine AW.loopG (lit:=λ_=>false) (λx:Nat×List Int×Nat=>⟨89,pat [(2,.ptr 0 0 0),(5,.own 2 x.2.2 0 x.2.1.length 1),(6,.ptr 1 0 0),(8,I x.1)],[.cells 0 [encL NodeR.enc l,I next],.cells 0 Nd.1.enc,.cells x.2.2 (x.2.1.map I)]⟩) (λx=>Nd.1.l.length -x.1)
  (λx=>x.1<=Nd.1.l.length/\x.2.1.length<=x.1/\Zbb x.2.1 ((Nd.1.l.drop x.1).map (·.ino))=Zbb [] (Nd.1.l.map (·.ino))) (0,[],0) ?_ ?_ ?_
 ·exact Wk.trans (Wk.ownNil 5 1 (by simp)) Wa
 ·simp
 rintro⟨i,acc,ver⟩ ⟨g1,g2,g3⟩ A hA
 simp only at g1 g2 g3 hA
 by_cases hi:i<Nd.1.l.length
 case pos=>
  have hwi:=Zg hi (by simp only[maxLen];omega)
  rw[List.drop_eq_getElem_cons hi,List.map_cons,Zig] at g3
  have hh:=Zvs acc Nd.1.l[i].ino (by omega)
  have hm:acc.length+1<=maxLen:=by simp only[maxLen];omega
  by_cases hk:Nd.1.l[i].ino∈acc
  ·rw[show Zch acc Nd.1.l[i].ino=acc from if_pos hk] at g3
   rw[show decide (Nd.1.l[i].ino∈acc)=true from decide_eq_true hk] at hh
   have s_:=An @hi (@hwi)
   have q1_:=λs w=>hA (i+1,acc,ver) s w ⟨hi,by simp only;omega,g3⟩ (by simp only;omega)
   have p1_:=hh
   exact WW
  ·rw[show Zch acc Nd.1.l[i].ino=acc++[Nd.1.l[i].ino] from if_neg hk] at g3
   rw[show decide (Nd.1.l[i].ino∈acc)=false from decide_eq_false hk] at hh
   have hal:(acc++[Nd.1.l[i].ino]).length=acc.length+1:=by simp
   have s_:=An @hi (An @hwi (An @hm ((show acc.length+1<=17592186044416 by omega))))
   try simp[s_]
   repeat' ((first|((first|refine Tp ?_|refine Tn ?_|refine T2 ?_ ?_)<;>intro h_ e_ n_)|(exact hA (i+1,acc++[Nd.1.l[i].ino],ver+1) _ Wc ⟨hi,by simp only[hal];omega,g3⟩ (by simp only;omega))|refine Lg hh ?_|refine Sg hh ?_|rw[Ip]|rw[In]|rw[Fz]|rw[Gz]|fail)<;>first|simp[e_,n_,s_]|simp[s_]|skip)
 rw[List.drop_eq_nil_of_le (by omega),List.map_nil] at g3
 have g4:acc=Zbb [] (Nd.1.l.map (·.ino)):=g3
 subst g4
 have s_:=hi
 try simp[s_]
 repeat' ((first|((first|refine Tp ?_|refine Tn ?_|refine T2 ?_ ?_)<;>intro h_ e_ n_)|rw[Ip]|rw[In]|rw[Fz]|rw[Gz]|fail)<;>first|simp[e_,n_,s_]|simp[s_]|skip)
 clear g1 g2 g3 hA hi
 obtain⟨N,hN⟩:∃N,N=(Zn l).length+1:=⟨_,rfl⟩
 rw[<-hN]
 generalize hF:bfs (Zv l) N 0 (Zbb [] (Nd.1.l.map (·.ino)))=F at*
 refine AW.loopG (lit:=λ_=>false) (λx:Nat×List Int×Nat=>⟨89,pat [(2,.ptr 0 0 0),(5,.own 2 x.2.2 0 x.2.1.length 1),(10,I x.1)],[.cells 0 [encL NodeR.enc l,I next],.cells 0 Nd.1.enc,.cells x.2.2 (x.2.1.map I)]⟩) (λx=>N -x.1)
  (λx=>x.1<N/\Bfs (Zv l) (Zn l) top x.1 x.2.1/\bfs (Zv l) (N -x.1) x.1 x.2.1=F) (0,Zbb [] (Nd.1.l.map (·.ino)),ver) ?_ ?_ ?_
 ·exact Wa
 ·exact⟨by simp only;omega,hst,hF⟩
 rintro⟨k,o,vo⟩ ⟨g1,g2,g3⟩ A hA
 simp only at g1 g2 g3 hA
 have hol:=Zkr g2.nodup g2.sub
 obtain⟨n',hn'⟩:∃n',N -k=n'+1:=⟨N -k -1,by omega⟩
 rw[hn',bfs] at g3
 by_cases hk:k<o.length
 case neg=>
  rw[List.getElem?_eq_none (by omega)] at g3
  have g3:o=F:=g3
  subst g3
  have s_:=hk
  exact WW
 have hok:=List.getElem?_eq_getElem hk
 rw[hok] at g3
 have g3:bfs (Zv l) n' (k+1) (Zbb o (Zv l o[k]))=F:=g3
 have g4:=g2.next hU hok
 have hwk:=Zg hk (by simp only[maxLen];omega)
 have h2:=hfind o[k]
 have hkT2:Zv l o[k]=(findB l o[k]).1.l.map (·.ino):=rfl
 have hk2:=hkl o[k]
 rw[hkT2] at g3 g4 hk2
 rw[List.length_map] at hk2
 generalize hM:findB l o[k]=M at*
 have s_:=hk
 try simp[s_]
 repeat' ((first|((first|refine Tp ?_|refine Tn ?_|refine T2 ?_ ?_)<;>intro h_ e_ n_)|refine Pg h2 ?_|refine AW.room (Dg 12 11 [3] [(9,.w)] ?_)|rw[Ip]|rw[In]|rw[Fz]|rw[Gz]|fail)<;>first|simp[e_,n_,s_]|simp[s_]|skip)
 refine AW.loopG (lit:=λ_=>false) (λx:Nat×List Int×Nat=>⟨89,pat [(2,.ptr 0 0 0),(5,.own 2 x.2.2 0 x.2.1.length 1),(10,I k),(11,.ptr 3 1 0),(13,I x.1)],[.cells 0 [encL NodeR.enc l,I next],.cells 0 Nd.1.enc,.cells x.2.2 (x.2.1.map I),.cells 1 M.1.enc]⟩) (λx=>M.1.l.length -x.1)
  (λx=>x.1<=M.1.l.length/\x.2.1.length<=o.length+x.1/\Zbb x.2.1 ((M.1.l.drop x.1).map (·.ino))=Zbb o (M.1.l.map (·.ino))) (0,o,vo) ?_ ?_ ?_
 ·exact Wa
 ·simp
 rintro⟨i,acc,v2⟩ ⟨k1,k2,k3⟩ A2 hA2
 simp only at k1 k2 k3 hA2
 by_cases hi:i<M.1.l.length
 case neg=>
  rw[List.drop_eq_nil_of_le (by omega),List.map_nil] at k3
  have k4:acc=Zbb o (M.1.l.map (·.ino)):=k3
  rw[<-k4] at g3 g4
  have hsl:=Zkr g4.nodup g4.sub
  have hle:=g4.le
  have e5:N -(k+1)=n':=by omega
  have s_:=An @hi (@hwk)
  have q1_:=λs w=>hA (k+1,acc,v2) s w ⟨by simp only;omega,g4,by simp only[e5];exact g3⟩ (by simp only;omega)
  exact WW
 have hwi:=Zg hi (by simp only[maxLen];omega)
 rw[List.drop_eq_getElem_cons hi,List.map_cons,Zig] at k3
 have hh:=Zvs acc M.1.l[i].ino (by omega)
 have hm:acc.length+1<=maxLen:=by simp only[maxLen];omega
 by_cases hq:M.1.l[i].ino∈acc
 ·rw[show Zch acc M.1.l[i].ino=acc from if_pos hq] at k3
  rw[show decide (M.1.l[i].ino∈acc)=true from decide_eq_true hq] at hh
  have s_:=An @hi (@hwi)
  have q1_:=λs w=>hA2 (i+1,acc,v2) s w ⟨hi,by simp only;omega,k3⟩ (by simp only;omega)
  have p1_:=hh
  exact WW
 ·rw[show Zch acc M.1.l[i].ino=acc++[M.1.l[i].ino] from if_neg hq] at k3
  rw[show decide (M.1.l[i].ino∈acc)=false from decide_eq_false hq] at hh
  have hal:(acc++[M.1.l[i].ino]).length=acc.length+1:=by simp
  have s_:=An @hi (An @hwi (An @hm ((show acc.length+1<=17592186044416 by omega))))
  try simp[s_]
  repeat' ((first|((first|refine Tp ?_|refine Tn ?_|refine T2 ?_ ?_)<;>intro h_ e_ n_)|(exact hA2 (i+1,acc++[M.1.l[i].ino],v2+1) _ Wc ⟨hi,by simp only[hal];omega,k3⟩ (by simp only;omega))|refine Lg hh ?_|refine Sg hh ?_|rw[Ip]|rw[In]|rw[Fz]|rw[Gz]|fail)<;>first|simp[e_,n_,s_]|simp[s_]|skip)
theorem Zdg (f:FSR):Zb Tryz.prog 42 [encF f] (B (rightF f)):=by
 have h1:=ZxP f
 cases hrow:Zcd f with
 |false=>
  rw[hrow] at h1
  have e:rightF f=false:=by simp[rightF,hrow]
  rw[e]
  refine Pm Tryz.func42 λhfit=> ?_
  have d1_:=D0 9 7 [] []
  simp[Tryz.f42,FSR.enc]
  have s_:= @FSR.enc.eq_1
  exact WW
 |true=>
 rw[hrow] at h1
 have R:=(ZgF f).1 hrow
 have hlen:=R.len
 cases hh:Zhv f.l with
 |false=>
  have e:rightF f=false:=by simp[rightF,hh]
  rw[e]
  by_cases q0:f.l.length<1
  ·have q0':f.l.length=0:=by omega
   refine Pm Tryz.func42 λhfit=> ?_
   have d1_:=D0 9 7 [] []
   simp[Tryz.f42,FSR.enc]
   have s_:=An @q0 (An @q0' (@FSR.enc.eq_1))
   exact WW
  have q1:0<f.l.length:=by omega
  have hd:Zhv f.l=(decide (f.l[0].ino=1)&&decide (f.l[0].kind=2)&&decide (f.l[0].links=0)):=by
   have:∀(l:List NodeR) (h:0<l.length),Zhv l=(decide (l[0].ino=1)&&decide (l[0].kind=2)&&decide (l[0].links=0)):=λl h=>by
    cases l with
    |nil=>simp at h
    |cons r l=>rfl
   exact this f.l q1
  rw[hd] at hh
  by_cases q2:f.l[0].ino=1
  case neg=>
   refine Pm Tryz.func42 λhfit=> ?_
   have d1_:=D0 9 7 [] []
   simp[Tryz.f42,FSR.enc]
   have s_:=An @q0 (An @q1 (An @q2 (@FSR.enc.eq_1)))
   exact WW
  by_cases q3:f.l[0].kind=2
  case neg=>
   refine Pm Tryz.func42 λhfit=> ?_
   have d1_:=D0 9 7 [] []
   simp[Tryz.f42,FSR.enc]
   have s_:=An @q0 (An @q1 (An @q2 (An @q3 (@FSR.enc.eq_1))))
   exact WW
  by_cases q4:f.l[0].links=0
  case neg=>
   refine Pm Tryz.func42 λhfit=> ?_
   have d1_:=D0 9 7 [] []
   simp[Tryz.f42,FSR.enc]
   have s_:=An @q0 (An @q1 (An @q2 (An @q3 (An @q4 (@FSR.enc.eq_1)))))
   exact WW
  simp[q2,q3,q4] at hh
 |true=>
 have hE:∀n∈f.l,n.l.length<=256:=λn hn=>((ZbL _).1 ((Zs n).1 (R.ok n hn)).row).len
 have hiff:=Zji f R hh
 have hhd:∃h:0<f.l.length,f.l[0].ino=1/\f.l[0].kind=2/\f.l[0].links=0:=by
  have:∀(l:List NodeR),Zhv l=true->∃h:0<l.length,l[0].ino=1/\l[0].kind=2/\l[0].links=0:=λl h=>by
   cases l with
   |nil=>simp at h
   |cons r l=>
    simp only[ZfU,Bool.and_eq_true,decide_eq_true_eq] at h
    exact⟨by simp,h.1.1,h.1.2,h.2⟩
  exact this f.l hh
 obtain⟨q1,q2,q3,q4⟩:=hhd
 have q0:¬f.l.length<1:=by omega
 have h2:=Zsj f 1 R.rise R.len hE
 have hak:=ZbV hE
 have hbl:=Zrr f.l 1
 have hnm:=λk=>ZnX f k R.len hE
 have hfd:=λk=>ZjG f k R.rise (by omega)
 have bad:∀(i:Nat) (hi:i<f.l.length),¬Zkt f.l i f.l[i]->rightF f=false:=λi hi hb=>by
  cases hr:rightF f with
  |false=>rfl
  |true=>exact absurd (hiff.1 hr i hi) hb
 have good:=hiff.2
 clear hiff R hrow hh
 obtain⟨l,next⟩:=f
 simp only at*
 generalize rightF ⟨l,next⟩=rf at*
 refine Pm Tryz.func42 λhfit=> ?_
 have d1_:=D0 9 7 [] []
 simp[Tryz.f42,FSR.enc]
 have s_:=An @q0 (An @q1 (An @q2 (An @q3 (An @q4 (@FSR.enc.eq_1)))))
 try simp[s_]
 repeat' ((first|((first|refine Tp ?_|refine Tn ?_|refine T2 ?_ ?_)<;>intro h_ e_ n_)|refine Pg h1 ?_|refine Pg h2 ?_|refine Dg 9 7 [] [] ?_|rw[Ip]|rw[In]|rw[Fz]|rw[Gz]|fail)<;>first|simp[e_,n_,s_]|simp[s_]|skip)
 refine AW.loopG (lit:=λ_=>false) (λi:Nat=>⟨111,pat [(1,.ptr 0 0 0),(4,enc1 I (belowL l 1)),(5,I i)],[.cells 0 [encL NodeR.enc l,I next]]⟩) (λi=>l.length -i) (λi=>i<=l.length/\∀j (h:j<l.length),j<i->Zkt l j l[j]) 0 ?_ ?_ ?_
 ·exact Wa
 ·simp
 rintro i ⟨g1,g2⟩ A hA
 by_cases hi:i<l.length
 case neg=>
  have e:rf=true:=good λj h=>g2 j h (by omega)
  subst e
  have s_:=hi
  exact WW
 have hwi:=Zg hi (by simp only[maxLen];omega)
 have hb:=bad i hi
 have c1:=hnm l[i].ino
 have c2:=Zvs (belowL l 1) l[i].ino (by omega)
 by_cases r1:l[i].links=((Zn l).count l[i].ino:Nat)
 case neg=>
  have e:rf=false:=hb λg=>r1 g.links
  subst e
  have s_:=An @hi (An @r1 (@FSR.enc.eq_1))
  have p1_:=c1
  exact WW
 by_cases r2:badN l i l[i]
 ·have e:rf=false:=hb λg=>g.not r2
  subst e
  obtain⟨r2,r3⟩:=r2
  by_cases p1:l[i].links<1
  ·by_cases mb:l[i].ino∈belowL l 1
   ·rw[show decide (l[i].ino∈belowL l 1)=true from decide_eq_true mb] at c2
    have s_:=An @hi (An @r1 (An @r2 (An @p1 (@FSR.enc.eq_1))))
    have p1_:=c1
    have p2_:=c2
    exact WW
   ·rw[show decide (l[i].ino∈belowL l 1)=false from decide_eq_false mb] at c2
    have s_:=An @hi (An @r1 (An @r2 (An @p1 (@FSR.enc.eq_1))))
    have p1_:=c1
    have p2_:=c2
    exact WW
  obtain⟨p2,p3⟩:=r3.resolve_left p1
  by_cases p4:1<l[i].links
  ·by_cases mb:l[i].ino∈belowL l 1
   ·rw[show decide (l[i].ino∈belowL l 1)=true from decide_eq_true mb] at c2
    have s_:=An @hi (An @r1 (An @r2 (An @p1 (An @p2 (An @p4 (@FSR.enc.eq_1))))))
    have p1_:=c1
    have p2_:=c2
    exact WW
   ·rw[show decide (l[i].ino∈belowL l 1)=false from decide_eq_false mb] at c2
    have s_:=An @hi (An @r1 (An @r2 (An @p1 (An @p2 (An @p4 (@FSR.enc.eq_1))))))
    have p1_:=c1
    have p2_:=c2
    exact WW
  ·have mb:=p3.resolve_left p4
   rw[show decide (l[i].ino∈belowL l 1)=false from decide_eq_false mb] at c2
   have s_:=An @hi (An @r1 (An @r2 (An @p1 (An @p2 (An @p4 (@FSR.enc.eq_1))))))
   have p1_:=c1
   have p2_:=c2
   exact WW
 by_cases p0:0<i
 case neg=>
  have p0':i=0:=by omega
  generalize decide (l[i].ino∈belowL l 1)=bb at c2
  have s_:=An @hi (An @r1 (An @p0 (@FSR.enc.eq_1)))
  try simp[s_]
  repeat' ((first|((first|refine Tp ?_|refine Tn ?_|refine T2 ?_ ?_)<;>intro h_ e_ n_)|refine Pg c1 ?_|refine Pg c2 ?_|refine Dg 9 7 [] [] ?_|rw[Ip]|rw[In]|rw[Fz]|rw[Gz]|fail)<;>first|simp[e_,n_,s_]|simp[s_]|skip)
  refine AW.loopG (lit:=λ_=>false) (λj:Nat=>⟨111,pat [(1,.ptr 0 0 0),(4,enc1 I (belowL l 1)),(5,I i),(6,.ptr 1 0 0),(8,I j)],[.cells 0 [encL NodeR.enc l,I next],.cells 0 l[i].enc]⟩) (λj=>l[i].l.length -j) (λj=>j<=l[i].l.length/\∀q (h:q<l[i].l.length),q<j->(findB l l[i].l[q].ino).2=true) 0 ?_ ?_ ?_
  ·exact Wa
  ·simp
  rintro j ⟨k1,k2⟩ A2 hA2
  by_cases hj:j<l[i].l.length
  case neg=>
   have gi:Zkt l i l[i]:=⟨r1,r2,λx hx=>by
    obtain⟨q,hq,rfl⟩:=List.getElem_of_mem hx
    exact k2 q hq (by omega)⟩
   have g3:∀q (h:q<l.length),q<i+1->Zkt l q l[q]:=λq h hq=>by
    by_cases e:q=i
    ·subst e;exact gi
    ·exact g2 q h (by omega)
   have s_:=An @hi (An @hj (@hwi))
   have q1_:=λs w=>hA (i+1) s w ⟨hi,g3⟩ (by omega)
   exact WW
  have hei:=hE l[i] (List.getElem_mem hi)
  have hwj:=Zg hj (by simp only[maxLen];omega)
  have c3:Zb Tryz.prog 50 [.agg [encL NodeR.enc l,I next],I l[i].l[j].ino] (.tup [encN (findB l l[i].l[j].ino).1,B (findB l l[i].l[j].ino).2]):=hfd l[i].l[j].ino
  cases hq:(findB l l[i].l[j].ino).2 with
  |false=>
   have e:rf=false:=hb λg=>by
    have:=g.kids l[i].l[j] (List.getElem_mem hj)
    rw[hq] at this;cases this
   subst e
   rw[hq] at c3
   have s_:=An @hi (@hj)
   have e1_:=D1 17 13 [2] [(11,.w)]
   have p1_:=c3
   exact WW
  |true=>
   rw[hq] at c3
   have k3:∀q (h:q<l[i].l.length),q<j+1->(findB l l[i].l[q].ino).2=true:=λq h hqj=>by
    by_cases e:q=j
    ·subst e;exact hq
    ·exact k2 q h (by omega)
   have s_:=An @hi (An @hj (@hwj))
   have q1_:=λs w=>hA2 (j+1) s w ⟨hj,k3⟩ (by omega)
   have e1_:=D1 17 13 [2] [(11,.w)]
   have p1_:=c3
   exact WW
 have p1:¬l[i].links<1:=λe=>r2 ⟨p0,.inl e⟩
 by_cases p2:l[i].kind=2
 case neg=>
  generalize decide (l[i].ino∈belowL l 1)=bb at c2
  have s_:=An @hi (An @r1 (An @p0 (An @p1 (An @p2 (@FSR.enc.eq_1)))))
  try simp[s_]
  repeat' ((first|((first|refine Tp ?_|refine Tn ?_|refine T2 ?_ ?_)<;>intro h_ e_ n_)|refine Pg c1 ?_|refine Pg c2 ?_|refine Dg 9 7 [] [] ?_|rw[Ip]|rw[In]|rw[Fz]|rw[Gz]|fail)<;>first|simp[e_,n_,s_]|simp[s_]|skip)
  refine AW.loopG (lit:=λ_=>false) (λj:Nat=>⟨111,pat [(1,.ptr 0 0 0),(4,enc1 I (belowL l 1)),(5,I i),(6,.ptr 1 0 0),(8,I j)],[.cells 0 [encL NodeR.enc l,I next],.cells 0 l[i].enc]⟩) (λj=>l[i].l.length -j) (λj=>j<=l[i].l.length/\∀q (h:q<l[i].l.length),q<j->(findB l l[i].l[q].ino).2=true) 0 ?_ ?_ ?_
  ·exact Wa
  ·simp
  rintro j ⟨k1,k2⟩ A2 hA2
  by_cases hj:j<l[i].l.length
  case neg=>
   have gi:Zkt l i l[i]:=⟨r1,r2,λx hx=>by
    obtain⟨q,hq,rfl⟩:=List.getElem_of_mem hx
    exact k2 q hq (by omega)⟩
   have g3:∀q (h:q<l.length),q<i+1->Zkt l q l[q]:=λq h hq=>by
    by_cases e:q=i
    ·subst e;exact gi
    ·exact g2 q h (by omega)
   have s_:=An @hi (An @hj (@hwi))
   have q1_:=λs w=>hA (i+1) s w ⟨hi,g3⟩ (by omega)
   exact WW
  have hei:=hE l[i] (List.getElem_mem hi)
  have hwj:=Zg hj (by simp only[maxLen];omega)
  have c3:Zb Tryz.prog 50 [.agg [encL NodeR.enc l,I next],I l[i].l[j].ino] (.tup [encN (findB l l[i].l[j].ino).1,B (findB l l[i].l[j].ino).2]):=hfd l[i].l[j].ino
  cases hq:(findB l l[i].l[j].ino).2 with
  |false=>
   have e:rf=false:=hb λg=>by
    have:=g.kids l[i].l[j] (List.getElem_mem hj)
    rw[hq] at this;cases this
   subst e
   rw[hq] at c3
   have s_:=An @hi (@hj)
   have e1_:=D1 17 13 [2] [(11,.w)]
   have p1_:=c3
   exact WW
  |true=>
   rw[hq] at c3
   have k3:∀q (h:q<l[i].l.length),q<j+1->(findB l l[i].l[q].ino).2=true:=λq h hqj=>by
    by_cases e:q=j
    ·subst e;exact hq
    ·exact k2 q h (by omega)
   have s_:=An @hi (An @hj (@hwj))
   have q1_:=λs w=>hA2 (j+1) s w ⟨hj,k3⟩ (by omega)
   have e1_:=D1 17 13 [2] [(11,.w)]
   have p1_:=c3
   exact WW
 have p4:¬1<l[i].links:=λe=>r2 ⟨p0,.inr ⟨p2,.inl e⟩⟩
 have mb:l[i].ino∈belowL l 1:=Decidable.byContradiction λe=>r2 ⟨p0,.inr ⟨p2,.inr e⟩⟩
 rw[show decide (l[i].ino∈belowL l 1)=true from decide_eq_true mb] at c2
 have s_:=An @hi (An @r1 (An @p0 (An @p1 (An @p2 (An @p4 (@FSR.enc.eq_1))))))
 try simp[s_]
 repeat' ((first|((first|refine Tp ?_|refine Tn ?_|refine T2 ?_ ?_)<;>intro h_ e_ n_)|refine Pg c1 ?_|refine Pg c2 ?_|refine Dg 9 7 [] [] ?_|rw[Ip]|rw[In]|rw[Fz]|rw[Gz]|fail)<;>first|simp[e_,n_,s_]|simp[s_]|skip)
 refine AW.loopG (lit:=λ_=>false) (λj:Nat=>⟨111,pat [(1,.ptr 0 0 0),(4,enc1 I (belowL l 1)),(5,I i),(6,.ptr 1 0 0),(8,I j)],[.cells 0 [encL NodeR.enc l,I next],.cells 0 l[i].enc]⟩) (λj=>l[i].l.length -j) (λj=>j<=l[i].l.length/\∀q (h:q<l[i].l.length),q<j->(findB l l[i].l[q].ino).2=true) 0 ?_ ?_ ?_
 ·exact Wa
 ·simp
 rintro j ⟨k1,k2⟩ A2 hA2
 by_cases hj:j<l[i].l.length
 case neg=>
  have gi:Zkt l i l[i]:=⟨r1,r2,λx hx=>by
   obtain⟨q,hq,rfl⟩:=List.getElem_of_mem hx
   exact k2 q hq (by omega)⟩
  have g3:∀q (h:q<l.length),q<i+1->Zkt l q l[q]:=λq h hq=>by
   by_cases e:q=i
   ·subst e;exact gi
   ·exact g2 q h (by omega)
  have s_:=An @hi (An @hj (@hwi))
  have q1_:=λs w=>hA (i+1) s w ⟨hi,g3⟩ (by omega)
  exact WW
 have hei:=hE l[i] (List.getElem_mem hi)
 have hwj:=Zg hj (by simp only[maxLen];omega)
 have c3:Zb Tryz.prog 50 [.agg [encL NodeR.enc l,I next],I l[i].l[j].ino] (.tup [encN (findB l l[i].l[j].ino).1,B (findB l l[i].l[j].ino).2]):=hfd l[i].l[j].ino
 cases hq:(findB l l[i].l[j].ino).2 with
 |false=>
  have e:rf=false:=hb λg=>by
   have:=g.kids l[i].l[j] (List.getElem_mem hj)
   rw[hq] at this;cases this
  subst e
  rw[hq] at c3
  have s_:=An @hi (@hj)
  have e1_:=D1 17 13 [2] [(11,.w)]
  have p1_:=c3
  exact WW
 |true=>
  rw[hq] at c3
  have k3:∀q (h:q<l[i].l.length),q<j+1->(findB l l[i].l[q].ino).2=true:=λq h hqj=>by
   by_cases e:q=j
   ·subst e;exact hq
   ·exact k2 q h (by omega)
  have s_:=An @hi (An @hj (@hwj))
  have q1_:=λs w=>hA2 (j+1) s w ⟨hj,k3⟩ (by omega)
  have e1_:=D1 17 13 [2] [(11,.w)]
  have p1_:=c3
  exact WW
theorem Zyk (a b:List Int):Zb Tryz.prog 107 [enc1 I a,enc1 I b] (B (decide (a=b))):=by
 refine Pm Tryz.func107 λhfit=> ?_
 simp at hfit
 simp[Tryz.f107]
 by_cases hl:a.length=b.length
 case neg=>
  have:¬a=b:=λe=>hl (by rw[e])
  simp[hl,this]
 simp[hl]
 refine AW.loopF (lit:=λ_=>false) (λi:Nat=>⟨26,pat [(0,enc1 I a),(1,enc1 I b),(5,I i)],[]⟩) (λi=>b.length -i) (λi=>i<=b.length/\a.take i=b.take i) 0 ?_ ?_ ?_
 ·exact Wz
 ·simp
 ·rintro i ⟨hi,ht⟩
  simp
  refine ZcU _ _ (λh=> ?_) (λh=> ?_)
  ·simp at h
   have ha:i<a.length:=by omega
   simp
   refine Dg _ 9 [] [] ?_
   have hb:i<b.length:=by omega
   simp[ha,hb]
   refine ZcU _ _ (λh2=> ?_) (λh2=> ?_)
   ·simp at h2
    have:¬a=b:=λe=>by subst e;exact h2 rfl
    simp[this]
   ·simp at h2
    simp[Zg ha hfit.1]
    exact⟨i+1,Wz,⟨by omega,take_step ht ha hb h2⟩,by omega⟩
  ·simp at h
   have:=Zam ht (by omega) (by omega)
   simp[this]
end Go.Proofs.YtgpkaoombhobmaaGreat
