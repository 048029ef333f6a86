import Derived.Test.YtgpkaoombhobmaaGreatKW5
import Derived.Test.YtgpkaoombhobmaaGreatKP1
set_option linter.unusedVariables false
set_option linter.unusedSimpArgs false
namespace Go.Proofs.YtgpkaoombhobmaaGreat
open Go.Cx Tab
set_option maxHeartbeats 400000
set_option maxRecDepth 40000
theorem Zdn (f:FSR) (k:Int) (h:Zh f):Zd Tryz.prog 50 [encF f,I k] (.tup [encN (findB f.l k).1,B (findB f.l k).2]):=Zgi f k h.rise (by have:=h.len;omega)
theorem Zrj (f:FSR) (n:NodeR) (h:Zh f) (hn:inI n.ino) (hm:n.ino≠9223372036854775807):Zd Tryz.prog 220 [encF f,encN n] (encF (putB f n)):=by
 have:=rput_ok f n (by have:=h.len;omega) hn hm
 rwa[putR_eq h.rise] at this
theorem Zuq (f:FSR) (ino top:Int) (h:Zh f):Zd Tryz.prog 224 [encF f,I ino,I top] (B (belowD f ino top)):=by
 have hE:∀n∈f.l,n.l.length<=256:=λn hn=>((Zbs _).1 ((Zp n).1 (h.ok n hn)).row).len
 have hl:=h.len
 have h1:=ZjH f top h.rise hl hE
 have h2:=Zjk f.l top
 have h3:=ZbB hE
 have h4:=Zpj (belowL f.l top) ino (by omega)
 have e:decide (ino∈belowL f.l top)=belowD f ino top:=by
  have h5:=ZfZ f.l top ino
  have h6:=ZlU h ino top
  rw[<-h6] at h5
  cases hb:belowD f ino top with
  |true=>exact decide_eq_true (h5.2 hb)
  |false=>exact decide_eq_false λg=>by rw[h5.1 g] at hb;cases hb
 rw[e] at h4
 refine Pm Tryz.func224 λhfit=> ?_
 simp[Tryz.f224]
 exact WW
theorem Zio (f:FSR) (d:Int) (h:Zh f):Zd Tryz.prog 192 [encF f,I d] (.tup [encN (dirD f d).1,I (dirD f d).2]):=by
 have h1:=Zdn f d h
 unfold dirD
 by_cases q1:(findB f.l d).2=false
 ·rw[if_pos q1]
  refine Pm Tryz.func192 λhfit=> ?_
  simp[Tryz.f192]
  have s_:=An @q1 (@zeroN_enc)
  exact WW
 by_cases q2:(findB f.l d).1.kind≠2
 ·rw[if_neg q1,if_pos q2]
  refine Pm Tryz.func192 λhfit=> ?_
  simp[Tryz.f192]
  have s_:=An @q1 (An @q2 (@zeroN_enc))
  exact WW
 ·rw[if_neg q1,if_neg q2]
  refine Pm Tryz.func192 λhfit=> ?_
  simp[Tryz.f192]
  have s_:=An @q1 (@q2)
  exact WW
theorem ZfA (f:FSR) (d:Int) (s:ByteArray) (h:Zh f):Zd Tryz.prog 184 [encF f,I d,S s] (.tup [encN (lookD f d s).1,I (lookD f d s).2]):=by
 have h1:=Zio f d h
 have h2:=rcheck_ok s
 have h3:=ZbZ (dirD f d).1.l s
 have h4:=Zdn f (findE (dirD f d).1.l s).1 h
 unfold lookD
 generalize dirD f d=D at*
 generalize findE D.1.l s=E at*
 generalize findB f.l E.1=N at*
 obtain⟨D1,De⟩:=D
 obtain⟨E1,E2⟩:=E
 obtain⟨N1,N2⟩:=N
 simp only at*
 by_cases q1:De=0
 case neg=>
  rw[if_pos q1]
  refine Pm Tryz.func184 λhfit=> ?_
  simp[Tryz.f184]
  have s_:=An @q1 (@zeroN_enc)
  exact WW
 rw[if_neg (by simpa using q1)]
 by_cases q2:checkS s=0
 case neg=>
  rw[if_pos q2]
  refine Pm Tryz.func184 λhfit=> ?_
  simp[Tryz.f184]
  have s_:=An @q1 (An @q2 (@zeroN_enc))
  exact WW
 rw[if_neg (by simpa using q2)]
 cases E2 with
 |false=>
  rw[if_pos rfl]
  refine Pm Tryz.func184 λhfit=> ?_
  simp[Tryz.f184]
  have s_:=An @q1 (An @q2 (@zeroN_enc))
  exact WW
 |true=>
  rw[if_neg (by simp)]
  cases N2 with
  |false=>
   rw[if_pos rfl]
   refine Pm Tryz.func184 λhfit=> ?_
   simp[Tryz.f184]
   have s_:=An @q1 (An @q2 (@zeroN_enc))
   exact WW
  |true=>
   rw[if_neg (by simp)]
   refine Pm Tryz.func184 λhfit=> ?_
   simp[Tryz.f184]
   have s_:=An @q1 (An @q2 (@zeroN_enc))
   exact WW
theorem ZeN (f:FSR) (dir:Int) (s:ByteArray) (ino:Int) (h:Zh f) (hb:f.next<=4611686018427387904):Zd Tryz.prog 223 [encF f,I dir,S s,I ino] (encF (enteredD f dir s ino)):=by
 have h1:=Zdn f dir h
 have hn:=h.num dir
 have h2:=ZtX (findB f.l dir).1.l s ino (by have:=(h.row dir).len;omega)
 have h3:=Zrj f {(findB f.l dir).1 with l:=(enterE (findB f.l dir).1.l s ino).1} h ⟨by simp only;omega,by simp only;omega⟩ (by simp only;omega)
 have e:putB f {(findB f.l dir).1 with l:=(enterE (findB f.l dir).1.l s ino).1}=enteredD f dir s ino:=rfl
 rw[e] at h3
 generalize enteredD f dir s ino=K at*
 generalize enterE (findB f.l dir).1.l s ino=E at*
 generalize findB f.l dir=D at*
 refine Pm Tryz.func223 λhfit=> ?_
 simp[Tryz.f223]
 exact WW
theorem ZkD (f:FSR) (dir:Int) (s:ByteArray) (h:Zh f) (hb:f.next<=4611686018427387904):Zd Tryz.prog 226 [encF f,I dir,S s] (encF (leftD f dir s)):=by
 have h1:=Zdn f dir h
 have hn:=h.num dir
 have h2:=ZtY (findB f.l dir).1.l s (by have:=(h.row dir).len;omega)
 have h3:=Zrj f {(findB f.l dir).1 with l:=(leaveE (findB f.l dir).1.l s).1} h ⟨by simp only;omega,by simp only;omega⟩ (by simp only;omega)
 have e:putB f {(findB f.l dir).1 with l:=(leaveE (findB f.l dir).1.l s).1}=leftD f dir s:=rfl
 rw[e] at h3
 generalize leftD f dir s=K at*
 generalize leaveE (findB f.l dir).1.l s=E at*
 generalize findB f.l dir=D at*
 refine Pm Tryz.func226 λhfit=> ?_
 simp[Tryz.f226]
 exact WW
theorem ZwQ (f:FSR) (ino:Int) (h:Zh f) (hb:f.next<=4611686018427387904):Zd Tryz.prog 225 [encF f,I ino] (encF (ZhC f ino)):=by
 have h1:=Zdn f ino h
 have hn:=h.num ino
 have hlk:=h.links ino
 have hl:=h.len
 have h2:=rout_ok f ino (by omega)
 have h3:=Zrj f {(findB f.l ino).1 with links:=(findB f.l ino).1.links -1} h ⟨by simp only;omega,by simp only;omega⟩ (by simp only;omega)
 have hw:IntKind.i64.wrap ((findB f.l ino).1.links -1)=(findB f.l ino).1.links -1:=Zg (by omega) (by omega)
 unfold ZhC
 by_cases q:(findB f.l ino).1.links<=1
 ·rw[if_pos q]
  generalize outF f ino=K at*
  generalize findB f.l ino=D at*
  refine Pm Tryz.func225 λhfit=> ?_
  simp[Tryz.f225]
  have s_:=q
  exact WW
 ·rw[if_neg q]
  generalize findB f.l ino=D at*
  generalize putB f {D.1 with links:=D.1.links -1}=K at*
  refine Pm Tryz.func225 λhfit=> ?_
  simp[Tryz.f225]
  have s_:=An @q (@hw)
  exact WW
theorem Zip (f:FSR) (dir:Int) (s:ByteArray) (h:Zh f) (hb:f.next<=4611686018427387904) (hl:(lookD f dir s).2=0):Zd Tryz.prog 225 [encF (leftD f dir s),I (lookD f dir s).1.ino] (encF (withoutD f dir s (lookD f dir s).1.ino)):=by
 obtain⟨h1,_⟩:=ZcQ h hl
 have hs:=Zbt h h1 s
 exact ZwQ (leftD f dir s) (lookD f dir s).1.ino hs.rows (by rw[hs.next];exact hb)
theorem radd_ok (f:FSR) (dir:Int) (s:ByteArray) (n:NodeR) (h:Zh f) (hb:f.next<4611686018427387904):Zd Tryz.prog 221 [encF f,I dir,S s,encN n] (.tup [encF (addD f dir s n).1,I (addD f dir s n).2]):=by
 have hlen:=h.len
 have h1:=Zio f dir h
 have h2:=rcheck_ok s
 have h3:=ZbZ (dirD f dir).1.l s
 have h4:=rnright_ok (newN f n)
 have hnx:=h.next
 have h5:=ZeN f dir s f.next h (by omega)
 have h6:(dirD f dir).2=0->Zd Tryz.prog 220 [encF (enteredD f dir s f.next),encN (newN f n)] (encF (putB (enteredD f dir s f.next) (newN f n))):=λg=>by
  obtain⟨d1,d2,_⟩:=ZaS g
  have hs:=Zal h d1 d2 s f.next
  exact Zrj _ _ hs.rows ⟨by show-9223372036854775808<=f.next;omega,by show f.next<9223372036854775808;omega⟩ (by show f.next≠_;omega)
 unfold addD
 have en:encN (newN f n)= .agg [I f.next,I n.kind,I 1,S n.text,encL EntryR.enc n.l]:=rfl
 rw[en] at h4 h6
 generalize newN f n=m at*
 generalize dirD f dir=D at*
 generalize findE D.1.l s=E at*
 generalize enteredD f dir s f.next=K at*
 generalize putB K m=K2 at*
 by_cases q1:D.2=0
 case neg=>
  rw[if_pos q1]
  refine Pm Tryz.func221 λhfit=> ?_
  have d1_:=D0 17 8 [] []
  simp[Tryz.f221]
  have s_:=q1
  exact WW
 rw[if_neg (by simpa using q1)]
 have h6:=h6 q1
 by_cases q2:checkS s=0
 case neg=>
  rw[if_pos q2]
  refine Pm Tryz.func221 λhfit=> ?_
  have d1_:=D0 17 8 [] []
  simp[Tryz.f221]
  have s_:=An @q1 (@q2)
  exact WW
 rw[if_neg (by simpa using q2)]
 cases q3:E.2 with
 |true=>
  rw[if_pos rfl]
  refine Pm Tryz.func221 λhfit=> ?_
  have d1_:=D0 17 8 [] []
  simp[Tryz.f221]
  have s_:=An @q1 (An @q2 (@q3))
  exact WW
 |false=>
 rw[if_neg (by simp)]
 by_cases q4:256<=f.l.length
 ·rw[if_pos (.inl q4)]
  refine Pm Tryz.func221 λhfit=> ?_
  have d1_:=D0 17 8 [] []
  simp[Tryz.f221]
  have s_:=An @q1 (An @q2 (An @q3 (An @q4 (@FSR.enc.eq_1))))
  exact WW
 by_cases q5:256<=D.1.l.length
 ·rw[if_pos (.inr q5)]
  refine Pm Tryz.func221 λhfit=> ?_
  have d1_:=D0 17 8 [] []
  simp[Tryz.f221]
  have s_:=An @q1 (An @q2 (An @q3 (An @q4 (An @q5 (@FSR.enc.eq_1)))))
  exact WW
 rw[if_neg (λg=>g.elim q4 q5)]
 cases q6:nodeOk m with
 |false=>
  rw[if_pos (.inl rfl)]
  rw[q6] at h4
  refine Pm Tryz.func221 λhfit=> ?_
  have d1_:=D0 17 8 [] []
  simp[Tryz.f221]
  have s_:=An @q1 (An @q2 (An @q3 (An @q4 (An @q5 (An @FSR.enc.eq_1 (@NodeR.enc.eq_1))))))
  exact WW
 |true=>
 rw[q6] at h4
 by_cases q7:0<n.l.length
 ·rw[if_pos (.inr q7)]
  refine Pm Tryz.func221 λhfit=> ?_
  have d1_:=D0 17 8 [] []
  simp[Tryz.f221]
  have s_:=An @q1 (An @q2 (An @q3 (An @q4 (An @q5 (An @q7 (An @FSR.enc.eq_1 (@NodeR.enc.eq_1)))))))
  exact WW
 rw[if_neg (λg=>g.elim (by simp) q7)]
 refine Pm Tryz.func221 λhfit=> ?_
 have d1_:=D0 17 8 [] []
 simp[Tryz.f221]
 have s_:=An @q1 (An @q2 (An @q3 (An @q4 (An @q5 (An @q7 (An @FSR.enc.eq_1 (@NodeR.enc.eq_1)))))))
 exact WW
theorem ZwR (f:FSR) (dir:Int) (s:ByteArray) (ino:Int) (h:Zh f) (hb:f.next<4611686018427387904):Zd Tryz.prog 190 [encF f,I dir,S s,I ino] (.tup [encF (giveD f dir s ino).1,I (giveD f dir s ino).2]):=by
 have h1:=Zio f dir h
 have h2:=Zdn f ino h
 have h3:=rcheck_ok s
 have h4:=ZbZ (dirD f dir).1.l s
 have h5:=ZeN f dir s ino h (by omega)
 have hn:=h.num ino
 have hlk:=h.links ino
 have hw:IntKind.i64.wrap ((findB f.l ino).1.links+1)=(findB f.l ino).1.links+1:=Zg (by omega) (by omega)
 have h6:(dirD f dir).2=0->Zd Tryz.prog 220 [encF (enteredD f dir s ino),encN {(findB f.l ino).1 with links:=(findB f.l ino).1.links+1}] (encF (putB (enteredD f dir s ino) {(findB f.l ino).1 with links:=(findB f.l ino).1.links+1})):=λg=>by
  obtain⟨d1,d2,_⟩:=ZaS g
  have hs:=Zal h d1 d2 s ino
  exact Zrj _ _ hs.rows ⟨by simp only;omega,by simp only;omega⟩ (by simp only;omega)
 unfold giveD
 generalize dirD f dir=D at*
 generalize findE D.1.l s=E at*
 generalize enteredD f dir s ino=K at*
 generalize findB f.l ino=N at*
 generalize putB K {N.1 with links:=N.1.links+1}=K2 at*
 by_cases q1:D.2=0
 case neg=>
  rw[if_pos q1]
  refine Pm Tryz.func190 λhfit=> ?_
  have d1_:=D0 18 7 [] []
  simp[Tryz.f190]
  have s_:=q1
  exact WW
 rw[if_neg (by simpa using q1)]
 have h6:=h6 q1
 cases q2:N.2 with
 |false=>
  rw[if_pos rfl]
  refine Pm Tryz.func190 λhfit=> ?_
  have d1_:=D0 18 7 [] []
  simp[Tryz.f190]
  have s_:=An @q1 (@q2)
  exact WW
 |true=>
 rw[if_neg (by simp)]
 by_cases q3:N.1.kind=2
 ·rw[if_pos q3]
  refine Pm Tryz.func190 λhfit=> ?_
  have d1_:=D0 18 7 [] []
  simp[Tryz.f190]
  have s_:=An @q1 (An @q2 (@q3))
  exact WW
 rw[if_neg q3]
 by_cases q4:checkS s=0
 case neg=>
  rw[if_pos q4]
  refine Pm Tryz.func190 λhfit=> ?_
  have d1_:=D0 18 7 [] []
  simp[Tryz.f190]
  have s_:=An @q1 (An @q2 (An @q3 (@q4)))
  exact WW
 rw[if_neg (by simpa using q4)]
 cases q5:E.2 with
 |true=>
  rw[if_pos rfl]
  refine Pm Tryz.func190 λhfit=> ?_
  have d1_:=D0 18 7 [] []
  simp[Tryz.f190]
  have s_:=An @q1 (An @q2 (An @q3 (An @q4 (@q5))))
  exact WW
 |false=>
 rw[if_neg (by simp)]
 by_cases q6:256<=D.1.l.length
 ·rw[if_pos (.inl q6)]
  refine Pm Tryz.func190 λhfit=> ?_
  have d1_:=D0 18 7 [] []
  simp[Tryz.f190]
  have s_:=An @q1 (An @q2 (An @q3 (An @q4 (An @q5 (@q6)))))
  exact WW
 by_cases q7:64<=N.1.links
 ·rw[if_pos (.inr q7)]
  refine Pm Tryz.func190 λhfit=> ?_
  have d1_:=D0 18 7 [] []
  simp[Tryz.f190]
  have s_:=An @q1 (An @q2 (An @q3 (An @q4 (An @q5 (An @q6 (@q7))))))
  exact WW
 rw[if_neg (λg=>g.elim q6 q7)]
 refine Pm Tryz.func190 λhfit=> ?_
 have d1_:=D0 18 7 [] []
 simp[Tryz.f190]
 have s_:=An @q1 (An @q2 (An @q3 (An @q4 (An @q5 (An @q6 (An @q7 (@hw)))))))
 exact WW
theorem ZwS (f:FSR) (dir:Int) (s:ByteArray) (h:Zh f) (hb:f.next<=4611686018427387904):Zd Tryz.prog 222 [encF f,I dir,S s] (.tup [encF (takeD f dir s).1,I (takeD f dir s).2]):=by
 have h1:=ZfA f dir s h
 have h2:=ZkD f dir s h hb
 have h3:=Zip f dir s h hb
 unfold takeD
 generalize withoutD f dir s (lookD f dir s).1.ino=K at*
 generalize leftD f dir s=K2 at*
 generalize lookD f dir s=L at*
 by_cases q1:L.2=0
 case neg=>
  rw[if_pos q1]
  refine Pm Tryz.func222 λhfit=> ?_
  have d1_:=D0 6 7 [] []
  simp[Tryz.f222]
  have s_:=q1
  exact WW
 rw[if_neg (by simpa using q1)]
 have h3:=h3 q1
 by_cases q2:0<L.1.l.length
 ·rw[if_pos q2]
  refine Pm Tryz.func222 λhfit=> ?_
  have d1_:=D0 6 7 [] []
  simp[Tryz.f222]
  have s_:=An @q1 (@q2)
  exact WW
 ·rw[if_neg q2]
  refine Pm Tryz.func222 λhfit=> ?_
  have d1_:=D0 6 7 [] []
  simp[Tryz.f222]
  have s_:=An @q1 (@q2)
  exact WW
theorem ZwT (f:FSR) (dir:Int) (s:ByteArray) (to:Int) (t:ByteArray) (h:Zh f) (T:ZI f) (hb:f.next<4611686018427387904):
  Zd Tryz.prog 191 [encF f,I dir,S s,I to,S t] (.tup [encF (moveD f dir s to t).1,I (moveD f dir s to t).2]):=by
 have h1:=ZfA f dir s h
 have h2:=Zio f to h
 have h3:=rcheck_ok t
 have h4:=Zuq f to (lookD f dir s).1.ino h
 have h5:=ZfA f to t h
 have h6:=ZkD f to t h (by omega)
 have h7:=Zip f to t h (by omega)
 have hcs:=ZfY h to t
 have hb':(clearD f to t).next<=4611686018427387904:=by rw[hcs.next];omega
 have h8:=Zdn (clearD f to t) to hcs.rows
 have h9:=ZkD (clearD f to t) dir s hcs.rows hb'
 have hdd:(lookD f dir s).2=0->((lookD f to t).2=0->overD (lookD f dir s).1 (lookD f to t).1=0)->(findB (clearD f to t).l dir).2=true:=λg1 g2=>by
  obtain⟨u1,_,_,u4,_⟩:=ZcQ h g1
  by_cases e:(lookD f to t).2=0/\dir=(lookD f to t).1.ino
  ·exfalso
   obtain⟨_,_,o3⟩:=ZgL (g2 e.1)
   obtain⟨_,_,_,_,u5⟩:=ZcQ h e.1
   rw[e.2,u5] at u4
   simp only[o3] at u4
   exact absurd (congrArg Prod.snd u4) (by simp[findE])
  ·rw[ZcP h to t dir (λh g=>e ⟨h,g⟩) (λg=>ZcB h T g)]
   split
   ·rfl
   ·exact u1
 have h10:(lookD f dir s).2=0->((lookD f to t).2=0->overD (lookD f dir s).1 (lookD f to t).1=0)->Zd Tryz.prog 223 [encF (leftD (clearD f to t) dir s),I to,S t,I (lookD f dir s).1.ino] (encF (enteredD (leftD (clearD f to t) dir s) to t (lookD f dir s).1.ino)):=λg1 g2=>by
  have hls:=Zbt hcs.rows (hdd g1 g2) s
  exact ZeN _ to t _ hls.rows (by rw[hls.next];exact hb')
 clear hdd hcs
 have ec:(lookD f to t).2=0->withoutD f to t (lookD f to t).1.ino=clearD f to t:=λg=>by unfold clearD;rw[if_pos g]
 have ec2:(lookD f to t).2≠0->clearD f to t=f:=λg=>by unfold clearD;rw[if_neg g]
 unfold moveD
 generalize enteredD (leftD (clearD f to t) dir s) to t (lookD f dir s).1.ino=K at*
 generalize leftD (clearD f to t) dir s=K2 at*
 generalize withoutD f to t (lookD f to t).1.ino=K4 at*
 generalize leftD f to t=K3 at*
 generalize clearD f to t=C at*
 generalize belowD f to (lookD f dir s).1.ino=Bw at*
 generalize lookD f dir s=L at*
 generalize lookD f to t=O at*
 generalize dirD f to=D at*
 generalize findB C.l to=N at*
 by_cases q1:L.2=0
 case neg=>
  rw[if_pos q1]
  refine Pm Tryz.func191 λhfit=> ?_
  have d1_:=D0 23 7 [] []
  have d2_:=D0 27 9 [] []
  simp[Tryz.f191]
  have s_:=q1
  exact WW
 rw[if_neg (by simpa using q1)]
 by_cases q2:D.2=0
 case neg=>
  rw[if_pos q2]
  refine Pm Tryz.func191 λhfit=> ?_
  have d1_:=D0 23 7 [] []
  have d2_:=D0 27 9 [] []
  simp[Tryz.f191]
  have s_:=An @q1 (@q2)
  exact WW
 rw[if_neg (by simpa using q2)]
 by_cases q3:checkS t=0
 case neg=>
  rw[if_pos q3]
  refine Pm Tryz.func191 λhfit=> ?_
  have d1_:=D0 23 7 [] []
  have d2_:=D0 27 9 [] []
  simp[Tryz.f191]
  have s_:=An @q1 (An @q2 (@q3))
  exact WW
 rw[if_neg (by simpa using q3)]
 by_cases q4:L.1.kind=2/\(L.1.ino=to\/Bw=true)
 ·rw[if_pos q4]
  obtain⟨q4,q5⟩:=q4
  by_cases q6:L.1.ino=to
  ·refine Pm Tryz.func191 λhfit=> ?_
   have d1_:=D0 23 7 [] []
   have d2_:=D0 27 9 [] []
   simp[Tryz.f191]
   have s_:=An @q1 (An @q2 (An @q3 (An @q4 (@q6))))
   exact WW
  ·have q5:=q5.resolve_left q6
   have q6':¬to=L.1.ino:=λe=>q6 e.symm
   rw[q5] at h4
   refine Pm Tryz.func191 λhfit=> ?_
   have d1_:=D0 23 7 [] []
   have d2_:=D0 27 9 [] []
   simp[Tryz.f191]
   have s_:=An @q1 (An @q2 (An @q3 (An @q4 (An @q6 (@q6')))))
   exact WW
 rw[if_neg q4]
 have key:L.1.kind≠2\/(L.1.kind=2/\¬to=L.1.ino/\Bw=false):=by
  by_cases k:L.1.kind=2
  ·exact .inr ⟨k,λe=>q4 ⟨k,.inl e.symm⟩,by cases Bw with|false=>rfl|true=>exact absurd ⟨k,.inr rfl⟩ q4⟩
  ·exact .inl k
 by_cases q5:O.2=0/\O.1.ino=L.1.ino
 ·rw[if_pos q5]
  obtain⟨q5,q6⟩:=q5
  rcases key with k|⟨k,k2,k3⟩
  ·refine Pm Tryz.func191 λhfit=> ?_
   have d1_:=D0 23 7 [] []
   have d2_:=D0 27 9 [] []
   simp[Tryz.f191]
   have s_:=An @q1 (An @q2 (An @q3 (An @k (An @q5 (@q6)))))
   exact WW
  ·rw[k3] at h4
   refine Pm Tryz.func191 λhfit=> ?_
   have d1_:=D0 23 7 [] []
   have d2_:=D0 27 9 [] []
   simp[Tryz.f191]
   have s_:=An @q1 (An @q2 (An @q3 (An @k (An @k2 (An @q5 (@q6))))))
   exact WW
 rw[if_neg q5]
 by_cases z:O.2=0
 case neg=>
  have ec2:=ec2 z
  subst ec2
  have h10:=h10 q1 (λg=>absurd g z)
  rw[if_neg (λg=>z g.1)]
  by_cases q7:dir≠to/\256<=N.1.l.length
  ·rw[if_pos q7]
   obtain⟨q7,q8⟩:=q7
   rcases key with k|⟨k,k2,k3⟩
   ·refine Pm Tryz.func191 λhfit=> ?_
    have d1_:=D0 23 7 [] []
    have d2_:=D0 27 9 [] []
    simp[Tryz.f191]
    have s_:=An @q1 (An @q2 (An @q3 (An @k (An @z (An @q7 (@q8))))))
    exact WW
   ·rw[k3] at h4
    refine Pm Tryz.func191 λhfit=> ?_
    have d1_:=D0 23 7 [] []
    have d2_:=D0 27 9 [] []
    simp[Tryz.f191]
    have s_:=An @q1 (An @q2 (An @q3 (An @k (An @k2 (An @z (An @q7 (@q8)))))))
    exact WW
  rw[if_neg q7]
  by_cases q8:dir=to
  ·rcases key with k|⟨k,k2,k3⟩
   ·refine Pm Tryz.func191 λhfit=> ?_
    have d1_:=D0 23 7 [] []
    have d2_:=D0 27 9 [] []
    simp[Tryz.f191]
    have s_:=An @q1 (An @q2 (An @q3 (An @k (An @z (@q8)))))
    exact WW
   ·rw[k3] at h4
    refine Pm Tryz.func191 λhfit=> ?_
    have d1_:=D0 23 7 [] []
    have d2_:=D0 27 9 [] []
    simp[Tryz.f191]
    have s_:=An @q1 (An @q2 (An @q3 (An @k (An @k2 (An @z (@q8))))))
    exact WW
  ·have q9:¬256<=N.1.l.length:=λg=>q7 ⟨q8,g⟩
   rcases key with k|⟨k,k2,k3⟩
   ·refine Pm Tryz.func191 λhfit=> ?_
    have d1_:=D0 23 7 [] []
    have d2_:=D0 27 9 [] []
    simp[Tryz.f191]
    have s_:=An @q1 (An @q2 (An @q3 (An @k (An @z (An @q8 (@q9))))))
    exact WW
   ·rw[k3] at h4
    refine Pm Tryz.func191 λhfit=> ?_
    have d1_:=D0 23 7 [] []
    have d2_:=D0 27 9 [] []
    simp[Tryz.f191]
    have s_:=An @q1 (An @q2 (An @q3 (An @k (An @k2 (An @z (An @q8 (@q9)))))))
    exact WW
 have ec:=ec z
 have h7:=h7 z
 subst ec
 have q6:¬O.1.ino=L.1.ino:=λg=>q5 ⟨z,g⟩
 by_cases o:overD L.1 O.1=0
 case neg=>
  rw[if_pos ⟨z,o⟩]
  have ho:(L.1.kind=2/\O.1.kind≠2/\overD L.1 O.1=8)\/(L.1.kind≠2/\O.1.kind=2/\overD L.1 O.1=9)\/((L.1.kind=2/\O.1.kind=2\/L.1.kind≠2/\O.1.kind≠2)/\0<O.1.l.length/\overD L.1 O.1=11):=by
   unfold overD at o⊢
   by_cases a:L.1.kind=2<;>by_cases b:O.1.kind=2<;>by_cases c:0<O.1.l.length<;>simp[a,b,c] at o⊢
  rcases ho with⟨a,b,e⟩|⟨a,b,e⟩|⟨a,b,e⟩
  ·rw[e]
   rcases key with k|⟨k,k2,k3⟩
   ·exact absurd a k
   rw[k3] at h4
   refine Pm Tryz.func191 λhfit=> ?_
   have d1_:=D0 23 7 [] []
   have d2_:=D0 27 9 [] []
   simp[Tryz.f191]
   have s_:=An @q1 (An @q2 (An @q3 (An @k (An @k2 (An @z (An @q6 (@b)))))))
   exact WW
  ·rw[e]
   refine Pm Tryz.func191 λhfit=> ?_
   have d1_:=D0 23 7 [] []
   have d2_:=D0 27 9 [] []
   simp[Tryz.f191]
   have s_:=An @q1 (An @q2 (An @q3 (An @z (An @q6 (An @a (@b))))))
   exact WW
  ·rw[e]
   rcases a with⟨a,a2⟩|⟨a,a2⟩
   ·rcases key with k|⟨k,k2,k3⟩
    ·exact absurd a k
    rw[k3] at h4
    refine Pm Tryz.func191 λhfit=> ?_
    have d1_:=D0 23 7 [] []
    have d2_:=D0 27 9 [] []
    simp[Tryz.f191]
    have s_:=An @q1 (An @q2 (An @q3 (An @k (An @k2 (An @z (An @q6 (An @a2 (@b))))))))
    exact WW
   ·refine Pm Tryz.func191 λhfit=> ?_
    have d1_:=D0 23 7 [] []
    have d2_:=D0 27 9 [] []
    simp[Tryz.f191]
    have s_:=An @q1 (An @q2 (An @q3 (An @z (An @q6 (An @a (An @a2 (@b)))))))
    exact WW
 have h10:=h10 q1 (λ_=>o)
 rw[if_neg (λg=>g.2 o)]
 obtain⟨o1,o2,o3⟩:=ZgL o
 have ol:O.1.l.length=0:=by rw[o3];rfl
 have kk:(L.1.kind=2/\O.1.kind=2/\¬to=L.1.ino/\Bw=false)\/(L.1.kind≠2/\O.1.kind≠2):=by
  rcases key with k|⟨k,k2,k3⟩
  ·exact .inr ⟨k,o2 k⟩
  ·exact .inl ⟨k,o1 k,k2,k3⟩
 by_cases q7:dir≠to/\256<=N.1.l.length
 ·rw[if_pos q7]
  obtain⟨q7,q8⟩:=q7
  rcases kk with⟨a,a2,k2,k3⟩|⟨a,a2⟩
  ·rw[k3] at h4
   refine Pm Tryz.func191 λhfit=> ?_
   have d1_:=D0 23 7 [] []
   have d2_:=D0 27 9 [] []
   simp[Tryz.f191]
   have s_:=An @q1 (An @q2 (An @q3 (An @a (An @a2 (An @k2 (An @z (An @q6 (An @ol (An @setF_enc (An @q7 (@q8)))))))))))
   exact WW
  ·refine Pm Tryz.func191 λhfit=> ?_
   have d1_:=D0 23 7 [] []
   have d2_:=D0 27 9 [] []
   simp[Tryz.f191]
   have s_:=An @q1 (An @q2 (An @q3 (An @a (An @a2 (An @z (An @q6 (An @ol (An @setF_enc (An @q7 (@q8))))))))))
   exact WW
 rw[if_neg q7]
 by_cases q8:dir=to
 ·rcases kk with⟨a,a2,k2,k3⟩|⟨a,a2⟩
  ·rw[k3] at h4
   refine Pm Tryz.func191 λhfit=> ?_
   have d1_:=D0 23 7 [] []
   have d2_:=D0 27 9 [] []
   simp[Tryz.f191]
   have s_:=An @q1 (An @q2 (An @q3 (An @a (An @a2 (An @k2 (An @z (An @q6 (An @ol (An @setF_enc (@q8))))))))))
   exact WW
  ·refine Pm Tryz.func191 λhfit=> ?_
   have d1_:=D0 23 7 [] []
   have d2_:=D0 27 9 [] []
   simp[Tryz.f191]
   have s_:=An @q1 (An @q2 (An @q3 (An @a (An @a2 (An @z (An @q6 (An @ol (An @setF_enc (@q8)))))))))
   exact WW
 ·have q9:¬256<=N.1.l.length:=λg=>q7 ⟨q8,g⟩
  rcases kk with⟨a,a2,k2,k3⟩|⟨a,a2⟩
  ·rw[k3] at h4
   refine Pm Tryz.func191 λhfit=> ?_
   have d1_:=D0 23 7 [] []
   have d2_:=D0 27 9 [] []
   simp[Tryz.f191]
   have s_:=An @q1 (An @q2 (An @q3 (An @a (An @a2 (An @k2 (An @z (An @q6 (An @ol (An @setF_enc (An @q8 (@q9)))))))))))
   exact WW
  ·refine Pm Tryz.func191 λhfit=> ?_
   have d1_:=D0 23 7 [] []
   have d2_:=D0 27 9 [] []
   simp[Tryz.f191]
   have s_:=An @q1 (An @q2 (An @q3 (An @a (An @a2 (An @z (An @q6 (An @ol (An @setF_enc (An @q8 (@q9))))))))))
   exact WW
theorem ZT (e:Int):Zd Tryz.prog 185 [I e] (encR (errR e)):=by
 refine Pm Tryz.func185 λhfit=> ?_
 simp[Tryz.f185]
 have s_:=An @errR.eq_1 (@ReplyR.enc.eq_1)
 exact WW
theorem Zdj (l:List Int) (n:Int) (hr:ZQ l=true) (hl:l.length<=1000000):Zd Tryz.prog 49 [enc1 I l,I n] (enc1 I (withI l n)):=by
 rw[<-ZoP hr n]
 obtain⟨F,hF⟩:∃F,F=ZiA l n:=⟨_,rfl⟩
 rw[<-hF]
 refine Pm Tryz.func49 λhfit=> ?_
 simp[Tryz.f49]
 refine AW.loopG (lit:=λ_=>false) (λx:Nat×List Int=>⟨52,pat [(0,enc1 I l),(1,I n),(5,.own 0 x.2.length 0 x.2.length 1),(6,I x.1)],[.cells x.2.length (x.2.map I)]⟩) (λx=>l.length -x.1) (λx=>x.1<=l.length/\x.2.length=x.1/\x.2++ZiA (l.drop x.1) n=F) (0,[]) ?_ ?_ ?_
 ·exact Wk.trans (Wk.ownNil 5 1 (by simp)) Wa
 ·exact⟨by simp,rfl,by simpa using hF.symm⟩
 rintro⟨i,acc⟩ ⟨g1,g2,g3⟩ A hA
 simp only at g1 g2 g3 hA
 have key:¬(∃h:i<l.length,l[i]<n)->ZiA (l.drop i) n=n::(l.drop i).filter λx=> !decide (x=n):=λg=>by
  by_cases hi:i<l.length
  ·rw[List.drop_eq_getElem_cons hi,ZiA,if_neg (λq=>g ⟨hi,q⟩)]
  ·rw[List.drop_eq_nil_of_le (by omega)];rfl
 have hm:acc.length+1<=maxLen:=by simp only[maxLen];omega
 have hm':acc.length+1<=17592186044416:=by omega
 by_cases hc:∃h:i<l.length,l[i]<n
 ·obtain⟨hi,q⟩:=hc
  have hwi:=Zf hi (by simp only[maxLen];omega)
  have hal:(acc++[l[i]]).length=acc.length+1:=by simp
  rw[List.drop_eq_getElem_cons hi,ZiA,if_pos q] at g3
  have s_:=An @hi (An @q (An @hwi (An @hm (@hm'))))
  try simp[s_]
  repeat' ((first|((first|refine Tp ?_|refine Tn ?_|refine T2 ?_ ?_)<;>intro h_ e_ n_)|(exact hA (i+1,acc++[l[i]]) _ Wc ⟨hi,by simp only[hal];omega,by simpa using g3⟩ (by simp only;omega))|rw[Ip]|rw[In]|rw[Fz]|rw[Gz]|fail)<;>first|simp[e_,n_,s_]|simp[s_]|skip)
 have g4:=key hc
 rw[g4] at g3
 have hq:∀h:i<l.length,¬l[i]<n:=λh q=>hc ⟨h,q⟩
 by_cases hi:i<l.length
 case' pos=>have q:=hq hi
 case' neg=>have q:=hi
 all_goals
  have s_:=An @hi (An @q (An @hm (@hm')))
  try simp[s_]
  repeat' ((first|((first|refine Tp ?_|refine Tn ?_|refine T2 ?_ ?_)<;>intro h_ e_ n_)|rw[Ip]|rw[In]|rw[Fz]|rw[Gz]|fail)<;>first|simp[e_,n_,s_]|simp[s_]|skip)
  refine AW.loopG (lit:=λ_=>false) (λx:Nat×List Int=>⟨52,pat [(0,enc1 I l),(1,I n),(5,.own 0 x.2.length 0 x.2.length 1),(6,I x.1)],[.cells x.2.length (x.2.map I)]⟩) (λx=>l.length -x.1) (λx=>x.1<=l.length/\x.2.length<=x.1+1/\x.2++((l.drop x.1).filter λx=> !decide (x=n))=F) (i,acc++[n]) ?_ ?_ ?_
  ·exact Wc
  ·exact⟨g1,by simp[g2],by simpa using g3⟩
  rintro⟨j,out⟩ ⟨k1,k2,k3⟩ B hB
  simp only at k1 k2 k3 hB
  by_cases hj:j<l.length
  case neg=>
   rw[List.drop_eq_nil_of_le (by omega),List.filter_nil,List.append_nil] at k3
   rw[<-k3]
   have s_:=hj
   exact WW
  have hwj:=Zf hj (by simp only[maxLen];omega)
  have hm2:out.length+1<=maxLen:=by simp only[maxLen];omega
  have hm3:out.length+1<=17592186044416:=by omega
  have hal:(out++[l[j]]).length=out.length+1:=by simp
  rw[List.drop_eq_getElem_cons hj] at k3
  by_cases q2:l[j]=n
  ·rw[List.filter_cons_of_neg (by simpa using q2)] at k3
   have s_:=An @hj (An @q2 (@hwj))
   have q1_:=λs w=>hB (j+1,out) s w ⟨hj,by simp only;omega,k3⟩ (by simp only;omega)
   exact WW
  ·rw[List.filter_cons_of_pos (by simpa using q2)] at k3
   have s_:=An @hj (An @q2 (An @hwj (An @hm2 (@hm3))))
   try simp[s_]
   repeat' ((first|((first|refine Tp ?_|refine Tn ?_|refine T2 ?_ ?_)<;>intro h_ e_ n_)|(exact hB (j+1,out++[l[j]]) _ Wc ⟨hj,by simp only[hal];omega,by simpa using k3⟩ (by simp only;omega))|rw[Ip]|rw[In]|rw[Fz]|rw[Gz]|fail)<;>first|simp[e_,n_,s_]|simp[s_]|skip)
theorem ZfB (l:List Int) (f:FSR) (d:Int) (s:ByteArray) (h:Zh f) (hr:ZQ l=true) (hl:l.length<=1000000):Zd Tryz.prog 215 [enc1 I l,encF f,I d,S s] (enc1 I (namedD l f d s)):=by
 have h1:=Zdn f d h
 have h2:=ZbZ (findB f.l d).1.l s
 have h3:=Zdj l (findE (findB f.l d).1.l s).1 hr hl
 unfold namedD
 generalize findB f.l d=N at*
 generalize findE N.1.l s=E at*
 cases q:E.2 with
 |true=>
  rw[if_pos rfl]
  refine Pm Tryz.func215 λhfit=> ?_
  simp[Tryz.f215]
  have s_:=q
  exact WW
 |false=>
  rw[if_neg (by simp)]
  refine Pm Tryz.func215 λhfit=> ?_
  simp[Tryz.f215]
  have s_:=q
  exact WW
theorem Zur (f:FSR) (c:CallR) (h:Zh f):Zd Tryz.prog 183 [encF f,encC c] (enc1 I (looksS f c)):=by
 unfold looksS
 by_cases q:c.kind=15
 ·rw[if_pos q]
  refine Pm Tryz.func183 λhfit=> ?_
  have d1_:=D0 3 7 [] []
  have d2_:=D0 4 26 [] []
  simp[Tryz.f183]
  have s_:=An @q (@CallR.enc.eq_1)
  exact WW
 rw[if_neg q]
 have w1:=Zdj [] c.ino rfl (by simp)
 obtain⟨a1,_⟩:=ZaH (l:=[]) rfl c.ino
 have l1:=Zbu [] c.ino
 have w2:=Zdj (withI [] c.ino) c.to_ a1 (by simp at l1;omega)
 obtain⟨a2,_⟩:=ZaH a1 c.to_
 have l2:=Zbu (withI [] c.ino) c.to_
 generalize withI [] c.ino=L1 at*
 generalize withI L1 c.to_=L2 at*
 simp only[List.length_nil] at l1
 have w3:=ZfB L2 f c.ino c.name h a2 (by omega)
 obtain⟨a3,_⟩:=ZbD a2 f c.ino c.name
 have l3:=Zci L2 f c.ino c.name
 generalize namedD L2 f c.ino c.name=L3 at*
 have w4:=ZfB L3 f c.ino c.name2 h a3 (by omega)
 obtain⟨a4,_⟩:=ZbD a3 f c.ino c.name2
 have l4:=Zci L3 f c.ino c.name2
 generalize namedD L3 f c.ino c.name2=L4 at*
 have w5:=ZfB L4 f c.to_ c.name h a4 (by omega)
 obtain⟨a5,_⟩:=ZbD a4 f c.to_ c.name
 have l5:=Zci L4 f c.to_ c.name
 generalize namedD L4 f c.to_ c.name=L5 at*
 have w6:=ZfB L5 f c.to_ c.name2 h a5 (by omega)
 generalize namedD L5 f c.to_ c.name2=L6 at*
 refine Pm Tryz.func183 λhfit=> ?_
 have d1_:=D0 3 7 [] []
 have d2_:=D0 4 26 [] []
 simp[Tryz.f183]
 have s_:=An @q (@CallR.enc.eq_1)
 have p1_:=w1
 have p2_:=w2
 have p3_:=w3
 have p4_:=w4
 have p5_:=w5
 have p6_:=w6
 exact WW
theorem ZkE (f:FSR) (c:CallR) (h:Zh f) (hb:f.next<4611686018427387904) (hk:c.kind=6\/c.kind=7\/c.kind=8):Zd Tryz.prog 188 [encF f,encC c] (rTup (doS f c)):=by
 have e5:=ZT 5
 have hA:=λn=>radd_ok f c.ino c.name n h hb
 have hE:=ZT
 rcases hk with k|k|k
 ·rw[doS_6 k]
  have h1:=hA ⟨0,1,0,.empty,[]⟩
  unfold addO
  rw[if_neg (by decide)]
  have h2:=hE (addD f c.ino c.name ⟨0,1,0,.empty,[]⟩).2
  generalize addD f c.ino c.name ⟨0,1,0,.empty,[]⟩=A at*
  by_cases q:A.2=0
  ·rw[if_neg (by simpa using q)]
   refine Pm Tryz.func188 λhfit=> ?_
   have d1_:=D0 8 2 [] []
   have d2_:=D0 11 3 [] []
   have d3_:=D0 12 6 [] []
   simp[Tryz.f188]
   have s_:=An @k (An @q (An @CallR.enc.eq_1 (An @NodeR.enc.eq_1 (An @FSR.enc.eq_1 (@ReplyR.enc.eq_1)))))
   have e1_:=D0 12 5 [2] []
   exact WW
  ·rw[if_pos q]
   refine Pm Tryz.func188 λhfit=> ?_
   have d1_:=D0 8 2 [] []
   have d2_:=D0 11 3 [] []
   have d3_:=D0 12 6 [] []
   simp[Tryz.f188]
   have s_:=An @k (An @q (An @CallR.enc.eq_1 (An @NodeR.enc.eq_1 (@FSR.enc.eq_1))))
   exact WW
 ·rw[doS_7 k]
  have h1:=hA ⟨0,2,0,.empty,[]⟩
  unfold addO
  rw[if_neg (by decide)]
  have h2:=hE (addD f c.ino c.name ⟨0,2,0,.empty,[]⟩).2
  generalize addD f c.ino c.name ⟨0,2,0,.empty,[]⟩=A at*
  by_cases q:A.2=0
  ·rw[if_neg (by simpa using q)]
   refine Pm Tryz.func188 λhfit=> ?_
   have d1_:=D0 8 2 [] []
   have d2_:=D0 11 3 [] []
   have d3_:=D0 12 6 [] []
   simp[Tryz.f188]
   have s_:=An @k (An @q (An @CallR.enc.eq_1 (An @NodeR.enc.eq_1 (An @FSR.enc.eq_1 (@ReplyR.enc.eq_1)))))
   have e1_:=D0 12 5 [2] []
   exact WW
  ·rw[if_pos q]
   refine Pm Tryz.func188 λhfit=> ?_
   have d1_:=D0 8 2 [] []
   have d2_:=D0 11 3 [] []
   have d3_:=D0 12 6 [] []
   simp[Tryz.f188]
   have s_:=An @k (An @q (An @CallR.enc.eq_1 (An @NodeR.enc.eq_1 (@FSR.enc.eq_1))))
   exact WW
 ·rw[doS_8 k]
  have h1:=hA ⟨0,3,0,c.text,[]⟩
  unfold addO
  by_cases q0:4096<c.text.size
  ·rw[if_pos q0]
   refine Pm Tryz.func188 λhfit=> ?_
   have d1_:=D0 8 2 [] []
   have d2_:=D0 11 3 [] []
   have d3_:=D0 12 6 [] []
   simp[Tryz.f188]
   have s_:=An @k (An @q0 (An @CallR.enc.eq_1 (An @NodeR.enc.eq_1 (@FSR.enc.eq_1))))
   have p1_:=e5
   exact WW
  rw[if_neg q0]
  have h2:=hE (addD f c.ino c.name ⟨0,3,0,c.text,[]⟩).2
  generalize addD f c.ino c.name ⟨0,3,0,c.text,[]⟩=A at*
  by_cases q:A.2=0
  ·rw[if_neg (by simpa using q)]
   refine Pm Tryz.func188 λhfit=> ?_
   have d1_:=D0 8 2 [] []
   have d2_:=D0 11 3 [] []
   have d3_:=D0 12 6 [] []
   simp[Tryz.f188]
   have s_:=An @k (An @q0 (An @q (An @CallR.enc.eq_1 (An @NodeR.enc.eq_1 (An @FSR.enc.eq_1 (@ReplyR.enc.eq_1))))))
   have e1_:=D0 12 5 [2] []
   exact WW
  ·rw[if_pos q]
   refine Pm Tryz.func188 λhfit=> ?_
   have d1_:=D0 8 2 [] []
   have d2_:=D0 11 3 [] []
   have d3_:=D0 12 6 [] []
   simp[Tryz.f188]
   have s_:=An @k (An @q0 (An @q (An @CallR.enc.eq_1 (An @NodeR.enc.eq_1 (@FSR.enc.eq_1)))))
   exact WW
theorem Zmq (f:FSR) (c:CallR) (h:Zh f) (hb:f.next<4611686018427387904) (hk:c.kind=9\/c.kind=10):Zd Tryz.prog 189 [encF f,encC c] (rTup (doS f c)):=by
 have h1:=ZfA f c.ino c.name h
 have h2:=ZwS f c.ino c.name h (by omega)
 have e8:=ZT 8
 have e9:=ZT 9
 have h3:=ZT (lookD f c.ino c.name).2
 have h4:=ZT (takeD f c.ino c.name).2
 have e:doS f c=removeO f c (decide (c.kind=10)):=by
  rcases hk with k|k
  ·rw[Ztn k,k];rfl
  ·rw[ZlX k,k];rfl
 rw[e]
 unfold removeO
 generalize lookD f c.ino c.name=L at*
 generalize takeD f c.ino c.name=A at*
 by_cases q1:L.2=0
 case neg=>
  rw[if_pos q1]
  refine Pm Tryz.func189 λhfit=> ?_
  have d1_:=D0 3 3 [] []
  have d2_:=D0 5 2 [] []
  have d3_:=D0 7 2 [] []
  have d4_:=D0 9 3 [] []
  simp[Tryz.f189]
  have s_:=An @q1 (@CallR.enc.eq_1)
  exact WW
 rw[if_neg (by simpa using q1)]
 rcases hk with k|k<;>by_cases q2:L.1.kind=2
 all_goals
  simp only[k,q2]
  simp
  refine Pm Tryz.func189 λhfit=> ?_
  have d1_:=D0 3 3 [] []
  have d2_:=D0 5 2 [] []
  have d3_:=D0 7 2 [] []
  have d4_:=D0 9 3 [] []
  simp[Tryz.f189]
  have s_:=An @q1 (An @q2 (An @k (@CallR.enc.eq_1)))
  have p1_:=e8
  have p2_:=e9
  exact WW
theorem Zpk {f:FSR} {ino:Int} (h:(findB f.l ino).2=false) (k:Int):ofD f ino k=((findB f.l ino).1,6):=by unfold ofD;rw[if_pos h]
theorem Zpl {f:FSR} {ino k:Int} (h:(findB f.l ino).2=true) (hk:k≠0/\(findB f.l ino).1.kind≠k):ofD f ino k=((findB f.l ino).1,14):=by
 unfold ofD;rw[if_neg (by rw[h];simp),if_pos hk]
theorem Zus {f:FSR} {ino k:Int} (h:(findB f.l ino).2=true) (hk:k=0\/(findB f.l ino).1.kind=k):ofD f ino k=((findB f.l ino).1,0):=by
 unfold ofD;rw[if_neg (by rw[h];simp),if_neg (λg=>hk.elim g.1 g.2)]
theorem ZfC (f:FSR) (c:CallR) (h:Zh f) (hb:f.next<4611686018427387904) (hc:c.wf) (hk:c.kind=3\/c.kind=4\/c.kind=5\/c.kind=13):Zd Tryz.prog 187 [encF f,encC c] (rTup (doS f c)):=by
 have h1:=Zdn f c.ino h
 have e6:=ZT 6
 have e14:=ZT 14
 cases q1:(findB f.l c.ino).2 with
 |false=>
  have e:doS f c=(f,errR 6):=by
   have e3:=Zpk q1
   rcases hk with k|k|k|k
   ·rw[ZlW k,e3];rfl
   ·rw[Znw k];unfold textD;rw[e3];rfl
   ·rw[Znx k];unfold textD;rw[e3];rfl
   ·rw[ZhP k,e3];rfl
  rw[e]
  generalize findB f.l c.ino=N at*
  refine Pm Tryz.func187 λhfit=> ?_
  have d1_:=D0 3 2 [] []
  have d2_:=D0 6 2 [] []
  have d3_:=D0 7 6 [] []
  have d4_:=D0 9 2 [] []
  have d5_:=D0 19 3 [] []
  have d6_:=D0 21 6 [] []
  simp[Tryz.f187]
  have s_:=An @q1 (@CallR.enc.eq_1)
  have p1_:=e6
  exact WW
 |true=>
 by_cases k13:c.kind=13
 ·rw[ZhP k13]
  by_cases q2:(findB f.l c.ino).1.kind=3
  ·rw[Zus q1 (.inr q2)]
   have e:toldR ⟨0,0,0,0,(findB f.l c.ino).1.text,[]⟩ 0=⟨0,0,0,0,(findB f.l c.ino).1.text,[]⟩:=rfl
   simp only[e]
   generalize findB f.l c.ino=N at*
   refine Pm Tryz.func187 λhfit=> ?_
   have d1_:=D0 3 2 [] []
   have d2_:=D0 6 2 [] []
   have d3_:=D0 7 6 [] []
   have d4_:=D0 9 2 [] []
   have d5_:=D0 19 3 [] []
   have d6_:=D0 21 6 [] []
   simp[Tryz.f187]
   have s_:=An @q1 (An @k13 (An @q2 (An @CallR.enc.eq_1 (@ReplyR.enc.eq_1))))
   have e1_:=D0 7 5 [2] []
   have p1_:=e14
   exact WW
  ·rw[Zpl q1 ⟨by decide,q2⟩]
   have e:toldR ⟨0,0,0,0,(findB f.l c.ino).1.text,[]⟩ 14=errR 14:=rfl
   simp only[e]
   generalize findB f.l c.ino=N at*
   refine Pm Tryz.func187 λhfit=> ?_
   have d1_:=D0 3 2 [] []
   have d2_:=D0 6 2 [] []
   have d3_:=D0 7 6 [] []
   have d4_:=D0 9 2 [] []
   have d5_:=D0 19 3 [] []
   have d6_:=D0 21 6 [] []
   simp[Tryz.f187]
   have s_:=An @q1 (An @k13 (An @q2 (@CallR.enc.eq_1)))
   have p1_:=e14
   exact WW
 have hk':c.kind=3\/c.kind=4\/c.kind=5:=by omega
 by_cases q2:(findB f.l c.ino).1.kind=1
 case neg=>
  have e:doS f c=(f,errR 14):=by
   have e3:=Zpl (k:=1) q1 ⟨by decide,q2⟩
   rcases hk' with k|k|k
   ·rw[ZlW k,e3];rfl
   ·rw[Znw k];unfold textD;rw[e3];rfl
   ·rw[Znx k];unfold textD;rw[e3];rfl
  rw[e]
  generalize findB f.l c.ino=N at*
  refine Pm Tryz.func187 λhfit=> ?_
  have d1_:=D0 3 2 [] []
  have d2_:=D0 6 2 [] []
  have d3_:=D0 7 6 [] []
  have d4_:=D0 9 2 [] []
  have d5_:=D0 19 3 [] []
  have d6_:=D0 21 6 [] []
  simp[Tryz.f187]
  have s_:=An @q1 (An @q2 (An @k13 (@CallR.enc.eq_1)))
  have p1_:=e14
  exact WW
 have e3:=Zus q1 (.inr q2)
 have htx:=h.text c.ino
 have hnn:=h.num c.ino
 have hP:=λt:List UInt8=>Zrj f {(findB f.l c.ino).1 with text:=T t} h ⟨by simp only;omega,by simp only;omega⟩ (by simp only;omega)
 have hcu:=rcut_ok (bs (findB f.l c.ino).1.text) c.many hc.2.2.2.2.1 (by rw[Zgv];omega)
 rw[T_bs] at hcu
 rcases hk' with k|k|k
 ·rw[ZlW k,e3]
  have h2:=ZwE (bs (findB f.l c.ino).1.text) c.at_ c.many hc.2.2.2.1 hc.2.2.2.2.1 (by rw[Zgv];omega)
  rw[T_bs] at h2
  rw[if_neg (by simp),Ztt]
  clear hP hcu
  generalize findB f.l c.ino=N at*
  generalize readT (bs N.1.text) c.at_ c.many=Q at*
  refine Pm Tryz.func187 λhfit=> ?_
  have d1_:=D0 3 2 [] []
  have d2_:=D0 6 2 [] []
  have d3_:=D0 7 6 [] []
  have d4_:=D0 9 2 [] []
  have d5_:=D0 19 3 [] []
  have d6_:=D0 21 6 [] []
  simp[Tryz.f187]
  have s_:=An @q1 (An @q2 (An @k (An @CallR.enc.eq_1 (@ReplyR.enc.eq_1))))
  exact WW
 ·have h2:=Zuf (bs (findB f.l c.ino).1.text) c.at_ (bs c.text) hc.2.2.2.1 (by rw[Zgv];omega) (by have:=hc.2.2.2.2.2.2.2;simp only[maxLen] at this;rw[Zgv];omega)
  rw[T_bs,T_bs] at h2
  have h3:=hP (writeT (bs (findB f.l c.ino).1.text) c.at_ (bs c.text)).1
  rw[Znw k]
  unfold textD
  rw[e3]
  simp only
  clear hP e3
  generalize findB f.l c.ino=N at*
  generalize writeT (bs N.1.text) c.at_ (bs c.text)=Q at*
  generalize cutT (bs N.1.text) c.many=Cu at*
  generalize putB f {N.1 with text:=T Q.1}=K at*
  have h4:=ZT Q.2
  by_cases q3:Q.2=0
  ·simp[q3,toldR]
   refine Pm Tryz.func187 λhfit=> ?_
   have d1_:=D0 3 2 [] []
   have d2_:=D0 6 2 [] []
   have d3_:=D0 7 6 [] []
   have d4_:=D0 9 2 [] []
   have d5_:=D0 19 3 [] []
   have d6_:=D0 21 6 [] []
   simp[Tryz.f187]
   have s_:=An @q1 (An @q2 (An @k (An @q3 (An @CallR.enc.eq_1 (@ReplyR.enc.eq_1)))))
   have e1_:=D0 21 5 [2] []
   have p1_:=hcu
   exact WW
  ·simp[q3,toldR]
   refine Pm Tryz.func187 λhfit=> ?_
   have d1_:=D0 3 2 [] []
   have d2_:=D0 6 2 [] []
   have d3_:=D0 7 6 [] []
   have d4_:=D0 9 2 [] []
   have d5_:=D0 19 3 [] []
   have d6_:=D0 21 6 [] []
   simp[Tryz.f187]
   have s_:=An @q1 (An @q2 (An @k (An @q3 (An @CallR.enc.eq_1 (@ReplyR.enc.eq_1)))))
   have p1_:=hcu
   exact WW
 ·have h3:=hP (cutT (bs (findB f.l c.ino).1.text) c.many).1
  rw[Znx k]
  unfold textD
  rw[e3]
  simp only
  clear hP e3
  generalize findB f.l c.ino=N at*
  generalize cutT (bs N.1.text) c.many=Q at*
  generalize putB f {N.1 with text:=T Q.1}=K at*
  have h4:=ZT Q.2
  by_cases q3:Q.2=0
  ·simp[q3,errR]
   refine Pm Tryz.func187 λhfit=> ?_
   have d1_:=D0 3 2 [] []
   have d2_:=D0 6 2 [] []
   have d3_:=D0 7 6 [] []
   have d4_:=D0 9 2 [] []
   have d5_:=D0 19 3 [] []
   have d6_:=D0 21 6 [] []
   simp[Tryz.f187]
   have s_:=An @q1 (An @q2 (An @k (An @q3 (An @CallR.enc.eq_1 (@ReplyR.enc.eq_1)))))
   have e1_:=D0 21 5 [2] []
   have p1_:=hcu
   exact WW
  ·simp[q3]
   refine Pm Tryz.func187 λhfit=> ?_
   have d1_:=D0 3 2 [] []
   have d2_:=D0 6 2 [] []
   have d3_:=D0 7 6 [] []
   have d4_:=D0 9 2 [] []
   have d5_:=D0 19 3 [] []
   have d6_:=D0 21 6 [] []
   simp[Tryz.f187]
   have s_:=An @q1 (An @q2 (An @k (An @q3 (An @CallR.enc.eq_1 (@ReplyR.enc.eq_1)))))
   have p1_:=hcu
   exact WW
theorem rdo_ok (f:FSR) (c:CallR) (h:Zh f) (T:ZI f) (hb:f.next<4611686018427387904) (hc:c.wf):Zd Tryz.prog 154 [encF f,encC c] (rTup (doS f c)):=by
 rcases kind_cases c.kind with k|k|k|k|k|k|k|k|k|k|k|k|k|k|k|k
 ·have k1:¬c.kind=1:=by omega
  have k2:¬c.kind=2:=by omega
  have k3:¬c.kind=3:=by omega
  have k4:¬c.kind=4:=by omega
  have k5:¬c.kind=5:=by omega
  have k6:¬c.kind=6:=by omega
  have k7:¬c.kind=7:=by omega
  have k8:¬c.kind=8:=by omega
  have k9:¬c.kind=9:=by omega
  have k10:¬c.kind=10:=by omega
  have k11:¬c.kind=11:=by omega
  have k12:¬c.kind=12:=by omega
  have k13:¬c.kind=13:=by omega
  have k14:¬c.kind=14:=by omega
  have k15:¬c.kind=15:=by omega
  have h1:=ZT 1
  rw[Zej k]
  refine Pm Tryz.func154 λhfit=> ?_
  have d1_:=D0 4 7 [] []
  have d2_:=D0 8 2 [] []
  have d3_:=D0 9 10 [] []
  have d4_:=D0 24 3 [] []
  have d5_:=D0 27 3 [] []
  have d6_:=D0 30 8 [] []
  have d7_:=D0 36 11 [] []
  have d8_:=D0 37 4 [] []
  have d9_:=D0 38 2 [] []
  simp[Tryz.f154]
  have s_:=An @k1 (An @k2 (An @k3 (An @k4 (An @k5 (An @k6 (An @k7 (An @k8 (An @k9 (An @k10 (An @k11 (An @k12 (An @k13 (An @k14 (An @k15 (@CallR.enc.eq_1)))))))))))))))
  exact WW
 ·have h1:=ZfA f c.ino c.name h
  rw[Zqy k,Zts]
  generalize lookD f c.ino c.name=L at*
  refine Pm Tryz.func154 λhfit=> ?_
  have d1_:=D0 4 7 [] []
  have d2_:=D0 8 2 [] []
  have d3_:=D0 9 10 [] []
  have d4_:=D0 24 3 [] []
  have d5_:=D0 27 3 [] []
  have d6_:=D0 30 8 [] []
  have d7_:=D0 36 11 [] []
  have d8_:=D0 37 4 [] []
  have d9_:=D0 38 2 [] []
  simp[Tryz.f154]
  have s_:=An @k (An @CallR.enc.eq_1 (@ReplyR.enc.eq_1))
  have e1_:=D0 4 6 [2] []
  exact WW
 ·have h1:=Zdn f c.ino h
  have h2:=ZtQ (findB f.l c.ino).1
  have h3:=ZT 6
  rw[Zqz k]
  cases q:(findB f.l c.ino).2 with
  |false=>
   rw[Zpk q]
   have e:toldR ⟨0,(findB f.l c.ino).1.kind,(findB f.l c.ino).1.links,sizeS (findB f.l c.ino).1,.empty,[]⟩ 6=errR 6:=rfl
   simp only[e]
   generalize findB f.l c.ino=N at*
   refine Pm Tryz.func154 λhfit=> ?_
   have d1_:=D0 4 7 [] []
   have d2_:=D0 8 2 [] []
   have d3_:=D0 9 10 [] []
   have d4_:=D0 24 3 [] []
   have d5_:=D0 27 3 [] []
   have d6_:=D0 30 8 [] []
   have d7_:=D0 36 11 [] []
   have d8_:=D0 37 4 [] []
   have d9_:=D0 38 2 [] []
   simp[Tryz.f154]
   have s_:=An @k (An @q (@CallR.enc.eq_1))
   exact WW
  |true=>
   rw[Zus q (.inl rfl)]
   have e:toldR ⟨0,(findB f.l c.ino).1.kind,(findB f.l c.ino).1.links,sizeS (findB f.l c.ino).1,.empty,[]⟩ 0=⟨0,(findB f.l c.ino).1.kind,(findB f.l c.ino).1.links,sizeS (findB f.l c.ino).1,.empty,[]⟩:=rfl
   simp only[e]
   generalize findB f.l c.ino=N at*
   refine Pm Tryz.func154 λhfit=> ?_
   have d1_:=D0 4 7 [] []
   have d2_:=D0 8 2 [] []
   have d3_:=D0 9 10 [] []
   have d4_:=D0 24 3 [] []
   have d5_:=D0 27 3 [] []
   have d6_:=D0 30 8 [] []
   have d7_:=D0 36 11 [] []
   have d8_:=D0 37 4 [] []
   have d9_:=D0 38 2 [] []
   simp[Tryz.f154]
   have s_:=An @k (An @q (An @CallR.enc.eq_1 (@ReplyR.enc.eq_1)))
   have e1_:=D0 9 9 [2] []
   exact WW
 ·have h1:=ZfC f c h hb hc (.inl k)
  generalize doS f c=X at*
  refine Pm Tryz.func154 λhfit=> ?_
  have d1_:=D0 4 7 [] []
  have d2_:=D0 8 2 [] []
  have d3_:=D0 9 10 [] []
  have d4_:=D0 24 3 [] []
  have d5_:=D0 27 3 [] []
  have d6_:=D0 30 8 [] []
  have d7_:=D0 36 11 [] []
  have d8_:=D0 37 4 [] []
  have d9_:=D0 38 2 [] []
  simp[Tryz.f154]
  have s_:=k
  exact WW
 ·have h1:=ZfC f c h hb hc (.inr (.inl k))
  generalize doS f c=X at*
  refine Pm Tryz.func154 λhfit=> ?_
  have d1_:=D0 4 7 [] []
  have d2_:=D0 8 2 [] []
  have d3_:=D0 9 10 [] []
  have d4_:=D0 24 3 [] []
  have d5_:=D0 27 3 [] []
  have d6_:=D0 30 8 [] []
  have d7_:=D0 36 11 [] []
  have d8_:=D0 37 4 [] []
  have d9_:=D0 38 2 [] []
  simp[Tryz.f154]
  have s_:=k
  exact WW
 ·have h1:=ZfC f c h hb hc (.inr (.inr (.inl k)))
  generalize doS f c=X at*
  refine Pm Tryz.func154 λhfit=> ?_
  have d1_:=D0 4 7 [] []
  have d2_:=D0 8 2 [] []
  have d3_:=D0 9 10 [] []
  have d4_:=D0 24 3 [] []
  have d5_:=D0 27 3 [] []
  have d6_:=D0 30 8 [] []
  have d7_:=D0 36 11 [] []
  have d8_:=D0 37 4 [] []
  have d9_:=D0 38 2 [] []
  simp[Tryz.f154]
  have s_:=k
  exact WW
 ·have h1:=ZkE f c h hb (.inl k)
  generalize doS f c=X at*
  refine Pm Tryz.func154 λhfit=> ?_
  have d1_:=D0 4 7 [] []
  have d2_:=D0 8 2 [] []
  have d3_:=D0 9 10 [] []
  have d4_:=D0 24 3 [] []
  have d5_:=D0 27 3 [] []
  have d6_:=D0 30 8 [] []
  have d7_:=D0 36 11 [] []
  have d8_:=D0 37 4 [] []
  have d9_:=D0 38 2 [] []
  simp[Tryz.f154]
  have s_:=k
  exact WW
 ·have h1:=ZkE f c h hb (.inr (.inl k))
  generalize doS f c=X at*
  refine Pm Tryz.func154 λhfit=> ?_
  have d1_:=D0 4 7 [] []
  have d2_:=D0 8 2 [] []
  have d3_:=D0 9 10 [] []
  have d4_:=D0 24 3 [] []
  have d5_:=D0 27 3 [] []
  have d6_:=D0 30 8 [] []
  have d7_:=D0 36 11 [] []
  have d8_:=D0 37 4 [] []
  have d9_:=D0 38 2 [] []
  simp[Tryz.f154]
  have s_:=k
  exact WW
 ·have h1:=ZkE f c h hb (.inr (.inr k))
  generalize doS f c=X at*
  refine Pm Tryz.func154 λhfit=> ?_
  have d1_:=D0 4 7 [] []
  have d2_:=D0 8 2 [] []
  have d3_:=D0 9 10 [] []
  have d4_:=D0 24 3 [] []
  have d5_:=D0 27 3 [] []
  have d6_:=D0 30 8 [] []
  have d7_:=D0 36 11 [] []
  have d8_:=D0 37 4 [] []
  have d9_:=D0 38 2 [] []
  simp[Tryz.f154]
  have s_:=k
  exact WW
 ·have h1:=Zmq f c h hb (.inl k)
  generalize doS f c=X at*
  refine Pm Tryz.func154 λhfit=> ?_
  have d1_:=D0 4 7 [] []
  have d2_:=D0 8 2 [] []
  have d3_:=D0 9 10 [] []
  have d4_:=D0 24 3 [] []
  have d5_:=D0 27 3 [] []
  have d6_:=D0 30 8 [] []
  have d7_:=D0 36 11 [] []
  have d8_:=D0 37 4 [] []
  have d9_:=D0 38 2 [] []
  simp[Tryz.f154]
  have s_:=k
  exact WW
 ·have h1:=Zmq f c h hb (.inr k)
  generalize doS f c=X at*
  refine Pm Tryz.func154 λhfit=> ?_
  have d1_:=D0 4 7 [] []
  have d2_:=D0 8 2 [] []
  have d3_:=D0 9 10 [] []
  have d4_:=D0 24 3 [] []
  have d5_:=D0 27 3 [] []
  have d6_:=D0 30 8 [] []
  have d7_:=D0 36 11 [] []
  have d8_:=D0 37 4 [] []
  have d9_:=D0 38 2 [] []
  simp[Tryz.f154]
  have s_:=k
  exact WW
 ·have h1:=ZwR f c.ino c.name c.to_ h hb
  rw[ZlY k]
  generalize giveD f c.ino c.name c.to_=A at*
  have h2:=ZT A.2
  refine Pm Tryz.func154 λhfit=> ?_
  have d1_:=D0 4 7 [] []
  have d2_:=D0 8 2 [] []
  have d3_:=D0 9 10 [] []
  have d4_:=D0 24 3 [] []
  have d5_:=D0 27 3 [] []
  have d6_:=D0 30 8 [] []
  have d7_:=D0 36 11 [] []
  have d8_:=D0 37 4 [] []
  have d9_:=D0 38 2 [] []
  simp[Tryz.f154]
  have s_:=An @k (@CallR.enc.eq_1)
  exact WW
 ·have h1:=ZwT f c.ino c.name c.to_ c.name2 h T hb
  rw[Zto k]
  generalize moveD f c.ino c.name c.to_ c.name2=A at*
  have h2:=ZT A.2
  refine Pm Tryz.func154 λhfit=> ?_
  have d1_:=D0 4 7 [] []
  have d2_:=D0 8 2 [] []
  have d3_:=D0 9 10 [] []
  have d4_:=D0 24 3 [] []
  have d5_:=D0 27 3 [] []
  have d6_:=D0 30 8 [] []
  have d7_:=D0 36 11 [] []
  have d8_:=D0 37 4 [] []
  have d9_:=D0 38 2 [] []
  simp[Tryz.f154]
  have s_:=An @k (@CallR.enc.eq_1)
  exact WW
 ·have h1:=ZfC f c h hb hc (.inr (.inr (.inr k)))
  generalize doS f c=X at*
  refine Pm Tryz.func154 λhfit=> ?_
  have d1_:=D0 4 7 [] []
  have d2_:=D0 8 2 [] []
  have d3_:=D0 9 10 [] []
  have d4_:=D0 24 3 [] []
  have d5_:=D0 27 3 [] []
  have d6_:=D0 30 8 [] []
  have d7_:=D0 36 11 [] []
  have d8_:=D0 37 4 [] []
  have d9_:=D0 38 2 [] []
  simp[Tryz.f154]
  have s_:=k
  exact WW
 ·have h1:=Zio f c.ino h
  have hrow:=h.dirRow c.ino
  rw[Zjo k,Zwl]
  generalize dirD f c.ino=D at*
  have h2:=ZtZ D.1.l (by have:=hrow.len;omega)
  generalize D.1.l.map (·.name)=M at*
  refine Pm Tryz.func154 λhfit=> ?_
  have d1_:=D0 4 7 [] []
  have d2_:=D0 8 2 [] []
  have d3_:=D0 9 10 [] []
  have d4_:=D0 24 3 [] []
  have d5_:=D0 27 3 [] []
  have d6_:=D0 30 8 [] []
  have d7_:=D0 36 11 [] []
  have d8_:=D0 37 4 [] []
  have d9_:=D0 38 2 [] []
  simp[Tryz.f154]
  have s_:=An @k (An @CallR.enc.eq_1 (@ReplyR.enc.eq_1))
  have e1_:=D0 30 7 [2] []
  exact WW
 ·rw[ZoO k]
  have hlen:=h.len
  have htx:∀n∈f.l,n.text.size<=4096:=λn hn=>((Zp n).1 (h.ok n hn)).size
  clear h T hb
  obtain⟨l,next⟩:=f
  simp only at*
  refine Pm Tryz.func154 λhfit=> ?_
  have d1_:=D0 4 7 [] []
  have d2_:=D0 8 2 [] []
  have d3_:=D0 9 10 [] []
  have d4_:=D0 24 3 [] []
  have d5_:=D0 27 3 [] []
  have d6_:=D0 30 8 [] []
  have d7_:=D0 36 11 [] []
  have d8_:=D0 37 4 [] []
  have d9_:=D0 38 2 [] []
  simp[Tryz.f154,FSR.enc]
  have s_:=An @k (An @CallR.enc.eq_1 (@FSR.enc.eq_1))
  try simp[s_]
  repeat' ((first|((first|refine Tp ?_|refine Tn ?_|refine T2 ?_ ?_)<;>intro h_ e_ n_)|refine Dg 4 7 [] [] ?_|refine Dg 8 2 [] [] ?_|refine Dg 9 10 [] [] ?_|refine Dg 24 3 [] [] ?_|refine Dg 27 3 [] [] ?_|refine Dg 30 8 [] [] ?_|refine Dg 36 11 [] [] ?_|refine Dg 37 4 [] [] ?_|refine Dg 38 2 [] [] ?_|rw[Ip]|rw[In]|rw[Fz]|rw[Gz]|fail)<;>first|simp[e_,n_,s_]|simp[s_]|skip)
  refine AW.loopG (lit:=λ_=>false) (λi:Nat=>⟨161,pat [(2,.ptr 0 0 0),(4,.ptr 2 0 0),(5,.ptr 3 0 0),(16,.ptr 4 0 0),(17,I i)],[.cells 0 [encL NodeR.enc l,I next],.cells 0 c.enc,.cells 0 [.sl true 0 [],I 0],.cells 0 [I 0,I 0,I 0,I 0,S .empty,.sl true 0 []],.cells 0 [I 0,I l.length,I (sizesF (l.take i)),I 0,S .empty,.sl true 0 []]]⟩) (λi=>l.length -i) (λi=>i<=l.length) 0 ?_ ?_ ?_
  ·exact Wk.at _ rfl (by simp[sizesF,CallR.enc,k]) (by simp)
  ·simp
  rintro i g1 A hA
  by_cases hi:i<l.length
  case neg=>
   have e:List.take i l=l:=List.take_of_length_le (by omega)
   have s_:=An @hi (An @ReplyR.enc.eq_1 (An @FSR.enc.eq_1 (@e)))
   have e1_:=D0 37 3 [2] []
   exact WW
  have hwi:=Zf hi (by simp only[maxLen];omega)
  have g2:=Zil (l.take (i+1)) λn hn=>htx n (List.mem_of_mem_take hn)
  have g3:sizesF (l.take (i+1))=sizesF (l.take i)+l[i].text.size:=by
   rw[List.take_succ_eq_append_getElem hi]
   simp only[sizesF,List.map_append,List.sum_append,List.map_cons,List.map_nil,List.sum_cons,List.sum_nil]
   omega
  have hw2:IntKind.i64.wrap (sizesF (l.take i)+(l[i].text.size:Int))=sizesF (l.take (i+1)):=by
   rw[<-g3,Zg (by omega) (by simp at g2;omega)]
  have s_:=An @hi (An @hwi (@hw2))
  have q1_:=λs w=>hA (i+1) s w hi (by omega)
  exact WW
theorem Zut (a b:ChangeR):a=b↔a.node=b.node/\a.ino=b.ino/\a.gone=b.gone:=by
 cases a;cases b;simp only[ChangeR.mk.injEq];exact⟨λh=>⟨h.2.2,h.1,h.2.1⟩,λh=>⟨h.2.1,h.2.2,h.1⟩⟩
theorem Zuu (a b:List ChangeR):Zd Tryz.prog 21 [encL ChangeR.enc a,encL ChangeR.enc b] (B (decide (a=b))):=by
 refine Pm Tryz.func21 λhfit=> ?_
 have d1_:=D0 6 12 [] []
 have d2_:=D0 7 28 [] []
 simp at hfit
 simp[Tryz.f21]
 by_cases hl:a.length=b.length
 case neg=>
  have:¬a=b:=λe=>hl (by rw[e])
  simp[hl,this]
 simp[hl]
 refine AW.loopG (lit:=λ_=>false) (λi:Nat=>⟨57,pat [(0,encL ChangeR.enc a),(1,encL ChangeR.enc b),(5,I i)],[]⟩) (λi=>b.length -i) (λi=>i<=b.length/\a.take i=b.take i) 0 ?_ ?_ ?_
 ·exact Wz
 ·simp
 rintro i ⟨hi,ht⟩ A hA
 by_cases h:i<b.length
 case neg=>
  have:=Zdx ht (by omega) (by omega)
  subst this
  have s_:=h
  exact WW
 have ha:i<a.length:=by omega
 have hwi:=Zf ha hfit.1.1
 have h1:=rnsame_ok a[i].node b[i].node
 have hno:¬a[i]=b[i]->¬a=b:=λq e=>by subst e;exact q rfl
 have hce:=Zut a[i] b[i]
 by_cases q1:a[i].node=b[i].node
 case neg=>
  have hab:=hno λe=>q1 (hce.1 e).1
  have s_:=An @h (An @ha (An @q1 (An @hl ((eq_false hab)))))
  exact WW
 by_cases q2:a[i].ino=b[i].ino
 case neg=>
  have hab:=hno λe=>q2 (hce.1 e).2.1
  have s_:=An @h (An @ha (An @q1 (An @q2 (An @hl ((eq_false hab))))))
  exact WW
 by_cases q3:a[i].gone=b[i].gone
 case neg=>
  have hab:=hno λe=>q3 (hce.1 e).2.2
  have s_:=An @h (An @ha (An @q1 (An @q2 (An @q3 (An @hl ((eq_false hab)))))))
  exact WW
 have hs:=take_step ht ha h (hce.2 ⟨q1,q2,q3⟩)
 have s_:=An @h (An @ha (An @q1 (An @q2 (An @q3 (An @hl (@hwi))))))
 try simp[s_]
 repeat' ((first|((first|refine Tp ?_|refine Tn ?_|refine T2 ?_ ?_)<;>intro h_ e_ n_)|(exact hA (i+1) _ Wz ⟨h,hs⟩ (by omega))|refine Pg h1 ?_|refine Dg 6 12 [] [] ?_|refine Dg 7 28 [] [] ?_|rw[Ip]|rw[In]|rw[Fz]|rw[Gz]|fail)<;>first|simp[e_,n_,s_]|simp[s_]|skip)
theorem ZeO (a b:FSR) (ha:Zh a) (hb:Zh b):Zd Tryz.prog 19 [encF a,encF b] (encL ChangeR.enc (changesS a b)):=by
 have hal:=ha.len
 have hbl:=hb.len
 have fa:=λk=>Zdn a k ha
 have fb:=λk=>Zdn b k hb
 have hg:∀k,changeS a b k=changeS a b k:=λk=>rfl
 clear ha hb
 unfold changesS
 obtain⟨la,na⟩:=a
 obtain⟨lb,nb⟩:=b
 simp only at*
 refine Pm Tryz.func19 λhfit=> ?_
 have d1_:=D0 20 9 [] []
 simp[Tryz.f19,FSR.enc]
 refine AW.loopG (lit:=λ_=>false) (λx:Nat×List Int=>⟨98,pat [(2,.ptr 0 0 0),(3,.ptr 1 0 0),(5,enc1 I x.2),(6,I x.1)],[.cells 0 [encL NodeR.enc la,I na],.cells 0 [encL NodeR.enc lb,I nb]]⟩) (λx=>la.length -x.1) (λx=>x.1<=la.length/\ZQ x.2=true/\x.2.length<=x.1/\x.2=((la.take x.1).map (·.ino)).foldl withI []) (0,[]) ?_ ?_ ?_
 ·exact Wk.cutLe _ rfl (by simp) (by simp) (by simp) (by simp[le.refl,le.loose,enc1])
 ·exact⟨by simp,rfl,by simp,by simp⟩
 rintro⟨i,acc⟩ ⟨g1,g2,g3,g4⟩ A hA
 simp only at g1 g2 g3 g4 hA
 by_cases hi:i<la.length
 case pos=>
  have hwi:=Zf hi (by simp only[maxLen];omega)
  have w:=Zdj acc la[i].ino g2 (by omega)
  obtain⟨r1,_⟩:=ZaH g2 la[i].ino
  have r2:=Zbu acc la[i].ino
  have r3:withI acc la[i].ino=((la.take (i+1)).map (·.ino)).foldl withI []:=by
   rw[List.take_succ_eq_append_getElem hi,List.map_append,List.foldl_append,<-g4];rfl
  generalize withI acc la[i].ino=acc2 at*
  have s_:=An @hi (@hwi)
  have q1_:=λs w=>hA (i+1,acc2) s w ⟨hi,r1,by simp only;omega,r3⟩ (by simp only;omega)
  have p1_:=w
  exact WW
 have e1:la.take i=la:=List.take_of_length_le (by omega)
 rw[e1] at g4
 have s_:=hi
 try simp[s_]
 repeat' ((first|((first|refine Tp ?_|refine Tn ?_|refine T2 ?_ ?_)<;>intro h_ e_ n_)|refine Dg 20 9 [] [] ?_|rw[Ip]|rw[In]|rw[Fz]|rw[Gz]|fail)<;>first|simp[e_,n_,s_]|simp[s_]|skip)
 clear hA hi A
 refine AW.loopG (lit:=λ_=>false) (λx:Nat×List Int=>⟨98,pat [(2,.ptr 0 0 0),(3,.ptr 1 0 0),(5,enc1 I x.2),(7,I x.1)],[.cells 0 [encL NodeR.enc la,I na],.cells 0 [encL NodeR.enc lb,I nb]]⟩) (λx=>lb.length -x.1) (λx=>x.1<=lb.length/\ZQ x.2=true/\x.2.length<=la.length+x.1/\x.2=((lb.take x.1).map (·.ino)).foldl withI acc) (0,acc) ?_ ?_ ?_
 ·exact Wc
 ·exact⟨by simp,g2,by simp only;omega,by simp⟩
 rintro⟨j,all⟩ ⟨k1,k2,k3,k4⟩ A hA
 simp only at k1 k2 k3 k4 hA
 by_cases hj:j<lb.length
 case pos=>
  have hwi:=Zf hj (by simp only[maxLen];omega)
  have w:=Zdj all lb[j].ino k2 (by omega)
  obtain⟨r1,_⟩:=ZaH k2 lb[j].ino
  have r2:=Zbu all lb[j].ino
  have r3:withI all lb[j].ino=((lb.take (j+1)).map (·.ino)).foldl withI acc:=by
   rw[List.take_succ_eq_append_getElem hj,List.map_append,List.foldl_append,<-k4];rfl
  generalize withI all lb[j].ino=acc2 at*
  have s_:=An @hj (@hwi)
  have q1_:=λs w=>hA (j+1,acc2) s w ⟨hj,r1,by simp only;omega,r3⟩ (by simp only;omega)
  have p1_:=w
  exact WW
 have e2:lb.take j=lb:=List.take_of_length_le (by omega)
 rw[e2,g4,<-List.foldl_append] at k4
 have k4:all=numsS (la.map (·.ino)++lb.map (·.ino)):=k4
 rw[<-k4]
 have s_:=hj
 try simp[s_]
 repeat' ((first|((first|refine Tp ?_|refine Tn ?_|refine T2 ?_ ?_)<;>intro h_ e_ n_)|refine Dg 20 9 [] [] ?_|rw[Ip]|rw[In]|rw[Fz]|rw[Gz]|fail)<;>first|simp[e_,n_,s_]|simp[s_]|skip)
 clear hA hj A e1 e2 g4
 refine AW.loopG (lit:=λ_=>false) (λx:Nat×List ChangeR=>⟨98,pat [(2,.ptr 0 0 0),(3,.ptr 1 0 0),(5,enc1 I all),(8,.own 2 x.2.length 0 x.2.length 7),(9,I x.1)],[.cells 0 [encL NodeR.enc la,I na],.cells 0 [encL NodeR.enc lb,I nb],.cells x.2.length (x.2.flatMap ChangeR.enc)]⟩) (λx=>all.length -x.1)
  (λx=>x.1<=all.length/\x.2.length<=x.1/\x.2++(all.drop x.1).flatMap (changeS ⟨la,na⟩ ⟨lb,nb⟩)=all.flatMap (changeS ⟨la,na⟩ ⟨lb,nb⟩)) (0,[]) ?_ ?_ ?_
 ·exact Wk.trans (Wk.ownNil 8 7 (by simp)) Wa
 ·simp
 rintro⟨i,out⟩ ⟨m1,m2,m3⟩ A hA
 simp only at m1 m2 m3 hA
 by_cases hi:i<all.length
 case neg=>
  rw[List.drop_eq_nil_of_le (by omega),List.flatMap_nil,List.append_nil] at m3
  rw[<-m3]
  have s_:=hi
  exact WW
 rw[List.drop_eq_getElem_cons hi,List.flatMap_cons] at m3
 have hwi:=Zf hi (by simp only[maxLen];omega)
 have hm:out.length+1<=maxLen:=by simp only[maxLen];omega
 have hm':out.length+1<=17592186044416:=by omega
 have f1:Zd Tryz.prog 50 [.agg [encL NodeR.enc la,I na],I all[i]] (.tup [encN (findB la all[i]).1,B (findB la all[i]).2]):=fa all[i]
 have f2:Zd Tryz.prog 50 [.agg [encL NodeR.enc lb,I nb],I all[i]] (.tup [encN (findB lb all[i]).1,B (findB lb all[i]).2]):=fb all[i]
 have f3:=rnsame_ok (findB la all[i]).1 (findB lb all[i]).1
 have hal2:∀c:ChangeR,(out++[c]).length=out.length+1:=λc=>by simp
 generalize hk:all[i]=k at*
 have hcs:∀v:List ChangeR,changeS ⟨la,na⟩ ⟨lb,nb⟩ k=v->out++(v++(all.drop (i+1)).flatMap (changeS ⟨la,na⟩ ⟨lb,nb⟩))=all.flatMap (changeS ⟨la,na⟩ ⟨lb,nb⟩):=λv e=>by rw[<-e];exact m3
 obtain⟨rc,hrc⟩:∃rc,rc=changeS ⟨la,na⟩ ⟨lb,nb⟩ k:=⟨_,rfl⟩
 have hcs:=hcs rc hrc.symm
 unfold changeS at hrc
 simp only at hrc
 clear m3 fa fb
 generalize hX:findB la k=X at*
 generalize hY:findB lb k=Y at*
 cases hb2:Y.2 with
 |false=>
  rw[if_pos hb2] at hrc
  subst hrc
  rw[hb2] at f2
  have s_:=An @hi (An @hwi (An @hm (An @hm' (An @hk (@hb2)))))
  try simp[s_]
  repeat' ((first|((first|refine Tp ?_|refine Tn ?_|refine T2 ?_ ?_)<;>intro h_ e_ n_)|refine Pg f1 ?_|refine Pg f2 ?_|refine Pg f3 ?_|refine AW.room (Dg 14 11 [3] [(9,.w)] ?_)|refine AW.room (Dg 15 11 [4] [(9,.w)] ?_)|refine Dg 20 9 [] [] ?_|rw[Ip]|rw[In]|rw[Fz]|rw[Gz]|fail)<;>first|simp[e_,n_,s_]|simp[s_]|skip)
  all_goals refine hA (i+1,out++[⟨k,true,.zero⟩]) _ (Wk.trans (Wk.softEnd 2 (out.length+1) (out.flatMap ChangeR.enc) (x':=[I k,B true,I 0,I 0,I 0,S .empty,.sl false 0 []]) rfl (by simp)) (Wk.cutAt _ rfl (by simp) ?_ (by simp) (by simp))) ⟨hi,by simp only[hal2];omega,by simpa using hcs⟩ (by simp only;omega)
  all_goals simp[ChangeR.enc,zeroN_enc]
 |true=>
  rw[hb2] at f2
  rw[if_neg (by rw[hb2];simp)] at hrc
  cases ha2:X.2 with
  |false=>
   rw[if_pos (.inl ha2)] at hrc
   subst hrc
   rw[ha2] at f1
   have s_:=An @hi (An @hwi (An @hm (An @hm' (An @hk (An @hb2 (An @ha2 (@chg_set)))))))
   have q1_:=λs w=>hA (i+1,out++[⟨k,false,Y.1⟩]) s w ⟨hi,by simp only[hal2];omega,by simpa using hcs⟩ (by simp only;omega)
   have e1_:=D1 14 11 [3] [(9,.w)]
   have e2_:=D1 15 11 [4] [(9,.w)]
   have p1_:=f1
   have p2_:=f2
   have p3_:=f3
   exact WW
  |true=>
   rw[ha2] at f1
   by_cases hxy:X.1=Y.1
   ·rw[if_neg (by rw[ha2];simpa using hxy)] at hrc
    subst hrc
    rw[show decide (X.1=Y.1)=true from decide_eq_true hxy] at f3
    have s_:=An @hi (An @hwi (An @hm (An @hm' (An @hk (An @hb2 (An @ha2 (@chg_set)))))))
    have q1_:=λs w=>hA (i+1,out) s w ⟨hi,by simp only;omega,by simpa using hcs⟩ (by simp only;omega)
    have e1_:=D1 14 11 [3] [(9,.w)]
    have e2_:=D1 15 11 [4] [(9,.w)]
    have p1_:=f1
    have p2_:=f2
    have p3_:=f3
    exact WW
   ·rw[if_pos (.inr hxy)] at hrc
    subst hrc
    rw[show decide (X.1=Y.1)=false from decide_eq_false hxy] at f3
    have s_:=An @hi (An @hwi (An @hm (An @hm' (An @hk (An @hb2 (An @ha2 (@chg_set)))))))
    have q1_:=λs w=>hA (i+1,out++[⟨k,false,Y.1⟩]) s w ⟨hi,by simp only[hal2];omega,by simpa using hcs⟩ (by simp only;omega)
    have e1_:=D1 14 11 [3] [(9,.w)]
    have e2_:=D1 15 11 [4] [(9,.w)]
    have p1_:=f1
    have p2_:=f2
    have p3_:=f3
    exact WW
end Go.Proofs.YtgpkaoombhobmaaGreat
