import Derived.Test.YtgpkaoombhobmaaGreatJLaw16d
import Derived.Test.YtgpkaoombhobmaaGreatJW4
set_option linter.unusedVariables false
set_option linter.unusedSimpArgs false
namespace Go.Proofs.YtgpkaoombhobmaaGreat
open Go.Cx Tab
set_option maxHeartbeats 8000000
set_option maxRecDepth 40000
def fewO (o:OpenR):Bool:=fewS o.t.was&&(fewS o.t.now&&decide (o.t.looks.length<=300))
theorem ZrS (w:Ze) (hb:ZbM w.h.s) (hbo:ZbM w.other.s):Zb Tryz.prog 7 [.agg w.enc] (B true):=by
 have h0:=ZrR
 have h1:=Zmu w.h.s hb
 have h2:=ZpW w.h.rows
 obtain⟨W0,hW0⟩:∃W0,w.enc=W0:=⟨_,rfl⟩
 cases q1:fewStore w.h.s with
 |false=>
  rw[q1] at h1
  refine Pm Tryz.func7 λhfit=> ?_
  have d1_:=D0 23 18 [] []
  have d2_:=D0 24 19 [] []
  simp[Tryz.f7]
  exact WW
 |true=>
 rw[q1] at h1
 cases q2:fewT w.h.rows.length w.h.rows with
 |false=>
  rw[q2] at h2
  refine Pm Tryz.func7 λhfit=> ?_
  have d1_:=D0 23 18 [] []
  have d2_:=D0 24 19 [] []
  simp[Tryz.f7]
  exact WW
 |true=>
 rw[q2] at h2
 by_cases c8:8<w.h.opens.length
 ·refine Pm Tryz.func7 λhfit=> ?_
  have d1_:=D0 23 18 [] []
  have d2_:=D0 24 19 [] []
  simp[Tryz.f7]
  have s_:=c8
  exact WW
 clear hW0 W0
 obtain⟨h,client,lease,other⟩:=w
 simp only at*
 refine Pm Tryz.func7 λhfit=> ?_
 have d1_:=D0 23 18 [] []
 have d2_:=D0 24 19 [] []
 simp[Tryz.f7]
 have s_:=c8
 try simp[s_]
 repeat' ((first|((first|refine Tp ?_|refine Tn ?_|refine T2 ?_ ?_)<;>intro h_ e_ n_)|refine Pg h0 ?_|refine Pg h1 ?_|refine Pg h2 ?_|refine Dg 23 18 [] [] ?_|refine Dg 24 19 [] [] ?_|rw[Ip]|rw[In]|rw[Fz]|rw[Gz]|fail)<;>first|simp[e_,n_,s_]|simp[s_]|skip)
 refine AW.loopG (lit:=λ_=>false) (λi:Nat=>⟨169,pat [(1,.ptr 0 0 0),(3,.ptr 1 0 0),(4,I client),(5,I lease),(6,.ptr 2 0 0),(7,B true),(8,I i)],[.cells 0 (⟨h,client,lease,other⟩:Ze).enc,.cells 0 h.enc,.cells 0 other.enc]⟩) (λi=>h.opens.length -i) (λi=>i<=h.opens.length/\∀o∈h.opens.take i,fewO o=true) 0 ?_ ?_ ?_
 ·exact Wa
 ·exact⟨Nat.zero_le _,by simp⟩
 rintro i ⟨g1,g2⟩ A hA
 by_cases hi:i<h.opens.length
 ·have hwi:=Zg hi (by simp only[maxLen];omega)
  have h3:=Zmk h.opens[i].t.was
  have h4:=Zmk h.opens[i].t.now
  cases p1:fewS h.opens[i].t.was with
  |false=>
   rw[p1] at h3
   have s_:=hi
   exact WW
  |true=>
  rw[p1] at h3
  cases p2:fewS h.opens[i].t.now with
  |false=>
   rw[p2] at h4
   have s_:=hi
   exact WW
  |true=>
  rw[p2] at h4
  by_cases p3:300<h.opens[i].t.looks.length
  ·have s_:=An @hi (@p3)
   exact WW
  ·have g3:∀o∈h.opens.take (i+1),fewO o=true:=ZwK g2 hi (by simp[fewO,p1,p2];omega)
   have s_:=An @hi (An @hwi (@p3))
   have q1_:=λs w=>hA (i+1) s w ⟨hi,g3⟩ (by omega)
   exact WW
 have hfo:=ZwL g2 hi
 obtain⟨f1,f2,f3⟩:=ZlX q1
 have h3:=ZxM lease
 have h4:=ZuT lease
 have h5:=Zeh (newH lease).1 (newH lease).1 (by unfold newH;split<;>exact .nil)
 rw[decide_eq_true rfl] at h5
 have h6:=Zib h hb
 have h7:=ZuO h (by omega) (λo ho=>by have:=hfo o ho;simp only[fewO,Bool.and_eq_true,decide_eq_true_eq] at this;omega) (by omega) (λc hc=>by have:=(f3 c hc).1;omega) (by omega)
 have h8:=Zjy h hb
 have h9:=Zjy other hbo
 clear hfo g2 f1 f2 f3
 cases q3:goodH h with
 |false=>
  rw[q3] at h8
  generalize hostB h=hB at*
  generalize newH lease=X at*
  have s_:=hi
  exact WW
 |true=>
 rw[q3] at h8
 cases q4:goodH other with
 |false=>
  rw[q4] at h9
  generalize hostB h=hB at*
  generalize newH lease=X at*
  have s_:=hi
  exact WW
 |true=>
 rw[q4] at h9
 obtain⟨H,X,hn,hl,ho⟩:=ZuV q3
 have h10:=Zky h client H.rise (by omega)
 have h11:=ZrQ h client (by omega)
 have h12:=ZxI h
 have h13:=ZxJ h
 have h14:=Zeh (tickH h) (tickH h) H.rows
 rw[decide_eq_true rfl] at h14
 have h15:=ZuK h (by omega) H.store hb
 have h16:=ZnP h (by omega) (ZnQ h.s ((staysS h).map λo=>o.t.stamp) (by have:=List.length_filter_le (λo:OpenR=> !decide (o.until_<h.now)) h.opens;rw[List.length_map];unfold staysS;omega) H.store hb)
 have h17:=Zeh (sweepH h) (sweepH h) H.rows
 rw[decide_eq_true rfl] at h17
 have h18:=ZxH h other
 have h19:=Zeh h other H.rows
 have h2:=ZhY ((findO h client).getD .zero) ((findO h client).getD .zero)
 rw[decide_eq_true rfl] at h2
 clear H X q3 q4
 generalize sweepH h=k at*
 generalize tickH h=t at*
 generalize findO h client=fo at*
 generalize hostB h=hB at*
 generalize newH lease=Y at*
 generalize decide (h=other)=d at*
 have s_:=hi
 exact WW
end Go.Proofs.YtgpkaoombhobmaaGreat
