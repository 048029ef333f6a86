import Derived.Test.YtgpkaoombhobmaaGreatVLaw16b
import Derived.Test.YtgpkaoombhobmaaGreatVW4
set_option linter.unusedVariables false
set_option linter.unusedSimpArgs false
namespace Go.Proofs.YtgpkaoombhobmaaGreat
open Go.Cx Tab
set_option maxHeartbeats 4000000
set_option maxRecDepth 40000
theorem ZqY (h:HostR) (c:Int) (hb:Zcb h.s):Zd Tryz.prog 6 [.agg h.enc,I c] (B true):=by
 have h0:=ZqX
 have h1:=ZqV h hb
 cases q1:goodH h with
 |false=>
  rw[q1] at h1
  refine Pm Tryz.func6 λhfit=> ?_
  have d1_:=D0 7 14 [] []
  have d2_:=D0 9 27 [] []
  simp[Tryz.f6]
  exact WW
 |true=>
 rw[q1] at h1
 obtain⟨H,X,hn,hl,ho⟩:=ZtN q1
 have hX:Zap 300 (sweepH h).s:=ZtF X.vers _
 have h3:=Zmf h (by omega) H.store hb
 have h4:=ZgF h c H.rise (by omega)
 have hko:(sweepH h).opens.length<=h.opens.length:=List.length_filter_le _ _
 have hkr:Zn OpenR.client (sweepH h).opens=true:=ZZ OpenR.client H.rise _
 have h5:=ZgF (sweepH h) c hkr (by omega)
 have hkP:Zu (sweepH h).s:=ZnA H.store _
 have h6:=ZgH h.s h.s.stamp hb
 have h7:=ZgH (sweepH h).s (sweepH h).s.stamp (hX.b (by omega))
 rw[ZnD H.store] at h7
 have h8:=ZnS (viewS h.s h.s.stamp) (viewS h.s h.s.stamp) H.vrows H.vrows
 rw[ZlD _ H.vrows] at h8
 have h9:=Zmf (sweepH h) (by omega) hkP (hX.b (by omega))
 rw[ZlX H.store] at h9
 have h10:=ZqU (sweepH h) (sweepH h) H.rows
 rw[decide_eq_true rfl] at h10
 have hf:=ZnE H.rise c
 generalize sweepH h=k at*
 generalize viewS h.s h.s.stamp=V at*
 cases hg:ZcK h c with
 |none=>
  rw[hg] at hf h4
  simp at hf
  rw[hf] at h5
  clear H X hX hkP q1
  refine Pm Tryz.func6 λhfit=> ?_
  have d1_:=D0 7 14 [] []
  have d2_:=D0 9 27 [] []
  simp[Tryz.f6]
  exact WW
 |some o=>
  rw[hg] at hf h4
  have h11:=ZhW o o
  rw[decide_eq_true rfl] at h11
  clear H X hX hkP q1
  by_cases z:o.until_<h.now
  ·have hf:ZcK k c=none:=by rw[hf];simp[Option.filter,z]
   rw[hf] at h5
   have z':¬h.now<=o.until_:=by omega
   refine Pm Tryz.func6 λhfit=> ?_
   have d1_:=D0 7 14 [] []
   have d2_:=D0 9 27 [] []
   simp[Tryz.f6]
   have s_:= @z'
   exact WW
  ·have hf:ZcK k c=some o:=by rw[hf];simp[Option.filter,z]
   rw[hf] at h5
   have z':h.now<=o.until_:=by omega
   refine Pm Tryz.func6 λhfit=> ?_
   have d1_:=D0 7 14 [] []
   have d2_:=D0 9 27 [] []
   simp[Tryz.f6]
   have s_:= @z'
   exact WW
end Go.Proofs.YtgpkaoombhobmaaGreat
