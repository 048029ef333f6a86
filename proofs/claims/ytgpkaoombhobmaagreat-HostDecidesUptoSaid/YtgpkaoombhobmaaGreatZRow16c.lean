/- Proved: the statement HostDecidesUptoSaid, given in Rows: the law's function returns true, whatever the input, and the input reads behind the call as it read before. Conditions: what is read is of bulk at most 1048576. -/
import Derived.Test.YtgpkaoombhobmaaGreatZW4
import Derived.Test.YtgpkaoombhobmaaGreatZLaw16c
set_option linter.unusedVariables false
set_option linter.unusedSimpArgs false
namespace Go.Proofs.YtgpkaoombhobmaaGreat
open Go.Cx Tab Go.ChangeShapes Go.WideShapes
set_option maxHeartbeats 1600000
set_option maxRecDepth 100000
theorem Zww (os:Os) (started:os.Started) (H:Type) (enc:TypeId×Value→H) (F:Stop.Interp):
  ReturnsInHanded {} Tryz.checked os 4 .any ((Rows.OpenSpec.upto Rows.hostDecidesSpec).pre6 enc Tryz.prog Tryz.f4 Rows.hostDecidesUptoRow.domain false) (((Rows.OpenSpec.upto Rows.hostDecidesSpec).at F).post enc Tryz.prog Tryz.f4 false true false false):=by
 refine returnsInHanded_of_cond (C:=Tryz.checked) (s:=(Rows.OpenSpec.upto Rows.hostDecidesSpec)) (k:=Rows.uptoSmall) rfl own started (by kernel_rfl) Tryz.func4
  (OpenSpec.witness (enc:=enc) (C:=Tryz.checked) (s:=(Rows.OpenSpec.upto Rows.hostDecidesSpec)) (k:=Rows.uptoSmall) rfl false ⟨#[],#[Value.agg #[Value.slice none 0 0,Value.slice none 0 0,Value.int .i64 0,Value.slice none 0 0,Value.slice none 0 0,Value.int .i64 0,Value.int .i64 0],Value.agg #[Value.int .i64 0,Value.int .i64 0,Value.int .i64 0,Value.int .i64 0,Value.int .i64 0,Value.int .i64 0,Value.int .i64 0,Value.int .i64 0,Value.int .i64 0,Value.int .i64 0,Value.int .i64 0,Value.string .empty,Value.string .empty,Value.string .empty],Value.slice none 0 0],[]⟩ 8 (by kernel_rfl) (by kernel_rfl) (by kernel_rfl) (x:=([.agg [.agg [.nil,.nil,.lit (.int .i64 0)],.nil,.nil,.lit (.int .i64 0),.lit (.int .i64 0)],.agg [.lit (.int .i64 0),.lit (.int .i64 0),.lit (.int .i64 0),.lit (.int .i64 0),.lit (.int .i64 0),.lit (.int .i64 0),.agg [.lit (.int .i64 0),.lit (.int .i64 0),.lit (.int .i64 0),.lit (.int .i64 0),.lit (.int .i64 0),.lit (.string []),.lit (.string []),.lit (.string [])]],.nil],[],[])) (by kernel_rfl) rfl (by kernel_rfl)) ?_
 intro W base args ds gs before hval hW _ hk _
 have hW':=hW
 obtain⟨p,q,hA0,hV,_,_,_⟩:=hW'
 obtain⟨hg,_⟩:=trodVars_none hV
 subst hg
 have hA:DataW.TrodAll enc Tryz.prog W 0 (fun _=>true) true [29,33,49] args.toList ds p:=hA0
 obtain⟨v0,v1,v2,d0,d1,d2,p0,p1,p2,rfl,rfl,rfl,h0,h1,h2⟩:=trodAll_three hA
 have hv0:Value.okWide Tryz.prog W .any base 29 v0:=hval 0 29 v0 rfl rfl
 obtain⟨_,⟨x0,rfl,w0,g0⟩,r0⟩:=Zmp tst29 hv0 h0 (bHost)
 have hv1:Value.okWide Tryz.prog W .any base 33 v1:=hval 1 33 v1 rfl rfl
 obtain⟨_,⟨x1,rfl,w1⟩,r1⟩:=Zpu tst33 hv1 h1 (oMsg)
 have hv2:Value.okWide Tryz.prog W .any base 49 v2:=hval 2 49 v2 rfl rfl
 obtain⟨_,_,_,rfl⟩:=okWide_slice (run_telem te49) hv2
 obtain⟨_,⟨x2,e2,w2⟩,r2⟩:=arg_one rfl h2 (ZwP te49 ts33 (by omega) oMsg)
 cases e2
 have hsm:blkAll [d0,d1,d2]≤1048576:=Nat.le_trans (Zfn _) (of_decide_eq_true hk)
 exact ZrY (ZwC x0 x1 x2 (ZtI (by simp only[blkAll] at hsm;simp only[ZtG] at g0;omega)) w1.2.2.2.2.2.2 fun x hx=>(w2 x hx).2.2.2.2.2.2) (.cons r0 (.cons r1 (.cons r2 .nil))) hW rfl rfl (t:=4) (by kernel_rfl) tub4 laid (by decide)
theorem Zwx:Go.joinedFacts Tryz.prog 4 Tryz.f4 (Rows.OpenSpec.upto Rows.hostDecidesSpec).bare Rows.hostDecidesUptoRow=true:=by
 unfold Go.joinedFacts
 repeat' (with_reducible refine and_tt ?_ ?_)
 all_goals as_aux_lemma=>kernel_rfl
theorem hostDecides:Rows.HostDecidesUptoSaid:=
 OpenClaim.holds_of_cond 4 Tryz.f4 rfl rfl rfl rfl rfl rfl rfl ⟨rfl,rfl,rfl,rfl,rfl⟩ rfl rfl rfl rfl rfl (by kernel_rfl) Tryz.func4 (Zwx)
  (of_decide_eq_true (by kernel_rfl)) (by unfold Func.isWrapper;rw[if_neg (of_decide_eq_false (by kernel_rfl))];exact⟨rfl,rfl⟩)
  (fun os started H enc _ F=>Zww os started H enc F)
end Go.Proofs.YtgpkaoombhobmaaGreat
