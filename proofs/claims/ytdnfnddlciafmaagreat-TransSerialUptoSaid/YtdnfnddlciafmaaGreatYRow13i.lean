/- Proved: the statement TransSerialUptoSaid, given in Rows: the law's function returns true, whatever the input, and the input reads behind the call as it read before. Conditions: what is read is of bulk at most 1048576. -/
import Derived.Test.YtdnfnddlciafmaaGreatYW5
import Derived.Test.YtdnfnddlciafmaaGreatYLaw13i
set_option linter.unusedVariables false
set_option linter.unusedSimpArgs false
namespace Go.Proofs.YtdnfnddlciafmaaGreat
open Go.Cx Tab Go.ChangeShapes Go.WideShapes
set_option maxHeartbeats 1600000
set_option maxRecDepth 100000
theorem Zft (os:Os) (started:os.Started) (H:Type) (enc:TypeId×Value→H) (F:Stop.Interp):
  ReturnsInHanded {} Tryz.checked os 12 .any ((Rows.OpenSpec.upto Rows.transSerialSpec).pre6 enc Tryz.prog Tryz.f12 Rows.transSerialUptoRow.domain false) (((Rows.OpenSpec.upto Rows.transSerialSpec).at F).post enc Tryz.prog Tryz.f12 false true false false):=by
 refine returnsInHanded_of_cond (C:=Tryz.checked) (s:=(Rows.OpenSpec.upto Rows.transSerialSpec)) (k:=Rows.uptoSmall) rfl own started (by kernel_rfl) Tryz.func12
  (OpenSpec.witness (enc:=enc) (C:=Tryz.checked) (s:=(Rows.OpenSpec.upto Rows.transSerialSpec)) (k:=Rows.uptoSmall) rfl false ⟨#[],#[Value.agg #[Value.slice none 0 0,Value.slice none 0 0,Value.int .i64 0],Value.slice none 0 0,Value.slice none 0 0],[]⟩ 8 (by kernel_rfl) (by kernel_rfl) (by kernel_rfl) (x:=([.agg [.nil,.nil,.lit (.int .i64 0)],.nil,.nil],[],[])) (by kernel_rfl) rfl (by kernel_rfl)) ?_
 intro W base args ds gs before hval hW _ hk _
 have hW':=hW
 obtain⟨p,q,hA0,hV,_,_,_⟩:=hW'
 obtain⟨hg,_⟩:=trodVars_none hV
 subst hg
 have hA:DataW.TrodAll enc Tryz.prog W 0 (fun _=>true) true [75,89,30] args.toList ds p:=hA0
 obtain⟨v0,v1,v2,d0,d1,d2,p0,p1,p2,rfl,rfl,rfl,h0,h1,h2⟩:=trodAll_three hA
 have hv0:Value.okWide Tryz.prog W .any base 75 v0:=hval 0 75 v0 rfl rfl
 obtain⟨_,⟨x0,rfl,w0,g0⟩,r0⟩:=ZaX ZrV hv0 h0 (Zin)
 have hv1:Value.okWide Tryz.prog W .any base 89 v1:=hval 1 89 v1 rfl rfl
 obtain⟨_,_,_,rfl⟩:=okWide_slice (run_telem te89) hv1
 obtain⟨_,⟨x1,e1,w1⟩,r1⟩:=Zdg rfl h1 (Zlc (enc:=encL CallR.enc) (p:=fun l=>∀x∈l,x.wf) te89 ts30 (Zbl te30 ts26 (by omega) Zkx))
 cases e1
 have hv2:Value.okWide Tryz.prog W .any base 30 v2:=hval 2 30 v2 rfl rfl
 obtain⟨_,_,_,rfl⟩:=okWide_slice (run_telem te30) hv2
 obtain⟨_,⟨x2,e2,w2⟩,r2⟩:=Zdg rfl h2 (Zbl te30 ts26 (by omega) Zkx)
 cases e2
 have hsm:blkAll [d0,d1,d2]≤1048576:=Nat.le_trans (ZaU _) (of_decide_eq_true hk)
 exact ZbN (ZrA x0 x1 x2 (Zcq (by simp only[blkAll] at hsm;omega)) w1 w2) (.cons r0 (.cons r1 (.cons r2 .nil))) hW rfl rfl (t:=4) (by kernel_rfl) tub4 laid (by decide)
theorem Zfu:Go.joinedFacts Tryz.prog 12 Tryz.f12 (Rows.OpenSpec.upto Rows.transSerialSpec).bare Rows.transSerialUptoRow=true:=by
 unfold Go.joinedFacts
 repeat' (with_reducible refine and_tt ?_ ?_)
 all_goals as_aux_lemma=>kernel_rfl
theorem transSerial:Rows.TransSerialUptoSaid:=
 OpenClaim.holds_of_cond 12 Tryz.f12 rfl rfl rfl rfl rfl rfl rfl ⟨rfl,rfl,rfl,rfl,rfl⟩ rfl rfl rfl rfl rfl (by kernel_rfl) Tryz.func12 (Zfu)
  (of_decide_eq_true (by kernel_rfl)) (by unfold Func.isWrapper;rw[if_neg (of_decide_eq_false (by kernel_rfl))];exact⟨rfl,rfl⟩)
  (fun os started H enc _ F=>Zft os started H enc F)
end Go.Proofs.YtdnfnddlciafmaaGreat
