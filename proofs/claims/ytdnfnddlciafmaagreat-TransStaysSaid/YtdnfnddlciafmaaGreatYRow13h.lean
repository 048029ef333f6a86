/- Proved: the statement TransStaysSaid, given in Rows: the law's function returns true, whatever the input, and the input reads behind the call as it read before. Conditions: none. -/
import Derived.Test.YtdnfnddlciafmaaGreatYW5
import Derived.Test.YtdnfnddlciafmaaGreatYLaw13h
set_option linter.unusedVariables false
set_option linter.unusedSimpArgs false
namespace Go.Proofs.YtdnfnddlciafmaaGreat
open Go.Cx Tab Go.ChangeShapes Go.WideShapes
set_option maxHeartbeats 1600000
set_option maxRecDepth 100000
theorem Zgd (os:Os) (started:os.Started) (H:Type) (enc:TypeId×Value→H):
  ReturnsInHanded {} Tryz.checked os 13 .any (Rows.transStaysSpec.pre6 enc Tryz.prog Tryz.f13 Rows.transStaysRow.domain false) (Rows.transStaysSpec.post enc Tryz.prog Tryz.f13 false true false false):=by
 refine returnsInHanded_of_change (C:=Tryz.checked) own started (by kernel_rfl) Tryz.func13
  (ChangeSpec.witness6 (enc:=enc) (C:=Tryz.checked) false ⟨#[],#[Value.agg #[Value.int .i64 0,Value.slice none 0 0,Value.int .i64 0,Value.slice none 0 0,Value.int .i64 0,Value.slice none 0 0],Value.agg #[Value.int .i64 0,Value.int .i64 0,Value.int .i64 0,Value.int .i64 0,Value.int .i64 0,Value.string .empty,Value.string .empty,Value.string .empty],Value.int .i64 0],[]⟩ 8 (by kernel_rfl) (by kernel_rfl) (by kernel_rfl) (by kernel_rfl)) ?_
 intro W base args ds gs before hval hW _ _
 have hW':=hW
 obtain⟨p,q,hA0,hV,_,_,_⟩:=hW'
 obtain⟨hg,_⟩:=trodVars_none hV
 subst hg
 have hA:DataW.TrodAll enc Tryz.prog W 0 (fun _=>true) true [77,26,3] args.toList ds p:=hA0
 obtain⟨v0,v1,v2,d0,d1,d2,p0,p1,p2,rfl,rfl,rfl,h0,h1,h2⟩:=trodAll_three hA
 have hv0:Value.okWide Tryz.prog W .any base 77 v0:=hval 0 77 v0 rfl rfl
 obtain⟨_,⟨x0,rfl,w0⟩,r0⟩:=ZfE Zxp hv0 h0 (oTxn)
 have hv1:Value.okWide Tryz.prog W .any base 26 v1:=hval 1 26 v1 rfl rfl
 obtain⟨_,⟨x1,rfl,w1⟩,r1⟩:=ZfE tst26 hv1 h1 (Zkx)
 have hv2:Value.okWide Tryz.prog W .any base 3 v2:=hval 2 3 v2 rfl rfl
 obtain⟨_,rfl⟩:=okWide_int tui3 hv2
 obtain⟨_,⟨x2,e2,w2⟩,r2⟩:=Zdg rfl h2 (ZI tui3)
 cases e2
 exact ZbN (ZnF x0 x1 x2 w1) (.cons r0 (.cons r1 (.cons r2 .nil))) hW rfl rfl (t:=4) (by kernel_rfl) tub4 laid (by decide)
theorem Zge:Go.joinedFacts Tryz.prog 13 Tryz.f13 Rows.transStaysSpec Rows.transStaysRow=true:=by
 unfold Go.joinedFacts
 repeat' (with_reducible refine and_tt ?_ ?_)
 all_goals as_aux_lemma=>kernel_rfl
theorem transStays:Rows.TransStaysSaid:=
 OpenClaim.holds_of_wide 13 Tryz.f13 rfl rfl rfl rfl rfl rfl rfl ⟨rfl,rfl,rfl,rfl,rfl⟩ rfl rfl rfl rfl rfl (by kernel_rfl) Tryz.func13 (Zge)
  (of_decide_eq_true (by kernel_rfl)) (by unfold Func.isWrapper;rw[if_neg (of_decide_eq_false (by kernel_rfl))];exact⟨rfl,rfl⟩)
  (fun os started H enc _=>Zgd os started H enc)
end Go.Proofs.YtdnfnddlciafmaaGreat
