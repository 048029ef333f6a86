/- Proved: the statement TransStepsUptoSaid, given in Rows: the law's function returns true, whatever the input, and the input reads behind the call as it read before. Conditions: what is read is of bulk at most 1048576. -/
import Derived.Test.YtdnfnddlciafmaaGreatYW5
import Derived.Test.YtdnfnddlciafmaaGreatYLaw13g
set_option linter.unusedVariables false
set_option linter.unusedSimpArgs false
namespace Go.Proofs.YtdnfnddlciafmaaGreat
open Go.Cx Tab Go.ChangeShapes Go.WideShapes
set_option maxHeartbeats 1600000
set_option maxRecDepth 100000
theorem Zgb (os:Os) (started:os.Started) (H:Type) (enc:TypeId×Value→H) (F:Stop.Interp):
  ReturnsInHanded {} Tryz.checked os 18 .any ((Rows.OpenSpec.upto Rows.transStepsSpec).pre6 enc Tryz.prog Tryz.f18 Rows.transStepsUptoRow.domain false) (((Rows.OpenSpec.upto Rows.transStepsSpec).at F).post enc Tryz.prog Tryz.f18 false true false false):=by
 refine returnsInHanded_of_cond (C:=Tryz.checked) (s:=(Rows.OpenSpec.upto Rows.transStepsSpec)) (k:=Rows.uptoSmall) rfl own started (by kernel_rfl) Tryz.func18
  (OpenSpec.witness (enc:=enc) (C:=Tryz.checked) (s:=(Rows.OpenSpec.upto Rows.transStepsSpec)) (k:=Rows.uptoSmall) rfl false ⟨#[],#[Value.agg #[Value.slice none 0 0,Value.slice none 0 0,Value.int .i64 0,Value.int .i64 0,Value.slice none 0 0,Value.int .i64 0,Value.slice none 0 0,Value.int .i64 0,Value.slice none 0 0,Value.int .i64 0,Value.int .i64 0,Value.int .i64 0,Value.int .i64 0,Value.int .i64 0,Value.string .empty,Value.string .empty,Value.string .empty,Value.int .i64 0,Value.slice none 0 0,Value.int .i64 0,Value.slice none 0 0,Value.int .i64 0,Value.slice none 0 0]],[]⟩ 8 (by kernel_rfl) (by kernel_rfl) (by kernel_rfl) (x:=([.agg [.agg [.nil,.nil,.lit (.int .i64 0)],.agg [.lit (.int .i64 0),.agg [.nil,.lit (.int .i64 0)],.agg [.nil,.lit (.int .i64 0)],.nil],.agg [.lit (.int .i64 0),.lit (.int .i64 0),.lit (.int .i64 0),.lit (.int .i64 0),.lit (.int .i64 0),.lit (.string []),.lit (.string []),.lit (.string [])],.agg [.lit (.int .i64 0),.agg [.nil,.lit (.int .i64 0)],.agg [.nil,.lit (.int .i64 0)],.nil]]],[],[])) (by kernel_rfl) rfl (by kernel_rfl)) ?_
 intro W base args ds gs before hval hW _ hk _
 have hW':=hW
 obtain⟨p,q,hA0,hV,_,_,_⟩:=hW'
 obtain⟨hg,_⟩:=trodVars_none hV
 subst hg
 have hA:DataW.TrodAll enc Tryz.prog W 0 (fun _=>true) true [104] args.toList ds p:=hA0
 obtain⟨v0,d0,rfl,rfl,h0⟩:=trodAll_one hA
 have hv0:Value.okWide Tryz.prog W .any base 104 v0:=hval 0 104 v0 rfl rfl
 obtain⟨_,⟨x0,rfl,w0,g0⟩,r0⟩:=ZaX tst104 hv0 h0 (Zky)
 have hsm:blkAll [d0]≤1048576:=Nat.le_trans (ZaU _) (of_decide_eq_true hk)
 exact ZbN (ZuB x0 w0 (Zcq (by simp only[blkAll] at hsm;simp only[ZbI] at g0;omega)) (by simp only[blkAll] at hsm;simp only[ZbI,Zve] at g0;omega)) (.cons r0 .nil) hW rfl rfl (t:=4) (by kernel_rfl) tub4 laid (by decide)
theorem Zgc:Go.joinedFacts Tryz.prog 18 Tryz.f18 (Rows.OpenSpec.upto Rows.transStepsSpec).bare Rows.transStepsUptoRow=true:=by
 unfold Go.joinedFacts
 repeat' (with_reducible refine and_tt ?_ ?_)
 all_goals as_aux_lemma=>kernel_rfl
theorem transSteps:Rows.TransStepsUptoSaid:=
 OpenClaim.holds_of_cond 18 Tryz.f18 rfl rfl rfl rfl rfl rfl rfl ⟨rfl,rfl,rfl,rfl,rfl⟩ rfl rfl rfl rfl rfl (by kernel_rfl) Tryz.func18 (Zgc)
  (of_decide_eq_true (by kernel_rfl)) (by unfold Func.isWrapper;rw[if_neg (of_decide_eq_false (by kernel_rfl))];exact⟨rfl,rfl⟩)
  (fun os started H enc _ F=>Zgb os started H enc F)
end Go.Proofs.YtdnfnddlciafmaaGreat
