/- Proved: the statement HostRightsUptoSaid, given in Rows: the law's function returns true, whatever the input, and the input reads behind the call as it read before. Conditions: what is read is of bulk at most 1048576. -/
import Derived.Test.YtgpkaoombhobmaaGreatJW4
import Derived.Test.YtgpkaoombhobmaaGreatJLaw16e
set_option linter.unusedVariables false
set_option linter.unusedSimpArgs false
namespace Go.Proofs.YtgpkaoombhobmaaGreat
open Go.Cx Tab Go.ChangeShapes Go.WideShapes
set_option maxHeartbeats 1600000
set_option maxRecDepth 100000
def ZbD (c:Ze):Nat:=ZjH c.h+ZjH c.other+1
section
variable {W:World}
theorem ZkC:OpnB Tryz.prog W 73 (λxs b=>∃c:Ze,xs=c.enc/\c.wf/\ZbD c<=b):=
 (ZP tst73 ts73 (.cons (bHost) ts29 (.cons ((ZO tui3).b) ts3 (.cons ((ZO tui3).b) ts3 (.cons (bHost) ts29 .nil))))).mono λxs b h=>by
  obtain⟨b1,l1,⟨_,_,_,_,m0,⟨x0,rfl,h0,g0⟩,⟨_,_,_,_,m1,⟨x1,rfl,h1⟩,⟨_,_,_,_,m2,⟨x2,rfl,h2⟩,⟨_,_,_,_,m3,⟨x3,rfl,h3,g3⟩,rfl,rfl⟩,rfl⟩,rfl⟩,rfl⟩⟩:=h
  exact⟨⟨x0,x1,x2,x3⟩,by simp[Ze.enc],⟨h0,h1,h2,h3⟩,by simp only[ZbD];omega⟩
end
theorem Zgi (os:Os) (started:os.Started) (H:Type) (enc:TypeId×Value->H) (F:Stop.Interp):
  ReturnsInHanded {} Tryz.checked os 7 .any ((Rows.OpenSpec.upto Rows.hostRightsSpec).pre6 enc Tryz.prog Tryz.f7 Rows.hostRightsUptoRow.domain false) (((Rows.OpenSpec.upto Rows.hostRightsSpec).at F).post enc Tryz.prog Tryz.f7 false true false false):=by
 refine returnsInHanded_of_cond (C:=Tryz.checked) (s:=(Rows.OpenSpec.upto Rows.hostRightsSpec)) (k:=Rows.uptoSmall) rfl own started (by kernel_rfl) Tryz.func7
  (OpenSpec.witness (enc:=enc) (C:=Tryz.checked) (s:=(Rows.OpenSpec.upto Rows.hostRightsSpec)) (k:=Rows.uptoSmall) rfl false ⟨#[],#[Value.agg #[Value.slice none 0 0,Value.slice none 0 0,Value.int .i64 0,Value.slice none 0 0,Value.slice none 0 0,Value.int .i64 0,Value.int .i64 0,Value.int .i64 0,Value.int .i64 0,Value.slice none 0 0,Value.slice none 0 0,Value.int .i64 0,Value.slice none 0 0,Value.slice none 0 0,Value.int .i64 0,Value.int .i64 0]],[]⟩ 8 (by kernel_rfl) (by kernel_rfl) (by kernel_rfl) (x:=([.agg [.agg [.agg [.nil,.nil,.lit (.int .i64 0)],.nil,.nil,.lit (.int .i64 0),.lit (.int .i64 0)],.lit (.int .i64 0),.lit (.int .i64 0),.agg [.agg [.nil,.nil,.lit (.int .i64 0)],.nil,.nil,.lit (.int .i64 0),.lit (.int .i64 0)]]],[],[])) (by kernel_rfl) rfl (by kernel_rfl)) ?_
 intro W base args ds gs before hval hW _ hk _
 have hW':=hW
 obtain⟨p,q,hA0,hV,_,_,_⟩:=hW'
 obtain⟨hg,_⟩:=trodVars_none hV
 subst hg
 have hA:DataW.TrodAll enc Tryz.prog W 0 (λ_=>true) true [73] args.toList ds p:=hA0
 obtain⟨v0,d0,rfl,rfl,h0⟩:=trodAll_one hA
 have hv0:Value.okWide Tryz.prog W .any base 73 v0:=hval 0 73 v0 rfl rfl
 obtain⟨_,⟨x0,rfl,w0,g0⟩,r0⟩:=ZmX tst73 hv0 h0 (ZkC)
 have hsm:blkAll [d0]<=1048576:=Nat.le_trans (ZfH _) (of_decide_eq_true hk)
 exact Ztx (ZrS x0 (Zms (by simp only[blkAll] at hsm;simp only[ZbD,ZjH] at g0;omega)) (Zms (by simp only[blkAll] at hsm;simp only[ZbD,ZjH] at g0;omega))) (.cons r0 .nil) hW rfl rfl (t:=4) (by kernel_rfl) tub4 laid (by decide)
theorem Zgj:Go.joinedFacts Tryz.prog 7 Tryz.f7 (Rows.OpenSpec.upto Rows.hostRightsSpec).bare Rows.hostRightsUptoRow=true:=by
 unfold Go.joinedFacts
 repeat' (with_reducible refine and_tt ?_ ?_)
 all_goals as_aux_lemma=>kernel_rfl
theorem hostRights:Rows.HostRightsUptoSaid:=
 OpenClaim.holds_of_cond 7 Tryz.f7 rfl rfl rfl rfl rfl rfl rfl ⟨rfl,rfl,rfl,rfl,rfl⟩ rfl rfl rfl rfl rfl (by kernel_rfl) Tryz.func7 (Zgj)
  (of_decide_eq_true (by kernel_rfl)) (by unfold Func.isWrapper;rw[if_neg (of_decide_eq_false (by kernel_rfl))];exact⟨rfl,rfl⟩)
  (λos started H enc _ F=>Zgi os started H enc F)
end Go.Proofs.YtgpkaoombhobmaaGreat
