/- Proved: the statement HostSweepsUptoSaid, given in Rows: the law's function returns true, whatever the input, and the input reads behind the call as it read before. Conditions: what is read is of bulk at most 1048576. -/
import Derived.Test.YtgpkaoombhobmaaGreatVW4
import Derived.Test.YtgpkaoombhobmaaGreatVLaw16d
set_option linter.unusedVariables false
set_option linter.unusedSimpArgs false
namespace Go.Proofs.YtgpkaoombhobmaaGreat
open Go.Cx Tab Go.ChangeShapes Go.WideShapes
set_option maxHeartbeats 1600000
set_option maxRecDepth 100000
theorem Zgc (os:Os) (started:os.Started) (H:Type) (enc:TypeId×Value->H) (F:Stop.Interp):
  ReturnsInHanded {} Tryz.checked os 6 .any ((Rows.OpenSpec.upto Rows.hostSweepsSpec).pre6 enc Tryz.prog Tryz.f6 Rows.hostSweepsUptoRow.domain false) (((Rows.OpenSpec.upto Rows.hostSweepsSpec).at F).post enc Tryz.prog Tryz.f6 false true false false):=by
 refine returnsInHanded_of_cond (C:=Tryz.checked) (s:=(Rows.OpenSpec.upto Rows.hostSweepsSpec)) (k:=Rows.uptoSmall) rfl own started (by kernel_rfl) Tryz.func6
  (OpenSpec.witness (enc:=enc) (C:=Tryz.checked) (s:=(Rows.OpenSpec.upto Rows.hostSweepsSpec)) (k:=Rows.uptoSmall) rfl false ⟨#[],#[Value.agg #[Value.slice none 0 0,Value.slice none 0 0,Value.int .i64 0,Value.slice none 0 0,Value.slice none 0 0,Value.int .i64 0,Value.int .i64 0],Value.int .i64 0],[]⟩ 8 (by kernel_rfl) (by kernel_rfl) (by kernel_rfl) (x:=([.agg [.agg [.nil,.nil,.lit (.int .i64 0)],.nil,.nil,.lit (.int .i64 0),.lit (.int .i64 0)],.lit (.int .i64 0)],[],[])) (by kernel_rfl) rfl (by kernel_rfl)) ?_
 intro W base args ds gs before hval hW _ hk _
 have hW':=hW
 obtain⟨p,q,hA0,hV,_,_,_⟩:=hW'
 obtain⟨hg,_⟩:=trodVars_none hV
 subst hg
 have hA:DataW.TrodAll enc Tryz.prog W 0 (λ_=>true) true [29,3] args.toList ds p:=hA0
 obtain⟨v0,v1,d0,d1,p0,p1,rfl,rfl,rfl,h0,h1⟩:=trodAll_two hA
 have hv0:Value.okWide Tryz.prog W .any base 29 v0:=hval 0 29 v0 rfl rfl
 obtain⟨_,⟨x0,rfl,w0,g0⟩,r0⟩:=ZmM tst29 hv0 h0 (bHost)
 have hv1:Value.okWide Tryz.prog W .any base 3 v1:=hval 1 3 v1 rfl rfl
 obtain⟨_,rfl⟩:=okWide_int tui3 hv1
 obtain⟨_,⟨x1,e1,w1⟩,r1⟩:=arg_one rfl h1 (ZN tui3)
 cases e1
 have hsm:blkAll [d0,d1]<=1048576:=Nat.le_trans (ZfB _) (of_decide_eq_true hk)
 exact Zsz (ZqY x0 x1 (Zup (by simp only[blkAll] at hsm;simp only[Zun] at g0;omega))) (.cons r0 (.cons r1 .nil)) hW rfl rfl (t:=4) (by kernel_rfl) tub4 laid (by decide)
theorem Zgd:Go.joinedFacts Tryz.prog 6 Tryz.f6 (Rows.OpenSpec.upto Rows.hostSweepsSpec).bare Rows.hostSweepsUptoRow=true:=by
 unfold Go.joinedFacts
 repeat' (with_reducible refine and_tt ?_ ?_)
 all_goals as_aux_lemma=>kernel_rfl
theorem hostSweeps:Rows.HostSweepsUptoSaid:=
 OpenClaim.holds_of_cond 6 Tryz.f6 rfl rfl rfl rfl rfl rfl rfl ⟨rfl,rfl,rfl,rfl,rfl⟩ rfl rfl rfl rfl rfl (by kernel_rfl) Tryz.func6 (Zgd)
  (of_decide_eq_true (by kernel_rfl)) (by unfold Func.isWrapper;rw[if_neg (of_decide_eq_false (by kernel_rfl))];exact⟨rfl,rfl⟩)
  (λos started H enc _ F=>Zgc os started H enc F)
end Go.Proofs.YtgpkaoombhobmaaGreat
