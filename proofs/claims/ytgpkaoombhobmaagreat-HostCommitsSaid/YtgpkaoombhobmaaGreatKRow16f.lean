/- Proved: the statement HostCommitsSaid, given in Rows: the law's function returns true, whatever the input, and the input reads behind the call as it read before. Conditions: none. -/
import Derived.Test.YtgpkaoombhobmaaGreatKW4
import Derived.Test.YtgpkaoombhobmaaGreatKLaw16f
set_option linter.unusedVariables false
set_option linter.unusedSimpArgs false
namespace Go.Proofs.YtgpkaoombhobmaaGreat
open Go.Cx Tab Go.ChangeShapes Go.WideShapes
set_option maxHeartbeats 1600000
set_option maxRecDepth 100000
theorem ZfD (os:Os) (started:os.Started) (H:Type) (enc:TypeId×Value->H):
  ReturnsInHanded {} Tryz.checked os 5 .any (Rows.hostCommitsSpec.pre6 enc Tryz.prog Tryz.f5 Rows.hostCommitsRow.domain false) (Rows.hostCommitsSpec.post enc Tryz.prog Tryz.f5 false true false false):=by
 refine returnsInHanded_of_change (C:=Tryz.checked) own started (by kernel_rfl) Tryz.func5
  (ChangeSpec.witness6 (enc:=enc) (C:=Tryz.checked) false ⟨#[],#[Value.int .i64 0,Value.slice none 0 0,Value.agg #[Value.int .i64 0,Value.int .i64 0,Value.int .i64 0,Value.int .i64 0,Value.int .i64 0,Value.int .i64 0,Value.int .i64 0,Value.int .i64 0,Value.int .i64 0,Value.int .i64 0,Value.int .i64 0,Value.string .empty,Value.string .empty,Value.string .empty]],[]⟩ 8 (by kernel_rfl) (by kernel_rfl) (by kernel_rfl) (by kernel_rfl)) ?_
 intro W base args ds gs before hval hW _ _
 have hW':=hW
 obtain⟨p,q,hA0,hV,_,_,_⟩:=hW'
 obtain⟨hg,_⟩:=trodVars_none hV
 subst hg
 have hA:DataW.TrodAll enc Tryz.prog W 0 (λ_=>true) true [3,49,33] args.toList ds p:=hA0
 obtain⟨v0,v1,v2,d0,d1,d2,p0,p1,p2,rfl,rfl,rfl,h0,h1,h2⟩:=trodAll_three hA
 have hv0:Value.okWide Tryz.prog W .any base 3 v0:=hval 0 3 v0 rfl rfl
 obtain⟨_,rfl⟩:=okWide_int tui3 hv0
 obtain⟨_,⟨x0,e0,w0⟩,r0⟩:=Zsx rfl h0 (ZbO tui3)
 cases e0
 have hv1:Value.okWide Tryz.prog W .any base 49 v1:=hval 1 49 v1 rfl rfl
 obtain⟨_,_,_,rfl⟩:=okWide_slice (run_telem te49) hv1
 obtain⟨_,⟨x1,e1,w1⟩,r1⟩:=Zsx rfl h1 (ZvF te49 ts33 (by omega) oMsg)
 cases e1
 have hv2:Value.okWide Tryz.prog W .any base 33 v2:=hval 2 33 v2 rfl rfl
 obtain⟨_,⟨x2,rfl,w2⟩,r2⟩:=ZpS tst33 hv2 h2 (oMsg)
 exact ZsA (ZnM x0 x1 x2 w0 (λx hx=>(w1 x hx).2.2.2.2.2.2) w2.2.2.2.2.2.2) (.cons r0 (.cons r1 (.cons r2 .nil))) hW rfl rfl (t:=4) (by kernel_rfl) tub4 laid (by decide)
theorem ZfE:Go.joinedFacts Tryz.prog 5 Tryz.f5 Rows.hostCommitsSpec Rows.hostCommitsRow=true:=by
 unfold Go.joinedFacts
 repeat' (with_reducible refine and_tt ?_ ?_)
 all_goals as_aux_lemma=>kernel_rfl
theorem hostCommits:Rows.HostCommitsSaid:=
 OpenClaim.holds_of_wide 5 Tryz.f5 rfl rfl rfl rfl rfl rfl rfl ⟨rfl,rfl,rfl,rfl,rfl⟩ rfl rfl rfl rfl rfl (by kernel_rfl) Tryz.func5 (ZfE)
  (of_decide_eq_true (by kernel_rfl)) (by unfold Func.isWrapper;rw[if_neg (of_decide_eq_false (by kernel_rfl))];exact⟨rfl,rfl⟩)
  (λos started H enc _=>ZfD os started H enc)
end Go.Proofs.YtgpkaoombhobmaaGreat
