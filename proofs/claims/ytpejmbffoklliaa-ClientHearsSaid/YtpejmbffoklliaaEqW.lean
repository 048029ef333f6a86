/- slices.Equal and slices.EqualFunc over the rows of layer 18; the clients compared. -/
import Derived.Test.YtpejmbffoklliaaR18X
import Derived.Test.YtpejmbffoklliaaCliW
set_option linter.unusedVariables false
set_option linter.unusedSimpArgs false
namespace Go.Proofs.Ytpejmbffoklliaa
open Go.Cx Tab
set_option maxHeartbeats 400000
set_option maxRecDepth 40000

theorem eqNames_ok (a b : List ByteArray) : PCall Try.prog 49 [enc1 S a, enc1 S b] (B (decide (a = b))) := by
  refine PCall.mk (fun _ => false) Try.func49 rfl rfl rfl (Ent.mk Try.func49 (by kernel_rfl) rfl) (by simp) (by simp) fun hfit => ?_
  simp at hfit
  simp [Try.f49]
  by_cases hl : a.length = b.length
  case neg =>
    have : ¬ a = b := fun e => hl (by rw [e])
    simp [hl, this]
  simp [hl]
  refine AW.loopF (lit := fun _ => false) (fun i : Nat => ⟨26, pat [(0, enc1 S a), (1, enc1 S b), (12, I b.length), (13, I i)], []⟩) (fun i => b.length - i) (fun i => i ≤ b.length ∧ a.take i = b.take i) 0 ?_ ?_ ?_
  · exact Wk.keep _ (by simp [hl])
  · simp
  · rintro i ⟨hi, ht⟩
    by_cases h : i < b.length
    case neg =>
      have := take_done ht (by omega) (by omega)
      simp [h, eq_true this]
    have ha : i < a.length := by omega
    simp [h]
    refine AW.draw Try.checked.mixed (fun _ => false) [] [] 9 (by kernel_rfl) ?_
    simp [h, ha]
    by_cases h2 : a[i] = b[i]
    · simp [h2, wrap_nat ha hfit.1]
      exact ⟨i + 1, Wk.keep _ (by simp), ⟨by omega, take_step ht ha h h2⟩, by omega⟩
    · have : ¬ a = b := fun e => by subst e; exact h2 rfl
      simp [h2, this]

theorem eqCalls_ok (a b : List CallR) : PCall Try.prog 37 [encCalls a, encCalls b] (B (decide (a = b))) := by
  refine PCall.mk (fun _ => false) Try.func37 rfl rfl rfl (Ent.mk Try.func37 (by kernel_rfl) rfl) (by simp) (by simp) fun hfit => ?_
  simp at hfit
  simp [Try.f37]
  by_cases hl : a.length = b.length
  case neg =>
    have : ¬ a = b := fun e => hl (by rw [e])
    simp [hl, this]
  simp [hl]
  refine AW.loopF (lit := fun _ => false) (fun i : Nat => ⟨26, pat [(0, encCalls a), (1, encCalls b), (12, I b.length), (13, I i)], []⟩) (fun i => b.length - i) (fun i => i ≤ b.length ∧ a.take i = b.take i) 0 ?_ ?_ ?_
  · exact Wk.keep _ (by simp [hl])
  · simp
  · rintro i ⟨hi, ht⟩
    by_cases h : i < b.length
    case neg =>
      have := take_done ht (by omega) (by omega)
      simp [h, eq_true this]
    have ha : i < a.length := by omega
    simp [h]
    refine AW.draw Try.checked.mixed (fun _ => false) [] [] 9 (by kernel_rfl) ?_
    simp [h, ha]
    by_cases h2 : a[i] = b[i]
    · simp [callK, h2, wrap_nat ha hfit.1.1]
      exact ⟨i + 1, Wk.keep _ (by simp), ⟨by omega, take_step ht ha h h2⟩, by omega⟩
    · have : ¬ a = b := fun e => by subst e; exact h2 rfl
      simp [callK, h2, this]

theorem opsSame_ok (a b : ReplyR) : PCall Try.prog 40 [.agg a.enc, .agg b.enc] (B (decide (a = b))) := by
  refine PCall.mk (fun _ => false) Try.func40 rfl rfl rfl (Ent.mk Try.func40 (by kernel_rfl) rfl) (by simp) (by simp) fun hfit => ?_
  simp only [ReplyR.eq_iff]
  simp [ReplyR.enc, Try.f40]
  repeat' (first
    | (refine condK_ndec (fun h e => ?_) (fun h e => ?_) <;> first | (exfalso; first | omega | exact h (by assumption) | exact absurd h (by assumption)) | simp [e])
    | (refine condK_dec (fun h e => ?_) (fun h e => ?_) <;> first | (exfalso; first | omega | exact h (by assumption) | exact absurd h (by assumption)) | simp [e])
    | (refine gdK_ndec (fun h e => ?_) (fun h e => ?_) <;> first | (exfalso; first | omega | exact h (by assumption) | exact absurd h (by assumption)) | simp [e])
    | (refine gdK_dec (fun h e => ?_) (fun h e => ?_) <;> first | (exfalso; first | omega | exact h (by assumption) | exact absurd h (by assumption)) | simp [e])
    | (refine gdD_ndec (fun h e => ?_) (fun h e => ?_) <;> first | (exfalso; first | omega | exact h (by assumption) | exact absurd h (by assumption)) | simp [e])
    | (refine gdD_dec (fun h e => ?_) (fun h e => ?_) <;> first | (exfalso; first | omega | exact h (by assumption) | exact absurd h (by assumption)) | simp [e])
    | (refine AInv.pure (eqNames_ok a.names b.names) ?_ ?_; (focus (first | rfl | (simp; done))); try simp)
    | (refine ADcall.pure (eqNames_ok a.names b.names) ?_ ?_; (focus (first | rfl | (simp; done))); try simp)
    | (rw [if_pos (by first | omega | (simp only [maxLen]; omega))]; try simp)
    | (rw [if_neg (by first | omega | (simp only [maxLen]; omega))]; try simp)
    | (rw [frzOwn_neat (by simp) (by simp <;> omega)]; try simp)
    | (rw [fzOwn_neat (by simp) (by simp <;> omega)]; try simp)
    | (refine condK_nb (fun h e => ?_) (fun h e => ?_) <;> first | (exfalso; first | omega | exact h (by assumption) | exact absurd h (by assumption)) | simp [e])
    | (refine condK_b (fun h e => ?_) (fun h e => ?_) <;> first | (exfalso; first | omega | exact h (by assumption) | exact absurd h (by assumption)) | simp [e])
    | (refine gdK_nb (fun h e => ?_) (fun h e => ?_) <;> first | (exfalso; first | omega | exact h (by assumption) | exact absurd h (by assumption)) | simp [e])
    | (refine gdD_nb (fun h e => ?_) (fun h e => ?_) <;> first | (exfalso; first | omega | exact h (by assumption) | exact absurd h (by assumption)) | simp [e])
    | (refine gdK_b (fun h e => ?_) (fun h e => ?_) <;> first | (exfalso; first | omega | exact h (by assumption) | exact absurd h (by assumption)) | simp [e])
    | (refine gdD_b (fun h e => ?_) (fun h e => ?_) <;> first | (exfalso; first | omega | exact h (by assumption) | exact absurd h (by assumption)) | simp [e]))

theorem eqReplies_ok (a b : List ReplyR) : PCall Try.prog 39 [encReplies a, encReplies b, .fn 40 []] (B (decide (a = b))) := by
  refine PCall.mk (fun _ => false) Try.func39 rfl rfl rfl (Ent.mk Try.func39 (by kernel_rfl) rfl) (by simp) (by simp) fun hfit => ?_
  simp at hfit
  simp [Try.f39]
  by_cases hl : a.length = b.length
  case neg =>
    have : ¬ a = b := fun e => hl (by rw [e])
    simp [hl, this]
  simp [hl]
  refine AW.loopF (lit := fun _ => false) (fun i : Nat => ⟨32, pat [(1, encReplies b), (2, .fn 40 []), (15, encReplies a), (16, I b.length), (17, I i)], []⟩) (fun i => b.length - i) (fun i => i ≤ b.length ∧ a.take i = b.take i) 0 ?_ ?_ ?_
  · exact Wk.keep _ (by simp [hl])
  · simp
  · rintro i ⟨hi, ht⟩
    by_cases h : i < b.length
    case neg =>
      have := take_done ht (by omega) (by omega)
      simp [h, eq_true this]
    have ha : i < a.length := by omega
    simp [h, ha, ReplyR.enc]
    refine AInv.pure (opsSame_ok a[i] b[i]) rfl ?_
    by_cases h2 : a[i] = b[i]
    · simp [h2, wrap_nat ha hfit.1.1]
      exact ⟨i + 1, Wk.cut 0 _ (by simp) (by simp) (by simp) (by simp), ⟨by omega, take_step ht ha h h2⟩, by omega⟩
    · have : ¬ a = b := fun e => by subst e; exact h2 rfl
      simp [h2, this]

theorem DoneR.eq_iff (a b : DoneR) : a = b ↔ a.seq = b.seq ∧ a.yes = b.yes ∧ a.e = b.e ∧ a.l = b.l := by
  cases a; cases b; simp
theorem same1_ok (a b : List CallR) : PCall Try.prog 36 [encCalls a, encCalls b] (B (decide (a = b))) := by
  refine PCall.mk (fun _ => false) Try.func36 rfl rfl rfl (Ent.mk Try.func36 (by kernel_rfl) rfl) (by simp) (by simp) fun hfit => ?_
  simp [Try.f36]
  repeat' (first
    | (refine condK_ndec (fun h e => ?_) (fun h e => ?_) <;> first | (exfalso; first | omega | exact h (by assumption) | exact absurd h (by assumption)) | simp [e])
    | (refine condK_dec (fun h e => ?_) (fun h e => ?_) <;> first | (exfalso; first | omega | exact h (by assumption) | exact absurd h (by assumption)) | simp [e])
    | (refine gdK_ndec (fun h e => ?_) (fun h e => ?_) <;> first | (exfalso; first | omega | exact h (by assumption) | exact absurd h (by assumption)) | simp [e])
    | (refine gdK_dec (fun h e => ?_) (fun h e => ?_) <;> first | (exfalso; first | omega | exact h (by assumption) | exact absurd h (by assumption)) | simp [e])
    | (refine gdD_ndec (fun h e => ?_) (fun h e => ?_) <;> first | (exfalso; first | omega | exact h (by assumption) | exact absurd h (by assumption)) | simp [e])
    | (refine gdD_dec (fun h e => ?_) (fun h e => ?_) <;> first | (exfalso; first | omega | exact h (by assumption) | exact absurd h (by assumption)) | simp [e])
    | (refine AInv.pure (eqCalls_ok a b) ?_ ?_; (focus (first | rfl | (simp; done))); try simp)
    | (refine ADcall.pure (eqCalls_ok a b) ?_ ?_; (focus (first | rfl | (simp; done))); try simp)
    | (rw [if_pos (by first | omega | (simp only [maxLen]; omega))]; try simp)
    | (rw [if_neg (by first | omega | (simp only [maxLen]; omega))]; try simp)
    | (rw [frzOwn_neat (by simp) (by simp <;> omega)]; try simp)
    | (rw [fzOwn_neat (by simp) (by simp <;> omega)]; try simp)
    | (refine condK_nb (fun h e => ?_) (fun h e => ?_) <;> first | (exfalso; first | omega | exact h (by assumption) | exact absurd h (by assumption)) | simp [e])
    | (refine condK_b (fun h e => ?_) (fun h e => ?_) <;> first | (exfalso; first | omega | exact h (by assumption) | exact absurd h (by assumption)) | simp [e])
    | (refine gdK_nb (fun h e => ?_) (fun h e => ?_) <;> first | (exfalso; first | omega | exact h (by assumption) | exact absurd h (by assumption)) | simp [e])
    | (refine gdD_nb (fun h e => ?_) (fun h e => ?_) <;> first | (exfalso; first | omega | exact h (by assumption) | exact absurd h (by assumption)) | simp [e])
    | (refine gdK_b (fun h e => ?_) (fun h e => ?_) <;> first | (exfalso; first | omega | exact h (by assumption) | exact absurd h (by assumption)) | simp [e])
    | (refine gdD_b (fun h e => ?_) (fun h e => ?_) <;> first | (exfalso; first | omega | exact h (by assumption) | exact absurd h (by assumption)) | simp [e]))
theorem same2_ok (a b : DoneR) : PCall Try.prog 38 [.agg a.enc, .agg b.enc] (B (decide (a = b))) := by
  refine PCall.mk (fun _ => false) Try.func38 rfl rfl rfl (Ent.mk Try.func38 (by kernel_rfl) rfl) (by simp) (by simp) fun hfit => ?_
  simp only [DoneR.eq_iff]
  simp [DoneR.enc, Try.f38]
  repeat' (first
    | (refine condK_ndec (fun h e => ?_) (fun h e => ?_) <;> first | (exfalso; first | omega | exact h (by assumption) | exact absurd h (by assumption)) | simp [e])
    | (refine condK_dec (fun h e => ?_) (fun h e => ?_) <;> first | (exfalso; first | omega | exact h (by assumption) | exact absurd h (by assumption)) | simp [e])
    | (refine gdK_ndec (fun h e => ?_) (fun h e => ?_) <;> first | (exfalso; first | omega | exact h (by assumption) | exact absurd h (by assumption)) | simp [e])
    | (refine gdK_dec (fun h e => ?_) (fun h e => ?_) <;> first | (exfalso; first | omega | exact h (by assumption) | exact absurd h (by assumption)) | simp [e])
    | (refine gdD_ndec (fun h e => ?_) (fun h e => ?_) <;> first | (exfalso; first | omega | exact h (by assumption) | exact absurd h (by assumption)) | simp [e])
    | (refine gdD_dec (fun h e => ?_) (fun h e => ?_) <;> first | (exfalso; first | omega | exact h (by assumption) | exact absurd h (by assumption)) | simp [e])
    | (refine AInv.pure (eqReplies_ok a.l b.l) ?_ ?_; (focus (first | rfl | (simp; done))); try simp)
    | (refine ADcall.pure (eqReplies_ok a.l b.l) ?_ ?_; (focus (first | rfl | (simp; done))); try simp)
    | (rw [if_pos (by first | omega | (simp only [maxLen]; omega))]; try simp)
    | (rw [if_neg (by first | omega | (simp only [maxLen]; omega))]; try simp)
    | (rw [frzOwn_neat (by simp) (by simp <;> omega)]; try simp)
    | (rw [fzOwn_neat (by simp) (by simp <;> omega)]; try simp)
    | (refine condK_nb (fun h e => ?_) (fun h e => ?_) <;> first | (exfalso; first | omega | exact h (by assumption) | exact absurd h (by assumption)) | simp [e])
    | (refine condK_b (fun h e => ?_) (fun h e => ?_) <;> first | (exfalso; first | omega | exact h (by assumption) | exact absurd h (by assumption)) | simp [e])
    | (refine gdK_nb (fun h e => ?_) (fun h e => ?_) <;> first | (exfalso; first | omega | exact h (by assumption) | exact absurd h (by assumption)) | simp [e])
    | (refine gdD_nb (fun h e => ?_) (fun h e => ?_) <;> first | (exfalso; first | omega | exact h (by assumption) | exact absurd h (by assumption)) | simp [e])
    | (refine gdK_b (fun h e => ?_) (fun h e => ?_) <;> first | (exfalso; first | omega | exact h (by assumption) | exact absurd h (by assumption)) | simp [e])
    | (refine gdD_b (fun h e => ?_) (fun h e => ?_) <;> first | (exfalso; first | omega | exact h (by assumption) | exact absurd h (by assumption)) | simp [e]))

theorem eqJobs_ok (a b : List (List CallR)) : PCall Try.prog 41 [enc1 encCalls a, enc1 encCalls b, .fn 36 []] (B (decide (a = b))) := by
  refine PCall.mk (fun _ => false) Try.func41 rfl rfl rfl (Ent.mk Try.func41 (by kernel_rfl) rfl) (by simp) (by simp) fun hfit => ?_
  simp at hfit
  simp [Try.f41]
  by_cases hl : a.length = b.length
  case neg =>
    have : ¬ a = b := fun e => hl (by rw [e])
    simp [hl, this]
  simp [hl]
  refine AW.loopF (lit := fun _ => false) (fun i : Nat => ⟨32, pat [(1, enc1 encCalls b), (2, .fn 36 []), (15, enc1 encCalls a), (16, I b.length), (17, I i)], []⟩) (fun i => b.length - i) (fun i => i ≤ b.length ∧ a.take i = b.take i) 0 ?_ ?_ ?_
  · exact Wk.keep _ (by simp [hl])
  · simp
  · rintro i ⟨hi, ht⟩
    by_cases h : i < b.length
    case neg =>
      have := take_done ht (by omega) (by omega)
      simp [h, eq_true this]
    have ha : i < a.length := by omega
    simp [h, ha]
    refine AInv.pure (same1_ok a[i] b[i]) rfl ?_
    by_cases h2 : a[i] = b[i]
    · simp [h2, wrap_nat ha hfit.1.1]
      exact ⟨i + 1, Wk.cut 0 _ (by simp) (by simp) (by simp) (by simp), ⟨by omega, take_step ht ha h h2⟩, by omega⟩
    · have : ¬ a = b := fun e => by subst e; exact h2 rfl
      simp [h2, this]

theorem eqTold_ok (a b : List DoneR) : PCall Try.prog 42 [encL DoneR.enc a, encL DoneR.enc b, .fn 38 []] (B (decide (a = b))) := by
  refine PCall.mk (fun _ => false) Try.func42 rfl rfl rfl (Ent.mk Try.func42 (by kernel_rfl) rfl) (by simp) (by simp) fun hfit => ?_
  simp at hfit
  simp [Try.f42]
  by_cases hl : a.length = b.length
  case neg =>
    have : ¬ a = b := fun e => hl (by rw [e])
    simp [hl, this]
  simp [hl]
  refine AW.loopF (lit := fun _ => false) (fun i : Nat => ⟨32, pat [(1, encL DoneR.enc b), (2, .fn 38 []), (15, encL DoneR.enc a), (16, I b.length), (17, I i)], []⟩) (fun i => b.length - i) (fun i => i ≤ b.length ∧ a.take i = b.take i) 0 ?_ ?_ ?_
  · exact Wk.keep _ (by simp [hl])
  · simp
  · rintro i ⟨hi, ht⟩
    by_cases h : i < b.length
    case neg =>
      have := take_done ht (by omega) (by omega)
      simp [h, eq_true this]
    have ha : i < a.length := by omega
    simp [h, ha, DoneR.enc]
    refine AInv.pure (same2_ok a[i] b[i]) rfl ?_
    by_cases h2 : a[i] = b[i]
    · simp [h2, wrap_nat ha hfit.1.1]
      exact ⟨i + 1, Wk.cut 0 _ (by simp) (by simp) (by simp) (by simp), ⟨by omega, take_step ht ha h h2⟩, by omega⟩
    · have : ¬ a = b := fun e => by subst e; exact h2 rfl
      simp [h2, this]

theorem cliSame_ok (a b : ClientR) : PCall Try.prog 27 [.agg a.enc, .agg b.enc] (B (decide (a = b))) := by
  refine PCall.mk (fun _ => false) Try.func27 rfl rfl rfl (Ent.mk Try.func27 (by kernel_rfl) rfl) (by simp) (by simp) fun hfit => ?_
  simp only [ClientR.eq_iff]
  simp [ClientR.enc, Try.f27]
  repeat' (first
    | (refine condK_ndec (fun h e => ?_) (fun h e => ?_) <;> first | (exfalso; first | omega | exact h (by assumption) | exact absurd h (by assumption)) | simp [e])
    | (refine condK_dec (fun h e => ?_) (fun h e => ?_) <;> first | (exfalso; first | omega | exact h (by assumption) | exact absurd h (by assumption)) | simp [e])
    | (refine gdK_ndec (fun h e => ?_) (fun h e => ?_) <;> first | (exfalso; first | omega | exact h (by assumption) | exact absurd h (by assumption)) | simp [e])
    | (refine gdK_dec (fun h e => ?_) (fun h e => ?_) <;> first | (exfalso; first | omega | exact h (by assumption) | exact absurd h (by assumption)) | simp [e])
    | (refine gdD_ndec (fun h e => ?_) (fun h e => ?_) <;> first | (exfalso; first | omega | exact h (by assumption) | exact absurd h (by assumption)) | simp [e])
    | (refine gdD_dec (fun h e => ?_) (fun h e => ?_) <;> first | (exfalso; first | omega | exact h (by assumption) | exact absurd h (by assumption)) | simp [e])
    | (refine AInv.pure (eqJobs_ok a.jobs b.jobs) ?_ ?_; (focus (first | rfl | (simp; done))); try simp)
    | (refine ADcall.pure (eqJobs_ok a.jobs b.jobs) ?_ ?_; (focus (first | rfl | (simp; done))); try simp)
    | (refine AInv.pure (eqTold_ok a.told b.told) ?_ ?_; (focus (first | rfl | (simp; done))); try simp)
    | (refine ADcall.pure (eqTold_ok a.told b.told) ?_ ?_; (focus (first | rfl | (simp; done))); try simp)
    | (refine AInv.pure (eqReplies_ok a.now b.now) ?_ ?_; (focus (first | rfl | (simp; done))); try simp)
    | (refine ADcall.pure (eqReplies_ok a.now b.now) ?_ ?_; (focus (first | rfl | (simp; done))); try simp)
    | (rw [if_pos (by first | omega | (simp only [maxLen]; omega))]; try simp)
    | (rw [if_neg (by first | omega | (simp only [maxLen]; omega))]; try simp)
    | (rw [frzOwn_neat (by simp) (by simp <;> omega)]; try simp)
    | (rw [fzOwn_neat (by simp) (by simp <;> omega)]; try simp)
    | (refine condK_nb (fun h e => ?_) (fun h e => ?_) <;> first | (exfalso; first | omega | exact h (by assumption) | exact absurd h (by assumption)) | simp [e])
    | (refine condK_b (fun h e => ?_) (fun h e => ?_) <;> first | (exfalso; first | omega | exact h (by assumption) | exact absurd h (by assumption)) | simp [e])
    | (refine gdK_nb (fun h e => ?_) (fun h e => ?_) <;> first | (exfalso; first | omega | exact h (by assumption) | exact absurd h (by assumption)) | simp [e])
    | (refine gdD_nb (fun h e => ?_) (fun h e => ?_) <;> first | (exfalso; first | omega | exact h (by assumption) | exact absurd h (by assumption)) | simp [e])
    | (refine gdK_b (fun h e => ?_) (fun h e => ?_) <;> first | (exfalso; first | omega | exact h (by assumption) | exact absurd h (by assumption)) | simp [e])
    | (refine gdD_b (fun h e => ?_) (fun h e => ?_) <;> first | (exfalso; first | omega | exact h (by assumption) | exact absurd h (by assumption)) | simp [e]))
end Go.Proofs.Ytpejmbffoklliaa
