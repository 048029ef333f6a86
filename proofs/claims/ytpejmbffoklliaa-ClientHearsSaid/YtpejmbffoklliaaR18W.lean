/- What the reference's functions of layer 18 compute. -/
import Derived.Test.YtpejmbffoklliaaRefW
import Derived.Test.YtpejmbffoklliaaCliS
set_option linter.unusedVariables false
set_option linter.unusedSimpArgs false
namespace Go.Proofs.Ytpejmbffoklliaa
open Go.Cx Tab
set_option maxHeartbeats 400000
set_option maxRecDepth 4000

theorem long_ok (c : ClientR) : PCall Try.prog 29 [.agg c.enc] (I (jobS c).length) := by
  refine PCall.mk (fun _ => false) Try.func29 rfl rfl rfl (Ent.mk Try.func29 (by kernel_rfl) rfl) (by simp) (by simp) fun hfit => ?_
  simp [ClientR.enc, enc1] at hfit
  have hlen := maxLen_lt hfit.1.1
  simp [ClientR.enc, Try.f29]
  by_cases h : c.seq < 1
  · simp [h, jobS]
  by_cases h3 : (c.jobs.length : Int) < c.seq
  · simp [h, h3, jobS]
  have e := wrap_id (n := c.seq - 1) (by omega) (by omega)
  have e2 : ¬ (c.seq < 1 ∨ (c.jobs.length : Int) < c.seq) := by omega
  have e4 : c.seq.toNat - 1 < c.jobs.length := by omega
  have e5 : 0 ≤ c.seq - 1 ∧ c.seq - 1 < c.jobs.length := by omega
  have e6 : 1 ≤ c.seq := by omega
  simp [h, h3, e, e5, e4, jobS, e2, e6]

theorem small_ok (l : List CallR) : PCall Try.prog 32 [encCalls l] (B (smallS l)) := by
  refine PCall.mk (fun _ => false) Try.func32 rfl rfl rfl (Ent.mk Try.func32 (by kernel_rfl) rfl) (by simp) (by simp) fun hfit => ?_
  simp at hfit
  simp [Try.f32]
  refine AW.loopF (lit := fun _ => false) (fun x : Nat × Int => ⟨46, pat [(0, encCalls l), (3, I x.2), (4, I x.1)], []⟩) (fun x => l.length - x.1) (fun x => x.1 ≤ l.length ∧ smallGo (l.drop x.1) x.2 = smallGo l l.length) (0, l.length) ?_ ?_ ?_
  · exact Wk.keep _ (by simp)
  · simp
  · rintro ⟨i, n⟩ ⟨hi, ht⟩
    simp only at hi ht
    simp
    by_cases h : i < l.length
    case neg =>
      have : smallGo l l.length = n := by rw [← ht, List.drop_eq_nil_of_le (by omega)]; rfl
      by_cases h2 : n ≤ 2000
      · by_cases h3 : l.length ≤ 30
        · simp [h, h2, smallS, this]
        · simp [h, h2, smallS, this]
      · simp [h, h2, smallS, this]
    by_cases h2 : n ≤ 2000
    case neg =>
      have : smallGo l l.length = n := by rw [← ht, smallGo_big _ _ h2]
      simp [h, h2, smallS, this]
    simp [h, h2]
    refine AW.draw Try.checked.mixed (fun _ => false) [] [] 22 (by kernel_rfl) ?_
    simp [h, CallR.enc, wrap_nat h hfit.1]
    refine ⟨i + 1, _, Wk.keep _ (by simp; rfl), ⟨by omega, ?_⟩, by omega⟩
    rw [← ht, smallGo_step h n h2]

theorem few_ok (c : ClientR) : PCall Try.prog 18 [.agg c.enc] (B (fewS c)) := by
  refine PCall.mk (fun _ => false) Try.func18 rfl rfl rfl (Ent.mk Try.func18 (by kernel_rfl) rfl) (by simp) (by simp) fun hfit => ?_
  simp [Try.f18, ClientR.enc]
  by_cases h1 : c.jobs.length ≤ 20
  case neg => simp [fewS, h1, Nat.lt_of_not_le h1]
  by_cases h2 : c.told.length ≤ 30
  case neg => simp [fewS, h1, h2, Nat.lt_of_not_le h2, Nat.not_lt.2 h1]
  by_cases h3 : c.now.length ≤ 40
  case neg => simp [fewS, h1, h2, h3, Nat.lt_of_not_le h3, Nat.not_lt.2 h1, Nat.not_lt.2 h2]
  simp [Nat.not_lt.2 h1, Nat.not_lt.2 h2, Nat.not_lt.2 h3]
  refine AW.loopF (lit := fun _ => false) (fun i : Nat => ⟨52, pat [(1, .ptr 0 0 0), (3, I i)], [.cells 0 c.enc]⟩) (fun i => c.jobs.length - i) (fun i => i ≤ c.jobs.length ∧ ∀ x ∈ c.jobs.take i, smallS x = true) 0 ?_ ?_ ?_
  · exact Wk.keep _ (by simp)
  · simp
  rintro i ⟨hi, ht⟩
  simp [ClientR.enc]
  by_cases h : i < c.jobs.length
  · simp [h]
    refine AInv.pure (small_ok c.jobs[i]) rfl ?_
    cases h4 : smallS c.jobs[i] with
    | true =>
      simp [h4, wrap_nat h (Nat.le_trans h1 (by simp [maxLen]))]
      refine ⟨i + 1, Wk.keep _ (by simp), ⟨by omega, all_step ht h h4⟩, by omega⟩
    | false =>
      have : c.jobs.all smallS = false := List.all_eq_false.2 ⟨_, List.getElem_mem h, by simp [h4]⟩
      simp [h4, fewS, this]
  have hall : c.jobs.all smallS = true := List.all_eq_true.2 (all_done ht h)
  simp [h]
  refine AW.loopF (lit := fun _ => false) (fun i : Nat => ⟨52, pat [(1, .ptr 0 0 0), (5, I i)], [.cells 0 c.enc]⟩) (fun i => c.told.length - i) (fun i => i ≤ c.told.length ∧ ∀ x ∈ c.told.take i, x.l.length ≤ 40) 0 ?_ ?_ ?_
  · exact Wk.keep _ (by simp [ClientR.enc])
  · simp
  rintro j ⟨hj, hu⟩
  simp [ClientR.enc]
  by_cases h5 : j < c.told.length
  · simp [h5, DoneR.enc]
    by_cases h4 : (c.told[j]).l.length ≤ 40
    · simp [Nat.not_lt.2 h4, wrap_nat h5 (Nat.le_trans h2 (by simp [maxLen]))]
      refine ⟨j + 1, Wk.keep _ (by simp [ClientR.enc]), ⟨by omega, all_step hu h5 h4⟩, by omega⟩
    · have : (c.told.all fun d => decide (d.l.length ≤ 40)) = false := List.all_eq_false.2 ⟨_, List.getElem_mem h5, by simpa using h4⟩
      simp [Nat.lt_of_not_le h4, fewS, this]
  · have hall2 : (c.told.all fun d => decide (d.l.length ≤ 40)) = true := List.all_eq_true.2 fun x hx => by simpa using all_done hu h5 x hx
    simp [h5, fewS, h1, h2, h3, hall, hall2]

theorem right_ok (c : ClientR) (hl : c.told.length ≤ 1000000) : PCall Try.prog 13 [.agg c.enc] (B (rightS c)) := by
  refine PCall.mk (fun _ => false) Try.func13 rfl rfl rfl (Ent.mk Try.func13 (by kernel_rfl) rfl) (by simp) (by simp) fun hfit => ?_
  simp [Try.f13, ClientR.enc]
  by_cases h1 : c.me < 0
  · simp [h1, rightS, Int.not_le.2 h1]
  by_cases h2 : c.epoch < 1
  · simp [h1, h2, rightS, Int.not_le.2 h2]
  by_cases h3 : c.seq < 1
  · simp [h1, h2, h3, rightS, Int.not_le.2 h3]
  by_cases h4 : c.phase < 0
  · simp [h1, h2, h3, h4, rightS, Int.not_le.2 h4]
  by_cases h5 : 4 < c.phase
  · simp [h1, h2, h3, h4, h5, rightS, Int.not_le.2 h5]
  by_cases h6 : c.n = c.now.length
  case neg => simp [h1, h2, h3, h4, h5, h6, rightS]
  simp [h1, h2, h3, h4, h5, eq_true h6]
  have g1 := Int.not_lt.1 h1
  have g2 := Int.not_lt.1 h2
  have g3 := Int.not_lt.1 h3
  have g4 := Int.not_lt.1 h4
  have g5 := Int.not_lt.1 h5
  refine AW.loopF (lit := fun _ => false) (fun i : Nat => ⟨148, pat [(1, .ptr 0 0 0), (3, I i)], [.cells 0 c.enc]⟩) (fun i => c.told.length - i) (fun i => i ≤ c.told.length ∧ ∀ j (h : j < c.told.length), j < i → (c.told[j]).seq = 1 + j) 0 ?_ ?_ ?_
  · exact Wk.keep _ (by simp [ClientR.enc])
  · simp
  rintro i ⟨hi, ht⟩
  simp [ClientR.enc]
  by_cases h : i < c.told.length
  · have hw := wrap_nat h (Nat.le_trans hl (by simp [maxLen]))
    by_cases h7 : (c.told[i]).seq = 1 + i
    · have e : (c.told[i]).seq = ((i + 1 : Nat) : Int) := by omega
      simp [h, DoneR.enc, hw, e]
      refine ⟨i + 1, Wk.keep _ (by simp [ClientR.enc]), ⟨by omega, fun j hj hji => ?_⟩, by omega⟩
      rcases Nat.lt_or_ge j i with h8 | h8
      · exact ht j hj h8
      · have : j = i := by omega
        subst this; exact h7
    · have e : ¬ (c.told[i]).seq = (i : Int) + 1 := by omega
      have : seqOk 1 c.told = false := by
        cases hs : seqOk 1 c.told with
        | false => rfl
        | true => exact absurd ((seqOk_iff _ _).1 hs i h) h7
      simp [h, DoneR.enc, hw, e, rightS, this]
  have hseq : seqOk 1 c.told = true := (seqOk_iff _ _).2 fun j hj => ht j hj (by omega)
  have hR : rightS c = (decide (c.stamp ≠ 0 → c.phase = 1 ∨ c.phase = 2) &&
      (if c.phase = 3 then decide (c.n = 0 ∧ (c.told.length : Int) = c.seq ∧ c.told.length ≤ c.jobs.length)
       else decide ((c.told.length : Int) = w64 (c.seq - 1)) &&
        (if c.phase = 4 then decide (c.n = 0 ∧ c.told.length = c.jobs.length)
         else decide (c.told.length < c.jobs.length) && decide ((c.phase = 0 ∧ c.n = 0) ∨ (c.phase = 1 ∧ c.n < (jobS c).length) ∨ (c.phase = 2 ∧ c.n = (jobS c).length))))) := by
    simp [rightS, hseq, g1, g2, g3, g4, g5, eq_true h6]
  rw [hR]
  simp [h]
  have hph : c.phase = 0 ∨ c.phase = 1 ∨ c.phase = 2 ∨ c.phase = 3 ∨ c.phase = 4 := by omega
  by_cases s0 : c.stamp = 0
  · rcases hph with hp | hp | hp | hp | hp
    · by_cases a : (c.told.length : Int) = w64 (c.seq - 1)
      case neg => simp [s0, hp, a]
      by_cases b : c.told.length < c.jobs.length
      case neg => simp [s0, hp, eq_true a, b, Nat.not_lt.1 b]
      simp [s0, hp, eq_true a, b, Nat.not_le.2 b]
      refine AW.draw Try.checked.mixed (fun _ => false) [] [] 33 (by kernel_rfl) ?_
      by_cases d : c.n = 0
      case neg => simp [hp, d]
      simp [hp, d]
    · by_cases a : (c.told.length : Int) = w64 (c.seq - 1)
      case neg => simp [s0, hp, a]
      by_cases b : c.told.length < c.jobs.length
      case neg => simp [s0, hp, eq_true a, b, Nat.not_lt.1 b]
      simp [s0, hp, eq_true a, b, Nat.not_le.2 b]
      refine AW.draw Try.checked.mixed (fun _ => false) [] [] 33 (by kernel_rfl) ?_
      simp [hp]
      refine .pure (long_ok c) (by simp [ClientR.enc, hp, s0]) ?_
      by_cases d : c.n < (jobS c).length
      case neg => simp [d]
      simp [d]
    · by_cases a : (c.told.length : Int) = w64 (c.seq - 1)
      case neg => simp [s0, hp, a]
      by_cases b : c.told.length < c.jobs.length
      case neg => simp [s0, hp, eq_true a, b, Nat.not_lt.1 b]
      simp [s0, hp, eq_true a, b, Nat.not_le.2 b]
      refine AW.draw Try.checked.mixed (fun _ => false) [] [] 33 (by kernel_rfl) ?_
      simp [hp]
      refine .pure (long_ok c) (by simp [ClientR.enc, hp, s0]) ?_
      by_cases d : c.n = (jobS c).length
      case neg => simp [d]
      simp [eq_true d]
    · by_cases a : c.n = 0
      case neg => simp [s0, hp, a]
      by_cases b : (c.told.length : Int) = c.seq
      case neg => simp [s0, hp, a, b]
      by_cases d : c.told.length ≤ c.jobs.length
      case neg => simp [s0, hp, a, eq_true b, d]
      simp [s0, hp, a, eq_true b, d]
    · by_cases a : (c.told.length : Int) = w64 (c.seq - 1)
      case neg => simp [s0, hp, a]
      by_cases b : c.n = 0
      case neg => simp [s0, hp, eq_true a, b]
      by_cases d : c.told.length = c.jobs.length
      case neg => simp [s0, hp, eq_true a, b, d]
      simp [s0, hp, eq_true a, b, eq_true d]
  · rcases hph with hp | hp | hp | hp | hp
    · simp [s0, hp]
    · by_cases a : (c.told.length : Int) = w64 (c.seq - 1)
      case neg => simp [s0, hp, a]
      by_cases b : c.told.length < c.jobs.length
      case neg => simp [s0, hp, eq_true a, b, Nat.not_lt.1 b]
      simp [s0, hp, eq_true a, b, Nat.not_le.2 b]
      refine AW.draw Try.checked.mixed (fun _ => false) [] [] 33 (by kernel_rfl) ?_
      simp [hp]
      refine .pure (long_ok c) (by simp [ClientR.enc, hp, s0]) ?_
      by_cases d : c.n < (jobS c).length
      case neg => simp [d]
      simp [d]
    · by_cases a : (c.told.length : Int) = w64 (c.seq - 1)
      case neg => simp [s0, hp, a]
      by_cases b : c.told.length < c.jobs.length
      case neg => simp [s0, hp, eq_true a, b, Nat.not_lt.1 b]
      simp [s0, hp, eq_true a, b, Nat.not_le.2 b]
      refine AW.draw Try.checked.mixed (fun _ => false) [] [] 33 (by kernel_rfl) ?_
      simp [hp]
      refine .pure (long_ok c) (by simp [ClientR.enc, hp, s0]) ?_
      by_cases d : c.n = (jobS c).length
      case neg => simp [d]
      simp [eq_true d]
    · simp [s0, hp]
    · simp [s0, hp]

theorem sameDone_ok (a b : List DoneR) : PCall Try.prog 14 [encL DoneR.enc a, encL DoneR.enc b] (B (decide (a = b))) := by
  refine PCall.mk (fun _ => false) Try.func14 rfl rfl rfl (Ent.mk Try.func14 (by kernel_rfl) rfl) (by simp) (by simp) fun hfit => ?_
  simp at hfit
  simp [Try.f14]
  by_cases hl : a.length = b.length
  case neg =>
    have : ¬ a = b := fun e => hl (by rw [e])
    simp [hl, this]
  simp [hl]
  refine AW.loopF (lit := fun _ => false) (fun i : Nat => ⟨70, pat [(0, encL DoneR.enc a), (1, encL DoneR.enc b), (5, I i)], []⟩) (fun i => b.length - i) (fun i => i ≤ b.length ∧ a.take i = b.take i) 0 ?_ ?_ ?_
  · exact Wk.keep _ (by simp)
  · simp
  · rintro i ⟨hi, ht⟩
    simp
    by_cases h : i < a.length
    case neg =>
      have := take_done ht (by omega) (by omega)
      simp [h, eq_true this]
    have hb : i < b.length := by omega
    simp [h]
    refine AW.draw Try.checked.mixed (fun _ => false) [] [] 12 (by kernel_rfl) ?_
    simp [h, hb, DoneR.enc]
    refine .pure (all_ok (a[i]).l (b[i]).l) rfl ?_
    have bad : ¬ a[i] = b[i] → ¬ a = b := fun h2 e => by subst e; exact h2 rfl
    by_cases e1 : (a[i]).l = (b[i]).l
    case neg =>
      have := bad fun e => e1 (by rw [e])
      simp [e1]
      refine AW.draw Try.checked.mixed (fun _ => false) [] [] 41 (by kernel_rfl) ?_
      simp [this]
    simp [eq_true e1]
    refine AW.draw Try.checked.mixed (fun _ => false) [] [] 41 (by kernel_rfl) ?_
    by_cases e2 : (a[i]).seq = (b[i]).seq
    case neg =>
      have := bad fun e => e2 (by rw [e])
      simp [h, hb, DoneR.enc, e2, this]
    by_cases e3 : (a[i]).yes = (b[i]).yes
    case neg =>
      have := bad fun e => e3 (by rw [e])
      simp [h, hb, DoneR.enc, eq_true e2, e3, this]
    by_cases e4 : (a[i]).e = (b[i]).e
    case neg =>
      have := bad fun e => e4 (by rw [e])
      simp [h, hb, DoneR.enc, eq_true e2, eq_true e3, e4, this]
    have he : a[i] = b[i] := by
      cases hx : a[i]; cases hy : b[i]; rw [hx, hy] at e1 e2 e3 e4; simp_all
    simp [h, hb, DoneR.enc, eq_true e2, eq_true e3, eq_true e4, wrap_nat h hfit.1.1]
    exact ⟨i + 1, Wk.keep _ (by simp), ⟨by omega, take_step ht h hb he⟩, by omega⟩
end Go.Proofs.Ytpejmbffoklliaa
