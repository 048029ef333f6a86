/- ClientEnds, walked. -/
import Derived.Test.YtpejmbffoklliaaLawR18
import Derived.Test.YtpejmbffoklliaaCliV
set_option linter.unusedVariables false
set_option linter.unusedSimpArgs false
namespace Go.Proofs.Ytpejmbffoklliaa
open Go.Cx Tab
set_option maxHeartbeats 400000
set_option maxRecDepth 40000

theorem sumF_le : ∀ (l : List (List CallR)), (∀ x ∈ l, x.length ≤ 30) → sumF l ≤ l.length * 33
  | [], _ => by simp [sumF]
  | x :: l, h => by
    have h1 := sumF_le l fun y hy => h y (by simp [hy])
    have h2 := h x (by simp)
    simp only [sumF, List.length_cons]; omega
theorem smallS_len {l : List CallR} (h : smallS l = true) : l.length ≤ 30 := by
  simp only [smallS, Bool.and_eq_true, decide_eq_true_eq] at h; exact h.2
theorem sumF_take (l : List (List CallR)) (k : Nat) (h : k < l.length) : sumF (l.take (k + 1)) = sumF (l.take k) + (l[k].length + 3) := by
  have : ∀ (a : List (List CallR)) (x : List CallR), sumF (a ++ [x]) = sumF a + (x.length + 3) := by
    intro a x
    induction a with
    | nil => simp [sumF]
    | cons y a ih => simp only [List.cons_append, sumF, ih]; omega
  rw [List.take_succ_eq_append_getElem h, this]
theorem sumF_take_le (l : List (List CallR)) (h : ∀ x ∈ l, x.length ≤ 30) (k : Nat) : sumF (l.take k) ≤ l.length * 33 := by
  have h1 := sumF_le (l.take k) fun x hx => h x (List.mem_of_mem_take hx)
  have h2 : (l.take k).length ≤ l.length := by simp; omega
  have := Nat.mul_le_mul_right 33 h2
  omega

theorem ends_ok (me epoch : Int) (jobs : List (List CallR)) : PCall Try.prog 5 [I me, I epoch, enc1 encCalls jobs] (B true) := by
  refine PCall.mk (fun _ => false) Try.func5 rfl rfl rfl (Ent.mk Try.func5 (by kernel_rfl) rfl) (by simp) (by simp) fun hfit => ?_
  simp [Try.f5]
  refine AInv.pure shown_ok rfl ?_
  simp
  refine AInv.pure (new_ok me epoch jobs) rfl ?_
  by_cases h1 : me < 0
  · simp [newS, h1, ClientR.enc]
  by_cases h2 : epoch < 1
  · simp [newS, h1, h2, ClientR.enc]
  have he : (newS me epoch jobs).2 = 0 := by simp [newS, h1, h2]
  have hc : (newS me epoch jobs).1.jobs = jobs ∧ (newS me epoch jobs).1.me = me ∧ (newS me epoch jobs).1.epoch = epoch := by simp [newS, h1, h2]
  simp [ClientR.enc, he]
  refine AInv.pure (few_ok (newS me epoch jobs).1) rfl ?_
  cases hf : fewS (newS me epoch jobs).1 with
  | false => simp
  | true =>
  have hj : jobs.length ≤ 20 := by have := (fewS_told hf).2.2; rwa [hc.1] at this
  have hs : ∀ l ∈ jobs, l.length ≤ 30 := by
    simp only [fewS, Bool.and_eq_true, List.all_eq_true] at hf
    intro l hl
    exact smallS_len (hf.1.2 l (by rw [hc.1]; exact hl))
  obtain ⟨hE, hL⟩ := EndP.init (me := me) (epoch := epoch) (by omega) (by omega) hj hs
  generalize newS me epoch jobs = nw at *
  obtain ⟨c0, e0⟩ := nw
  simp only at *
  obtain ⟨hc1, hc2, hc3⟩ := hc
  simp
  refine AW.loopF (lit := fun _ => false) (fun i : Nat => ⟨121, pat [(0, I me), (1, I epoch), (2, enc1 encCalls jobs), (7, B true), (8, .ptr 0 0 0), (10, I (sumF (jobs.take i))), (11, I i)], [.cells 0 c0.enc]⟩) (fun i => jobs.length - i) (fun i => i ≤ jobs.length) 0 ?_ ?_ ?_
  · exact Wk.keep _ (by simp [sumF, ClientR.enc])
  · simp
  intro i hi
  simp [ClientR.enc]
  by_cases h : i < jobs.length
  · have hsum := sumF_take jobs i h
    have hle := sumF_take_le jobs hs (i + 1)
    have hw1 : IntKind.i64.wrap ((sumF (jobs.take i) : Int) + (jobs[i].length : Int)) = (sumF (jobs.take i) : Int) + (jobs[i].length : Int) := wrap_id (by omega) (by omega)
    have hw2 : IntKind.i64.wrap ((sumF (jobs.take i) : Int) + (jobs[i].length : Int) + 3) = (sumF (jobs.take (i + 1)) : Int) := by rw [wrap_id (by omega) (by omega)]; omega
    simp [h]
    simp [h, hw1, hw2, wrap_nat h (Nat.le_trans hj (by simp [maxLen]))]
    exact ⟨i + 1, Wk.keep _ (by simp [ClientR.enc]), by omega, by omega⟩
  have hi2 : i = jobs.length := by omega
  subst hi2
  have hle := sumF_le jobs hs
  simp
  refine AW.loopF (lit := fun _ => false) (fun x : Nat × ClientR => ⟨121, pat [(0, I me), (1, I epoch), (2, enc1 encCalls jobs), (7, B true), (8, .ptr 0 0 0), (10, I (sumF jobs)), (12, I x.1)], [.cells 0 x.2.enc]⟩) (fun x => leftE x.2) (fun x => x.1 + leftE x.2 = sumF jobs ∧ EndP x.2 ∧ x.2.jobs = jobs ∧ x.2.me = me ∧ x.2.epoch = epoch) (0, c0) ?_ ?_ ?_
  · exact Wk.keep _ (by simp [ClientR.enc])
  · exact ⟨by simp [hL], hE, hc1, hc2, hc3⟩
  rintro ⟨i, c⟩ ⟨hsum, hE, hcj, hcm, hce⟩
  simp only at hsum hE hcj hcm hce
  have hR := hE.right
  have hq := hE.seq_eq
  have hnow := hR.now
  have hb : c.told.length ≤ 1000000 ∧ c.now.length ≤ 1000000 := by
    have h1 := hE.jobs
    refine ⟨by omega, ?_⟩
    by_cases hp : c.phase = 1 ∨ c.phase = 2
    · have hl : c.told.length < c.jobs.length := by omega
      have := jobS_at (c := c) (by omega) hl
      have h2 := hE.small _ (List.getElem_mem hl)
      rw [← this] at h2
      omega
    · omega
  simp [ClientR.enc]
  by_cases h : i < sumF jobs
  · obtain ⟨k, hk⟩ : ∃ k, leftE c = k + 1 := ⟨leftE c - 1, by omega⟩
    obtain ⟨q1, q2, q3, q4, q5, q6⟩ := hE.step hk
    simp [h]
    refine AInv.pure (say_ok c hR.inJob) rfl ?_
    simp [q1, MsgR.enc, CallR.enc]
    refine AInv.give [] (hear_ok c (rspE c) hR.inJob hb.1 hb.2) ?_ ?_
    · simp [ClientR.enc, rspE, RspR.enc, ReplyR.enc, reply0, hcm, hce]
    rw [show hearS c (rspE c) = stepE c from rfl]
    simp [ClientR.enc, wrap_nat h (by simp only [maxLen]; omega)]
    exact ⟨i + 1, stepE c, Wk.cut 1 _ (by simp) (by simp) (by simp) (by simp [ClientR.enc]), ⟨by omega, q2, by rw [q4, hcj], by rw [q5, hcm], by rw [q6, hce]⟩, by omega⟩
  obtain ⟨f1, f2, f3⟩ := hE.fin (by omega)
  simp [h]
  refine AInv.pure (say_ok c hR.inJob) rfl ?_
  rw [hcj] at f2
  simp [f1, f2, MsgR.enc, CallR.enc]
  refine AW.loopF (lit := fun _ => false) (fun i : Nat => ⟨121, pat [(2, enc1 encCalls jobs), (7, B true), (8, .ptr 0 0 0), (17, I i)], [.cells 0 c.enc]⟩) (fun i => jobs.length - i) (fun i => i ≤ jobs.length) 0 ?_ ?_ ?_
  · exact Wk.cut 1 _ (by simp) (by simp) (by simp) (by simp [ClientR.enc])
  · simp
  intro j hj'
  simp [ClientR.enc]
  by_cases h : j < jobs.length
  · obtain ⟨g1, g2⟩ := hE.told j (by omega) (by rw [hcj]; exact h)
    simp only [hcj] at g2
    have hl : j < c.told.length := by omega
    simp [h]
    refine AW.draw Try.checked.mixed (fun _ => false) [] [] 22 (by kernel_rfl) ?_
    simp [h, hl, DoneR.enc, g1, g2, wrap_nat h (Nat.le_trans hj (by simp [maxLen]))]
    exact ⟨j + 1, Wk.keep _ (by simp [ClientR.enc]), by omega, by omega⟩
  · simp [h]
end Go.Proofs.Ytpejmbffoklliaa
