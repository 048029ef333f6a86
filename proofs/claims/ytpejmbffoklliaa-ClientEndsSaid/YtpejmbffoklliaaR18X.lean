/- What more of the reference's functions of layer 18 compute. -/
import Derived.Test.YtpejmbffoklliaaR18W
set_option linter.unusedVariables false
set_option linter.unusedSimpArgs false
namespace Go.Proofs.Ytpejmbffoklliaa
open Go.Cx Tab
set_option maxHeartbeats 400000
set_option maxRecDepth 4000

theorem rcalls_ok (a b : List CallR) : PCall Try.prog 30 [encCalls a, encCalls b] (B (decide (a = b))) := by
  refine PCall.mk (fun _ => false) Try.func30 rfl rfl rfl (Ent.mk Try.func30 (by kernel_rfl) rfl) (by simp) (by simp) fun hfit => ?_
  simp at hfit
  simp [Try.f30]
  by_cases hl : a.length = b.length
  case neg =>
    have : ¬ a = b := fun e => hl (by rw [e])
    simp [hl, this]
  simp [hl]
  refine AW.loopF (lit := fun _ => false) (fun i : Nat => ⟨26, pat [(0, encCalls a), (1, encCalls b), (5, I i)], []⟩) (fun i => b.length - i) (fun i => i ≤ b.length ∧ a.take i = b.take i) 0 ?_ ?_ ?_
  · exact Wk.keep _ (by simp)
  · simp
  · rintro i ⟨hi, ht⟩
    simp
    by_cases h : i < a.length
    case neg =>
      have := take_done ht (by omega) (by omega)
      simp [h, eq_true this]
    have hb : i < b.length := by omega
    simp [h]
    refine AW.draw Try.checked.mixed (fun _ => false) [] [] 9 (by kernel_rfl) ?_
    by_cases h2 : a[i] = b[i]
    · simp [h, hb, callK, h2, wrap_nat h hfit.1.1]
      exact ⟨i + 1, Wk.keep _ (by simp), ⟨by omega, take_step ht h hb h2⟩, by omega⟩
    · have : ¬ a = b := fun e => by subst e; exact h2 rfl
      simp [h, hb, callK, h2, this]

theorem ClientR.eq_iff (a b : ClientR) : a = b ↔ a.me = b.me ∧ a.epoch = b.epoch ∧ a.seq = b.seq ∧ a.phase = b.phase ∧ a.n = b.n ∧ a.stamp = b.stamp ∧ a.jobs = b.jobs ∧ a.told = b.told ∧ a.now = b.now := by
  cases a; cases b; simp only [ClientR.mk.injEq]
  constructor
  · rintro ⟨a, b, c, d, e, f, g, h, i⟩; exact ⟨a, b, c, e, f, g, d, h, i⟩
  · rintro ⟨a, b, c, e, f, g, d, h, i⟩; exact ⟨a, b, c, d, e, f, g, h, i⟩

theorem rsame_ok (a b : ClientR) : PCall Try.prog 15 [.agg a.enc, .agg b.enc] (B (decide (a = b))) := by
  refine PCall.mk (fun _ => false) Try.func15 rfl rfl rfl (Ent.mk Try.func15 (by kernel_rfl) rfl) (by simp) (by simp) fun hfit => ?_
  simp [ClientR.enc] at hfit
  simp only [ClientR.eq_iff]
  simp [Try.f15, ClientR.enc]
  by_cases h1 : a.me = b.me
  case neg => simp [h1]
  by_cases h2 : a.epoch = b.epoch
  case neg => simp [h1, h2]
  by_cases h3 : a.seq = b.seq
  case neg => simp [h1, h2, h3]
  by_cases h4 : a.phase = b.phase
  case neg => simp [h1, h2, h3, h4]
  by_cases h5 : a.n = b.n
  case neg => simp [h1, h2, h3, h4, h5]
  by_cases h6 : a.stamp = b.stamp
  case neg => simp [h1, h2, h3, h4, h5, h6]
  by_cases hl : a.jobs.length = b.jobs.length
  case neg =>
    have : ¬ a.jobs = b.jobs := fun e => hl (by rw [e])
    simp [h1, h2, h3, h4, h5, h6, hl, this]
  simp [eq_true h1, eq_true h2, eq_true h3, eq_true h4, eq_true h5, eq_true h6, eq_true hl]
  refine AW.loopF (lit := fun _ => false) (fun i : Nat => ⟨92, pat [(2, .ptr 0 0 0), (3, .ptr 1 0 0), (5, I i)], [.cells 0 a.enc, .cells 0 b.enc]⟩) (fun i => b.jobs.length - i) (fun i => i ≤ b.jobs.length ∧ a.jobs.take i = b.jobs.take i) 0 ?_ ?_ ?_
  · exact Wk.keep _ (by simp)
  · simp
  rintro i ⟨hi, ht⟩
  simp [ClientR.enc]
  by_cases h : i < a.jobs.length
  case neg =>
    have hj := take_done ht (by omega) (by omega)
    simp [h, eq_true hj]
    refine AInv.pure (sameDone_ok a.told b.told) rfl ?_
    simp
    refine AInv.pure (all_ok a.now b.now) rfl ?_
    by_cases t1 : a.told = b.told
    · simp [eq_true t1]
    · simp [t1]
  have hb : i < b.jobs.length := by omega
  simp [h]
  refine AW.draw Try.checked.mixed (fun _ => false) [] [] 12 (by kernel_rfl) ?_
  simp [h, hb]
  refine .pure (rcalls_ok a.jobs[i] b.jobs[i]) rfl ?_
  by_cases e1 : a.jobs[i] = b.jobs[i]
  · simp [eq_true e1, wrap_nat h hfit.1.1.1]
    exact ⟨i + 1, Wk.keep _ (by simp [ClientR.enc]), ⟨by omega, take_step ht h hb e1⟩, by omega⟩
  · have : ¬ a.jobs = b.jobs := fun e => by
      have : a.jobs[i]? = b.jobs[i]? := by rw [e]
      rw [List.getElem?_eq_getElem h, List.getElem?_eq_getElem hb] at this
      exact e1 (Option.some.inj this)
    simp [e1, this]
end Go.Proofs.Ytpejmbffoklliaa
