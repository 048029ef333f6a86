/- What the laws of layer 18 compute. -/
import Derived.Test.YtpejmbffoklliaaCliW
import Derived.Test.YtpejmbffoklliaaR18W
import Derived.Test.YtpejmbffoklliaaCliT
set_option linter.unusedVariables false
set_option linter.unusedSimpArgs false
namespace Go.Proofs.Ytpejmbffoklliaa
open Go.Cx Tab
set_option maxHeartbeats 400000
set_option maxRecDepth 4000

def goodS (c : ClientR) : Bool := fewS c && rightS c
theorem fewS_told {c : ClientR} (h : fewS c = true) : c.told.length ≤ 30 ∧ c.now.length ≤ 40 ∧ c.jobs.length ≤ 20 := by
  simp only [fewS, Bool.and_eq_true, decide_eq_true_eq] at h
  omega
theorem good_ok (c : ClientR) : PCall Try.prog 11 [.agg c.enc] (B (goodS c)) := by
  refine PCall.mk (fun _ => false) Try.func11 rfl rfl rfl (Ent.mk Try.func11 (by kernel_rfl) rfl) (by simp) (by simp) fun hfit => ?_
  simp [Try.f11, ClientR.enc]
  refine AInv.pure (few_ok c) rfl ?_
  cases h : fewS c with
  | false => simp [goodS, h]
  | true =>
    simp
    refine AInv.pure (right_ok c (by have := fewS_told h; omega)) rfl ?_
    simp [goodS, h]

def rsp0 (kind n : Int) : RspR := ⟨kind, 1, 1, 1, n, ⟨0, 0, 0, 0, .empty, []⟩⟩
def cs : Nat → ClientR
  | 0 => ⟨1, 1, 1, [[⟨15, 0, 0, 0, 0, .empty, .empty, .empty⟩]], 0, 0, 0, [], []⟩
  | i + 1 => hearS (cs i) (rsp0 (sayS (cs i)).1.kind (sayS (cs i)).1.n)
theorem cs_ok : ∀ i, i < 4 → (sayS (cs i)).2 = true ∧ [1, 2, 3, 6][i]? = some (sayS (cs i)).1.kind ∧ (cs i).told.length ≤ 1000000 ∧ (cs i).now.length ≤ 1000000 ∧ ((cs i).phase = 1 → 0 ≤ (cs i).n ∧ (cs i).n < (jobS (cs i)).length) := by decide
theorem cs_end : (sayS (cs 4)).2 = false ∧ (cs 4).phase ≠ 1 ∧ (cs 4).told.length = 1 ∧ ((cs 4).told[0]?).map (fun d => (d.yes, d.l.length)) = some (true, 1) := by decide

theorem shown_ok : PCall Try.prog 10 [] (B true) := by
  refine PCall.mk (fun _ => false) Try.func10 rfl rfl rfl (Ent.mk Try.func10 (by kernel_rfl) rfl) (by simp) (by simp) fun hfit => ?_
  simp [Try.f10]
  refine AInv.give [] (new_ok 1 1 [[⟨15, 0, 0, 0, 0, .empty, .empty, .empty⟩]]) ?_ ?_
  · simp [CallR.enc]
  have e0 : newS 1 1 [[⟨15, 0, 0, 0, 0, .empty, .empty, .empty⟩]] = (cs 0, 0) := by decide
  rw [e0]
  simp [ClientR.enc]
  refine AW.loopF (lit := fun _ => false) (fun i : Nat => ⟨77, pat [(1, .ptr 0 0 0), (2, I 0), (3, .sl true 4 [I 1, I 2, I 3, I 6]), (4, I i)], [.cells 0 (cs i).enc]⟩) (fun i => 4 - i) (fun i => i ≤ 4) 0 ?_ ?_ ?_
  · exact Wk.keep _ (by simp)
  · simp
  intro i hi
  simp [ClientR.enc]
  by_cases h : i < 4
  · obtain ⟨h1, h2, h3, h4, h5⟩ := cs_ok i h
    simp [h]
    refine AInv.pure (say_ok (cs i) h5) rfl ?_
    simp [h1, MsgR.enc, CallR.enc]
    refine AW.draw Try.checked.mixed (fun _ => false) [] [] 11 (by kernel_rfl) ?_
    have h2' : ([I 1, I 2, I 3, I 6] : List AV)[i]'(by simpa using h) = I (sayS (cs i)).1.kind := by
      have := congrArg (Option.map I) h2
      rw [← List.getElem?_map] at this
      have := (List.getElem?_eq_some_iff.1 this)
      exact this.2
    simp [h, h1, h2']
    refine AInv.give [] (hear_ok (cs i) (rsp0 (sayS (cs i)).1.kind (sayS (cs i)).1.n) h5 h3 h4) ?_ ?_
    · simp [ClientR.enc, rsp0, RspR.enc, ReplyR.enc]
    rw [show hearS (cs i) (rsp0 (sayS (cs i)).1.kind (sayS (cs i)).1.n) = cs (i + 1) from rfl]
    simp [ClientR.enc, wrap_nat h (by simp [maxLen])]
    refine ⟨i + 1, Wk.cut 1 _ (by simp) (by simp) (by simp) (by simp), by omega, by omega⟩
  · have hi4 : i = 4 := by omega
    subst hi4
    obtain ⟨h1, h2, h3, h4⟩ := cs_end
    simp
    refine AInv.pure (say_ok (cs 4) fun h => absurd h h2) rfl ?_
    obtain ⟨d, hd⟩ : ∃ d, (cs 4).told = [d] := by
      match hx : (cs 4).told, h3 with
      | [d], _ => exact ⟨d, rfl⟩
    rw [hd] at h4
    simp at h4
    simp [h1, hd, MsgR.enc, CallR.enc, DoneR.enc, h4]

theorem good_right {c : ClientR} (h : goodS c = true) : fewS c = true ∧ RightP c := by
  simp only [goodS, Bool.and_eq_true] at h
  exact ⟨h.1, (right_iff c).1 h.2⟩

theorem stays_ok (c : ClientR) (r : RspR) (hs : c.seq < 9223372036854775808) : PCall Try.prog 3 [.agg c.enc, .agg r.enc] (B true) := by
  refine PCall.mk (fun _ => false) Try.func3 rfl rfl rfl (Ent.mk Try.func3 (by kernel_rfl) rfl) (by simp) (by simp) fun hfit => ?_
  simp [Try.f3, ClientR.enc, RspR.enc, ReplyR.enc]
  refine AInv.pure shown_ok rfl ?_
  simp
  refine AInv.pure (good_ok c) rfl ?_
  cases hg : goodS c with
  | false => simp
  | true =>
  simp
  by_cases hn : r.r.names.length ≤ 100
  case neg => simp [Nat.lt_of_not_le hn]
  simp [Nat.not_lt.2 hn]
  obtain ⟨hf, hr⟩ := good_right hg
  have hf := fewS_told hf
  have hk := hears c r (by have := hr.at_; omega)
  refine AInv.pure (hear_ok c r hr.inJob (by omega) (by omega)) rfl ?_
  have hs : c.seq < 9223372036854775807 := hr.seq_lt hs (by omega)
  have hR : RightP (hearS c r) := hr.hears hs (by omega) hk
  obtain ⟨k1, k2, k3, k4⟩ := hk.keeps
  generalize hearS c r = k at *
  have hw : IntKind.i64.wrap ((c.told.length : Int) + 1) = (c.told.length : Int) + 1 := wrap_id (by omega) (by omega)
  have hlen : c.told.length ≤ k.told.length ∧ k.told.length ≤ c.told.length + 1 := by
    rcases k4 with h | ⟨d, h⟩ <;> rw [h] <;> simp
  have htake : k.told.take c.told.length = c.told := by
    rcases k4 with h | ⟨d, h⟩ <;> rw [h] <;> simp
  have hRb := (right_iff k).2 hR
  have hb : ¬ ((c.told.length : Int) + 1 < k.told.length) := by omega
  simp [ClientR.enc, hw, Nat.not_lt.2 hlen.1, hb]
  refine AW.draw Try.checked.mixed (fun _ => false) [] [] 44 (by kernel_rfl) ?_
  simp
  refine .pure (right_ok k (by omega)) rfl ?_
  simp [hRb, hlen.1]
  rw [take_flat (enc := DoneR.enc) (k := 4) (fun _ => rfl), htake]
  refine .pure (sameDone_ok c.told c.told) rfl ?_
  by_cases k5 : k.seq = c.seq
  · simp [k1, k2, k5]
  · have k6 := k3.resolve_left k5
    have k7 : ¬ w64 (c.seq + 1) = c.seq := by rw [← k6]; exact k5
    simp [k1, k2, k6, k7]
end Go.Proofs.Ytpejmbffoklliaa
