/- ClientCalls, walked. -/
import Derived.Test.YtpejmbffoklliaaLawW18
import Derived.Test.YtpejmbffoklliaaR18X
import Derived.Test.YtpejmbffoklliaaCliU
set_option linter.unusedVariables false
set_option linter.unusedSimpArgs false
namespace Go.Proofs.Ytpejmbffoklliaa
open Go.Cx Tab
set_option maxHeartbeats 400000
set_option maxRecDepth 4000

theorem call_eqlE {P : Program} {t : TypeId} (ox oy : Operand) (ht : tflat P t = some callK) (hg : tagg P t = some true) (a b : CallR) : abin P .eql t ox oy (.agg [I a.kind, I a.ino, I a.to_, I a.at_, I a.many, S a.name, S a.name2, S a.text]) (.agg [I b.kind, I b.ino, I b.to_, I b.at_, I b.many, S b.name, S b.name2, S b.text]) = some (.val (.bool (decide (a = b)))) := call_eql ox oy ht hg a b

theorem calls_law_ok (c : ClientR) (q : ReplyR) (hs : c.seq < 9223372036854775808) : PCall Try.prog 7 [.agg c.enc, .agg q.enc] (B true) := by
  refine PCall.mk (fun _ => false) Try.func7 rfl rfl rfl (Ent.mk Try.func7 (by kernel_rfl) rfl) (by simp) (by simp) fun hfit => ?_
  simp [Try.f7, ClientR.enc, ReplyR.enc]
  refine AInv.pure shown_ok rfl ?_
  simp
  refine AInv.pure (good_ok c) rfl ?_
  cases hg : goodS c with
  | false => simp
  | true =>
  simp
  by_cases hn : q.names.length ≤ 100
  case neg => simp [Nat.lt_of_not_le hn]
  simp [Nat.not_lt.2 hn]
  obtain ⟨hf, hr⟩ := good_right hg
  have hf := fewS_told hf
  have hs : c.seq < 9223372036854775807 := hr.seq_lt hs (by omega)
  refine AInv.pure (say_ok c hr.inJob) rfl ?_
  cases h1 : (sayS c).2 with
  | false => simp [MsgR.enc, CallR.enc, h1]
  | true =>
  by_cases hp : c.phase = 1
  case neg =>
    have : ¬ (sayS c).1.kind = 2 := by have := say_phase h1; omega
    simp [MsgR.enc, CallR.enc, h1, this]
  have hm : sayS c = (msgS c 2 (w64 (c.n + 1)) c.stamp (callAt c), true) := by
    unfold sayS
    rw [if_neg (by omega), if_pos hp]
  have hj := hr.inJob hp
  have hc := hear_call hr hp (by omega) q
  simp [MsgR.enc, CallR.enc, hm, msgS]
  refine AInv.give [] (hear_ok c ⟨2, c.me, c.epoch, c.seq, w64 (c.n + 1), q⟩ hr.inJob (by omega) (by omega)) ?_ ?_
  · simp [ClientR.enc, RspR.enc, ReplyR.enc]
  rw [hc]
  have hR : RightP (callsS { c with now := c.now ++ [q], n := w64 (c.n + 1) }) := hr.hears hs (by omega) (.call (r := ⟨2, c.me, c.epoch, c.seq, w64 (c.n + 1), q⟩) hp)
  have hRb := (right_iff _).2 hR
  have hnow : (callsS { c with now := c.now ++ [q], n := w64 (c.n + 1) }).now = c.now ++ [q] := rfl
  have hnn : (callsS { c with now := c.now ++ [q], n := w64 (c.n + 1) }).n = w64 (c.n + 1) := rfl
  have hst : (callsS { c with now := c.now ++ [q], n := w64 (c.n + 1) }).stamp = c.stamp := rfl
  have htold : (callsS { c with now := c.now ++ [q], n := w64 (c.n + 1) }).told = c.told := rfl
  generalize callsS { c with now := c.now ++ [q], n := w64 (c.n + 1) } = k at *
  simp [ClientR.enc]
  refine AW.draw Try.checked.mixed (fun _ => false) [] [] 29 (by kernel_rfl) ?_
  have hq : ¬ (c.seq < 1 ∨ (c.jobs.length : Int) < c.seq) := fun h => by
    have : jobS c = [] := by simp [jobS, h]
    rw [this] at hj; simp at hj; omega
  have e4 : c.seq.toNat - 1 < c.jobs.length := by omega
  have ejob : jobS c = c.jobs[c.seq.toNat - 1] := by
    have e5 : (c.seq - 1).toNat = c.seq.toNat - 1 := by omega
    simp [jobS, hq, e5, e4]
  have e6 : 1 ≤ c.seq := by omega
  have e7 : IntKind.i64.wrap (c.seq - 1) = c.seq - 1 := wrap_id (by omega) (by omega)
  have e8 : IntKind.i64.wrap ((c.now.length : Int) + 1) = (c.now.length : Int) + 1 := wrap_id (by omega) (by omega)
  have e9 : ¬ (c.jobs.length : Int) < c.seq := by omega
  have e10 : 0 ≤ c.seq - 1 ∧ c.seq - 1 < (c.jobs.length : Int) := by omega
  have e11 : ¬ ((c.jobs[c.seq.toNat - 1]).length : Int) ≤ c.n := by rw [← ejob]; omega
  simp [hnow, e4, e6, e7, e8, e9, e10, e11]
  have e12 : c.n.toNat < (c.jobs[c.seq.toNat - 1]).length := by rw [← ejob]; omega
  have e13 : callAt c = (c.jobs[c.seq.toNat - 1])[c.n.toNat] := by
    simp only [callAt, ejob]
    rw [List.getElem?_eq_getElem e12]; rfl
  have e14 : 0 ≤ c.n ∧ c.n < ((c.jobs[c.seq.toNat - 1]).length : Int) := by rw [← ejob]; exact hj
  have e15 : 0 ≤ c.n := hj.1
  have e16 : c.n = (c.now.length : Int) := hr.now
  have e17 : c.n.toNat = c.now.length := by omega
  refine AW.draw Try.checked.mixed (fun _ => false) [] [] 62 (by kernel_rfl) ?_
  simp [hnow, hnn, hst, e4, e6, e7, e10, e14, e12, call_eqlE, CallR.enc, e13]
  have e18 : c.n < (c.now.length : Int) + 1 := by omega
  have e19 : List.take 6 (List.drop (c.n.toNat * 6) (List.flatMap ReplyR.enc c.now ++ q.enc)) = q.enc := by
    rw [e17, List.drop_left' (by simp)]; simp
  rw [if_pos e18, e19]
  simp
  refine .pure (reply_ok q q) (by simp [ReplyR.enc]) ?_
  simp [hnn, hst]
  refine .pure (right_ok k (by rw [htold]; omega)) (by simp [ClientR.enc, hnow, hnn, hst]) ?_
  simp [hRb]
end Go.Proofs.Ytpejmbffoklliaa
