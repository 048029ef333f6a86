/- What a client's functions compute. -/
import Derived.Test.YtpejmbffoklliaaTab
import Derived.Test.YtpejmbffoklliaaChecked
import Derived.Test.YtpejmbffoklliaaCliS
set_option linter.unusedVariables false
set_option linter.unusedSimpArgs false
namespace Go.Proofs.Ytpejmbffoklliaa
open Go.Cx Tab
set_option maxHeartbeats 400000
set_option maxRecDepth 4000

theorem job_ok (c : ClientR) : PCall Try.prog 31 [.agg c.enc] (encCalls (jobS c)) := by
  refine PCall.mk (fun _ => false) Try.func31 rfl rfl rfl (Ent.mk Try.func31 (by kernel_rfl) rfl) (by simp) (by simp) fun hfit => ?_
  simp [ClientR.enc, enc1] at hfit
  have hlen := maxLen_lt hfit.1.1
  simp [ClientR.enc, Try.f31]
  refine gdK_split _ _ _ (fun h => ?_) (fun h => ?_)
  · simp at h
    simp [enc1]
    refine condK_split _ _ (fun h3 => ?_) (fun h3 => ?_)
    · simp at h3
      simp [jobS, h3]
    · simp at h3
      have e := wrap_id (n := c.seq - 1) (by omega) (by omega)
      have e2 : ¬ (c.seq < 1 ∨ (c.jobs.length : Int) < c.seq) := by omega
      have e3 : (c.seq - 1).toNat < c.jobs.length := by omega
      simp [e]
      rw [if_pos (by omega)]
      simp
      rw [List.drop_eq_getElem_cons (by simpa using e3)]
      have e4 : c.seq.toNat - 1 < c.jobs.length := by omega
      simp [jobS, e2, e4]
  · simp at h
    simp [jobS, h]

theorem calls_ok (c : ClientR) : PCall Try.prog 44 [.agg c.enc] (.agg (callsS c).enc) := by
  refine PCall.mk (fun _ => false) Try.func44 rfl rfl rfl (Ent.mk Try.func44 (by kernel_rfl) rfl) (by simp) (by simp) fun hfit => ?_
  simp [ClientR.enc, Try.f44]
  refine AW.draw Try.checked.mixed (fun _ => false) [] [] 6 (by kernel_rfl) ?_
  simp
  refine .pure (job_ok { c with phase := 1 }) rfl ?_
  simp
  have e : jobS { c with phase := 1 } = jobS c := rfl
  rw [e]
  refine condK_split _ _ (fun h => ?_) (fun h => ?_)
  · simp at h
    simp [callsS, h]
  · simp at h
    simp [callsS, h]

theorem over_ok (c : ClientR) (yes : Bool) (e : Int) (hl : c.told.length ≤ 1000000) : PCall Try.prog 45 [.agg c.enc, B yes, I e] (.agg (overS c yes e).enc) := by
  refine PCall.mk (fun _ => false) Try.func45 rfl rfl rfl (Ent.mk Try.func45 (by kernel_rfl) rfl) (by simp) (by simp) fun hfit => ?_
  simp [ClientR.enc, Try.f45]
  refine AW.draw Try.checked.mixed (fun _ => false) [] [] 17 (by kernel_rfl) ?_
  simp
  rw [if_pos (by simp only [maxLen]; omega)]
  simp
  rw [frzOwn_neat (by simp) (by simp; omega)]
  simp [overS, DoneR.enc]

theorem decided_ok (c : ClientR) (r : RspR) (hl : c.told.length ≤ 1000000) : PCall Try.prog 47 [.agg c.enc, .agg r.enc] (.agg (decidedS c r).enc) := by
  refine PCall.mk (fun _ => false) Try.func47 rfl rfl rfl (Ent.mk Try.func47 (by kernel_rfl) rfl) (by simp) (by simp) fun hfit => ?_
  simp [ClientR.enc, RspR.enc, ReplyR.enc, Try.f47]
  refine condK_split _ _ (fun h => ?_) (fun h => ?_)
  · simp at h; simp [h, decidedS]
  · simp at h; simp [h]
    refine condK_split _ _ (fun h2 => ?_) (fun h2 => ?_)
    · simp at h2; simp [h2, decidedS]
    · simp at h2; simp [h2]
      refine condK_split _ _ (fun h3 => ?_) (fun h3 => ?_)
      · simp at h3; simp [h3, decidedS]
      · simp at h3; simp [h3]
        refine condK_split _ _ (fun h4 => ?_) (fun h4 => ?_)
        · simp at h4; simp [h4, decidedS]
        · simp at h4; simp [h4]
          refine AInv.pure (over_ok c (decide (r.r.e = 0)) r.r.e hl) rfl ?_
          have e : decidedS c r = overS c (decide (r.r.e = 0)) r.r.e := by simp [decidedS, h, h2, h3, h4]
          rw [e]
          simp [ClientR.enc]

theorem begin_ok (c : ClientR) (r : RspR) (hl : c.told.length ≤ 1000000) : PCall Try.prog 43 [.agg c.enc, .agg r.enc] (.agg (beginS c r).enc) := by
  refine PCall.mk (fun _ => false) Try.func43 rfl rfl rfl (Ent.mk Try.func43 (by kernel_rfl) rfl) (by simp) (by simp) fun hfit => ?_
  simp [ClientR.enc, RspR.enc, ReplyR.enc, Try.f43]
  refine condK_split _ _ (fun h => ?_) (fun h => ?_)
  · simp at h; simp [h]
    refine AInv.pure (calls_ok { c with stamp := r.r.a }) rfl ?_
    simp [ClientR.enc, beginS, h]
  · simp at h; simp [h]
    refine condK_split _ _ (fun h2 => ?_) (fun h2 => ?_)
    · simp at h2; simp [h2, beginS]
    · simp at h2; simp [h2]
      refine condK_split _ _ (fun h3 => ?_) (fun h3 => ?_)
      · simp at h3; simp [h3, beginS]
      · simp at h3; simp [h3]
        refine condK_split _ _ (fun h4 => ?_) (fun h4 => ?_)
        · simp at h4; simp [h4, beginS]
        · simp at h4; simp [h4]
          refine AInv.pure (over_ok c false r.r.e hl) rfl ?_
          have e : beginS c r = overS c false r.r.e := by simp [beginS, h, h2, h3, h4]
          rw [e]
          simp [ClientR.enc]

theorem call_ok (c : ClientR) (r : RspR) (hl : c.told.length ≤ 1000000) (hn : c.now.length ≤ 1000000) : PCall Try.prog 46 [.agg c.enc, .agg r.enc] (.agg (callS c r).enc) := by
  refine PCall.mk (fun _ => false) Try.func46 rfl rfl rfl (Ent.mk Try.func46 (by kernel_rfl) rfl) (by simp) (by simp) fun hfit => ?_
  simp [ClientR.enc, RspR.enc, ReplyR.enc, Try.f46]
  refine condK_split _ _ (fun h => ?_) (fun h => ?_)
  · simp at h; simp [h]
    refine AInv.pure (over_ok c false r.r.e hl) rfl ?_
    simp [ClientR.enc, callS, h]
  · simp at h; simp [h]
    refine AW.draw Try.checked.mixed (fun _ => false) [] [] 12 (by kernel_rfl) ?_
    simp
    rw [if_pos (by simp only [maxLen]; omega)]
    simp
    refine AInv.give [3] (calls_ok { c with now := c.now ++ [r.r], n := w64 (c.n + 1) }) ?_ ?_
    · simp
      rw [fzOwn_neat (by simp) (by simp; omega)]
      simp [ClientR.enc, ReplyR.enc]
    · simp [ClientR.enc, callS, h]

theorem ack_ok (c : ClientR) (r : RspR) : PCall Try.prog 48 [.agg c.enc, .agg r.enc] (.agg (ackS c).enc) := by
  refine PCall.mk (fun _ => false) Try.func48 rfl rfl rfl (Ent.mk Try.func48 (by kernel_rfl) rfl) (by simp) (by simp) fun hfit => ?_
  simp [ClientR.enc, RspR.enc, ReplyR.enc, Try.f48]
  refine condK_split _ _ (fun h => ?_) (fun h => ?_)
  · simp at h; simp [h, ackS]
  · simp at h; simp [h, ackS, Int.not_lt.2 h]

theorem new_ok (me epoch : Int) (jobs : List (List CallR)) : PCall Try.prog 17 [I me, I epoch, enc1 encCalls jobs] (.tup [.agg (newS me epoch jobs).1.enc, I (newS me epoch jobs).2]) := by
  refine PCall.mk (fun _ => false) Try.func17 rfl rfl rfl (Ent.mk Try.func17 (by kernel_rfl) rfl) (by simp) (by simp) fun hfit => ?_
  simp [Try.f17]
  refine gdK_split _ _ _ (fun h => ?_) (fun h => ?_)
  · simp at h
    simp
    refine condK_split _ _ (fun h2 => ?_) (fun h2 => ?_)
    · simp at h2
      simp [newS, h2, ClientR.enc]
    · simp at h2
      simp
      refine condK_split _ _ (fun h3 => ?_) (fun h3 => ?_)
      · simp at h3
        simp [newS, h3, ClientR.enc, Int.not_lt.2 h, Int.not_lt.2 h2]
      · simp at h3
        simp [newS, h3, ClientR.enc, Int.not_lt.2 h, Int.not_lt.2 h2]
  · simp at h
    simp [newS, h, ClientR.enc]

theorem asks_ok (c : ClientR) : PCall Try.prog 24 [.agg c.enc] (.tup [.agg (asksS c).1.enc, B (asksS c).2]) := by
  refine PCall.mk (fun _ => false) Try.func24 rfl rfl rfl (Ent.mk Try.func24 (by kernel_rfl) rfl) (by simp) (by simp) fun hfit => ?_
  simp [ClientR.enc, Try.f24]
  refine condK_split _ _ (fun h => ?_) (fun h => ?_)
  · simp at h
    simp [asksS, h, MsgR.enc, MsgR.zero, CallR.enc, CallR.zero]
  · simp at h
    simp [asksS, Int.not_le.2 h, MsgR.enc, msgS, CallR.enc, CallR.zero]

/-- Phase 1: its next call is there. -/
def inJob (c : ClientR) : Prop := c.phase = 1 → 0 ≤ c.n ∧ c.n < (jobS c).length
theorem say_ok (c : ClientR) (hj : inJob c) : PCall Try.prog 16 [.agg c.enc] (.tup [.agg (sayS c).1.enc, B (sayS c).2]) := by
  refine PCall.mk (fun _ => false) Try.func16 rfl rfl rfl (Ent.mk Try.func16 (by kernel_rfl) rfl) (by simp) (by simp) fun hfit => ?_
  simp [ClientR.enc, Try.f16]
  refine condK_split _ _ (fun h => ?_) (fun h => ?_)
  · simp at h; simp [h, sayS, MsgR.enc, msgS, CallR.enc, CallR.zero]
  · simp at h; simp [h]
    refine condK_split _ _ (fun h1 => ?_) (fun h1 => ?_)
    · simp at h1; simp [h1]
      refine AW.draw Try.checked.mixed (fun _ => false) [2] [] 19 (by kernel_rfl) ?_
      simp
      refine .pure (job_ok { c with phase := 1 }) rfl ?_
      have e : jobS { c with phase := 1 } = jobS c := rfl
      have hj := hj h1
      have e3 : c.n.toNat < (jobS c).length := by omega
      simp
      have ha : (jobS c)[c.n.toNat]? = some (callAt c) := by simp [callAt, e3]
      rw [e, if_pos hj, cells_at (enc := CallR.enc) (k := 8) (fun _ => rfl) (jobS c) c.n.toNat (callAt c) ha]
      simp [CallR.enc, sayS, h1, MsgR.enc, msgS]
    · simp at h1; simp [h1]
      refine condK_split _ _ (fun h2 => ?_) (fun h2 => ?_)
      · simp at h2; simp [h2]
        refine AW.draw Try.checked.mixed (fun _ => false) [2] [] 10 (by kernel_rfl) ?_
        simp [sayS, h2, MsgR.enc, msgS, CallR.enc, CallR.zero]
      · simp at h2; simp [h2]
        refine condK_split _ _ (fun h3 => ?_) (fun h3 => ?_)
        · simp at h3; simp [h3, sayS, MsgR.enc, msgS, CallR.enc, CallR.zero]
        · simp at h3; simp [h, h1, h2, h3, sayS, MsgR.enc, MsgR.zero, CallR.enc, CallR.zero]

def earsV : AV := .fmap [I 1, I 2, I 3, I 5, I 6] [.fn 43 [], .fn 46 [], .fn 47 [], .fn 47 [], .fn 48 []]
theorem ears_ok : PCall Try.prog 28 [] earsV := by
  refine PCall.mk (fun _ => false) Try.func28 rfl rfl rfl (Ent.mk Try.func28 (by kernel_rfl) rfl) (by simp) (by simp [earsV]) fun hfit => ?_
  simp [Try.f28, earsV]

theorem hear_ok (c : ClientR) (r : RspR) (hj : inJob c) (hl : c.told.length ≤ 1000000) (hn : c.now.length ≤ 1000000) : PCall Try.prog 12 [.agg c.enc, .agg r.enc] (.agg (hearS c r).enc) := by
  refine PCall.mk (fun _ => false) Try.func12 rfl rfl rfl (Ent.mk Try.func12 (by kernel_rfl) rfl) (by simp) (by simp) fun hfit => ?_
  simp [ClientR.enc, RspR.enc, ReplyR.enc, Try.f12]
  refine AInv.pure (say_ok c hj) rfl ?_
  cases h1 : (sayS c).2 with
  | false => simp [MsgR.enc, CallR.enc, h1, hearS]
  | true =>
  simp [MsgR.enc, CallR.enc, h1]
  by_cases h2 : r.client = c.me
  case neg => simp [h2, hearS]
  by_cases h3 : r.epoch = c.epoch
  case neg => simp [h2, h3, hearS]
  by_cases h4 : r.seq = c.seq
  case neg => simp [h2, h3, h4, hearS]
  simp [h2, h3, h4]
  refine AInv.pure (asks_ok c) rfl ?_
  simp [MsgR.enc, CallR.enc]
  by_cases hA : r.kind = (sayS c).1.kind
  · rcases say_kind h1 with hs | hs | hs | hs
    · have hk := hA.trans hs
      simp [hk, hs]
      refine AW.draw Try.checked.mixed (fun _ => false) [] [] 6 (by kernel_rfl) ?_
      simp
      refine .pure ears_ok rfl ?_
      simp [earsV, hk]
      refine AInv.pure (begin_ok c r hl) (by simp [ClientR.enc, RspR.enc, ReplyR.enc, hk, h2, h3, h4]) ?_
      simp [ClientR.enc, hearS, h1, h2, h3, h4, hA, hs]
    · have hk := hA.trans hs
      by_cases hn1 : r.n = (sayS c).1.n
      · simp [hk, hs, hn1]
        refine AW.draw Try.checked.mixed (fun _ => false) [] [] 6 (by kernel_rfl) ?_
        simp
        refine .pure ears_ok rfl ?_
        simp [earsV, hk]
        refine AInv.pure (call_ok c r hl hn) (by simp [ClientR.enc, RspR.enc, ReplyR.enc, hk, h2, h3, h4, hn1]) ?_
        simp [ClientR.enc, hearS, h1, h2, h3, h4, hA, hs, hn1]
      · by_cases hn2 : r.n = -1
        · have hn3 : ¬ -1 = (sayS c).1.n := by rw [← hn2]; exact hn1
          simp [hk, hs, hn2, hn3]
          refine AW.draw Try.checked.mixed (fun _ => false) [] [] 6 (by kernel_rfl) ?_
          simp
          refine .pure ears_ok rfl ?_
          simp [earsV, hk]
          refine AInv.pure (call_ok c r hl hn) (by simp [ClientR.enc, RspR.enc, ReplyR.enc, hk, h2, h3, h4, hn2]) ?_
          simp [ClientR.enc, hearS, h1, h2, h3, h4, hA, hs, hn2, hn3]
        · simp [hk, hs, hn1, hn2, hearS, h1, h2, h3, h4, hA]
    · have hk := hA.trans hs
      simp [hk, hs]
      refine AW.draw Try.checked.mixed (fun _ => false) [] [] 6 (by kernel_rfl) ?_
      simp
      refine .pure ears_ok rfl ?_
      simp [earsV, hk]
      refine AInv.pure (decided_ok c r hl) (by simp [ClientR.enc, RspR.enc, ReplyR.enc, hk, h2, h3, h4]) ?_
      simp [ClientR.enc, hearS, h1, h2, h3, h4, hA, hs]
    · have hk := hA.trans hs
      simp [hk, hs]
      refine AW.draw Try.checked.mixed (fun _ => false) [] [] 6 (by kernel_rfl) ?_
      simp
      refine .pure ears_ok rfl ?_
      simp [earsV, hk]
      refine AInv.pure (ack_ok c r) (by simp [ClientR.enc, RspR.enc, ReplyR.enc, hk, h2, h3, h4]) ?_
      simp [ClientR.enc, hearS, h1, h2, h3, h4, hA, hs]
  · by_cases hC : r.kind = 5
    · rw [hC] at hA
      cases hB : (asksS c).2 with
      | false => simp [hA, hB, hC, hearS, h1, h2, h3, h4]
      | true =>
        simp [hA, hB, hC]
        refine AW.draw Try.checked.mixed (fun _ => false) [] [] 6 (by kernel_rfl) ?_
        simp
        refine .pure ears_ok rfl ?_
        simp [earsV, hC]
        refine AInv.pure (decided_ok c r hl) (by simp [ClientR.enc, RspR.enc, ReplyR.enc, hC, h2, h3, h4]) ?_
        simp [ClientR.enc, hearS, h1, h2, h3, h4, hA, hB, hC]
    · cases hB : (asksS c).2 with
      | false => simp [hA, hB, hC, hearS, h1, h2, h3, h4]
      | true => simp [hA, hB, hC, hearS, h1, h2, h3, h4]
end Go.Proofs.Ytpejmbffoklliaa
