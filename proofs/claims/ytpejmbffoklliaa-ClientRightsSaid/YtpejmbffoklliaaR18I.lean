/- The rest of the reference's functions of layer 18. -/
import Derived.Test.YtpejmbffoklliaaR18X
import Derived.Test.YtpejmbffoklliaaCliW
set_option linter.unusedVariables false
set_option linter.unusedSimpArgs false
namespace Go.Proofs.Ytpejmbffoklliaa
open Go.Cx Tab
set_option maxHeartbeats 400000
set_option maxRecDepth 40000

theorem rasks_ok (c : ClientR) : PCall Try.prog 25 [.agg c.enc] (.tup [.agg (asksS c).1.enc, B (asksS c).2]) := by
  refine PCall.mk (fun _ => false) Try.func25 rfl rfl rfl (Ent.mk Try.func25 (by kernel_rfl) rfl) (by simp) (by simp) fun hfit => ?_
  simp [ClientR.enc, Try.f25]
  by_cases h : 3 ≤ c.phase
  · simp [asksS, h, show 2 < c.phase by omega, MsgR.enc, MsgR.zero, CallR.enc, CallR.zero]
  · simp [asksS, h, show ¬ 2 < c.phase by omega, MsgR.enc, msgS, CallR.enc, CallR.zero]

theorem rbegun_ok (c : ClientR) : PCall Try.prog 34 [.agg c.enc] (.agg (callsS c).enc) := by
  refine PCall.mk (fun _ => false) Try.func34 rfl rfl rfl (Ent.mk Try.func34 (by kernel_rfl) rfl) (by simp) (by simp) fun hfit => ?_
  simp [ClientR.enc, Try.f34, callsS]
  repeat' (first
    | (refine condK_ndec (fun h e => ?_) (fun h e => ?_) <;> first | (exfalso; first | omega | exact h (by assumption) | exact absurd h (by assumption)) | simp [e, jobS])
    | (refine condK_dec (fun h e => ?_) (fun h e => ?_) <;> first | (exfalso; first | omega | exact h (by assumption) | exact absurd h (by assumption)) | simp [e, jobS])
    | (refine gdK_ndec (fun h e => ?_) (fun h e => ?_) <;> first | (exfalso; first | omega | exact h (by assumption) | exact absurd h (by assumption)) | simp [e, jobS])
    | (refine gdK_dec (fun h e => ?_) (fun h e => ?_) <;> first | (exfalso; first | omega | exact h (by assumption) | exact absurd h (by assumption)) | simp [e, jobS])
    | (refine gdD_ndec (fun h e => ?_) (fun h e => ?_) <;> first | (exfalso; first | omega | exact h (by assumption) | exact absurd h (by assumption)) | simp [e, jobS])
    | (refine gdD_dec (fun h e => ?_) (fun h e => ?_) <;> first | (exfalso; first | omega | exact h (by assumption) | exact absurd h (by assumption)) | simp [e, jobS])
    | (refine AInv.pure (long_ok { c with phase := 1 }) ?_ ?_; (focus (first | rfl | (simp [jobS]; done))); try simp [jobS])
    | (refine ADcall.pure (long_ok { c with phase := 1 }) ?_ ?_; (focus (first | rfl | (simp [jobS]; done))); try simp [jobS])
    | (refine AW.draw (id := 2) Try.checked.mixed (fun _ => false) [] [] 5 (by kernel_rfl) ?_; simp [jobS])
    | (rw [if_pos (by first | omega | (simp only [maxLen]; omega))]; try simp [jobS])
    | (rw [if_neg (by first | omega | (simp only [maxLen]; omega))]; try simp [jobS])
    | (rw [frzOwn_neat (by simp) (by simp <;> omega)]; try simp [jobS])
    | (rw [fzOwn_neat (by simp) (by simp <;> omega)]; try simp [jobS])
    | (refine condK_nb (fun h e => ?_) (fun h e => ?_) <;> first | (exfalso; first | omega | exact h (by assumption) | exact absurd h (by assumption)) | simp [e, jobS])
    | (refine condK_b (fun h e => ?_) (fun h e => ?_) <;> first | (exfalso; first | omega | exact h (by assumption) | exact absurd h (by assumption)) | simp [e, jobS])
    | (refine gdK_nb (fun h e => ?_) (fun h e => ?_) <;> first | (exfalso; first | omega | exact h (by assumption) | exact absurd h (by assumption)) | simp [e, jobS])
    | (refine gdD_nb (fun h e => ?_) (fun h e => ?_) <;> first | (exfalso; first | omega | exact h (by assumption) | exact absurd h (by assumption)) | simp [e, jobS])
    | (refine gdK_b (fun h e => ?_) (fun h e => ?_) <;> first | (exfalso; first | omega | exact h (by assumption) | exact absurd h (by assumption)) | simp [e, jobS])
    | (refine gdD_b (fun h e => ?_) (fun h e => ?_) <;> first | (exfalso; first | omega | exact h (by assumption) | exact absurd h (by assumption)) | simp [e, jobS]))

theorem rsay_ok (c : ClientR) (hj : inJob c) : PCall Try.prog 23 [.agg c.enc] (.tup [.agg (sayS c).1.enc, B (sayS c).2]) := by
  refine PCall.mk (fun _ => false) Try.func23 rfl rfl rfl (Ent.mk Try.func23 (by kernel_rfl) rfl) (by simp) (by simp) fun hfit => ?_
  simp [ClientR.enc, enc1] at hfit
  have hlen := maxLen_lt hfit.1.1
  simp [ClientR.enc, Try.f23, sayS]
  by_cases hp : c.phase = 1
  · have h1 := hj hp
    have h2 : ¬ (c.seq < 1 ∨ (c.jobs.length : Int) < c.seq) := fun h => by
      have : jobS c = [] := by simp only [jobS, if_pos h]
      rw [this] at h1; simp at h1; omega
    have hw : IntKind.i64.wrap (c.seq - 1) = c.seq - 1 := wrap_id (by omega) (by omega)
    have e4 : c.seq.toNat - 1 < c.jobs.length := by omega
    have e5 : (c.seq - 1).toNat = c.seq.toNat - 1 := by omega
    have e3 : c.n.toNat < (jobS c).length := by omega
    have ej : jobS c = c.jobs[c.seq.toNat - 1] := by simp [jobS, h2, e4]
    have ha : (jobS c)[c.n.toNat]? = some (callAt c) := by simp [callAt, e3]
    simp [hp]
    refine AW.draw Try.checked.mixed (fun _ => false) [] [] 12 (by kernel_rfl) ?_
    have e6 : 1 ≤ c.seq ∧ c.seq - 1 < c.jobs.length := by omega
    have hc := cells_at (enc := CallR.enc) (k := 8) (fun _ => rfl) (jobS c) c.n.toNat (callAt c) ha
    rw [ej] at hc h1
    have hcall : c.jobs[c.seq.toNat - 1][c.n.toNat]'(by omega) = callAt c := by
      rw [ej, List.getElem?_eq_getElem (by omega)] at ha
      exact Option.some.inj ha
    simp [hw, e4, e6, h1, hc]
    simp [CallR.enc, MsgR.enc, msgS, hcall]
  · simp [hp]
    repeat' (first
      | (refine condK_ndec (fun h e => ?_) (fun h e => ?_) <;> first | (exfalso; first | omega | exact h (by assumption) | exact absurd h (by assumption)) | simp [e, MsgR.enc, msgS, CallR.enc, CallR.zero, MsgR.zero])
      | (refine condK_dec (fun h e => ?_) (fun h e => ?_) <;> first | (exfalso; first | omega | exact h (by assumption) | exact absurd h (by assumption)) | simp [e, MsgR.enc, msgS, CallR.enc, CallR.zero, MsgR.zero])
      | (refine gdK_ndec (fun h e => ?_) (fun h e => ?_) <;> first | (exfalso; first | omega | exact h (by assumption) | exact absurd h (by assumption)) | simp [e, MsgR.enc, msgS, CallR.enc, CallR.zero, MsgR.zero])
      | (refine gdK_dec (fun h e => ?_) (fun h e => ?_) <;> first | (exfalso; first | omega | exact h (by assumption) | exact absurd h (by assumption)) | simp [e, MsgR.enc, msgS, CallR.enc, CallR.zero, MsgR.zero])
      | (refine gdD_ndec (fun h e => ?_) (fun h e => ?_) <;> first | (exfalso; first | omega | exact h (by assumption) | exact absurd h (by assumption)) | simp [e, MsgR.enc, msgS, CallR.enc, CallR.zero, MsgR.zero])
      | (refine gdD_dec (fun h e => ?_) (fun h e => ?_) <;> first | (exfalso; first | omega | exact h (by assumption) | exact absurd h (by assumption)) | simp [e, MsgR.enc, msgS, CallR.enc, CallR.zero, MsgR.zero])
      | (refine AW.draw (id := 10) Try.checked.mixed (fun _ => false) [] [] 12 (by kernel_rfl) ?_; simp [MsgR.enc, msgS, CallR.enc, CallR.zero, MsgR.zero])
      | (rw [if_pos (by first | omega | (simp only [maxLen]; omega))]; try simp [MsgR.enc, msgS, CallR.enc, CallR.zero, MsgR.zero])
      | (rw [if_neg (by first | omega | (simp only [maxLen]; omega))]; try simp [MsgR.enc, msgS, CallR.enc, CallR.zero, MsgR.zero])
      | (rw [frzOwn_neat (by simp) (by simp <;> omega)]; try simp [MsgR.enc, msgS, CallR.enc, CallR.zero, MsgR.zero])
      | (rw [fzOwn_neat (by simp) (by simp <;> omega)]; try simp [MsgR.enc, msgS, CallR.enc, CallR.zero, MsgR.zero])
      | (refine condK_nb (fun h e => ?_) (fun h e => ?_) <;> first | (exfalso; first | omega | exact h (by assumption) | exact absurd h (by assumption)) | simp [e, MsgR.enc, msgS, CallR.enc, CallR.zero, MsgR.zero])
      | (refine condK_b (fun h e => ?_) (fun h e => ?_) <;> first | (exfalso; first | omega | exact h (by assumption) | exact absurd h (by assumption)) | simp [e, MsgR.enc, msgS, CallR.enc, CallR.zero, MsgR.zero])
      | (refine gdK_nb (fun h e => ?_) (fun h e => ?_) <;> first | (exfalso; first | omega | exact h (by assumption) | exact absurd h (by assumption)) | simp [e, MsgR.enc, msgS, CallR.enc, CallR.zero, MsgR.zero])
      | (refine gdD_nb (fun h e => ?_) (fun h e => ?_) <;> first | (exfalso; first | omega | exact h (by assumption) | exact absurd h (by assumption)) | simp [e, MsgR.enc, msgS, CallR.enc, CallR.zero, MsgR.zero])
      | (refine gdK_b (fun h e => ?_) (fun h e => ?_) <;> first | (exfalso; first | omega | exact h (by assumption) | exact absurd h (by assumption)) | simp [e, MsgR.enc, msgS, CallR.enc, CallR.zero, MsgR.zero])
      | (refine gdD_b (fun h e => ?_) (fun h e => ?_) <;> first | (exfalso; first | omega | exact h (by assumption) | exact absurd h (by assumption)) | simp [e, MsgR.enc, msgS, CallR.enc, CallR.zero, MsgR.zero]))

theorem rover_ok (c : ClientR) (yes : Bool) (e : Int) (hl : c.told.length ≤ 1000000) : PCall Try.prog 35 [.agg c.enc, B yes, I e] (.agg (overS c yes e).enc) := by
  refine PCall.mk (fun _ => false) Try.func35 rfl rfl rfl (Ent.mk Try.func35 (by kernel_rfl) rfl) (by simp) (by simp) fun hfit => ?_
  simp [ClientR.enc, Try.f35]
  have hm : c.told.length + 1 ≤ maxLen := by simp [maxLen]; omega
  have hm2 : c.told.length ≤ maxLen := by simp [maxLen]; omega
  have hb : (c.told.length + 1) * 48 ≤ 140737488355328 := by omega
  simp [hm, hm2, hb]
  repeat' (first
    | (refine condK_ndec (fun h e => ?_) (fun h e => ?_) <;> first | (exfalso; first | omega | exact h (by assumption) | exact absurd h (by assumption)) | simp [e, overS, DoneR.enc])
    | (refine condK_dec (fun h e => ?_) (fun h e => ?_) <;> first | (exfalso; first | omega | exact h (by assumption) | exact absurd h (by assumption)) | simp [e, overS, DoneR.enc])
    | (refine gdK_ndec (fun h e => ?_) (fun h e => ?_) <;> first | (exfalso; first | omega | exact h (by assumption) | exact absurd h (by assumption)) | simp [e, overS, DoneR.enc])
    | (refine gdK_dec (fun h e => ?_) (fun h e => ?_) <;> first | (exfalso; first | omega | exact h (by assumption) | exact absurd h (by assumption)) | simp [e, overS, DoneR.enc])
    | (refine gdD_ndec (fun h e => ?_) (fun h e => ?_) <;> first | (exfalso; first | omega | exact h (by assumption) | exact absurd h (by assumption)) | simp [e, overS, DoneR.enc])
    | (refine gdD_dec (fun h e => ?_) (fun h e => ?_) <;> first | (exfalso; first | omega | exact h (by assumption) | exact absurd h (by assumption)) | simp [e, overS, DoneR.enc])
    | (rw [if_pos (by first | omega | (simp only [maxLen]; omega))]; try simp [overS, DoneR.enc])
    | (rw [if_neg (by first | omega | (simp only [maxLen]; omega))]; try simp [overS, DoneR.enc])
    | (rw [frzOwn_neat (by simp) (by simp <;> omega)]; try simp [overS, DoneR.enc])
    | (rw [fzOwn_neat (by simp) (by simp <;> omega)]; try simp [overS, DoneR.enc])
    | (refine condK_nb (fun h e => ?_) (fun h e => ?_) <;> first | (exfalso; first | omega | exact h (by assumption) | exact absurd h (by assumption)) | simp [e, overS, DoneR.enc])
    | (refine condK_b (fun h e => ?_) (fun h e => ?_) <;> first | (exfalso; first | omega | exact h (by assumption) | exact absurd h (by assumption)) | simp [e, overS, DoneR.enc])
    | (refine gdK_nb (fun h e => ?_) (fun h e => ?_) <;> first | (exfalso; first | omega | exact h (by assumption) | exact absurd h (by assumption)) | simp [e, overS, DoneR.enc])
    | (refine gdD_nb (fun h e => ?_) (fun h e => ?_) <;> first | (exfalso; first | omega | exact h (by assumption) | exact absurd h (by assumption)) | simp [e, overS, DoneR.enc])
    | (refine gdK_b (fun h e => ?_) (fun h e => ?_) <;> first | (exfalso; first | omega | exact h (by assumption) | exact absurd h (by assumption)) | simp [e, overS, DoneR.enc])
    | (refine gdD_b (fun h e => ?_) (fun h e => ?_) <;> first | (exfalso; first | omega | exact h (by assumption) | exact absurd h (by assumption)) | simp [e, overS, DoneR.enc]))

theorem rhear_ok (c : ClientR) (r : RspR) (hj : inJob c) (h0 : 0 ≤ c.phase) (hl : c.told.length ≤ 1000000) (hn : c.now.length ≤ 1000000) : PCall Try.prog 26 [.agg c.enc, .agg r.enc] (.agg (hearS c r).enc) := by
  refine PCall.mk (fun _ => false) Try.func26 rfl rfl rfl (Ent.mk Try.func26 (by kernel_rfl) rfl) (by simp) (by simp) fun hfit => ?_
  have hm : c.now.length + 1 ≤ maxLen := by simp [maxLen]; omega
  have hm2 : c.now.length ≤ maxLen := by simp [maxLen]; omega
  have hb : (c.now.length + 1) * 80 ≤ 140737488355328 := by omega
  have ha : (asksS c).2 = decide (c.phase ≤ 2) := by
    by_cases h : 3 ≤ c.phase
    · simp [asksS, h, show ¬ c.phase ≤ 2 by omega]
    · simp [asksS, h, show c.phase ≤ 2 by omega]
  simp [ClientR.enc, RspR.enc, ReplyR.enc, Try.f26, hearS, ha]
  repeat' (first
    | (refine condK_ndec (fun h e => ?_) (fun h e => ?_) <;> first | (exfalso; first | omega | exact h (by assumption) | exact absurd h (by assumption)) | simp [e, ClientR.enc, RspR.enc, ReplyR.enc, MsgR.enc, CallR.enc, hm, hm2, hb, beginS, callS, decidedS, ackS])
    | (refine condK_dec (fun h e => ?_) (fun h e => ?_) <;> first | (exfalso; first | omega | exact h (by assumption) | exact absurd h (by assumption)) | simp [e, ClientR.enc, RspR.enc, ReplyR.enc, MsgR.enc, CallR.enc, hm, hm2, hb, beginS, callS, decidedS, ackS])
    | (refine gdK_ndec (fun h e => ?_) (fun h e => ?_) <;> first | (exfalso; first | omega | exact h (by assumption) | exact absurd h (by assumption)) | simp [e, ClientR.enc, RspR.enc, ReplyR.enc, MsgR.enc, CallR.enc, hm, hm2, hb, beginS, callS, decidedS, ackS])
    | (refine gdK_dec (fun h e => ?_) (fun h e => ?_) <;> first | (exfalso; first | omega | exact h (by assumption) | exact absurd h (by assumption)) | simp [e, ClientR.enc, RspR.enc, ReplyR.enc, MsgR.enc, CallR.enc, hm, hm2, hb, beginS, callS, decidedS, ackS])
    | (refine gdD_ndec (fun h e => ?_) (fun h e => ?_) <;> first | (exfalso; first | omega | exact h (by assumption) | exact absurd h (by assumption)) | simp [e, ClientR.enc, RspR.enc, ReplyR.enc, MsgR.enc, CallR.enc, hm, hm2, hb, beginS, callS, decidedS, ackS])
    | (refine gdD_dec (fun h e => ?_) (fun h e => ?_) <;> first | (exfalso; first | omega | exact h (by assumption) | exact absurd h (by assumption)) | simp [e, ClientR.enc, RspR.enc, ReplyR.enc, MsgR.enc, CallR.enc, hm, hm2, hb, beginS, callS, decidedS, ackS])
    | (refine AInv.pure (rsay_ok c hj) ?_ ?_; (focus (first | rfl | (simp [ClientR.enc, RspR.enc, ReplyR.enc, MsgR.enc, CallR.enc, hm, hm2, hb, beginS, callS, decidedS, ackS]; done))); try simp [ClientR.enc, RspR.enc, ReplyR.enc, MsgR.enc, CallR.enc, hm, hm2, hb, beginS, callS, decidedS, ackS])
    | (refine ADcall.pure (rsay_ok c hj) ?_ ?_; (focus (first | rfl | (simp [ClientR.enc, RspR.enc, ReplyR.enc, MsgR.enc, CallR.enc, hm, hm2, hb, beginS, callS, decidedS, ackS]; done))); try simp [ClientR.enc, RspR.enc, ReplyR.enc, MsgR.enc, CallR.enc, hm, hm2, hb, beginS, callS, decidedS, ackS])
    | (refine AInv.pure (rover_ok c false r.r.e hl) ?_ ?_; (focus (first | rfl | (simp [ClientR.enc, RspR.enc, ReplyR.enc, MsgR.enc, CallR.enc, hm, hm2, hb, beginS, callS, decidedS, ackS]; done))); try simp [ClientR.enc, RspR.enc, ReplyR.enc, MsgR.enc, CallR.enc, hm, hm2, hb, beginS, callS, decidedS, ackS])
    | (refine ADcall.pure (rover_ok c false r.r.e hl) ?_ ?_; (focus (first | rfl | (simp [ClientR.enc, RspR.enc, ReplyR.enc, MsgR.enc, CallR.enc, hm, hm2, hb, beginS, callS, decidedS, ackS]; done))); try simp [ClientR.enc, RspR.enc, ReplyR.enc, MsgR.enc, CallR.enc, hm, hm2, hb, beginS, callS, decidedS, ackS])
    | (refine AInv.pure (rover_ok c (decide (r.r.e = 0)) r.r.e hl) ?_ ?_; (focus (first | rfl | (simp [ClientR.enc, RspR.enc, ReplyR.enc, MsgR.enc, CallR.enc, hm, hm2, hb, beginS, callS, decidedS, ackS]; done))); try simp [ClientR.enc, RspR.enc, ReplyR.enc, MsgR.enc, CallR.enc, hm, hm2, hb, beginS, callS, decidedS, ackS])
    | (refine ADcall.pure (rover_ok c (decide (r.r.e = 0)) r.r.e hl) ?_ ?_; (focus (first | rfl | (simp [ClientR.enc, RspR.enc, ReplyR.enc, MsgR.enc, CallR.enc, hm, hm2, hb, beginS, callS, decidedS, ackS]; done))); try simp [ClientR.enc, RspR.enc, ReplyR.enc, MsgR.enc, CallR.enc, hm, hm2, hb, beginS, callS, decidedS, ackS])
    | (refine AInv.pure (rbegun_ok { c with stamp := r.r.a }) ?_ ?_; (focus (first | rfl | (simp [ClientR.enc, RspR.enc, ReplyR.enc, MsgR.enc, CallR.enc, hm, hm2, hb, beginS, callS, decidedS, ackS]; done))); try simp [ClientR.enc, RspR.enc, ReplyR.enc, MsgR.enc, CallR.enc, hm, hm2, hb, beginS, callS, decidedS, ackS])
    | (refine ADcall.pure (rbegun_ok { c with stamp := r.r.a }) ?_ ?_; (focus (first | rfl | (simp [ClientR.enc, RspR.enc, ReplyR.enc, MsgR.enc, CallR.enc, hm, hm2, hb, beginS, callS, decidedS, ackS]; done))); try simp [ClientR.enc, RspR.enc, ReplyR.enc, MsgR.enc, CallR.enc, hm, hm2, hb, beginS, callS, decidedS, ackS])
    | (refine AInv.give [4] (rbegun_ok { c with now := c.now ++ [r.r], n := w64 (c.n + 1) }) ?_ ?_; (focus (first | (simp [ClientR.enc, RspR.enc, ReplyR.enc, MsgR.enc, CallR.enc, hm, hm2, hb, beginS, callS, decidedS, ackS]; done) | (simp; rw [fzOwn_neat (by simp) (by simp <;> omega)]; simp [ClientR.enc, RspR.enc, ReplyR.enc, MsgR.enc, CallR.enc, hm, hm2, hb, beginS, callS, decidedS, ackS]; done))); try simp [ClientR.enc, RspR.enc, ReplyR.enc, MsgR.enc, CallR.enc, hm, hm2, hb, beginS, callS, decidedS, ackS])
    | (rw [if_pos (by first | omega | (simp only [maxLen]; omega))]; try simp [ClientR.enc, RspR.enc, ReplyR.enc, MsgR.enc, CallR.enc, hm, hm2, hb, beginS, callS, decidedS, ackS])
    | (rw [if_neg (by first | omega | (simp only [maxLen]; omega))]; try simp [ClientR.enc, RspR.enc, ReplyR.enc, MsgR.enc, CallR.enc, hm, hm2, hb, beginS, callS, decidedS, ackS])
    | (rw [frzOwn_neat (by simp) (by simp <;> omega)]; try simp [ClientR.enc, RspR.enc, ReplyR.enc, MsgR.enc, CallR.enc, hm, hm2, hb, beginS, callS, decidedS, ackS])
    | (rw [fzOwn_neat (by simp) (by simp <;> omega)]; try simp [ClientR.enc, RspR.enc, ReplyR.enc, MsgR.enc, CallR.enc, hm, hm2, hb, beginS, callS, decidedS, ackS])
    | (refine condK_nb (fun h e => ?_) (fun h e => ?_) <;> first | (exfalso; first | omega | exact h (by assumption) | exact absurd h (by assumption)) | simp [e, ClientR.enc, RspR.enc, ReplyR.enc, MsgR.enc, CallR.enc, hm, hm2, hb, beginS, callS, decidedS, ackS])
    | (refine condK_b (fun h e => ?_) (fun h e => ?_) <;> first | (exfalso; first | omega | exact h (by assumption) | exact absurd h (by assumption)) | simp [e, ClientR.enc, RspR.enc, ReplyR.enc, MsgR.enc, CallR.enc, hm, hm2, hb, beginS, callS, decidedS, ackS])
    | (refine gdK_nb (fun h e => ?_) (fun h e => ?_) <;> first | (exfalso; first | omega | exact h (by assumption) | exact absurd h (by assumption)) | simp [e, ClientR.enc, RspR.enc, ReplyR.enc, MsgR.enc, CallR.enc, hm, hm2, hb, beginS, callS, decidedS, ackS])
    | (refine gdD_nb (fun h e => ?_) (fun h e => ?_) <;> first | (exfalso; first | omega | exact h (by assumption) | exact absurd h (by assumption)) | simp [e, ClientR.enc, RspR.enc, ReplyR.enc, MsgR.enc, CallR.enc, hm, hm2, hb, beginS, callS, decidedS, ackS])
    | (refine gdK_b (fun h e => ?_) (fun h e => ?_) <;> first | (exfalso; first | omega | exact h (by assumption) | exact absurd h (by assumption)) | simp [e, ClientR.enc, RspR.enc, ReplyR.enc, MsgR.enc, CallR.enc, hm, hm2, hb, beginS, callS, decidedS, ackS])
    | (refine gdD_b (fun h e => ?_) (fun h e => ?_) <;> first | (exfalso; first | omega | exact h (by assumption) | exact absurd h (by assumption)) | simp [e, ClientR.enc, RspR.enc, ReplyR.enc, MsgR.enc, CallR.enc, hm, hm2, hb, beginS, callS, decidedS, ackS]))
end Go.Proofs.Ytpejmbffoklliaa
