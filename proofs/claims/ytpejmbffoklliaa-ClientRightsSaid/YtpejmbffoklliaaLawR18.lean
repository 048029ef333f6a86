/- ClientRights, ClientHears, walked. -/
import Derived.Test.YtpejmbffoklliaaLawW18
import Derived.Test.YtpejmbffoklliaaR18H
import Derived.Test.YtpejmbffoklliaaR18I
import Derived.Test.YtpejmbffoklliaaEqW
set_option linter.unusedVariables false
set_option linter.unusedSimpArgs false
namespace Go.Proofs.Ytpejmbffoklliaa
open Go.Cx Tab
set_option maxHeartbeats 400000
set_option maxRecDepth 40000

theorem rights_ok (c : ClientR) (me epoch : Int) : PCall Try.prog 8 [.agg c.enc, I me, I epoch] (B true) := by
  refine PCall.mk (fun _ => false) Try.func8 rfl rfl rfl (Ent.mk Try.func8 (by kernel_rfl) rfl) (by simp) (by simp) fun hfit => ?_
  simp [Try.f8, ClientR.enc]
  refine AInv.pure shown_ok rfl ?_
  simp
  refine AInv.pure (few_ok c) rfl ?_
  cases hg : fewS c with
  | false => simp
  | true =>
  have hf := fewS_told hg
  simp
  repeat' (first
    | (refine condK_ndec (fun h e => ?_) (fun h e => ?_) <;> first | (exfalso; first | omega | exact h (by assumption) | exact absurd h (by assumption)) | simp [e, ClientR.enc])
    | (refine condK_dec (fun h e => ?_) (fun h e => ?_) <;> first | (exfalso; first | omega | exact h (by assumption) | exact absurd h (by assumption)) | simp [e, ClientR.enc])
    | (refine gdK_ndec (fun h e => ?_) (fun h e => ?_) <;> first | (exfalso; first | omega | exact h (by assumption) | exact absurd h (by assumption)) | simp [e, ClientR.enc])
    | (refine gdK_dec (fun h e => ?_) (fun h e => ?_) <;> first | (exfalso; first | omega | exact h (by assumption) | exact absurd h (by assumption)) | simp [e, ClientR.enc])
    | (refine gdD_ndec (fun h e => ?_) (fun h e => ?_) <;> first | (exfalso; first | omega | exact h (by assumption) | exact absurd h (by assumption)) | simp [e, ClientR.enc])
    | (refine gdD_dec (fun h e => ?_) (fun h e => ?_) <;> first | (exfalso; first | omega | exact h (by assumption) | exact absurd h (by assumption)) | simp [e, ClientR.enc])
    | (refine AInv.pure (new_ok me epoch c.jobs) ?_ ?_; (focus (first | rfl | (simp [ClientR.enc]; done))); try simp [ClientR.enc])
    | (refine ADcall.pure (new_ok me epoch c.jobs) ?_ ?_; (focus (first | rfl | (simp [ClientR.enc]; done))); try simp [ClientR.enc])
    | (refine AInv.pure (rnew_ok me epoch c.jobs) ?_ ?_; (focus (first | rfl | (simp [ClientR.enc]; done))); try simp [ClientR.enc])
    | (refine ADcall.pure (rnew_ok me epoch c.jobs) ?_ ?_; (focus (first | rfl | (simp [ClientR.enc]; done))); try simp [ClientR.enc])
    | (refine AInv.pure (rsame_ok (newS me epoch c.jobs).1 (newS me epoch c.jobs).1) ?_ ?_; (focus (first | rfl | (simp [ClientR.enc]; done))); try simp [ClientR.enc])
    | (refine ADcall.pure (rsame_ok (newS me epoch c.jobs).1 (newS me epoch c.jobs).1) ?_ ?_; (focus (first | rfl | (simp [ClientR.enc]; done))); try simp [ClientR.enc])
    | (refine AInv.pure (cright_ok c (by omega)) ?_ ?_; (focus (first | rfl | (simp [ClientR.enc]; done))); try simp [ClientR.enc])
    | (refine ADcall.pure (cright_ok c (by omega)) ?_ ?_; (focus (first | rfl | (simp [ClientR.enc]; done))); try simp [ClientR.enc])
    | (refine AInv.pure (right_ok c (by omega)) ?_ ?_; (focus (first | rfl | (simp [ClientR.enc]; done))); try simp [ClientR.enc])
    | (refine ADcall.pure (right_ok c (by omega)) ?_ ?_; (focus (first | rfl | (simp [ClientR.enc]; done))); try simp [ClientR.enc])
    | (refine AW.draw (id := 6) Try.checked.mixed (fun _ => false) [] [] 19 (by kernel_rfl) ?_; simp [ClientR.enc])
    | (rw [if_pos (by first | omega | (simp only [maxLen]; omega))]; try simp [ClientR.enc])
    | (rw [if_neg (by first | omega | (simp only [maxLen]; omega))]; try simp [ClientR.enc])
    | (rw [frzOwn_neat (by simp) (by simp <;> omega)]; try simp [ClientR.enc])
    | (rw [fzOwn_neat (by simp) (by simp <;> omega)]; try simp [ClientR.enc])
    | (refine condK_nb (fun h e => ?_) (fun h e => ?_) <;> first | (exfalso; first | omega | exact h (by assumption) | exact absurd h (by assumption)) | simp [e, ClientR.enc])
    | (refine condK_b (fun h e => ?_) (fun h e => ?_) <;> first | (exfalso; first | omega | exact h (by assumption) | exact absurd h (by assumption)) | simp [e, ClientR.enc])
    | (refine gdK_nb (fun h e => ?_) (fun h e => ?_) <;> first | (exfalso; first | omega | exact h (by assumption) | exact absurd h (by assumption)) | simp [e, ClientR.enc])
    | (refine gdD_nb (fun h e => ?_) (fun h e => ?_) <;> first | (exfalso; first | omega | exact h (by assumption) | exact absurd h (by assumption)) | simp [e, ClientR.enc])
    | (refine gdK_b (fun h e => ?_) (fun h e => ?_) <;> first | (exfalso; first | omega | exact h (by assumption) | exact absurd h (by assumption)) | simp [e, ClientR.enc])
    | (refine gdD_b (fun h e => ?_) (fun h e => ?_) <;> first | (exfalso; first | omega | exact h (by assumption) | exact absurd h (by assumption)) | simp [e, ClientR.enc]))

theorem hears_ok (c other : ClientR) (r : RspR) : PCall Try.prog 9 [.agg c.enc, .agg r.enc, .agg other.enc] (B true) := by
  refine PCall.mk (fun _ => false) Try.func9 rfl rfl rfl (Ent.mk Try.func9 (by kernel_rfl) rfl) (by simp) (by simp) fun hfit => ?_
  simp [Try.f9, ClientR.enc, RspR.enc, ReplyR.enc]
  refine AInv.pure shown_ok rfl ?_
  simp
  refine AInv.pure (good_ok c) rfl ?_
  cases hg : goodS c with
  | false => simp
  | true =>
  simp
  obtain ⟨hf, hr⟩ := good_right hg
  have hf := fewS_told hf
  refine AInv.pure (good_ok other) rfl ?_
  cases hg : goodS other with
  | false => simp
  | true =>
  have hp := hr.at_
  have he1 : ∀ ox oy (m : MsgR), abin Try.prog .eql 42 ox oy (.agg m.enc) (.agg m.enc) = some (B true) := fun ox oy m => by simp [callK]
  simp only [MsgR.enc, CallR.enc, List.cons_append, List.nil_append] at he1
  simp
  repeat' (first
    | (refine condK_ndec (fun h e => ?_) (fun h e => ?_) <;> first | (exfalso; first | omega | exact h (by assumption) | exact absurd h (by assumption)) | simp [e, he1, ClientR.enc, RspR.enc, ReplyR.enc, MsgR.enc, CallR.enc])
    | (refine condK_dec (fun h e => ?_) (fun h e => ?_) <;> first | (exfalso; first | omega | exact h (by assumption) | exact absurd h (by assumption)) | simp [e, he1, ClientR.enc, RspR.enc, ReplyR.enc, MsgR.enc, CallR.enc])
    | (refine gdK_ndec (fun h e => ?_) (fun h e => ?_) <;> first | (exfalso; first | omega | exact h (by assumption) | exact absurd h (by assumption)) | simp [e, he1, ClientR.enc, RspR.enc, ReplyR.enc, MsgR.enc, CallR.enc])
    | (refine gdK_dec (fun h e => ?_) (fun h e => ?_) <;> first | (exfalso; first | omega | exact h (by assumption) | exact absurd h (by assumption)) | simp [e, he1, ClientR.enc, RspR.enc, ReplyR.enc, MsgR.enc, CallR.enc])
    | (refine gdD_ndec (fun h e => ?_) (fun h e => ?_) <;> first | (exfalso; first | omega | exact h (by assumption) | exact absurd h (by assumption)) | simp [e, he1, ClientR.enc, RspR.enc, ReplyR.enc, MsgR.enc, CallR.enc])
    | (refine gdD_dec (fun h e => ?_) (fun h e => ?_) <;> first | (exfalso; first | omega | exact h (by assumption) | exact absurd h (by assumption)) | simp [e, he1, ClientR.enc, RspR.enc, ReplyR.enc, MsgR.enc, CallR.enc])
    | (refine AInv.pure (say_ok c hr.inJob) ?_ ?_; (focus (first | rfl | (simp [he1, ClientR.enc, RspR.enc, ReplyR.enc, MsgR.enc, CallR.enc]; done))); try simp [he1, ClientR.enc, RspR.enc, ReplyR.enc, MsgR.enc, CallR.enc])
    | (refine ADcall.pure (say_ok c hr.inJob) ?_ ?_; (focus (first | rfl | (simp [he1, ClientR.enc, RspR.enc, ReplyR.enc, MsgR.enc, CallR.enc]; done))); try simp [he1, ClientR.enc, RspR.enc, ReplyR.enc, MsgR.enc, CallR.enc])
    | (refine AInv.pure (rsay_ok c hr.inJob) ?_ ?_; (focus (first | rfl | (simp [he1, ClientR.enc, RspR.enc, ReplyR.enc, MsgR.enc, CallR.enc]; done))); try simp [he1, ClientR.enc, RspR.enc, ReplyR.enc, MsgR.enc, CallR.enc])
    | (refine ADcall.pure (rsay_ok c hr.inJob) ?_ ?_; (focus (first | rfl | (simp [he1, ClientR.enc, RspR.enc, ReplyR.enc, MsgR.enc, CallR.enc]; done))); try simp [he1, ClientR.enc, RspR.enc, ReplyR.enc, MsgR.enc, CallR.enc])
    | (refine AInv.pure (asks_ok c) ?_ ?_; (focus (first | rfl | (simp [he1, ClientR.enc, RspR.enc, ReplyR.enc, MsgR.enc, CallR.enc]; done))); try simp [he1, ClientR.enc, RspR.enc, ReplyR.enc, MsgR.enc, CallR.enc])
    | (refine ADcall.pure (asks_ok c) ?_ ?_; (focus (first | rfl | (simp [he1, ClientR.enc, RspR.enc, ReplyR.enc, MsgR.enc, CallR.enc]; done))); try simp [he1, ClientR.enc, RspR.enc, ReplyR.enc, MsgR.enc, CallR.enc])
    | (refine AInv.pure (rasks_ok c) ?_ ?_; (focus (first | rfl | (simp [he1, ClientR.enc, RspR.enc, ReplyR.enc, MsgR.enc, CallR.enc]; done))); try simp [he1, ClientR.enc, RspR.enc, ReplyR.enc, MsgR.enc, CallR.enc])
    | (refine ADcall.pure (rasks_ok c) ?_ ?_; (focus (first | rfl | (simp [he1, ClientR.enc, RspR.enc, ReplyR.enc, MsgR.enc, CallR.enc]; done))); try simp [he1, ClientR.enc, RspR.enc, ReplyR.enc, MsgR.enc, CallR.enc])
    | (refine AInv.pure (hear_ok c r hr.inJob (by omega) (by omega)) ?_ ?_; (focus (first | rfl | (simp [he1, ClientR.enc, RspR.enc, ReplyR.enc, MsgR.enc, CallR.enc]; done))); try simp [he1, ClientR.enc, RspR.enc, ReplyR.enc, MsgR.enc, CallR.enc])
    | (refine ADcall.pure (hear_ok c r hr.inJob (by omega) (by omega)) ?_ ?_; (focus (first | rfl | (simp [he1, ClientR.enc, RspR.enc, ReplyR.enc, MsgR.enc, CallR.enc]; done))); try simp [he1, ClientR.enc, RspR.enc, ReplyR.enc, MsgR.enc, CallR.enc])
    | (refine AInv.pure (rhear_ok c r hr.inJob (by omega) (by omega) (by omega)) ?_ ?_; (focus (first | rfl | (simp [he1, ClientR.enc, RspR.enc, ReplyR.enc, MsgR.enc, CallR.enc]; done))); try simp [he1, ClientR.enc, RspR.enc, ReplyR.enc, MsgR.enc, CallR.enc])
    | (refine ADcall.pure (rhear_ok c r hr.inJob (by omega) (by omega) (by omega)) ?_ ?_; (focus (first | rfl | (simp [he1, ClientR.enc, RspR.enc, ReplyR.enc, MsgR.enc, CallR.enc]; done))); try simp [he1, ClientR.enc, RspR.enc, ReplyR.enc, MsgR.enc, CallR.enc])
    | (refine AInv.pure (rsame_ok (hearS c r) (hearS c r)) ?_ ?_; (focus (first | rfl | (simp [he1, ClientR.enc, RspR.enc, ReplyR.enc, MsgR.enc, CallR.enc]; done))); try simp [he1, ClientR.enc, RspR.enc, ReplyR.enc, MsgR.enc, CallR.enc])
    | (refine ADcall.pure (rsame_ok (hearS c r) (hearS c r)) ?_ ?_; (focus (first | rfl | (simp [he1, ClientR.enc, RspR.enc, ReplyR.enc, MsgR.enc, CallR.enc]; done))); try simp [he1, ClientR.enc, RspR.enc, ReplyR.enc, MsgR.enc, CallR.enc])
    | (refine AInv.pure (cliSame_ok c other) ?_ ?_; (focus (first | rfl | (simp [he1, ClientR.enc, RspR.enc, ReplyR.enc, MsgR.enc, CallR.enc]; done))); try simp [he1, ClientR.enc, RspR.enc, ReplyR.enc, MsgR.enc, CallR.enc])
    | (refine ADcall.pure (cliSame_ok c other) ?_ ?_; (focus (first | rfl | (simp [he1, ClientR.enc, RspR.enc, ReplyR.enc, MsgR.enc, CallR.enc]; done))); try simp [he1, ClientR.enc, RspR.enc, ReplyR.enc, MsgR.enc, CallR.enc])
    | (refine AInv.pure (rsame_ok c other) ?_ ?_; (focus (first | rfl | (simp [he1, ClientR.enc, RspR.enc, ReplyR.enc, MsgR.enc, CallR.enc]; done))); try simp [he1, ClientR.enc, RspR.enc, ReplyR.enc, MsgR.enc, CallR.enc])
    | (refine ADcall.pure (rsame_ok c other) ?_ ?_; (focus (first | rfl | (simp [he1, ClientR.enc, RspR.enc, ReplyR.enc, MsgR.enc, CallR.enc]; done))); try simp [he1, ClientR.enc, RspR.enc, ReplyR.enc, MsgR.enc, CallR.enc])
    | (refine AW.draw (id := 9) Try.checked.mixed (fun _ => false) [] [] 8 (by kernel_rfl) ?_; simp [he1, ClientR.enc, RspR.enc, ReplyR.enc, MsgR.enc, CallR.enc])
    | (refine AW.draw (id := 10) Try.checked.mixed (fun _ => false) [] [] 34 (by kernel_rfl) ?_; simp [he1, ClientR.enc, RspR.enc, ReplyR.enc, MsgR.enc, CallR.enc])
    | (rw [if_pos (by first | omega | (simp only [maxLen]; omega))]; try simp [he1, ClientR.enc, RspR.enc, ReplyR.enc, MsgR.enc, CallR.enc])
    | (rw [if_neg (by first | omega | (simp only [maxLen]; omega))]; try simp [he1, ClientR.enc, RspR.enc, ReplyR.enc, MsgR.enc, CallR.enc])
    | (rw [frzOwn_neat (by simp) (by simp <;> omega)]; try simp [he1, ClientR.enc, RspR.enc, ReplyR.enc, MsgR.enc, CallR.enc])
    | (rw [fzOwn_neat (by simp) (by simp <;> omega)]; try simp [he1, ClientR.enc, RspR.enc, ReplyR.enc, MsgR.enc, CallR.enc])
    | (refine condK_nb (fun h e => ?_) (fun h e => ?_) <;> first | (exfalso; first | omega | exact h (by assumption) | exact absurd h (by assumption)) | simp [e, he1, ClientR.enc, RspR.enc, ReplyR.enc, MsgR.enc, CallR.enc])
    | (refine condK_b (fun h e => ?_) (fun h e => ?_) <;> first | (exfalso; first | omega | exact h (by assumption) | exact absurd h (by assumption)) | simp [e, he1, ClientR.enc, RspR.enc, ReplyR.enc, MsgR.enc, CallR.enc])
    | (refine gdK_nb (fun h e => ?_) (fun h e => ?_) <;> first | (exfalso; first | omega | exact h (by assumption) | exact absurd h (by assumption)) | simp [e, he1, ClientR.enc, RspR.enc, ReplyR.enc, MsgR.enc, CallR.enc])
    | (refine gdD_nb (fun h e => ?_) (fun h e => ?_) <;> first | (exfalso; first | omega | exact h (by assumption) | exact absurd h (by assumption)) | simp [e, he1, ClientR.enc, RspR.enc, ReplyR.enc, MsgR.enc, CallR.enc])
    | (refine gdK_b (fun h e => ?_) (fun h e => ?_) <;> first | (exfalso; first | omega | exact h (by assumption) | exact absurd h (by assumption)) | simp [e, he1, ClientR.enc, RspR.enc, ReplyR.enc, MsgR.enc, CallR.enc])
    | (refine gdD_b (fun h e => ?_) (fun h e => ?_) <;> first | (exfalso; first | omega | exact h (by assumption) | exact absurd h (by assumption)) | simp [e, he1, ClientR.enc, RspR.enc, ReplyR.enc, MsgR.enc, CallR.enc]))
end Go.Proofs.Ytpejmbffoklliaa
