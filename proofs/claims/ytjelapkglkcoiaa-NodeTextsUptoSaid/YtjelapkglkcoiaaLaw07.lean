/- The statements of layer 7 hold. -/
import Derived.Test.YtjelapkglkcoiaaNodD
import Derived.Test.YtjelapkglkcoiaaNodeT
set_option linter.unusedVariables false
set_option linter.unusedSimpArgs false
namespace Go.Proofs.Ytjelapkglkcoiaa
open Go.Cx Tab
set_option maxHeartbeats 400000
set_option maxRecDepth 40000

abbrev root : NodeR := ⟨1, 2, 0, .empty, []⟩
theorem root_text : nodeL root = [2, 4, 0, 0, 0] := by
  simp [nodeL, headL, whl, foldS, textL, numL_lo, root]
theorem root_wf : root.wf := by simp [NodeR.wf, inI]
theorem root_ok : nodeOk root = true := by decide
theorem shown07_ok : PCall Try.prog 16 [] (B true) := by
  refine PCall.mk (fun _ => false) Try.func16 rfl rfl rfl (Ent.mk Try.func16 (by kernel_rfl) rfl) (by simp) (by simp) fun hfit => ?_
  simp [Try.f16]
  have h1 := ntext_ok root root_wf (by rw [root_text]; simp)
  have h2 := nright_ok root
  have h3 := nsame_ok root root
  rw [root_text] at h1
  rw [root_ok] at h2
  simp only [decide_true] at h3
  try simp [NodeR.enc]
  repeat' (first
    | ((first | refine condK_ndec (fun hw_ ew_ => ?_) (fun hw_ ew_ => ?_) | refine condK_dec (fun hw_ ew_ => ?_) (fun hw_ ew_ => ?_) | refine gdK_ndec (fun hw_ ew_ => ?_) (fun hw_ ew_ => ?_) | refine gdK_dec (fun hw_ ew_ => ?_) (fun hw_ ew_ => ?_) | refine gdD_ndec (fun hw_ ew_ => ?_) (fun hw_ ew_ => ?_) | refine gdD_dec (fun hw_ ew_ => ?_) (fun hw_ ew_ => ?_)) <;> first | (exfalso; first | omega | with_reducible exact hw_ (by assumption) | with_reducible exact absurd hw_ (by assumption)) | ((first | have nw_ := Int.not_lt.1 hw_ | have nw_ := Int.not_le.1 hw_ | have nw_ := Nat.not_lt.1 hw_ | have nw_ := Nat.not_le.1 hw_ | have nw_ := Int.not_le.2 hw_ | have nw_ := Int.not_lt.2 hw_ | have nw_ := Nat.not_le.2 hw_ | have nw_ := Nat.not_lt.2 hw_); simp [ew_, nw_, NodeR.enc]) | simp [ew_, NodeR.enc])
    | (refine AInv.lend (h1) rfl ?_ ?_; (focus (first | (simp [NodeR.enc]; done) | (simp; rw [frzOwn_neat (by simp) (by simp <;> omega)]; simp [NodeR.enc]; done))); try simp [NodeR.enc])
    | (refine AInv.lend (h2) rfl ?_ ?_; (focus (first | (simp [NodeR.enc]; done) | (simp; rw [frzOwn_neat (by simp) (by simp <;> omega)]; simp [NodeR.enc]; done))); try simp [NodeR.enc])
    | (refine AInv.lend (h3) rfl ?_ ?_; (focus (first | (simp [NodeR.enc]; done) | (simp; rw [frzOwn_neat (by simp) (by simp <;> omega)]; simp [NodeR.enc]; done))); try simp [NodeR.enc])
    | (rw [if_pos (by first | omega | (simp only [maxLen]; omega))]; try simp [NodeR.enc])
    | (rw [if_neg (by first | omega | (simp only [maxLen]; omega))]; try simp [NodeR.enc])
    | (rw [frzOwn_neat (by simp) (by simp <;> omega)]; try simp [NodeR.enc])
    | (rw [fzOwn_neat (by simp) (by simp <;> omega)]; try simp [NodeR.enc])
    | ((first | refine condK_nb (fun hw_ ew_ => ?_) (fun hw_ ew_ => ?_) | refine condK_b (fun hw_ ew_ => ?_) (fun hw_ ew_ => ?_) | refine gdK_nb (fun hw_ ew_ => ?_) (fun hw_ ew_ => ?_) | refine gdD_nb (fun hw_ ew_ => ?_) (fun hw_ ew_ => ?_) | refine gdK_b (fun hw_ ew_ => ?_) (fun hw_ ew_ => ?_) | refine gdD_b (fun hw_ ew_ => ?_) (fun hw_ ew_ => ?_)) <;> first | (exfalso; first | omega | with_reducible exact hw_ (by assumption) | with_reducible exact absurd hw_ (by assumption)) | ((first | have nw_ := Int.not_lt.1 hw_ | have nw_ := Int.not_le.1 hw_ | have nw_ := Nat.not_lt.1 hw_ | have nw_ := Nat.not_le.1 hw_ | have nw_ := Int.not_le.2 hw_ | have nw_ := Int.not_lt.2 hw_ | have nw_ := Nat.not_le.2 hw_ | have nw_ := Nat.not_lt.2 hw_); simp [ew_, nw_, NodeR.enc]) | simp [ew_, NodeR.enc]))

theorem law_same (a b : NodeR) (ha : a.wf) (hb : b.wf) : PCall Try.prog 3 [encN a, encN b] (B true) := by
  refine PCall.mk (fun _ => false) Try.func3 rfl rfl rfl (Ent.mk Try.func3 (by kernel_rfl) rfl) (by simp) (by simp) fun hfit => ?_
  simp [Try.f3]
  have c1 := fun h => ntext_ok a ha (by have := nodeL_small ha h; omega)
  have c2 := fun h => ntext_ok b hb (by have := nodeL_small hb h; omega)
  refine AInv.pure shown07_ok rfl ?_
  simp
  cases h1 : nodeOk a with
  | false =>
    have hin2 : b = a ↔ a = b := eq_comm
    try simp [NodeR.enc, h1, hin2]
    repeat' (first
      | ((first | refine condK_ndec (fun hw_ ew_ => ?_) (fun hw_ ew_ => ?_) | refine condK_dec (fun hw_ ew_ => ?_) (fun hw_ ew_ => ?_) | refine gdK_ndec (fun hw_ ew_ => ?_) (fun hw_ ew_ => ?_) | refine gdK_dec (fun hw_ ew_ => ?_) (fun hw_ ew_ => ?_) | refine gdD_ndec (fun hw_ ew_ => ?_) (fun hw_ ew_ => ?_) | refine gdD_dec (fun hw_ ew_ => ?_) (fun hw_ ew_ => ?_)) <;> first | (exfalso; first | omega | with_reducible exact hw_ (by assumption) | with_reducible exact absurd hw_ (by assumption)) | ((first | have nw_ := Int.not_lt.1 hw_ | have nw_ := Int.not_le.1 hw_ | have nw_ := Nat.not_lt.1 hw_ | have nw_ := Nat.not_le.1 hw_ | have nw_ := Int.not_le.2 hw_ | have nw_ := Int.not_lt.2 hw_ | have nw_ := Nat.not_le.2 hw_ | have nw_ := Nat.not_lt.2 hw_); simp [ew_, nw_, NodeR.enc, h1, hin2]) | simp [ew_, NodeR.enc, h1, hin2])
      | (refine AInv.pure (nsame_ok a b) ?_ ?_; (focus (first | rfl | (simp [NodeR.enc, h1, hin2]; done))); try simp [NodeR.enc, h1, hin2])
      | (refine ADcall.pure (nsame_ok a b) ?_ ?_; (focus (first | rfl | (simp [NodeR.enc, h1, hin2]; done))); try simp [NodeR.enc, h1, hin2])
      | (refine AInv.pure (nsame_ok b a) ?_ ?_; (focus (first | rfl | (simp [NodeR.enc, h1, hin2]; done))); try simp [NodeR.enc, h1, hin2])
      | (refine ADcall.pure (nsame_ok b a) ?_ ?_; (focus (first | rfl | (simp [NodeR.enc, h1, hin2]; done))); try simp [NodeR.enc, h1, hin2])
      | (refine AInv.pure (nsame_ok a a) ?_ ?_; (focus (first | rfl | (simp [NodeR.enc, h1, hin2]; done))); try simp [NodeR.enc, h1, hin2])
      | (refine ADcall.pure (nsame_ok a a) ?_ ?_; (focus (first | rfl | (simp [NodeR.enc, h1, hin2]; done))); try simp [NodeR.enc, h1, hin2])
      | (refine AInv.pure (rnright_ok a) ?_ ?_; (focus (first | rfl | (simp [NodeR.enc, h1, hin2]; done))); try simp [NodeR.enc, h1, hin2])
      | (refine ADcall.pure (rnright_ok a) ?_ ?_; (focus (first | rfl | (simp [NodeR.enc, h1, hin2]; done))); try simp [NodeR.enc, h1, hin2])
      | (refine AInv.pure (rnright_ok b) ?_ ?_; (focus (first | rfl | (simp [NodeR.enc, h1, hin2]; done))); try simp [NodeR.enc, h1, hin2])
      | (refine ADcall.pure (rnright_ok b) ?_ ?_; (focus (first | rfl | (simp [NodeR.enc, h1, hin2]; done))); try simp [NodeR.enc, h1, hin2])
      | (refine AW.draw (id := 6) Try.checked.mixed (fun _ => false) [] [] 27 (by kernel_rfl) ?_; simp [NodeR.enc, h1, hin2])
      | (rw [if_pos (by first | omega | (simp only [maxLen]; omega))]; try simp [NodeR.enc, h1, hin2])
      | (rw [if_neg (by first | omega | (simp only [maxLen]; omega))]; try simp [NodeR.enc, h1, hin2])
      | (rw [frzOwn_neat (by simp) (by simp <;> omega)]; try simp [NodeR.enc, h1, hin2])
      | (rw [fzOwn_neat (by simp) (by simp <;> omega)]; try simp [NodeR.enc, h1, hin2])
      | ((first | refine condK_nb (fun hw_ ew_ => ?_) (fun hw_ ew_ => ?_) | refine condK_b (fun hw_ ew_ => ?_) (fun hw_ ew_ => ?_) | refine gdK_nb (fun hw_ ew_ => ?_) (fun hw_ ew_ => ?_) | refine gdD_nb (fun hw_ ew_ => ?_) (fun hw_ ew_ => ?_) | refine gdK_b (fun hw_ ew_ => ?_) (fun hw_ ew_ => ?_) | refine gdD_b (fun hw_ ew_ => ?_) (fun hw_ ew_ => ?_)) <;> first | (exfalso; first | omega | with_reducible exact hw_ (by assumption) | with_reducible exact absurd hw_ (by assumption)) | ((first | have nw_ := Int.not_lt.1 hw_ | have nw_ := Int.not_le.1 hw_ | have nw_ := Nat.not_lt.1 hw_ | have nw_ := Nat.not_le.1 hw_ | have nw_ := Int.not_le.2 hw_ | have nw_ := Int.not_lt.2 hw_ | have nw_ := Nat.not_le.2 hw_ | have nw_ := Nat.not_lt.2 hw_); simp [ew_, nw_, NodeR.enc, h1, hin2]) | simp [ew_, NodeR.enc, h1, hin2]))
  | true =>
    have hin2 : b = a ↔ a = b := eq_comm
    cases h2 : nodeOk b with
    | false =>
      try simp [NodeR.enc, h1, h2, hin2]
      repeat' (first
        | ((first | refine condK_ndec (fun hw_ ew_ => ?_) (fun hw_ ew_ => ?_) | refine condK_dec (fun hw_ ew_ => ?_) (fun hw_ ew_ => ?_) | refine gdK_ndec (fun hw_ ew_ => ?_) (fun hw_ ew_ => ?_) | refine gdK_dec (fun hw_ ew_ => ?_) (fun hw_ ew_ => ?_) | refine gdD_ndec (fun hw_ ew_ => ?_) (fun hw_ ew_ => ?_) | refine gdD_dec (fun hw_ ew_ => ?_) (fun hw_ ew_ => ?_)) <;> first | (exfalso; first | omega | with_reducible exact hw_ (by assumption) | with_reducible exact absurd hw_ (by assumption)) | ((first | have nw_ := Int.not_lt.1 hw_ | have nw_ := Int.not_le.1 hw_ | have nw_ := Nat.not_lt.1 hw_ | have nw_ := Nat.not_le.1 hw_ | have nw_ := Int.not_le.2 hw_ | have nw_ := Int.not_lt.2 hw_ | have nw_ := Nat.not_le.2 hw_ | have nw_ := Nat.not_lt.2 hw_); simp [ew_, nw_, NodeR.enc, h1, h2, hin2]) | simp [ew_, NodeR.enc, h1, h2, hin2])
        | (refine AInv.pure (nsame_ok a b) ?_ ?_; (focus (first | rfl | (simp [NodeR.enc, h1, h2, hin2]; done))); try simp [NodeR.enc, h1, h2, hin2])
        | (refine ADcall.pure (nsame_ok a b) ?_ ?_; (focus (first | rfl | (simp [NodeR.enc, h1, h2, hin2]; done))); try simp [NodeR.enc, h1, h2, hin2])
        | (refine AInv.pure (nsame_ok b a) ?_ ?_; (focus (first | rfl | (simp [NodeR.enc, h1, h2, hin2]; done))); try simp [NodeR.enc, h1, h2, hin2])
        | (refine ADcall.pure (nsame_ok b a) ?_ ?_; (focus (first | rfl | (simp [NodeR.enc, h1, h2, hin2]; done))); try simp [NodeR.enc, h1, h2, hin2])
        | (refine AInv.pure (nsame_ok a a) ?_ ?_; (focus (first | rfl | (simp [NodeR.enc, h1, h2, hin2]; done))); try simp [NodeR.enc, h1, h2, hin2])
        | (refine ADcall.pure (nsame_ok a a) ?_ ?_; (focus (first | rfl | (simp [NodeR.enc, h1, h2, hin2]; done))); try simp [NodeR.enc, h1, h2, hin2])
        | (refine AInv.pure (rnright_ok a) ?_ ?_; (focus (first | rfl | (simp [NodeR.enc, h1, h2, hin2]; done))); try simp [NodeR.enc, h1, h2, hin2])
        | (refine ADcall.pure (rnright_ok a) ?_ ?_; (focus (first | rfl | (simp [NodeR.enc, h1, h2, hin2]; done))); try simp [NodeR.enc, h1, h2, hin2])
        | (refine AInv.pure (rnright_ok b) ?_ ?_; (focus (first | rfl | (simp [NodeR.enc, h1, h2, hin2]; done))); try simp [NodeR.enc, h1, h2, hin2])
        | (refine ADcall.pure (rnright_ok b) ?_ ?_; (focus (first | rfl | (simp [NodeR.enc, h1, h2, hin2]; done))); try simp [NodeR.enc, h1, h2, hin2])
        | (refine AW.draw (id := 6) Try.checked.mixed (fun _ => false) [] [] 27 (by kernel_rfl) ?_; simp [NodeR.enc, h1, h2, hin2])
        | (rw [if_pos (by first | omega | (simp only [maxLen]; omega))]; try simp [NodeR.enc, h1, h2, hin2])
        | (rw [if_neg (by first | omega | (simp only [maxLen]; omega))]; try simp [NodeR.enc, h1, h2, hin2])
        | (rw [frzOwn_neat (by simp) (by simp <;> omega)]; try simp [NodeR.enc, h1, h2, hin2])
        | (rw [fzOwn_neat (by simp) (by simp <;> omega)]; try simp [NodeR.enc, h1, h2, hin2])
        | ((first | refine condK_nb (fun hw_ ew_ => ?_) (fun hw_ ew_ => ?_) | refine condK_b (fun hw_ ew_ => ?_) (fun hw_ ew_ => ?_) | refine gdK_nb (fun hw_ ew_ => ?_) (fun hw_ ew_ => ?_) | refine gdD_nb (fun hw_ ew_ => ?_) (fun hw_ ew_ => ?_) | refine gdK_b (fun hw_ ew_ => ?_) (fun hw_ ew_ => ?_) | refine gdD_b (fun hw_ ew_ => ?_) (fun hw_ ew_ => ?_)) <;> first | (exfalso; first | omega | with_reducible exact hw_ (by assumption) | with_reducible exact absurd hw_ (by assumption)) | ((first | have nw_ := Int.not_lt.1 hw_ | have nw_ := Int.not_le.1 hw_ | have nw_ := Nat.not_lt.1 hw_ | have nw_ := Nat.not_le.1 hw_ | have nw_ := Int.not_le.2 hw_ | have nw_ := Int.not_lt.2 hw_ | have nw_ := Nat.not_le.2 hw_ | have nw_ := Nat.not_lt.2 hw_); simp [ew_, nw_, NodeR.enc, h1, h2, hin2]) | simp [ew_, NodeR.enc, h1, h2, hin2]))
    | true =>
      have hin : nodeL a = nodeL b ↔ a = b := ⟨nodeL_inj h1 h2 ha hb, fun e => by rw [e]⟩
      try simp [NodeR.enc, h1, h2, T_inj, hin, hin2]
      repeat' (first
        | ((first | refine condK_ndec (fun hw_ ew_ => ?_) (fun hw_ ew_ => ?_) | refine condK_dec (fun hw_ ew_ => ?_) (fun hw_ ew_ => ?_) | refine gdK_ndec (fun hw_ ew_ => ?_) (fun hw_ ew_ => ?_) | refine gdK_dec (fun hw_ ew_ => ?_) (fun hw_ ew_ => ?_) | refine gdD_ndec (fun hw_ ew_ => ?_) (fun hw_ ew_ => ?_) | refine gdD_dec (fun hw_ ew_ => ?_) (fun hw_ ew_ => ?_)) <;> first | (exfalso; first | omega | with_reducible exact hw_ (by assumption) | with_reducible exact absurd hw_ (by assumption)) | ((first | have nw_ := Int.not_lt.1 hw_ | have nw_ := Int.not_le.1 hw_ | have nw_ := Nat.not_lt.1 hw_ | have nw_ := Nat.not_le.1 hw_ | have nw_ := Int.not_le.2 hw_ | have nw_ := Int.not_lt.2 hw_ | have nw_ := Nat.not_le.2 hw_ | have nw_ := Nat.not_lt.2 hw_); simp [ew_, nw_, NodeR.enc, h1, h2, T_inj, hin, hin2]) | simp [ew_, NodeR.enc, h1, h2, T_inj, hin, hin2])
        | (refine AInv.pure (nsame_ok a b) ?_ ?_; (focus (first | rfl | (simp [NodeR.enc, h1, h2, T_inj, hin, hin2]; done))); try simp [NodeR.enc, h1, h2, T_inj, hin, hin2])
        | (refine ADcall.pure (nsame_ok a b) ?_ ?_; (focus (first | rfl | (simp [NodeR.enc, h1, h2, T_inj, hin, hin2]; done))); try simp [NodeR.enc, h1, h2, T_inj, hin, hin2])
        | (refine AInv.pure (nsame_ok b a) ?_ ?_; (focus (first | rfl | (simp [NodeR.enc, h1, h2, T_inj, hin, hin2]; done))); try simp [NodeR.enc, h1, h2, T_inj, hin, hin2])
        | (refine ADcall.pure (nsame_ok b a) ?_ ?_; (focus (first | rfl | (simp [NodeR.enc, h1, h2, T_inj, hin, hin2]; done))); try simp [NodeR.enc, h1, h2, T_inj, hin, hin2])
        | (refine AInv.pure (nsame_ok a a) ?_ ?_; (focus (first | rfl | (simp [NodeR.enc, h1, h2, T_inj, hin, hin2]; done))); try simp [NodeR.enc, h1, h2, T_inj, hin, hin2])
        | (refine ADcall.pure (nsame_ok a a) ?_ ?_; (focus (first | rfl | (simp [NodeR.enc, h1, h2, T_inj, hin, hin2]; done))); try simp [NodeR.enc, h1, h2, T_inj, hin, hin2])
        | (refine AInv.pure (rnright_ok a) ?_ ?_; (focus (first | rfl | (simp [NodeR.enc, h1, h2, T_inj, hin, hin2]; done))); try simp [NodeR.enc, h1, h2, T_inj, hin, hin2])
        | (refine ADcall.pure (rnright_ok a) ?_ ?_; (focus (first | rfl | (simp [NodeR.enc, h1, h2, T_inj, hin, hin2]; done))); try simp [NodeR.enc, h1, h2, T_inj, hin, hin2])
        | (refine AInv.pure (rnright_ok b) ?_ ?_; (focus (first | rfl | (simp [NodeR.enc, h1, h2, T_inj, hin, hin2]; done))); try simp [NodeR.enc, h1, h2, T_inj, hin, hin2])
        | (refine ADcall.pure (rnright_ok b) ?_ ?_; (focus (first | rfl | (simp [NodeR.enc, h1, h2, T_inj, hin, hin2]; done))); try simp [NodeR.enc, h1, h2, T_inj, hin, hin2])
        | (refine AInv.pure (c1 h1) ?_ ?_; (focus (first | rfl | (simp [NodeR.enc, h1, h2, T_inj, hin, hin2]; done))); try simp [NodeR.enc, h1, h2, T_inj, hin, hin2])
        | (refine ADcall.pure (c1 h1) ?_ ?_; (focus (first | rfl | (simp [NodeR.enc, h1, h2, T_inj, hin, hin2]; done))); try simp [NodeR.enc, h1, h2, T_inj, hin, hin2])
        | (refine AInv.pure (c2 h2) ?_ ?_; (focus (first | rfl | (simp [NodeR.enc, h1, h2, T_inj, hin, hin2]; done))); try simp [NodeR.enc, h1, h2, T_inj, hin, hin2])
        | (refine ADcall.pure (c2 h2) ?_ ?_; (focus (first | rfl | (simp [NodeR.enc, h1, h2, T_inj, hin, hin2]; done))); try simp [NodeR.enc, h1, h2, T_inj, hin, hin2])
        | (refine AW.draw (id := 6) Try.checked.mixed (fun _ => false) [] [] 27 (by kernel_rfl) ?_; simp [NodeR.enc, h1, h2, T_inj, hin, hin2])
        | (rw [if_pos (by first | omega | (simp only [maxLen]; omega))]; try simp [NodeR.enc, h1, h2, T_inj, hin, hin2])
        | (rw [if_neg (by first | omega | (simp only [maxLen]; omega))]; try simp [NodeR.enc, h1, h2, T_inj, hin, hin2])
        | (rw [frzOwn_neat (by simp) (by simp <;> omega)]; try simp [NodeR.enc, h1, h2, T_inj, hin, hin2])
        | (rw [fzOwn_neat (by simp) (by simp <;> omega)]; try simp [NodeR.enc, h1, h2, T_inj, hin, hin2])
        | ((first | refine condK_nb (fun hw_ ew_ => ?_) (fun hw_ ew_ => ?_) | refine condK_b (fun hw_ ew_ => ?_) (fun hw_ ew_ => ?_) | refine gdK_nb (fun hw_ ew_ => ?_) (fun hw_ ew_ => ?_) | refine gdD_nb (fun hw_ ew_ => ?_) (fun hw_ ew_ => ?_) | refine gdK_b (fun hw_ ew_ => ?_) (fun hw_ ew_ => ?_) | refine gdD_b (fun hw_ ew_ => ?_) (fun hw_ ew_ => ?_)) <;> first | (exfalso; first | omega | with_reducible exact hw_ (by assumption) | with_reducible exact absurd hw_ (by assumption)) | ((first | have nw_ := Int.not_lt.1 hw_ | have nw_ := Int.not_le.1 hw_ | have nw_ := Nat.not_lt.1 hw_ | have nw_ := Nat.not_le.1 hw_ | have nw_ := Int.not_le.2 hw_ | have nw_ := Int.not_lt.2 hw_ | have nw_ := Nat.not_le.2 hw_ | have nw_ := Nat.not_lt.2 hw_); simp [ew_, nw_, NodeR.enc, h1, h2, T_inj, hin, hin2]) | simp [ew_, NodeR.enc, h1, h2, T_inj, hin, hin2]))

theorem law_kinds (n : NodeR) : PCall Try.prog 6 [encN n] (B true) := by
  refine PCall.mk (fun _ => false) Try.func6 rfl rfl rfl (Ent.mk Try.func6 (by kernel_rfl) rfl) (by simp) (by simp) fun hfit => ?_
  simp [NodeR.enc] at hfit
  have hll := maxLen_lt hfit.1
  simp [Try.f6]
  refine AInv.pure shown07_ok rfl ?_
  simp
  have h0 : nodeOk { n with ino := 0 } = false := by simp [nodeOk]
  have hs : sizeS { n with ino := 0 } ≤ n.l.length + n.text.size := by simp only [sizeS]; split <;> omega
  cases h1 : nodeOk n with
  | false =>
    try simp [NodeR.enc, h1, h0]
    repeat' (first
      | ((first | refine condK_ndec (fun hw_ ew_ => ?_) (fun hw_ ew_ => ?_) | refine condK_dec (fun hw_ ew_ => ?_) (fun hw_ ew_ => ?_) | refine gdK_ndec (fun hw_ ew_ => ?_) (fun hw_ ew_ => ?_) | refine gdK_dec (fun hw_ ew_ => ?_) (fun hw_ ew_ => ?_) | refine gdD_ndec (fun hw_ ew_ => ?_) (fun hw_ ew_ => ?_) | refine gdD_dec (fun hw_ ew_ => ?_) (fun hw_ ew_ => ?_)) <;> first | (exfalso; first | omega | with_reducible exact hw_ (by assumption) | with_reducible exact absurd hw_ (by assumption)) | ((first | have nw_ := Int.not_lt.1 hw_ | have nw_ := Int.not_le.1 hw_ | have nw_ := Nat.not_lt.1 hw_ | have nw_ := Nat.not_le.1 hw_ | have nw_ := Int.not_le.2 hw_ | have nw_ := Int.not_lt.2 hw_ | have nw_ := Nat.not_le.2 hw_ | have nw_ := Nat.not_lt.2 hw_); simp [ew_, nw_, NodeR.enc, h1, h0]) | simp [ew_, NodeR.enc, h1, h0])
      | (refine AInv.pure (nright_ok n) ?_ ?_; (focus (first | rfl | (simp [NodeR.enc, h1, h0]; done))); try simp [NodeR.enc, h1, h0])
      | (refine ADcall.pure (nright_ok n) ?_ ?_; (focus (first | rfl | (simp [NodeR.enc, h1, h0]; done))); try simp [NodeR.enc, h1, h0])
      | (refine AInv.pure (nright_ok { n with ino := 0 }) ?_ ?_; (focus (first | rfl | (simp [NodeR.enc, h1, h0]; done))); try simp [NodeR.enc, h1, h0])
      | (refine ADcall.pure (nright_ok { n with ino := 0 }) ?_ ?_; (focus (first | rfl | (simp [NodeR.enc, h1, h0]; done))); try simp [NodeR.enc, h1, h0])
      | (refine AInv.pure (nsize_ok { n with ino := 0 }) ?_ ?_; (focus (first | rfl | (simp [NodeR.enc, h1, h0]; done))); try simp [NodeR.enc, h1, h0])
      | (refine ADcall.pure (nsize_ok { n with ino := 0 }) ?_ ?_; (focus (first | rfl | (simp [NodeR.enc, h1, h0]; done))); try simp [NodeR.enc, h1, h0])
      | (refine AW.draw (id := 8) Try.checked.mixed (fun _ => false) [] [] 19 (by kernel_rfl) ?_; simp [NodeR.enc, h1, h0])
      | (rw [if_pos (by first | omega | (simp only [maxLen]; omega))]; try simp [NodeR.enc, h1, h0])
      | (rw [if_neg (by first | omega | (simp only [maxLen]; omega))]; try simp [NodeR.enc, h1, h0])
      | (rw [frzOwn_neat (by simp) (by simp <;> omega)]; try simp [NodeR.enc, h1, h0])
      | (rw [fzOwn_neat (by simp) (by simp <;> omega)]; try simp [NodeR.enc, h1, h0])
      | ((first | refine condK_nb (fun hw_ ew_ => ?_) (fun hw_ ew_ => ?_) | refine condK_b (fun hw_ ew_ => ?_) (fun hw_ ew_ => ?_) | refine gdK_nb (fun hw_ ew_ => ?_) (fun hw_ ew_ => ?_) | refine gdD_nb (fun hw_ ew_ => ?_) (fun hw_ ew_ => ?_) | refine gdK_b (fun hw_ ew_ => ?_) (fun hw_ ew_ => ?_) | refine gdD_b (fun hw_ ew_ => ?_) (fun hw_ ew_ => ?_)) <;> first | (exfalso; first | omega | with_reducible exact hw_ (by assumption) | with_reducible exact absurd hw_ (by assumption)) | ((first | have nw_ := Int.not_lt.1 hw_ | have nw_ := Int.not_le.1 hw_ | have nw_ := Nat.not_lt.1 hw_ | have nw_ := Nat.not_le.1 hw_ | have nw_ := Int.not_le.2 hw_ | have nw_ := Int.not_lt.2 hw_ | have nw_ := Nat.not_le.2 hw_ | have nw_ := Nat.not_lt.2 hw_); simp [ew_, nw_, NodeR.enc, h1, h0]) | simp [ew_, NodeR.enc, h1, h0]))
    all_goals (rw [wrap_id (by omega) (by omega)]; exact hs)
  | true =>
    have g := (nodeOk_iff n).1 h1
    have gi := g.ino
    by_cases hk : n.kind = 2
    · have gt : (0 < n.text.size) = False := by have : n.text.size = 0 := by rw [g.dir hk]; rfl
                                                simp [this]
      have fk := eq_true hk
      try simp [NodeR.enc, h1, h0, fk, gt]
      repeat' (first
        | ((first | refine condK_ndec (fun hw_ ew_ => ?_) (fun hw_ ew_ => ?_) | refine condK_dec (fun hw_ ew_ => ?_) (fun hw_ ew_ => ?_) | refine gdK_ndec (fun hw_ ew_ => ?_) (fun hw_ ew_ => ?_) | refine gdK_dec (fun hw_ ew_ => ?_) (fun hw_ ew_ => ?_) | refine gdD_ndec (fun hw_ ew_ => ?_) (fun hw_ ew_ => ?_) | refine gdD_dec (fun hw_ ew_ => ?_) (fun hw_ ew_ => ?_)) <;> first | (exfalso; first | omega | with_reducible exact hw_ (by assumption) | with_reducible exact absurd hw_ (by assumption)) | ((first | have nw_ := Int.not_lt.1 hw_ | have nw_ := Int.not_le.1 hw_ | have nw_ := Nat.not_lt.1 hw_ | have nw_ := Nat.not_le.1 hw_ | have nw_ := Int.not_le.2 hw_ | have nw_ := Int.not_lt.2 hw_ | have nw_ := Nat.not_le.2 hw_ | have nw_ := Nat.not_lt.2 hw_); simp [ew_, nw_, NodeR.enc, h1, h0, fk, gt]) | simp [ew_, NodeR.enc, h1, h0, fk, gt])
        | (refine AInv.pure (nright_ok n) ?_ ?_; (focus (first | rfl | (simp [NodeR.enc, h1, h0, fk, gt]; done))); try simp [NodeR.enc, h1, h0, fk, gt])
        | (refine ADcall.pure (nright_ok n) ?_ ?_; (focus (first | rfl | (simp [NodeR.enc, h1, h0, fk, gt]; done))); try simp [NodeR.enc, h1, h0, fk, gt])
        | (refine AInv.pure (nright_ok { n with ino := 0 }) ?_ ?_; (focus (first | rfl | (simp [NodeR.enc, h1, h0, fk, gt]; done))); try simp [NodeR.enc, h1, h0, fk, gt])
        | (refine ADcall.pure (nright_ok { n with ino := 0 }) ?_ ?_; (focus (first | rfl | (simp [NodeR.enc, h1, h0, fk, gt]; done))); try simp [NodeR.enc, h1, h0, fk, gt])
        | (refine AInv.pure (nsize_ok { n with ino := 0 }) ?_ ?_; (focus (first | rfl | (simp [NodeR.enc, h1, h0, fk, gt]; done))); try simp [NodeR.enc, h1, h0, fk, gt])
        | (refine ADcall.pure (nsize_ok { n with ino := 0 }) ?_ ?_; (focus (first | rfl | (simp [NodeR.enc, h1, h0, fk, gt]; done))); try simp [NodeR.enc, h1, h0, fk, gt])
        | (refine AW.draw (id := 8) Try.checked.mixed (fun _ => false) [] [] 19 (by kernel_rfl) ?_; simp [NodeR.enc, h1, h0, fk, gt])
        | (rw [if_pos (by first | omega | (simp only [maxLen]; omega))]; try simp [NodeR.enc, h1, h0, fk, gt])
        | (rw [if_neg (by first | omega | (simp only [maxLen]; omega))]; try simp [NodeR.enc, h1, h0, fk, gt])
        | (rw [frzOwn_neat (by simp) (by simp <;> omega)]; try simp [NodeR.enc, h1, h0, fk, gt])
        | (rw [fzOwn_neat (by simp) (by simp <;> omega)]; try simp [NodeR.enc, h1, h0, fk, gt])
        | ((first | refine condK_nb (fun hw_ ew_ => ?_) (fun hw_ ew_ => ?_) | refine condK_b (fun hw_ ew_ => ?_) (fun hw_ ew_ => ?_) | refine gdK_nb (fun hw_ ew_ => ?_) (fun hw_ ew_ => ?_) | refine gdD_nb (fun hw_ ew_ => ?_) (fun hw_ ew_ => ?_) | refine gdK_b (fun hw_ ew_ => ?_) (fun hw_ ew_ => ?_) | refine gdD_b (fun hw_ ew_ => ?_) (fun hw_ ew_ => ?_)) <;> first | (exfalso; first | omega | with_reducible exact hw_ (by assumption) | with_reducible exact absurd hw_ (by assumption)) | ((first | have nw_ := Int.not_lt.1 hw_ | have nw_ := Int.not_le.1 hw_ | have nw_ := Nat.not_lt.1 hw_ | have nw_ := Nat.not_le.1 hw_ | have nw_ := Int.not_le.2 hw_ | have nw_ := Int.not_lt.2 hw_ | have nw_ := Nat.not_le.2 hw_ | have nw_ := Nat.not_lt.2 hw_); simp [ew_, nw_, NodeR.enc, h1, h0, fk, gt]) | simp [ew_, NodeR.enc, h1, h0, fk, gt]))
      all_goals (rw [wrap_id (by omega) (by omega)]; exact hs)
    · have gl : (0 < n.l.length) = False := by simp [g.els hk]
      have fk := eq_false hk
      try simp [NodeR.enc, h1, h0, fk, gl]
      repeat' (first
        | ((first | refine condK_ndec (fun hw_ ew_ => ?_) (fun hw_ ew_ => ?_) | refine condK_dec (fun hw_ ew_ => ?_) (fun hw_ ew_ => ?_) | refine gdK_ndec (fun hw_ ew_ => ?_) (fun hw_ ew_ => ?_) | refine gdK_dec (fun hw_ ew_ => ?_) (fun hw_ ew_ => ?_) | refine gdD_ndec (fun hw_ ew_ => ?_) (fun hw_ ew_ => ?_) | refine gdD_dec (fun hw_ ew_ => ?_) (fun hw_ ew_ => ?_)) <;> first | (exfalso; first | omega | with_reducible exact hw_ (by assumption) | with_reducible exact absurd hw_ (by assumption)) | ((first | have nw_ := Int.not_lt.1 hw_ | have nw_ := Int.not_le.1 hw_ | have nw_ := Nat.not_lt.1 hw_ | have nw_ := Nat.not_le.1 hw_ | have nw_ := Int.not_le.2 hw_ | have nw_ := Int.not_lt.2 hw_ | have nw_ := Nat.not_le.2 hw_ | have nw_ := Nat.not_lt.2 hw_); simp [ew_, nw_, NodeR.enc, h1, h0, fk, gl]) | simp [ew_, NodeR.enc, h1, h0, fk, gl])
        | (refine AInv.pure (nright_ok n) ?_ ?_; (focus (first | rfl | (simp [NodeR.enc, h1, h0, fk, gl]; done))); try simp [NodeR.enc, h1, h0, fk, gl])
        | (refine ADcall.pure (nright_ok n) ?_ ?_; (focus (first | rfl | (simp [NodeR.enc, h1, h0, fk, gl]; done))); try simp [NodeR.enc, h1, h0, fk, gl])
        | (refine AInv.pure (nright_ok { n with ino := 0 }) ?_ ?_; (focus (first | rfl | (simp [NodeR.enc, h1, h0, fk, gl]; done))); try simp [NodeR.enc, h1, h0, fk, gl])
        | (refine ADcall.pure (nright_ok { n with ino := 0 }) ?_ ?_; (focus (first | rfl | (simp [NodeR.enc, h1, h0, fk, gl]; done))); try simp [NodeR.enc, h1, h0, fk, gl])
        | (refine AInv.pure (nsize_ok { n with ino := 0 }) ?_ ?_; (focus (first | rfl | (simp [NodeR.enc, h1, h0, fk, gl]; done))); try simp [NodeR.enc, h1, h0, fk, gl])
        | (refine ADcall.pure (nsize_ok { n with ino := 0 }) ?_ ?_; (focus (first | rfl | (simp [NodeR.enc, h1, h0, fk, gl]; done))); try simp [NodeR.enc, h1, h0, fk, gl])
        | (refine AW.draw (id := 8) Try.checked.mixed (fun _ => false) [] [] 19 (by kernel_rfl) ?_; simp [NodeR.enc, h1, h0, fk, gl])
        | (rw [if_pos (by first | omega | (simp only [maxLen]; omega))]; try simp [NodeR.enc, h1, h0, fk, gl])
        | (rw [if_neg (by first | omega | (simp only [maxLen]; omega))]; try simp [NodeR.enc, h1, h0, fk, gl])
        | (rw [frzOwn_neat (by simp) (by simp <;> omega)]; try simp [NodeR.enc, h1, h0, fk, gl])
        | (rw [fzOwn_neat (by simp) (by simp <;> omega)]; try simp [NodeR.enc, h1, h0, fk, gl])
        | ((first | refine condK_nb (fun hw_ ew_ => ?_) (fun hw_ ew_ => ?_) | refine condK_b (fun hw_ ew_ => ?_) (fun hw_ ew_ => ?_) | refine gdK_nb (fun hw_ ew_ => ?_) (fun hw_ ew_ => ?_) | refine gdD_nb (fun hw_ ew_ => ?_) (fun hw_ ew_ => ?_) | refine gdK_b (fun hw_ ew_ => ?_) (fun hw_ ew_ => ?_) | refine gdD_b (fun hw_ ew_ => ?_) (fun hw_ ew_ => ?_)) <;> first | (exfalso; first | omega | with_reducible exact hw_ (by assumption) | with_reducible exact absurd hw_ (by assumption)) | ((first | have nw_ := Int.not_lt.1 hw_ | have nw_ := Int.not_le.1 hw_ | have nw_ := Nat.not_lt.1 hw_ | have nw_ := Nat.not_le.1 hw_ | have nw_ := Int.not_le.2 hw_ | have nw_ := Int.not_lt.2 hw_ | have nw_ := Nat.not_le.2 hw_ | have nw_ := Nat.not_lt.2 hw_); simp [ew_, nw_, NodeR.enc, h1, h0, fk, gl]) | simp [ew_, NodeR.enc, h1, h0, fk, gl]))
      all_goals (rw [wrap_id (by omega) (by omega)]; exact hs)

theorem law_only (s : List UInt8) : PCall Try.prog 10 [S (T s)] (B true) := by
  refine PCall.mk (fun _ => false) Try.func10 rfl rfl rfl (Ent.mk Try.func10 (by kernel_rfl) rfl) (by simp) (by simp) fun hfit => ?_
  simp [Try.f10]
  refine AInv.pure shown07_ok rfl ?_
  simp [T_size]
  by_cases hl : 6000 < s.length
  · try simp [hl, T_size]
    repeat' (first
      | ((first | refine condK_ndec (fun hw_ ew_ => ?_) (fun hw_ ew_ => ?_) | refine condK_dec (fun hw_ ew_ => ?_) (fun hw_ ew_ => ?_) | refine gdK_ndec (fun hw_ ew_ => ?_) (fun hw_ ew_ => ?_) | refine gdK_dec (fun hw_ ew_ => ?_) (fun hw_ ew_ => ?_) | refine gdD_ndec (fun hw_ ew_ => ?_) (fun hw_ ew_ => ?_) | refine gdD_dec (fun hw_ ew_ => ?_) (fun hw_ ew_ => ?_)) <;> first | (exfalso; first | omega | with_reducible exact hw_ (by assumption) | with_reducible exact absurd hw_ (by assumption)) | ((first | have nw_ := Int.not_lt.1 hw_ | have nw_ := Int.not_le.1 hw_ | have nw_ := Nat.not_lt.1 hw_ | have nw_ := Nat.not_le.1 hw_ | have nw_ := Int.not_le.2 hw_ | have nw_ := Int.not_lt.2 hw_ | have nw_ := Nat.not_le.2 hw_ | have nw_ := Nat.not_lt.2 hw_); simp [ew_, nw_, hl, T_size]) | simp [ew_, hl, T_size])
      | (rw [if_pos (by first | omega | (simp only [maxLen]; omega))]; try simp [hl, T_size])
      | (rw [if_neg (by first | omega | (simp only [maxLen]; omega))]; try simp [hl, T_size])
      | (rw [frzOwn_neat (by simp) (by simp <;> omega)]; try simp [hl, T_size])
      | (rw [fzOwn_neat (by simp) (by simp <;> omega)]; try simp [hl, T_size])
      | ((first | refine condK_nb (fun hw_ ew_ => ?_) (fun hw_ ew_ => ?_) | refine condK_b (fun hw_ ew_ => ?_) (fun hw_ ew_ => ?_) | refine gdK_nb (fun hw_ ew_ => ?_) (fun hw_ ew_ => ?_) | refine gdD_nb (fun hw_ ew_ => ?_) (fun hw_ ew_ => ?_) | refine gdK_b (fun hw_ ew_ => ?_) (fun hw_ ew_ => ?_) | refine gdD_b (fun hw_ ew_ => ?_) (fun hw_ ew_ => ?_)) <;> first | (exfalso; first | omega | with_reducible exact hw_ (by assumption) | with_reducible exact absurd hw_ (by assumption)) | ((first | have nw_ := Int.not_lt.1 hw_ | have nw_ := Int.not_le.1 hw_ | have nw_ := Nat.not_lt.1 hw_ | have nw_ := Nat.not_le.1 hw_ | have nw_ := Int.not_le.2 hw_ | have nw_ := Int.not_lt.2 hw_ | have nw_ := Nat.not_le.2 hw_ | have nw_ := Nat.not_lt.2 hw_); simp [ew_, nw_, hl, T_size]) | simp [ew_, hl, T_size]))
  have ht := ntake_ok s (by omega)
  have hok := fun n r (h : takeN s = (n, r, 0)) => takeN_ok h
  have hwf := takeN_wf s
  generalize takeN s = q at *
  obtain ⟨n, r, e⟩ := q
  simp only at ht hwf
  by_cases he : e = 0
  · subst he
    obtain ⟨h1, h2⟩ := hok n r rfl
    have c1 := ntext_ok n hwf (by have := nodeL_small hwf h1; omega)
    have hb := nodeL_small hwf h1
    have hr := congrArg List.length h2
    rw [List.length_append] at hr
    try simp [hl, T_size, T_app, h1, ← h2, NodeR.enc]
    repeat' (first
      | ((first | refine condK_ndec (fun hw_ ew_ => ?_) (fun hw_ ew_ => ?_) | refine condK_dec (fun hw_ ew_ => ?_) (fun hw_ ew_ => ?_) | refine gdK_ndec (fun hw_ ew_ => ?_) (fun hw_ ew_ => ?_) | refine gdK_dec (fun hw_ ew_ => ?_) (fun hw_ ew_ => ?_) | refine gdD_ndec (fun hw_ ew_ => ?_) (fun hw_ ew_ => ?_) | refine gdD_dec (fun hw_ ew_ => ?_) (fun hw_ ew_ => ?_)) <;> first | (exfalso; first | omega | with_reducible exact hw_ (by assumption) | with_reducible exact absurd hw_ (by assumption)) | ((first | have nw_ := Int.not_lt.1 hw_ | have nw_ := Int.not_le.1 hw_ | have nw_ := Nat.not_lt.1 hw_ | have nw_ := Nat.not_le.1 hw_ | have nw_ := Int.not_le.2 hw_ | have nw_ := Int.not_lt.2 hw_ | have nw_ := Nat.not_le.2 hw_ | have nw_ := Nat.not_lt.2 hw_); simp [ew_, nw_, hl, T_size, T_app, h1, ← h2, NodeR.enc]) | simp [ew_, hl, T_size, T_app, h1, ← h2, NodeR.enc])
      | (refine AInv.pure (ht) ?_ ?_; (focus (first | rfl | (simp [hl, T_size, T_app, h1, ← h2, NodeR.enc]; done))); try simp [hl, T_size, T_app, h1, ← h2, NodeR.enc])
      | (refine ADcall.pure (ht) ?_ ?_; (focus (first | rfl | (simp [hl, T_size, T_app, h1, ← h2, NodeR.enc]; done))); try simp [hl, T_size, T_app, h1, ← h2, NodeR.enc])
      | (refine AInv.pure (rnright_ok n) ?_ ?_; (focus (first | rfl | (simp [hl, T_size, T_app, h1, ← h2, NodeR.enc]; done))); try simp [hl, T_size, T_app, h1, ← h2, NodeR.enc])
      | (refine ADcall.pure (rnright_ok n) ?_ ?_; (focus (first | rfl | (simp [hl, T_size, T_app, h1, ← h2, NodeR.enc]; done))); try simp [hl, T_size, T_app, h1, ← h2, NodeR.enc])
      | (refine AInv.pure (c1) ?_ ?_; (focus (first | rfl | (simp [hl, T_size, T_app, h1, ← h2, NodeR.enc]; done))); try simp [hl, T_size, T_app, h1, ← h2, NodeR.enc])
      | (refine ADcall.pure (c1) ?_ ?_; (focus (first | rfl | (simp [hl, T_size, T_app, h1, ← h2, NodeR.enc]; done))); try simp [hl, T_size, T_app, h1, ← h2, NodeR.enc])
      | (rw [if_pos (by first | omega | (simp only [maxLen]; omega))]; try simp [hl, T_size, T_app, h1, ← h2, NodeR.enc])
      | (rw [if_neg (by first | omega | (simp only [maxLen]; omega))]; try simp [hl, T_size, T_app, h1, ← h2, NodeR.enc])
      | (rw [frzOwn_neat (by simp) (by simp <;> omega)]; try simp [hl, T_size, T_app, h1, ← h2, NodeR.enc])
      | (rw [fzOwn_neat (by simp) (by simp <;> omega)]; try simp [hl, T_size, T_app, h1, ← h2, NodeR.enc])
      | ((first | refine condK_nb (fun hw_ ew_ => ?_) (fun hw_ ew_ => ?_) | refine condK_b (fun hw_ ew_ => ?_) (fun hw_ ew_ => ?_) | refine gdK_nb (fun hw_ ew_ => ?_) (fun hw_ ew_ => ?_) | refine gdD_nb (fun hw_ ew_ => ?_) (fun hw_ ew_ => ?_) | refine gdK_b (fun hw_ ew_ => ?_) (fun hw_ ew_ => ?_) | refine gdD_b (fun hw_ ew_ => ?_) (fun hw_ ew_ => ?_)) <;> first | (exfalso; first | omega | with_reducible exact hw_ (by assumption) | with_reducible exact absurd hw_ (by assumption)) | ((first | have nw_ := Int.not_lt.1 hw_ | have nw_ := Int.not_le.1 hw_ | have nw_ := Nat.not_lt.1 hw_ | have nw_ := Nat.not_le.1 hw_ | have nw_ := Int.not_le.2 hw_ | have nw_ := Int.not_lt.2 hw_ | have nw_ := Nat.not_le.2 hw_ | have nw_ := Nat.not_lt.2 hw_); simp [ew_, nw_, hl, T_size, T_app, h1, ← h2, NodeR.enc]) | simp [ew_, hl, T_size, T_app, h1, ← h2, NodeR.enc]))
  · try simp [hl, T_size, he, NodeR.enc]
    repeat' (first
      | ((first | refine condK_ndec (fun hw_ ew_ => ?_) (fun hw_ ew_ => ?_) | refine condK_dec (fun hw_ ew_ => ?_) (fun hw_ ew_ => ?_) | refine gdK_ndec (fun hw_ ew_ => ?_) (fun hw_ ew_ => ?_) | refine gdK_dec (fun hw_ ew_ => ?_) (fun hw_ ew_ => ?_) | refine gdD_ndec (fun hw_ ew_ => ?_) (fun hw_ ew_ => ?_) | refine gdD_dec (fun hw_ ew_ => ?_) (fun hw_ ew_ => ?_)) <;> first | (exfalso; first | omega | with_reducible exact hw_ (by assumption) | with_reducible exact absurd hw_ (by assumption)) | ((first | have nw_ := Int.not_lt.1 hw_ | have nw_ := Int.not_le.1 hw_ | have nw_ := Nat.not_lt.1 hw_ | have nw_ := Nat.not_le.1 hw_ | have nw_ := Int.not_le.2 hw_ | have nw_ := Int.not_lt.2 hw_ | have nw_ := Nat.not_le.2 hw_ | have nw_ := Nat.not_lt.2 hw_); simp [ew_, nw_, hl, T_size, he, NodeR.enc]) | simp [ew_, hl, T_size, he, NodeR.enc])
      | (refine AInv.pure (ht) ?_ ?_; (focus (first | rfl | (simp [hl, T_size, he, NodeR.enc]; done))); try simp [hl, T_size, he, NodeR.enc])
      | (refine ADcall.pure (ht) ?_ ?_; (focus (first | rfl | (simp [hl, T_size, he, NodeR.enc]; done))); try simp [hl, T_size, he, NodeR.enc])
      | (rw [if_pos (by first | omega | (simp only [maxLen]; omega))]; try simp [hl, T_size, he, NodeR.enc])
      | (rw [if_neg (by first | omega | (simp only [maxLen]; omega))]; try simp [hl, T_size, he, NodeR.enc])
      | (rw [frzOwn_neat (by simp) (by simp <;> omega)]; try simp [hl, T_size, he, NodeR.enc])
      | (rw [fzOwn_neat (by simp) (by simp <;> omega)]; try simp [hl, T_size, he, NodeR.enc])
      | ((first | refine condK_nb (fun hw_ ew_ => ?_) (fun hw_ ew_ => ?_) | refine condK_b (fun hw_ ew_ => ?_) (fun hw_ ew_ => ?_) | refine gdK_nb (fun hw_ ew_ => ?_) (fun hw_ ew_ => ?_) | refine gdD_nb (fun hw_ ew_ => ?_) (fun hw_ ew_ => ?_) | refine gdK_b (fun hw_ ew_ => ?_) (fun hw_ ew_ => ?_) | refine gdD_b (fun hw_ ew_ => ?_) (fun hw_ ew_ => ?_)) <;> first | (exfalso; first | omega | with_reducible exact hw_ (by assumption) | with_reducible exact absurd hw_ (by assumption)) | ((first | have nw_ := Int.not_lt.1 hw_ | have nw_ := Int.not_le.1 hw_ | have nw_ := Nat.not_lt.1 hw_ | have nw_ := Nat.not_le.1 hw_ | have nw_ := Int.not_le.2 hw_ | have nw_ := Int.not_lt.2 hw_ | have nw_ := Nat.not_le.2 hw_ | have nw_ := Nat.not_lt.2 hw_); simp [ew_, nw_, hl, T_size, he, NodeR.enc]) | simp [ew_, hl, T_size, he, NodeR.enc]))

theorem law_back (n : NodeR) (hw : n.wf) (more : List UInt8) (cut : Int) (hcut : inI cut) : PCall Try.prog 9 [encN n, S (T more), I cut] (B true) := by
  refine PCall.mk (fun _ => false) Try.func9 rfl rfl rfl (Ent.mk Try.func9 (by kernel_rfl) rfl) (by simp) (by simp) fun hfit => ?_
  simp only [inI] at hcut
  simp [Try.f9]
  refine AInv.pure shown07_ok rfl ?_
  simp
  cases h1 : nodeOk n with
  | false =>
    try simp [NodeR.enc, h1, T_size]
    repeat' (first
      | ((first | refine condK_ndec (fun hw_ ew_ => ?_) (fun hw_ ew_ => ?_) | refine condK_dec (fun hw_ ew_ => ?_) (fun hw_ ew_ => ?_) | refine gdK_ndec (fun hw_ ew_ => ?_) (fun hw_ ew_ => ?_) | refine gdK_dec (fun hw_ ew_ => ?_) (fun hw_ ew_ => ?_) | refine gdD_ndec (fun hw_ ew_ => ?_) (fun hw_ ew_ => ?_) | refine gdD_dec (fun hw_ ew_ => ?_) (fun hw_ ew_ => ?_)) <;> first | (exfalso; first | omega | with_reducible exact hw_ (by assumption) | with_reducible exact absurd hw_ (by assumption)) | ((first | have nw_ := Int.not_lt.1 hw_ | have nw_ := Int.not_le.1 hw_ | have nw_ := Nat.not_lt.1 hw_ | have nw_ := Nat.not_le.1 hw_ | have nw_ := Int.not_le.2 hw_ | have nw_ := Int.not_lt.2 hw_ | have nw_ := Nat.not_le.2 hw_ | have nw_ := Nat.not_lt.2 hw_); simp [ew_, nw_, NodeR.enc, h1, T_size]) | simp [ew_, NodeR.enc, h1, T_size])
      | (refine AInv.pure (rnright_ok n) ?_ ?_; (focus (first | rfl | (simp [NodeR.enc, h1, T_size]; done))); try simp [NodeR.enc, h1, T_size])
      | (refine ADcall.pure (rnright_ok n) ?_ ?_; (focus (first | rfl | (simp [NodeR.enc, h1, T_size]; done))); try simp [NodeR.enc, h1, T_size])
      | (rw [if_pos (by first | omega | (simp only [maxLen]; omega))]; try simp [NodeR.enc, h1, T_size])
      | (rw [if_neg (by first | omega | (simp only [maxLen]; omega))]; try simp [NodeR.enc, h1, T_size])
      | (rw [frzOwn_neat (by simp) (by simp <;> omega)]; try simp [NodeR.enc, h1, T_size])
      | (rw [fzOwn_neat (by simp) (by simp <;> omega)]; try simp [NodeR.enc, h1, T_size])
      | ((first | refine condK_nb (fun hw_ ew_ => ?_) (fun hw_ ew_ => ?_) | refine condK_b (fun hw_ ew_ => ?_) (fun hw_ ew_ => ?_) | refine gdK_nb (fun hw_ ew_ => ?_) (fun hw_ ew_ => ?_) | refine gdD_nb (fun hw_ ew_ => ?_) (fun hw_ ew_ => ?_) | refine gdK_b (fun hw_ ew_ => ?_) (fun hw_ ew_ => ?_) | refine gdD_b (fun hw_ ew_ => ?_) (fun hw_ ew_ => ?_)) <;> first | (exfalso; first | omega | with_reducible exact hw_ (by assumption) | with_reducible exact absurd hw_ (by assumption)) | ((first | have nw_ := Int.not_lt.1 hw_ | have nw_ := Int.not_le.1 hw_ | have nw_ := Nat.not_lt.1 hw_ | have nw_ := Nat.not_le.1 hw_ | have nw_ := Int.not_le.2 hw_ | have nw_ := Int.not_lt.2 hw_ | have nw_ := Nat.not_le.2 hw_ | have nw_ := Nat.not_lt.2 hw_); simp [ew_, nw_, NodeR.enc, h1, T_size]) | simp [ew_, NodeR.enc, h1, T_size]))
  | true =>
    have hb := nodeL_small hw h1
    have c1 := ntext_ok n hw (by omega)
    by_cases hm : 1000 < more.length
    · try simp [NodeR.enc, h1, T_size, hm]
      repeat' (first
        | ((first | refine condK_ndec (fun hw_ ew_ => ?_) (fun hw_ ew_ => ?_) | refine condK_dec (fun hw_ ew_ => ?_) (fun hw_ ew_ => ?_) | refine gdK_ndec (fun hw_ ew_ => ?_) (fun hw_ ew_ => ?_) | refine gdK_dec (fun hw_ ew_ => ?_) (fun hw_ ew_ => ?_) | refine gdD_ndec (fun hw_ ew_ => ?_) (fun hw_ ew_ => ?_) | refine gdD_dec (fun hw_ ew_ => ?_) (fun hw_ ew_ => ?_)) <;> first | (exfalso; first | omega | with_reducible exact hw_ (by assumption) | with_reducible exact absurd hw_ (by assumption)) | ((first | have nw_ := Int.not_lt.1 hw_ | have nw_ := Int.not_le.1 hw_ | have nw_ := Nat.not_lt.1 hw_ | have nw_ := Nat.not_le.1 hw_ | have nw_ := Int.not_le.2 hw_ | have nw_ := Int.not_lt.2 hw_ | have nw_ := Nat.not_le.2 hw_ | have nw_ := Nat.not_lt.2 hw_); simp [ew_, nw_, NodeR.enc, h1, T_size, hm]) | simp [ew_, NodeR.enc, h1, T_size, hm])
        | (refine AInv.pure (rnright_ok n) ?_ ?_; (focus (first | rfl | (simp [NodeR.enc, h1, T_size, hm]; done))); try simp [NodeR.enc, h1, T_size, hm])
        | (refine ADcall.pure (rnright_ok n) ?_ ?_; (focus (first | rfl | (simp [NodeR.enc, h1, T_size, hm]; done))); try simp [NodeR.enc, h1, T_size, hm])
        | (rw [if_pos (by first | omega | (simp only [maxLen]; omega))]; try simp [NodeR.enc, h1, T_size, hm])
        | (rw [if_neg (by first | omega | (simp only [maxLen]; omega))]; try simp [NodeR.enc, h1, T_size, hm])
        | (rw [frzOwn_neat (by simp) (by simp <;> omega)]; try simp [NodeR.enc, h1, T_size, hm])
        | (rw [fzOwn_neat (by simp) (by simp <;> omega)]; try simp [NodeR.enc, h1, T_size, hm])
        | ((first | refine condK_nb (fun hw_ ew_ => ?_) (fun hw_ ew_ => ?_) | refine condK_b (fun hw_ ew_ => ?_) (fun hw_ ew_ => ?_) | refine gdK_nb (fun hw_ ew_ => ?_) (fun hw_ ew_ => ?_) | refine gdD_nb (fun hw_ ew_ => ?_) (fun hw_ ew_ => ?_) | refine gdK_b (fun hw_ ew_ => ?_) (fun hw_ ew_ => ?_) | refine gdD_b (fun hw_ ew_ => ?_) (fun hw_ ew_ => ?_)) <;> first | (exfalso; first | omega | with_reducible exact hw_ (by assumption) | with_reducible exact absurd hw_ (by assumption)) | ((first | have nw_ := Int.not_lt.1 hw_ | have nw_ := Int.not_le.1 hw_ | have nw_ := Nat.not_lt.1 hw_ | have nw_ := Nat.not_le.1 hw_ | have nw_ := Int.not_le.2 hw_ | have nw_ := Int.not_lt.2 hw_ | have nw_ := Nat.not_le.2 hw_ | have nw_ := Nat.not_lt.2 hw_); simp [ew_, nw_, NodeR.enc, h1, T_size, hm]) | simp [ew_, NodeR.enc, h1, T_size, hm]))
    have c2 := ntake_ok (nodeL n ++ more) (by rw [List.length_append]; omega)
    rw [takeN_node h1 hw] at c2
    by_cases hc : 0 ≤ cut ∧ cut < (nodeL n).length
    · obtain ⟨k, rfl⟩ : ∃ k : Nat, cut = k := ⟨cut.toNat, by omega⟩
      have hk : k < (nodeL n).length := by omega
      have c3 := ntake_ok ((nodeL n).take k) (by rw [List.length_take]; omega)
      rw [takeN_cut h1 hw k hk] at c3
      try simp [NodeR.enc, NodeR.zero, h1, T_size, T_app, T_ext, hm, hk]
      repeat' (first
        | ((first | refine condK_ndec (fun hw_ ew_ => ?_) (fun hw_ ew_ => ?_) | refine condK_dec (fun hw_ ew_ => ?_) (fun hw_ ew_ => ?_) | refine gdK_ndec (fun hw_ ew_ => ?_) (fun hw_ ew_ => ?_) | refine gdK_dec (fun hw_ ew_ => ?_) (fun hw_ ew_ => ?_) | refine gdD_ndec (fun hw_ ew_ => ?_) (fun hw_ ew_ => ?_) | refine gdD_dec (fun hw_ ew_ => ?_) (fun hw_ ew_ => ?_)) <;> first | (exfalso; first | omega | with_reducible exact hw_ (by assumption) | with_reducible exact absurd hw_ (by assumption)) | ((first | have nw_ := Int.not_lt.1 hw_ | have nw_ := Int.not_le.1 hw_ | have nw_ := Nat.not_lt.1 hw_ | have nw_ := Nat.not_le.1 hw_ | have nw_ := Int.not_le.2 hw_ | have nw_ := Int.not_lt.2 hw_ | have nw_ := Nat.not_le.2 hw_ | have nw_ := Nat.not_lt.2 hw_); simp [ew_, nw_, NodeR.enc, NodeR.zero, h1, T_size, T_app, T_ext, hm, hk]) | simp [ew_, NodeR.enc, NodeR.zero, h1, T_size, T_app, T_ext, hm, hk])
        | (refine AInv.pure (rnright_ok n) ?_ ?_; (focus (first | rfl | (simp [NodeR.enc, NodeR.zero, h1, T_size, T_app, T_ext, hm, hk]; done))); try simp [NodeR.enc, NodeR.zero, h1, T_size, T_app, T_ext, hm, hk])
        | (refine ADcall.pure (rnright_ok n) ?_ ?_; (focus (first | rfl | (simp [NodeR.enc, NodeR.zero, h1, T_size, T_app, T_ext, hm, hk]; done))); try simp [NodeR.enc, NodeR.zero, h1, T_size, T_app, T_ext, hm, hk])
        | (refine AInv.pure (c1) ?_ ?_; (focus (first | rfl | (simp [NodeR.enc, NodeR.zero, h1, T_size, T_app, T_ext, hm, hk]; done))); try simp [NodeR.enc, NodeR.zero, h1, T_size, T_app, T_ext, hm, hk])
        | (refine ADcall.pure (c1) ?_ ?_; (focus (first | rfl | (simp [NodeR.enc, NodeR.zero, h1, T_size, T_app, T_ext, hm, hk]; done))); try simp [NodeR.enc, NodeR.zero, h1, T_size, T_app, T_ext, hm, hk])
        | (refine AInv.pure (c2) ?_ ?_; (focus (first | rfl | (simp [NodeR.enc, NodeR.zero, h1, T_size, T_app, T_ext, hm, hk]; done))); try simp [NodeR.enc, NodeR.zero, h1, T_size, T_app, T_ext, hm, hk])
        | (refine ADcall.pure (c2) ?_ ?_; (focus (first | rfl | (simp [NodeR.enc, NodeR.zero, h1, T_size, T_app, T_ext, hm, hk]; done))); try simp [NodeR.enc, NodeR.zero, h1, T_size, T_app, T_ext, hm, hk])
        | (refine AInv.pure (rnsame_ok n n) ?_ ?_; (focus (first | rfl | (simp [NodeR.enc, NodeR.zero, h1, T_size, T_app, T_ext, hm, hk]; done))); try simp [NodeR.enc, NodeR.zero, h1, T_size, T_app, T_ext, hm, hk])
        | (refine ADcall.pure (rnsame_ok n n) ?_ ?_; (focus (first | rfl | (simp [NodeR.enc, NodeR.zero, h1, T_size, T_app, T_ext, hm, hk]; done))); try simp [NodeR.enc, NodeR.zero, h1, T_size, T_app, T_ext, hm, hk])
        | (refine AInv.pure (c3) ?_ ?_; (focus (first | rfl | (simp [NodeR.enc, NodeR.zero, h1, T_size, T_app, T_ext, hm, hk]; done))); try simp [NodeR.enc, NodeR.zero, h1, T_size, T_app, T_ext, hm, hk])
        | (refine ADcall.pure (c3) ?_ ?_; (focus (first | rfl | (simp [NodeR.enc, NodeR.zero, h1, T_size, T_app, T_ext, hm, hk]; done))); try simp [NodeR.enc, NodeR.zero, h1, T_size, T_app, T_ext, hm, hk])
        | (rw [if_pos (by first | omega | (simp only [maxLen]; omega))]; try simp [NodeR.enc, NodeR.zero, h1, T_size, T_app, T_ext, hm, hk])
        | (rw [if_neg (by first | omega | (simp only [maxLen]; omega))]; try simp [NodeR.enc, NodeR.zero, h1, T_size, T_app, T_ext, hm, hk])
        | (rw [frzOwn_neat (by simp) (by simp <;> omega)]; try simp [NodeR.enc, NodeR.zero, h1, T_size, T_app, T_ext, hm, hk])
        | (rw [fzOwn_neat (by simp) (by simp <;> omega)]; try simp [NodeR.enc, NodeR.zero, h1, T_size, T_app, T_ext, hm, hk])
        | ((first | refine condK_nb (fun hw_ ew_ => ?_) (fun hw_ ew_ => ?_) | refine condK_b (fun hw_ ew_ => ?_) (fun hw_ ew_ => ?_) | refine gdK_nb (fun hw_ ew_ => ?_) (fun hw_ ew_ => ?_) | refine gdD_nb (fun hw_ ew_ => ?_) (fun hw_ ew_ => ?_) | refine gdK_b (fun hw_ ew_ => ?_) (fun hw_ ew_ => ?_) | refine gdD_b (fun hw_ ew_ => ?_) (fun hw_ ew_ => ?_)) <;> first | (exfalso; first | omega | with_reducible exact hw_ (by assumption) | with_reducible exact absurd hw_ (by assumption)) | ((first | have nw_ := Int.not_lt.1 hw_ | have nw_ := Int.not_le.1 hw_ | have nw_ := Nat.not_lt.1 hw_ | have nw_ := Nat.not_le.1 hw_ | have nw_ := Int.not_le.2 hw_ | have nw_ := Int.not_lt.2 hw_ | have nw_ := Nat.not_le.2 hw_ | have nw_ := Nat.not_lt.2 hw_); simp [ew_, nw_, NodeR.enc, NodeR.zero, h1, T_size, T_app, T_ext, hm, hk]) | simp [ew_, NodeR.enc, NodeR.zero, h1, T_size, T_app, T_ext, hm, hk]))
    · try simp [NodeR.enc, NodeR.zero, h1, T_size, T_app, T_ext, hm]
      repeat' (first
        | ((first | refine condK_ndec (fun hw_ ew_ => ?_) (fun hw_ ew_ => ?_) | refine condK_dec (fun hw_ ew_ => ?_) (fun hw_ ew_ => ?_) | refine gdK_ndec (fun hw_ ew_ => ?_) (fun hw_ ew_ => ?_) | refine gdK_dec (fun hw_ ew_ => ?_) (fun hw_ ew_ => ?_) | refine gdD_ndec (fun hw_ ew_ => ?_) (fun hw_ ew_ => ?_) | refine gdD_dec (fun hw_ ew_ => ?_) (fun hw_ ew_ => ?_)) <;> first | (exfalso; first | omega | with_reducible exact hw_ (by assumption) | with_reducible exact absurd hw_ (by assumption)) | ((first | have nw_ := Int.not_lt.1 hw_ | have nw_ := Int.not_le.1 hw_ | have nw_ := Nat.not_lt.1 hw_ | have nw_ := Nat.not_le.1 hw_ | have nw_ := Int.not_le.2 hw_ | have nw_ := Int.not_lt.2 hw_ | have nw_ := Nat.not_le.2 hw_ | have nw_ := Nat.not_lt.2 hw_); simp [ew_, nw_, NodeR.enc, NodeR.zero, h1, T_size, T_app, T_ext, hm]) | simp [ew_, NodeR.enc, NodeR.zero, h1, T_size, T_app, T_ext, hm])
        | (refine AInv.pure (rnright_ok n) ?_ ?_; (focus (first | rfl | (simp [NodeR.enc, NodeR.zero, h1, T_size, T_app, T_ext, hm]; done))); try simp [NodeR.enc, NodeR.zero, h1, T_size, T_app, T_ext, hm])
        | (refine ADcall.pure (rnright_ok n) ?_ ?_; (focus (first | rfl | (simp [NodeR.enc, NodeR.zero, h1, T_size, T_app, T_ext, hm]; done))); try simp [NodeR.enc, NodeR.zero, h1, T_size, T_app, T_ext, hm])
        | (refine AInv.pure (c1) ?_ ?_; (focus (first | rfl | (simp [NodeR.enc, NodeR.zero, h1, T_size, T_app, T_ext, hm]; done))); try simp [NodeR.enc, NodeR.zero, h1, T_size, T_app, T_ext, hm])
        | (refine ADcall.pure (c1) ?_ ?_; (focus (first | rfl | (simp [NodeR.enc, NodeR.zero, h1, T_size, T_app, T_ext, hm]; done))); try simp [NodeR.enc, NodeR.zero, h1, T_size, T_app, T_ext, hm])
        | (refine AInv.pure (c2) ?_ ?_; (focus (first | rfl | (simp [NodeR.enc, NodeR.zero, h1, T_size, T_app, T_ext, hm]; done))); try simp [NodeR.enc, NodeR.zero, h1, T_size, T_app, T_ext, hm])
        | (refine ADcall.pure (c2) ?_ ?_; (focus (first | rfl | (simp [NodeR.enc, NodeR.zero, h1, T_size, T_app, T_ext, hm]; done))); try simp [NodeR.enc, NodeR.zero, h1, T_size, T_app, T_ext, hm])
        | (refine AInv.pure (rnsame_ok n n) ?_ ?_; (focus (first | rfl | (simp [NodeR.enc, NodeR.zero, h1, T_size, T_app, T_ext, hm]; done))); try simp [NodeR.enc, NodeR.zero, h1, T_size, T_app, T_ext, hm])
        | (refine ADcall.pure (rnsame_ok n n) ?_ ?_; (focus (first | rfl | (simp [NodeR.enc, NodeR.zero, h1, T_size, T_app, T_ext, hm]; done))); try simp [NodeR.enc, NodeR.zero, h1, T_size, T_app, T_ext, hm])
        | (rw [if_pos (by first | omega | (simp only [maxLen]; omega))]; try simp [NodeR.enc, NodeR.zero, h1, T_size, T_app, T_ext, hm])
        | (rw [if_neg (by first | omega | (simp only [maxLen]; omega))]; try simp [NodeR.enc, NodeR.zero, h1, T_size, T_app, T_ext, hm])
        | (rw [frzOwn_neat (by simp) (by simp <;> omega)]; try simp [NodeR.enc, NodeR.zero, h1, T_size, T_app, T_ext, hm])
        | (rw [fzOwn_neat (by simp) (by simp <;> omega)]; try simp [NodeR.enc, NodeR.zero, h1, T_size, T_app, T_ext, hm])
        | ((first | refine condK_nb (fun hw_ ew_ => ?_) (fun hw_ ew_ => ?_) | refine condK_b (fun hw_ ew_ => ?_) (fun hw_ ew_ => ?_) | refine gdK_nb (fun hw_ ew_ => ?_) (fun hw_ ew_ => ?_) | refine gdD_nb (fun hw_ ew_ => ?_) (fun hw_ ew_ => ?_) | refine gdK_b (fun hw_ ew_ => ?_) (fun hw_ ew_ => ?_) | refine gdD_b (fun hw_ ew_ => ?_) (fun hw_ ew_ => ?_)) <;> first | (exfalso; first | omega | with_reducible exact hw_ (by assumption) | with_reducible exact absurd hw_ (by assumption)) | ((first | have nw_ := Int.not_lt.1 hw_ | have nw_ := Int.not_le.1 hw_ | have nw_ := Nat.not_lt.1 hw_ | have nw_ := Nat.not_le.1 hw_ | have nw_ := Int.not_le.2 hw_ | have nw_ := Int.not_lt.2 hw_ | have nw_ := Nat.not_le.2 hw_ | have nw_ := Nat.not_lt.2 hw_); simp [ew_, nw_, NodeR.enc, NodeR.zero, h1, T_size, T_app, T_ext, hm]) | simp [ew_, NodeR.enc, NodeR.zero, h1, T_size, T_app, T_ext, hm]))

theorem law_sizes (n : NodeR) (hw : n.wf) : PCall Try.prog 7 [encN n] (B true) := by
  refine PCall.mk (fun _ => false) Try.func7 rfl rfl rfl (Ent.mk Try.func7 (by kernel_rfl) rfl) (by simp) (by simp) fun hfit => ?_
  simp [Try.f7]
  refine AInv.pure shown07_ok rfl ?_
  simp
  cases h1 : nodeOk n with
  | false =>
    try simp [NodeR.enc, h1, T_size]
    repeat' (first
      | ((first | refine condK_ndec (fun hw_ ew_ => ?_) (fun hw_ ew_ => ?_) | refine condK_dec (fun hw_ ew_ => ?_) (fun hw_ ew_ => ?_) | refine gdK_ndec (fun hw_ ew_ => ?_) (fun hw_ ew_ => ?_) | refine gdK_dec (fun hw_ ew_ => ?_) (fun hw_ ew_ => ?_) | refine gdD_ndec (fun hw_ ew_ => ?_) (fun hw_ ew_ => ?_) | refine gdD_dec (fun hw_ ew_ => ?_) (fun hw_ ew_ => ?_)) <;> first | (exfalso; first | omega | with_reducible exact hw_ (by assumption) | with_reducible exact absurd hw_ (by assumption)) | ((first | have nw_ := Int.not_lt.1 hw_ | have nw_ := Int.not_le.1 hw_ | have nw_ := Nat.not_lt.1 hw_ | have nw_ := Nat.not_le.1 hw_ | have nw_ := Int.not_le.2 hw_ | have nw_ := Int.not_lt.2 hw_ | have nw_ := Nat.not_le.2 hw_ | have nw_ := Nat.not_lt.2 hw_); simp [ew_, nw_, NodeR.enc, h1, T_size]) | simp [ew_, NodeR.enc, h1, T_size])
      | (refine AInv.pure (rnright_ok n) ?_ ?_; (focus (first | rfl | (simp [NodeR.enc, h1, T_size]; done))); try simp [NodeR.enc, h1, T_size])
      | (refine ADcall.pure (rnright_ok n) ?_ ?_; (focus (first | rfl | (simp [NodeR.enc, h1, T_size]; done))); try simp [NodeR.enc, h1, T_size])
      | (refine AW.draw (id := 8) Try.checked.mixed (fun _ => false) [] [] 25 (by kernel_rfl) ?_; simp [NodeR.enc, h1, T_size])
      | (rw [if_pos (by first | omega | (simp only [maxLen]; omega))]; try simp [NodeR.enc, h1, T_size])
      | (rw [if_neg (by first | omega | (simp only [maxLen]; omega))]; try simp [NodeR.enc, h1, T_size])
      | (rw [frzOwn_neat (by simp) (by simp <;> omega)]; try simp [NodeR.enc, h1, T_size])
      | (rw [fzOwn_neat (by simp) (by simp <;> omega)]; try simp [NodeR.enc, h1, T_size])
      | ((first | refine condK_nb (fun hw_ ew_ => ?_) (fun hw_ ew_ => ?_) | refine condK_b (fun hw_ ew_ => ?_) (fun hw_ ew_ => ?_) | refine gdK_nb (fun hw_ ew_ => ?_) (fun hw_ ew_ => ?_) | refine gdD_nb (fun hw_ ew_ => ?_) (fun hw_ ew_ => ?_) | refine gdK_b (fun hw_ ew_ => ?_) (fun hw_ ew_ => ?_) | refine gdD_b (fun hw_ ew_ => ?_) (fun hw_ ew_ => ?_)) <;> first | (exfalso; first | omega | with_reducible exact hw_ (by assumption) | with_reducible exact absurd hw_ (by assumption)) | ((first | have nw_ := Int.not_lt.1 hw_ | have nw_ := Int.not_le.1 hw_ | have nw_ := Nat.not_lt.1 hw_ | have nw_ := Nat.not_le.1 hw_ | have nw_ := Int.not_le.2 hw_ | have nw_ := Int.not_lt.2 hw_ | have nw_ := Nat.not_le.2 hw_ | have nw_ := Nat.not_lt.2 hw_); simp [ew_, nw_, NodeR.enc, h1, T_size]) | simp [ew_, NodeR.enc, h1, T_size]))
  | true =>
    have hb := nodeL_small hw h1
    have g := (nodeOk_iff n).1 h1
    have hr := rowOk_at g.row
    have gs := g.size
    have gl := hr.1
    have c1 := ntext_ok n hw (by omega)
    by_cases hk : n.kind = 2
    · have fk := eq_true hk
      have c2 := ntext_ok (extD n) (extD_wf hw) (by have := (ext_small hw h1).1; omega)
      have hlt := extD_lt n
      have hne : (extD n = n) = False := eq_false (extD_ne n)
      have hs1 : sizeS n = n.l.length := by simp [sizeS, hk]
      have hs2 : sizeS (extD n) = n.l.length + 1 := by simp [sizeS, extD, hk]
      have hw2 : IntKind.i64.wrap ((n.l.length : Int) + 1) = (n.l.length : Int) + 1 := wrap_id (by omega) (by omega)
      have hgive : ([.agg [I n.ino, I n.kind, I n.links, S n.text, .own 2 1 0 (n.l.length + 1) 2]].mapM (frz [.cells 0 [I n.ino, I n.kind, I n.links, S n.text, encL EntryR.enc n.l], .cells 0 [I n.ino, I n.kind, I n.links, S n.text, .own 2 1 0 (n.l.length + 1) 2], .cells 1 (n.l.flatMap EntryR.enc ++ [S (T [122, 122]), I 3])] 0 12) : Option (List AV)) = some [encN (extD n)] := by
        simp
        rw [frzOwn_neat (by simp) (by simp <;> omega)]
        simp [NodeR.enc, extD, EntryR.enc]
      have hgive2 : ([.agg [I n.ino, I n.kind, I n.links, S n.text, .own 2 1 0 (n.l.length + 1) 2], encN n].mapM (frz [.cells 0 [I n.ino, I n.kind, I n.links, S n.text, encL EntryR.enc n.l], .cells 0 [I n.ino, I n.kind, I n.links, S n.text, .own 2 1 0 (n.l.length + 1) 2], .cells 1 (n.l.flatMap EntryR.enc ++ [S (T [122, 122]), I 3])] 0 12) : Option (List AV)) = some [encN (extD n), encN n] := by
        simp
        rw [frzOwn_neat (by simp) (by simp <;> omega)]
        simp [NodeR.enc, extD, EntryR.enc]
      try simp [NodeR.enc, h1, fk, hs1, hs2, hw2, T_size, hlt, hne]
      repeat' (first
        | ((first | refine condK_ndec (fun hw_ ew_ => ?_) (fun hw_ ew_ => ?_) | refine condK_dec (fun hw_ ew_ => ?_) (fun hw_ ew_ => ?_) | refine gdK_ndec (fun hw_ ew_ => ?_) (fun hw_ ew_ => ?_) | refine gdK_dec (fun hw_ ew_ => ?_) (fun hw_ ew_ => ?_) | refine gdD_ndec (fun hw_ ew_ => ?_) (fun hw_ ew_ => ?_) | refine gdD_dec (fun hw_ ew_ => ?_) (fun hw_ ew_ => ?_)) <;> first | (exfalso; first | omega | with_reducible exact hw_ (by assumption) | with_reducible exact absurd hw_ (by assumption)) | ((first | have nw_ := Int.not_lt.1 hw_ | have nw_ := Int.not_le.1 hw_ | have nw_ := Nat.not_lt.1 hw_ | have nw_ := Nat.not_le.1 hw_ | have nw_ := Int.not_le.2 hw_ | have nw_ := Int.not_lt.2 hw_ | have nw_ := Nat.not_le.2 hw_ | have nw_ := Nat.not_lt.2 hw_); simp [ew_, nw_, NodeR.enc, h1, fk, hs1, hs2, hw2, T_size, hlt, hne]) | simp [ew_, NodeR.enc, h1, fk, hs1, hs2, hw2, T_size, hlt, hne])
        | (refine AInv.pure (rnright_ok n) ?_ ?_; (focus (first | rfl | (simp [NodeR.enc, h1, fk, hs1, hs2, hw2, T_size, hlt, hne]; done))); try simp [NodeR.enc, h1, fk, hs1, hs2, hw2, T_size, hlt, hne])
        | (refine ADcall.pure (rnright_ok n) ?_ ?_; (focus (first | rfl | (simp [NodeR.enc, h1, fk, hs1, hs2, hw2, T_size, hlt, hne]; done))); try simp [NodeR.enc, h1, fk, hs1, hs2, hw2, T_size, hlt, hne])
        | (refine AInv.pure (nsize_ok n) ?_ ?_; (focus (first | rfl | (simp [NodeR.enc, h1, fk, hs1, hs2, hw2, T_size, hlt, hne]; done))); try simp [NodeR.enc, h1, fk, hs1, hs2, hw2, T_size, hlt, hne])
        | (refine ADcall.pure (nsize_ok n) ?_ ?_; (focus (first | rfl | (simp [NodeR.enc, h1, fk, hs1, hs2, hw2, T_size, hlt, hne]; done))); try simp [NodeR.enc, h1, fk, hs1, hs2, hw2, T_size, hlt, hne])
        | (refine AInv.pure (c1) ?_ ?_; (focus (first | rfl | (simp [NodeR.enc, h1, fk, hs1, hs2, hw2, T_size, hlt, hne]; done))); try simp [NodeR.enc, h1, fk, hs1, hs2, hw2, T_size, hlt, hne])
        | (refine ADcall.pure (c1) ?_ ?_; (focus (first | rfl | (simp [NodeR.enc, h1, fk, hs1, hs2, hw2, T_size, hlt, hne]; done))); try simp [NodeR.enc, h1, fk, hs1, hs2, hw2, T_size, hlt, hne])
        | (refine AW.draw (id := 8) Try.checked.mixed (fun _ => false) [] [(3, .q), (11, .q), (21, .q)] 25 (by kernel_rfl) ?_; simp [NodeR.enc, h1, fk, hs1, hs2, hw2, T_size, hlt, hne])
        | (refine ADcall.lend (nsize_ok (extD n)) rfl hgive ?_; simp [NodeR.enc, h1, fk, hs1, hs2, hw2])
        | (refine ADcall.lend c2 rfl hgive ?_; simp [NodeR.enc, h1, fk, T_size])
        | (refine ADcall.lend (nsame_ok (extD n) n) rfl hgive2 ?_; simp [hne])
        | (rw [if_pos (by first | omega | (simp only [maxLen]; omega))]; try simp [NodeR.enc, h1, fk, hs1, hs2, hw2, T_size, hlt, hne])
        | (rw [if_neg (by first | omega | (simp only [maxLen]; omega))]; try simp [NodeR.enc, h1, fk, hs1, hs2, hw2, T_size, hlt, hne])
        | (rw [frzOwn_neat (by simp) (by simp <;> omega)]; try simp [NodeR.enc, h1, fk, hs1, hs2, hw2, T_size, hlt, hne])
        | (rw [fzOwn_neat (by simp) (by simp <;> omega)]; try simp [NodeR.enc, h1, fk, hs1, hs2, hw2, T_size, hlt, hne])
        | ((first | refine condK_nb (fun hw_ ew_ => ?_) (fun hw_ ew_ => ?_) | refine condK_b (fun hw_ ew_ => ?_) (fun hw_ ew_ => ?_) | refine gdK_nb (fun hw_ ew_ => ?_) (fun hw_ ew_ => ?_) | refine gdD_nb (fun hw_ ew_ => ?_) (fun hw_ ew_ => ?_) | refine gdK_b (fun hw_ ew_ => ?_) (fun hw_ ew_ => ?_) | refine gdD_b (fun hw_ ew_ => ?_) (fun hw_ ew_ => ?_)) <;> first | (exfalso; first | omega | with_reducible exact hw_ (by assumption) | with_reducible exact absurd hw_ (by assumption)) | ((first | have nw_ := Int.not_lt.1 hw_ | have nw_ := Int.not_le.1 hw_ | have nw_ := Nat.not_lt.1 hw_ | have nw_ := Nat.not_le.1 hw_ | have nw_ := Int.not_le.2 hw_ | have nw_ := Int.not_lt.2 hw_ | have nw_ := Nat.not_le.2 hw_ | have nw_ := Nat.not_lt.2 hw_); simp [ew_, nw_, NodeR.enc, h1, fk, hs1, hs2, hw2, T_size, hlt, hne]) | simp [ew_, NodeR.enc, h1, fk, hs1, hs2, hw2, T_size, hlt, hne]))
    · have fk := eq_false hk
      have c2 := ntext_ok (extT n) (extT_wf hw gs) (by have := (ext_small hw h1).2; omega)
      have hlt := extT_lt n
      have hne : (extT n = n) = False := eq_false (extT_ne n)
      have hs1 : sizeS n = n.text.size := by simp [sizeS, hk]
      have hs2 : sizeS (extT n) = n.text.size + 1 := by have := extT_size n; simp only [sizeS]; rw [if_neg hk, this]; omega
      have hw2 : IntKind.i64.wrap ((n.text.size : Int) + 1) = (n.text.size : Int) + 1 := wrap_id (by omega) (by omega)
      have h120 : ({ data := #[120] } : ByteArray).size = 1 := rfl
      try simp [NodeR.enc, h1, fk, hs1, hs2, hw2, T_size, hlt, hne, h120]
      repeat' (first
        | ((first | refine condK_ndec (fun hw_ ew_ => ?_) (fun hw_ ew_ => ?_) | refine condK_dec (fun hw_ ew_ => ?_) (fun hw_ ew_ => ?_) | refine gdK_ndec (fun hw_ ew_ => ?_) (fun hw_ ew_ => ?_) | refine gdK_dec (fun hw_ ew_ => ?_) (fun hw_ ew_ => ?_) | refine gdD_ndec (fun hw_ ew_ => ?_) (fun hw_ ew_ => ?_) | refine gdD_dec (fun hw_ ew_ => ?_) (fun hw_ ew_ => ?_)) <;> first | (exfalso; first | omega | with_reducible exact hw_ (by assumption) | with_reducible exact absurd hw_ (by assumption)) | ((first | have nw_ := Int.not_lt.1 hw_ | have nw_ := Int.not_le.1 hw_ | have nw_ := Nat.not_lt.1 hw_ | have nw_ := Nat.not_le.1 hw_ | have nw_ := Int.not_le.2 hw_ | have nw_ := Int.not_lt.2 hw_ | have nw_ := Nat.not_le.2 hw_ | have nw_ := Nat.not_lt.2 hw_); simp [ew_, nw_, NodeR.enc, h1, fk, hs1, hs2, hw2, T_size, hlt, hne, h120]) | simp [ew_, NodeR.enc, h1, fk, hs1, hs2, hw2, T_size, hlt, hne, h120])
        | (refine AInv.pure (rnright_ok n) ?_ ?_; (focus (first | rfl | (simp [NodeR.enc, h1, fk, hs1, hs2, hw2, T_size, hlt, hne, h120]; done))); try simp [NodeR.enc, h1, fk, hs1, hs2, hw2, T_size, hlt, hne, h120])
        | (refine ADcall.pure (rnright_ok n) ?_ ?_; (focus (first | rfl | (simp [NodeR.enc, h1, fk, hs1, hs2, hw2, T_size, hlt, hne, h120]; done))); try simp [NodeR.enc, h1, fk, hs1, hs2, hw2, T_size, hlt, hne, h120])
        | (refine AInv.pure (nsize_ok (extT n)) ?_ ?_; (focus (first | rfl | (simp [NodeR.enc, h1, fk, hs1, hs2, hw2, T_size, hlt, hne, h120]; done))); try simp [NodeR.enc, h1, fk, hs1, hs2, hw2, T_size, hlt, hne, h120])
        | (refine ADcall.pure (nsize_ok (extT n)) ?_ ?_; (focus (first | rfl | (simp [NodeR.enc, h1, fk, hs1, hs2, hw2, T_size, hlt, hne, h120]; done))); try simp [NodeR.enc, h1, fk, hs1, hs2, hw2, T_size, hlt, hne, h120])
        | (refine AInv.pure (nsize_ok n) ?_ ?_; (focus (first | rfl | (simp [NodeR.enc, h1, fk, hs1, hs2, hw2, T_size, hlt, hne, h120]; done))); try simp [NodeR.enc, h1, fk, hs1, hs2, hw2, T_size, hlt, hne, h120])
        | (refine ADcall.pure (nsize_ok n) ?_ ?_; (focus (first | rfl | (simp [NodeR.enc, h1, fk, hs1, hs2, hw2, T_size, hlt, hne, h120]; done))); try simp [NodeR.enc, h1, fk, hs1, hs2, hw2, T_size, hlt, hne, h120])
        | (refine AInv.pure (c1) ?_ ?_; (focus (first | rfl | (simp [NodeR.enc, h1, fk, hs1, hs2, hw2, T_size, hlt, hne, h120]; done))); try simp [NodeR.enc, h1, fk, hs1, hs2, hw2, T_size, hlt, hne, h120])
        | (refine ADcall.pure (c1) ?_ ?_; (focus (first | rfl | (simp [NodeR.enc, h1, fk, hs1, hs2, hw2, T_size, hlt, hne, h120]; done))); try simp [NodeR.enc, h1, fk, hs1, hs2, hw2, T_size, hlt, hne, h120])
        | (refine AInv.pure (c2) ?_ ?_; (focus (first | rfl | (simp [NodeR.enc, h1, fk, hs1, hs2, hw2, T_size, hlt, hne, h120]; done))); try simp [NodeR.enc, h1, fk, hs1, hs2, hw2, T_size, hlt, hne, h120])
        | (refine ADcall.pure (c2) ?_ ?_; (focus (first | rfl | (simp [NodeR.enc, h1, fk, hs1, hs2, hw2, T_size, hlt, hne, h120]; done))); try simp [NodeR.enc, h1, fk, hs1, hs2, hw2, T_size, hlt, hne, h120])
        | (refine AInv.pure (nsame_ok (extT n) n) ?_ ?_; (focus (first | rfl | (simp [NodeR.enc, h1, fk, hs1, hs2, hw2, T_size, hlt, hne, h120]; done))); try simp [NodeR.enc, h1, fk, hs1, hs2, hw2, T_size, hlt, hne, h120])
        | (refine ADcall.pure (nsame_ok (extT n) n) ?_ ?_; (focus (first | rfl | (simp [NodeR.enc, h1, fk, hs1, hs2, hw2, T_size, hlt, hne, h120]; done))); try simp [NodeR.enc, h1, fk, hs1, hs2, hw2, T_size, hlt, hne, h120])
        | (refine AW.draw (id := 8) Try.checked.mixed (fun _ => false) [] [] 25 (by kernel_rfl) ?_; simp [NodeR.enc, h1, fk, hs1, hs2, hw2, T_size, hlt, hne, h120])
        | (rw [if_pos (by first | omega | (simp only [maxLen]; omega))]; try simp [NodeR.enc, h1, fk, hs1, hs2, hw2, T_size, hlt, hne, h120])
        | (rw [if_neg (by first | omega | (simp only [maxLen]; omega))]; try simp [NodeR.enc, h1, fk, hs1, hs2, hw2, T_size, hlt, hne, h120])
        | (rw [frzOwn_neat (by simp) (by simp <;> omega)]; try simp [NodeR.enc, h1, fk, hs1, hs2, hw2, T_size, hlt, hne, h120])
        | (rw [fzOwn_neat (by simp) (by simp <;> omega)]; try simp [NodeR.enc, h1, fk, hs1, hs2, hw2, T_size, hlt, hne, h120])
        | ((first | refine condK_nb (fun hw_ ew_ => ?_) (fun hw_ ew_ => ?_) | refine condK_b (fun hw_ ew_ => ?_) (fun hw_ ew_ => ?_) | refine gdK_nb (fun hw_ ew_ => ?_) (fun hw_ ew_ => ?_) | refine gdD_nb (fun hw_ ew_ => ?_) (fun hw_ ew_ => ?_) | refine gdK_b (fun hw_ ew_ => ?_) (fun hw_ ew_ => ?_) | refine gdD_b (fun hw_ ew_ => ?_) (fun hw_ ew_ => ?_)) <;> first | (exfalso; first | omega | with_reducible exact hw_ (by assumption) | with_reducible exact absurd hw_ (by assumption)) | ((first | have nw_ := Int.not_lt.1 hw_ | have nw_ := Int.not_le.1 hw_ | have nw_ := Nat.not_lt.1 hw_ | have nw_ := Nat.not_le.1 hw_ | have nw_ := Int.not_le.2 hw_ | have nw_ := Int.not_lt.2 hw_ | have nw_ := Nat.not_le.2 hw_ | have nw_ := Nat.not_lt.2 hw_); simp [ew_, nw_, NodeR.enc, h1, fk, hs1, hs2, hw2, T_size, hlt, hne, h120]) | simp [ew_, NodeR.enc, h1, fk, hs1, hs2, hw2, T_size, hlt, hne, h120]))

theorem law_rows (a b : NodeR) (ha : a.wf) (hb : b.wf) : PCall Try.prog 11 [encN a, encN b] (B true) := by
  refine PCall.mk (fun _ => false) Try.func11 rfl rfl rfl (Ent.mk Try.func11 (by kernel_rfl) rfl) (by simp) (by simp) fun hfit => ?_
  simp [Try.f11]
  refine AInv.pure shown07_ok rfl ?_
  simp
  cases h1 : nodeOk a with
  | false =>
    try simp [NodeR.enc, h1]
    repeat' (first
      | ((first | refine condK_ndec (fun hw_ ew_ => ?_) (fun hw_ ew_ => ?_) | refine condK_dec (fun hw_ ew_ => ?_) (fun hw_ ew_ => ?_) | refine gdK_ndec (fun hw_ ew_ => ?_) (fun hw_ ew_ => ?_) | refine gdK_dec (fun hw_ ew_ => ?_) (fun hw_ ew_ => ?_) | refine gdD_ndec (fun hw_ ew_ => ?_) (fun hw_ ew_ => ?_) | refine gdD_dec (fun hw_ ew_ => ?_) (fun hw_ ew_ => ?_)) <;> first | (exfalso; first | omega | with_reducible exact hw_ (by assumption) | with_reducible exact absurd hw_ (by assumption)) | ((first | have nw_ := Int.not_lt.1 hw_ | have nw_ := Int.not_le.1 hw_ | have nw_ := Nat.not_lt.1 hw_ | have nw_ := Nat.not_le.1 hw_ | have nw_ := Int.not_le.2 hw_ | have nw_ := Int.not_lt.2 hw_ | have nw_ := Nat.not_le.2 hw_ | have nw_ := Nat.not_lt.2 hw_); simp [ew_, nw_, NodeR.enc, h1]) | simp [ew_, NodeR.enc, h1])
      | (refine AInv.pure (rnright_ok a) ?_ ?_; (focus (first | rfl | (simp [NodeR.enc, h1]; done))); try simp [NodeR.enc, h1])
      | (refine ADcall.pure (rnright_ok a) ?_ ?_; (focus (first | rfl | (simp [NodeR.enc, h1]; done))); try simp [NodeR.enc, h1])
      | (refine AInv.pure (rnright_ok b) ?_ ?_; (focus (first | rfl | (simp [NodeR.enc, h1]; done))); try simp [NodeR.enc, h1])
      | (refine ADcall.pure (rnright_ok b) ?_ ?_; (focus (first | rfl | (simp [NodeR.enc, h1]; done))); try simp [NodeR.enc, h1])
      | (rw [if_pos (by first | omega | (simp only [maxLen]; omega))]; try simp [NodeR.enc, h1])
      | (rw [if_neg (by first | omega | (simp only [maxLen]; omega))]; try simp [NodeR.enc, h1])
      | (rw [frzOwn_neat (by simp) (by simp <;> omega)]; try simp [NodeR.enc, h1])
      | (rw [fzOwn_neat (by simp) (by simp <;> omega)]; try simp [NodeR.enc, h1])
      | ((first | refine condK_nb (fun hw_ ew_ => ?_) (fun hw_ ew_ => ?_) | refine condK_b (fun hw_ ew_ => ?_) (fun hw_ ew_ => ?_) | refine gdK_nb (fun hw_ ew_ => ?_) (fun hw_ ew_ => ?_) | refine gdD_nb (fun hw_ ew_ => ?_) (fun hw_ ew_ => ?_) | refine gdK_b (fun hw_ ew_ => ?_) (fun hw_ ew_ => ?_) | refine gdD_b (fun hw_ ew_ => ?_) (fun hw_ ew_ => ?_)) <;> first | (exfalso; first | omega | with_reducible exact hw_ (by assumption) | with_reducible exact absurd hw_ (by assumption)) | ((first | have nw_ := Int.not_lt.1 hw_ | have nw_ := Int.not_le.1 hw_ | have nw_ := Nat.not_lt.1 hw_ | have nw_ := Nat.not_le.1 hw_ | have nw_ := Int.not_le.2 hw_ | have nw_ := Int.not_lt.2 hw_ | have nw_ := Nat.not_le.2 hw_ | have nw_ := Nat.not_lt.2 hw_); simp [ew_, nw_, NodeR.enc, h1]) | simp [ew_, NodeR.enc, h1]))
  | true =>
    cases h2 : nodeOk b with
    | false =>
      try simp [NodeR.enc, h1, h2]
      repeat' (first
        | ((first | refine condK_ndec (fun hw_ ew_ => ?_) (fun hw_ ew_ => ?_) | refine condK_dec (fun hw_ ew_ => ?_) (fun hw_ ew_ => ?_) | refine gdK_ndec (fun hw_ ew_ => ?_) (fun hw_ ew_ => ?_) | refine gdK_dec (fun hw_ ew_ => ?_) (fun hw_ ew_ => ?_) | refine gdD_ndec (fun hw_ ew_ => ?_) (fun hw_ ew_ => ?_) | refine gdD_dec (fun hw_ ew_ => ?_) (fun hw_ ew_ => ?_)) <;> first | (exfalso; first | omega | with_reducible exact hw_ (by assumption) | with_reducible exact absurd hw_ (by assumption)) | ((first | have nw_ := Int.not_lt.1 hw_ | have nw_ := Int.not_le.1 hw_ | have nw_ := Nat.not_lt.1 hw_ | have nw_ := Nat.not_le.1 hw_ | have nw_ := Int.not_le.2 hw_ | have nw_ := Int.not_lt.2 hw_ | have nw_ := Nat.not_le.2 hw_ | have nw_ := Nat.not_lt.2 hw_); simp [ew_, nw_, NodeR.enc, h1, h2]) | simp [ew_, NodeR.enc, h1, h2])
        | (refine AInv.pure (rnright_ok a) ?_ ?_; (focus (first | rfl | (simp [NodeR.enc, h1, h2]; done))); try simp [NodeR.enc, h1, h2])
        | (refine ADcall.pure (rnright_ok a) ?_ ?_; (focus (first | rfl | (simp [NodeR.enc, h1, h2]; done))); try simp [NodeR.enc, h1, h2])
        | (refine AInv.pure (rnright_ok b) ?_ ?_; (focus (first | rfl | (simp [NodeR.enc, h1, h2]; done))); try simp [NodeR.enc, h1, h2])
        | (refine ADcall.pure (rnright_ok b) ?_ ?_; (focus (first | rfl | (simp [NodeR.enc, h1, h2]; done))); try simp [NodeR.enc, h1, h2])
        | (rw [if_pos (by first | omega | (simp only [maxLen]; omega))]; try simp [NodeR.enc, h1, h2])
        | (rw [if_neg (by first | omega | (simp only [maxLen]; omega))]; try simp [NodeR.enc, h1, h2])
        | (rw [frzOwn_neat (by simp) (by simp <;> omega)]; try simp [NodeR.enc, h1, h2])
        | (rw [fzOwn_neat (by simp) (by simp <;> omega)]; try simp [NodeR.enc, h1, h2])
        | ((first | refine condK_nb (fun hw_ ew_ => ?_) (fun hw_ ew_ => ?_) | refine condK_b (fun hw_ ew_ => ?_) (fun hw_ ew_ => ?_) | refine gdK_nb (fun hw_ ew_ => ?_) (fun hw_ ew_ => ?_) | refine gdD_nb (fun hw_ ew_ => ?_) (fun hw_ ew_ => ?_) | refine gdK_b (fun hw_ ew_ => ?_) (fun hw_ ew_ => ?_) | refine gdD_b (fun hw_ ew_ => ?_) (fun hw_ ew_ => ?_)) <;> first | (exfalso; first | omega | with_reducible exact hw_ (by assumption) | with_reducible exact absurd hw_ (by assumption)) | ((first | have nw_ := Int.not_lt.1 hw_ | have nw_ := Int.not_le.1 hw_ | have nw_ := Nat.not_lt.1 hw_ | have nw_ := Nat.not_le.1 hw_ | have nw_ := Int.not_le.2 hw_ | have nw_ := Int.not_lt.2 hw_ | have nw_ := Nat.not_le.2 hw_ | have nw_ := Nat.not_lt.2 hw_); simp [ew_, nw_, NodeR.enc, h1, h2]) | simp [ew_, NodeR.enc, h1, h2]))
    | true =>
      have la := nodeL_small ha h1
      have lb := nodeL_small hb h2
      have c1 := ntext_ok a ha (by omega)
      have c2 := ntext_ok b hb (by omega)
      have c3 := ntake_ok (nodeL a ++ nodeL b) (by rw [List.length_append]; omega)
      rw [takeN_node h1 ha] at c3
      have c4 := ntake_ok (nodeL b) (by omega)
      have e4 := takeN_node h2 hb []
      rw [List.append_nil] at e4
      rw [e4] at c4
      try simp [NodeR.enc, NodeR.zero, h1, h2, T_size, T_app]
      repeat' (first
        | ((first | refine condK_ndec (fun hw_ ew_ => ?_) (fun hw_ ew_ => ?_) | refine condK_dec (fun hw_ ew_ => ?_) (fun hw_ ew_ => ?_) | refine gdK_ndec (fun hw_ ew_ => ?_) (fun hw_ ew_ => ?_) | refine gdK_dec (fun hw_ ew_ => ?_) (fun hw_ ew_ => ?_) | refine gdD_ndec (fun hw_ ew_ => ?_) (fun hw_ ew_ => ?_) | refine gdD_dec (fun hw_ ew_ => ?_) (fun hw_ ew_ => ?_)) <;> first | (exfalso; first | omega | with_reducible exact hw_ (by assumption) | with_reducible exact absurd hw_ (by assumption)) | ((first | have nw_ := Int.not_lt.1 hw_ | have nw_ := Int.not_le.1 hw_ | have nw_ := Nat.not_lt.1 hw_ | have nw_ := Nat.not_le.1 hw_ | have nw_ := Int.not_le.2 hw_ | have nw_ := Int.not_lt.2 hw_ | have nw_ := Nat.not_le.2 hw_ | have nw_ := Nat.not_lt.2 hw_); simp [ew_, nw_, NodeR.enc, NodeR.zero, h1, h2, T_size, T_app]) | simp [ew_, NodeR.enc, NodeR.zero, h1, h2, T_size, T_app])
        | (refine AInv.pure (rnright_ok a) ?_ ?_; (focus (first | rfl | (simp [NodeR.enc, NodeR.zero, h1, h2, T_size, T_app]; done))); try simp [NodeR.enc, NodeR.zero, h1, h2, T_size, T_app])
        | (refine ADcall.pure (rnright_ok a) ?_ ?_; (focus (first | rfl | (simp [NodeR.enc, NodeR.zero, h1, h2, T_size, T_app]; done))); try simp [NodeR.enc, NodeR.zero, h1, h2, T_size, T_app])
        | (refine AInv.pure (rnright_ok b) ?_ ?_; (focus (first | rfl | (simp [NodeR.enc, NodeR.zero, h1, h2, T_size, T_app]; done))); try simp [NodeR.enc, NodeR.zero, h1, h2, T_size, T_app])
        | (refine ADcall.pure (rnright_ok b) ?_ ?_; (focus (first | rfl | (simp [NodeR.enc, NodeR.zero, h1, h2, T_size, T_app]; done))); try simp [NodeR.enc, NodeR.zero, h1, h2, T_size, T_app])
        | (refine AInv.pure (c1) ?_ ?_; (focus (first | rfl | (simp [NodeR.enc, NodeR.zero, h1, h2, T_size, T_app]; done))); try simp [NodeR.enc, NodeR.zero, h1, h2, T_size, T_app])
        | (refine ADcall.pure (c1) ?_ ?_; (focus (first | rfl | (simp [NodeR.enc, NodeR.zero, h1, h2, T_size, T_app]; done))); try simp [NodeR.enc, NodeR.zero, h1, h2, T_size, T_app])
        | (refine AInv.pure (c2) ?_ ?_; (focus (first | rfl | (simp [NodeR.enc, NodeR.zero, h1, h2, T_size, T_app]; done))); try simp [NodeR.enc, NodeR.zero, h1, h2, T_size, T_app])
        | (refine ADcall.pure (c2) ?_ ?_; (focus (first | rfl | (simp [NodeR.enc, NodeR.zero, h1, h2, T_size, T_app]; done))); try simp [NodeR.enc, NodeR.zero, h1, h2, T_size, T_app])
        | (refine AInv.pure (c3) ?_ ?_; (focus (first | rfl | (simp [NodeR.enc, NodeR.zero, h1, h2, T_size, T_app]; done))); try simp [NodeR.enc, NodeR.zero, h1, h2, T_size, T_app])
        | (refine ADcall.pure (c3) ?_ ?_; (focus (first | rfl | (simp [NodeR.enc, NodeR.zero, h1, h2, T_size, T_app]; done))); try simp [NodeR.enc, NodeR.zero, h1, h2, T_size, T_app])
        | (refine AInv.pure (c4) ?_ ?_; (focus (first | rfl | (simp [NodeR.enc, NodeR.zero, h1, h2, T_size, T_app]; done))); try simp [NodeR.enc, NodeR.zero, h1, h2, T_size, T_app])
        | (refine ADcall.pure (c4) ?_ ?_; (focus (first | rfl | (simp [NodeR.enc, NodeR.zero, h1, h2, T_size, T_app]; done))); try simp [NodeR.enc, NodeR.zero, h1, h2, T_size, T_app])
        | (refine AInv.pure (rnsame_ok a a) ?_ ?_; (focus (first | rfl | (simp [NodeR.enc, NodeR.zero, h1, h2, T_size, T_app]; done))); try simp [NodeR.enc, NodeR.zero, h1, h2, T_size, T_app])
        | (refine ADcall.pure (rnsame_ok a a) ?_ ?_; (focus (first | rfl | (simp [NodeR.enc, NodeR.zero, h1, h2, T_size, T_app]; done))); try simp [NodeR.enc, NodeR.zero, h1, h2, T_size, T_app])
        | (refine AInv.pure (rnsame_ok b b) ?_ ?_; (focus (first | rfl | (simp [NodeR.enc, NodeR.zero, h1, h2, T_size, T_app]; done))); try simp [NodeR.enc, NodeR.zero, h1, h2, T_size, T_app])
        | (refine ADcall.pure (rnsame_ok b b) ?_ ?_; (focus (first | rfl | (simp [NodeR.enc, NodeR.zero, h1, h2, T_size, T_app]; done))); try simp [NodeR.enc, NodeR.zero, h1, h2, T_size, T_app])
        | (refine AW.room (AW.draw (id := 4) Try.checked.mixed (fun _ => false) [2] [(10, .w)] 14 (by kernel_rfl) ?_); simp [NodeR.enc, NodeR.zero, h1, h2, T_size, T_app])
        | (rw [if_pos (by first | omega | (simp only [maxLen]; omega))]; try simp [NodeR.enc, NodeR.zero, h1, h2, T_size, T_app])
        | (rw [if_neg (by first | omega | (simp only [maxLen]; omega))]; try simp [NodeR.enc, NodeR.zero, h1, h2, T_size, T_app])
        | (rw [frzOwn_neat (by simp) (by simp <;> omega)]; try simp [NodeR.enc, NodeR.zero, h1, h2, T_size, T_app])
        | (rw [fzOwn_neat (by simp) (by simp <;> omega)]; try simp [NodeR.enc, NodeR.zero, h1, h2, T_size, T_app])
        | ((first | refine condK_nb (fun hw_ ew_ => ?_) (fun hw_ ew_ => ?_) | refine condK_b (fun hw_ ew_ => ?_) (fun hw_ ew_ => ?_) | refine gdK_nb (fun hw_ ew_ => ?_) (fun hw_ ew_ => ?_) | refine gdD_nb (fun hw_ ew_ => ?_) (fun hw_ ew_ => ?_) | refine gdK_b (fun hw_ ew_ => ?_) (fun hw_ ew_ => ?_) | refine gdD_b (fun hw_ ew_ => ?_) (fun hw_ ew_ => ?_)) <;> first | (exfalso; first | omega | with_reducible exact hw_ (by assumption) | with_reducible exact absurd hw_ (by assumption)) | ((first | have nw_ := Int.not_lt.1 hw_ | have nw_ := Int.not_le.1 hw_ | have nw_ := Nat.not_lt.1 hw_ | have nw_ := Nat.not_le.1 hw_ | have nw_ := Int.not_le.2 hw_ | have nw_ := Int.not_lt.2 hw_ | have nw_ := Nat.not_le.2 hw_ | have nw_ := Nat.not_lt.2 hw_); simp [ew_, nw_, NodeR.enc, NodeR.zero, h1, h2, T_size, T_app]) | simp [ew_, NodeR.enc, NodeR.zero, h1, h2, T_size, T_app]))
end Go.Proofs.Ytjelapkglkcoiaa
