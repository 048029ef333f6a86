/- NodeTexts, where what it reads is of bulk at most its bound. -/
import Derived.Test.YtjelapkglkcoiaaLaw07
import Derived.Test.YtjelapkglkcoiaaCxZ
set_option linter.unusedVariables false
set_option linter.unusedSimpArgs false
namespace Go.Proofs.Ytjelapkglkcoiaa
open Go.Cx Tab
set_option maxHeartbeats 400000
set_option maxRecDepth 40000

theorem law_texts (n other : NodeR) (s : List UInt8) (hn : n.wf) (hl : (nodeL n).length ≤ 1099511627776 ∨ 300 < n.l.length) : PCall Try.prog 12 [encN n, encN other, S (T s)] (B true) := by
  refine PCall.mk (fun _ => false) Try.func12 rfl rfl rfl (Ent.mk Try.func12 (by kernel_rfl) rfl) (by simp) (by simp) fun hfit => ?_
  simp [Try.f12]
  refine AInv.pure shown07_ok rfl ?_
  simp
  by_cases hs : 6000 < s.length
  · try simp [NodeR.enc, T_size, hs]
    repeat' (first
      | ((first | refine condK_ndec (fun hw_ ew_ => ?_) (fun hw_ ew_ => ?_) | refine condK_dec (fun hw_ ew_ => ?_) (fun hw_ ew_ => ?_) | refine gdK_ndec (fun hw_ ew_ => ?_) (fun hw_ ew_ => ?_) | refine gdK_dec (fun hw_ ew_ => ?_) (fun hw_ ew_ => ?_) | refine gdD_ndec (fun hw_ ew_ => ?_) (fun hw_ ew_ => ?_) | refine gdD_dec (fun hw_ ew_ => ?_) (fun hw_ ew_ => ?_)) <;> first | (exfalso; first | omega | with_reducible exact hw_ (by assumption) | with_reducible exact absurd hw_ (by assumption)) | ((first | have nw_ := Int.not_lt.1 hw_ | have nw_ := Int.not_le.1 hw_ | have nw_ := Nat.not_lt.1 hw_ | have nw_ := Nat.not_le.1 hw_ | have nw_ := Int.not_le.2 hw_ | have nw_ := Int.not_lt.2 hw_ | have nw_ := Nat.not_le.2 hw_ | have nw_ := Nat.not_lt.2 hw_); simp [ew_, nw_, NodeR.enc, T_size, hs]) | simp [ew_, NodeR.enc, T_size, hs])
      | (refine AW.draw (id := 7) Try.checked.mixed (fun _ => false) [] [] 45 (by kernel_rfl) ?_; simp [NodeR.enc, T_size, hs])
      | (rw [if_pos (by first | omega | (simp only [maxLen]; omega))]; try simp [NodeR.enc, T_size, hs])
      | (rw [if_neg (by first | omega | (simp only [maxLen]; omega))]; try simp [NodeR.enc, T_size, hs])
      | (rw [frzOwn_neat (by simp) (by simp <;> omega)]; try simp [NodeR.enc, T_size, hs])
      | (rw [fzOwn_neat (by simp) (by simp <;> omega)]; try simp [NodeR.enc, T_size, hs])
      | ((first | refine condK_nb (fun hw_ ew_ => ?_) (fun hw_ ew_ => ?_) | refine condK_b (fun hw_ ew_ => ?_) (fun hw_ ew_ => ?_) | refine gdK_nb (fun hw_ ew_ => ?_) (fun hw_ ew_ => ?_) | refine gdD_nb (fun hw_ ew_ => ?_) (fun hw_ ew_ => ?_) | refine gdK_b (fun hw_ ew_ => ?_) (fun hw_ ew_ => ?_) | refine gdD_b (fun hw_ ew_ => ?_) (fun hw_ ew_ => ?_)) <;> first | (exfalso; first | omega | with_reducible exact hw_ (by assumption) | with_reducible exact absurd hw_ (by assumption)) | ((first | have nw_ := Int.not_lt.1 hw_ | have nw_ := Int.not_le.1 hw_ | have nw_ := Nat.not_lt.1 hw_ | have nw_ := Nat.not_le.1 hw_ | have nw_ := Int.not_le.2 hw_ | have nw_ := Int.not_lt.2 hw_ | have nw_ := Nat.not_le.2 hw_ | have nw_ := Nat.not_lt.2 hw_); simp [ew_, nw_, NodeR.enc, T_size, hs]) | simp [ew_, NodeR.enc, T_size, hs]))
  by_cases hg : 300 < n.l.length
  · try simp [NodeR.enc, T_size, hg]
    repeat' (first
      | ((first | refine condK_ndec (fun hw_ ew_ => ?_) (fun hw_ ew_ => ?_) | refine condK_dec (fun hw_ ew_ => ?_) (fun hw_ ew_ => ?_) | refine gdK_ndec (fun hw_ ew_ => ?_) (fun hw_ ew_ => ?_) | refine gdK_dec (fun hw_ ew_ => ?_) (fun hw_ ew_ => ?_) | refine gdD_ndec (fun hw_ ew_ => ?_) (fun hw_ ew_ => ?_) | refine gdD_dec (fun hw_ ew_ => ?_) (fun hw_ ew_ => ?_)) <;> first | (exfalso; first | omega | with_reducible exact hw_ (by assumption) | with_reducible exact absurd hw_ (by assumption)) | ((first | have nw_ := Int.not_lt.1 hw_ | have nw_ := Int.not_le.1 hw_ | have nw_ := Nat.not_lt.1 hw_ | have nw_ := Nat.not_le.1 hw_ | have nw_ := Int.not_le.2 hw_ | have nw_ := Int.not_lt.2 hw_ | have nw_ := Nat.not_le.2 hw_ | have nw_ := Nat.not_lt.2 hw_); simp [ew_, nw_, NodeR.enc, T_size, hg]) | simp [ew_, NodeR.enc, T_size, hg])
      | (refine AW.draw (id := 7) Try.checked.mixed (fun _ => false) [] [] 45 (by kernel_rfl) ?_; simp [NodeR.enc, T_size, hg])
      | (rw [if_pos (by first | omega | (simp only [maxLen]; omega))]; try simp [NodeR.enc, T_size, hg])
      | (rw [if_neg (by first | omega | (simp only [maxLen]; omega))]; try simp [NodeR.enc, T_size, hg])
      | (rw [frzOwn_neat (by simp) (by simp <;> omega)]; try simp [NodeR.enc, T_size, hg])
      | (rw [fzOwn_neat (by simp) (by simp <;> omega)]; try simp [NodeR.enc, T_size, hg])
      | ((first | refine condK_nb (fun hw_ ew_ => ?_) (fun hw_ ew_ => ?_) | refine condK_b (fun hw_ ew_ => ?_) (fun hw_ ew_ => ?_) | refine gdK_nb (fun hw_ ew_ => ?_) (fun hw_ ew_ => ?_) | refine gdD_nb (fun hw_ ew_ => ?_) (fun hw_ ew_ => ?_) | refine gdK_b (fun hw_ ew_ => ?_) (fun hw_ ew_ => ?_) | refine gdD_b (fun hw_ ew_ => ?_) (fun hw_ ew_ => ?_)) <;> first | (exfalso; first | omega | with_reducible exact hw_ (by assumption) | with_reducible exact absurd hw_ (by assumption)) | ((first | have nw_ := Int.not_lt.1 hw_ | have nw_ := Int.not_le.1 hw_ | have nw_ := Nat.not_lt.1 hw_ | have nw_ := Nat.not_le.1 hw_ | have nw_ := Int.not_le.2 hw_ | have nw_ := Int.not_lt.2 hw_ | have nw_ := Nat.not_le.2 hw_ | have nw_ := Nat.not_lt.2 hw_); simp [ew_, nw_, NodeR.enc, T_size, hg]) | simp [ew_, NodeR.enc, T_size, hg]))
  have hl := hl.resolve_right hg
  have c1 := ntake_ok s (by omega)
  have c2 := rntake_ok s (by omega)
  have c3 := ntext_ok n hn hl
  have c4 := rntext_ok n hn hl
  generalize takeN s = q at *
  obtain ⟨k, r, e⟩ := q
  simp only at c1 c2
  try simp [NodeR.enc, T_size, hs]
  repeat' (first
    | ((first | refine condK_ndec (fun hw_ ew_ => ?_) (fun hw_ ew_ => ?_) | refine condK_dec (fun hw_ ew_ => ?_) (fun hw_ ew_ => ?_) | refine gdK_ndec (fun hw_ ew_ => ?_) (fun hw_ ew_ => ?_) | refine gdK_dec (fun hw_ ew_ => ?_) (fun hw_ ew_ => ?_) | refine gdD_ndec (fun hw_ ew_ => ?_) (fun hw_ ew_ => ?_) | refine gdD_dec (fun hw_ ew_ => ?_) (fun hw_ ew_ => ?_)) <;> first | (exfalso; first | omega | with_reducible exact hw_ (by assumption) | with_reducible exact absurd hw_ (by assumption)) | ((first | have nw_ := Int.not_lt.1 hw_ | have nw_ := Int.not_le.1 hw_ | have nw_ := Nat.not_lt.1 hw_ | have nw_ := Nat.not_le.1 hw_ | have nw_ := Int.not_le.2 hw_ | have nw_ := Int.not_lt.2 hw_ | have nw_ := Nat.not_le.2 hw_ | have nw_ := Nat.not_lt.2 hw_); simp [ew_, nw_, NodeR.enc, T_size, hs]) | simp [ew_, NodeR.enc, T_size, hs])
    | (refine AInv.pure (c1) ?_ ?_; (focus (first | rfl | (simp [NodeR.enc, T_size, hs]; done))); try simp [NodeR.enc, T_size, hs])
    | (refine ADcall.pure (c1) ?_ ?_; (focus (first | rfl | (simp [NodeR.enc, T_size, hs]; done))); try simp [NodeR.enc, T_size, hs])
    | (refine AInv.pure (c2) ?_ ?_; (focus (first | rfl | (simp [NodeR.enc, T_size, hs]; done))); try simp [NodeR.enc, T_size, hs])
    | (refine ADcall.pure (c2) ?_ ?_; (focus (first | rfl | (simp [NodeR.enc, T_size, hs]; done))); try simp [NodeR.enc, T_size, hs])
    | (refine AInv.pure (rnsame_ok k k) ?_ ?_; (focus (first | rfl | (simp [NodeR.enc, T_size, hs]; done))); try simp [NodeR.enc, T_size, hs])
    | (refine ADcall.pure (rnsame_ok k k) ?_ ?_; (focus (first | rfl | (simp [NodeR.enc, T_size, hs]; done))); try simp [NodeR.enc, T_size, hs])
    | (refine AInv.pure (nright_ok n) ?_ ?_; (focus (first | rfl | (simp [NodeR.enc, T_size, hs]; done))); try simp [NodeR.enc, T_size, hs])
    | (refine ADcall.pure (nright_ok n) ?_ ?_; (focus (first | rfl | (simp [NodeR.enc, T_size, hs]; done))); try simp [NodeR.enc, T_size, hs])
    | (refine AInv.pure (rnright_ok n) ?_ ?_; (focus (first | rfl | (simp [NodeR.enc, T_size, hs]; done))); try simp [NodeR.enc, T_size, hs])
    | (refine ADcall.pure (rnright_ok n) ?_ ?_; (focus (first | rfl | (simp [NodeR.enc, T_size, hs]; done))); try simp [NodeR.enc, T_size, hs])
    | (refine AInv.pure (nsize_ok n) ?_ ?_; (focus (first | rfl | (simp [NodeR.enc, T_size, hs]; done))); try simp [NodeR.enc, T_size, hs])
    | (refine ADcall.pure (nsize_ok n) ?_ ?_; (focus (first | rfl | (simp [NodeR.enc, T_size, hs]; done))); try simp [NodeR.enc, T_size, hs])
    | (refine AInv.pure (rnsize_ok n) ?_ ?_; (focus (first | rfl | (simp [NodeR.enc, T_size, hs]; done))); try simp [NodeR.enc, T_size, hs])
    | (refine ADcall.pure (rnsize_ok n) ?_ ?_; (focus (first | rfl | (simp [NodeR.enc, T_size, hs]; done))); try simp [NodeR.enc, T_size, hs])
    | (refine AInv.pure (c3) ?_ ?_; (focus (first | rfl | (simp [NodeR.enc, T_size, hs]; done))); try simp [NodeR.enc, T_size, hs])
    | (refine ADcall.pure (c3) ?_ ?_; (focus (first | rfl | (simp [NodeR.enc, T_size, hs]; done))); try simp [NodeR.enc, T_size, hs])
    | (refine AInv.pure (c4) ?_ ?_; (focus (first | rfl | (simp [NodeR.enc, T_size, hs]; done))); try simp [NodeR.enc, T_size, hs])
    | (refine ADcall.pure (c4) ?_ ?_; (focus (first | rfl | (simp [NodeR.enc, T_size, hs]; done))); try simp [NodeR.enc, T_size, hs])
    | (refine AInv.pure (nsame_ok n other) ?_ ?_; (focus (first | rfl | (simp [NodeR.enc, T_size, hs]; done))); try simp [NodeR.enc, T_size, hs])
    | (refine ADcall.pure (nsame_ok n other) ?_ ?_; (focus (first | rfl | (simp [NodeR.enc, T_size, hs]; done))); try simp [NodeR.enc, T_size, hs])
    | (refine AInv.pure (rnsame_ok n other) ?_ ?_; (focus (first | rfl | (simp [NodeR.enc, T_size, hs]; done))); try simp [NodeR.enc, T_size, hs])
    | (refine ADcall.pure (rnsame_ok n other) ?_ ?_; (focus (first | rfl | (simp [NodeR.enc, T_size, hs]; done))); try simp [NodeR.enc, T_size, hs])
    | (refine AW.draw (id := 7) Try.checked.mixed (fun _ => false) [] [] 45 (by kernel_rfl) ?_; simp [NodeR.enc, T_size, hs])
    | (rw [if_pos (by first | omega | (simp only [maxLen]; omega))]; try simp [NodeR.enc, T_size, hs])
    | (rw [if_neg (by first | omega | (simp only [maxLen]; omega))]; try simp [NodeR.enc, T_size, hs])
    | (rw [frzOwn_neat (by simp) (by simp <;> omega)]; try simp [NodeR.enc, T_size, hs])
    | (rw [fzOwn_neat (by simp) (by simp <;> omega)]; try simp [NodeR.enc, T_size, hs])
    | ((first | refine condK_nb (fun hw_ ew_ => ?_) (fun hw_ ew_ => ?_) | refine condK_b (fun hw_ ew_ => ?_) (fun hw_ ew_ => ?_) | refine gdK_nb (fun hw_ ew_ => ?_) (fun hw_ ew_ => ?_) | refine gdD_nb (fun hw_ ew_ => ?_) (fun hw_ ew_ => ?_) | refine gdK_b (fun hw_ ew_ => ?_) (fun hw_ ew_ => ?_) | refine gdD_b (fun hw_ ew_ => ?_) (fun hw_ ew_ => ?_)) <;> first | (exfalso; first | omega | with_reducible exact hw_ (by assumption) | with_reducible exact absurd hw_ (by assumption)) | ((first | have nw_ := Int.not_lt.1 hw_ | have nw_ := Int.not_le.1 hw_ | have nw_ := Nat.not_lt.1 hw_ | have nw_ := Nat.not_le.1 hw_ | have nw_ := Int.not_le.2 hw_ | have nw_ := Int.not_lt.2 hw_ | have nw_ := Nat.not_le.2 hw_ | have nw_ := Nat.not_lt.2 hw_); simp [ew_, nw_, NodeR.enc, T_size, hs]) | simp [ew_, NodeR.enc, T_size, hs]))
end Go.Proofs.Ytjelapkglkcoiaa
