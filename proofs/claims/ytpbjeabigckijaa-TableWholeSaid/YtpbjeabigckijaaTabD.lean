/- Forgotten. -/
import Derived.Test.YtpbjeabigckijaaTabC
set_option linter.unusedVariables false
set_option linter.unusedSimpArgs false
namespace Go.Proofs.Ytpbjeabigckijaa
open Go.Cx Tab
set_option maxHeartbeats 400000
set_option maxRecDepth 40000

theorem forget11_ok (d : DecisionR) (c e m : Int) (l : List DecisionR) : PCall Try.prog 35 [.agg d.enc, .fp [I c, I e, I m, encL DecisionR.enc l]] (B (decide (d.seq ≤ m))) := by
  refine PCall.mk (fun _ => false) Try.func35 rfl rfl rfl (Ent.mk Try.func35 (by kernel_rfl) rfl) (by simp) (by simp) fun hfit => ?_
  simp [Try.f35, DecisionR.enc]
theorem forget1_ok (r : RowR) (d : Int) (hl : r.l.length ≤ 100000) : PCall Try.prog 33 [.agg r.enc, .fp [I d]] (.agg (forR r d).enc) := by
  obtain ⟨c, e, dn, l⟩ := r
  simp only at hl
  have hdel := deletefD_ok l 35 [.ptr 1 0 0] [.fp [I c, I e, I (max dn d), encL DecisionR.enc l]] [.cells 0 [I c, I e, I (max dn d), encL DecisionR.enc l]] (fun x => decide (x.seq ≤ max dn d)) (by simp) (by simp) (by simp) (fun fu b0 tl => by simp) (fun x _ => forget11_ok x c e (max dn d) l) (by omega)
  unfold forR
  refine PCall.mk (fun _ => false) Try.func33 rfl rfl rfl (Ent.mk Try.func33 (by kernel_rfl) rfl) (by simp) (by simp) fun hfit => ?_
  simp [Try.f33, RowR.enc]
  refine AInv.fresh [] (cloneD_ok l (by omega)) (by simp) (by simp) ?_
  simp
  refine AInv.fresh [2, 0] hdel (by simp) (by simp) ?_
  simp
  rw [frzOwn_neat (by simp) (by simp)]
  simp
theorem forget_ok (l : List RowR) (c e n : Int) (R : RightT l) : PCall Try.prog 16 [encL RowR.enc l, I c, I e, I n] (.tup [encL RowR.enc (forgetS l c e n).1, I (forgetS l c e n).2]) := by
  have hl := R.len
  cases hb : badS c e n with
  | true =>
    have h1 := row_bad l c e n hb
    have hw : whyS l c e n = 1 := by simp [whyS, hb]
    have hs : forgetS l c e n = (l, 1) := by simp [forgetS, hw]
    refine PCall.mk (fun _ => false) Try.func16 rfl rfl rfl (Ent.mk Try.func16 (by kernel_rfl) rfl) (by simp) (by simp) fun hfit => ?_
    simp [Try.f16, hs]
    try simp
    repeat' (first
      | ((first | refine Tst.go (fun hw_ ew_ => ?_) (fun hw_ ew_ => ?_)) <;> first | (exfalso; first | omega | with_reducible exact hw_ (by assumption) | with_reducible exact absurd hw_ (by assumption)) | (have nw_ := Nw.nw hw_; simp [ew_, nw_]) | simp [ew_])
      | ((first | (refine Pc.go (h1) ?_ ?_; focus (first | rfl | (simp; done))) | rw [if_pos (by first | omega | (simp only [maxLen]; omega))] | rw [if_neg (by first | omega | (simp only [maxLen]; omega))] | rw [frzOwn_neat (by simp) (by simp <;> omega)] | rw [fzOwn_neat (by simp) (by simp <;> omega)]); try simp)
      | ((first | refine TstB.go (fun hw_ ew_ => ?_) (fun hw_ ew_ => ?_)) <;> first | (exfalso; first | omega | with_reducible exact hw_ (by assumption) | with_reducible exact absurd hw_ (by assumption)) | simp [ew_])
      | fail)
  | false =>
    have h1 := row_ok l c e n hb R.rise (by omega)
    by_cases hw : whyS l c e n = 0
    case neg =>
      have hs : forgetS l c e n = (l, whyS l c e n) := by simp [forgetS, hw]
      generalize whyS l c e n = y at *
      refine PCall.mk (fun _ => false) Try.func16 rfl rfl rfl (Ent.mk Try.func16 (by kernel_rfl) rfl) (by simp) (by simp) fun hfit => ?_
      simp [Try.f16, hs]
      try simp [hw]
      repeat' (first
        | ((first | refine Tst.go (fun hw_ ew_ => ?_) (fun hw_ ew_ => ?_)) <;> first | (exfalso; first | omega | with_reducible exact hw_ (by assumption) | with_reducible exact absurd hw_ (by assumption)) | (have nw_ := Nw.nw hw_; simp [ew_, nw_, hw]) | simp [ew_, hw])
        | ((first | (refine Pc.go (h1) ?_ ?_; focus (first | rfl | (simp [hw]; done))) | rw [if_pos (by first | omega | (simp only [maxLen]; omega))] | rw [if_neg (by first | omega | (simp only [maxLen]; omega))] | rw [frzOwn_neat (by simp) (by simp <;> omega)] | rw [fzOwn_neat (by simp) (by simp <;> omega)]); try simp [hw])
        | ((first | refine TstB.go (fun hw_ ew_ => ?_) (fun hw_ ew_ => ?_)) <;> first | (exfalso; first | omega | with_reducible exact hw_ (by assumption) | with_reducible exact absurd hw_ (by assumption)) | simp [ew_, hw])
        | fail)
    obtain ⟨r1, r2⟩ := rowS_rise R c e n
    obtain ⟨k1, k2⟩ := rowS_key l hb
    have h3 := forget1_ok (rowS l c e n) n (by omega)
    have hkey : RowR.client (forR (rowS l c e n) n) = c := k1
    cases hx : findS RowR.client l c with
    | none => simp [whyS, hb, hx] at hw
    | some r0 =>
      obtain ⟨hq, hqx⟩ := find_place RowR.client R.rise hx
      have hq2 : l[placeS RowR.client l c].client = c := by rw [hqx]; exact (findS_mem _ hx).2
      have hpi := put_set RowR.client R.rise (x := forR (rowS l c e n) n) hq (by rw [hkey]; exact hq2)
      have hs : forgetS l c e n = (l.set (placeS RowR.client l c) (forR (rowS l c e n) n), 0) := by rw [hpi]; simp [forgetS, hw]
      have h4 := with_set l (placeS RowR.client l c) (rowS l c e n) (forR (rowS l c e n) n) 33 [.fp [I n]] (by simp) h3 hq (by rw [k1]; exact hq2) (by omega)
      rw [hw] at h1
      generalize forR (rowS l c e n) n = r' at *
      generalize rowS l c e n = r at *
      generalize placeS RowR.client l c = q at *
      refine PCall.mkW Try.func16 rfl rfl rfl (Ent.mk Try.func16 (by kernel_rfl) rfl) (by simp) (by simp) fun hfit => ?_
      refine AW.seqA (lit := fun _ => false) ?_
      simp
      refine AW.wkZ (WkZ.freeze [0] 7 (.fp [I n]) (by simp)) ?_
      refine AX_ok (lit := fun _ => false) _ _ _ ?_
      simp [hs]
      try simp
      repeat' (first
        | ((first | refine Tst.go (fun hw_ ew_ => ?_) (fun hw_ ew_ => ?_)) <;> first | (exfalso; first | omega | with_reducible exact hw_ (by assumption) | with_reducible exact absurd hw_ (by assumption)) | (have nw_ := Nw.nw hw_; simp [ew_, nw_]) | simp [ew_])
        | ((first | (refine Pc.go (h1) ?_ ?_; focus (first | rfl | (simp; done))) | (refine Pc.go (h4) ?_ ?_; focus (first | rfl | (simp; done))) | rw [if_pos (by first | omega | (simp only [maxLen]; omega))] | rw [if_neg (by first | omega | (simp only [maxLen]; omega))] | rw [frzOwn_neat (by simp) (by simp <;> omega)] | rw [fzOwn_neat (by simp) (by simp <;> omega)]); try simp)
        | ((first | refine TstB.go (fun hw_ ew_ => ?_) (fun hw_ ew_ => ?_)) <;> first | (exfalso; first | omega | with_reducible exact hw_ (by assumption) | with_reducible exact absurd hw_ (by assumption)) | simp [ew_])
        | fail)
end Go.Proofs.Ytpbjeabigckijaa
