/- What the reference's functions of layer 1 compute. -/
import Derived.Test.YtpbjeabigckijaaTab
import Derived.Test.YtpbjeabigckijaaBe
import Derived.Test.YtpbjeabigckijaaChecked
import Derived.Test.YtpbjeabigckijaaBf
set_option linter.unusedVariables false
set_option linter.unusedSimpArgs false
namespace Go.Proofs.Ytpbjeabigckijaa
open Go.Cx Tab
set_option maxHeartbeats 400000
set_option maxRecDepth 40000

theorem rnum_ok (n : Nat) (hn : n < 18446744073709551616) : PCall Try.prog 54 [U n] (S (T (numL n))) := by
  induction n using Nat.strongRecOn with
  | _ n ih =>
  refine PCall.mk (fun _ => false) Try.func54 rfl rfl rfl (Ent.mk Try.func54 (by kernel_rfl) rfl) (by simp) (by simp) fun hfit => ?_
  simp [Try.f54]
  by_cases h : n < 128
  · simp [h, numL_lo h, u8s_cons]
    apply UInt8.toNat_inj.1
    simp
    omega
  · have h10 := numL_10 (n := n / 128) (by omega)
    have e : (n : Int) / 128 % 18446744073709551616 = (n : Int) / 128 := by omega
    simp [h]
    try simp [T_size, T_app, numL_hi h, e]
    repeat' (first
      | ((first | refine Tst.go (fun hw_ ew_ => ?_) (fun hw_ ew_ => ?_)) <;> first | (exfalso; first | omega | with_reducible exact hw_ (by assumption) | with_reducible exact absurd hw_ (by assumption)) | (have nw_ := Nw.nw hw_; simp [ew_, nw_, T_size, T_app, numL_hi h, e]) | simp [ew_, T_size, T_app, numL_hi h, e])
      | ((first | (refine Pc.go (ih (n / 128) (by omega) (by omega)) ?_ ?_; focus (first | rfl | (simp [T_size, T_app, numL_hi h, e]; done))) | refine AW.draw (id := 3) Try.checked.mixed (fun _ => false) [] [] 11 (by kernel_rfl) ?_ | rw [if_pos (by first | omega | (simp only [maxLen]; omega))] | rw [if_neg (by first | omega | (simp only [maxLen]; omega))] | rw [frzOwn_neat (by simp) (by simp <;> omega)] | rw [fzOwn_neat (by simp) (by simp <;> omega)]); try simp [T_size, T_app, numL_hi h, e])
      | ((first | refine TstB.go (fun hw_ ew_ => ?_) (fun hw_ ew_ => ?_)) <;> first | (exfalso; first | omega | with_reducible exact hw_ (by assumption) | with_reducible exact absurd hw_ (by assumption)) | simp [ew_, T_size, T_app, numL_hi h, e])
      | fail)
    have e2 : UInt8.ofNat ((n : Int) % 128 + 128).toNat = UInt8.ofNat (n % 128) + 128 := by
      apply UInt8.toNat_inj.1
      simp; omega
    apply UInt8.toNat_inj.1
    simp
    omega

theorem rfold_ok (n : Int) (hn : inI n) : PCall Try.prog 69 [I n] (U (foldS n)) := by
  refine PCall.mk (fun _ => false) Try.func69 rfl rfl rfl (Ent.mk Try.func69 (by kernel_rfl) rfl) (by simp) (by simp) fun hfit => ?_
  simp only [inI] at hn
  simp [Try.f69, foldS]
  try simp
  repeat' (first
    | ((first | refine Tst.go (fun hw_ ew_ => ?_) (fun hw_ ew_ => ?_)) <;> first | (exfalso; first | omega | with_reducible exact hw_ (by assumption) | with_reducible exact absurd hw_ (by assumption)) | (have nw_ := Nw.nw hw_; simp [ew_, nw_]) | simp [ew_])
    | ((first | rw [if_pos (by first | omega | (simp only [maxLen]; omega))] | rw [if_neg (by first | omega | (simp only [maxLen]; omega))] | rw [frzOwn_neat (by simp) (by simp <;> omega)] | rw [fzOwn_neat (by simp) (by simp <;> omega)]); try simp)
    | ((first | refine TstB.go (fun hw_ ew_ => ?_) (fun hw_ ew_ => ?_)) <;> first | (exfalso; first | omega | with_reducible exact hw_ (by assumption) | with_reducible exact absurd hw_ (by assumption)) | simp [ew_])
    | fail)
  all_goals omega
theorem runfold_ok (n : Nat) (hn : n < 18446744073709551616) : PCall Try.prog 68 [U n] (I (unfoldS n)) := by
  refine PCall.mk (fun _ => false) Try.func68 rfl rfl rfl (Ent.mk Try.func68 (by kernel_rfl) rfl) (by simp) (by simp) fun hfit => ?_
  simp [Try.f68, unfoldS]
  try simp
  repeat' (first
    | ((first | refine Tst.go (fun hw_ ew_ => ?_) (fun hw_ ew_ => ?_)) <;> first | (exfalso; first | omega | with_reducible exact hw_ (by assumption) | with_reducible exact absurd hw_ (by assumption)) | (have nw_ := Nw.nw hw_; simp [ew_, nw_]) | simp [ew_])
    | ((first | rw [if_pos (by first | omega | (simp only [maxLen]; omega))] | rw [if_neg (by first | omega | (simp only [maxLen]; omega))] | rw [frzOwn_neat (by simp) (by simp <;> omega)] | rw [fzOwn_neat (by simp) (by simp <;> omega)]); try simp)
    | ((first | refine TstB.go (fun hw_ ew_ => ?_) (fun hw_ ew_ => ?_)) <;> first | (exfalso; first | omega | with_reducible exact hw_ (by assumption) | with_reducible exact absurd hw_ (by assumption)) | simp [ew_])
    | fail)
  all_goals (simp only [IntKind.wrap_i64]; omega)
  all_goals omega


theorem rtakeNum_ok (l : List UInt8) (hl : l.length ≤ 1099511627776) : PCall Try.prog 49 [S (T l)] (.tup [U (takeS l).1, S (T (takeS l).2.1), I (takeS l).2.2]) := by
  refine PCall.mk (fun _ => false) Try.func49 rfl rfl rfl (Ent.mk Try.func49 (by kernel_rfl) rfl) (by simp) (by simp) fun hfit => ?_
  simp [Try.f49]
  refine AW.loopG (lit := fun _ => false) (fun i : Nat => ⟨51, pat [(0, S (T l)), (5, I i)], []⟩) (fun i => 10 - i) (fun i => i ≤ l.length ∧ i < 10 ∧ (l.take i).all hi = true) 0 ?_ ?_ ?_
  · exact Wk.at _ rfl rfl (by simp)
  · simp
  rintro i ⟨h1, h2, h3⟩ A hA
  have hw2 : IntKind.i64.wrap ((i : Int) + 1) = ((i + 1 : Nat) : Int) := by rw [wrap_id (by omega) (by omega)]; omega
  simp [T_size]
  by_cases hi1 : i < l.length
  case neg =>
    have : l.take i = l := List.take_of_length_le (by omega)
    rw [this] at h3
    have e := takeS_all h3
    rw [if_neg (by omega)] at e
    have : i = l.length := by omega
    simp [hi1, e, this, T_size]
  have hb := byteAt_T l i hi1
  by_cases h128 : 128 ≤ (l[i]).toNat
  · have hall : (l.take (i + 1)).all hi = true := by
      rw [List.take_succ_eq_append_getElem hi1, List.all_append, h3]
      simp [hi, h128]
    by_cases h9 : i = 9
    · have e := takeS_many (r := l.drop (i + 1)) hall (by simp; omega)
      rw [List.take_append_drop] at e
      try simp [hb, T_size, hw2, e]
      repeat' (first
        | ((first | refine Tst.go (fun hw_ ew_ => ?_) (fun hw_ ew_ => ?_)) <;> first | (exfalso; first | omega | with_reducible exact hw_ (by assumption) | with_reducible exact absurd hw_ (by assumption)) | (have nw_ := Nw.nw hw_; simp [ew_, nw_, hb, T_size, hw2, e]) | simp [ew_, hb, T_size, hw2, e])
        | ((first | refine AW.draw (id := 13) Try.checked.mixed (fun _ => false) [] [] 7 (by kernel_rfl) ?_ | refine AW.draw (id := 15) Try.checked.mixed (fun _ => false) [] [] 8 (by kernel_rfl) ?_ | rw [if_pos (by first | omega | (simp only [maxLen]; omega))] | rw [if_neg (by first | omega | (simp only [maxLen]; omega))] | rw [frzOwn_neat (by simp) (by simp <;> omega)] | rw [fzOwn_neat (by simp) (by simp <;> omega)]); try simp [hb, T_size, hw2, e])
        | ((first | refine TstB.go (fun hw_ ew_ => ?_) (fun hw_ ew_ => ?_)) <;> first | (exfalso; first | omega | with_reducible exact hw_ (by assumption) | with_reducible exact absurd hw_ (by assumption)) | simp [ew_, hb, T_size, hw2, e])
        | fail)
    · try simp [hb, T_size, hw2]
      repeat' (first
        | ((first | refine Tst.go (fun hw_ ew_ => ?_) (fun hw_ ew_ => ?_)) <;> first | (exfalso; first | omega | with_reducible exact hw_ (by assumption) | with_reducible exact absurd hw_ (by assumption)) | (have nw_ := Nw.nw hw_; simp [ew_, nw_, hb, T_size, hw2]) | simp [ew_, hb, T_size, hw2])
        | (exact hA (i + 1) _ (Wk.at _ rfl (by simp) (by simp)) ⟨by omega, by omega, hall⟩ (by omega))
        | ((first | refine AW.draw (id := 13) Try.checked.mixed (fun _ => false) [] [] 7 (by kernel_rfl) ?_ | refine AW.draw (id := 15) Try.checked.mixed (fun _ => false) [] [] 8 (by kernel_rfl) ?_ | rw [if_pos (by first | omega | (simp only [maxLen]; omega))] | rw [if_neg (by first | omega | (simp only [maxLen]; omega))] | rw [frzOwn_neat (by simp) (by simp <;> omega)] | rw [fzOwn_neat (by simp) (by simp <;> omega)]); try simp [hb, T_size, hw2])
        | ((first | refine TstB.go (fun hw_ ew_ => ?_) (fun hw_ ew_ => ?_)) <;> first | (exfalso; first | omega | with_reducible exact hw_ (by assumption) | with_reducible exact absurd hw_ (by assumption)) | simp [ew_, hb, T_size, hw2])
        | fail)
  · have hvd : ∀ k (h : k < i + 1), valL ((l.take (i + 1)).drop k) = (l[k]'(Nat.lt_of_lt_of_le h hi1)).toNat % 128 + 128 * valL ((l.take (i + 1)).drop (k + 1)) := fun k h => by
      rw [valL_drop (l.take (i + 1)) k (by simp; omega)]; simp
    have e := takeS_at (r := l.drop (i + 1)) h3 (Nat.lt_of_not_le h128)
    have hlen : (l.take i).length = i := by simp; omega
    have hcan := canon h3 (Nat.lt_of_not_le h128) (by omega)
    have hcl := canon_lt (q := l.take i) (c := l[i]) (by omega)
    rw [← split_at l i hi1, hlen, if_neg (by omega)] at e
    rw [hlen] at hcan hcl
    rw [← List.take_succ_eq_append_getElem hi1] at hcan hcl e
    have hplen : (l.take (i + 1)).length = i + 1 := by simp; omega
    have hp0 : valL ((l.take (i + 1)).drop 0) = valL (l.take (i + 1)) := by simp
    have hpe : valL ((l.take (i + 1)).drop (i + 1)) = 0 := by rw [List.drop_eq_nil_of_le (by omega)]; rfl
    have w1 : ((i : Int) + 1).toNat = i + 1 := by omega
    have f1 : (T l).extract 0 (i + 1) = T (l.take (i + 1)) := by rw [T_ext]; simp
    have f2 : (T l).extract (i + 1) l.length = T (l.drop (i + 1)) := by rw [T_ext]; simp
    generalize hp : l.take (i + 1) = p at *
    try simp [hb, T_size, hw2]
    repeat' (first
      | ((first | refine Tst.go (fun hw_ ew_ => ?_) (fun hw_ ew_ => ?_)) <;> first | (exfalso; first | omega | with_reducible exact hw_ (by assumption) | with_reducible exact absurd hw_ (by assumption)) | (have nw_ := Nw.nw hw_; simp [ew_, nw_, hb, T_size, hw2]) | simp [ew_, hb, T_size, hw2])
      | ((first | refine AW.draw (id := 13) Try.checked.mixed (fun _ => false) [] [] 7 (by kernel_rfl) ?_ | refine AW.draw (id := 15) Try.checked.mixed (fun _ => false) [] [] 8 (by kernel_rfl) ?_ | rw [if_pos (by first | omega | (simp only [maxLen]; omega))] | rw [if_neg (by first | omega | (simp only [maxLen]; omega))] | rw [frzOwn_neat (by simp) (by simp <;> omega)] | rw [fzOwn_neat (by simp) (by simp <;> omega)]); try simp [hb, T_size, hw2])
      | ((first | refine TstB.go (fun hw_ ew_ => ?_) (fun hw_ ew_ => ?_)) <;> first | (exfalso; first | omega | with_reducible exact hw_ (by assumption) | with_reducible exact absurd hw_ (by assumption)) | simp [ew_, hb, T_size, hw2])
      | fail)
    refine AW.loopG (lit := fun _ => false) (fun j : Nat => ⟨51, pat [(0, S (T l)), (5, I i), (6, U ((valL (p.drop j) % 18446744073709551616 : Nat) : Int)), (7, I ((j : Int) - 1))], []⟩) (fun j => j) (fun j => j ≤ i + 1) (i + 1) ?_ ?_ ?_
    · exact Wk.at _ rfl rfl (by simp [hpe])
    · simp
    intro j hj A2 hA2
    cases j with
    | zero =>
      simp [hp0]
      by_cases q : (1 ≤ i ∧ (l[i]).toNat = 0) ∨ (i = 9 ∧ 1 < (l[i]).toNat)
      · rw [if_pos q] at e
        have hne : ¬ numL (valL p % 18446744073709551616) = p := fun h => (hcan.1 h) q
        try simp [f1, f2, T_size, e, hw2, w1, hne, T_inj]
        repeat' (first
          | ((first | refine Tst.go (fun hw_ ew_ => ?_) (fun hw_ ew_ => ?_)) <;> first | (exfalso; first | omega | with_reducible exact hw_ (by assumption) | with_reducible exact absurd hw_ (by assumption)) | (have nw_ := Nw.nw hw_; simp [ew_, nw_, f1, f2, T_size, e, hw2, w1, hne, T_inj]) | simp [ew_, f1, f2, T_size, e, hw2, w1, hne, T_inj])
          | ((first | (refine Pc.go (rnum_ok (valL p % 18446744073709551616) (by omega)) ?_ ?_; focus (first | rfl | (simp [f1, f2, T_size, e, hw2, w1, hne, T_inj]; done))) | refine AW.draw (id := 13) Try.checked.mixed (fun _ => false) [] [] 7 (by kernel_rfl) ?_ | refine AW.draw (id := 15) Try.checked.mixed (fun _ => false) [] [] 8 (by kernel_rfl) ?_ | rw [if_pos (by first | omega | (simp only [maxLen]; omega))] | rw [if_neg (by first | omega | (simp only [maxLen]; omega))] | rw [frzOwn_neat (by simp) (by simp <;> omega)] | rw [fzOwn_neat (by simp) (by simp <;> omega)]); try simp [f1, f2, T_size, e, hw2, w1, hne, T_inj])
          | ((first | refine TstB.go (fun hw_ ew_ => ?_) (fun hw_ ew_ => ?_)) <;> first | (exfalso; first | omega | with_reducible exact hw_ (by assumption) | with_reducible exact absurd hw_ (by assumption)) | simp [ew_, f1, f2, T_size, e, hw2, w1, hne, T_inj])
          | fail)
      · rw [if_neg q] at e
        have heq := hcan.2 q
        have hcl := hcl q
        rw [hcl] at heq
        have hclI : (valL p : Int) % 18446744073709551616 = (valL p : Int) := by omega
        try simp [f1, f2, T_size, e, hw2, w1, heq, T_inj, hclI]
        repeat' (first
          | ((first | refine Tst.go (fun hw_ ew_ => ?_) (fun hw_ ew_ => ?_)) <;> first | (exfalso; first | omega | with_reducible exact hw_ (by assumption) | with_reducible exact absurd hw_ (by assumption)) | (have nw_ := Nw.nw hw_; simp [ew_, nw_, f1, f2, T_size, e, hw2, w1, heq, T_inj, hclI]) | simp [ew_, f1, f2, T_size, e, hw2, w1, heq, T_inj, hclI])
          | ((first | (refine Pc.go (rnum_ok (valL p) (by omega)) ?_ ?_; focus (first | rfl | (simp [f1, f2, T_size, e, hw2, w1, heq, T_inj, hclI]; done))) | refine AW.draw (id := 13) Try.checked.mixed (fun _ => false) [] [] 7 (by kernel_rfl) ?_ | refine AW.draw (id := 15) Try.checked.mixed (fun _ => false) [] [] 8 (by kernel_rfl) ?_ | rw [if_pos (by first | omega | (simp only [maxLen]; omega))] | rw [if_neg (by first | omega | (simp only [maxLen]; omega))] | rw [frzOwn_neat (by simp) (by simp <;> omega)] | rw [fzOwn_neat (by simp) (by simp <;> omega)]); try simp [f1, f2, T_size, e, hw2, w1, heq, T_inj, hclI])
          | ((first | refine TstB.go (fun hw_ ew_ => ?_) (fun hw_ ew_ => ?_)) <;> first | (exfalso; first | omega | with_reducible exact hw_ (by assumption) | with_reducible exact absurd hw_ (by assumption)) | simp [ew_, f1, f2, T_size, e, hw2, w1, heq, T_inj, hclI])
          | fail)
    | succ j =>
      have hjl : j < l.length := by omega
      have hbj := byteAt_T l j hjl
      have hw3 : IntKind.i64.wrap ((j : Int) - 1) = (j : Int) - 1 := wrap_id (by omega) (by omega)
      have hv := hvd j (by omega)
      have hc := (l[j]).toNat_lt
      have hn : (128 * ((valL (p.drop (j + 1)) : Int) % 18446744073709551616) % 18446744073709551616 + ((l[j]).toNat : Int) % 128 % 18446744073709551616) % 18446744073709551616 = (valL (p.drop j) : Int) % 18446744073709551616 := by
        rw [hv]; omega
      try simp [hbj, T_size, hw3, hn]
      repeat' (first
        | ((first | refine Tst.go (fun hw_ ew_ => ?_) (fun hw_ ew_ => ?_)) <;> first | (exfalso; first | omega | with_reducible exact hw_ (by assumption) | with_reducible exact absurd hw_ (by assumption)) | (have nw_ := Nw.nw hw_; simp [ew_, nw_, hbj, T_size, hw3, hn]) | simp [ew_, hbj, T_size, hw3, hn])
        | (exact hA2 j _ (Wk.at _ rfl (by simp) (by simp)) (by omega) (by omega))
        | ((first | refine AW.draw (id := 13) Try.checked.mixed (fun _ => false) [] [] 7 (by kernel_rfl) ?_ | refine AW.draw (id := 15) Try.checked.mixed (fun _ => false) [] [] 8 (by kernel_rfl) ?_ | rw [if_pos (by first | omega | (simp only [maxLen]; omega))] | rw [if_neg (by first | omega | (simp only [maxLen]; omega))] | rw [frzOwn_neat (by simp) (by simp <;> omega)] | rw [fzOwn_neat (by simp) (by simp <;> omega)]); try simp [hbj, T_size, hw3, hn])
        | ((first | refine TstB.go (fun hw_ ew_ => ?_) (fun hw_ ew_ => ?_)) <;> first | (exfalso; first | omega | with_reducible exact hw_ (by assumption) | with_reducible exact absurd hw_ (by assumption)) | simp [ew_, hbj, T_size, hw3, hn])
        | fail)

end Go.Proofs.Ytpbjeabigckijaa

