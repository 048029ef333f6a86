/- Rows' text, by the document; numbers, taken one by one. -/
import Derived.Test.YtpbjeabigckijaaTabL
set_option linter.unusedVariables false
set_option linter.unusedSimpArgs false
namespace Go.Proofs.Ytpbjeabigckijaa
open Go.Cx Tab
set_option maxHeartbeats 400000
set_option maxRecDepth 40000

theorem rwhole14_ok (k : Int) (hk : inI k) : PCall Try.prog 55 [I k] (S (T (whl k))) := by
  refine PCall.mk (fun _ => false) Try.func55 rfl rfl rfl (Ent.mk Try.func55 (by kernel_rfl) rfl) (by simp) (by simp) fun hfit => ?_
  simp [Try.f55]
  try simp
  repeat' (first
    | ((first | refine Tst.go (fun hw_ ew_ => ?_) (fun hw_ ew_ => ?_)) <;> first | (exfalso; first | omega | with_reducible exact hw_ (by assumption) | with_reducible exact absurd hw_ (by assumption)) | (have nw_ := Nw.nw hw_; simp [ew_, nw_]) | simp [ew_])
    | ((first | (refine Pc.go (rfold_ok k hk) ?_ ?_; focus (first | rfl | (simp; done))) | (refine Pc.go (rnum_ok (foldS k) (foldS_lt hk)) ?_ ?_; focus (first | rfl | (simp; done))) | rw [if_pos (by first | omega | (simp only [maxLen]; omega))] | rw [if_neg (by first | omega | (simp only [maxLen]; omega))] | rw [frzOwn_neat (by simp) (by simp <;> omega)] | rw [fzOwn_neat (by simp) (by simp <;> omega)]); try simp)
    | ((first | refine TstB.go (fun hw_ ew_ => ?_) (fun hw_ ew_ => ?_)) <;> first | (exfalso; first | omega | with_reducible exact hw_ (by assumption) | with_reducible exact absurd hw_ (by assumption)) | simp [ew_])
    | fail)
theorem rtext14_ok (l : List RowR) (hw : ∀ r ∈ l, RowW r) (hlen : (rowsL l).length ≤ 1000000000000) : PCall Try.prog 25 [encL RowR.enc l] (S (T (rowsL l))) := by
  refine PCall.mk (fun _ => false) Try.func25 rfl rfl rfl (Ent.mk Try.func25 (by kernel_rfl) rfl) (by simp) (by simp) fun hfit => ?_
  simp at hfit
  have hll := maxLen_lt hfit.1
  have hL : (rowsL l).length = (numL l.length).length + (l.flatMap rowL).length := by simp [rowsL]
  simp [Try.f25]
  have e : (l.length : Int) % 18446744073709551616 = (l.length : Int) := by omega
  try simp [e]
  repeat' (first
    | ((first | refine Tst.go (fun hw_ ew_ => ?_) (fun hw_ ew_ => ?_)) <;> first | (exfalso; first | omega | with_reducible exact hw_ (by assumption) | with_reducible exact absurd hw_ (by assumption)) | (have nw_ := Nw.nw hw_; simp [ew_, nw_, e]) | simp [ew_, e])
    | ((first | (refine Pc.go (rnum_ok l.length (by omega)) ?_ ?_; focus (first | rfl | (simp [e]; done))) | refine AW.draw (id := 5) Try.checked.mixed (fun _ => false) [] [] 31 (by kernel_rfl) ?_ | rw [if_pos (by first | omega | (simp only [maxLen]; omega))] | rw [if_neg (by first | omega | (simp only [maxLen]; omega))] | rw [frzOwn_neat (by simp) (by simp <;> omega)] | rw [fzOwn_neat (by simp) (by simp <;> omega)]); try simp [e])
    | ((first | refine TstB.go (fun hw_ ew_ => ?_) (fun hw_ ew_ => ?_)) <;> first | (exfalso; first | omega | with_reducible exact hw_ (by assumption) | with_reducible exact absurd hw_ (by assumption)) | simp [ew_, e])
    | fail)
  refine AW.loopG (lit := fun _ => false) (fun i : Nat => ⟨85, pat [(0, encL RowR.enc l), (3, S (T (numL l.length ++ (l.take i).flatMap rowL))), (4, I i)], []⟩) (fun i => l.length - i) (fun i => i ≤ l.length) 0 ?_ ?_ ?_
  · exact Wk.at _ rfl (by simp) (by simp)
  · simp
  rintro i h1 A hA
  by_cases hi : i < l.length
  case neg =>
    have ht : l.take i = l := List.take_of_length_le (by omega)
    try simp [hi, ht, rowsL]
    repeat' (first
      | ((first | refine Tst.go (fun hw_ ew_ => ?_) (fun hw_ ew_ => ?_)) <;> first | (exfalso; first | omega | with_reducible exact hw_ (by assumption) | with_reducible exact absurd hw_ (by assumption)) | (have nw_ := Nw.nw hw_; simp [ew_, nw_, hi, ht, rowsL]) | simp [ew_, hi, ht, rowsL])
      | ((first | refine AW.draw (id := 5) Try.checked.mixed (fun _ => false) [] [] 31 (by kernel_rfl) ?_ | rw [if_pos (by first | omega | (simp only [maxLen]; omega))] | rw [if_neg (by first | omega | (simp only [maxLen]; omega))] | rw [frzOwn_neat (by simp) (by simp <;> omega)] | rw [fzOwn_neat (by simp) (by simp <;> omega)]); try simp [hi, ht, rowsL])
      | ((first | refine TstB.go (fun hw_ ew_ => ?_) (fun hw_ ew_ => ?_)) <;> first | (exfalso; first | omega | with_reducible exact hw_ (by assumption) | with_reducible exact absurd hw_ (by assumption)) | simp [ew_, hi, ht, rowsL])
      | fail)
  have hwi := wrap_nat hi hfit.1
  have t1 := take_le rowL l hi
  have t2 := take_one rowL l hi
  obtain ⟨w1, w2, w3, w4⟩ := hw _ (List.getElem_mem hi)
  have hr : rowL l[i] = whl l[i].client ++ whl l[i].epoch ++ whl l[i].done ++ numL l[i].l.length ++ l[i].l.flatMap decL := rfl
  have hrl := congrArg List.length hr
  simp only [List.length_append] at hrl
  generalize hp : numL l.length ++ (l.take i).flatMap rowL = p at *
  have hpl : p.length + (rowL l[i]).length ≤ 1000000000000 := by rw [← hp, List.length_append]; omega
  have hdl := len_le decL (fun d => by simp only [decL, whl, List.length_append]; have := numL_pos (foldS d.seq); omega) l[i].l
  have e2 : (l[i].l.length : Int) % 18446744073709551616 = (l[i].l.length : Int) := by omega
  try simp [hi, RowR.enc, e2, T_size, T_app]
  repeat' (first
    | ((first | refine Tst.go (fun hw_ ew_ => ?_) (fun hw_ ew_ => ?_)) <;> first | (exfalso; first | omega | with_reducible exact hw_ (by assumption) | with_reducible exact absurd hw_ (by assumption)) | (have nw_ := Nw.nw hw_; simp [ew_, nw_, hi, RowR.enc, e2, T_size, T_app]) | simp [ew_, hi, RowR.enc, e2, T_size, T_app])
    | ((first | (refine Pc.go (rnum_ok l[i].l.length (by omega)) ?_ ?_; focus (first | rfl | (simp [hi, RowR.enc, e2, T_size, T_app]; done))) | (refine Pc.go (rwhole14_ok l[i].client w1) ?_ ?_; focus (first | rfl | (simp [hi, RowR.enc, e2, T_size, T_app]; done))) | (refine Pc.go (rwhole14_ok l[i].epoch w2) ?_ ?_; focus (first | rfl | (simp [hi, RowR.enc, e2, T_size, T_app]; done))) | (refine Pc.go (rwhole14_ok l[i].done w3) ?_ ?_; focus (first | rfl | (simp [hi, RowR.enc, e2, T_size, T_app]; done))) | refine AW.draw (id := 5) Try.checked.mixed (fun _ => false) [] [] 31 (by kernel_rfl) ?_ | rw [if_pos (by first | omega | (simp only [maxLen]; omega))] | rw [if_neg (by first | omega | (simp only [maxLen]; omega))] | rw [frzOwn_neat (by simp) (by simp <;> omega)] | rw [fzOwn_neat (by simp) (by simp <;> omega)]); try simp [hi, RowR.enc, e2, T_size, T_app])
    | ((first | refine TstB.go (fun hw_ ew_ => ?_) (fun hw_ ew_ => ?_)) <;> first | (exfalso; first | omega | with_reducible exact hw_ (by assumption) | with_reducible exact absurd hw_ (by assumption)) | simp [ew_, hi, RowR.enc, e2, T_size, T_app])
    | fail)
  refine AW.loopG (lit := fun _ => false) (fun j : Nat => ⟨85, pat [(0, encL RowR.enc l), (3, S (T (p ++ whl l[i].client ++ whl l[i].epoch ++ whl l[i].done ++ numL l[i].l.length ++ (l[i].l.take j).flatMap decL))), (4, I i), (5, I j)], []⟩) (fun j => l[i].l.length - j) (fun j => j ≤ l[i].l.length) 0 ?_ ?_ ?_
  · exact Wk.at _ rfl (by simp) (by simp)
  · simp
  rintro j g1 A2 hA2
  by_cases hj : j < l[i].l.length
  case neg =>
    have ht : l[i].l.take j = l[i].l := List.take_of_length_le (by omega)
    try simp [hi, RowR.enc, hj, ht, hwi]
    repeat' (first
      | ((first | refine Tst.go (fun hw_ ew_ => ?_) (fun hw_ ew_ => ?_)) <;> first | (exfalso; first | omega | with_reducible exact hw_ (by assumption) | with_reducible exact absurd hw_ (by assumption)) | (have nw_ := Nw.nw hw_; simp [ew_, nw_, hi, RowR.enc, hj, ht, hwi]) | simp [ew_, hi, RowR.enc, hj, ht, hwi])
      | (exact hA (i + 1) _ (Wk.at _ rfl (by simp [t2, ← hp, hr]) (by simp [t2, ← hp, hr])) hi (by omega))
      | ((first | refine AW.draw (id := 5) Try.checked.mixed (fun _ => false) [] [] 31 (by kernel_rfl) ?_ | rw [if_pos (by first | omega | (simp only [maxLen]; omega))] | rw [if_neg (by first | omega | (simp only [maxLen]; omega))] | rw [frzOwn_neat (by simp) (by simp <;> omega)] | rw [fzOwn_neat (by simp) (by simp <;> omega)]); try simp [hi, RowR.enc, hj, ht, hwi])
      | ((first | refine TstB.go (fun hw_ ew_ => ?_) (fun hw_ ew_ => ?_)) <;> first | (exfalso; first | omega | with_reducible exact hw_ (by assumption) | with_reducible exact absurd hw_ (by assumption)) | simp [ew_, hi, RowR.enc, hj, ht, hwi])
      | fail)
  have hwj := wrap_nat hj (by simp only [maxLen]; omega)
  have s1 := take_le decL l[i].l hj
  have s2 := take_one decL l[i].l hj
  have v1 := w4 _ (List.getElem_mem hj)
  have hdc : decL l[i].l[j] = whl l[i].l[j].seq ++ numL (if l[i].l[j].yes then 1 else 0) := rfl
  have hdl2 := congrArg List.length hdc
  simp only [List.length_append] at hdl2
  generalize hq : p ++ whl l[i].client ++ whl l[i].epoch ++ whl l[i].done ++ numL l[i].l.length ++ (l[i].l.take j).flatMap decL = u at *
  have hul : u.length + (decL l[i].l[j]).length ≤ 1000000000000 := by rw [← hq]; simp only [List.length_append]; omega
  cases hy : l[i].l[j].yes with
  | true =>
    rw [hy] at hdc hdl2
    simp only [if_true] at hdc hdl2
    have b1 := rnum_ok 1 (by omega)
    try simp [hi, RowR.enc, hj, hwj, hy, DecisionR.enc, T_size, T_app]
    repeat' (first
      | ((first | refine Tst.go (fun hw_ ew_ => ?_) (fun hw_ ew_ => ?_)) <;> first | (exfalso; first | omega | with_reducible exact hw_ (by assumption) | with_reducible exact absurd hw_ (by assumption)) | (have nw_ := Nw.nw hw_; simp [ew_, nw_, hi, RowR.enc, hj, hwj, hy, DecisionR.enc, T_size, T_app]) | simp [ew_, hi, RowR.enc, hj, hwj, hy, DecisionR.enc, T_size, T_app])
      | (exact hA2 (j + 1) _ (Wk.at _ rfl (by simp [s2, ← hq, hdc]) (by simp [s2, ← hq, hdc])) hj (by omega))
      | ((first | (refine Pc.go (rwhole14_ok l[i].l[j].seq v1) ?_ ?_; focus (first | rfl | (simp [hi, RowR.enc, hj, hwj, hy, DecisionR.enc, T_size, T_app]; done))) | (refine Pc.go (b1) ?_ ?_; focus (first | rfl | (simp [hi, RowR.enc, hj, hwj, hy, DecisionR.enc, T_size, T_app]; done))) | refine AW.draw (id := 5) Try.checked.mixed (fun _ => false) [] [] 31 (by kernel_rfl) ?_ | rw [if_pos (by first | omega | (simp only [maxLen]; omega))] | rw [if_neg (by first | omega | (simp only [maxLen]; omega))] | rw [frzOwn_neat (by simp) (by simp <;> omega)] | rw [fzOwn_neat (by simp) (by simp <;> omega)]); try simp [hi, RowR.enc, hj, hwj, hy, DecisionR.enc, T_size, T_app])
      | ((first | refine TstB.go (fun hw_ ew_ => ?_) (fun hw_ ew_ => ?_)) <;> first | (exfalso; first | omega | with_reducible exact hw_ (by assumption) | with_reducible exact absurd hw_ (by assumption)) | simp [ew_, hi, RowR.enc, hj, hwj, hy, DecisionR.enc, T_size, T_app])
      | fail)
  | false =>
    rw [hy] at hdc hdl2
    simp only [Bool.false_eq_true, if_false] at hdc hdl2
    have b0 := rnum_ok 0 (by omega)
    try simp [hi, RowR.enc, hj, hwj, hy, DecisionR.enc, T_size, T_app]
    repeat' (first
      | ((first | refine Tst.go (fun hw_ ew_ => ?_) (fun hw_ ew_ => ?_)) <;> first | (exfalso; first | omega | with_reducible exact hw_ (by assumption) | with_reducible exact absurd hw_ (by assumption)) | (have nw_ := Nw.nw hw_; simp [ew_, nw_, hi, RowR.enc, hj, hwj, hy, DecisionR.enc, T_size, T_app]) | simp [ew_, hi, RowR.enc, hj, hwj, hy, DecisionR.enc, T_size, T_app])
      | (exact hA2 (j + 1) _ (Wk.at _ rfl (by simp [s2, ← hq, hdc]) (by simp [s2, ← hq, hdc])) hj (by omega))
      | ((first | (refine Pc.go (rwhole14_ok l[i].l[j].seq v1) ?_ ?_; focus (first | rfl | (simp [hi, RowR.enc, hj, hwj, hy, DecisionR.enc, T_size, T_app]; done))) | (refine Pc.go (b0) ?_ ?_; focus (first | rfl | (simp [hi, RowR.enc, hj, hwj, hy, DecisionR.enc, T_size, T_app]; done))) | refine AW.draw (id := 5) Try.checked.mixed (fun _ => false) [] [] 31 (by kernel_rfl) ?_ | rw [if_pos (by first | omega | (simp only [maxLen]; omega))] | rw [if_neg (by first | omega | (simp only [maxLen]; omega))] | rw [frzOwn_neat (by simp) (by simp <;> omega)] | rw [fzOwn_neat (by simp) (by simp <;> omega)]); try simp [hi, RowR.enc, hj, hwj, hy, DecisionR.enc, T_size, T_app])
      | ((first | refine TstB.go (fun hw_ ew_ => ?_) (fun hw_ ew_ => ?_)) <;> first | (exfalso; first | omega | with_reducible exact hw_ (by assumption) | with_reducible exact absurd hw_ (by assumption)) | simp [ew_, hi, RowR.enc, hj, hwj, hy, DecisionR.enc, T_size, T_app])
      | fail)
end Go.Proofs.Ytpbjeabigckijaa
