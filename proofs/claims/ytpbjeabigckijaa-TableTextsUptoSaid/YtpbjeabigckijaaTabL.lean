/- Rows' text. -/
import Derived.Test.YtpbjeabigckijaaRef0114
import Derived.Test.YtpbjeabigckijaaOctW14
import Derived.Test.YtpbjeabigckijaaTabE
import Derived.Test.YtpbjeabigckijaaBf
set_option linter.unusedVariables false
set_option linter.unusedSimpArgs false
namespace Go.Proofs.Ytpbjeabigckijaa
open Go.Cx Tab
set_option maxHeartbeats 400000
set_option maxRecDepth 40000

def decL (d : DecisionR) : List UInt8 := whl d.seq ++ numL (if d.yes then 1 else 0)
def rowL (r : RowR) : List UInt8 := whl r.client ++ whl r.epoch ++ whl r.done ++ numL r.l.length ++ r.l.flatMap decL
def rowsL (l : List RowR) : List UInt8 := numL l.length ++ l.flatMap rowL
theorem tput_ok (ver : Nat) (s : List UInt8) (ks : List Int) (hk : ∀ k ∈ ks, inI k) (hs : s.length + (ks.flatMap whl).length ≤ 1099511627776) (hl : ks.length ≤ 3) : HCall Try.prog 52 [.sl true ks.length (ks.map I), .ptr 0 ver 0] [.cells ver [S (T s)]] (.tup []) [.cells ver [S (T (s ++ ks.flatMap whl))]] := by
  refine HCall.mk' (fun _ => false) Try.func52 rfl rfl rfl (Ent.mk Try.func52 (by kernel_rfl) rfl) (by simp) (by simp) (by simp) (by simp) (by simp) fun hfit => ?_
  simp [Try.f52]
  refine AW.loopG (lit := fun _ => false) (fun i : Nat => ⟨17, pat [(1, .ptr 0 ver 0), (5, .sl true ks.length (ks.map I)), (6, I ks.length), (7, I i)], [.cells ver [S (T (s ++ (ks.take i).flatMap whl))]]⟩) (fun i => ks.length - i) (fun i => i ≤ ks.length) 0 ?_ ?_ ?_
  · exact Wk.at _ rfl (by simp) (by simp)
  · simp
  rintro i h1 A hA
  by_cases hi : i < ks.length
  case neg =>
    have ht : ks.take i = ks := List.take_of_length_le (by omega)
    try simp [hi, ht]
    repeat' (first
      | ((first | refine Tst.go (fun hw_ ew_ => ?_) (fun hw_ ew_ => ?_)) <;> first | (exfalso; first | omega | with_reducible exact hw_ (by assumption) | with_reducible exact absurd hw_ (by assumption)) | (have nw_ := Nw.nw hw_; simp [ew_, nw_, hi, ht]) | simp [ew_, hi, ht])
      | ((first | refine AW.draw (id := 3) Try.checked.mixed (fun _ => false) [] [] 5 (by kernel_rfl) ?_ | rw [if_pos (by first | omega | (simp only [maxLen]; omega))] | rw [if_neg (by first | omega | (simp only [maxLen]; omega))] | rw [frzOwn_neat (by simp) (by simp <;> omega)] | rw [fzOwn_neat (by simp) (by simp <;> omega)]); try simp [hi, ht])
      | ((first | refine TstB.go (fun hw_ ew_ => ?_) (fun hw_ ew_ => ?_)) <;> first | (exfalso; first | omega | with_reducible exact hw_ (by assumption) | with_reducible exact absurd hw_ (by assumption)) | simp [ew_, hi, ht])
      | fail)
  have hw := wrap_nat hi (by simp only [maxLen]; omega)
  have hki := hk ks[i] (List.getElem_mem hi)
  have h10 := numL_10 (foldS_lt hki)
  have htk : (ks.take (i + 1)).flatMap whl = (ks.take i).flatMap whl ++ whl ks[i] := by rw [List.take_succ_eq_append_getElem hi, List.flatMap_append]; simp
  have hlen : ((ks.take (i + 1)).flatMap whl).length ≤ (ks.flatMap whl).length := by
    conv => rhs; rw [← List.take_append_drop (i + 1) ks, List.flatMap_append, List.length_append]
    omega
  rw [htk, List.length_append] at hlen
  generalize hp : (ks.take i).flatMap whl = p at *
  try simp [hi, hw, T_size, T_app]
  repeat' (first
    | ((first | refine Tst.go (fun hw_ ew_ => ?_) (fun hw_ ew_ => ?_)) <;> first | (exfalso; first | omega | with_reducible exact hw_ (by assumption) | with_reducible exact absurd hw_ (by assumption)) | (have nw_ := Nw.nw hw_; simp [ew_, nw_, hi, hw, T_size, T_app]) | simp [ew_, hi, hw, T_size, T_app])
    | (exact hA (i + 1) _ (Wk.at _ rfl (by simp [htk]) (by simp)) hi (by omega))
    | ((first | (refine Pc.go (fold_ok ks[i] hki) ?_ ?_; focus (first | rfl | (simp [hi, hw, T_size, T_app]; done))) | (refine Pc.go (num_ok (foldS ks[i]) (foldS_lt hki)) ?_ ?_; focus (first | rfl | (simp [hi, hw, T_size, T_app]; done))) | refine AW.draw (id := 3) Try.checked.mixed (fun _ => false) [] [] 5 (by kernel_rfl) ?_ | rw [if_pos (by first | omega | (simp only [maxLen]; omega))] | rw [if_neg (by first | omega | (simp only [maxLen]; omega))] | rw [frzOwn_neat (by simp) (by simp <;> omega)] | rw [fzOwn_neat (by simp) (by simp <;> omega)]); try simp [hi, hw, T_size, T_app])
    | ((first | refine TstB.go (fun hw_ ew_ => ?_) (fun hw_ ew_ => ?_)) <;> first | (exfalso; first | omega | with_reducible exact hw_ (by assumption) | with_reducible exact absurd hw_ (by assumption)) | simp [ew_, hi, hw, T_size, T_app])
    | fail)
def RowW (r : RowR) : Prop := inI r.client ∧ inI r.epoch ∧ inI r.done ∧ ∀ d ∈ r.l, inI d.seq
theorem take_le {α : Type} (f : α → List UInt8) (l : List α) {i : Nat} (hi : i < l.length) : ((l.take i).flatMap f).length + (f l[i]).length ≤ (l.flatMap f).length := by
  have e1 : l = l.take i ++ l[i] :: l.drop (i + 1) := by rw [← List.drop_eq_getElem_cons hi, List.take_append_drop]
  have e2 := congrArg (fun l => (l.flatMap f).length) e1
  simp only [List.flatMap_append, List.flatMap_cons, List.length_append] at e2
  omega
theorem take_one {α : Type} (f : α → List UInt8) (l : List α) {i : Nat} (hi : i < l.length) : (l.take (i + 1)).flatMap f = (l.take i).flatMap f ++ f l[i] := by
  rw [List.take_succ_eq_append_getElem hi, List.flatMap_append]; simp
theorem len_le {α : Type} (f : α → List UInt8) (hf : ∀ x, 1 ≤ (f x).length) : ∀ l : List α, l.length ≤ (l.flatMap f).length
  | [] => by simp
  | x :: l => by have := len_le f hf l; have := hf x; simp only [List.flatMap_cons, List.length_append, List.length_cons]; omega
theorem ttext_ok (l : List RowR) (hw : ∀ r ∈ l, RowW r) (hlen : (rowsL l).length ≤ 1000000000000) : PCall Try.prog 24 [encL RowR.enc l] (S (T (rowsL l))) := by
  refine PCall.mk (fun _ => false) Try.func24 rfl rfl rfl (Ent.mk Try.func24 (by kernel_rfl) rfl) (by simp) (by simp) fun hfit => ?_
  simp at hfit
  have hll := maxLen_lt hfit.1
  have hL : (rowsL l).length = (numL l.length).length + (l.flatMap rowL).length := by simp [rowsL]
  simp [Try.f24]
  have e : (l.length : Int) % 18446744073709551616 = (l.length : Int) := by omega
  try simp [e]
  repeat' (first
    | ((first | refine Tst.go (fun hw_ ew_ => ?_) (fun hw_ ew_ => ?_)) <;> first | (exfalso; first | omega | with_reducible exact hw_ (by assumption) | with_reducible exact absurd hw_ (by assumption)) | (have nw_ := Nw.nw hw_; simp [ew_, nw_, e]) | simp [ew_, e])
    | ((first | (refine Pc.go (num_ok l.length (by omega)) ?_ ?_; focus (first | rfl | (simp [e]; done))) | refine AW.draw (id := 7) Try.checked.mixed (fun _ => false) [] [] 7 (by kernel_rfl) ?_ | refine AW.draw (id := 15) Try.checked.mixed (fun _ => false) [] [] 4 (by kernel_rfl) ?_ | rw [if_pos (by first | omega | (simp only [maxLen]; omega))] | rw [if_neg (by first | omega | (simp only [maxLen]; omega))] | rw [frzOwn_neat (by simp) (by simp <;> omega)] | rw [fzOwn_neat (by simp) (by simp <;> omega)]); try simp [e])
    | ((first | refine TstB.go (fun hw_ ew_ => ?_) (fun hw_ ew_ => ?_)) <;> first | (exfalso; first | omega | with_reducible exact hw_ (by assumption) | with_reducible exact absurd hw_ (by assumption)) | simp [ew_, e])
    | fail)
  refine AW.loopG (lit := fun _ => false) (fun i : Nat => ⟨58, pat [(3, .ptr 0 0 0), (4, .fn 52 [.ptr 0 0 0]), (15, encL RowR.enc l), (16, I l.length), (17, I i)], [.cells 0 [S (T (numL l.length ++ (l.take i).flatMap rowL))]]⟩) (fun i => l.length - i) (fun i => i ≤ l.length) 0 ?_ ?_ ?_
  · exact Wk.at _ rfl (by simp) (by simp)
  · simp
  rintro i h1 A hA
  by_cases hi : i < l.length
  case neg =>
    have ht : l.take i = l := List.take_of_length_le (by omega)
    try simp [hi, ht, rowsL]
    repeat' (first
      | ((first | refine Tst.go (fun hw_ ew_ => ?_) (fun hw_ ew_ => ?_)) <;> first | (exfalso; first | omega | with_reducible exact hw_ (by assumption) | with_reducible exact absurd hw_ (by assumption)) | (have nw_ := Nw.nw hw_; simp [ew_, nw_, hi, ht, rowsL]) | simp [ew_, hi, ht, rowsL])
      | ((first | refine AW.draw (id := 7) Try.checked.mixed (fun _ => false) [] [] 7 (by kernel_rfl) ?_ | refine AW.draw (id := 15) Try.checked.mixed (fun _ => false) [] [] 4 (by kernel_rfl) ?_ | rw [if_pos (by first | omega | (simp only [maxLen]; omega))] | rw [if_neg (by first | omega | (simp only [maxLen]; omega))] | rw [frzOwn_neat (by simp) (by simp <;> omega)] | rw [fzOwn_neat (by simp) (by simp <;> omega)]); try simp [hi, ht, rowsL])
      | ((first | refine TstB.go (fun hw_ ew_ => ?_) (fun hw_ ew_ => ?_)) <;> first | (exfalso; first | omega | with_reducible exact hw_ (by assumption) | with_reducible exact absurd hw_ (by assumption)) | simp [ew_, hi, ht, rowsL])
      | fail)
  have hwi := wrap_nat hi hfit.1
  have t1 := take_le rowL l hi
  have t2 := take_one rowL l hi
  obtain ⟨w1, w2, w3, w4⟩ := hw _ (List.getElem_mem hi)
  have hr : rowL l[i] = whl l[i].client ++ whl l[i].epoch ++ whl l[i].done ++ numL l[i].l.length ++ l[i].l.flatMap decL := rfl
  have hrl := congrArg List.length hr
  simp only [List.length_append] at hrl
  generalize hp : numL l.length ++ (l.take i).flatMap rowL = p at *
  have hpl : p.length + (rowL l[i]).length ≤ 1000000000000 := by rw [← hp, List.length_append]; omega
  have hput := tput_ok 0 p [l[i].client, l[i].epoch, l[i].done] (by simp [w1, w2, w3]) (by simp; omega) (by simp)
  simp only [List.length_cons, List.length_nil, List.map_cons, List.map_nil, List.flatMap_cons, List.flatMap_nil, List.append_nil] at hput
  have hdl := len_le decL (fun d => by simp only [decL, whl, List.length_append]; have := numL_pos (foldS d.seq); omega) l[i].l
  have e2 : (l[i].l.length : Int) % 18446744073709551616 = (l[i].l.length : Int) := by omega
  try simp [hi, RowR.enc, e2, T_size, T_app]
  repeat' (first
    | ((first | refine Tst.go (fun hw_ ew_ => ?_) (fun hw_ ew_ => ?_)) <;> first | (exfalso; first | omega | with_reducible exact hw_ (by assumption) | with_reducible exact absurd hw_ (by assumption)) | (have nw_ := Nw.nw hw_; simp [ew_, nw_, hi, RowR.enc, e2, T_size, T_app]) | simp [ew_, hi, RowR.enc, e2, T_size, T_app])
    | (refine AInv.heap [0] hput (by simp) (by simp) ?_; simp [e2, T_size, T_app])
    | ((first | (refine Pc.go (num_ok l[i].l.length (by omega)) ?_ ?_; focus (first | rfl | (simp [hi, RowR.enc, e2, T_size, T_app]; done))) | refine AW.draw (id := 7) Try.checked.mixed (fun _ => false) [] [] 7 (by kernel_rfl) ?_ | refine AW.draw (id := 15) Try.checked.mixed (fun _ => false) [] [] 4 (by kernel_rfl) ?_ | rw [if_pos (by first | omega | (simp only [maxLen]; omega))] | rw [if_neg (by first | omega | (simp only [maxLen]; omega))] | rw [frzOwn_neat (by simp) (by simp <;> omega)] | rw [fzOwn_neat (by simp) (by simp <;> omega)]); try simp [hi, RowR.enc, e2, T_size, T_app])
    | ((first | refine TstB.go (fun hw_ ew_ => ?_) (fun hw_ ew_ => ?_)) <;> first | (exfalso; first | omega | with_reducible exact hw_ (by assumption) | with_reducible exact absurd hw_ (by assumption)) | simp [ew_, hi, RowR.enc, e2, T_size, T_app])
    | fail)
  generalize hh : p ++ (whl l[i].client ++ (whl l[i].epoch ++ whl l[i].done)) ++ numL l[i].l.length = hd at *
  refine AW.loopG (lit := fun _ => false) (fun j : Nat => ⟨58, pat [(3, .ptr 0 0 0), (4, .fn 52 [.ptr 0 0 0]), (15, encL RowR.enc l), (16, I l.length), (17, I i), (38, encL DecisionR.enc l[i].l), (39, I l[i].l.length), (40, I j)], [.cells 0 [S (T (p ++ whl l[i].client ++ whl l[i].epoch ++ whl l[i].done ++ numL l[i].l.length ++ (l[i].l.take j).flatMap decL))]]⟩) (fun j => l[i].l.length - j) (fun j => j ≤ l[i].l.length) 0 ?_ ?_ ?_
  · exact Wk.cutAt _ rfl (by simp) (by simp) (by simp) (by simp)
  · simp
  rintro j g1 A2 hA2
  by_cases hj : j < l[i].l.length
  case neg =>
    have ht : l[i].l.take j = l[i].l := List.take_of_length_le (by omega)
    try simp [hj, ht, hwi]
    repeat' (first
      | ((first | refine Tst.go (fun hw_ ew_ => ?_) (fun hw_ ew_ => ?_)) <;> first | (exfalso; first | omega | with_reducible exact hw_ (by assumption) | with_reducible exact absurd hw_ (by assumption)) | (have nw_ := Nw.nw hw_; simp [ew_, nw_, hj, ht, hwi]) | simp [ew_, hj, ht, hwi])
      | (exact hA (i + 1) _ (Wk.cutAt _ rfl (by simp) (by simp [t2, ← hp, hr]) (by simp) (by simp)) hi (by omega))
      | ((first | refine AW.draw (id := 7) Try.checked.mixed (fun _ => false) [] [] 7 (by kernel_rfl) ?_ | refine AW.draw (id := 15) Try.checked.mixed (fun _ => false) [] [] 4 (by kernel_rfl) ?_ | rw [if_pos (by first | omega | (simp only [maxLen]; omega))] | rw [if_neg (by first | omega | (simp only [maxLen]; omega))] | rw [frzOwn_neat (by simp) (by simp <;> omega)] | rw [fzOwn_neat (by simp) (by simp <;> omega)]); try simp [hj, ht, hwi])
      | ((first | refine TstB.go (fun hw_ ew_ => ?_) (fun hw_ ew_ => ?_)) <;> first | (exfalso; first | omega | with_reducible exact hw_ (by assumption) | with_reducible exact absurd hw_ (by assumption)) | simp [ew_, hj, ht, hwi])
      | fail)
  have hwj := wrap_nat hj (by simp only [maxLen]; omega)
  have s1 := take_le decL l[i].l hj
  have s2 := take_one decL l[i].l hj
  have v1 := w4 _ (List.getElem_mem hj)
  have hdc : decL l[i].l[j] = whl l[i].l[j].seq ++ numL (if l[i].l[j].yes then 1 else 0) := rfl
  have hdl2 := congrArg List.length hdc
  simp only [List.length_append] at hdl2
  generalize hq : p ++ whl l[i].client ++ whl l[i].epoch ++ whl l[i].done ++ numL l[i].l.length ++ (l[i].l.take j).flatMap decL = u at *
  have hul : u.length + (decL l[i].l[j]).length ≤ 1000000000000 := by rw [← hq]; simp only [List.length_append]; omega
  have hput2 := tput_ok 0 u [l[i].l[j].seq] (by simp [v1]) (by simp; omega) (by simp)
  simp only [List.length_cons, List.length_nil, List.map_cons, List.map_nil, List.flatMap_cons, List.flatMap_nil, List.append_nil] at hput2
  cases hy : l[i].l[j].yes with
  | true =>
    rw [hy] at hdc hdl2
    simp only [if_true] at hdc hdl2
    have b1 := num_ok 1 (by omega)
    try simp [hj, hwj, hy, DecisionR.enc, T_size, T_app]
    repeat' (first
      | ((first | refine Tst.go (fun hw_ ew_ => ?_) (fun hw_ ew_ => ?_)) <;> first | (exfalso; first | omega | with_reducible exact hw_ (by assumption) | with_reducible exact absurd hw_ (by assumption)) | (have nw_ := Nw.nw hw_; simp [ew_, nw_, hj, hwj, hy, DecisionR.enc, T_size, T_app]) | simp [ew_, hj, hwj, hy, DecisionR.enc, T_size, T_app])
      | (refine AInv.heap [0] hput2 (by simp) (by simp) ?_; simp [hy, hwj, T_size, T_app])
      | (exact hA2 (j + 1) _ (Wk.cutAt _ rfl (by simp) (by simp [s2, ← hq, hdc]) (by simp) (by simp)) hj (by omega))
      | ((first | (refine Pc.go (b1) ?_ ?_; focus (first | rfl | (simp [hj, hwj, hy, DecisionR.enc, T_size, T_app]; done))) | refine AW.draw (id := 7) Try.checked.mixed (fun _ => false) [] [] 7 (by kernel_rfl) ?_ | refine AW.draw (id := 15) Try.checked.mixed (fun _ => false) [] [] 4 (by kernel_rfl) ?_ | rw [if_pos (by first | omega | (simp only [maxLen]; omega))] | rw [if_neg (by first | omega | (simp only [maxLen]; omega))] | rw [frzOwn_neat (by simp) (by simp <;> omega)] | rw [fzOwn_neat (by simp) (by simp <;> omega)]); try simp [hj, hwj, hy, DecisionR.enc, T_size, T_app])
      | ((first | refine TstB.go (fun hw_ ew_ => ?_) (fun hw_ ew_ => ?_)) <;> first | (exfalso; first | omega | with_reducible exact hw_ (by assumption) | with_reducible exact absurd hw_ (by assumption)) | simp [ew_, hj, hwj, hy, DecisionR.enc, T_size, T_app])
      | fail)
  | false =>
    rw [hy] at hdc hdl2
    simp only [Bool.false_eq_true, if_false] at hdc hdl2
    have b0 := num_ok 0 (by omega)
    try simp [hj, hwj, hy, DecisionR.enc, T_size, T_app]
    repeat' (first
      | ((first | refine Tst.go (fun hw_ ew_ => ?_) (fun hw_ ew_ => ?_)) <;> first | (exfalso; first | omega | with_reducible exact hw_ (by assumption) | with_reducible exact absurd hw_ (by assumption)) | (have nw_ := Nw.nw hw_; simp [ew_, nw_, hj, hwj, hy, DecisionR.enc, T_size, T_app]) | simp [ew_, hj, hwj, hy, DecisionR.enc, T_size, T_app])
      | (refine AInv.heap [0] hput2 (by simp) (by simp) ?_; simp [hy, hwj, T_size, T_app])
      | (exact hA2 (j + 1) _ (Wk.cutAt _ rfl (by simp) (by simp [s2, ← hq, hdc]) (by simp) (by simp)) hj (by omega))
      | ((first | (refine Pc.go (b0) ?_ ?_; focus (first | rfl | (simp [hj, hwj, hy, DecisionR.enc, T_size, T_app]; done))) | refine AW.draw (id := 7) Try.checked.mixed (fun _ => false) [] [] 7 (by kernel_rfl) ?_ | refine AW.draw (id := 15) Try.checked.mixed (fun _ => false) [] [] 4 (by kernel_rfl) ?_ | rw [if_pos (by first | omega | (simp only [maxLen]; omega))] | rw [if_neg (by first | omega | (simp only [maxLen]; omega))] | rw [frzOwn_neat (by simp) (by simp <;> omega)] | rw [fzOwn_neat (by simp) (by simp <;> omega)]); try simp [hj, hwj, hy, DecisionR.enc, T_size, T_app])
      | ((first | refine TstB.go (fun hw_ ew_ => ?_) (fun hw_ ew_ => ?_)) <;> first | (exfalso; first | omega | with_reducible exact hw_ (by assumption) | with_reducible exact absurd hw_ (by assumption)) | simp [ew_, hj, hwj, hy, DecisionR.enc, T_size, T_app])
      | fail)
end Go.Proofs.Ytpbjeabigckijaa
