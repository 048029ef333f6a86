/- Nodes' texts, told. -/
import Derived.Test.YtilmfmjcemfoeaaNodA
import Derived.Test.YtilmfmjcemfoeaaBd
set_option linter.unusedVariables false
set_option linter.unusedSimpArgs false
namespace Go.Proofs.Ytilmfmjcemfoeaa
open Go.Cx Tab
set_option maxHeartbeats 400000
set_option maxRecDepth 40000

theorem put_ok (ver : Nat) (s : List UInt8) (k : Int) (hk : inI k) (hs : s.length ≤ 1099511627776) : HCall Try.prog 34 [I k, .ptr 0 ver 0] [.cells ver [S (T s)]] (.tup []) [.cells ver [S (T (s ++ whl k))]] := by
  refine HCall.mk' (fun _ => false) Try.func34 rfl rfl rfl (Ent.mk Try.func34 (by kernel_rfl) rfl) (by simp) (by simp) (by simp) (by simp) (by simp) fun hfit => ?_
  have h10 := numL_10 (foldS_lt hk)
  simp [Try.f34]
  refine AW.draw Try.checked.mixed (fun _ => false) [] [] 5 (by kernel_rfl) ?_
  simp
  try simp [T_size, T_app]
  repeat' (first
    | ((first | refine Tst.go (fun hw_ ew_ => ?_) (fun hw_ ew_ => ?_)) <;> first | (exfalso; first | omega | with_reducible exact hw_ (by assumption) | with_reducible exact absurd hw_ (by assumption)) | (have nw_ := Nw.nw hw_; simp [ew_, nw_, T_size, T_app]) | simp [ew_, T_size, T_app])
    | ((first | (refine Pc.go (fold_ok k hk) ?_ ?_; focus (first | rfl | (simp [T_size, T_app]; done))) | (refine Pc.go (num_ok (foldS k) (foldS_lt hk)) ?_ ?_; focus (first | rfl | (simp [T_size, T_app]; done))) | refine AW.draw (id := 0) Try.checked.mixed (fun _ => false) [] [] 5 (by kernel_rfl) ?_ | rw [if_pos (by first | omega | (simp only [maxLen]; omega))] | rw [if_neg (by first | omega | (simp only [maxLen]; omega))] | rw [frzOwn_neat (by simp) (by simp <;> omega)] | rw [fzOwn_neat (by simp) (by simp <;> omega)]); try simp [T_size, T_app])
    | ((first | refine TstB.go (fun hw_ ew_ => ?_) (fun hw_ ew_ => ?_)) <;> first | (exfalso; first | omega | with_reducible exact hw_ (by assumption) | with_reducible exact absurd hw_ (by assumption)) | simp [ew_, T_size, T_app])
    | fail)

theorem textb_ok (b : ByteArray) (h : b.size ≤ 1099511627776) : PCall Try.prog 35 [S b] (S (T (textL (bs b)))) := by
  have := text_ok (bs b) (by simpa using h)
  rwa [T_bs] at this
theorem ntext_ok (n : NodeR) (hw : n.wf) (hl : (nodeL n).length ≤ 1099511627776) : PCall Try.prog 22 [encN n] (S (T (nodeL n))) := by
  refine PCall.mk (fun _ => false) Try.func22 rfl rfl rfl (Ent.mk Try.func22 (by kernel_rfl) rfl) (by simp) (by simp) fun hfit => ?_
  obtain ⟨w1, w2, w3, w4, w5⟩ := hw
  have b1 := numL_10 (foldS_lt w1)
  have b2 := numL_10 (foldS_lt w2)
  have b3 := numL_10 (foldS_lt w3)
  have hh : (headL n).length + (n.l.flatMap entL).length ≤ 1099511627776 := by rw [← List.length_append]; exact hl
  have ht : n.text.size ≤ 1099511627776 := by
    have : (bs n.text).length ≤ (headL n).length := by simp [headL, textL]; omega
    simp at this; omega
  simp [NodeR.enc] at hfit
  have hll := maxLen_lt hfit.1
  simp [Try.f22, NodeR.enc]
  refine AInv.heap [1] (put_ok 0 [] n.ino w1 (by simp)) ?_ ?_ ?_
  · simp
  · simp
  simp
  refine AInv.heap [1] (put_ok 0 (whl n.ino) n.kind w2 (by simp [whl]; omega)) ?_ ?_ ?_
  · simp
  · simp
  simp
  refine AInv.heap [1] (put_ok 0 (whl n.ino ++ whl n.kind) n.links w3 (by simp [whl]; omega)) ?_ ?_ ?_
  · simp
  · simp [whl]
  simp
  refine AW.draw Try.checked.mixed (fun _ => false) [] [] 11 (by kernel_rfl) ?_
  simp
  have e : (n.l.length : Int) % 18446744073709551616 = (n.l.length : Int) := by omega
  have b4 := numL_10 (n := n.l.length) (by omega)
  have b5 := numL_10 (n := n.text.size) (by omega)
  have b6 : (textL (bs n.text)).length ≤ 1099511627800 := by simp [textL]; omega
  have b7 : (whl n.ino).length + ((whl n.kind).length + (whl n.links).length) ≤ 30 := by simp only [whl]; omega
  try simp [T_size, T_app, e]
  repeat' (first
    | ((first | refine Tst.go (fun hw_ ew_ => ?_) (fun hw_ ew_ => ?_)) <;> first | (exfalso; first | omega | with_reducible exact hw_ (by assumption) | with_reducible exact absurd hw_ (by assumption)) | (have nw_ := Nw.nw hw_; simp [ew_, nw_, T_size, T_app, e]) | simp [ew_, T_size, T_app, e])
    | ((first | (refine Pc.go (textb_ok n.text ht) ?_ ?_; focus (first | rfl | (simp [T_size, T_app, e]; done))) | (refine Pc.go (num_ok n.l.length (by omega)) ?_ ?_; focus (first | rfl | (simp [T_size, T_app, e]; done))) | refine AW.draw (id := 6) Try.checked.mixed (fun _ => false) [] [] 11 (by kernel_rfl) ?_ | refine AW.draw (id := 10) Try.checked.mixed (fun _ => false) [] [] 5 (by kernel_rfl) ?_ | rw [if_pos (by first | omega | (simp only [maxLen]; omega))] | rw [if_neg (by first | omega | (simp only [maxLen]; omega))] | rw [frzOwn_neat (by simp) (by simp <;> omega)] | rw [fzOwn_neat (by simp) (by simp <;> omega)]); try simp [T_size, T_app, e])
    | ((first | refine TstB.go (fun hw_ ew_ => ?_) (fun hw_ ew_ => ?_)) <;> first | (exfalso; first | omega | with_reducible exact hw_ (by assumption) | with_reducible exact absurd hw_ (by assumption)) | simp [ew_, T_size, T_app, e])
    | fail)
  refine AW.loopG (lit := fun _ => false) (fun i : Nat => ⟨49, pat [(1, .ptr 0 0 0), (3, .ptr 1 0 0), (4, .fn 34 [.ptr 1 0 0]), (32, encL EntryR.enc n.l), (33, I n.l.length), (34, I i)], [.cells 0 n.enc, .cells 0 [S (T (headL n ++ (n.l.take i).flatMap entL))]]⟩) (fun i => n.l.length - i) (fun i => i ≤ n.l.length) 0 ?_ ?_ ?_
  · exact Wk.at _ rfl (by simp [NodeR.enc, headL]) (by simp)
  · simp
  intro i hi A hA
  by_cases h : i < n.l.length
  case neg =>
    have : n.l.take i = n.l := List.take_of_length_le (by omega)
    simp [h, this, nodeL]
  have hx := w5 n.l[i] (List.getElem_mem h)
  have hpre : (headL n).length + ((n.l.take i).flatMap entL).length + (entL n.l[i]).length ≤ 1099511627776 := by
    have e1 : n.l = n.l.take i ++ n.l[i] :: n.l.drop (i + 1) := by rw [← List.drop_eq_getElem_cons h, List.take_append_drop]
    have e2 := congrArg (fun l => (l.flatMap entL).length) e1
    simp only [List.flatMap_append, List.flatMap_cons, List.length_append] at e2
    omega
  have he : (n.l.take (i + 1)).flatMap entL = (n.l.take i).flatMap entL ++ entL n.l[i] := by rw [List.take_succ_eq_append_getElem h, List.flatMap_append, List.flatMap_cons, List.flatMap_nil, List.append_nil]
  have hen : (entL n.l[i]).length = (textL (bs (n.l[i]).name)).length + (whl (n.l[i]).ino).length := by simp [entL]
  have htx : (textL (bs (n.l[i]).name)).length = (numL (n.l[i]).name.size).length + (n.l[i]).name.size := by simp [textL]
  have hw2 : IntKind.i64.wrap ((i : Int) + 1) = ((i + 1 : Nat) : Int) := by rw [wrap_id (by omega) (by omega)]; omega
  generalize hp : (n.l.take i).flatMap entL = p at *
  simp [h]
  refine AW.draw Try.checked.mixed (fun _ => false) [] [] 5 (by kernel_rfl) ?_
  simp [EntryR.enc]
  refine ADcall.pure (textb_ok (n.l[i]).name (by omega)) rfl ?_
  simp [T_app, T_size]
  rw [if_pos (by omega)]
  simp
  refine AInv.heap [1] (put_ok 0 (headL n ++ p ++ textL (bs (n.l[i]).name)) (n.l[i]).ino hx.2 (by simp; omega)) ?_ ?_ ?_
  · simp
  · simp
  simp [hw2]
  refine hA (i + 1) _ (Wk.cutAt _ rfl (by simp) ?_ (by simp) (by simp)) (by omega) (by omega)
  simp [he, entL]

theorem num_rest (ver : Nat) (s : List UInt8) (e : Int) (cs : List AV) (hx : AHeap) (hl : s.length ≤ 1099511627776) (hc : cs.all (refsLt (hx.length + 1)) = true) (hh : hx.all (ABlk.refsLt (hx.length + 1)) = true) :
    HCall Try.prog 30 [.ptr 0 ver 0] (.cells ver (S (T s) :: I e :: cs) :: hx) (U (numR (s, e)).1) (.cells ver (S (T (numR (s, e)).2.1) :: I (numR (s, e)).2.2 :: cs) :: hx) := by
  refine HCall.mk' (fun _ => false) Try.func30 rfl rfl rfl (Ent.mk Try.func30 (by kernel_rfl) rfl) (by simp [hc, hh]) (by simp [hc, hh]) (by simp [hc, hh]) (by simp [hc, hh]) (by simp [hc, hh]) fun hfit => ?_
  have h1 : e = 0 ∨ ¬ e = 0 := Classical.em _
  rcases h1 with rfl | h1
  · try simp [Try.f30, numR, PostA_n, hc, hh]
    repeat' (first
      | ((first | refine Tst.go (fun hw_ ew_ => ?_) (fun hw_ ew_ => ?_)) <;> first | (exfalso; first | omega | with_reducible exact hw_ (by assumption) | with_reducible exact absurd hw_ (by assumption)) | (have nw_ := Nw.nw hw_; simp [ew_, nw_, Try.f30, numR, PostA_n, hc, hh]) | simp [ew_, Try.f30, numR, PostA_n, hc, hh])
      | ((first | (refine Pc.go (takeNum_ok s hl) ?_ ?_; focus (first | rfl | (simp [Try.f30, numR, PostA_n, hc, hh]; done))) | rw [if_pos (by first | omega | (simp only [maxLen]; omega))] | rw [if_neg (by first | omega | (simp only [maxLen]; omega))] | rw [frzOwn_neat (by simp) (by simp <;> omega)] | rw [fzOwn_neat (by simp) (by simp <;> omega)]); try simp [Try.f30, numR, PostA_n, hc, hh])
      | ((first | refine TstB.go (fun hw_ ew_ => ?_) (fun hw_ ew_ => ?_)) <;> first | (exfalso; first | omega | with_reducible exact hw_ (by assumption) | with_reducible exact absurd hw_ (by assumption)) | simp [ew_, Try.f30, numR, PostA_n, hc, hh])
      | fail)
  · try simp [Try.f30, numR, h1, PostA_n, hc, hh]
    repeat' (first
      | ((first | refine Tst.go (fun hw_ ew_ => ?_) (fun hw_ ew_ => ?_)) <;> first | (exfalso; first | omega | with_reducible exact hw_ (by assumption) | with_reducible exact absurd hw_ (by assumption)) | (have nw_ := Nw.nw hw_; simp [ew_, nw_, Try.f30, numR, h1, PostA_n, hc, hh]) | simp [ew_, Try.f30, numR, h1, PostA_n, hc, hh])
      | ((first | rw [if_pos (by first | omega | (simp only [maxLen]; omega))] | rw [if_neg (by first | omega | (simp only [maxLen]; omega))] | rw [frzOwn_neat (by simp) (by simp <;> omega)] | rw [fzOwn_neat (by simp) (by simp <;> omega)]); try simp [Try.f30, numR, h1, PostA_n, hc, hh])
      | ((first | refine TstB.go (fun hw_ ew_ => ?_) (fun hw_ ew_ => ?_)) <;> first | (exfalso; first | omega | with_reducible exact hw_ (by assumption) | with_reducible exact absurd hw_ (by assumption)) | simp [ew_, Try.f30, numR, h1, PostA_n, hc, hh])
      | fail)

theorem text_rest (ver : Nat) (s : List UInt8) (e : Int) (most : Int) (cs : List AV) (hx : AHeap) (hm : inI most) (hl : s.length ≤ 1099511627776) (hc : cs.all (refsLt (hx.length + 1)) = true) (hh : hx.all (ABlk.refsLt (hx.length + 1)) = true) :
    HCall Try.prog 29 [.ptr 0 ver 0, I most] (.cells ver (S (T s) :: I e :: cs) :: hx) (S (T (textR (s, e) most).1)) (.cells ver (S (T (textR (s, e) most).2.1) :: I (textR (s, e) most).2.2 :: cs) :: hx) := by
  refine HCall.mk' (fun _ => false) Try.func29 rfl rfl rfl (Ent.mk Try.func29 (by kernel_rfl) rfl) (by simp [hc, hh]) (by simp [hc, hh]) (by simp [hc, hh]) (by simp [hc, hh]) (by simp [hc, hh]) fun hfit => ?_
  have h1 : e = 0 ∨ ¬ e = 0 := Classical.em _
  rcases h1 with rfl | h1
  · try simp [Try.f29, textR, PostA_n, hc, hh]
    repeat' (first
      | ((first | refine Tst.go (fun hw_ ew_ => ?_) (fun hw_ ew_ => ?_)) <;> first | (exfalso; first | omega | with_reducible exact hw_ (by assumption) | with_reducible exact absurd hw_ (by assumption)) | (have nw_ := Nw.nw hw_; simp [ew_, nw_, Try.f29, textR, PostA_n, hc, hh]) | simp [ew_, Try.f29, textR, PostA_n, hc, hh])
      | ((first | (refine Pc.go (takeText_ok s most hm hl) ?_ ?_; focus (first | rfl | (simp [Try.f29, textR, PostA_n, hc, hh]; done))) | rw [if_pos (by first | omega | (simp only [maxLen]; omega))] | rw [if_neg (by first | omega | (simp only [maxLen]; omega))] | rw [frzOwn_neat (by simp) (by simp <;> omega)] | rw [fzOwn_neat (by simp) (by simp <;> omega)]); try simp [Try.f29, textR, PostA_n, hc, hh])
      | ((first | refine TstB.go (fun hw_ ew_ => ?_) (fun hw_ ew_ => ?_)) <;> first | (exfalso; first | omega | with_reducible exact hw_ (by assumption) | with_reducible exact absurd hw_ (by assumption)) | simp [ew_, Try.f29, textR, PostA_n, hc, hh])
      | fail)
  · try simp [Try.f29, textR, h1, PostA_n, hc, hh]
    repeat' (first
      | ((first | refine Tst.go (fun hw_ ew_ => ?_) (fun hw_ ew_ => ?_)) <;> first | (exfalso; first | omega | with_reducible exact hw_ (by assumption) | with_reducible exact absurd hw_ (by assumption)) | (have nw_ := Nw.nw hw_; simp [ew_, nw_, Try.f29, textR, h1, PostA_n, hc, hh]) | simp [ew_, Try.f29, textR, h1, PostA_n, hc, hh])
      | ((first | rw [if_pos (by first | omega | (simp only [maxLen]; omega))] | rw [if_neg (by first | omega | (simp only [maxLen]; omega))] | rw [frzOwn_neat (by simp) (by simp <;> omega)] | rw [fzOwn_neat (by simp) (by simp <;> omega)]); try simp [Try.f29, textR, h1, PostA_n, hc, hh])
      | ((first | refine TstB.go (fun hw_ ew_ => ?_) (fun hw_ ew_ => ?_)) <;> first | (exfalso; first | omega | with_reducible exact hw_ (by assumption) | with_reducible exact absurd hw_ (by assumption)) | simp [ew_, Try.f29, textR, h1, PostA_n, hc, hh])
      | fail)
theorem whole_rest (ver : Nat) (s : List UInt8) (e : Int) (cs : List AV) (hx : AHeap) (hl : s.length ≤ 1099511627776) (hc : cs.all (refsLt (hx.length + 1)) = true) (hh : hx.all (ABlk.refsLt (hx.length + 1)) = true) :
    HCall Try.prog 28 [.ptr 0 ver 0] (.cells ver (S (T s) :: I e :: cs) :: hx) (I (unfoldS (numR (s, e)).1)) (.cells ver (S (T (numR (s, e)).2.1) :: I (numR (s, e)).2.2 :: cs) :: hx) := by
  refine HCall.mk' (fun _ => false) Try.func28 rfl rfl rfl (Ent.mk Try.func28 (by kernel_rfl) rfl) (by simp [hc, hh]) (by simp [hc, hh]) (by simp [hc, hh]) (by simp [hc, hh]) (by simp [hc, hh]) fun hfit => ?_
  simp [Try.f28]
  refine AInv.same (num_rest ver s e cs hx hl hc hh) rfl ?_
  try simp [PostA_n, hc, hh]
  repeat' (first
    | ((first | refine Tst.go (fun hw_ ew_ => ?_) (fun hw_ ew_ => ?_)) <;> first | (exfalso; first | omega | with_reducible exact hw_ (by assumption) | with_reducible exact absurd hw_ (by assumption)) | (have nw_ := Nw.nw hw_; simp [ew_, nw_, PostA_n, hc, hh]) | simp [ew_, PostA_n, hc, hh])
    | ((first | (refine Pc.go (unfold_ok (numR (s, e)).1 (numR_lt (s, e))) ?_ ?_; focus (first | rfl | (simp [PostA_n, hc, hh]; done))) | rw [if_pos (by first | omega | (simp only [maxLen]; omega))] | rw [if_neg (by first | omega | (simp only [maxLen]; omega))] | rw [frzOwn_neat (by simp) (by simp <;> omega)] | rw [fzOwn_neat (by simp) (by simp <;> omega)]); try simp [PostA_n, hc, hh])
    | ((first | refine TstB.go (fun hw_ ew_ => ?_) (fun hw_ ew_ => ?_)) <;> first | (exfalso; first | omega | with_reducible exact hw_ (by assumption) | with_reducible exact absurd hw_ (by assumption)) | simp [ew_, PostA_n, hc, hh])
    | fail)
end Go.Proofs.Ytilmfmjcemfoeaa
