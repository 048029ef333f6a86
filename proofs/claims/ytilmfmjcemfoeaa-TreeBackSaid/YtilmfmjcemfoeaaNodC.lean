/- Nodes' texts, taken. -/
import Derived.Test.YtilmfmjcemfoeaaNodB
set_option linter.unusedVariables false
set_option linter.unusedSimpArgs false
namespace Go.Proofs.Ytilmfmjcemfoeaa
open Go.Cx Tab
set_option maxHeartbeats 400000
set_option maxRecDepth 40000

theorem ntake_ok (s : List UInt8) (hl : s.length ≤ 1099511627776) : PCall Try.prog 16 [S (T s)] (.tup [encN (takeN s).1, S (T (takeN s).2.1), I (takeN s).2.2]) := by
  refine PCall.mk (fun _ => false) Try.func16 rfl rfl rfl (Ent.mk Try.func16 (by kernel_rfl) rfl) (by simp) (by simp) fun hfit => ?_
  have l1 := numR_len (s, 0)
  rcases ha : numR (s, 0) with ⟨a, s1, e1⟩
  have l2 := numR_len (s1, e1)
  rcases hb : numR (s1, e1) with ⟨b, s2, e2⟩
  have l3 := numR_len (s2, e2)
  rcases hc : numR (s2, e2) with ⟨c, s3, e3⟩
  have l4 := textR_len (s3, e3) 4096
  rcases ht : textR (s3, e3) 4096 with ⟨t, s4, e4⟩
  have l5 := numR_len (s4, e4)
  have l6 := numR_lt (s4, e4)
  rcases hm : numR (s4, e4) with ⟨m, s5, e5⟩
  simp only [ha, hb, hc, ht, hm] at l1 l2 l3 l4 l5 l6
  have hhd : headR s = ⟨unfoldS a, unfoldS b, unfoldS c, t, m, (s5, if e5 = 0 ∧ 256 < m then 5 else e5)⟩ := by simp only [headR, ha, hb, hc, ht, hm]
  simp [Try.f16]
  refine AW.scopeG (lit := fun _ => false) 0 (fun _ : Unit => ⟨133, pat [(2, .ptr 0 0 0), (5, .ptr 1 0 0)], [.cells 0 [I 0, I 0, I 0, S .empty, .sl true 0 []], .cells 0 [S (T s5), I (if e5 = 0 ∧ 256 < m then 5 else e5), I (unfoldS a), I (unfoldS b), I (unfoldS c), S (T t), .sl true 0 []]]⟩) (fun _ => 0) (fun _ => (if e5 = 0 ∧ 256 < m then 5 else e5) ≠ 0) rfl ?_ ?_
  · intro A hA
    simp
    refine AW.draw Try.checked.mixed (fun _ => false) [1] [(6, .e), (10, .e), (14, .e)] 27 (by kernel_rfl) ?_
    simp
    refine ADcall.heap [1] (whole_rest 0 s 0 [I 0, I 0, I 0, S .empty, .sl true 0 []] [] hl (by simp) (by simp)) ?_ ?_ ?_
    · simp
    · simp
    simp [ha]
    refine ADcall.heap [1] (whole_rest 0 s1 e1 [I 0, I 0, I 0, S .empty, .sl true 0 []] [] (by omega) (by simp) (by simp)) ?_ ?_ ?_
    · simp
    · simp
    simp [hb]
    refine ADcall.heap [1] (whole_rest 0 s2 e2 [I 0, I 0, I 0, S .empty, .sl true 0 []] [] (by omega) (by simp) (by simp)) ?_ ?_ ?_
    · simp
    · simp
    simp [hc]
    refine AInv.heap [1] (text_rest 0 s3 e3 4096 [I (unfoldS a), I (unfoldS b), I (unfoldS c), S .empty, .sl true 0 []] [] (by simp [inI]) (by omega) (by simp) (by simp)) ?_ ?_ ?_
    · simp
    · simp
    simp [ht]
    refine AInv.heap [1] (num_rest 0 s4 e4 [I (unfoldS a), I (unfoldS b), I (unfoldS c), S (T t), .sl true 0 []] [] (by omega) (by simp) (by simp)) ?_ ?_ ?_
    · simp
    · simp
    simp [hm]
    have hq : e5 ≠ 0 ∨ (e5 = 0 ∧ 256 < m) ∨ (e5 = 0 ∧ ¬ 256 < m) := by omega
    rcases hq with h | ⟨rfl, h⟩ | ⟨rfl, h⟩
    · try simp [h, hm]
      repeat' (first
        | ((first | refine Tst.go (fun hw_ ew_ => ?_) (fun hw_ ew_ => ?_)) <;> first | (exfalso; first | omega | with_reducible exact hw_ (by assumption) | with_reducible exact absurd hw_ (by assumption)) | (have nw_ := Nw.nw hw_; simp [ew_, nw_, h, hm]) | simp [ew_, h, hm])
        | ((first | refine AW.draw (id := 3) Try.checked.mixed (fun _ => false) [] [] 27 (by kernel_rfl) ?_ | refine AW.draw (id := 13) Try.checked.mixed (fun _ => false) [] [] 12 (by kernel_rfl) ?_ | refine AW.draw (id := 18) Try.checked.mixed (fun _ => false) [] [] 9 (by kernel_rfl) ?_ | refine AW.draw (id := 19) Try.checked.mixed (fun _ => false) [] [] 12 (by kernel_rfl) ?_ | rw [if_pos (by first | omega | (simp only [maxLen]; omega))] | rw [if_neg (by first | omega | (simp only [maxLen]; omega))] | rw [frzOwn_neat (by simp) (by simp <;> omega)] | rw [fzOwn_neat (by simp) (by simp <;> omega)]); try simp [h, hm])
        | ((first | refine TstB.go (fun hw_ ew_ => ?_) (fun hw_ ew_ => ?_)) <;> first | (exfalso; first | omega | with_reducible exact hw_ (by assumption) | with_reducible exact absurd hw_ (by assumption)) | simp [ew_, h, hm])
        | fail)
      exact hA () _ (Wk.at _ rfl (by simp [h]) (by simp)) (by simp [h])
    · try simp [h, hm]
      repeat' (first
        | ((first | refine Tst.go (fun hw_ ew_ => ?_) (fun hw_ ew_ => ?_)) <;> first | (exfalso; first | omega | with_reducible exact hw_ (by assumption) | with_reducible exact absurd hw_ (by assumption)) | (have nw_ := Nw.nw hw_; simp [ew_, nw_, h, hm]) | simp [ew_, h, hm])
        | ((first | refine AW.draw (id := 3) Try.checked.mixed (fun _ => false) [] [] 27 (by kernel_rfl) ?_ | refine AW.draw (id := 13) Try.checked.mixed (fun _ => false) [] [] 12 (by kernel_rfl) ?_ | refine AW.draw (id := 18) Try.checked.mixed (fun _ => false) [] [] 9 (by kernel_rfl) ?_ | refine AW.draw (id := 19) Try.checked.mixed (fun _ => false) [] [] 12 (by kernel_rfl) ?_ | rw [if_pos (by first | omega | (simp only [maxLen]; omega))] | rw [if_neg (by first | omega | (simp only [maxLen]; omega))] | rw [frzOwn_neat (by simp) (by simp <;> omega)] | rw [fzOwn_neat (by simp) (by simp <;> omega)]); try simp [h, hm])
        | ((first | refine TstB.go (fun hw_ ew_ => ?_) (fun hw_ ew_ => ?_)) <;> first | (exfalso; first | omega | with_reducible exact hw_ (by assumption) | with_reducible exact absurd hw_ (by assumption)) | simp [ew_, h, hm])
        | fail)
      exact hA () _ (Wk.at _ rfl (by simp [h]) (by simp)) (by simp [h])
    · try simp [h, hm]
      repeat' (first
        | ((first | refine Tst.go (fun hw_ ew_ => ?_) (fun hw_ ew_ => ?_)) <;> first | (exfalso; first | omega | with_reducible exact hw_ (by assumption) | with_reducible exact absurd hw_ (by assumption)) | (have nw_ := Nw.nw hw_; simp [ew_, nw_, h, hm]) | simp [ew_, h, hm])
        | ((first | refine AW.draw (id := 3) Try.checked.mixed (fun _ => false) [] [] 27 (by kernel_rfl) ?_ | refine AW.draw (id := 13) Try.checked.mixed (fun _ => false) [] [] 12 (by kernel_rfl) ?_ | refine AW.draw (id := 18) Try.checked.mixed (fun _ => false) [] [] 9 (by kernel_rfl) ?_ | refine AW.draw (id := 19) Try.checked.mixed (fun _ => false) [] [] 12 (by kernel_rfl) ?_ | rw [if_pos (by first | omega | (simp only [maxLen]; omega))] | rw [if_neg (by first | omega | (simp only [maxLen]; omega))] | rw [frzOwn_neat (by simp) (by simp <;> omega)] | rw [fzOwn_neat (by simp) (by simp <;> omega)]); try simp [h, hm])
        | ((first | refine TstB.go (fun hw_ ew_ => ?_) (fun hw_ ew_ => ?_)) <;> first | (exfalso; first | omega | with_reducible exact hw_ (by assumption) | with_reducible exact absurd hw_ (by assumption)) | simp [ew_, h, hm])
        | fail)
      refine AW.loopG (lit := fun _ => false) (fun x : Nat × ByteArray × Int => ⟨133, pat [(2, .ptr 0 0 0), (5, .ptr 1 0 0), (68, U m), (69, U x.1)], .cells 0 [I 0, I 0, I 0, S .empty, .sl true 0 []] :: .cells 0 [S (T (entsAt (s5, 0) x.1).2.1), I (entsAt (s5, 0) x.1).2.2, I (unfoldS a), I (unfoldS b), I (unfoldS c), S (T t), if x.1 = 0 then .sl true 0 [] else .own 3 (x.1 - 1) 0 x.1 2] :: (if x.1 = 0 then [] else [.cells 0 [S x.2.1, I x.2.2], .cells (x.1 - 1) ((entsAt (s5, 0) x.1).1.flatMap EntryR.enc)])⟩) (fun x => m - x.1) (fun x => x.1 ≤ m) (0, .empty, 0) ?_ ?_ ?_
      · exact Wk.at _ rfl (by simp [entsAt]) (by simp)
      · simp
      rintro ⟨i, z1, z2⟩ hi A2 hA2
      simp only at hi hA2 ⊢
      have q1 := entsAt_rest (s5, 0) i
      have q2 := entsAt_len (s5, 0) i
      rcases hp : entsAt (s5, 0) i with ⟨p, r, e⟩
      simp only [hp] at q1 q2
      by_cases hi2 : i < m
      case neg =>
        have him : m = i := by omega
        subst him
        have htk : takeN s = if e ≠ 0 then (.zero, [], e) else if nodeOk ⟨unfoldS a, unfoldS b, unfoldS c, T t, p⟩ = true then (⟨unfoldS a, unfoldS b, unfoldS c, T t, p⟩, r, 0) else (.zero, [], 3) := by simp [takeN, hhd, Hd.node, hp, h]
        cases m with
        | zero =>
          have hp0 : p = [] := List.eq_nil_of_length_eq_zero q2
          subst hp0
          by_cases he : e = 0
          · cases hn : nodeOk ⟨unfoldS a, unfoldS b, unfoldS c, T t, []⟩ with
            | true =>
              try simp [hp, he, htk, hn, NodeR.enc]
              repeat' (first
                | ((first | refine Tst.go (fun hw_ ew_ => ?_) (fun hw_ ew_ => ?_)) <;> first | (exfalso; first | omega | with_reducible exact hw_ (by assumption) | with_reducible exact absurd hw_ (by assumption)) | (have nw_ := Nw.nw hw_; simp [ew_, nw_, hp, he, htk, hn, NodeR.enc]) | simp [ew_, hp, he, htk, hn, NodeR.enc])
                | ((first | (refine Lc.go (nright_ok ⟨unfoldS a, unfoldS b, unfoldS c, T t, []⟩) rfl ?_ ?_; focus (first | (simp [hp, he, htk, hn, NodeR.enc]; done) | (simp; rw [frzOwn_neat (by simp) (by simp <;> omega)]; simp [hp, he, htk, hn, NodeR.enc]; done))) | refine AW.draw (id := 18) Try.checked.mixed (fun _ => false) [0] [] 9 (by kernel_rfl) ?_ | refine AW.draw (id := 19) Try.checked.mixed (fun _ => false) [0] [] 12 (by kernel_rfl) ?_ | refine AW.draw (id := 3) Try.checked.mixed (fun _ => false) [] [] 27 (by kernel_rfl) ?_ | refine AW.draw (id := 13) Try.checked.mixed (fun _ => false) [] [] 12 (by kernel_rfl) ?_ | rw [if_pos (by first | omega | (simp only [maxLen]; omega))] | rw [if_neg (by first | omega | (simp only [maxLen]; omega))] | rw [frzOwn_neat (by simp) (by simp <;> omega)] | rw [fzOwn_neat (by simp) (by simp <;> omega)]); try simp [hp, he, htk, hn, NodeR.enc])
                | ((first | refine TstB.go (fun hw_ ew_ => ?_) (fun hw_ ew_ => ?_)) <;> first | (exfalso; first | omega | with_reducible exact hw_ (by assumption) | with_reducible exact absurd hw_ (by assumption)) | simp [ew_, hp, he, htk, hn, NodeR.enc])
                | fail)
            | false =>
              try simp [hp, he, htk, hn, NodeR.enc, NodeR.zero]
              repeat' (first
                | ((first | refine Tst.go (fun hw_ ew_ => ?_) (fun hw_ ew_ => ?_)) <;> first | (exfalso; first | omega | with_reducible exact hw_ (by assumption) | with_reducible exact absurd hw_ (by assumption)) | (have nw_ := Nw.nw hw_; simp [ew_, nw_, hp, he, htk, hn, NodeR.enc, NodeR.zero]) | simp [ew_, hp, he, htk, hn, NodeR.enc, NodeR.zero])
                | ((first | (refine Lc.go (nright_ok ⟨unfoldS a, unfoldS b, unfoldS c, T t, []⟩) rfl ?_ ?_; focus (first | (simp [hp, he, htk, hn, NodeR.enc, NodeR.zero]; done) | (simp; rw [frzOwn_neat (by simp) (by simp <;> omega)]; simp [hp, he, htk, hn, NodeR.enc, NodeR.zero]; done))) | refine AW.draw (id := 18) Try.checked.mixed (fun _ => false) [0] [] 9 (by kernel_rfl) ?_ | refine AW.draw (id := 19) Try.checked.mixed (fun _ => false) [0] [] 12 (by kernel_rfl) ?_ | refine AW.draw (id := 3) Try.checked.mixed (fun _ => false) [] [] 27 (by kernel_rfl) ?_ | refine AW.draw (id := 13) Try.checked.mixed (fun _ => false) [] [] 12 (by kernel_rfl) ?_ | rw [if_pos (by first | omega | (simp only [maxLen]; omega))] | rw [if_neg (by first | omega | (simp only [maxLen]; omega))] | rw [frzOwn_neat (by simp) (by simp <;> omega)] | rw [fzOwn_neat (by simp) (by simp <;> omega)]); try simp [hp, he, htk, hn, NodeR.enc, NodeR.zero])
                | ((first | refine TstB.go (fun hw_ ew_ => ?_) (fun hw_ ew_ => ?_)) <;> first | (exfalso; first | omega | with_reducible exact hw_ (by assumption) | with_reducible exact absurd hw_ (by assumption)) | simp [ew_, hp, he, htk, hn, NodeR.enc, NodeR.zero])
                | fail)
          · try simp [hp, he, htk, NodeR.enc, NodeR.zero]
            repeat' (first
              | ((first | refine Tst.go (fun hw_ ew_ => ?_) (fun hw_ ew_ => ?_)) <;> first | (exfalso; first | omega | with_reducible exact hw_ (by assumption) | with_reducible exact absurd hw_ (by assumption)) | (have nw_ := Nw.nw hw_; simp [ew_, nw_, hp, he, htk, NodeR.enc, NodeR.zero]) | simp [ew_, hp, he, htk, NodeR.enc, NodeR.zero])
              | ((first | refine AW.draw (id := 18) Try.checked.mixed (fun _ => false) [0] [] 9 (by kernel_rfl) ?_ | refine AW.draw (id := 19) Try.checked.mixed (fun _ => false) [0] [] 12 (by kernel_rfl) ?_ | refine AW.draw (id := 3) Try.checked.mixed (fun _ => false) [] [] 27 (by kernel_rfl) ?_ | refine AW.draw (id := 13) Try.checked.mixed (fun _ => false) [] [] 12 (by kernel_rfl) ?_ | rw [if_pos (by first | omega | (simp only [maxLen]; omega))] | rw [if_neg (by first | omega | (simp only [maxLen]; omega))] | rw [frzOwn_neat (by simp) (by simp <;> omega)] | rw [fzOwn_neat (by simp) (by simp <;> omega)]); try simp [hp, he, htk, NodeR.enc, NodeR.zero])
              | ((first | refine TstB.go (fun hw_ ew_ => ?_) (fun hw_ ew_ => ?_)) <;> first | (exfalso; first | omega | with_reducible exact hw_ (by assumption) | with_reducible exact absurd hw_ (by assumption)) | simp [ew_, hp, he, htk, NodeR.enc, NodeR.zero])
              | fail)
        | succ i =>
          have hgive : ([.agg [I (unfoldS a), I (unfoldS b), I (unfoldS c), S (T t), .own 3 i 0 (i + 1) 2]].mapM (frz [.cells 0 [I 0, I 0, I 0, S .empty, .sl true 0 []], .cells 0 [S (T r), I 0, I (unfoldS a), I (unfoldS b), I (unfoldS c), S (T t), .own 3 i 0 (i + 1) 2], .cells 0 [S z1, I z2], .cells i (p.flatMap EntryR.enc)] 0 12) : Option (List AV)) = some [encN ⟨unfoldS a, unfoldS b, unfoldS c, T t, p⟩] := by
            simp
            rw [frzOwn_neat (by simp) (by simp <;> omega)]
            simp [NodeR.enc, q2]
          by_cases he : e = 0
          · cases hn : nodeOk ⟨unfoldS a, unfoldS b, unfoldS c, T t, p⟩ with
            | true =>
              try simp [hp, he, htk, hn, NodeR.enc]
              repeat' (first
                | ((first | refine Tst.go (fun hw_ ew_ => ?_) (fun hw_ ew_ => ?_)) <;> first | (exfalso; first | omega | with_reducible exact hw_ (by assumption) | with_reducible exact absurd hw_ (by assumption)) | (have nw_ := Nw.nw hw_; simp [ew_, nw_, hp, he, htk, hn, NodeR.enc]) | simp [ew_, hp, he, htk, hn, NodeR.enc])
                | (refine AInv.lend (nright_ok ⟨unfoldS a, unfoldS b, unfoldS c, T t, p⟩) rfl hgive ?_; simp [hp, he, htk, hn, NodeR.enc, NodeR.zero])
                | ((first | refine AW.draw (id := 18) Try.checked.mixed (fun _ => false) [0] [] 9 (by kernel_rfl) ?_ | refine AW.draw (id := 19) Try.checked.mixed (fun _ => false) [0] [] 12 (by kernel_rfl) ?_ | refine AW.draw (id := 3) Try.checked.mixed (fun _ => false) [] [] 27 (by kernel_rfl) ?_ | refine AW.draw (id := 13) Try.checked.mixed (fun _ => false) [] [] 12 (by kernel_rfl) ?_ | rw [if_pos (by first | omega | (simp only [maxLen]; omega))] | rw [if_neg (by first | omega | (simp only [maxLen]; omega))] | rw [frzOwn_neat (by simp) (by simp <;> omega)] | rw [fzOwn_neat (by simp) (by simp <;> omega)]); try simp [hp, he, htk, hn, NodeR.enc])
                | ((first | refine TstB.go (fun hw_ ew_ => ?_) (fun hw_ ew_ => ?_)) <;> first | (exfalso; first | omega | with_reducible exact hw_ (by assumption) | with_reducible exact absurd hw_ (by assumption)) | simp [ew_, hp, he, htk, hn, NodeR.enc])
                | fail)
              exact q2.symm
            | false =>
              try simp [hp, he, htk, hn, NodeR.enc, NodeR.zero]
              repeat' (first
                | ((first | refine Tst.go (fun hw_ ew_ => ?_) (fun hw_ ew_ => ?_)) <;> first | (exfalso; first | omega | with_reducible exact hw_ (by assumption) | with_reducible exact absurd hw_ (by assumption)) | (have nw_ := Nw.nw hw_; simp [ew_, nw_, hp, he, htk, hn, NodeR.enc, NodeR.zero]) | simp [ew_, hp, he, htk, hn, NodeR.enc, NodeR.zero])
                | (refine AInv.lend (nright_ok ⟨unfoldS a, unfoldS b, unfoldS c, T t, p⟩) rfl hgive ?_; simp [hp, he, htk, hn, NodeR.enc, NodeR.zero])
                | ((first | refine AW.draw (id := 18) Try.checked.mixed (fun _ => false) [0] [] 9 (by kernel_rfl) ?_ | refine AW.draw (id := 19) Try.checked.mixed (fun _ => false) [0] [] 12 (by kernel_rfl) ?_ | refine AW.draw (id := 3) Try.checked.mixed (fun _ => false) [] [] 27 (by kernel_rfl) ?_ | refine AW.draw (id := 13) Try.checked.mixed (fun _ => false) [] [] 12 (by kernel_rfl) ?_ | rw [if_pos (by first | omega | (simp only [maxLen]; omega))] | rw [if_neg (by first | omega | (simp only [maxLen]; omega))] | rw [frzOwn_neat (by simp) (by simp <;> omega)] | rw [fzOwn_neat (by simp) (by simp <;> omega)]); try simp [hp, he, htk, hn, NodeR.enc, NodeR.zero])
                | ((first | refine TstB.go (fun hw_ ew_ => ?_) (fun hw_ ew_ => ?_)) <;> first | (exfalso; first | omega | with_reducible exact hw_ (by assumption) | with_reducible exact absurd hw_ (by assumption)) | simp [ew_, hp, he, htk, hn, NodeR.enc, NodeR.zero])
                | fail)
          · try simp [hp, he, htk, NodeR.enc, NodeR.zero]
            repeat' (first
              | ((first | refine Tst.go (fun hw_ ew_ => ?_) (fun hw_ ew_ => ?_)) <;> first | (exfalso; first | omega | with_reducible exact hw_ (by assumption) | with_reducible exact absurd hw_ (by assumption)) | (have nw_ := Nw.nw hw_; simp [ew_, nw_, hp, he, htk, NodeR.enc, NodeR.zero]) | simp [ew_, hp, he, htk, NodeR.enc, NodeR.zero])
              | ((first | refine AW.draw (id := 18) Try.checked.mixed (fun _ => false) [0] [] 9 (by kernel_rfl) ?_ | refine AW.draw (id := 19) Try.checked.mixed (fun _ => false) [0] [] 12 (by kernel_rfl) ?_ | refine AW.draw (id := 3) Try.checked.mixed (fun _ => false) [] [] 27 (by kernel_rfl) ?_ | refine AW.draw (id := 13) Try.checked.mixed (fun _ => false) [] [] 12 (by kernel_rfl) ?_ | rw [if_pos (by first | omega | (simp only [maxLen]; omega))] | rw [if_neg (by first | omega | (simp only [maxLen]; omega))] | rw [frzOwn_neat (by simp) (by simp <;> omega)] | rw [fzOwn_neat (by simp) (by simp <;> omega)]); try simp [hp, he, htk, NodeR.enc, NodeR.zero])
              | ((first | refine TstB.go (fun hw_ ew_ => ?_) (fun hw_ ew_ => ?_)) <;> first | (exfalso; first | omega | with_reducible exact hw_ (by assumption) | with_reducible exact absurd hw_ (by assumption)) | simp [ew_, hp, he, htk, NodeR.enc, NodeR.zero])
              | fail)
      have q3 := textR_len (r, e) 32
      rcases hx : textR (r, e) 32 with ⟨x, r1, f1⟩
      have q4 := numR_len (r1, f1)
      rcases hy : numR (r1, f1) with ⟨y, r2, f2⟩
      simp only [hx, hy] at q3 q4
      have hs : entsAt (s5, 0) (i + 1) = (p ++ [⟨T x, unfoldS y⟩], (r2, f2)) := by simp only [entsAt, entStep, hp, hx, hy]
      cases i with
      | zero =>
        have hp0 : p = [] := List.eq_nil_of_length_eq_zero q2
        subst hp0
        simp [hi2, hp]
        refine AInv.heap [1] (text_rest 0 r e 32 [I (unfoldS a), I (unfoldS b), I (unfoldS c), S (T t), .sl true 0 []] [] (by simp [inI]) (by omega) (by simp) (by simp)) ?_ ?_ ?_
        · simp
        · simp
        simp [hx]
        refine AInv.heap [1] (whole_rest 0 r1 f1 [I (unfoldS a), I (unfoldS b), I (unfoldS c), S (T t), .sl true 0 []] [] (by omega) (by simp) (by simp)) ?_ ?_ ?_
        · simp
        · simp
        simp [hy]
        try simp
        repeat' (first
          | ((first | refine Tst.go (fun hw_ ew_ => ?_) (fun hw_ ew_ => ?_)) <;> first | (exfalso; first | omega | with_reducible exact hw_ (by assumption) | with_reducible exact absurd hw_ (by assumption)) | (have nw_ := Nw.nw hw_; simp [ew_, nw_]) | simp [ew_])
          | ((first | refine AW.draw (id := 3) Try.checked.mixed (fun _ => false) [] [] 27 (by kernel_rfl) ?_ | refine AW.draw (id := 13) Try.checked.mixed (fun _ => false) [] [] 12 (by kernel_rfl) ?_ | refine AW.draw (id := 18) Try.checked.mixed (fun _ => false) [] [] 9 (by kernel_rfl) ?_ | refine AW.draw (id := 19) Try.checked.mixed (fun _ => false) [] [] 12 (by kernel_rfl) ?_ | rw [if_pos (by first | omega | (simp only [maxLen]; omega))] | rw [if_neg (by first | omega | (simp only [maxLen]; omega))] | rw [frzOwn_neat (by simp) (by simp <;> omega)] | rw [fzOwn_neat (by simp) (by simp <;> omega)]); try simp)
          | ((first | refine TstB.go (fun hw_ ew_ => ?_) (fun hw_ ew_ => ?_)) <;> first | (exfalso; first | omega | with_reducible exact hw_ (by assumption) | with_reducible exact absurd hw_ (by assumption)) | simp [ew_])
          | fail)
        exact hA2 (1, T x, unfoldS y) _ (Wk.at _ rfl (by simp [hs, EntryR.enc]) (by simp)) (by simp; omega) (by simp; omega)
      | succ i =>
        have hi3 : (i : Int) + 1 < (m : Int) := by omega
        simp [hi3, hp]
        refine AInv.heap [1, 2, 3] (text_rest 0 r e 32 [I (unfoldS a), I (unfoldS b), I (unfoldS c), S (T t), .own 2 i 0 (i + 1) 2] [.cells 0 [S z1, I z2], .cells i (p.flatMap EntryR.enc)] (by simp [inI]) (by omega) (by simp) (by simp)) ?_ ?_ ?_
        · simp
        · simp
        simp [hx]
        refine AInv.heap [1, 2, 3] (whole_rest 0 r1 f1 [I (unfoldS a), I (unfoldS b), I (unfoldS c), S (T t), .own 2 i 0 (i + 1) 2] [.cells 0 [S z1, I z2], .cells i (p.flatMap EntryR.enc)] (by omega) (by simp) (by simp)) ?_ ?_ ?_
        · simp
        · simp
        simp [hy]
        try simp
        repeat' (first
          | ((first | refine Tst.go (fun hw_ ew_ => ?_) (fun hw_ ew_ => ?_)) <;> first | (exfalso; first | omega | with_reducible exact hw_ (by assumption) | with_reducible exact absurd hw_ (by assumption)) | (have nw_ := Nw.nw hw_; simp [ew_, nw_]) | simp [ew_])
          | ((first | refine AW.draw (id := 3) Try.checked.mixed (fun _ => false) [] [] 27 (by kernel_rfl) ?_ | refine AW.draw (id := 13) Try.checked.mixed (fun _ => false) [] [] 12 (by kernel_rfl) ?_ | refine AW.draw (id := 18) Try.checked.mixed (fun _ => false) [] [] 9 (by kernel_rfl) ?_ | refine AW.draw (id := 19) Try.checked.mixed (fun _ => false) [] [] 12 (by kernel_rfl) ?_ | rw [if_pos (by first | omega | (simp only [maxLen]; omega))] | rw [if_neg (by first | omega | (simp only [maxLen]; omega))] | rw [frzOwn_neat (by simp) (by simp <;> omega)] | rw [fzOwn_neat (by simp) (by simp <;> omega)]); try simp)
          | ((first | refine TstB.go (fun hw_ ew_ => ?_) (fun hw_ ew_ => ?_)) <;> first | (exfalso; first | omega | with_reducible exact hw_ (by assumption) | with_reducible exact absurd hw_ (by assumption)) | simp [ew_])
          | fail)
        exact hA2 (i + 2, z1, z2) _ (Wk.cutAt _ rfl (by simp) (by simp [hs, EntryR.enc]) (by simp [hs, EntryR.enc]) (by simp; omega)) (by simp; omega) (by simp; omega)
  · intro _ h A hA
    try simp [h]
    repeat' (first
      | ((first | refine Tst.go (fun hw_ ew_ => ?_) (fun hw_ ew_ => ?_)) <;> first | (exfalso; first | omega | with_reducible exact hw_ (by assumption) | with_reducible exact absurd hw_ (by assumption)) | (have nw_ := Nw.nw hw_; simp [ew_, nw_, h]) | simp [ew_, h])
      | ((first | refine AW.draw (id := 18) Try.checked.mixed (fun _ => false) [0] [] 9 (by kernel_rfl) ?_ | refine AW.draw (id := 3) Try.checked.mixed (fun _ => false) [] [] 27 (by kernel_rfl) ?_ | refine AW.draw (id := 13) Try.checked.mixed (fun _ => false) [] [] 12 (by kernel_rfl) ?_ | refine AW.draw (id := 19) Try.checked.mixed (fun _ => false) [] [] 12 (by kernel_rfl) ?_ | rw [if_pos (by first | omega | (simp only [maxLen]; omega))] | rw [if_neg (by first | omega | (simp only [maxLen]; omega))] | rw [frzOwn_neat (by simp) (by simp <;> omega)] | rw [fzOwn_neat (by simp) (by simp <;> omega)]); try simp [h])
      | ((first | refine TstB.go (fun hw_ ew_ => ?_) (fun hw_ ew_ => ?_)) <;> first | (exfalso; first | omega | with_reducible exact hw_ (by assumption) | with_reducible exact absurd hw_ (by assumption)) | simp [ew_, h])
      | fail)
    simp [takeN, hhd, h, NodeR.zero, NodeR.enc]
end Go.Proofs.Ytilmfmjcemfoeaa
