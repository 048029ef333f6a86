/- Nodes' texts, taken by the reference. -/
import Derived.Test.YtjelapkglkcoiaaNodC
set_option linter.unusedVariables false
set_option linter.unusedSimpArgs false
namespace Go.Proofs.Ytjelapkglkcoiaa
open Go.Cx Tab
set_option maxHeartbeats 400000
set_option maxRecDepth 40000

theorem rntake_ok (s : List UInt8) (hl : s.length ≤ 1099511627776) : PCall Try.prog 33 [S (T s)] (.tup [encN (takeN s).1, S (T (takeN s).2.1), I (takeN s).2.2]) := by
  refine PCall.mk (fun _ => false) Try.func33 rfl rfl rfl (Ent.mk Try.func33 (by kernel_rfl) rfl) (by simp) (by simp) fun hfit => ?_
  have l1 := numR_len (s, 0)
  rcases ha : numR (s, 0) with ⟨a, s1, e1⟩
  have l2 := numR_len (s1, e1)
  rcases hb : numR (s1, e1) with ⟨b, s2, e2⟩
  have l3 := numR_len (s2, e2)
  rcases hc : numR (s2, e2) with ⟨c, s3, e3⟩
  have l4 := textR_len (s3, e3) 4096
  rcases ht : textR (s3, e3) 4096 with ⟨t, s4, e4⟩
  have l5 := numR_len (s4, e4)
  have l6 := numR_lt (s4, e4)
  rcases hm : numR (s4, e4) with ⟨m, s5, e5⟩
  simp only [ha, hb, hc, ht, hm] at l1 l2 l3 l4 l5 l6
  have hhd : headR s = ⟨unfoldS a, unfoldS b, unfoldS c, t, m, (s5, if e5 = 0 ∧ 256 < m then 5 else e5)⟩ := by simp only [headR, ha, hb, hc, ht, hm]
  have ha' : takeS s = (a, s1, e1) := by simpa [numR] using ha
  simp [Try.f33]
  refine AInv.pure (rWhole_ok s hl) rfl ?_
  simp [ha']
  by_cases h1 : e1 = 0
  case neg =>
    simp [numR, h1] at hb
    obtain ⟨rfl, rfl, rfl⟩ := hb
    simp [numR, h1] at hc
    obtain ⟨rfl, rfl, rfl⟩ := hc
    simp [textR, h1] at ht
    obtain ⟨rfl, rfl, rfl⟩ := ht
    simp [numR, h1] at hm
    obtain ⟨rfl, rfl, rfl⟩ := hm
    try simp [h1, takeN, hhd, NodeR.zero, NodeR.enc]
    repeat' (first
      | ((first | refine Tst.go (fun hw_ ew_ => ?_) (fun hw_ ew_ => ?_)) <;> first | (exfalso; first | omega | with_reducible exact hw_ (by assumption) | with_reducible exact absurd hw_ (by assumption)) | (have nw_ := Nw.nw hw_; simp [ew_, nw_, h1, takeN, hhd, NodeR.zero, NodeR.enc]) | simp [ew_, h1, takeN, hhd, NodeR.zero, NodeR.enc])
      | ((first | rw [if_pos (by first | omega | (simp only [maxLen]; omega))] | rw [if_neg (by first | omega | (simp only [maxLen]; omega))] | rw [frzOwn_neat (by simp) (by simp <;> omega)] | rw [fzOwn_neat (by simp) (by simp <;> omega)]); try simp [h1, takeN, hhd, NodeR.zero, NodeR.enc])
      | ((first | refine TstB.go (fun hw_ ew_ => ?_) (fun hw_ ew_ => ?_)) <;> first | (exfalso; first | omega | with_reducible exact hw_ (by assumption) | with_reducible exact absurd hw_ (by assumption)) | simp [ew_, h1, takeN, hhd, NodeR.zero, NodeR.enc])
      | fail)
  subst h1
  have hb' : takeS s1 = (b, s2, e2) := by simpa [numR] using hb
  simp
  refine AInv.pure (rWhole_ok s1 (by omega)) rfl ?_
  simp [hb']
  by_cases h1 : e2 = 0
  case neg =>
    simp [numR, h1] at hc
    obtain ⟨rfl, rfl, rfl⟩ := hc
    simp [textR, h1] at ht
    obtain ⟨rfl, rfl, rfl⟩ := ht
    simp [numR, h1] at hm
    obtain ⟨rfl, rfl, rfl⟩ := hm
    try simp [h1, takeN, hhd, NodeR.zero, NodeR.enc]
    repeat' (first
      | ((first | refine Tst.go (fun hw_ ew_ => ?_) (fun hw_ ew_ => ?_)) <;> first | (exfalso; first | omega | with_reducible exact hw_ (by assumption) | with_reducible exact absurd hw_ (by assumption)) | (have nw_ := Nw.nw hw_; simp [ew_, nw_, h1, takeN, hhd, NodeR.zero, NodeR.enc]) | simp [ew_, h1, takeN, hhd, NodeR.zero, NodeR.enc])
      | ((first | rw [if_pos (by first | omega | (simp only [maxLen]; omega))] | rw [if_neg (by first | omega | (simp only [maxLen]; omega))] | rw [frzOwn_neat (by simp) (by simp <;> omega)] | rw [fzOwn_neat (by simp) (by simp <;> omega)]); try simp [h1, takeN, hhd, NodeR.zero, NodeR.enc])
      | ((first | refine TstB.go (fun hw_ ew_ => ?_) (fun hw_ ew_ => ?_)) <;> first | (exfalso; first | omega | with_reducible exact hw_ (by assumption) | with_reducible exact absurd hw_ (by assumption)) | simp [ew_, h1, takeN, hhd, NodeR.zero, NodeR.enc])
      | fail)
  subst h1
  have hc' : takeS s2 = (c, s3, e3) := by simpa [numR] using hc
  simp
  refine AInv.pure (rWhole_ok s2 (by omega)) rfl ?_
  simp [hc']
  by_cases h1 : e3 = 0
  case neg =>
    simp [textR, h1] at ht
    obtain ⟨rfl, rfl, rfl⟩ := ht
    simp [numR, h1] at hm
    obtain ⟨rfl, rfl, rfl⟩ := hm
    try simp [h1, takeN, hhd, NodeR.zero, NodeR.enc]
    repeat' (first
      | ((first | refine Tst.go (fun hw_ ew_ => ?_) (fun hw_ ew_ => ?_)) <;> first | (exfalso; first | omega | with_reducible exact hw_ (by assumption) | with_reducible exact absurd hw_ (by assumption)) | (have nw_ := Nw.nw hw_; simp [ew_, nw_, h1, takeN, hhd, NodeR.zero, NodeR.enc]) | simp [ew_, h1, takeN, hhd, NodeR.zero, NodeR.enc])
      | ((first | rw [if_pos (by first | omega | (simp only [maxLen]; omega))] | rw [if_neg (by first | omega | (simp only [maxLen]; omega))] | rw [frzOwn_neat (by simp) (by simp <;> omega)] | rw [fzOwn_neat (by simp) (by simp <;> omega)]); try simp [h1, takeN, hhd, NodeR.zero, NodeR.enc])
      | ((first | refine TstB.go (fun hw_ ew_ => ?_) (fun hw_ ew_ => ?_)) <;> first | (exfalso; first | omega | with_reducible exact hw_ (by assumption) | with_reducible exact absurd hw_ (by assumption)) | simp [ew_, h1, takeN, hhd, NodeR.zero, NodeR.enc])
      | fail)
  subst h1
  have ht' : takeTextS s3 4096 = (t, s4, e4) := by simpa [textR] using ht
  simp
  refine AInv.pure (rtakeText_ok s3 4096 (by simp [inI]) (by omega)) rfl ?_
  simp [ht']
  by_cases h1 : e4 = 0
  case neg =>
    simp [numR, h1] at hm
    obtain ⟨rfl, rfl, rfl⟩ := hm
    try simp [h1, takeN, hhd, NodeR.zero, NodeR.enc]
    repeat' (first
      | ((first | refine Tst.go (fun hw_ ew_ => ?_) (fun hw_ ew_ => ?_)) <;> first | (exfalso; first | omega | with_reducible exact hw_ (by assumption) | with_reducible exact absurd hw_ (by assumption)) | (have nw_ := Nw.nw hw_; simp [ew_, nw_, h1, takeN, hhd, NodeR.zero, NodeR.enc]) | simp [ew_, h1, takeN, hhd, NodeR.zero, NodeR.enc])
      | ((first | rw [if_pos (by first | omega | (simp only [maxLen]; omega))] | rw [if_neg (by first | omega | (simp only [maxLen]; omega))] | rw [frzOwn_neat (by simp) (by simp <;> omega)] | rw [fzOwn_neat (by simp) (by simp <;> omega)]); try simp [h1, takeN, hhd, NodeR.zero, NodeR.enc])
      | ((first | refine TstB.go (fun hw_ ew_ => ?_) (fun hw_ ew_ => ?_)) <;> first | (exfalso; first | omega | with_reducible exact hw_ (by assumption) | with_reducible exact absurd hw_ (by assumption)) | simp [ew_, h1, takeN, hhd, NodeR.zero, NodeR.enc])
      | fail)
  subst h1
  have hm' : takeS s4 = (m, s5, e5) := by simpa [numR] using hm
  simp
  refine AInv.pure (rtakeNum_ok s4 (by omega)) rfl ?_
  simp [hm']
  by_cases h1 : e5 = 0
  case neg =>
    try simp [h1, takeN, hhd, NodeR.zero, NodeR.enc]
    repeat' (first
      | ((first | refine Tst.go (fun hw_ ew_ => ?_) (fun hw_ ew_ => ?_)) <;> first | (exfalso; first | omega | with_reducible exact hw_ (by assumption) | with_reducible exact absurd hw_ (by assumption)) | (have nw_ := Nw.nw hw_; simp [ew_, nw_, h1, takeN, hhd, NodeR.zero, NodeR.enc]) | simp [ew_, h1, takeN, hhd, NodeR.zero, NodeR.enc])
      | ((first | rw [if_pos (by first | omega | (simp only [maxLen]; omega))] | rw [if_neg (by first | omega | (simp only [maxLen]; omega))] | rw [frzOwn_neat (by simp) (by simp <;> omega)] | rw [fzOwn_neat (by simp) (by simp <;> omega)]); try simp [h1, takeN, hhd, NodeR.zero, NodeR.enc])
      | ((first | refine TstB.go (fun hw_ ew_ => ?_) (fun hw_ ew_ => ?_)) <;> first | (exfalso; first | omega | with_reducible exact hw_ (by assumption) | with_reducible exact absurd hw_ (by assumption)) | simp [ew_, h1, takeN, hhd, NodeR.zero, NodeR.enc])
      | fail)
  subst h1
  by_cases h : 256 < m
  · try simp [h, takeN, hhd, NodeR.zero, NodeR.enc]
    repeat' (first
      | ((first | refine Tst.go (fun hw_ ew_ => ?_) (fun hw_ ew_ => ?_)) <;> first | (exfalso; first | omega | with_reducible exact hw_ (by assumption) | with_reducible exact absurd hw_ (by assumption)) | (have nw_ := Nw.nw hw_; simp [ew_, nw_, h, takeN, hhd, NodeR.zero, NodeR.enc]) | simp [ew_, h, takeN, hhd, NodeR.zero, NodeR.enc])
      | ((first | rw [if_pos (by first | omega | (simp only [maxLen]; omega))] | rw [if_neg (by first | omega | (simp only [maxLen]; omega))] | rw [frzOwn_neat (by simp) (by simp <;> omega)] | rw [fzOwn_neat (by simp) (by simp <;> omega)]); try simp [h, takeN, hhd, NodeR.zero, NodeR.enc])
      | ((first | refine TstB.go (fun hw_ ew_ => ?_) (fun hw_ ew_ => ?_)) <;> first | (exfalso; first | omega | with_reducible exact hw_ (by assumption) | with_reducible exact absurd hw_ (by assumption)) | simp [ew_, h, takeN, hhd, NodeR.zero, NodeR.enc])
      | fail)
  have htm : takeN s = if (entsAt (s5, 0) m).2.2 ≠ 0 then (.zero, [], (entsAt (s5, 0) m).2.2) else if nodeOk ⟨unfoldS a, unfoldS b, unfoldS c, T t, (entsAt (s5, 0) m).1⟩ = true then (⟨unfoldS a, unfoldS b, unfoldS c, T t, (entsAt (s5, 0) m).1⟩, (entsAt (s5, 0) m).2.1, 0) else (.zero, [], 3) := by simp [takeN, hhd, Hd.node, h]
  try simp [h]
  repeat' (first
    | ((first | refine Tst.go (fun hw_ ew_ => ?_) (fun hw_ ew_ => ?_)) <;> first | (exfalso; first | omega | with_reducible exact hw_ (by assumption) | with_reducible exact absurd hw_ (by assumption)) | (have nw_ := Nw.nw hw_; simp [ew_, nw_, h]) | simp [ew_, h])
    | ((first | rw [if_pos (by first | omega | (simp only [maxLen]; omega))] | rw [if_neg (by first | omega | (simp only [maxLen]; omega))] | rw [frzOwn_neat (by simp) (by simp <;> omega)] | rw [fzOwn_neat (by simp) (by simp <;> omega)]); try simp [h])
    | ((first | refine TstB.go (fun hw_ ew_ => ?_) (fun hw_ ew_ => ?_)) <;> first | (exfalso; first | omega | with_reducible exact hw_ (by assumption) | with_reducible exact absurd hw_ (by assumption)) | simp [ew_, h])
    | fail)
  refine AW.loopG (lit := fun _ => false) (fun i : Nat => ⟨123, pat [(0, S (T (entsAt (s5, 0) i).2.1)), (2, .ptr 0 0 0), (13, U m), (15, .ptr 1 0 0), (16, U i)], .cells 0 [I 0, I 0, I 0, S .empty, .sl true 0 []] :: .cells 0 [I (unfoldS a), I (unfoldS b), I (unfoldS c), S (T t), if i = 0 then .sl true 0 [] else .own 2 (i - 1) 0 i 2] :: (if i = 0 then [] else [.cells (i - 1) ((entsAt (s5, 0) i).1.flatMap EntryR.enc)])⟩) (fun i => m - i) (fun i => i ≤ m ∧ (entsAt (s5, 0) i).2.2 = 0) 0 ?_ ?_ ?_
  · exact Wk.at _ rfl (by simp [entsAt]) (by simp [entsAt])
  · simp [entsAt]
  rintro i ⟨hi, hi0⟩ A2 hA2
  have q1 := entsAt_rest (s5, 0) i
  have q2 := entsAt_len (s5, 0) i
  rcases hp : entsAt (s5, 0) i with ⟨p, r, e⟩
  simp only [hp] at q1 q2 hi0
  subst hi0
  by_cases hi2 : i < m
  case neg =>
    have him : m = i := by omega
    subst him
    rw [hp] at htm
    cases m with
    | zero =>
      have hp0 : p = [] := List.eq_nil_of_length_eq_zero q2
      subst hp0
      cases hn : nodeOk ⟨unfoldS a, unfoldS b, unfoldS c, T t, []⟩ with
      | true =>
        try simp [hp, htm, hn, NodeR.enc]
        repeat' (first
          | ((first | refine Tst.go (fun hw_ ew_ => ?_) (fun hw_ ew_ => ?_)) <;> first | (exfalso; first | omega | with_reducible exact hw_ (by assumption) | with_reducible exact absurd hw_ (by assumption)) | (have nw_ := Nw.nw hw_; simp [ew_, nw_, hp, htm, hn, NodeR.enc]) | simp [ew_, hp, htm, hn, NodeR.enc])
          | ((first | (refine Lc.go (rnright_ok ⟨unfoldS a, unfoldS b, unfoldS c, T t, []⟩) rfl ?_ ?_; focus (first | (simp [hp, htm, hn, NodeR.enc]; done) | (simp; rw [frzOwn_neat (by simp) (by simp <;> omega)]; simp [hp, htm, hn, NodeR.enc]; done))) | rw [if_pos (by first | omega | (simp only [maxLen]; omega))] | rw [if_neg (by first | omega | (simp only [maxLen]; omega))] | rw [frzOwn_neat (by simp) (by simp <;> omega)] | rw [fzOwn_neat (by simp) (by simp <;> omega)]); try simp [hp, htm, hn, NodeR.enc])
          | ((first | refine TstB.go (fun hw_ ew_ => ?_) (fun hw_ ew_ => ?_)) <;> first | (exfalso; first | omega | with_reducible exact hw_ (by assumption) | with_reducible exact absurd hw_ (by assumption)) | simp [ew_, hp, htm, hn, NodeR.enc])
          | fail)
      | false =>
        try simp [hp, htm, hn, NodeR.enc, NodeR.zero]
        repeat' (first
          | ((first | refine Tst.go (fun hw_ ew_ => ?_) (fun hw_ ew_ => ?_)) <;> first | (exfalso; first | omega | with_reducible exact hw_ (by assumption) | with_reducible exact absurd hw_ (by assumption)) | (have nw_ := Nw.nw hw_; simp [ew_, nw_, hp, htm, hn, NodeR.enc, NodeR.zero]) | simp [ew_, hp, htm, hn, NodeR.enc, NodeR.zero])
          | ((first | (refine Lc.go (rnright_ok ⟨unfoldS a, unfoldS b, unfoldS c, T t, []⟩) rfl ?_ ?_; focus (first | (simp [hp, htm, hn, NodeR.enc, NodeR.zero]; done) | (simp; rw [frzOwn_neat (by simp) (by simp <;> omega)]; simp [hp, htm, hn, NodeR.enc, NodeR.zero]; done))) | rw [if_pos (by first | omega | (simp only [maxLen]; omega))] | rw [if_neg (by first | omega | (simp only [maxLen]; omega))] | rw [frzOwn_neat (by simp) (by simp <;> omega)] | rw [fzOwn_neat (by simp) (by simp <;> omega)]); try simp [hp, htm, hn, NodeR.enc, NodeR.zero])
          | ((first | refine TstB.go (fun hw_ ew_ => ?_) (fun hw_ ew_ => ?_)) <;> first | (exfalso; first | omega | with_reducible exact hw_ (by assumption) | with_reducible exact absurd hw_ (by assumption)) | simp [ew_, hp, htm, hn, NodeR.enc, NodeR.zero])
          | fail)
    | succ i =>
      have hgive : ([.agg [I (unfoldS a), I (unfoldS b), I (unfoldS c), S (T t), .own 2 i 0 (i + 1) 2]].mapM (frz [.cells 0 [I 0, I 0, I 0, S .empty, .sl true 0 []], .cells 0 [I (unfoldS a), I (unfoldS b), I (unfoldS c), S (T t), .own 2 i 0 (i + 1) 2], .cells i (p.flatMap EntryR.enc)] 0 12) : Option (List AV)) = some [encN ⟨unfoldS a, unfoldS b, unfoldS c, T t, p⟩] := by
        simp
        rw [frzOwn_neat (by simp) (by simp <;> omega)]
        simp [NodeR.enc, q2]
      cases hn : nodeOk ⟨unfoldS a, unfoldS b, unfoldS c, T t, p⟩ with
      | true =>
        try simp [hp, htm, hn, NodeR.enc]
        repeat' (first
          | ((first | refine Tst.go (fun hw_ ew_ => ?_) (fun hw_ ew_ => ?_)) <;> first | (exfalso; first | omega | with_reducible exact hw_ (by assumption) | with_reducible exact absurd hw_ (by assumption)) | (have nw_ := Nw.nw hw_; simp [ew_, nw_, hp, htm, hn, NodeR.enc]) | simp [ew_, hp, htm, hn, NodeR.enc])
          | (refine AInv.lend (rnright_ok ⟨unfoldS a, unfoldS b, unfoldS c, T t, p⟩) rfl hgive ?_; simp [hp, htm, hn, NodeR.enc, NodeR.zero])
          | ((first | rw [if_pos (by first | omega | (simp only [maxLen]; omega))] | rw [if_neg (by first | omega | (simp only [maxLen]; omega))] | rw [frzOwn_neat (by simp) (by simp <;> omega)] | rw [fzOwn_neat (by simp) (by simp <;> omega)]); try simp [hp, htm, hn, NodeR.enc])
          | ((first | refine TstB.go (fun hw_ ew_ => ?_) (fun hw_ ew_ => ?_)) <;> first | (exfalso; first | omega | with_reducible exact hw_ (by assumption) | with_reducible exact absurd hw_ (by assumption)) | simp [ew_, hp, htm, hn, NodeR.enc])
          | fail)
        all_goals exact q2.symm
      | false =>
        try simp [hp, htm, hn, NodeR.enc, NodeR.zero]
        repeat' (first
          | ((first | refine Tst.go (fun hw_ ew_ => ?_) (fun hw_ ew_ => ?_)) <;> first | (exfalso; first | omega | with_reducible exact hw_ (by assumption) | with_reducible exact absurd hw_ (by assumption)) | (have nw_ := Nw.nw hw_; simp [ew_, nw_, hp, htm, hn, NodeR.enc, NodeR.zero]) | simp [ew_, hp, htm, hn, NodeR.enc, NodeR.zero])
          | (refine AInv.lend (rnright_ok ⟨unfoldS a, unfoldS b, unfoldS c, T t, p⟩) rfl hgive ?_; simp [hp, htm, hn, NodeR.enc, NodeR.zero])
          | ((first | rw [if_pos (by first | omega | (simp only [maxLen]; omega))] | rw [if_neg (by first | omega | (simp only [maxLen]; omega))] | rw [frzOwn_neat (by simp) (by simp <;> omega)] | rw [fzOwn_neat (by simp) (by simp <;> omega)]); try simp [hp, htm, hn, NodeR.enc, NodeR.zero])
          | ((first | refine TstB.go (fun hw_ ew_ => ?_) (fun hw_ ew_ => ?_)) <;> first | (exfalso; first | omega | with_reducible exact hw_ (by assumption) | with_reducible exact absurd hw_ (by assumption)) | simp [ew_, hp, htm, hn, NodeR.enc, NodeR.zero])
          | fail)
  have q3 := textR_len (r, 0) 32
  rcases hx : textR (r, 0) 32 with ⟨x, r1, f1⟩
  have q4 := numR_len (r1, f1)
  rcases hy : numR (r1, f1) with ⟨y, r2, f2⟩
  simp only [hx, hy] at q3 q4
  have hs : entsAt (s5, 0) (i + 1) = (p ++ [⟨T x, unfoldS y⟩], (r2, f2)) := by simp only [entsAt, entStep, hp, hx, hy]
  have hx' : takeTextS r 32 = (x, r1, f1) := by simpa [textR] using hx
  have hbad : f2 ≠ 0 → takeN s = (.zero, [], f2) := fun hf => by
    have := entsAt_bad (r := (s5, 0)) (i := i + 1) (by rw [hs]; exact hf) m (by omega)
    rw [hs] at this
    rw [htm, this]
    simp [hf]
  have hw : ((i : Int) + 1) % 18446744073709551616 = (i : Int) + 1 := by omega
  cases i with
  | zero =>
    have hp0 : p = [] := List.eq_nil_of_length_eq_zero q2
    subst hp0
    simp [hi2, hp]
    refine AInv.pure (rtakeText_ok r 32 (by simp [inI]) (by omega)) rfl ?_
    simp [hx']
    by_cases h1 : f1 = 0
    case neg =>
      simp [numR, h1] at hy
      obtain ⟨rfl, rfl, rfl⟩ := hy
      have := hbad h1
      try simp [h1, this, NodeR.zero, NodeR.enc]
      repeat' (first
        | ((first | refine Tst.go (fun hw_ ew_ => ?_) (fun hw_ ew_ => ?_)) <;> first | (exfalso; first | omega | with_reducible exact hw_ (by assumption) | with_reducible exact absurd hw_ (by assumption)) | (have nw_ := Nw.nw hw_; simp [ew_, nw_, h1, this, NodeR.zero, NodeR.enc]) | simp [ew_, h1, this, NodeR.zero, NodeR.enc])
        | ((first | rw [if_pos (by first | omega | (simp only [maxLen]; omega))] | rw [if_neg (by first | omega | (simp only [maxLen]; omega))] | rw [frzOwn_neat (by simp) (by simp <;> omega)] | rw [fzOwn_neat (by simp) (by simp <;> omega)]); try simp [h1, this, NodeR.zero, NodeR.enc])
        | ((first | refine TstB.go (fun hw_ ew_ => ?_) (fun hw_ ew_ => ?_)) <;> first | (exfalso; first | omega | with_reducible exact hw_ (by assumption) | with_reducible exact absurd hw_ (by assumption)) | simp [ew_, h1, this, NodeR.zero, NodeR.enc])
        | fail)
    subst h1
    have hy' : takeS r1 = (y, r2, f2) := by simpa [numR] using hy
    simp
    refine AInv.pure (rWhole_ok r1 (by omega)) rfl ?_
    simp [hy']
    by_cases h1 : f2 = 0
    case neg =>
      have := hbad h1
      try simp [h1, this, NodeR.zero, NodeR.enc]
      repeat' (first
        | ((first | refine Tst.go (fun hw_ ew_ => ?_) (fun hw_ ew_ => ?_)) <;> first | (exfalso; first | omega | with_reducible exact hw_ (by assumption) | with_reducible exact absurd hw_ (by assumption)) | (have nw_ := Nw.nw hw_; simp [ew_, nw_, h1, this, NodeR.zero, NodeR.enc]) | simp [ew_, h1, this, NodeR.zero, NodeR.enc])
        | ((first | rw [if_pos (by first | omega | (simp only [maxLen]; omega))] | rw [if_neg (by first | omega | (simp only [maxLen]; omega))] | rw [frzOwn_neat (by simp) (by simp <;> omega)] | rw [fzOwn_neat (by simp) (by simp <;> omega)]); try simp [h1, this, NodeR.zero, NodeR.enc])
        | ((first | refine TstB.go (fun hw_ ew_ => ?_) (fun hw_ ew_ => ?_)) <;> first | (exfalso; first | omega | with_reducible exact hw_ (by assumption) | with_reducible exact absurd hw_ (by assumption)) | simp [ew_, h1, this, NodeR.zero, NodeR.enc])
        | fail)
    subst h1
    try simp
    repeat' (first
      | ((first | refine Tst.go (fun hw_ ew_ => ?_) (fun hw_ ew_ => ?_)) <;> first | (exfalso; first | omega | with_reducible exact hw_ (by assumption) | with_reducible exact absurd hw_ (by assumption)) | (have nw_ := Nw.nw hw_; simp [ew_, nw_]) | simp [ew_])
      | ((first | rw [if_pos (by first | omega | (simp only [maxLen]; omega))] | rw [if_neg (by first | omega | (simp only [maxLen]; omega))] | rw [frzOwn_neat (by simp) (by simp <;> omega)] | rw [fzOwn_neat (by simp) (by simp <;> omega)]); try simp)
      | ((first | refine TstB.go (fun hw_ ew_ => ?_) (fun hw_ ew_ => ?_)) <;> first | (exfalso; first | omega | with_reducible exact hw_ (by assumption) | with_reducible exact absurd hw_ (by assumption)) | simp [ew_])
      | fail)
    exact hA2 1 _ (Wk.at _ rfl (by simp [hs, EntryR.enc]) (by simp [hs])) ⟨by omega, by rw [hs]⟩ (by omega)
  | succ i =>
    have hi3 : (i : Int) + 1 < (m : Int) := by omega
    simp [hi3, hp]
    refine AInv.pure (rtakeText_ok r 32 (by simp [inI]) (by omega)) rfl ?_
    simp [hx']
    by_cases h1 : f1 = 0
    case neg =>
      simp [numR, h1] at hy
      obtain ⟨rfl, rfl, rfl⟩ := hy
      have := hbad h1
      try simp [h1, this, NodeR.zero, NodeR.enc]
      repeat' (first
        | ((first | refine Tst.go (fun hw_ ew_ => ?_) (fun hw_ ew_ => ?_)) <;> first | (exfalso; first | omega | with_reducible exact hw_ (by assumption) | with_reducible exact absurd hw_ (by assumption)) | (have nw_ := Nw.nw hw_; simp [ew_, nw_, h1, this, NodeR.zero, NodeR.enc]) | simp [ew_, h1, this, NodeR.zero, NodeR.enc])
        | ((first | rw [if_pos (by first | omega | (simp only [maxLen]; omega))] | rw [if_neg (by first | omega | (simp only [maxLen]; omega))] | rw [frzOwn_neat (by simp) (by simp <;> omega)] | rw [fzOwn_neat (by simp) (by simp <;> omega)]); try simp [h1, this, NodeR.zero, NodeR.enc])
        | ((first | refine TstB.go (fun hw_ ew_ => ?_) (fun hw_ ew_ => ?_)) <;> first | (exfalso; first | omega | with_reducible exact hw_ (by assumption) | with_reducible exact absurd hw_ (by assumption)) | simp [ew_, h1, this, NodeR.zero, NodeR.enc])
        | fail)
    subst h1
    have hy' : takeS r1 = (y, r2, f2) := by simpa [numR] using hy
    simp
    refine AInv.pure (rWhole_ok r1 (by omega)) rfl ?_
    simp [hy']
    by_cases h1 : f2 = 0
    case neg =>
      have := hbad h1
      try simp [h1, this, NodeR.zero, NodeR.enc]
      repeat' (first
        | ((first | refine Tst.go (fun hw_ ew_ => ?_) (fun hw_ ew_ => ?_)) <;> first | (exfalso; first | omega | with_reducible exact hw_ (by assumption) | with_reducible exact absurd hw_ (by assumption)) | (have nw_ := Nw.nw hw_; simp [ew_, nw_, h1, this, NodeR.zero, NodeR.enc]) | simp [ew_, h1, this, NodeR.zero, NodeR.enc])
        | ((first | rw [if_pos (by first | omega | (simp only [maxLen]; omega))] | rw [if_neg (by first | omega | (simp only [maxLen]; omega))] | rw [frzOwn_neat (by simp) (by simp <;> omega)] | rw [fzOwn_neat (by simp) (by simp <;> omega)]); try simp [h1, this, NodeR.zero, NodeR.enc])
        | ((first | refine TstB.go (fun hw_ ew_ => ?_) (fun hw_ ew_ => ?_)) <;> first | (exfalso; first | omega | with_reducible exact hw_ (by assumption) | with_reducible exact absurd hw_ (by assumption)) | simp [ew_, h1, this, NodeR.zero, NodeR.enc])
        | fail)
    subst h1
    try simp
    repeat' (first
      | ((first | refine Tst.go (fun hw_ ew_ => ?_) (fun hw_ ew_ => ?_)) <;> first | (exfalso; first | omega | with_reducible exact hw_ (by assumption) | with_reducible exact absurd hw_ (by assumption)) | (have nw_ := Nw.nw hw_; simp [ew_, nw_]) | simp [ew_])
      | ((first | rw [if_pos (by first | omega | (simp only [maxLen]; omega))] | rw [if_neg (by first | omega | (simp only [maxLen]; omega))] | rw [frzOwn_neat (by simp) (by simp <;> omega)] | rw [fzOwn_neat (by simp) (by simp <;> omega)]); try simp)
      | ((first | refine TstB.go (fun hw_ ew_ => ?_) (fun hw_ ew_ => ?_)) <;> first | (exfalso; first | omega | with_reducible exact hw_ (by assumption) | with_reducible exact absurd hw_ (by assumption)) | simp [ew_])
      | fail)
    exact hA2 (i + 2) _ (Wk.at _ rfl (by simp [hs, EntryR.enc]) (by simp [hs]; omega)) ⟨by omega, by rw [hs]⟩ (by omega)
end Go.Proofs.Ytjelapkglkcoiaa
