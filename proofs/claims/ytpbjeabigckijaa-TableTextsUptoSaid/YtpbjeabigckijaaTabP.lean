/- Rows, taken. -/
import Derived.Test.YtpbjeabigckijaaTabN
import Derived.Test.YtpbjeabigckijaaBi
set_option linter.unusedVariables false
set_option linter.unusedSimpArgs false
namespace Go.Proofs.Ytpbjeabigckijaa
open Go.Cx Tab
set_option maxHeartbeats 400000
set_option maxRecDepth 40000

theorem blockA {P : Program} {n id : Nat} {c : Code} {Q : Exit → AState → Prop} {s : AState} (hx : AW P n c (inBlockA id Q) s) : AW P n (.block id c) Q s := fun Z κ a w r hn => by
  refine wp_block (wp_mono (hx Z κ a w r hn) fun e a' w' ha => ?_)
  cases e with
  | exit id' =>
    show if id' = id then After n (Q .normal) Z κ w a' w' else After n (Q (.exit id')) Z κ w a' w'
    by_cases he : id' = id
    · rw [if_pos he]; exact ha.mono fun s h => by simpa [inBlockA, he] using h
    · rw [if_neg he]; exact ha.mono fun s h => by simpa [inBlockA, he] using h
  | normal => exact ha
  | goto l => exact ha
  | ret => exact ha
  | panic ch => exact ha
  | outgrown => exact ha
theorem seqW {P : Program} {n : Nat} {x y : Code} {Q : Exit → AState → Prop} {s : AState} (hx : AW P n x (thenA (AW P n y Q) Q) s) : AW P n (.seq x y) Q s := fun Z κ a w r hn => by
  refine wp_seq (wp_mono (hx Z κ a w r hn) fun e a' w' ha => ?_)
  cases e with
  | normal =>
    obtain ⟨s', Z', κ', hq, r', ex, st, hn'⟩ := ha
    exact wp_mono (hq Z' κ' a' w' r' hn') fun e2 a2 w2 h2 => h2.trans ex st
  | exit id => exact ha
  | goto l => exact ha
  | ret => exact ha
  | panic ch => exact ha
  | outgrown => exact ha
theorem T_nil14 (r : List UInt8) : T r = (⟨#[]⟩ : ByteArray) ↔ r = [] := by
  constructor
  · intro h
    have := congrArg bs h
    rw [bs_T] at this
    exact this
  · intro h; subst h; rfl
theorem takeT_bad {s : List UInt8} {a : Rt} (h : takenT s = a) (he : a.r.2 ≠ 0) : takeT s = ([], a.r.2) := by
  unfold takeT; rw [h, if_pos he]
theorem takeT_odd {s : List UInt8} {a : Rt} (h : takenT s = a) (he : a.r.2 = 0) (hq : ¬ (a.odd = false ∧ a.r.1 = [] ∧ RightT a.l)) : takeT s = ([], 3) := by
  unfold takeT; rw [h, if_neg (by simp [he]), if_neg hq]
theorem takeT_ok {s : List UInt8} {a : Rt} (h : takenT s = a) (he : a.r.2 = 0) (hq : a.odd = false ∧ a.r.1 = [] ∧ RightT a.l) : takeT s = (a.l, 0) := by
  unfold takeT; rw [h, if_neg (by simp [he]), if_pos hq]
theorem ttake14_ok (s : List UInt8) (hl : s.length ≤ 1099511627776) : PCall Try.prog 22 [S (T s)] (.tup [encL RowR.enc (takeT s).1, I (takeT s).2]) := by
  have l0 := numM_len 64 (s, 0)
  have m0 := numM_lt 64 (s, 0)
  have hT : takenT s = rowsT (numM 64 (s, 0)).1 ⟨[], false, (numM 64 (s, 0)).2⟩ := rfl
  have hn := num_taker 0 s 0 64 (by omega) [] hl (by simp)
  have hm64 := @numM_le 64 (s, 0)
  rcases hm : numM 64 (s, 0) with ⟨m, r0⟩
  rw [hm] at l0 m0 hT hn hm64
  simp only at l0 m0 hT hn hm64
  refine PCall.mk (fun _ => false) Try.func22 rfl rfl rfl (Ent.mk Try.func22 (by kernel_rfl) rfl) (by simp) (by simp) fun hfit => ?_
  simp [Try.f22]
  try simp
  repeat' (first
    | ((first | refine Tst.go (fun hw_ ew_ => ?_) (fun hw_ ew_ => ?_)) <;> first | (exfalso; first | omega | with_reducible exact hw_ (by assumption) | with_reducible exact absurd hw_ (by assumption)) | (have nw_ := Nw.nw hw_; simp [ew_, nw_]) | simp [ew_])
    | (refine AInv.heap [0] hn (by simp) (by simp) ?_; simp)
    | ((first | refine AW.draw (id := 17) Try.checked.mixed (fun _ => false) [] [] 6 (by kernel_rfl) ?_ | rw [if_pos (by first | omega | (simp only [maxLen]; omega))] | rw [if_neg (by first | omega | (simp only [maxLen]; omega))] | rw [frzOwn_neat (by simp) (by simp <;> omega)] | rw [fzOwn_neat (by simp) (by simp <;> omega)]); try simp)
    | ((first | refine TstB.go (fun hw_ ew_ => ?_) (fun hw_ ew_ => ?_)) <;> first | (exfalso; first | omega | with_reducible exact hw_ (by assumption) | with_reducible exact absurd hw_ (by assumption)) | simp [ew_])
    | fail)
  refine AW.loopGW (fun x : Nat × Rt => ⟨100, pat [(4, .ptr 0 0 0), (5, .own 1 x.2.l.length 0 x.2.l.length 4), (6, B x.2.odd), (7, U x.1), (8, U m)], [.cells 0 [S (T x.2.r.1), I x.2.r.2], .cells x.2.l.length (x.2.l.flatMap RowR.enc)]⟩) (fun x => m - x.1)
    (fun x => x.1 ≤ m ∧ x.2.l.length = x.1 ∧ rowsT (m - x.1) x.2 = takenT s ∧ x.2.r.1.length ≤ s.length ∧ (x.1 < m → m ≤ 64 ∨ x.2.r.2 ≠ 0)) (0, ⟨[], false, r0⟩) ?_ ?_ ?_
  · exact Wk.trans (Wk.ownNil 5 4 (by simp)) (Wk.at _ rfl (by simp) (by simp))
  · exact ⟨by simp, rfl, by rw [hT]; rfl, l0, fun h => by by_cases q : r0.2 = 0; (· exact .inl (hm64 q)); exact .inr q⟩
  rintro ⟨i, a⟩ ⟨g1, g2, g3, g4, g5⟩ A hA
  simp only at g1 g2 g3 g4 g5 hA
  obtain ⟨al, ao, ar, ae⟩ := a
  simp only at g2 g4 g5 hA ⊢
  by_cases he : ae = 0
  case neg =>
    have e1 : takenT s = ⟨al, ao, ar, ae⟩ := by rw [← g3]; exact rowsT_bad he _
    rw [takeT_bad e1 he]
    refine AX_ok (lit := fun _ => false) _ _ _ ?_
    by_cases hi : i < m
    · try simp [hi, he]
      repeat' (first
        | ((first | refine Tst.go (fun hw_ ew_ => ?_) (fun hw_ ew_ => ?_)) <;> first | (exfalso; first | omega | with_reducible exact hw_ (by assumption) | with_reducible exact absurd hw_ (by assumption)) | (have nw_ := Nw.nw hw_; simp [ew_, nw_, hi, he]) | simp [ew_, hi, he])
        | ((first | refine AW.draw (id := 17) Try.checked.mixed (fun _ => false) [] [] 6 (by kernel_rfl) ?_ | rw [if_pos (by first | omega | (simp only [maxLen]; omega))] | rw [if_neg (by first | omega | (simp only [maxLen]; omega))] | rw [frzOwn_neat (by simp) (by simp <;> omega)] | rw [fzOwn_neat (by simp) (by simp <;> omega)]); try simp [hi, he])
        | ((first | refine TstB.go (fun hw_ ew_ => ?_) (fun hw_ ew_ => ?_)) <;> first | (exfalso; first | omega | with_reducible exact hw_ (by assumption) | with_reducible exact absurd hw_ (by assumption)) | simp [ew_, hi, he])
        | fail)
    · try simp [hi, he]
      repeat' (first
        | ((first | refine Tst.go (fun hw_ ew_ => ?_) (fun hw_ ew_ => ?_)) <;> first | (exfalso; first | omega | with_reducible exact hw_ (by assumption) | with_reducible exact absurd hw_ (by assumption)) | (have nw_ := Nw.nw hw_; simp [ew_, nw_, hi, he]) | simp [ew_, hi, he])
        | ((first | refine AW.draw (id := 17) Try.checked.mixed (fun _ => false) [] [] 6 (by kernel_rfl) ?_ | rw [if_pos (by first | omega | (simp only [maxLen]; omega))] | rw [if_neg (by first | omega | (simp only [maxLen]; omega))] | rw [frzOwn_neat (by simp) (by simp <;> omega)] | rw [fzOwn_neat (by simp) (by simp <;> omega)]); try simp [hi, he])
        | ((first | refine TstB.go (fun hw_ ew_ => ?_) (fun hw_ ew_ => ?_)) <;> first | (exfalso; first | omega | with_reducible exact hw_ (by assumption) | with_reducible exact absurd hw_ (by assumption)) | simp [ew_, hi, he])
        | fail)
  subst he
  by_cases hi : i < m
  case neg =>
    have e1 : takenT s = ⟨al, ao, ar, 0⟩ := by rw [← g3, show m - i = 0 by omega]; rfl
    refine AX_ok (lit := fun _ => false) _ _ _ ?_
    cases ao with
    | true =>
      rw [takeT_odd e1 rfl (by simp)]
      try simp [hi]
      repeat' (first
        | ((first | refine Tst.go (fun hw_ ew_ => ?_) (fun hw_ ew_ => ?_)) <;> first | (exfalso; first | omega | with_reducible exact hw_ (by assumption) | with_reducible exact absurd hw_ (by assumption)) | (have nw_ := Nw.nw hw_; simp [ew_, nw_, hi]) | simp [ew_, hi])
        | ((first | refine AW.draw (id := 17) Try.checked.mixed (fun _ => false) [] [] 6 (by kernel_rfl) ?_ | rw [if_pos (by first | omega | (simp only [maxLen]; omega))] | rw [if_neg (by first | omega | (simp only [maxLen]; omega))] | rw [frzOwn_neat (by simp) (by simp <;> omega)] | rw [fzOwn_neat (by simp) (by simp <;> omega)]); try simp [hi])
        | ((first | refine TstB.go (fun hw_ ew_ => ?_) (fun hw_ ew_ => ?_)) <;> first | (exfalso; first | omega | with_reducible exact hw_ (by assumption) | with_reducible exact absurd hw_ (by assumption)) | simp [ew_, hi])
        | fail)
    | false =>
      by_cases hr : ar = []
      case neg =>
        have hre : ¬ T ar = (⟨#[]⟩ : ByteArray) := fun h => hr ((T_nil14 ar).1 h)
        rw [takeT_odd e1 rfl (by simp [hr])]
        try simp [hi, hre]
        repeat' (first
          | ((first | refine Tst.go (fun hw_ ew_ => ?_) (fun hw_ ew_ => ?_)) <;> first | (exfalso; first | omega | with_reducible exact hw_ (by assumption) | with_reducible exact absurd hw_ (by assumption)) | (have nw_ := Nw.nw hw_; simp [ew_, nw_, hi, hre]) | simp [ew_, hi, hre])
          | ((first | refine AW.draw (id := 17) Try.checked.mixed (fun _ => false) [] [] 6 (by kernel_rfl) ?_ | rw [if_pos (by first | omega | (simp only [maxLen]; omega))] | rw [if_neg (by first | omega | (simp only [maxLen]; omega))] | rw [frzOwn_neat (by simp) (by simp <;> omega)] | rw [fzOwn_neat (by simp) (by simp <;> omega)]); try simp [hi, hre])
          | ((first | refine TstB.go (fun hw_ ew_ => ?_) (fun hw_ ew_ => ?_)) <;> first | (exfalso; first | omega | with_reducible exact hw_ (by assumption) | with_reducible exact absurd hw_ (by assumption)) | simp [ew_, hi, hre])
          | fail)
      have hre := (T_nil14 ar).2 hr
      have h3 := right14_ok al
      cases hR : rightT al with
      | false =>
        rw [hR] at h3
        have hq : ¬ RightT al := fun R => by rw [(rightT_iff al).2 R] at hR; cases hR
        rw [takeT_odd e1 rfl (by simp [hq])]
        try simp [hi, hre]
        repeat' (first
          | ((first | refine Tst.go (fun hw_ ew_ => ?_) (fun hw_ ew_ => ?_)) <;> first | (exfalso; first | omega | with_reducible exact hw_ (by assumption) | with_reducible exact absurd hw_ (by assumption)) | (have nw_ := Nw.nw hw_; simp [ew_, nw_, hi, hre]) | simp [ew_, hi, hre])
          | ((first | (refine Lc.go (h3) rfl ?_ ?_; focus (first | (simp [hi, hre]; done) | (simp; rw [frzOwn_neat (by simp) (by simp <;> omega)]; simp [hi, hre]; done))) | refine AW.draw (id := 17) Try.checked.mixed (fun _ => false) [] [] 6 (by kernel_rfl) ?_ | rw [if_pos (by first | omega | (simp only [maxLen]; omega))] | rw [if_neg (by first | omega | (simp only [maxLen]; omega))] | rw [frzOwn_neat (by simp) (by simp <;> omega)] | rw [fzOwn_neat (by simp) (by simp <;> omega)]); try simp [hi, hre])
          | ((first | refine TstB.go (fun hw_ ew_ => ?_) (fun hw_ ew_ => ?_)) <;> first | (exfalso; first | omega | with_reducible exact hw_ (by assumption) | with_reducible exact absurd hw_ (by assumption)) | simp [ew_, hi, hre])
          | fail)
      | true =>
        rw [hR] at h3
        rw [takeT_ok e1 rfl ⟨rfl, hr, (rightT_iff al).1 hR⟩]
        try simp [hi, hre]
        repeat' (first
          | ((first | refine Tst.go (fun hw_ ew_ => ?_) (fun hw_ ew_ => ?_)) <;> first | (exfalso; first | omega | with_reducible exact hw_ (by assumption) | with_reducible exact absurd hw_ (by assumption)) | (have nw_ := Nw.nw hw_; simp [ew_, nw_, hi, hre]) | simp [ew_, hi, hre])
          | ((first | (refine Lc.go (h3) rfl ?_ ?_; focus (first | (simp [hi, hre]; done) | (simp; rw [frzOwn_neat (by simp) (by simp <;> omega)]; simp [hi, hre]; done))) | refine AW.draw (id := 17) Try.checked.mixed (fun _ => false) [] [] 6 (by kernel_rfl) ?_ | rw [if_pos (by first | omega | (simp only [maxLen]; omega))] | rw [if_neg (by first | omega | (simp only [maxLen]; omega))] | rw [frzOwn_neat (by simp) (by simp <;> omega)] | rw [fzOwn_neat (by simp) (by simp <;> omega)]); try simp [hi, hre])
          | ((first | refine TstB.go (fun hw_ ew_ => ?_) (fun hw_ ew_ => ?_)) <;> first | (exfalso; first | omega | with_reducible exact hw_ (by assumption) | with_reducible exact absurd hw_ (by assumption)) | simp [ew_, hi, hre])
          | fail)
  -- ROUND
  have l1 := numR_len (ar, 0)
  have q1 := whole_taker 0 ar 0 [] (by omega) (by simp)
  rcases hc : numR (ar, 0) with ⟨c, s1, e1⟩
  rw [hc] at l1 q1
  simp only at l1 q1
  have l2 := numR_len (s1, e1)
  have q2 := whole_taker 0 s1 e1 [] (by omega) (by simp)
  rcases he : numR (s1, e1) with ⟨e, s2, e2⟩
  rw [he] at l2 q2
  simp only at l2 q2
  have l3 := numR_len (s2, e2)
  have q3 := whole_taker 0 s2 e2 [] (by omega) (by simp)
  rcases hd : numR (s2, e2) with ⟨d, s3, e3⟩
  rw [hd] at l3 q3
  simp only at l3 q3
  have l4 := numM_len 256 (s3, e3)
  have n4 := numM_lt 256 (s3, e3)
  have q4 := num_taker 0 s3 e3 256 (by omega) [] (by omega) (by simp)
  have hn256 := @numM_le 256 (s3, e3)
  rcases hnn : numM 256 (s3, e3) with ⟨n, s4, e4⟩
  rw [hnn] at l4 n4 q4 hn256
  simp only at l4 n4 q4 hn256
  have hhd : Rt.head ⟨al, ao, (ar, 0)⟩ = (n, (s4, e4)) := by simp only [Rt.head, hc, he, hd, hnn]
  have hin : Rt.inner ⟨al, ao, (ar, 0)⟩ = decsT n ⟨[], ao, (s4, e4)⟩ := by simp only [Rt.inner, hhd]
  rw [show m - i = (m - (i + 1)) + 1 by omega, rowsT_succ rfl] at g3
  have hst : Rt.step ⟨al, ao, (ar, 0)⟩ = ⟨al ++ [⟨unfoldS c, unfoldS e, unfoldS d, (decsT n ⟨[], ao, (s4, e4)⟩).l⟩], (decsT n ⟨[], ao, (s4, e4)⟩).odd, (decsT n ⟨[], ao, (s4, e4)⟩).r⟩ := by
    simp only [Rt.step, hin, hc, he, hd]
  rw [hst] at g3
  have l5 := decsT_len n ⟨[], ao, (s4, e4)⟩
  simp only at l5
  have hm64' : m ≤ 64 := by rcases g5 hi with q | q; (· exact q); exact absurd rfl q
  refine AW.seqA (lit := fun _ => false) ?_
  try simp [hi]
  repeat' (first
    | ((first | refine Tst.go (fun hw_ ew_ => ?_) (fun hw_ ew_ => ?_)) <;> first | (exfalso; first | omega | with_reducible exact hw_ (by assumption) | with_reducible exact absurd hw_ (by assumption)) | (have nw_ := Nw.nw hw_; simp [ew_, nw_, hi]) | simp [ew_, hi])
    | ((first | refine AW.draw (id := 17) Try.checked.mixed (fun _ => false) [] [] 6 (by kernel_rfl) ?_ | rw [if_pos (by first | omega | (simp only [maxLen]; omega))] | rw [if_neg (by first | omega | (simp only [maxLen]; omega))] | rw [frzOwn_neat (by simp) (by simp <;> omega)] | rw [fzOwn_neat (by simp) (by simp <;> omega)]); try simp [hi])
    | ((first | refine TstB.go (fun hw_ ew_ => ?_) (fun hw_ ew_ => ?_)) <;> first | (exfalso; first | omega | with_reducible exact hw_ (by assumption) | with_reducible exact absurd hw_ (by assumption)) | simp [ew_, hi])
    | fail)
  refine seqW ?_
  refine blockA ?_
  refine AW.seqA (lit := fun _ => false) ?_
  simp
  refine AInv.heap [0] q1 (by simp) (by simp) ?_
  simp
  refine AInv.heap [0] q2 (by simp) (by simp) ?_
  simp
  refine AInv.heap [0] q3 (by simp) (by simp) ?_
  simp
  refine AW.seqA (lit := fun _ => false) ?_
  simp
  refine AInv.heap [0] q4 (by simp) (by simp) ?_
  simp
  generalize hB : decsT n ⟨[], ao, (s4, e4)⟩ = D at *
  refine AW.loopG (lit := fun _ => false) (fun y : Nat × Dt => ⟨100, pat [(4, .ptr 0 0 0), (5, .own 1 al.length 0 al.length 4), (6, B y.2.odd), (7, U i), (8, U m), (9, .ptr 2 0 0), (10, U y.1), (11, U n)], [.cells 0 [S (T y.2.r.1), I y.2.r.2], .cells al.length (al.flatMap RowR.enc), .cells 0 [I (unfoldS c), I (unfoldS e), I (unfoldS d), .own 3 y.2.l.length 0 y.2.l.length 2], .cells y.2.l.length (y.2.l.flatMap DecisionR.enc)]⟩) (fun y => n - y.1)
    (fun y => y.1 ≤ n ∧ y.2.l.length = y.1 ∧ decsT (n - y.1) y.2 = D ∧ y.2.r.1.length ≤ s.length ∧ (y.1 < n → n ≤ 256 ∨ y.2.r.2 ≠ 0)) (0, ⟨[], ao, (s4, e4)⟩) ?_ ?_ ?_
  · exact Wk.trans (Wk.ownNilCell 2 0 3 2 rfl rfl) (Wk.at _ rfl (by simp) (by simp))
  · exact ⟨by simp, rfl, hB, by simp only; omega, fun h => by by_cases q : e4 = 0; (· exact .inl (hn256 q)); exact .inr q⟩
  rintro ⟨k, dl, od, dr, de⟩ ⟨k1, k2, k3, k4, k5⟩ A2 hA2
  simp only at k1 k2 k3 k4 k5 hA2
  have hwi : IntKind.u64.wrap ((i : Int) + 1) = ((i + 1 : Nat) : Int) := by rw [IntKind.wrap_u64]; omega
  by_cases hde : de = 0
  case neg =>
    have hD : D = ⟨dl, od, dr, de⟩ := by rw [← k3]; exact decsT_bad hde _
    rw [hD] at g3
    by_cases hk : k < n
    · try simp [hk, hde]
      repeat' (first
        | ((first | refine Tst.go (fun hw_ ew_ => ?_) (fun hw_ ew_ => ?_)) <;> first | (exfalso; first | omega | with_reducible exact hw_ (by assumption) | with_reducible exact absurd hw_ (by assumption)) | (have nw_ := Nw.nw hw_; simp [ew_, nw_, hk, hde]) | simp [ew_, hk, hde])
        | ((first | refine AW.draw (id := 17) Try.checked.mixed (fun _ => false) [] [] 6 (by kernel_rfl) ?_ | rw [if_pos (by first | omega | (simp only [maxLen]; omega))] | rw [if_neg (by first | omega | (simp only [maxLen]; omega))] | rw [frzOwn_neat (by simp) (by simp <;> omega)] | rw [fzOwn_neat (by simp) (by simp <;> omega)]); try simp [hk, hde])
        | ((first | refine TstB.go (fun hw_ ew_ => ?_) (fun hw_ ew_ => ?_)) <;> first | (exfalso; first | omega | with_reducible exact hw_ (by assumption) | with_reducible exact absurd hw_ (by assumption)) | simp [ew_, hk, hde])
        | fail)
      refine AW.wkZ (WkZ.freeze [2, 3] 9 (.fp [I (unfoldS c), I (unfoldS e), I (unfoldS d), encL DecisionR.enc dl]) (by simp; rw [fzOwn_neat (by simp) (by simp)]; simp)) ?_
      refine AX_ok (lit := fun _ => false) _ _ _ ?_
      simp
      try simp
      repeat' (first
        | ((first | refine Tst.go (fun hw_ ew_ => ?_) (fun hw_ ew_ => ?_)) <;> first | (exfalso; first | omega | with_reducible exact hw_ (by assumption) | with_reducible exact absurd hw_ (by assumption)) | (have nw_ := Nw.nw hw_; simp [ew_, nw_]) | simp [ew_])
        | (refine AX_ok (lit := fun _ => false) (.region _ _ false) _ _ ?_; simp [hwi])
        | ((first | refine AW.draw (id := 17) Try.checked.mixed (fun _ => false) [] [] 6 (by kernel_rfl) ?_ | rw [if_pos (by first | omega | (simp only [maxLen]; omega))] | rw [if_neg (by first | omega | (simp only [maxLen]; omega))] | rw [frzOwn_neat (by simp) (by simp <;> omega)] | rw [fzOwn_neat (by simp) (by simp <;> omega)]); try simp)
        | ((first | refine TstB.go (fun hw_ ew_ => ?_) (fun hw_ ew_ => ?_)) <;> first | (exfalso; first | omega | with_reducible exact hw_ (by assumption) | with_reducible exact absurd hw_ (by assumption)) | simp [ew_])
        | fail)
      exact hA (i + 1, ⟨al ++ [⟨unfoldS c, unfoldS e, unfoldS d, dl⟩], od, (dr, de)⟩) _ (Wk.cutAt _ rfl (by simp [RowR.enc]) (by simp [RowR.enc]) (by simp) (by simp)) ⟨hi, by simp [g2], g3, by simp only; omega, fun _ => .inl hm64'⟩ (by simp only; omega)
    · try simp [hk, hde]
      repeat' (first
        | ((first | refine Tst.go (fun hw_ ew_ => ?_) (fun hw_ ew_ => ?_)) <;> first | (exfalso; first | omega | with_reducible exact hw_ (by assumption) | with_reducible exact absurd hw_ (by assumption)) | (have nw_ := Nw.nw hw_; simp [ew_, nw_, hk, hde]) | simp [ew_, hk, hde])
        | ((first | refine AW.draw (id := 17) Try.checked.mixed (fun _ => false) [] [] 6 (by kernel_rfl) ?_ | rw [if_pos (by first | omega | (simp only [maxLen]; omega))] | rw [if_neg (by first | omega | (simp only [maxLen]; omega))] | rw [frzOwn_neat (by simp) (by simp <;> omega)] | rw [fzOwn_neat (by simp) (by simp <;> omega)]); try simp [hk, hde])
        | ((first | refine TstB.go (fun hw_ ew_ => ?_) (fun hw_ ew_ => ?_)) <;> first | (exfalso; first | omega | with_reducible exact hw_ (by assumption) | with_reducible exact absurd hw_ (by assumption)) | simp [ew_, hk, hde])
        | fail)
      refine AW.wkZ (WkZ.freeze [2, 3] 9 (.fp [I (unfoldS c), I (unfoldS e), I (unfoldS d), encL DecisionR.enc dl]) (by simp; rw [fzOwn_neat (by simp) (by simp)]; simp)) ?_
      refine AX_ok (lit := fun _ => false) _ _ _ ?_
      simp
      try simp
      repeat' (first
        | ((first | refine Tst.go (fun hw_ ew_ => ?_) (fun hw_ ew_ => ?_)) <;> first | (exfalso; first | omega | with_reducible exact hw_ (by assumption) | with_reducible exact absurd hw_ (by assumption)) | (have nw_ := Nw.nw hw_; simp [ew_, nw_]) | simp [ew_])
        | (refine AX_ok (lit := fun _ => false) (.region _ _ false) _ _ ?_; simp [hwi])
        | ((first | refine AW.draw (id := 17) Try.checked.mixed (fun _ => false) [] [] 6 (by kernel_rfl) ?_ | rw [if_pos (by first | omega | (simp only [maxLen]; omega))] | rw [if_neg (by first | omega | (simp only [maxLen]; omega))] | rw [frzOwn_neat (by simp) (by simp <;> omega)] | rw [fzOwn_neat (by simp) (by simp <;> omega)]); try simp)
        | ((first | refine TstB.go (fun hw_ ew_ => ?_) (fun hw_ ew_ => ?_)) <;> first | (exfalso; first | omega | with_reducible exact hw_ (by assumption) | with_reducible exact absurd hw_ (by assumption)) | simp [ew_])
        | fail)
      exact hA (i + 1, ⟨al ++ [⟨unfoldS c, unfoldS e, unfoldS d, dl⟩], od, (dr, de)⟩) _ (Wk.cutAt _ rfl (by simp [RowR.enc]) (by simp [RowR.enc]) (by simp) (by simp)) ⟨hi, by simp [g2], g3, by simp only; omega, fun _ => .inl hm64'⟩ (by simp only; omega)
  subst hde
  by_cases hk : k < n
  case neg =>
    have hD : D = ⟨dl, od, dr, 0⟩ := by rw [← k3, show n - k = 0 by omega]; rfl
    rw [hD] at g3
    · try simp [hk]
      repeat' (first
        | ((first | refine Tst.go (fun hw_ ew_ => ?_) (fun hw_ ew_ => ?_)) <;> first | (exfalso; first | omega | with_reducible exact hw_ (by assumption) | with_reducible exact absurd hw_ (by assumption)) | (have nw_ := Nw.nw hw_; simp [ew_, nw_, hk]) | simp [ew_, hk])
        | ((first | refine AW.draw (id := 17) Try.checked.mixed (fun _ => false) [] [] 6 (by kernel_rfl) ?_ | rw [if_pos (by first | omega | (simp only [maxLen]; omega))] | rw [if_neg (by first | omega | (simp only [maxLen]; omega))] | rw [frzOwn_neat (by simp) (by simp <;> omega)] | rw [fzOwn_neat (by simp) (by simp <;> omega)]); try simp [hk])
        | ((first | refine TstB.go (fun hw_ ew_ => ?_) (fun hw_ ew_ => ?_)) <;> first | (exfalso; first | omega | with_reducible exact hw_ (by assumption) | with_reducible exact absurd hw_ (by assumption)) | simp [ew_, hk])
        | fail)
      refine AW.wkZ (WkZ.freeze [2, 3] 9 (.fp [I (unfoldS c), I (unfoldS e), I (unfoldS d), encL DecisionR.enc dl]) (by simp; rw [fzOwn_neat (by simp) (by simp)]; simp)) ?_
      refine AX_ok (lit := fun _ => false) _ _ _ ?_
      simp
      try simp
      repeat' (first
        | ((first | refine Tst.go (fun hw_ ew_ => ?_) (fun hw_ ew_ => ?_)) <;> first | (exfalso; first | omega | with_reducible exact hw_ (by assumption) | with_reducible exact absurd hw_ (by assumption)) | (have nw_ := Nw.nw hw_; simp [ew_, nw_]) | simp [ew_])
        | (refine AX_ok (lit := fun _ => false) (.region _ _ false) _ _ ?_; simp [hwi])
        | ((first | refine AW.draw (id := 17) Try.checked.mixed (fun _ => false) [] [] 6 (by kernel_rfl) ?_ | rw [if_pos (by first | omega | (simp only [maxLen]; omega))] | rw [if_neg (by first | omega | (simp only [maxLen]; omega))] | rw [frzOwn_neat (by simp) (by simp <;> omega)] | rw [fzOwn_neat (by simp) (by simp <;> omega)]); try simp)
        | ((first | refine TstB.go (fun hw_ ew_ => ?_) (fun hw_ ew_ => ?_)) <;> first | (exfalso; first | omega | with_reducible exact hw_ (by assumption) | with_reducible exact absurd hw_ (by assumption)) | simp [ew_])
        | fail)
      exact hA (i + 1, ⟨al ++ [⟨unfoldS c, unfoldS e, unfoldS d, dl⟩], od, (dr, 0)⟩) _ (Wk.cutAt _ rfl (by simp [RowR.enc]) (by simp [RowR.enc]) (by simp) (by simp)) ⟨hi, by simp [g2], g3, by simp only; omega, fun _ => .inl hm64'⟩ (by simp only; omega)
  have l6 := numR_len (dr, 0)
  have r1 := whole_taker 0 dr 0 [] (by omega) (by simp)
  rcases hx : numR (dr, 0) with ⟨x, s6, e6⟩
  rw [hx] at l6 r1
  simp only at l6 r1
  have l7 := numR_len (s6, e6)
  have r2 := num_taker 0 s6 e6 18446744073709551615 (by omega) [] (by omega) (by simp)
  rw [numM_big (Nat.le_refl _)] at r2
  rcases hy : numR (s6, e6) with ⟨y, s7, e7⟩
  rw [hy] at l7 r2
  simp only at l7 r2
  rw [show n - k = (n - (k + 1)) + 1 by omega, decsT_succ rfl] at k3
  have hds : Dt.step ⟨dl, od, (dr, 0)⟩ = ⟨dl ++ [⟨unfoldS x, decide (y = 1)⟩], od || decide (1 < y), (s7, e7)⟩ := by simp only [Dt.step, hx, hy]
  rw [hds] at k3
  have hwk : IntKind.u64.wrap ((k : Int) + 1) = ((k + 1 : Nat) : Int) := by rw [IntKind.wrap_u64]; omega
  have hn2 : n ≤ 256 := by rcases k5 hk with q | q; (· exact q); exact absurd rfl q
  have g7 : ∀ d : DecisionR, (dl ++ [d]).length = k + 1 := fun d => by simp [k2]
  try simp [hk]
  repeat' (first
    | ((first | refine Tst.go (fun hw_ ew_ => ?_) (fun hw_ ew_ => ?_)) <;> first | (exfalso; first | omega | with_reducible exact hw_ (by assumption) | with_reducible exact absurd hw_ (by assumption)) | (have nw_ := Nw.nw hw_; simp [ew_, nw_, hk]) | simp [ew_, hk])
    | ((first | refine AW.draw (id := 17) Try.checked.mixed (fun _ => false) [] [] 6 (by kernel_rfl) ?_ | rw [if_pos (by first | omega | (simp only [maxLen]; omega))] | rw [if_neg (by first | omega | (simp only [maxLen]; omega))] | rw [frzOwn_neat (by simp) (by simp <;> omega)] | rw [fzOwn_neat (by simp) (by simp <;> omega)]); try simp [hk])
    | ((first | refine TstB.go (fun hw_ ew_ => ?_) (fun hw_ ew_ => ?_)) <;> first | (exfalso; first | omega | with_reducible exact hw_ (by assumption) | with_reducible exact absurd hw_ (by assumption)) | simp [ew_, hk])
    | fail)
  refine AInv.heap [0] r1 (by simp) (by simp) ?_
  simp
  refine AInv.heap [0] r2 (by simp) (by simp) ?_
  simp
  have hyy : y = 0 ∨ y = 1 ∨ 1 < y := by omega
  rcases hyy with rfl | rfl | hy1
  · cases od
    · simp at k3
      try simp [hwk, DecisionR.enc]
      repeat' (first
        | ((first | refine Tst.go (fun hw_ ew_ => ?_) (fun hw_ ew_ => ?_)) <;> first | (exfalso; first | omega | with_reducible exact hw_ (by assumption) | with_reducible exact absurd hw_ (by assumption)) | (have nw_ := Nw.nw hw_; simp [ew_, nw_, hwk, DecisionR.enc]) | simp [ew_, hwk, DecisionR.enc])
        | (exact hA2 (k + 1, ⟨dl ++ [⟨unfoldS x, false⟩], false, (s7, e7)⟩) _ (Wk.cutAt _ rfl (by simp [k2, DecisionR.enc]) (by simp [k2, DecisionR.enc]) (by simp) (by simp)) ⟨hk, g7 _, k3, by simp only; omega, fun _ => .inl hn2⟩ (by simp only; omega))
        | ((first | refine AW.draw (id := 17) Try.checked.mixed (fun _ => false) [] [] 6 (by kernel_rfl) ?_ | rw [if_pos (by first | omega | (simp only [maxLen]; omega))] | rw [if_neg (by first | omega | (simp only [maxLen]; omega))] | rw [frzOwn_neat (by simp) (by simp <;> omega)] | rw [fzOwn_neat (by simp) (by simp <;> omega)]); try simp [hwk, DecisionR.enc])
        | ((first | refine TstB.go (fun hw_ ew_ => ?_) (fun hw_ ew_ => ?_)) <;> first | (exfalso; first | omega | with_reducible exact hw_ (by assumption) | with_reducible exact absurd hw_ (by assumption)) | simp [ew_, hwk, DecisionR.enc])
        | fail)
    · simp at k3
      try simp [hwk, DecisionR.enc]
      repeat' (first
        | ((first | refine Tst.go (fun hw_ ew_ => ?_) (fun hw_ ew_ => ?_)) <;> first | (exfalso; first | omega | with_reducible exact hw_ (by assumption) | with_reducible exact absurd hw_ (by assumption)) | (have nw_ := Nw.nw hw_; simp [ew_, nw_, hwk, DecisionR.enc]) | simp [ew_, hwk, DecisionR.enc])
        | (exact hA2 (k + 1, ⟨dl ++ [⟨unfoldS x, false⟩], true, (s7, e7)⟩) _ (Wk.cutAt _ rfl (by simp [k2, DecisionR.enc]) (by simp [k2, DecisionR.enc]) (by simp) (by simp)) ⟨hk, g7 _, k3, by simp only; omega, fun _ => .inl hn2⟩ (by simp only; omega))
        | ((first | refine AW.draw (id := 17) Try.checked.mixed (fun _ => false) [] [] 6 (by kernel_rfl) ?_ | rw [if_pos (by first | omega | (simp only [maxLen]; omega))] | rw [if_neg (by first | omega | (simp only [maxLen]; omega))] | rw [frzOwn_neat (by simp) (by simp <;> omega)] | rw [fzOwn_neat (by simp) (by simp <;> omega)]); try simp [hwk, DecisionR.enc])
        | ((first | refine TstB.go (fun hw_ ew_ => ?_) (fun hw_ ew_ => ?_)) <;> first | (exfalso; first | omega | with_reducible exact hw_ (by assumption) | with_reducible exact absurd hw_ (by assumption)) | simp [ew_, hwk, DecisionR.enc])
        | fail)
  · cases od
    · simp at k3
      try simp [hwk, DecisionR.enc]
      repeat' (first
        | ((first | refine Tst.go (fun hw_ ew_ => ?_) (fun hw_ ew_ => ?_)) <;> first | (exfalso; first | omega | with_reducible exact hw_ (by assumption) | with_reducible exact absurd hw_ (by assumption)) | (have nw_ := Nw.nw hw_; simp [ew_, nw_, hwk, DecisionR.enc]) | simp [ew_, hwk, DecisionR.enc])
        | (exact hA2 (k + 1, ⟨dl ++ [⟨unfoldS x, true⟩], false, (s7, e7)⟩) _ (Wk.cutAt _ rfl (by simp [k2, DecisionR.enc]) (by simp [k2, DecisionR.enc]) (by simp) (by simp)) ⟨hk, g7 _, k3, by simp only; omega, fun _ => .inl hn2⟩ (by simp only; omega))
        | ((first | refine AW.draw (id := 17) Try.checked.mixed (fun _ => false) [] [] 6 (by kernel_rfl) ?_ | rw [if_pos (by first | omega | (simp only [maxLen]; omega))] | rw [if_neg (by first | omega | (simp only [maxLen]; omega))] | rw [frzOwn_neat (by simp) (by simp <;> omega)] | rw [fzOwn_neat (by simp) (by simp <;> omega)]); try simp [hwk, DecisionR.enc])
        | ((first | refine TstB.go (fun hw_ ew_ => ?_) (fun hw_ ew_ => ?_)) <;> first | (exfalso; first | omega | with_reducible exact hw_ (by assumption) | with_reducible exact absurd hw_ (by assumption)) | simp [ew_, hwk, DecisionR.enc])
        | fail)
    · simp at k3
      try simp [hwk, DecisionR.enc]
      repeat' (first
        | ((first | refine Tst.go (fun hw_ ew_ => ?_) (fun hw_ ew_ => ?_)) <;> first | (exfalso; first | omega | with_reducible exact hw_ (by assumption) | with_reducible exact absurd hw_ (by assumption)) | (have nw_ := Nw.nw hw_; simp [ew_, nw_, hwk, DecisionR.enc]) | simp [ew_, hwk, DecisionR.enc])
        | (exact hA2 (k + 1, ⟨dl ++ [⟨unfoldS x, true⟩], true, (s7, e7)⟩) _ (Wk.cutAt _ rfl (by simp [k2, DecisionR.enc]) (by simp [k2, DecisionR.enc]) (by simp) (by simp)) ⟨hk, g7 _, k3, by simp only; omega, fun _ => .inl hn2⟩ (by simp only; omega))
        | ((first | refine AW.draw (id := 17) Try.checked.mixed (fun _ => false) [] [] 6 (by kernel_rfl) ?_ | rw [if_pos (by first | omega | (simp only [maxLen]; omega))] | rw [if_neg (by first | omega | (simp only [maxLen]; omega))] | rw [frzOwn_neat (by simp) (by simp <;> omega)] | rw [fzOwn_neat (by simp) (by simp <;> omega)]); try simp [hwk, DecisionR.enc])
        | ((first | refine TstB.go (fun hw_ ew_ => ?_) (fun hw_ ew_ => ?_)) <;> first | (exfalso; first | omega | with_reducible exact hw_ (by assumption) | with_reducible exact absurd hw_ (by assumption)) | simp [ew_, hwk, DecisionR.enc])
        | fail)
  · have hy2 : ¬ (y : Int) = 1 := by omega
    have hy3 : (1 : Int) < y := by omega
    have hy4 : ¬ y = 1 := by omega
    cases od
    · simp [hy1, hy4] at k3
      try simp [hy1, hy2, hy3, hy4, hwk, DecisionR.enc]
      repeat' (first
        | ((first | refine Tst.go (fun hw_ ew_ => ?_) (fun hw_ ew_ => ?_)) <;> first | (exfalso; first | omega | with_reducible exact hw_ (by assumption) | with_reducible exact absurd hw_ (by assumption)) | (have nw_ := Nw.nw hw_; simp [ew_, nw_, hy1, hy2, hy3, hy4, hwk, DecisionR.enc]) | simp [ew_, hy1, hy2, hy3, hy4, hwk, DecisionR.enc])
        | (exact hA2 (k + 1, ⟨dl ++ [⟨unfoldS x, false⟩], true, (s7, e7)⟩) _ (Wk.cutAt _ rfl (by simp [k2, DecisionR.enc, hy4]) (by simp [k2, DecisionR.enc, hy4]) (by simp) (by simp)) ⟨hk, g7 _, k3, by simp only; omega, fun _ => .inl hn2⟩ (by simp only; omega))
        | ((first | refine AW.draw (id := 17) Try.checked.mixed (fun _ => false) [] [] 6 (by kernel_rfl) ?_ | rw [if_pos (by first | omega | (simp only [maxLen]; omega))] | rw [if_neg (by first | omega | (simp only [maxLen]; omega))] | rw [frzOwn_neat (by simp) (by simp <;> omega)] | rw [fzOwn_neat (by simp) (by simp <;> omega)]); try simp [hy1, hy2, hy3, hy4, hwk, DecisionR.enc])
        | ((first | refine TstB.go (fun hw_ ew_ => ?_) (fun hw_ ew_ => ?_)) <;> first | (exfalso; first | omega | with_reducible exact hw_ (by assumption) | with_reducible exact absurd hw_ (by assumption)) | simp [ew_, hy1, hy2, hy3, hy4, hwk, DecisionR.enc])
        | fail)
    · simp [hy1, hy4] at k3
      try simp [hy1, hy2, hy3, hy4, hwk, DecisionR.enc]
      repeat' (first
        | ((first | refine Tst.go (fun hw_ ew_ => ?_) (fun hw_ ew_ => ?_)) <;> first | (exfalso; first | omega | with_reducible exact hw_ (by assumption) | with_reducible exact absurd hw_ (by assumption)) | (have nw_ := Nw.nw hw_; simp [ew_, nw_, hy1, hy2, hy3, hy4, hwk, DecisionR.enc]) | simp [ew_, hy1, hy2, hy3, hy4, hwk, DecisionR.enc])
        | (exact hA2 (k + 1, ⟨dl ++ [⟨unfoldS x, false⟩], true, (s7, e7)⟩) _ (Wk.cutAt _ rfl (by simp [k2, DecisionR.enc, hy4]) (by simp [k2, DecisionR.enc, hy4]) (by simp) (by simp)) ⟨hk, g7 _, k3, by simp only; omega, fun _ => .inl hn2⟩ (by simp only; omega))
        | ((first | refine AW.draw (id := 17) Try.checked.mixed (fun _ => false) [] [] 6 (by kernel_rfl) ?_ | rw [if_pos (by first | omega | (simp only [maxLen]; omega))] | rw [if_neg (by first | omega | (simp only [maxLen]; omega))] | rw [frzOwn_neat (by simp) (by simp <;> omega)] | rw [fzOwn_neat (by simp) (by simp <;> omega)]); try simp [hy1, hy2, hy3, hy4, hwk, DecisionR.enc])
        | ((first | refine TstB.go (fun hw_ ew_ => ?_) (fun hw_ ew_ => ?_)) <;> first | (exfalso; first | omega | with_reducible exact hw_ (by assumption) | with_reducible exact absurd hw_ (by assumption)) | simp [ew_, hy1, hy2, hy3, hy4, hwk, DecisionR.enc])
        | fail)
end Go.Proofs.Ytpbjeabigckijaa
