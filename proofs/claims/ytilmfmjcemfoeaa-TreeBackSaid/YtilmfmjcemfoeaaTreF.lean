/- File systems' texts, taken; the document's puts and outs. -/
import Derived.Test.YtilmfmjcemfoeaaTreC
import Derived.Test.YtilmfmjcemfoeaaBg
import Derived.Test.YtilmfmjcemfoeaaBe
set_option linter.unusedVariables false
set_option linter.unusedSimpArgs false
namespace Go.Proofs.Ytilmfmjcemfoeaa
open Go.Cx Tab
set_option maxHeartbeats 400000
set_option maxRecDepth 40000

theorem takeN_rest {s : List UInt8} (h : (takeN s).2.2 = 0) : (takeN s).2.1.length ≤ s.length := by
  obtain ⟨_, e⟩ := takeN_ok (s := s) (n := (takeN s).1) (r := (takeN s).2.1) (by rw [← h])
  have := congrArg List.length e
  simp only [List.length_append] at this
  omega
theorem T_nil_iff (r : List UInt8) : T r = (⟨#[]⟩ : ByteArray) ↔ r = [] := by
  constructor
  · intro h
    have := congrArg bs h
    rw [bs_T] at this
    exact this
  · intro h; subst h; rfl
theorem ttake_ok (s : List UInt8) (hl : s.length ≤ 1099511627776) : PCall Try.prog 6 [S (T s)] (.tup [encF (takeF s).1, I (takeF s).2]) := by
  refine PCall.mk (fun _ => false) Try.func6 rfl rfl rfl (Ent.mk Try.func6 (by kernel_rfl) rfl) (by simp) (by simp) fun hfit => ?_
  have q1 := takeNum_ok s hl
  have l1 := takeS_len' s
  have l1' := takeS_lt s
  rcases ha : takeS s with ⟨a, s1, e1⟩
  rw [ha] at q1 l1 l1'
  simp only at q1 l1 l1'
  by_cases he1 : e1 = 0
  case neg =>
    have hf : takeF s = (.zero, e1) := by simp [takeF, ha, he1]
    simp [Try.f6, hf]
    try simp [he1, FSR.enc, FSR.zero]
    repeat' (first
      | ((first | refine Tst.go (fun hw_ ew_ => ?_) (fun hw_ ew_ => ?_)) <;> first | (exfalso; first | omega | with_reducible exact hw_ (by assumption) | with_reducible exact absurd hw_ (by assumption)) | (have nw_ := Nw.nw hw_; simp [ew_, nw_, he1, FSR.enc, FSR.zero]) | simp [ew_, he1, FSR.enc, FSR.zero])
      | ((first | (refine Pc.go (q1) ?_ ?_; focus (first | rfl | (simp [he1, FSR.enc, FSR.zero]; done))) | rw [if_pos (by first | omega | (simp only [maxLen]; omega))] | rw [if_neg (by first | omega | (simp only [maxLen]; omega))] | rw [frzOwn_neat (by simp) (by simp <;> omega)] | rw [fzOwn_neat (by simp) (by simp <;> omega)]); try simp [he1, FSR.enc, FSR.zero])
      | ((first | refine TstB.go (fun hw_ ew_ => ?_) (fun hw_ ew_ => ?_)) <;> first | (exfalso; first | omega | with_reducible exact hw_ (by assumption) | with_reducible exact absurd hw_ (by assumption)) | simp [ew_, he1, FSR.enc, FSR.zero])
      | fail)
  subst he1
  have q2 := takeNum_ok s1 (by omega)
  have l2 := takeS_len' s1
  have l2' := takeS_lt s1
  rcases hb : takeS s1 with ⟨m, s2, e2⟩
  rw [hb] at q2 l2 l2'
  simp only at q2 l2 l2'
  by_cases he2 : e2 = 0
  case neg =>
    have hf : takeF s = (.zero, e2) := by simp [takeF, ha, hb, he2]
    simp [Try.f6, hf]
    try simp [he2, FSR.enc, FSR.zero]
    repeat' (first
      | ((first | refine Tst.go (fun hw_ ew_ => ?_) (fun hw_ ew_ => ?_)) <;> first | (exfalso; first | omega | with_reducible exact hw_ (by assumption) | with_reducible exact absurd hw_ (by assumption)) | (have nw_ := Nw.nw hw_; simp [ew_, nw_, he2, FSR.enc, FSR.zero]) | simp [ew_, he2, FSR.enc, FSR.zero])
      | ((first | (refine Pc.go (q1) ?_ ?_; focus (first | rfl | (simp [he2, FSR.enc, FSR.zero]; done))) | (refine Pc.go (q2) ?_ ?_; focus (first | rfl | (simp [he2, FSR.enc, FSR.zero]; done))) | rw [if_pos (by first | omega | (simp only [maxLen]; omega))] | rw [if_neg (by first | omega | (simp only [maxLen]; omega))] | rw [frzOwn_neat (by simp) (by simp <;> omega)] | rw [fzOwn_neat (by simp) (by simp <;> omega)]); try simp [he2, FSR.enc, FSR.zero])
      | ((first | refine TstB.go (fun hw_ ew_ => ?_) (fun hw_ ew_ => ?_)) <;> first | (exfalso; first | omega | with_reducible exact hw_ (by assumption) | with_reducible exact absurd hw_ (by assumption)) | simp [ew_, he2, FSR.enc, FSR.zero])
      | fail)
  subst he2
  by_cases hm : 256 < m
  · have hf : takeF s = (.zero, 5) := by simp [takeF, ha, hb, hm]
    have hm' : (256 : Int) < m := by omega
    simp [Try.f6, hf]
    try simp [hm, hm', FSR.enc, FSR.zero]
    repeat' (first
      | ((first | refine Tst.go (fun hw_ ew_ => ?_) (fun hw_ ew_ => ?_)) <;> first | (exfalso; first | omega | with_reducible exact hw_ (by assumption) | with_reducible exact absurd hw_ (by assumption)) | (have nw_ := Nw.nw hw_; simp [ew_, nw_, hm, hm', FSR.enc, FSR.zero]) | simp [ew_, hm, hm', FSR.enc, FSR.zero])
      | ((first | (refine Pc.go (q1) ?_ ?_; focus (first | rfl | (simp [hm, hm', FSR.enc, FSR.zero]; done))) | (refine Pc.go (q2) ?_ ?_; focus (first | rfl | (simp [hm, hm', FSR.enc, FSR.zero]; done))) | rw [if_pos (by first | omega | (simp only [maxLen]; omega))] | rw [if_neg (by first | omega | (simp only [maxLen]; omega))] | rw [frzOwn_neat (by simp) (by simp <;> omega)] | rw [fzOwn_neat (by simp) (by simp <;> omega)]); try simp [hm, hm', FSR.enc, FSR.zero])
      | ((first | refine TstB.go (fun hw_ ew_ => ?_) (fun hw_ ew_ => ?_)) <;> first | (exfalso; first | omega | with_reducible exact hw_ (by assumption) | with_reducible exact absurd hw_ (by assumption)) | simp [ew_, hm, hm', FSR.enc, FSR.zero])
      | fail)
  have hm' : ¬ (256 : Int) < m := by omega
  have hf : takeF s = if (takeNs m s2).2.2 ≠ 0 then (.zero, (takeNs m s2).2.2) else if (takeNs m s2).2.1 = [] ∧ rowsOk ⟨(takeNs m s2).1, unfoldS a⟩ = true then (⟨(takeNs m s2).1, unfoldS a⟩, 0) else (.zero, 3) := by
    simp [takeF, ha, hb, hm]
  have q3 := unfold_ok a l1'
  simp [Try.f6]
  try simp [hm, hm']
  repeat' (first
    | ((first | refine Tst.go (fun hw_ ew_ => ?_) (fun hw_ ew_ => ?_)) <;> first | (exfalso; first | omega | with_reducible exact hw_ (by assumption) | with_reducible exact absurd hw_ (by assumption)) | (have nw_ := Nw.nw hw_; simp [ew_, nw_, hm, hm']) | simp [ew_, hm, hm'])
    | ((first | (refine Pc.go (q1) ?_ ?_; focus (first | rfl | (simp [hm, hm']; done))) | (refine Pc.go (q2) ?_ ?_; focus (first | rfl | (simp [hm, hm']; done))) | (refine Pc.go (q3) ?_ ?_; focus (first | rfl | (simp [hm, hm']; done))) | rw [if_pos (by first | omega | (simp only [maxLen]; omega))] | rw [if_neg (by first | omega | (simp only [maxLen]; omega))] | rw [frzOwn_neat (by simp) (by simp <;> omega)] | rw [fzOwn_neat (by simp) (by simp <;> omega)]); try simp [hm, hm'])
    | ((first | refine TstB.go (fun hw_ ew_ => ?_) (fun hw_ ew_ => ?_)) <;> first | (exfalso; first | omega | with_reducible exact hw_ (by assumption) | with_reducible exact absurd hw_ (by assumption)) | simp [ew_, hm, hm'])
    | fail)
  refine AW.loopG (lit := fun _ => false) (fun x : List NodeR × List UInt8 => ⟨69, pat [(0, S (T x.2)), (2, .ptr 0 0 0), (7, .ptr 1 0 0), (39, U m), (40, U x.1.length)], [.cells 0 [.sl true 0 [], I 0], .cells 0 [.own 2 x.1.length 0 x.1.length 5, I (unfoldS a)], .cells x.1.length (x.1.flatMap NodeR.enc)]⟩) (fun x => m - x.1.length)
    (fun x => x.1.length ≤ m ∧ x.2.length ≤ s2.length ∧ joinR x.1 (takeNs (m - x.1.length) x.2) = takeNs m s2) ([], s2) ?_ ?_ ?_
  · exact Wk.trans (Wk.ownNilCell 1 0 0 5 rfl rfl) (Wk.at _ rfl (by simp) (by simp))
  · exact ⟨by simp, Nat.le_refl _, by simp [joinR_nil]⟩
  rintro ⟨acc, r⟩ ⟨g1, g2, g3⟩ A hA
  simp only at g1 g2 g3 hA
  by_cases hi : acc.length < m
  case neg =>
    have him : m - acc.length = 0 := by omega
    rw [him] at g3
    have g4 : takeNs m s2 = (acc, r, 0) := by rw [← g3]; simp [joinR, takeNs]
    rw [g4] at hf
    simp only [ne_eq, not_true, if_false] at hf
    have hrw := rows_ok ⟨acc, unfoldS a⟩
    have hi' : ¬ (acc.length : Int) < m := by omega
    have hfz : ([.agg [.own 2 acc.length 0 acc.length 5, I (unfoldS a)]].mapM (frz [.cells 0 [.sl true 0 [], I 0], .cells 0 [.own 2 acc.length 0 acc.length 5, I (unfoldS a)], .cells acc.length (acc.flatMap NodeR.enc)] 0 12) : Option (List AV)) = some [encF ⟨acc, unfoldS a⟩] := by
      simp
      rw [frzOwn_neat (by simp) (by simp)]
      simp [FSR.enc]
    by_cases hr : r = []
    · have hre := (T_nil_iff r).2 hr
      cases hro : rowsOk ⟨acc, unfoldS a⟩ with
      | true =>
        rw [if_pos ⟨hr, hro⟩] at hf
        rw [hro] at hrw
        try simp [hi, hi', hre, hf, FSR.enc]
        repeat' (first
          | ((first | refine Tst.go (fun hw_ ew_ => ?_) (fun hw_ ew_ => ?_)) <;> first | (exfalso; first | omega | with_reducible exact hw_ (by assumption) | with_reducible exact absurd hw_ (by assumption)) | (have nw_ := Nw.nw hw_; simp [ew_, nw_, hi, hi', hre, hf, FSR.enc]) | simp [ew_, hi, hi', hre, hf, FSR.enc])
          | (refine AInv.lend hrw rfl hfz ?_; simp [hre, hf, FSR.enc])
          | ((first | rw [if_pos (by first | omega | (simp only [maxLen]; omega))] | rw [if_neg (by first | omega | (simp only [maxLen]; omega))] | rw [frzOwn_neat (by simp) (by simp <;> omega)] | rw [fzOwn_neat (by simp) (by simp <;> omega)]); try simp [hi, hi', hre, hf, FSR.enc])
          | ((first | refine TstB.go (fun hw_ ew_ => ?_) (fun hw_ ew_ => ?_)) <;> first | (exfalso; first | omega | with_reducible exact hw_ (by assumption) | with_reducible exact absurd hw_ (by assumption)) | simp [ew_, hi, hi', hre, hf, FSR.enc])
          | fail)
      | false =>
        rw [if_neg (by simp [hro])] at hf
        rw [hro] at hrw
        try simp [hi, hi', hre, hf, FSR.enc, FSR.zero]
        repeat' (first
          | ((first | refine Tst.go (fun hw_ ew_ => ?_) (fun hw_ ew_ => ?_)) <;> first | (exfalso; first | omega | with_reducible exact hw_ (by assumption) | with_reducible exact absurd hw_ (by assumption)) | (have nw_ := Nw.nw hw_; simp [ew_, nw_, hi, hi', hre, hf, FSR.enc, FSR.zero]) | simp [ew_, hi, hi', hre, hf, FSR.enc, FSR.zero])
          | (refine AInv.lend hrw rfl hfz ?_; simp [hf, FSR.enc, FSR.zero])
          | ((first | rw [if_pos (by first | omega | (simp only [maxLen]; omega))] | rw [if_neg (by first | omega | (simp only [maxLen]; omega))] | rw [frzOwn_neat (by simp) (by simp <;> omega)] | rw [fzOwn_neat (by simp) (by simp <;> omega)]); try simp [hi, hi', hre, hf, FSR.enc, FSR.zero])
          | ((first | refine TstB.go (fun hw_ ew_ => ?_) (fun hw_ ew_ => ?_)) <;> first | (exfalso; first | omega | with_reducible exact hw_ (by assumption) | with_reducible exact absurd hw_ (by assumption)) | simp [ew_, hi, hi', hre, hf, FSR.enc, FSR.zero])
          | fail)
    · have hre : ¬ T r = (⟨#[]⟩ : ByteArray) := fun h => hr ((T_nil_iff r).1 h)
      rw [if_neg (by simp [hr])] at hf
      try simp [hi, hi', hre, hf, FSR.enc, FSR.zero]
      repeat' (first
        | ((first | refine Tst.go (fun hw_ ew_ => ?_) (fun hw_ ew_ => ?_)) <;> first | (exfalso; first | omega | with_reducible exact hw_ (by assumption) | with_reducible exact absurd hw_ (by assumption)) | (have nw_ := Nw.nw hw_; simp [ew_, nw_, hi, hi', hre, hf, FSR.enc, FSR.zero]) | simp [ew_, hi, hi', hre, hf, FSR.enc, FSR.zero])
        | ((first | rw [if_pos (by first | omega | (simp only [maxLen]; omega))] | rw [if_neg (by first | omega | (simp only [maxLen]; omega))] | rw [frzOwn_neat (by simp) (by simp <;> omega)] | rw [fzOwn_neat (by simp) (by simp <;> omega)]); try simp [hi, hi', hre, hf, FSR.enc, FSR.zero])
        | ((first | refine TstB.go (fun hw_ ew_ => ?_) (fun hw_ ew_ => ?_)) <;> first | (exfalso; first | omega | with_reducible exact hw_ (by assumption) | with_reducible exact absurd hw_ (by assumption)) | simp [ew_, hi, hi', hre, hf, FSR.enc, FSR.zero])
        | fail)
  have hi' : (acc.length : Int) < m := by omega
  have q4 := ntake_ok r (by omega)
  have hmi : m - acc.length = (m - (acc.length + 1)) + 1 := by omega
  rw [hmi] at g3
  by_cases he : (takeN r).2.2 = 0
  case neg =>
    rw [joinR_bad he] at g3
    rw [← g3] at hf
    simp only [ne_eq, he, not_false_iff, if_true] at hf
    try simp [hi, hi', he, hf, FSR.enc, FSR.zero]
    repeat' (first
      | ((first | refine Tst.go (fun hw_ ew_ => ?_) (fun hw_ ew_ => ?_)) <;> first | (exfalso; first | omega | with_reducible exact hw_ (by assumption) | with_reducible exact absurd hw_ (by assumption)) | (have nw_ := Nw.nw hw_; simp [ew_, nw_, hi, hi', he, hf, FSR.enc, FSR.zero]) | simp [ew_, hi, hi', he, hf, FSR.enc, FSR.zero])
      | ((first | (refine Pc.go (q4) ?_ ?_; focus (first | rfl | (simp [hi, hi', he, hf, FSR.enc, FSR.zero]; done))) | rw [if_pos (by first | omega | (simp only [maxLen]; omega))] | rw [if_neg (by first | omega | (simp only [maxLen]; omega))] | rw [frzOwn_neat (by simp) (by simp <;> omega)] | rw [fzOwn_neat (by simp) (by simp <;> omega)]); try simp [hi, hi', he, hf, FSR.enc, FSR.zero])
      | ((first | refine TstB.go (fun hw_ ew_ => ?_) (fun hw_ ew_ => ?_)) <;> first | (exfalso; first | omega | with_reducible exact hw_ (by assumption) | with_reducible exact absurd hw_ (by assumption)) | simp [ew_, hi, hi', he, hf, FSR.enc, FSR.zero])
      | fail)
  rw [joinR_step he] at g3
  have hlr := takeN_rest he
  have hw : (IntKind.u64.wrap ((acc.length : Int) + 1)) = ((acc.length + 1 : Nat) : Int) := by rw [IntKind.wrap_u64]; omega
  have g5 : (acc ++ [(takeN r).1]).length = acc.length + 1 := by simp
  rw [he] at q4
  try simp [hi, hi', he, hw]
  repeat' (first
    | ((first | refine Tst.go (fun hw_ ew_ => ?_) (fun hw_ ew_ => ?_)) <;> first | (exfalso; first | omega | with_reducible exact hw_ (by assumption) | with_reducible exact absurd hw_ (by assumption)) | (have nw_ := Nw.nw hw_; simp [ew_, nw_, hi, hi', he, hw]) | simp [ew_, hi, hi', he, hw])
    | (exact hA (acc ++ [(takeN r).1], (takeN r).2.1) _ (Wk.cutAt _ rfl (by simp) (by simp) (by simp) (by simp)) ⟨by rw [g5]; exact hi, by simp only; omega, by rw [g5]; exact g3⟩ (by rw [g5]; omega))
    | ((first | (refine Pc.go (q4) ?_ ?_; focus (first | rfl | (simp [hi, hi', he, hw]; done))) | rw [if_pos (by first | omega | (simp only [maxLen]; omega))] | rw [if_neg (by first | omega | (simp only [maxLen]; omega))] | rw [frzOwn_neat (by simp) (by simp <;> omega)] | rw [fzOwn_neat (by simp) (by simp <;> omega)]); try simp [hi, hi', he, hw])
    | ((first | refine TstB.go (fun hw_ ew_ => ?_) (fun hw_ ew_ => ?_)) <;> first | (exfalso; first | omega | with_reducible exact hw_ (by assumption) | with_reducible exact absurd hw_ (by assumption)) | simp [ew_, hi, hi', he, hw])
    | fail)

end Go.Proofs.Ytilmfmjcemfoeaa
