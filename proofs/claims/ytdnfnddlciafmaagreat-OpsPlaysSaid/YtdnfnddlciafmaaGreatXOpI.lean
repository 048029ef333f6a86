import Derived.Test.YtdnfnddlciafmaaGreatXOpH
set_option linter.unusedVariables false
set_option linter.unusedSimpArgs false
namespace Go.Proofs.YtdnfnddlciafmaaGreat
open Go.Cx Tab
set_option maxHeartbeats 400000
set_option maxRecDepth 40000
theorem rread_ok (s : List UInt8) (at_ many : Int) (h1 : inI at_) (h2 : inI many) (hs : s.length ≤ 1099511627776) : PCall Tryz.prog 157 [S (T s), I at_, I many] (.tup [S (T (readT s at_ many).1), I (readT s at_ many).2]) := by
  refine Pm Tryz.func157 fun hfit => ?_
  simp [Tryz.f157, readT]
  by_cases q1 : at_ < 0
  · have s_ := q1
    try simp [s_]
    repeat' ((first | ((first | refine Tp ?_ | refine Tn ?_ | refine T2 ?_ ?_) <;> intro hw_ ew_ nw_) | rw [Ip] | rw [In] | rw [Fz] | rw [Gz] | fail) <;> first | simp [ew_, nw_, s_] | simp [s_] | skip)
  by_cases q2 : 1099511627776 < at_
  · have s_ := And.intro @q1 (@q2)
    try simp [s_]
    repeat' ((first | ((first | refine Tp ?_ | refine Tn ?_ | refine T2 ?_ ?_) <;> intro hw_ ew_ nw_) | rw [Ip] | rw [In] | rw [Fz] | rw [Gz] | fail) <;> first | simp [ew_, nw_, s_] | simp [s_] | skip)
  by_cases q3 : many < 0
  · have s_ := And.intro @q1 (And.intro @q2 (@q3))
    try simp [s_]
    repeat' ((first | ((first | refine Tp ?_ | refine Tn ?_ | refine T2 ?_ ?_) <;> intro hw_ ew_ nw_) | rw [Ip] | rw [In] | rw [Fz] | rw [Gz] | fail) <;> first | simp [ew_, nw_, s_] | simp [s_] | skip)
  have hw : IntKind.i64.wrap (1099511627776 - at_) = 1099511627776 - at_ := wrap_id (by omega) (by omega)
  by_cases q4 : 1099511627776 - at_ < many
  · have s_ := And.intro @q1 (And.intro @q2 (And.intro @q3 (And.intro @q4 (@hw))))
    try simp [s_]
    repeat' ((first | ((first | refine Tp ?_ | refine Tn ?_ | refine T2 ?_ ?_) <;> intro hw_ ew_ nw_) | rw [Ip] | rw [In] | rw [Fz] | rw [Gz] | fail) <;> first | simp [ew_, nw_, s_] | simp [s_] | skip)
  obtain ⟨a, rfl⟩ := Int.eq_ofNat_of_zero_le (by omega : 0 ≤ at_)
  obtain ⟨m, rfl⟩ := Int.eq_ofNat_of_zero_le (by omega : 0 ≤ many)
  have s_ := And.intro @q1 (And.intro @q2 (And.intro @q3 (And.intro @q4 (@hw))))
  try simp [s_]
  repeat' ((first | ((first | refine Tp ?_ | refine Tn ?_ | refine T2 ?_ ?_) <;> intro hw_ ew_ nw_) | rw [Ip] | rw [In] | rw [Fz] | rw [Gz] | fail) <;> first | simp [ew_, nw_, s_] | simp [s_] | skip)
  refine AW.loopG (lit := fun _ => false) (fun x : List UInt8 => ⟨47, pat [(0, S (T s)), (2, I m), (8, .own 0 x.length 0 x.length 1), (9, I (a + x.length : Nat))], [.cells x.length (x.map yb)]⟩) (fun x => s.length - (a + x.length)) (fun x => x.length ≤ m ∧ x ++ ((s.drop a).take m).drop x.length = (s.drop a).take m) [] ?_ ?_ ?_
  · exact Wk.trans (Wk.ownNil 8 1 (by simp)) Wa
  · simp
  intro x ⟨g1, g2⟩ A hA
  by_cases hi : a + x.length < s.length
  case neg =>
    have e : ((s.drop a).take m).drop x.length = [] := List.drop_eq_nil_of_le (by simp; omega)
    rw [e, List.append_nil] at g2
    have hi' : ¬ ((a : Int) + x.length < s.length) := by omega
    have s_ := And.intro @hi (And.intro @hi' (And.intro @T_size (Eq.symm (g2))))
    try simp [s_]
    repeat' ((first | ((first | refine Tp ?_ | refine Tn ?_ | refine T2 ?_ ?_) <;> intro hw_ ew_ nw_) | rw [Ip] | rw [In] | rw [Fz] | rw [Gz] | fail) <;> first | simp [ew_, nw_, s_] | simp [s_] | skip)
  by_cases hm : x.length < m
  case neg =>
    have e : ((s.drop a).take m).drop x.length = [] := List.drop_eq_nil_of_le (by simp; omega)
    rw [e, List.append_nil] at g2
    have hi' : ((a : Int) + x.length < s.length) := by omega
    have s_ := And.intro @hi (And.intro @hi' (And.intro @hm (And.intro @T_size (Eq.symm (g2)))))
    try simp [s_]
    repeat' ((first | ((first | refine Tp ?_ | refine Tn ?_ | refine T2 ?_ ?_) <;> intro hw_ ew_ nw_) | rw [Ip] | rw [In] | rw [Fz] | rw [Gz] | fail) <;> first | simp [ew_, nw_, s_] | simp [s_] | skip)
  have hi' : ((a : Int) + x.length < s.length) := by omega
  have hn : ((a : Int) + x.length).toNat = a + x.length := by omega
  have hb := byteAt_T s (a + x.length) hi
  have hwi : IntKind.i64.wrap ((a : Int) + x.length + 1) = ((a + (x.length + 1) : Nat) : Int) := by rw [wrap_id (by omega) (by omega)]; omega
  have g3 : x ++ [s[a + x.length]] ++ ((s.drop a).take m).drop (x ++ [s[a + x.length]]).length = (s.drop a).take m := by
    have e : ((s.drop a).take m).drop x.length = s[a + x.length] :: ((s.drop a).take m).drop (x.length + 1) := by
      rw [List.drop_eq_getElem_cons (by simp; omega)]
      simp
    rw [e] at g2
    simpa using g2
  have s_ := And.intro @hi (And.intro @hi' (And.intro @hm (And.intro @hn (And.intro @hb (And.intro @hwi (@T_size))))))
  try simp [s_]
  repeat' ((first | ((first | refine Tp ?_ | refine Tn ?_ | refine T2 ?_ ?_) <;> intro hw_ ew_ nw_) | (exact hA (x ++ [s[a + x.length]]) _ Wa ⟨by simp; omega, g3⟩ (by simp; omega)) | rw [Ip] | rw [In] | rw [Fz] | rw [Gz] | fail) <;> first | simp [ew_, nw_, s_] | simp [s_] | skip)
theorem rcut_ok (s : List UInt8) (many : Int) (h1 : inI many) (hs : s.length ≤ 1099511627776) : PCall Tryz.prog 158 [S (T s), I many] (.tup [S (T (cutT s many).1), I (cutT s many).2]) := by
  refine Pm Tryz.func158 fun hfit => ?_
  simp [Tryz.f158, cutT]
  by_cases q1 : many < 0
  · have s_ := q1
    try simp [s_]
    repeat' ((first | ((first | refine Tp ?_ | refine Tn ?_ | refine T2 ?_ ?_) <;> intro hw_ ew_ nw_) | rw [Ip] | rw [In] | rw [Fz] | rw [Gz] | fail) <;> first | simp [ew_, nw_, s_] | simp [s_] | skip)
  by_cases q2 : 1099511627776 < many
  · have s_ := And.intro @q1 (@q2)
    try simp [s_]
    repeat' ((first | ((first | refine Tp ?_ | refine Tn ?_ | refine T2 ?_ ?_) <;> intro hw_ ew_ nw_) | rw [Ip] | rw [In] | rw [Fz] | rw [Gz] | fail) <;> first | simp [ew_, nw_, s_] | simp [s_] | skip)
  by_cases q3 : 4096 < many
  · have s_ := And.intro @q1 (And.intro @q2 (@q3))
    try simp [s_]
    repeat' ((first | ((first | refine Tp ?_ | refine Tn ?_ | refine T2 ?_ ?_) <;> intro hw_ ew_ nw_) | rw [Ip] | rw [In] | rw [Fz] | rw [Gz] | fail) <;> first | simp [ew_, nw_, s_] | simp [s_] | skip)
  obtain ⟨m, rfl⟩ := Int.eq_ofNat_of_zero_le (by omega : 0 ≤ many)
  have e0 : (⟨#[0]⟩ : ByteArray) = T [0] := rfl
  have s_ := And.intro @q1 (And.intro @q2 (@q3))
  try simp [s_]
  repeat' ((first | ((first | refine Tp ?_ | refine Tn ?_ | refine T2 ?_ ?_) <;> intro hw_ ew_ nw_) | rw [Ip] | rw [In] | rw [Fz] | rw [Gz] | fail) <;> first | simp [ew_, nw_, s_] | simp [s_] | skip)
  refine AW.loopG (lit := fun _ => false) (fun x : List UInt8 => ⟨25, pat [(0, S (T x)), (1, I m)], []⟩) (fun x => m - x.length) (fun x => x.length ≤ s.length + m ∧ s.length ≤ x.length ∧ (x.length ≤ m ∨ x.length = s.length) ∧ x = s ++ List.replicate (x.length - s.length) 0) s ?_ ?_ ?_
  · exact Wa
  · simp
  intro x ⟨g0, g1, g2, g3⟩ A hA
  by_cases hi : x.length < m
  · have e2 : x ++ [0] = s ++ List.replicate ((x ++ [0]).length - s.length) 0 := by
      have : (x ++ [0]).length - s.length = (x.length - s.length) + 1 := by simp; omega
      rw [this, List.replicate_succ', ← List.append_assoc, ← g3]
    have s_ := And.intro @hi (And.intro @T_size (And.intro @e0 (@T_app)))
    try simp [s_]
    repeat' ((first | ((first | refine Tp ?_ | refine Tn ?_ | refine T2 ?_ ?_) <;> intro hw_ ew_ nw_) | (exact hA (x ++ [0]) _ Wa ⟨by simp; omega, by simp; omega, by simp; omega, e2⟩ (by simp; omega)) | rw [Ip] | rw [In] | rw [Fz] | rw [Gz] | fail) <;> first | simp [ew_, nw_, s_] | simp [s_] | skip)
  · have e2 : x.take m = s.take m ++ List.replicate (m - s.length) 0 := by
      rw [g3, List.take_append, List.take_replicate]
      congr 2
      omega
    have f1 : (T x).extract 0 m = T (s.take m ++ List.replicate (m - s.length) 0) := by rw [← e2, T_ext]; simp
    have hi' : (m : Int) ≤ x.length := by omega
    have s_ := And.intro @hi (And.intro @T_size (And.intro @f1 (@hi')))
    try simp [s_]
    repeat' ((first | ((first | refine Tp ?_ | refine Tn ?_ | refine T2 ?_ ?_) <;> intro hw_ ew_ nw_) | rw [Ip] | rw [In] | rw [Fz] | rw [Gz] | fail) <;> first | simp [ew_, nw_, s_] | simp [s_] | skip)
theorem over_at (s : List UInt8) (k : Nat) (t : List UInt8) (h : 0 < t.length) (b0 : List UInt8) (hb : b0 = s ++ List.replicate (b0.length - s.length) 0) (hk : k ≤ b0.length) (hq : b0.length = s.length ∨ b0.length = k) (hs : s.length ≤ b0.length) :
    b0.take k ++ t ++ b0.drop (k + t.length) = overL s k t := by
  unfold overL
  rcases hq with q | q
  · have e : b0 = s := by rw [hb, q]; simp
    rw [e] at q hk ⊢
    rw [List.take_append_of_le_length hk]
  · have e1 : b0.drop (k + t.length) = [] := List.drop_eq_nil_of_le (by omega)
    have e2 : s.drop (k + t.length) = [] := List.drop_eq_nil_of_le (by omega)
    rw [e1, e2, ← q, ← hb]
theorem rwrite_ok (s : List UInt8) (at_ : Int) (t : List UInt8) (h1 : inI at_) (hs : s.length ≤ 1099511627776) (ht : t.length ≤ 9223372036854775807) : PCall Tryz.prog 159 [S (T s), I at_, S (T t)] (.tup [S (T (writeT s at_ t).1), I (writeT s at_ t).2]) := by
  refine Pm Tryz.func159 fun hfit => ?_
  simp [Tryz.f159, writeT]
  have hw0 : IntKind.i64.wrap (1099511627776 - (t.length : Int)) = 1099511627776 - (t.length : Int) := wrap_id (by omega) (by omega)
  by_cases q1 : at_ < 0
  · have s_ := q1
    try simp [s_]
    repeat' ((first | ((first | refine Tp ?_ | refine Tn ?_ | refine T2 ?_ ?_) <;> intro hw_ ew_ nw_) | rw [Ip] | rw [In] | rw [Fz] | rw [Gz] | fail) <;> first | simp [ew_, nw_, s_] | simp [s_] | skip)
  by_cases q2 : 1099511627776 - (t.length : Int) < at_
  · have s_ := And.intro @q1 (And.intro @q2 (And.intro @hw0 (@T_size)))
    try simp [s_]
    repeat' ((first | ((first | refine Tp ?_ | refine Tn ?_ | refine T2 ?_ ?_) <;> intro hw_ ew_ nw_) | rw [Ip] | rw [In] | rw [Fz] | rw [Gz] | fail) <;> first | simp [ew_, nw_, s_] | simp [s_] | skip)
  obtain ⟨a, rfl⟩ := Int.eq_ofNat_of_zero_le (by omega : 0 ≤ at_)
  have hw1 : IntKind.i64.wrap ((a : Int) + t.length) = (a : Int) + t.length := wrap_id (by omega) (by omega)
  by_cases q3 : 4096 < (a : Int) + t.length
  · have s_ := And.intro @q1 (And.intro @q2 (And.intro @q3 (And.intro @hw0 (And.intro @hw1 (@T_size)))))
    try simp [s_]
    repeat' ((first | ((first | refine Tp ?_ | refine Tn ?_ | refine T2 ?_ ?_) <;> intro hw_ ew_ nw_) | rw [Ip] | rw [In] | rw [Fz] | rw [Gz] | fail) <;> first | simp [ew_, nw_, s_] | simp [s_] | skip)
  have e0 : (⟨#[]⟩ : ByteArray) = T [] := rfl
  by_cases q4 : t = []
  · subst q4
    have w1 : IntKind.i64.wrap (1099511627776 : Int) = 1099511627776 := by decide
    have w2 : IntKind.i64.wrap (a : Int) = a := wrap_id (by omega) (by omega)
    have c2 : ¬ (1099511627776 : Int) < a := by simpa using q2
    have c3 : ¬ (4096 : Int) < a := by simpa using q3
    have s_ := And.intro @q1 (And.intro @c2 (And.intro @c3 (And.intro @w1 (And.intro @w2 (And.intro @T_size (And.intro @e0 (@T_inj)))))))
    try simp [s_]
    repeat' ((first | ((first | refine Tp ?_ | refine Tn ?_ | refine T2 ?_ ?_) <;> intro hw_ ew_ nw_) | rw [Ip] | rw [In] | rw [Fz] | rw [Gz] | fail) <;> first | simp [ew_, nw_, s_] | simp [s_] | skip)
  have ht0 : 0 < t.length := List.length_pos_iff.2 q4
  have hsm : s.length ≤ 9223372036854775807 := by omega
  have s_ := And.intro @q1 (And.intro @q2 (And.intro @q3 (And.intro @q4 (And.intro @hw0 (And.intro @hw1 (And.intro @T_size (And.intro @e0 (And.intro @T_inj (And.intro @hsm (@bytesA_T))))))))))
  try simp [s_]
  repeat' ((first | ((first | refine Tp ?_ | refine Tn ?_ | refine T2 ?_ ?_) <;> intro hw_ ew_ nw_) | rw [Ip] | rw [In] | rw [Fz] | rw [Gz] | fail) <;> first | simp [ew_, nw_, s_] | simp [s_] | skip)
  refine AW.loopG (lit := fun _ => false) (fun x : List UInt8 × Nat => ⟨66, pat [(0, S (T s)), (1, I a), (2, S (T t)), (8, .own 0 x.2 0 x.1.length 1)], [.cells x.2 (x.1.map yb)]⟩) (fun x => a - x.1.length) (fun x => s.length ≤ x.1.length ∧ (x.1.length ≤ a ∨ x.1.length = s.length) ∧ x.1 = s ++ List.replicate (x.1.length - s.length) 0) (s, bigV) ?_ ?_ ?_
  · exact Wa
  · simp
  rintro ⟨x, ver⟩ ⟨g1, g2, g3⟩ A hA
  simp only at g1 g2 g3 hA
  by_cases hi : x.length < a
  · have e2 : x ++ [0] = s ++ List.replicate ((x ++ [0]).length - s.length) 0 := by
      have : (x ++ [0]).length - s.length = (x.length - s.length) + 1 := by simp; omega
      rw [this, List.replicate_succ', ← List.append_assoc, ← g3]
    have hm : x.length + 1 ≤ maxLen := by simp only [maxLen]; omega
    have s_ := And.intro @hi (And.intro @T_size (And.intro @hm ((show x.length + 1 ≤ 140737488355328 by omega))))
    try simp [s_]
    repeat' ((first | ((first | refine Tp ?_ | refine Tn ?_ | refine T2 ?_ ?_) <;> intro hw_ ew_ nw_) | (exact hA (x ++ [0], ver + 1) _ Wa ⟨by simp; omega, by simp; omega, e2⟩ (by simp; omega)) | rw [Ip] | rw [In] | rw [Fz] | rw [Gz] | fail) <;> first | simp [ew_, nw_, s_] | simp [s_] | skip)
  have s_ := hi
  try simp [s_]
  repeat' ((first | ((first | refine Tp ?_ | refine Tn ?_ | refine T2 ?_ ?_) <;> intro hw_ ew_ nw_) | rw [Ip] | rw [In] | rw [Fz] | rw [Gz] | fail) <;> first | simp [ew_, nw_, s_] | simp [s_] | skip)
  refine AW.loopG (lit := fun _ => false) (fun y : Nat × Nat × Nat => ⟨66, pat [(0, S (T s)), (1, I a), (2, S (T t)), (8, .own 0 y.2.1 0 y.2.2 1), (9, I y.1)], [.cells y.2.1 ((x.take a ++ t.take y.1 ++ x.drop (a + y.1)).map yb)]⟩) (fun y => t.length - y.1) (fun y => y.1 ≤ t.length ∧ y.2.2 = (x.take a ++ t.take y.1 ++ x.drop (a + y.1)).length) (0, ver, x.length) ?_ ?_ ?_
  · exact Wa
  · simp
  rintro ⟨i, v, n⟩ ⟨f1, f2⟩ A2 hA2
  simp only at f1 f2 hA2
  have hal : (x.take a).length = a := by simp; omega
  by_cases hj : i < t.length
  case neg =>
    have e : x.take a ++ t.take i ++ x.drop (a + i) = overL s a t := by
      rw [show t.take i = t from List.take_of_length_le (by omega), show i = t.length by omega]
      exact over_at s a t ht0 x g3 (by omega) (by omega) g1
    rw [e] at f2
    have s_ := And.intro @hj (And.intro @T_size (And.intro @e (@f2)))
    try simp [s_]
    repeat' ((first | ((first | refine Tp ?_ | refine Tn ?_ | refine T2 ?_ ?_) <;> intro hw_ ew_ nw_) | rw [Ip] | rw [In] | rw [Fz] | rw [Gz] | fail) <;> first | simp [ew_, nw_, s_] | simp [s_] | skip)
  have hb := byteAt_T t i hj
  have hwi := wrap_nat hj (by simp only [maxLen]; omega)
  have hwa : IntKind.i64.wrap ((a : Int) + i) = ((a + i : Nat) : Int) := by rw [wrap_id (by omega) (by omega)]; omega
  rw [List.length_append, List.length_append, hal, List.length_take, List.length_drop] at f2
  by_cases hk : a + i < x.length
  · have hn : n = x.length := by omega
    subst hn
    have hl : (a : Int) + i < x.length := by omega
    have hi2 : ((a : Int) + i).toNat = a + i := by omega
    have hk2 : (x.take a ++ t.take i ++ x.drop (a + i)).length = x.length := by simp; omega
    have e : (x.take a ++ t.take i ++ x.drop (a + i)).set (a + i) t[i] = x.take a ++ t.take (i + 1) ++ x.drop (a + (i + 1)) := by
      have hc : (x.take a ++ t.take i).length = a + i := by simp; omega
      rw [List.drop_eq_getElem_cons hk, List.take_succ_eq_append_getElem hj, List.set_append_right _ _ (by omega), hc, Nat.sub_self]
      rw [← Nat.add_assoc]
      simp only [List.set_cons_zero, List.append_assoc, List.cons_append, List.nil_append]
    have e2 : ((x.take a ++ t.take i ++ x.drop (a + i)).map yb).set (a + i) (yb t[i]) = (x.take a ++ t.take (i + 1) ++ x.drop (a + (i + 1))).map yb := by rw [← e, List.map_set]
    have hY2l : (x.take a ++ t.take (i + 1) ++ x.drop (a + (i + 1))).length = x.length := by rw [← e, List.length_set]; exact hk2
    generalize hY : x.take a ++ t.take i ++ x.drop (a + i) = Y at *
    have s_ := And.intro @hj (And.intro @hb (And.intro @hwi (And.intro @hwa (And.intro @hl (And.intro @hi2 (And.intro @hk2 (@T_size)))))))
    try simp [s_]
    repeat' ((first | ((first | refine Tp ?_ | refine Tn ?_ | refine T2 ?_ ?_) <;> intro hw_ ew_ nw_) | rw [Ip] | rw [In] | rw [Fz] | rw [Gz] | fail) <;> first | simp [ew_, nw_, s_] | simp [s_] | skip)
    exact hA2 (i + 1, v, x.length) _ (Wk.at _ rfl (by simp only; rw [← e2]) (by simp)) ⟨hj, hY2l.symm⟩ (by simp only; omega)
  · have hn : n = a + i := by omega
    subst hn
    have hl : ¬ ((a : Int) + i < ((a + i : Nat) : Int)) := by omega
    have hd : x.drop (a + i) = [] := List.drop_eq_nil_of_le (by omega)
    have hd2 : x.drop (a + (i + 1)) = [] := List.drop_eq_nil_of_le (by omega)
    have hm : a + i + 1 ≤ maxLen := by simp only [maxLen]; omega
    have hlen : min a x.length + min i t.length = a + i := by omega
    have s_ := And.intro @hj (And.intro @hb (And.intro @hwi (And.intro @hwa (And.intro @hl (And.intro @hd (And.intro @hlen (And.intro @hm (And.intro @T_size ((show a + i + 1 ≤ 140737488355328 by omega))))))))))
    try simp [s_]
    repeat' ((first | ((first | refine Tp ?_ | refine Tn ?_ | refine T2 ?_ ?_) <;> intro hw_ ew_ nw_) | rw [Ip] | rw [In] | rw [Fz] | rw [Gz] | fail) <;> first | simp [ew_, nw_, s_] | simp [s_] | skip)
    refine hA2 (i + 1, v + 1, a + i + 1) _ (Wk.at _ rfl ?_ (by simp)) ⟨hj, by rw [hd2]; simp; omega⟩ (by simp only; omega)
    simp [hd2]
    rw [List.take_succ_eq_append_getElem (by simpa using hj), List.getElem_map]
end Go.Proofs.YtdnfnddlciafmaaGreat
