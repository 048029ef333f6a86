import Derived.Test.YtdnfnddlciafmaaGreatXOpG
set_option linter.unusedVariables false
set_option linter.unusedSimpArgs false
namespace Go.Proofs.YtdnfnddlciafmaaGreat
open Go.Cx Tab
set_option maxHeartbeats 400000
set_option maxRecDepth 40000
theorem int_float {n : Int} (h : 0 ≤ n) : aconv Tryz.prog 3 221 (I n) = some (FL n.toNat) := aconv_float tui3 (by kernel_rfl) h
theorem float_int {n : Nat} (h : n < 9007199254740992) : aconv Tryz.prog 221 3 (FL n) = some (I n) := aconv_whole (by kernel_rfl) tui3 h
theorem of_ok (a m : Nat) (h : a + m ≤ 1099511627776) : PCall Tryz.prog 188 [I a, I m] (.tup [CL a m, I 0]) := by
  have h1 : ¬ (1099511627776 : Int) < a := by omega
  have h2 : ¬ (1099511627776 : Int) - a < m := by omega
  have h3 : IntKind.i64.wrap (1099511627776 - (a : Int)) = 1099511627776 - (a : Int) := wrap_id (by omega) (by omega)
  have e1 := int_float (n := (a : Int)) (by omega)
  have e2 := int_float (n := (m : Int)) (by omega)
  simp only [Int.toNat_natCast] at e1 e2
  refine Pm Tryz.func188 fun hfit => ?_
  simp [Tryz.f188]
  have s_ := And.intro @h1 (And.intro @h2 (And.intro @h3 (And.intro @e1 (@e2))))
  try simp [s_]
  repeat' ((first | ((first | refine Tp ?_ | refine Tn ?_ | refine T2 ?_ ?_) <;> intro hw_ ew_ nw_) | rw [Ip] | rw [In] | rw [Fz] | rw [Gz] | fail) <;> first | simp [ew_, nw_, s_] | simp [s_] | skip)
theorem of_bad (a m : Int) (ha : inI a) (h : a < 0 ∨ 1099511627776 < a ∨ m < 0 ∨ 1099511627776 - a < m) : PCall Tryz.prog 188 [I a, I m] (.tup [CL 0 0, I 1]) := by
  have hz : CL 0 0 = AV.val (Value.complex .f64 0 0) := rfl
  refine Pm Tryz.func188 fun hfit => ?_
  simp [Tryz.f188, FB_zero]
  by_cases h1 : a < 0
  · have s_ := And.intro @h1 (@FB_zero)
    try simp [s_]
    repeat' ((first | ((first | refine Tp ?_ | refine Tn ?_ | refine T2 ?_ ?_) <;> intro hw_ ew_ nw_) | rw [Ip] | rw [In] | rw [Fz] | rw [Gz] | fail) <;> first | simp [ew_, nw_, s_] | simp [s_] | skip)
  by_cases h2 : 1099511627776 < a
  · have s_ := And.intro @h1 (And.intro @h2 (@FB_zero))
    try simp [s_]
    repeat' ((first | ((first | refine Tp ?_ | refine Tn ?_ | refine T2 ?_ ?_) <;> intro hw_ ew_ nw_) | rw [Ip] | rw [In] | rw [Fz] | rw [Gz] | fail) <;> first | simp [ew_, nw_, s_] | simp [s_] | skip)
  by_cases h3 : m < 0
  · have s_ := And.intro @h1 (And.intro @h2 (And.intro @h3 (@FB_zero)))
    try simp [s_]
    repeat' ((first | ((first | refine Tp ?_ | refine Tn ?_ | refine T2 ?_ ?_) <;> intro hw_ ew_ nw_) | rw [Ip] | rw [In] | rw [Fz] | rw [Gz] | fail) <;> first | simp [ew_, nw_, s_] | simp [s_] | skip)
  have h4 : IntKind.i64.wrap (1099511627776 - a) = 1099511627776 - a := wrap_id (by omega) (by omega)
  have h5 : 1099511627776 - a < m := by omega
  have s_ := And.intro @h1 (And.intro @h2 (And.intro @h3 (And.intro @h4 (And.intro @h5 (@FB_zero)))))
  try simp [s_]
  repeat' ((first | ((first | refine Tp ?_ | refine Tn ?_ | refine T2 ?_ ?_) <;> intro hw_ ew_ nw_) | rw [Ip] | rw [In] | rw [Fz] | rw [Gz] | fail) <;> first | simp [ew_, nw_, s_] | simp [s_] | skip)
theorem end_ok (a m : Nat) (h : a + m ≤ 1099511627776) : PCall Tryz.prog 220 [CL a m] (FL (a + m)) := by
  have e : ∀ t ox oy, abin Tryz.prog .add t ox oy (FL a) (FL m) = some (FL (a + m)) := fun t ox oy => binf_add t ox oy (by omega)
  refine Pm Tryz.func220 fun hfit => ?_
  simp [Tryz.f220]
  have s_ := e
  try simp [s_]
  repeat' ((first | ((first | refine Tp ?_ | refine Tn ?_ | refine T2 ?_ ?_) <;> intro hw_ ew_ nw_) | rw [Ip] | rw [In] | rw [Fz] | rw [Gz] | fail) <;> first | simp [ew_, nw_, s_] | simp [s_] | skip)
theorem parts_ok (a m : Nat) (h : a + m ≤ 1099511627776) : PCall Tryz.prog 190 [CL a m] (.tup [I a, I m]) := by
  have e1 := float_int (n := a) (by omega)
  have e2 := float_int (n := m) (by omega)
  refine Pm Tryz.func190 fun hfit => ?_
  simp [Tryz.f190]
  have s_ := And.intro @e1 (@e2)
  try simp [s_]
  repeat' ((first | ((first | refine Tp ?_ | refine Tn ?_ | refine T2 ?_ ?_) <;> intro hw_ ew_ nw_) | rw [Ip] | rw [In] | rw [Fz] | rw [Gz] | fail) <;> first | simp [ew_, nw_, s_] | simp [s_] | skip)
theorem both_ok (a m b k : Nat) (h : a + m ≤ 1099511627776) (h' : b + k ≤ 1099511627776) : PCall Tryz.prog 189 [CL a m, CL b k] (if min (a + m) (b + k) ≤ max a b then .tup [CL 0 0, B false] else .tup [CL (max a b) (min (a + m) (b + k) - max a b), B true]) := by
  have h1 := end_ok a m h
  have h2 := end_ok b k h'
  have e1 : ∀ (h : AHeap) t t' ty cs, evCall Tryz.prog h .max [t, t'] ty cs [FL a, FL b] = some (FL (max a b), h) := fun h t t' ty cs => evCall_fmax h t t' ty cs a b (by omega) (by omega)
  have e2 : ∀ (h : AHeap) t t' ty cs, evCall Tryz.prog h .min [t, t'] ty cs [FL (a + m), FL (b + k)] = some (FL (min (a + m) (b + k)), h) := fun h t t' ty cs => evCall_fmin h t t' ty cs (a + m) (b + k) (by omega) (by omega)
  have e3 : ∀ t ox oy, abin Tryz.prog .geq t ox oy (FL (max a b)) (FL (min (a + m) (b + k))) = some (B (decide (min (a + m) (b + k) ≤ max a b))) := fun t ox oy => binf_geq t ox oy (by omega) (by omega)
  by_cases hq : min (a + m) (b + k) ≤ max a b
  · rw [if_pos hq]
    refine Pm Tryz.func189 fun hfit => ?_
    simp [Tryz.f189, FB_zero]
    have s_ := And.intro @e1 (And.intro @e2 (And.intro @e3 (And.intro @hq (@FB_zero))))
    try simp [s_]
    repeat' ((first | ((first | refine Tp ?_ | refine Tn ?_ | refine T2 ?_ ?_) <;> intro hw_ ew_ nw_) | refine Pg h1 ?_ | refine Pg h2 ?_ | rw [Ip] | rw [In] | rw [Fz] | rw [Gz] | fail) <;> first | simp [ew_, nw_, s_] | simp [s_] | skip)
  · have e4 : ∀ t ox oy, abin Tryz.prog .sub t ox oy (FL (min (a + m) (b + k))) (FL (max a b)) = some (FL (min (a + m) (b + k) - max a b)) := fun t ox oy => binf_sub t ox oy (by omega) (by omega)
    rw [if_neg hq]
    refine Pm Tryz.func189 fun hfit => ?_
    simp [Tryz.f189]
    have s_ := And.intro @e1 (And.intro @e2 (And.intro @e3 (And.intro @e4 (@hq))))
    try simp [s_]
    repeat' ((first | ((first | refine Tp ?_ | refine Tn ?_ | refine T2 ?_ ?_) <;> intro hw_ ew_ nw_) | refine Pg h1 ?_ | refine Pg h2 ?_ | rw [Ip] | rw [In] | rw [Fz] | rw [Gz] | fail) <;> first | simp [ew_, nw_, s_] | simp [s_] | skip)
theorem part_T (s : List UInt8) (a b : Nat) : (T s).extract a b = T ((s.take b).drop a) := by rw [T_ext]
theorem read_ok (s : List UInt8) (at_ many : Int) (h1 : inI at_) (h2 : inI many) (hs : s.length ≤ 1099511627776) : PCall Tryz.prog 126 [S (T s), I at_, I many] (.tup [S (T (readT s at_ many).1), I (readT s at_ many).2]) := by
  by_cases hb : at_ < 0 ∨ 1099511627776 < at_ ∨ many < 0 ∨ 1099511627776 - at_ < many
  · have c1 := of_bad at_ many h1 hb
    simp only [readT, if_pos hb]
    refine Pm Tryz.func126 fun hfit => ?_
    simp [Tryz.f126]
    try simp
    repeat' ((first | ((first | refine Tp ?_ | refine Tn ?_ | refine T2 ?_ ?_) <;> intro hw_ ew_ nw_) | refine Pg c1 ?_ | rw [Ip] | rw [In] | rw [Fz] | rw [Gz] | fail) <;> first | simp [ew_, nw_] | simp | skip)
  have hb2 : 0 ≤ at_ ∧ 0 ≤ many ∧ at_ + many ≤ 1099511627776 := by omega
  obtain ⟨b1, b2, b3⟩ := hb2
  obtain ⟨a, rfl⟩ := Int.eq_ofNat_of_zero_le b1
  obtain ⟨m, rfl⟩ := Int.eq_ofNat_of_zero_le b2
  have c1 := of_ok a m (by omega)
  have c2 := of_ok 0 s.length (by omega)
  have c3 := both_ok a m 0 s.length (by omega) (by omega)
  simp only [readT, if_neg hb, Int.toNat_natCast]
  by_cases hq : min (a + m) (0 + s.length) ≤ max a 0
  · rw [if_pos hq] at c3
    have e : (s.drop a).take m = [] := by
      rcases Nat.lt_or_ge a s.length with q | q
      · have : m = 0 := by omega
        subst this; simp
      · rw [List.drop_eq_nil_of_le q]; simp
    rw [e]
    refine Pm Tryz.func126 fun hfit => ?_
    simp [Tryz.f126]
    have s_ := T_size
    try simp [s_]
    repeat' ((first | ((first | refine Tp ?_ | refine Tn ?_ | refine T2 ?_ ?_) <;> intro hw_ ew_ nw_) | refine Pg c1 ?_ | refine Pg c2 ?_ | refine Pg c3 ?_ | rw [Ip] | rw [In] | rw [Fz] | rw [Gz] | fail) <;> first | simp [ew_, nw_, s_] | simp [s_] | skip)
  · rw [if_neg hq] at c3
    have c4 := parts_ok (max a 0) (min (a + m) (0 + s.length) - max a 0) (by omega)
    have e1 : max a 0 = a := by omega
    rw [e1] at c3 c4
    generalize hn : min (a + m) (0 + s.length) - a = n at *
    have hn1 : a + n ≤ s.length := by omega
    have hw : IntKind.i64.wrap ((a : Int) + n) = ((a + n : Nat) : Int) := by rw [wrap_id (by omega) (by omega)]; omega
    have e : (T s).extract a (a + n) = T ((s.drop a).take m) := by
      rw [part_T]
      congr 1
      rw [List.drop_take, Nat.add_sub_cancel_left]
      rcases Nat.lt_or_ge (a + m) s.length with q | q
      · have : n = m := by omega
        rw [this]
      · rw [List.take_of_length_le (by rw [List.length_drop]; omega), List.take_of_length_le (by rw [List.length_drop]; omega)]
    have hn2 : (a : Int) ≤ ((a + n : Nat) : Int) := by omega
    have hn3 : ((a + n : Nat) : Int) ≤ s.length := by omega
    refine Pm Tryz.func126 fun hfit => ?_
    simp [Tryz.f126]
    have e' : (T s).extract a ((a : Int) + (n : Int)).toNat = T ((s.drop a).take m) := by rw [← e]; congr 1
    have s_ := And.intro @T_size (And.intro @hw (And.intro @e (And.intro @e' (And.intro @hn1 (And.intro @hn2 (@hn3))))))
    try simp [s_]
    repeat' ((first | ((first | refine Tp ?_ | refine Tn ?_ | refine T2 ?_ ?_) <;> intro hw_ ew_ nw_) | refine Pg c1 ?_ | refine Pg c2 ?_ | refine Pg c3 ?_ | refine Pg c4 ?_ | rw [Ip] | rw [In] | rw [Fz] | rw [Gz] | fail) <;> first | simp [ew_, nw_, s_] | simp [s_] | skip)
theorem bytesA_T (s : List UInt8) : bytesA (T s) = s.map yb := rfl
theorem rep_yb (n : Nat) : List.replicate n (AV.val (Value.int IntKind.u8 0)) = (List.replicate n (0 : UInt8)).map yb := by
  rw [List.map_replicate]; rfl
def overB (l : List UInt8) (k : Nat) (t : List UInt8) : List UInt8 := l.take k ++ t ++ l.drop (k + t.length)
theorem put_yb (l : List UInt8) (k : Nat) (t : List UInt8) : putAt (l.map yb) k (t.map yb) = (overB l k t).map yb := by simp [putAt, overB]
theorem cut_ok (s : List UInt8) (many : Int) (h2 : inI many) (hs : s.length ≤ 1099511627776) : PCall Tryz.prog 138 [S (T s), I many] (.tup [S (T (cutT s many).1), I (cutT s many).2]) := by
  by_cases hb : many < 0 ∨ 1099511627776 < many
  · have c1 := of_bad many 0 h2 (by omega)
    simp only [cutT, if_pos hb]
    refine Pm Tryz.func138 fun hfit => ?_
    simp [Tryz.f138]
    try simp
    repeat' ((first | ((first | refine Tp ?_ | refine Tn ?_ | refine T2 ?_ ?_) <;> intro hw_ ew_ nw_) | refine Pg c1 ?_ | rw [Ip] | rw [In] | rw [Fz] | rw [Gz] | fail) <;> first | simp [ew_, nw_] | simp | skip)
  obtain ⟨m, rfl⟩ := Int.eq_ofNat_of_zero_le (show 0 ≤ many by omega)
  have c1 := of_ok m 0 (by omega)
  by_cases hc : (4096 : Int) < m
  · simp only [cutT, if_neg hb, if_pos hc]
    have hc2 : 4096 < m := by omega
    refine Pm Tryz.func138 fun hfit => ?_
    simp [Tryz.f138]
    have s_ := And.intro @hc (@hc2)
    try simp [s_]
    repeat' ((first | ((first | refine Tp ?_ | refine Tn ?_ | refine T2 ?_ ?_) <;> intro hw_ ew_ nw_) | refine Pg c1 ?_ | rw [Ip] | rw [In] | rw [Fz] | rw [Gz] | fail) <;> first | simp [ew_, nw_, s_] | simp [s_] | skip)
  simp only [cutT, if_neg hb, if_neg hc, Int.toNat_natCast]
  have hc2 : ¬ 4096 < m := by omega
  have hp : putAt (List.replicate m (AV.val (Value.int IntKind.u8 0))) 0 ((s.map yb).take (min s.length m)) = (s.take m ++ List.replicate (m - s.length) 0).map yb := by
    rw [rep_yb, ← List.map_take, put_yb]
    congr 1
    simp only [overB, List.take_zero, List.nil_append, Nat.zero_add, List.drop_replicate, List.length_take]
    rcases Nat.le_total s.length m with q | q
    · rw [Nat.min_eq_left q, List.take_of_length_le (Nat.le_refl _), List.take_of_length_le q, Nat.min_self]
    · rw [Nat.min_eq_right q]
      congr 2
      omega
  refine Pm Tryz.func138 fun hfit => ?_
  simp [Tryz.f138]
  have s_ := And.intro @hc (@hc2)
  try simp [s_]
  repeat' ((first | ((first | refine Tp ?_ | refine Tn ?_ | refine T2 ?_ ?_) <;> intro hw_ ew_ nw_) | refine Pg c1 ?_ | rw [Ip] | rw [In] | rw [Fz] | rw [Gz] | fail) <;> first | simp [ew_, nw_, s_] | simp [s_] | skip)
  rw [if_pos ⟨by rw [bytesA_T, List.length_map]; rfl, fun x hx => List.all_eq_true.1 (one_ybs s) x (List.mem_of_mem_take hx)⟩, bytesA_T, T_size, hp]
  have hXl : (s.take m ++ List.replicate (m - s.length) 0).length = m := by simp; omega
  generalize s.take m ++ List.replicate (m - s.length) 0 = X at *
  have hXt : List.take m (X.map yb) = X.map yb := List.take_of_length_le (by simp [hXl])
  simp [hXl, hXt]
theorem over_eq (s : List UInt8) (k : Nat) (t : List UInt8) (ht : t ≠ []) : overB (overB (List.replicate (max s.length (k + t.length)) 0) 0 s) k t = overL s k t := by
  have h1 : overB (List.replicate (max s.length (k + t.length)) 0) 0 s = s ++ List.replicate (k + t.length - s.length) 0 := by
    simp only [overB, List.take_zero, List.nil_append, Nat.zero_add, List.drop_replicate]
    congr 2; omega
  rw [h1, overB, overL]
  congr 1
  · congr 1
    have e : s ++ List.replicate (k + t.length - s.length) 0 = (s ++ List.replicate (k - s.length) 0) ++ List.replicate (k + t.length - s.length - (k - s.length)) 0 := by
      rw [List.append_assoc, List.replicate_append_replicate]; congr 2; omega
    rw [e, List.take_append_of_le_length (by simp; omega)]
  · rw [List.drop_append]
    rw [show List.drop (k + t.length - s.length) (List.replicate (k + t.length - s.length) (0 : UInt8)) = [] by simp]
    simp
theorem overL_len (s : List UInt8) (k : Nat) (t : List UInt8) : (overL s k t).length = max s.length (k + t.length) := by
  simp only [overL, List.length_append, List.length_take, List.length_replicate, List.length_drop]; omega
theorem write_ok (s : List UInt8) (at_ : Int) (t : List UInt8) (h1 : inI at_) (hs : s.length ≤ 1000000) (ht : t.length ≤ 9223372036854775807) : PCall Tryz.prog 135 [S (T s), I at_, S (T t)] (.tup [S (T (writeT s at_ t).1), I (writeT s at_ t).2]) := by
  by_cases hb : at_ < 0 ∨ 1099511627776 - t.length < at_
  · have c1 := of_bad at_ t.length h1 (by omega)
    simp only [writeT, if_pos hb]
    refine Pm Tryz.func135 fun hfit => ?_
    simp [Tryz.f135]
    have s_ := T_size
    try simp [s_]
    repeat' ((first | ((first | refine Tp ?_ | refine Tn ?_ | refine T2 ?_ ?_) <;> intro hw_ ew_ nw_) | refine Pg c1 ?_ | rw [Ip] | rw [In] | rw [Fz] | rw [Gz] | fail) <;> first | simp [ew_, nw_, s_] | simp [s_] | skip)
  obtain ⟨a, rfl⟩ := Int.eq_ofNat_of_zero_le (show 0 ≤ at_ by omega)
  have c1 := of_ok a t.length (by omega)
  have e1 : ∀ tt ox oy, abin Tryz.prog .add tt ox oy (FL a) (FL t.length) = some (FL (a + t.length)) := fun tt ox oy => binf_add tt ox oy (by omega)
  have e2 : ∀ tt ox oy, abin Tryz.prog .gtr tt ox oy (FL (a + t.length)) (.val (.float .f64 4661225614328463360)) = some (B (decide (4096 < a + t.length))) := fun tt ox oy => by
    have : FB 4096 = 4661225614328463360 := by rw [FB_pos (by decide) (by decide)]; decide
    rw [← this]
    exact binf_gtr tt ox oy (by omega) (by decide)
  simp only [writeT, if_neg hb, Int.toNat_natCast]
  by_cases hc : (4096 : Int) < a + t.length
  · have hc2 : 4096 < a + t.length := by omega
    rw [if_pos hc]
    refine Pm Tryz.func135 fun hfit => ?_
    simp [Tryz.f135]
    have s_ := And.intro @hc (And.intro @hc2 (And.intro @e1 (And.intro @e2 (@T_size))))
    try simp [s_]
    repeat' ((first | ((first | refine Tp ?_ | refine Tn ?_ | refine T2 ?_ ?_) <;> intro hw_ ew_ nw_) | refine Pg c1 ?_ | rw [Ip] | rw [In] | rw [Fz] | rw [Gz] | fail) <;> first | simp [ew_, nw_, s_] | simp [s_] | skip)
  rw [if_neg hc]
  have hc2 : ¬ 4096 < a + t.length := by omega
  by_cases hn : t = []
  · subst hn
    have hn2 : T ([] : List UInt8) = (⟨#[]⟩ : ByteArray) := rfl
    rw [if_pos rfl]
    simp only [List.length_nil, Nat.add_zero] at *
    refine Pm Tryz.func135 fun hfit => ?_
    simp [Tryz.f135]
    have s_ := And.intro @hc (And.intro @hc2 (And.intro @e1 (And.intro @e2 (And.intro @hn2 (@T_size)))))
    try simp [s_]
    repeat' ((first | ((first | refine Tp ?_ | refine Tn ?_ | refine T2 ?_ ?_) <;> intro hw_ ew_ nw_) | refine Pg c1 ?_ | rw [Ip] | rw [In] | rw [Fz] | rw [Gz] | fail) <;> first | simp [ew_, nw_, s_] | simp [s_] | skip)
  rw [if_neg hn]
  have hn2 : ¬ T t = (⟨#[]⟩ : ByteArray) := fun h => hn (by have := congrArg bs h; rw [bs_T] at this; exact this)
  have hw : IntKind.i64.wrap ((a : Int) + t.length) = (a : Int) + t.length := by rw [wrap_id (by omega) (by omega)]
  have hov := over_eq s a t hn
  have hol := overL_len s a t
  have hl1 : (overB (List.replicate (max s.length (a + t.length)) 0) 0 s).length = max s.length (a + t.length) := by simp [overB]; omega
  generalize hM : max s.length (a + t.length) = M at *
  have hmx : max (s.length : Int) ((a : Int) + t.length) = (M : Int) := by omega
  have hM1 : s.length ≤ M := by omega
  have hM2 : a + t.length ≤ M := by omega
  generalize hX : overB (List.replicate M 0) 0 s = X at *
  generalize overL s a t = Y at *
  have hp : putAt (List.replicate M (AV.val (Value.int IntKind.u8 0))) 0 ((s.map yb).take (min s.length M)) = X.map yb := by
    rw [rep_yb, Nat.min_eq_left hM1, List.take_of_length_le (by simp), put_yb, hX]
  have hp2 : putAt (X.map yb) a ((t.map yb).take (min t.length (M - a))) = Y.map yb := by
    rw [Nat.min_eq_left (by omega), List.take_of_length_le (by simp), put_yb, hov]
  refine Pm Tryz.func135 fun hfit => ?_
  simp [Tryz.f135]
  have s_ := And.intro @hc (And.intro @hc2 (And.intro @e1 (And.intro @e2 (And.intro @hn2 (And.intro @hw (And.intro @hmx (@T_size)))))))
  try simp [s_]
  repeat' ((first | ((first | refine Tp ?_ | refine Tn ?_ | refine T2 ?_ ?_) <;> intro hw_ ew_ nw_) | refine Pg c1 ?_ | rw [Ip] | rw [In] | rw [Fz] | rw [Gz] | fail) <;> first | simp [ew_, nw_, s_] | simp [s_] | skip)
  rw [if_pos ⟨by rw [bytesA_T, List.length_map], fun x hx => List.all_eq_true.1 (one_ybs s) x (List.mem_of_mem_take hx)⟩, bytesA_T, hp]
  have ha : a ≤ M := by omega
  have ha2 : (a : Int) ≤ M := by omega
  simp [ha, ha2, hl1]
  have s_ := And.intro @ha (And.intro @ha2 (And.intro @hl1 (@T_size)))
  try simp [s_]
  repeat' ((first | ((first | refine Tp ?_ | refine Tn ?_ | refine T2 ?_ ?_) <;> intro hw_ ew_ nw_) | rw [Ip] | rw [In] | rw [Fz] | rw [Gz] | fail) <;> first | simp [ew_, nw_, s_] | simp [s_] | skip)
  rw [if_pos ⟨by rw [bytesA_T, List.length_map], fun x hx => List.all_eq_true.1 (one_ybs t) x (List.mem_of_mem_take hx)⟩, bytesA_T, hp2]
  have hXt : List.take M (Y.map yb) = Y.map yb := List.take_of_length_le (by simp [hol])
  simp [hol, hXt]
end Go.Proofs.YtdnfnddlciafmaaGreat
