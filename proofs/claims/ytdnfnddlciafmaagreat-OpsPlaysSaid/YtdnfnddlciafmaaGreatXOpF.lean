import Derived.Test.YtdnfnddlciafmaaGreatXOpE
set_option linter.unusedVariables false
set_option linter.unusedSimpArgs false
namespace Go.Proofs.YtdnfnddlciafmaaGreat
open Go.Cx Tab
set_option maxHeartbeats 400000
set_option maxRecDepth 40000
theorem plE_lt {l : List EntryR} {s : ByteArray} {i : Nat} (h : i ≤ plE l s) : i < plE l s ↔ ∃ h : i < l.length, strLt l[i].name s = true := by
  constructor
  · intro q; obtain ⟨h', h2⟩ := takeWhile_at (fun x : EntryR => strLt x.name s) l i q; exact ⟨h', h2⟩
  · rintro ⟨h1, h2⟩
    rcases Nat.lt_or_ge i (plE l s) with q | q
    · exact q
    · have e : i = plE l s := by omega
      subst e
      have := takeWhile_end (fun x : EntryR => strLt x.name s) l h1
      rw [show strLt l[plE l s].name s = false from this] at h2
      cases h2
theorem renter_ok (l : List EntryR) (s : ByteArray) (ino : Int) (hl : l.length ≤ 100000) : PCall Tryz.prog 151 [encL EntryR.enc l, S s, I ino] (.tup [encL EntryR.enc (enterE l s ino).1, I (enterE l s ino).2]) := by
  have h1 := rfind06_ok l s
  have h2 := rcheck_ok s
  have hlt := @plE_lt l s
  have hple := plE_le l s
  simp only [enterE, insE_eq]
  generalize plE l s = q at *
  generalize findE l s = F at *
  obtain ⟨fi, is⟩ := F
  simp only at h1 ⊢
  refine Pm Tryz.func151 fun hfit => ?_
  simp [Tryz.f151]
  cases hn : nameOk s with
  | false =>
    have hc : checkS s = 10 := by simp [checkS, hn]
    rw [hc] at h2
    have s_ := And.intro @hn (@hc)
    try simp [s_]
    repeat' ((first | ((first | refine Tp ?_ | refine Tn ?_ | refine T2 ?_ ?_) <;> intro hw_ ew_ nw_) | refine Pg h1 ?_ | refine Pg h2 ?_ | rw [Ip] | rw [In] | rw [Fz] | rw [Gz] | fail) <;> first | simp [ew_, nw_, s_] | simp [s_] | skip)
  | true =>
    have hc : checkS s = 0 := by simp [checkS, hn]
    rw [hc] at h2
    by_cases hi : ino < 1
    · have s_ := And.intro @hn (And.intro @hc (@hi))
      try simp [s_]
      repeat' ((first | ((first | refine Tp ?_ | refine Tn ?_ | refine T2 ?_ ?_) <;> intro hw_ ew_ nw_) | refine Pg h1 ?_ | refine Pg h2 ?_ | rw [Ip] | rw [In] | rw [Fz] | rw [Gz] | fail) <;> first | simp [ew_, nw_, s_] | simp [s_] | skip)
    cases is with
    | true =>
      have s_ := And.intro @hn (And.intro @hc (@hi))
      try simp [s_]
      repeat' ((first | ((first | refine Tp ?_ | refine Tn ?_ | refine T2 ?_ ?_) <;> intro hw_ ew_ nw_) | refine Pg h1 ?_ | refine Pg h2 ?_ | rw [Ip] | rw [In] | rw [Fz] | rw [Gz] | fail) <;> first | simp [ew_, nw_, s_] | simp [s_] | skip)
    | false =>
      by_cases h6 : 256 ≤ l.length
      · have h6' : (256 : Int) ≤ l.length := by omega
        have s_ := And.intro @hn (And.intro @hc (And.intro @hi (And.intro @h6 (@h6'))))
        try simp [s_]
        repeat' ((first | ((first | refine Tp ?_ | refine Tn ?_ | refine T2 ?_ ?_) <;> intro hw_ ew_ nw_) | refine Pg h1 ?_ | refine Pg h2 ?_ | rw [Ip] | rw [In] | rw [Fz] | rw [Gz] | fail) <;> first | simp [ew_, nw_, s_] | simp [s_] | skip)
      · have h6' : ¬ (256 : Int) ≤ l.length := by omega
        have s_ := And.intro @hn (And.intro @hc (And.intro @hi (And.intro @h6 (@h6'))))
        try simp [s_]
        repeat' ((first | ((first | refine Tp ?_ | refine Tn ?_ | refine T2 ?_ ?_) <;> intro hw_ ew_ nw_) | refine Pg h1 ?_ | refine Pg h2 ?_ | rw [Ip] | rw [In] | rw [Fz] | rw [Gz] | fail) <;> first | simp [ew_, nw_, s_] | simp [s_] | skip)
        refine AW.loopG (lit := fun _ => false) (fun i : Nat => ⟨67, pat [(0, encL EntryR.enc l), (1, S s), (2, I ino), (11, .own 0 i 0 i 2), (12, I i)], [.cells i ((l.take i).flatMap EntryR.enc)]⟩) (fun i => l.length - i) (fun i => i ≤ q) 0 ?_ ?_ ?_
        · exact Wk.trans (Wk.ownNil 11 2 (by simp)) Wa
        · omega
        rintro i g1 A hA
        have hli : (l.take i).length = i := by simp; omega
        by_cases hq : i < q
        · obtain ⟨hi2, hs⟩ := (hlt g1).1 hq
          have hwi := wrap_nat hi2 (by simp only [maxLen]; omega)
          have htk : l.take (i + 1) = l.take i ++ [l[i]] := by simp
          have hfm : (l.take (i + 1)).flatMap EntryR.enc = (l.take i).flatMap EntryR.enc ++ l[i].enc := by rw [htk, List.flatMap_append]; simp
          have hs' : strLt l[i].name s = true := hs
          have s_ := And.intro @hi2 (And.intro @hwi (And.intro @hs' (And.intro @hli (@EntryR.enc.eq_1))))
          try simp [s_]
          repeat' ((first | ((first | refine Tp ?_ | refine Tn ?_ | refine T2 ?_ ?_) <;> intro hw_ ew_ nw_) | (exact hA (i + 1) _ (Wk.cutAt _ rfl (by simp [hli, hfm]) (by simp [hli, hfm, EntryR.enc]) (by simp [hli, hfm]) (by simp [hli, hfm])) hq (by omega)) | rw [Ip] | rw [In] | rw [Fz] | rw [Gz] | fail) <;> first | simp [ew_, nw_, s_] | simp [s_] | skip)
        · have e : i = q := by omega
          subst e
          have hq0 : List.take ((l.length - i) * 2) (List.drop (i * 2) (l.flatMap EntryR.enc)) = (l.drop i).flatMap EntryR.enc := by
            rw [drops_EntryR, List.take_of_length_le (by rw [len_EntryR, List.length_drop]; exact Nat.le_refl _)]
          have hmin : min ((l.length - i) * 2) (l.length * 2 - i * 2) = (l.length - i) * 2 := by omega
          have hone : ∀ x ∈ (l.drop i).flatMap EntryR.enc, isOne x = true := List.all_eq_true.1 (one_EntryR _)
          have hil : (insL l i ⟨s, ino⟩).length = i + 1 + (l.length - i) := by rw [insL_length]; omega
          have hfin : (l.take i).flatMap EntryR.enc ++ AV.val (Value.string s) :: AV.val (Value.int IntKind.i64 ino) :: (l.drop i).flatMap EntryR.enc = (insL l i ⟨s, ino⟩).flatMap EntryR.enc := by simp [insL, EntryR.enc]
          by_cases hi2 : i < l.length
          · have hs : strLt l[i].name s = false := by
              cases hs : strLt l[i].name s with
              | false => rfl
              | true => exact absurd ((hlt (Nat.le_refl i)).2 ⟨hi2, hs⟩) hq
            have s_ := And.intro @hi2 (And.intro @hs (And.intro @hli (@EntryR.enc.eq_1)))
            try simp [s_]
            repeat' ((first | ((first | refine Tp ?_ | refine Tn ?_ | refine T2 ?_ ?_) <;> intro hw_ ew_ nw_) | rw [Ip] | rw [In] | rw [Fz] | rw [Gz] | fail) <;> first | simp [ew_, nw_, s_] | simp [s_] | skip)
            rw [if_pos ⟨hmin, by rw [hq0]; exact hone⟩, if_pos ⟨by omega, by omega, by simp only [maxLen]; omega⟩]
            simp [hq0, hfin]
            rw [frzOwn_neat (by simp) (by simp; omega)]
            simp [hil]
          · have s_ := And.intro @hi2 (And.intro @hli (@EntryR.enc.eq_1))
            try simp [s_]
            repeat' ((first | ((first | refine Tp ?_ | refine Tn ?_ | refine T2 ?_ ?_) <;> intro hw_ ew_ nw_) | rw [Ip] | rw [In] | rw [Fz] | rw [Gz] | fail) <;> first | simp [ew_, nw_, s_] | simp [s_] | skip)
            rw [if_pos ⟨hmin, by rw [hq0]; exact hone⟩, if_pos ⟨by omega, by omega, by simp only [maxLen]; omega⟩]
            simp [hq0, hfin]
            rw [frzOwn_neat (by simp) (by simp; omega)]
            simp [hil]
theorem outE_at {l : List EntryR} {s : ByteArray} {i : Nat} (h : i < l.length) : outE (l.drop i) s = (if l[i].name = s then [] else [l[i]]) ++ outE (l.drop (i + 1)) s := by
  rw [List.drop_eq_getElem_cons h, outE, outE, List.filter_cons]
  by_cases e : l[i].name = s <;> simp [e]
theorem rleave_ok (l : List EntryR) (s : ByteArray) (hl : l.length ≤ 100000) : PCall Tryz.prog 209 [encL EntryR.enc l, S s] (.tup [encL EntryR.enc (leaveE l s).1, I (leaveE l s).2.1, I (leaveE l s).2.2]) := by
  have h1 := rfind06_ok l s
  simp only [leaveE]
  generalize findE l s = F at *
  obtain ⟨fi, is⟩ := F
  simp only at h1 ⊢
  refine Pm Tryz.func209 fun hfit => ?_
  simp [Tryz.f209]
  cases is with
  | false =>
    try simp
    repeat' ((first | ((first | refine Tp ?_ | refine Tn ?_ | refine T2 ?_ ?_) <;> intro hw_ ew_ nw_) | refine Pg h1 ?_ | rw [Ip] | rw [In] | rw [Fz] | rw [Gz] | fail) <;> first | simp [ew_, nw_] | simp | skip)
  | true =>
    try simp
    repeat' ((first | ((first | refine Tp ?_ | refine Tn ?_ | refine T2 ?_ ?_) <;> intro hw_ ew_ nw_) | refine Pg h1 ?_ | rw [Ip] | rw [In] | rw [Fz] | rw [Gz] | fail) <;> first | simp [ew_, nw_] | simp | skip)
    refine AW.loopG (lit := fun _ => false) (fun x : Nat × List EntryR => ⟨42, pat [(0, encL EntryR.enc l), (1, S s), (7, I fi), (9, .own 0 x.2.length 0 x.2.length 2), (10, I x.1)], [.cells x.2.length (x.2.flatMap EntryR.enc)]⟩) (fun x => l.length - x.1) (fun x => x.1 ≤ l.length ∧ x.2.length ≤ x.1 ∧ x.2 ++ outE (l.drop x.1) s = outE l s) (0, []) ?_ ?_ ?_
    · exact Wk.trans (Wk.ownNil 9 2 (by simp)) Wa
    · simp
    rintro ⟨i, acc⟩ ⟨g1, g2, g3⟩ A hA
    simp only at g1 g2 g3 hA
    by_cases hi : i < l.length
    case neg =>
      rw [List.drop_eq_nil_of_le (by omega), show outE [] s = [] from rfl, List.append_nil] at g3
      rw [← g3]
      have s_ := hi
      try simp [s_]
      repeat' ((first | ((first | refine Tp ?_ | refine Tn ?_ | refine T2 ?_ ?_) <;> intro hw_ ew_ nw_) | rw [Ip] | rw [In] | rw [Fz] | rw [Gz] | fail) <;> first | simp [ew_, nw_, s_] | simp [s_] | skip)
    rw [outE_at hi] at g3
    have hwi := wrap_nat hi (by simp only [maxLen]; omega)
    by_cases hs : l[i].name = s
    · rw [if_pos hs, List.nil_append] at g3
      have s_ := And.intro @hi (And.intro @hwi (And.intro @hs (@EntryR.enc.eq_1)))
      try simp [s_]
      repeat' ((first | ((first | refine Tp ?_ | refine Tn ?_ | refine T2 ?_ ?_) <;> intro hw_ ew_ nw_) | (exact hA (i + 1, acc) _ Wc ⟨hi, by simp only; omega, g3⟩ (by simp only; omega)) | rw [Ip] | rw [In] | rw [Fz] | rw [Gz] | fail) <;> first | simp [ew_, nw_, s_] | simp [s_] | skip)
    · rw [if_neg hs, ← List.append_assoc] at g3
      have k5 : (acc ++ [l[i]]).length = acc.length + 1 := by simp
      have s_ := And.intro @hi (And.intro @hwi (And.intro @hs (@EntryR.enc.eq_1)))
      try simp [s_]
      repeat' ((first | ((first | refine Tp ?_ | refine Tn ?_ | refine T2 ?_ ?_) <;> intro hw_ ew_ nw_) | (exact hA (i + 1, acc ++ [l[i]]) _ (Wk.cutAt _ rfl (by simp) (by simp [EntryR.enc]) (by simp) (by simp)) ⟨hi, by simp only [k5]; omega, g3⟩ (by simp only; omega)) | rw [Ip] | rw [In] | rw [Fz] | rw [Gz] | fail) <;> first | simp [ew_, nw_, s_] | simp [s_] | skip)
theorem names_refs (l : List EntryR) (i : Nat) : ∀ x ∈ List.take i (List.map (fun x => S x.name) l), refsLt 1 x = true := by
  intro x hx
  obtain ⟨y, _, rfl⟩ := List.mem_map.1 (List.mem_of_mem_take hx)
  simp
theorem rnames_ok (l : List EntryR) (hl : l.length ≤ 100000) : PCall Tryz.prog 95 [encL EntryR.enc l] (enc1 S (l.map (·.name))) := by
  refine Pm Tryz.func95 fun hfit => ?_
  simp [Tryz.f95]
  refine AW.loopG (lit := fun _ => false) (fun i : Nat => ⟨20, pat [(0, encL EntryR.enc l), (3, .own 0 i 0 i 1), (4, I i)], [.cells i ((l.take i).map fun x => S x.name)]⟩) (fun i => l.length - i) (fun i => i ≤ l.length) 0 ?_ ?_ ?_
  · exact Wk.trans (Wk.ownNil 3 1 (by simp)) Wa
  · simp
  rintro i g1 A hA
  have hli : (l.take i).length = i := by simp; omega
  by_cases hi : i < l.length
  case neg =>
    have e : l.take i = l := List.take_of_length_le (by omega)
    have e2 : i = l.length := by omega
    subst e2
    have s_ := And.intro @hi (And.intro @e (@enc1.eq_1))
    try simp [s_]
    repeat' ((first | ((first | refine Tp ?_ | refine Tn ?_ | refine T2 ?_ ?_) <;> intro hw_ ew_ nw_) | rw [Ip] | rw [In] | rw [Fz] | rw [Gz] | fail) <;> first | simp [ew_, nw_, s_] | simp [s_] | skip)
  have hwi := wrap_nat hi (by simp only [maxLen]; omega)
  have htk : l.take (i + 1) = l.take i ++ [l[i]] := by simp
  have hfm : (l.take (i + 1)).map (fun x => S x.name) = (l.take i).map (fun x => S x.name) ++ [S l[i].name] := by rw [htk, List.map_append]; simp
  have s_ := And.intro @hi (And.intro @hwi (And.intro @hli (@EntryR.enc.eq_1)))
  try simp [s_]
  repeat' ((first | ((first | refine Tp ?_ | refine Tn ?_ | refine T2 ?_ ?_) <;> intro hw_ ew_ nw_) | rw [Ip] | rw [In] | rw [Fz] | rw [Gz] | fail) <;> first | simp [ew_, nw_, s_] | simp [s_] | skip)
  exact hA (i + 1) _ (Wk.cutAt _ rfl (by simp [hli, hfm]) (by simp [hli, hfm]) (by simp; exact names_refs l (i + 1)) (by simp [hli, hfm])) hi (by omega)
end Go.Proofs.YtdnfnddlciafmaaGreat
