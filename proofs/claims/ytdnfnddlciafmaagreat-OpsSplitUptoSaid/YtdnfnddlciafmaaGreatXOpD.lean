import Derived.Test.YtdnfnddlciafmaaGreatXOpC
import Derived.Test.YtdnfnddlciafmaaGreatXBk
import Derived.Test.YtdnfnddlciafmaaGreatXBj
import Derived.Test.YtdnfnddlciafmaaGreatXBj
set_option linter.unusedVariables false
set_option linter.unusedSimpArgs false
namespace Go.Proofs.YtdnfnddlciafmaaGreat
open Go.Cx Tab
set_option maxHeartbeats 400000
set_option maxRecDepth 40000
theorem bytesS (a b : ByteArray) : Lib.compareBytes a.data.toList b.data.toList = cmpS a b := by
  have key : ∀ x y : List UInt8, Lib.compareBytes x y = if x = y then 0 else if Op.bytesLess x y = true then -1 else 1 := by
    intro x
    induction x with
    | nil => intro y; cases y <;> simp [Lib.compareBytes, Op.bytesLess]
    | cons a x ih =>
      intro y
      cases y with
      | nil => simp [Lib.compareBytes, Op.bytesLess]
      | cons b y =>
        simp only [Lib.compareBytes, Op.bytesLess, ih]
        by_cases h1 : a < b
        · have : ¬ a = b := fun e => by subst e; exact absurd h1 (UInt8.lt_irrefl _)
          simp [h1, this]
        · by_cases h2 : b < a
          · have : ¬ a = b := fun e => by subst e; exact absurd h2 (UInt8.lt_irrefl _)
            simp [h1, h2, this]
          · have : a = b := by
              by_cases q : a = b
              · exact q
              · rcases UInt8.lt_or_lt_of_ne q with q | q
                · exact absurd q h1
                · exact absurd q h2
            subst this
            simp [h1]
  rw [key]
  unfold cmpS strLt
  rw [ByteArray.toList_eq, ByteArray.toList_eq]
  have : (a.data.toList = b.data.toList) = (a = b) := by
    apply propext
    constructor
    · intro h; cases a; cases b; congr 1; exact Array.ext' h
    · intro h; rw [h]
  simp only [this]
theorem strcmp_ok (a b : ByteArray) : PCall Tryz.prog 208 [S a, S b] (I (cmpS a b)) := by
  refine PCall.ofCalls (by simp) rfl (Ent.mk Tryz.func208 (by kernel_rfl) rfl) fun Z w cargs hz hr => ?_
  cases hr with
  | cons h1 h2 =>
    cases h2 with
    | cons h2 h3 =>
      cases h3
      have hs := concV_ok h1 rfl
      have hs2 := concV_ok h2 rfl
      subst hs hs2
      refine (Tryz.strings_Compare a b w).mono fun e w' ⟨he, hw⟩ => ⟨?_, by rw [hw]; exact .refl _ _⟩
      rw [he, bytesS]
theorem place1_ok (x : EntryR) (s : ByteArray) : PCall Tryz.prog 207 [.agg x.enc, S s] (I (cmpS x.name s)) := by
  refine Pm Tryz.func207 fun hfit => ?_
  simp [Tryz.f207, EntryR.enc]
  have s_ := @EntryR.enc.eq_1
  try simp [s_]
  repeat' ((first | ((first | refine Tp ?_ | refine Tn ?_ | refine T2 ?_ ?_) <;> intro hw_ ew_ nw_) | refine Pg (strcmp_ok x.name s) ?_ | rw [Ip] | rw [In] | rw [Fz] | rw [Gz] | fail) <;> first | simp [ew_, nw_, s_] | simp [s_] | skip)
theorem bsearchE_ok (l : List EntryR) (s : ByteArray) (hl : l.length ≤ 1000000) : PCall Tryz.prog 206 [encL EntryR.enc l, S s, .fn 207 []] (.tup [I (bsGo (atE l s) 0 0 l.length), B (decide (bsGo (atE l s) 0 0 l.length < l.length) && decide (atE l s (bsGo (atE l s) 0 0 l.length) = 0))]) := by
  refine Pm Tryz.func206 fun hfit => ?_
  simp at hfit
  simp [Tryz.f206]
  refine AW.loopG (lit := fun _ => false) (fun x : Nat × Nat => ⟨49, pat [(0, encL EntryR.enc l), (1, S s), (2, .fn 207 []), (8, I l.length), (9, I x.1), (10, I x.2)], []⟩) (fun x => x.2 - x.1) (fun x => x.1 ≤ x.2 ∧ x.2 ≤ l.length ∧ bsGo (atE l s) 0 x.1 x.2 = bsGo (atE l s) 0 0 l.length) (0, l.length) ?_ ?_ ?_
  · exact Wk.at _ rfl rfl (by simp)
  · simp
  rintro ⟨i, j⟩ ⟨h1, h2, h3⟩ A hA
  simp only at h1 h2 h3
  by_cases h : i < j
  case neg =>
    have hij : i = j := by omega
    subst hij
    rw [bsGo_ge h] at h3
    by_cases hi : i < l.length
    · have e1 := atE_get s hi
      have s_ := And.intro @h (And.intro @hi (And.intro (Eq.symm (h3)) (And.intro @EntryR.enc.eq_1 (@e1))))
      try simp [s_]
      repeat' ((first | ((first | refine Tp ?_ | refine Tn ?_ | refine T2 ?_ ?_) <;> intro hw_ ew_ nw_) | refine Pg (place1_ok l[i] s) ?_ | rw [Ip] | rw [In] | rw [Fz] | rw [Gz] | fail) <;> first | simp [ew_, nw_, s_] | simp [s_] | skip)
    · have s_ := And.intro @h (And.intro @hi (Eq.symm (h3)))
      try simp [s_]
      repeat' ((first | ((first | refine Tp ?_ | refine Tn ?_ | refine T2 ?_ ?_) <;> intro hw_ ew_ nw_) | rw [Ip] | rw [In] | rw [Fz] | rw [Gz] | fail) <;> first | simp [ew_, nw_, s_] | simp [s_] | skip)
  rw [bsGo_lt h] at h3
  have hm : (i + j) / 2 < l.length := by omega
  have e1 := atE_get s hm
  have w1 : IntKind.i64.wrap ((i : Int) + j) = (i : Int) + j := wrap_id (by omega) (by omega)
  have w2 : ((i : Int) + j) % 18446744073709551616 = (i : Int) + j := by omega
  have w3 : ((i : Int) + j).fdiv 2 = (((i + j) / 2 : Nat) : Int) := by rw [Int.fdiv_eq_ediv_of_nonneg _ (by omega)]; omega
  have w4 : IntKind.i64.wrap (((i + j) / 2 : Nat) : Int) = (((i + j) / 2 : Nat) : Int) := wrap_id (by omega) (by omega)
  generalize hmm : (i + j) / 2 = m at *
  have w5 : IntKind.i64.wrap ((m : Int) + 1) = ((m + 1 : Nat) : Int) := by rw [wrap_id (by omega) (by omega)]; omega
  have hk : atE l s m < 0 ∨ ¬ atE l s m < 0 := Classical.em _
  rcases hk with hk | hk
  · rw [if_pos hk] at h3
    rw [e1] at hk
    have s_ := And.intro @h (And.intro @w1 (And.intro @w2 (And.intro @w3 (And.intro @w4 (And.intro @w5 (And.intro @hm (And.intro @EntryR.enc.eq_1 (@hk))))))))
    try simp [s_]
    repeat' ((first | ((first | refine Tp ?_ | refine Tn ?_ | refine T2 ?_ ?_) <;> intro hw_ ew_ nw_) | (exact hA (m + 1, j) _ Wa ⟨by simp only; omega, h2, h3⟩ (by simp only; omega)) | refine Pg (place1_ok l[m] s) ?_ | rw [Ip] | rw [In] | rw [Fz] | rw [Gz] | fail) <;> first | simp [ew_, nw_, s_] | simp [s_] | skip)
  · rw [if_neg hk] at h3
    rw [e1] at hk
    have s_ := And.intro @h (And.intro @w1 (And.intro @w2 (And.intro @w3 (And.intro @w4 (And.intro @w5 (And.intro @hm (And.intro @EntryR.enc.eq_1 (@hk))))))))
    try simp [s_]
    repeat' ((first | ((first | refine Tp ?_ | refine Tn ?_ | refine T2 ?_ ?_) <;> intro hw_ ew_ nw_) | (exact hA (i, m) _ Wa ⟨by simp only; omega, by simp only; omega, h3⟩ (by simp only; omega)) | refine Pg (place1_ok l[m] s) ?_ | rw [Ip] | rw [In] | rw [Fz] | rw [Gz] | fail) <;> first | simp [ew_, nw_, s_] | simp [s_] | skip)
theorem place_ok (l : List EntryR) (s : ByteArray) (hr : risesE l = true) (hl : l.length ≤ 1000000) : PCall Tryz.prog 156 [encL EntryR.enc l, S s] (.tup [I (plE l s), B (findE l s).2]) := by
  have h1 := bsearchE_ok l s hl
  rw [bs_plE hr, (find_plE hr s).1] at h1
  refine Pm Tryz.func156 fun hfit => ?_
  simp [Tryz.f156]
  try simp
  repeat' ((first | ((first | refine Tp ?_ | refine Tn ?_ | refine T2 ?_ ?_) <;> intro hw_ ew_ nw_) | refine Pg h1 ?_ | rw [Ip] | rw [In] | rw [Fz] | rw [Gz] | fail) <;> first | simp [ew_, nw_] | simp | skip)
theorem nfind_ok (l : List EntryR) (s : ByteArray) (hr : risesE l = true) (hl : l.length ≤ 1000000) : PCall Tryz.prog 86 [encL EntryR.enc l, S s] (.tup [I (findE l s).1, B (findE l s).2]) := by
  have h1 := place_ok l s hr hl
  have h2 := (find_plE hr s).2
  rcases findE_cases l s with ⟨x, _, _, e⟩ | ⟨_, e⟩
  · rw [e] at h1 h2 ⊢
    obtain ⟨hp, e1, e2⟩ := h2 rfl
    simp only at h1 e2 ⊢
    generalize plE l s = q at *
    rw [e2]
    refine Pm Tryz.func86 fun hfit => ?_
    simp [Tryz.f86]
    have s_ := And.intro @hp (@EntryR.enc.eq_1)
    try simp [s_]
    repeat' ((first | ((first | refine Tp ?_ | refine Tn ?_ | refine T2 ?_ ?_) <;> intro hw_ ew_ nw_) | refine Pg h1 ?_ | rw [Ip] | rw [In] | rw [Fz] | rw [Gz] | fail) <;> first | simp [ew_, nw_, s_] | simp [s_] | skip)
  · rw [e] at h1 ⊢
    simp only at h1 ⊢
    refine Pm Tryz.func86 fun hfit => ?_
    simp [Tryz.f86]
    try simp
    repeat' ((first | ((first | refine Tp ?_ | refine Tn ?_ | refine T2 ?_ ?_) <;> intro hw_ ew_ nw_) | refine Pg h1 ?_ | rw [Ip] | rw [In] | rw [Fz] | rw [Gz] | fail) <;> first | simp [ew_, nw_] | simp | skip)
theorem insertE_ok (l : List EntryR) (i : Nat) (x : EntryR) (hi : i ≤ l.length) (hl : l.length ≤ 1000000) : XCall Tryz.prog 242 [.own 0 0 0 l.length 2, I i, .sl true 1 x.enc] [.cells 0 (l.flatMap EntryR.enc)] (.own 0 1 0 (l.length + 1) 2) [.cells 1 ((insL l i x).flatMap EntryR.enc)] := by
  by_cases hi2 : i = l.length
  case pos =>
    subst hi2
    refine XCall.mkG (fun s (_ : Unit) => s) (fun _ => false) Tryz.func242 rfl rfl rfl (Ent.mk Tryz.func242 (by kernel_rfl) rfl) (by simp) (by simp) (by simp) (by simp) (by simp) fun hfit => ?_
    refine ⟨WkE.one _ _, fun _ => ?_⟩
    simp [Tryz.f242]
    rw [if_pos (by simp only [maxLen]; omega)]
    simp
    exact ⟨_, Wk.refl _ _, by simp [insL_end]⟩
  have hi3 : i < l.length := by omega
  have hcp : ∀ cap, l.length ≤ cap → (l.length * 2 + (cap * 2 - l.length * 2)) / 2 = cap := fun cap h => by omega
  have hw1 : IntKind.i64.wrap ((l.length : Int) + 1) = ((l.length + 1 : Nat) : Int) := by rw [wrap_id (by omega) (by omega)]; omega
  have hw2 : IntKind.i64.wrap ((i : Int) + 1) = ((i + 1 : Nat) : Int) := by rw [wrap_id (by omega) (by omega)]; omega
  have hw3 : IntKind.i64.wrap ((l.length : Int) + 1 - i) = ((l.length + 1 - i : Nat) : Int) := by rw [wrap_id (by omega) (by omega)]; omega
  have hw4 : ((i : Int) + ((l.length + 1 - i : Nat) : Int)).toNat = l.length + 1 := by omega
  have hm1 : min 1 (l.length + 1 - i) = 1 := by omega
  have hm2 : ∀ cap, l.length ≤ cap → min (i * 2) (l.length * 2 + (cap * 2 - l.length * 2)) = i * 2 := fun cap h => by omega
  have hov : ∀ (lb : Nat) (h : AHeap) (y : ABlk) (Q : AV → AHeap → Prop), h[0]? = some y → (blkCells y).map (·.1) = some 0 → Q (B false) h → AInv Tryz.prog (.fn 252 []) [.sl true 1 x.enc, .own 0 0 (i + 1) lb 2] h Q := fun lb h y Q hy hv hq =>
    overlaps_ok Tryz.func252 (by kernel_rfl) rfl (by kernel_rfl) rfl rfl (by kernel_rfl) (k := 2) (by kernel_rfl) true 1 _ _ 0 0 (i + 1) lb hy hv (by omega) Q hq
  refine XCall.mkG (fun s (cap : { cap : Nat // l.length ≤ cap ∧ cap ≤ maxLen }) => roomS s 0 0 2 (l.flatMap EntryR.enc) cap.1) (fun _ => false) Tryz.func242 rfl rfl rfl (Ent.mk Tryz.func242 (by kernel_rfl) rfl) (by simp) (by simp) (by simp) (by simp) (by simp) fun hfit => ?_
  refine ⟨WkE.full (t := 0) (by simp) (by simp) (by omega) (by simp), ?_⟩
  rintro ⟨cap, hc1, hc2⟩
  have hcp1 := hcp cap hc1
  have hm3 := hm2 cap hc1
  have hi4 : ¬ i = l.length := by omega
  have hle : i ≤ l.length := by omega
  generalize hA : List.replicate (cap * 2 - l.length * 2) AV.any = A
  have hAl : A.length = cap * 2 - l.length * 2 := by rw [← hA]; simp
  have hLl : (l.flatMap EntryR.enc).length = l.length * 2 := len_EntryR l
  have hta : (l.flatMap EntryR.enc ++ A).take (i * 2) = (l.flatMap EntryR.enc).take (i * 2) := List.take_append_of_le_length (by rw [hLl]; omega)
  have hdr : (l.flatMap EntryR.enc).drop (i * 2) = (l.drop i).flatMap EntryR.enc := drops_EntryR l i
  have hq0 : (l.flatMap EntryR.enc ++ A).drop (i * 2) = (l.drop i).flatMap EntryR.enc ++ A := by rw [List.drop_append_of_le_length (by rw [hLl]; omega), hdr]
  have hdl : ((l.drop i).flatMap EntryR.enc).length = l.length * 2 - i * 2 := by rw [len_EntryR, List.length_drop]; omega
  by_cases hr : l.length + 1 ≤ cap
  · have hm4 : min (l.length + 1 - i) (l.length - i) = l.length - i := by omega
    have hm5 : min ((l.length + 1 - i) * 2) ((l.length - i) * 2 + (cap * 2 - l.length * 2)) = (l.length + 1 - i) * 2 := by omega
    have hm6 : min ((l.length + 1 - i) * 2) (l.length * 2 + (cap * 2 - l.length * 2) - i * 2) = (l.length + 1 - i) * 2 := by omega
    have hq1 : List.take ((l.length - i) * 2) (List.take ((l.length + 1 - i) * 2) ((l.drop i).flatMap EntryR.enc ++ A)) = (l.drop i).flatMap EntryR.enc := by
      rw [List.take_take, Nat.min_eq_left (by omega), List.take_left' (by rw [hdl]; omega)]
    have hq2 : (putAt (l.flatMap EntryR.enc ++ A) ((i + 1) * 2) ((l.drop i).flatMap EntryR.enc)).length = cap * 2 := by
      rw [putAt_length (by rw [List.length_append, hLl, hAl, hdl]; omega), List.length_append, hLl, hAl]; omega
    have hq3 : (putAt (putAt (l.flatMap EntryR.enc ++ A) ((i + 1) * 2) ((l.drop i).flatMap EntryR.enc)) (i * 2) x.enc).take ((l.length + 1) * 2) = (insL l i x).flatMap EntryR.enc := by
      have := ins_room (L := l.flatMap EntryR.enc) (A := A) (X := x.enc) (a := i * 2) (k := 2) hLl (by omega) rfl (by rw [hAl]; omega)
      rw [ins_EntryR, hq0, List.take_left' (by rw [hdl])] at this
      rw [show (i + 1) * 2 = i * 2 + 2 by omega, show (l.length + 1) * 2 = l.length * 2 + 2 by omega]
      exact this
    have hone : ∀ y ∈ (l.drop i).flatMap EntryR.enc, isOne y = true := List.all_eq_true.1 (one_EntryR _)
    simp [Tryz.f242, roomS, hA]
    have s_ := And.intro @hcp1 (And.intro @hw1 (And.intro @hw2 (And.intro @hw3 (And.intro @hw4 (And.intro @hm1 (And.intro @hm3 (And.intro @hm4 (And.intro @hq0 (And.intro @hq1 (And.intro @hq2 (And.intro @hi3 (And.intro @hi4 (And.intro @hle (@hr))))))))))))))
    try simp [s_]
    repeat' ((first | ((first | refine Tp ?_ | refine Tn ?_ | refine T2 ?_ ?_) <;> intro hw_ ew_ nw_) | (refine hov _ _ _ _ rfl rfl ?_; simp) | (refine optBif ⟨rfl, by rw [List.length_append, hLl, hAl]; omega, by rw [List.length_take, List.length_append, hdl, hAl]; omega, by rw [hm4, hq1]; exact hone⟩ ?_; simp) | refine Dg 11 9 [] [] ?_ | refine Dg 15 9 [] [] ?_ | rw [Ip] | rw [In] | rw [Fz] | rw [Gz] | fail) <;> first | simp [ew_, nw_, s_] | simp [s_] | skip)
    exact ⟨_, Wk.trans (Wk.prefix 0 0 ((l.length + 1) * 2) rfl rfl) (Wk.bump 6 0 0 0 (l.length + 1) 2 (by simp) rfl), by simp [hq3]⟩
  · have hm5 : min ((l.length - i) * 2) ((l.length - i) * 2 + (cap * 2 - l.length * 2)) = (l.length - i) * 2 := by omega
    have hq1 : List.take ((l.length - i) * 2) (List.take ((l.length - i) * 2) ((l.drop i).flatMap EntryR.enc ++ A)) = (l.drop i).flatMap EntryR.enc := by
      rw [List.take_take, Nat.min_self, List.take_left' (by rw [hdl]; omega)]
    have hq4 : List.take ((l.length - i) * 2) ((l.drop i).flatMap EntryR.enc) = (l.drop i).flatMap EntryR.enc := List.take_of_length_le (by rw [hdl]; omega)
    have hone : ∀ y ∈ (l.drop i).flatMap EntryR.enc, isOne y = true := List.all_eq_true.1 (one_EntryR _)
    simp [Tryz.f242, roomS, hA]
    generalize hZ : (List.replicate (l.length + 1 - i) [AV.val (Value.string ByteArray.empty), AV.val (Value.int IntKind.i64 0)]).flatten = Z
    have hZl : Z.length = (l.length + 1 - i) * 2 := by rw [← hZ]; simp
    have hta' : ((l.flatMap EntryR.enc).take (i * 2)).length = i * 2 := by rw [List.length_take, hLl]; omega
    have hq2 : (putAt ((l.flatMap EntryR.enc).take (i * 2) ++ Z) (i * 2) x.enc).length = (l.length + 1) * 2 := by
      rw [putAt_length (by rw [List.length_append, hta', hZl, lenc_EntryR]; omega), List.length_append, hta', hZl]; omega
    have hq3 : putAt (putAt ((l.flatMap EntryR.enc).take (i * 2) ++ Z) (i * 2) x.enc) ((i + 1) * 2) ((l.drop i).flatMap EntryR.enc) = (insL l i x).flatMap EntryR.enc := by
      have := ins_grow (L := l.flatMap EntryR.enc) (A := A) (X := x.enc) (Z := Z) (a := i * 2) (k := 2) hLl (by omega) rfl (by rw [hZl]; omega)
      rw [ins_EntryR, hta, hq0, List.take_left' (by rw [hdl])] at this
      rw [show (i + 1) * 2 = i * 2 + 2 by omega]
      exact this
    have s_ := And.intro @hcp1 (And.intro @hw1 (And.intro @hw2 (And.intro @hw3 (And.intro @hw4 (And.intro @hm1 (And.intro @hm3 (And.intro @hq0 (And.intro @hq1 (And.intro @hq4 (And.intro @hta (And.intro @hZ (And.intro @hi3 (And.intro @hi4 (And.intro @hle (@hr)))))))))))))))
    try simp [s_]
    repeat' ((first | ((first | refine Tp ?_ | refine Tn ?_ | refine T2 ?_ ?_) <;> intro hw_ ew_ nw_) | (refine optBif ⟨by rw [hq2]; omega, hone⟩ ?_; simp) | refine Dg 11 9 [] [] ?_ | refine Dg 15 9 [] [] ?_ | rw [Ip] | rw [In] | rw [Fz] | rw [Gz] | fail) <;> first | simp [ew_, nw_, s_] | simp [s_] | skip)
    exact ⟨_, Wk.move 6 0 1 0 0 (l.length + 1) 2 (by decide) (by simp; omega) rfl rfl rfl, by simp [hq3]⟩
theorem cutoneE_ok (l : List EntryR) (i : Nat) (hi : i < l.length) (hl : l.length ≤ 1000000) : XCall Tryz.prog 224 [.own 0 0 0 l.length 2, I i, I (i + 1 : Nat)] [.cells 0 (l.flatMap EntryR.enc)] (.own 0 0 0 (l.length - 1) 2) [.cells 0 ((l.eraseIdx i).flatMap EntryR.enc)] := by
  have hLl : (l.flatMap EntryR.enc).length = l.length * 2 := len_EntryR l
  have hdr : (l.flatMap EntryR.enc).drop ((i + 1) * 2) = (l.drop (i + 1)).flatMap EntryR.enc := drops_EntryR l (i + 1)
  have htk : (l.flatMap EntryR.enc).take (i * 2) = (l.take i).flatMap EntryR.enc := takes_EntryR l i
  have hdl : ((l.drop (i + 1)).flatMap EntryR.enc).length = (l.length - (i + 1)) * 2 := by rw [len_EntryR, List.length_drop]
  have hn1 : i + (l.length - (i + 1)) = l.length - 1 := by omega
  have hi1 : i + 1 ≤ l.length := hi
  have hne : ¬ (i : Int) = ((i + 1 : Nat) : Int) := by omega
  have hone : ∀ y ∈ (l.drop (i + 1)).flatMap EntryR.enc, isOne y = true := List.all_eq_true.1 (one_EntryR _)
  refine XCall.mkG (fun s (cap : { cap : Nat // l.length ≤ cap ∧ cap ≤ maxLen }) => roomS s 0 0 2 (l.flatMap EntryR.enc) cap.1) (fun _ => false) Tryz.func224 rfl rfl rfl (Ent.mk Tryz.func224 (by kernel_rfl) rfl) (by simp) (by simp) (by simp) (by simp) (by simp) fun hfit => ?_
  refine ⟨WkE.full (t := 0) (by simp) (by simp) (by omega) (by simp), ?_⟩
  rintro ⟨cap, hc1, hc2⟩
  generalize hA : List.replicate (cap * 2 - l.length * 2) AV.any = A
  have hAl : A.length = cap * 2 - l.length * 2 := by rw [← hA]; simp
  have hq0 : List.take ((l.length - (i + 1)) * 2) ((l.flatMap EntryR.enc ++ A).drop ((i + 1) * 2)) = (l.drop (i + 1)).flatMap EntryR.enc := by
    rw [List.drop_append_of_le_length (by rw [hLl]; omega), hdr, List.take_left' (by rw [hdl])]
  have hq3 : (putAt (putAt (l.flatMap EntryR.enc ++ A) (i * 2) ((l.drop (i + 1)).flatMap EntryR.enc)) ((l.length - 1) * 2) [AV.val (Value.string ByteArray.empty), AV.val (Value.int IntKind.i64 0)]).take ((l.length - 1) * 2) = (l.eraseIdx i).flatMap EntryR.enc := by
    rw [List.eraseIdx_eq_take_drop_succ, List.flatMap_append, ← htk]
    have e1 : (l.length - 1) * 2 = i * 2 + ((l.drop (i + 1)).flatMap EntryR.enc).length := by rw [hdl]; omega
    simp only [putAt]
    have e2 : ((l.flatMap EntryR.enc ++ A).take (i * 2)).length = i * 2 := by rw [List.length_take, List.length_append, hLl]; omega
    have e3 : (l.flatMap EntryR.enc ++ A).take (i * 2) = (l.flatMap EntryR.enc).take (i * 2) := List.take_append_of_le_length (by rw [hLl]; omega)
    have e4 : (((l.flatMap EntryR.enc).take (i * 2) ++ (l.drop (i + 1)).flatMap EntryR.enc)).length = (l.length - 1) * 2 := by rw [List.length_append, ← e3, e2]; omega
    rw [e3, List.append_assoc _ [AV.val (Value.string ByteArray.empty), AV.val (Value.int IntKind.i64 0)] _, List.take_left' (by rw [List.length_take, List.length_append, e4]; omega), List.take_append_of_le_length (by omega), List.take_of_length_le (by omega)]
  have hq2 : (putAt (l.flatMap EntryR.enc ++ A) (i * 2) ((l.drop (i + 1)).flatMap EntryR.enc)).length = cap * 2 := by
    rw [putAt_length (by rw [List.length_append, hLl, hAl, hdl]; omega), List.length_append, hLl, hAl]; omega
  have hq4 : l.length * 2 ≤ cap * 2 := by omega
  have hn2 : l.length - (l.length - 1) = 1 := by omega
  have hn3 : l.length - 1 + 1 = l.length := by omega
  have hn4 : l.length - 1 ≤ l.length := by omega
  simp [Tryz.f224, roomS, hA]
  have s_ := And.intro @hq0 (And.intro @hn1 (And.intro @hi1 (And.intro @hne (And.intro @hLl (And.intro @hAl (And.intro @hq2 (And.intro @hq4 (And.intro @hn2 (And.intro @hn3 (@hn4))))))))))
  try simp [s_]
  repeat' ((first | ((first | refine Tp ?_ | refine Tn ?_ | refine T2 ?_ ?_) <;> intro hw_ ew_ nw_) | refine Dg 5 7 [0] [] ?_ | rw [Ip] | rw [In] | rw [Fz] | rw [Gz] | fail) <;> first | simp [ew_, nw_, s_] | simp [s_] | skip)
  exact ⟨_, Wk.prefix 0 0 ((l.length - 1) * 2) rfl rfl, by simp [hq3]⟩
end Go.Proofs.YtdnfnddlciafmaaGreat
