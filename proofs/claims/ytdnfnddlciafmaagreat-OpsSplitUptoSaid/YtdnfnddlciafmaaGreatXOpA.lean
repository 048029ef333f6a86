import Derived.Test.YtdnfnddlciafmaaGreatXTab
import Derived.Test.YtdnfnddlciafmaaGreatChecked
import Derived.Test.YtdnfnddlciafmaaGreatXShelf
import Derived.Test.YtdnfnddlciafmaaGreatXBe
import Derived.Test.YtdnfnddlciafmaaGreatXBq
import Derived.Test.YtdnfnddlciafmaaGreatXBf
set_option linter.unusedVariables false
set_option linter.unusedSimpArgs false
namespace Go.Proofs.YtdnfnddlciafmaaGreat
open Go.Cx Tab
set_option maxHeartbeats 400000
set_option maxRecDepth 40000
instance : Mix Tryz.prog := ⟨Tryz.checked.mixed⟩
theorem indexByte_ok (s : ByteArray) (c : Nat) (hc : c < 256) : PCall Tryz.prog 219 [S s, Y8 c] (I (Lib.indexByte s.data.toList (UInt8.ofNat c))) := by
  refine PCall.ofCalls (by simp) rfl (Ent.mk Tryz.func219 (by kernel_rfl) rfl) fun Z w cargs hz hr => ?_
  cases hr with
  | cons h1 h2 =>
    cases h2 with
    | cons h2 h3 =>
      cases h3
      have hs := concV_ok h1 rfl
      have hs2 := concV_ok h2 rfl
      subst hs hs2
      refine (Tryz.strings_IndexByte s c w).mono fun e w' ⟨he, hw⟩ => ⟨?_, by rw [hw]; exact .refl _ _⟩
      rw [he]
      have : ((c : Int).toNat.toUInt8) = UInt8.ofNat c := by simp
      rw [this]
theorem check_ok (s : ByteArray) : PCall Tryz.prog 187 [S s] (I (checkS s)) := by
  refine Pm Tryz.func187 fun hfit => ?_
  have e1 := indexByte_in s.data.toList 47
  have e2 := indexByte_in s.data.toList 0
  cases hn : nameOk s with
  | true =>
    obtain ⟨⟨h1, h2⟩, h3, h4, h5, h6, h7⟩ := name_yes hn
    have h2' := Nat.not_lt.2 h2
    have h5' : ¬ s = { data := #[] } := h5
    rw [h6] at e1
    rw [h7] at e2
    simp [Tryz.f187, checkS, hn, h3, h4, h5']
    have s_ := And.intro @e1 (And.intro @e2 (@h2'))
    try simp [s_]
    repeat' ((first | ((first | refine Tp ?_ | refine Tn ?_ | refine T2 ?_ ?_) <;> intro hw_ ew_ nw_) | refine Pg (indexByte_ok s 47 (by omega)) ?_ | refine Pg (indexByte_ok s 0 (by omega)) ?_ | rw [Ip] | rw [In] | rw [Fz] | rw [Gz] | fail) <;> first | simp [ew_, nw_, s_] | simp [s_] | skip)
  | false =>
    simp [Tryz.f187, checkS, hn]
    rcases name_no hn with h | h | h | h | h | h
    · have h : s = { data := #[] } := h
      have s_ := h
      try simp [s_]
      repeat' ((first | ((first | refine Tp ?_ | refine Tn ?_ | refine T2 ?_ ?_) <;> intro hw_ ew_ nw_) | rw [Ip] | rw [In] | rw [Fz] | rw [Gz] | fail) <;> first | simp [ew_, nw_, s_] | simp [s_] | skip)
    · have s_ := h
      try simp [s_]
      repeat' ((first | ((first | refine Tp ?_ | refine Tn ?_ | refine T2 ?_ ?_) <;> intro hw_ ew_ nw_) | refine Pg (indexByte_ok s 47 (by omega)) ?_ | refine Pg (indexByte_ok s 0 (by omega)) ?_ | rw [Ip] | rw [In] | rw [Fz] | rw [Gz] | fail) <;> first | simp [ew_, nw_, s_] | simp [s_] | skip)
    · have s_ := h
      try simp [s_]
      repeat' ((first | ((first | refine Tp ?_ | refine Tn ?_ | refine T2 ?_ ?_) <;> intro hw_ ew_ nw_) | refine Pg (indexByte_ok s 47 (by omega)) ?_ | refine Pg (indexByte_ok s 0 (by omega)) ?_ | rw [Ip] | rw [In] | rw [Fz] | rw [Gz] | fail) <;> first | simp [ew_, nw_, s_] | simp [s_] | skip)
    · have s_ := h
      try simp [s_]
      repeat' ((first | ((first | refine Tp ?_ | refine Tn ?_ | refine T2 ?_ ?_) <;> intro hw_ ew_ nw_) | refine Pg (indexByte_ok s 47 (by omega)) ?_ | refine Pg (indexByte_ok s 0 (by omega)) ?_ | rw [Ip] | rw [In] | rw [Fz] | rw [Gz] | fail) <;> first | simp [ew_, nw_, s_] | simp [s_] | skip)
    · rw [h] at e1
      have s_ := e1
      try simp [s_]
      repeat' ((first | ((first | refine Tp ?_ | refine Tn ?_ | refine T2 ?_ ?_) <;> intro hw_ ew_ nw_) | refine Pg (indexByte_ok s 47 (by omega)) ?_ | refine Pg (indexByte_ok s 0 (by omega)) ?_ | rw [Ip] | rw [In] | rw [Fz] | rw [Gz] | fail) <;> first | simp [ew_, nw_, s_] | simp [s_] | skip)
    · rw [h] at e2
      have s_ := e2
      try simp [s_]
      repeat' ((first | ((first | refine Tp ?_ | refine Tn ?_ | refine T2 ?_ ?_) <;> intro hw_ ew_ nw_) | refine Pg (indexByte_ok s 47 (by omega)) ?_ | refine Pg (indexByte_ok s 0 (by omega)) ?_ | rw [Ip] | rw [In] | rw [Fz] | rw [Gz] | fail) <;> first | simp [ew_, nw_, s_] | simp [s_] | skip)
theorem rcheck_ok (s : ByteArray) : PCall Tryz.prog 77 [S s] (I (checkS s)) := by
  refine Pm Tryz.func77 fun hfit => ?_
  simp at hfit
  simp [Tryz.f77, checkS]
  by_cases h1 : s = .empty
  · have hn : nameOk .empty = false := rfl
    subst h1
    have s_ := hn
    try simp [s_]
    repeat' ((first | ((first | refine Tp ?_ | refine Tn ?_ | refine T2 ?_ ?_) <;> intro hw_ ew_ nw_) | rw [Ip] | rw [In] | rw [Fz] | rw [Gz] | fail) <;> first | simp [ew_, nw_, s_] | simp [s_] | skip)
  by_cases h2 : 32 < s.size
  · have hn : nameOk s = false := by simp [nameOk, Nat.not_le.2 h2]
    have s_ := And.intro @h1 (And.intro @h2 (@hn))
    try simp [s_]
    repeat' ((first | ((first | refine Tp ?_ | refine Tn ?_ | refine T2 ?_ ?_) <;> intro hw_ ew_ nw_) | rw [Ip] | rw [In] | rw [Fz] | rw [Gz] | fail) <;> first | simp [ew_, nw_, s_] | simp [s_] | skip)
  by_cases h3 : s = { data := #[46] }
  · have hn : nameOk s = false := by rw [h3]; simp [nameOk]
    rw [hn]
    have s_ := And.intro @h1 (And.intro @h2 (@h3))
    try simp [s_]
    repeat' ((first | ((first | refine Tp ?_ | refine Tn ?_ | refine T2 ?_ ?_) <;> intro hw_ ew_ nw_) | rw [Ip] | rw [In] | rw [Fz] | rw [Gz] | fail) <;> first | simp [ew_, nw_, s_] | simp [s_] | skip)
  by_cases h4 : s = { data := #[46, 46] }
  · have hn : nameOk s = false := by rw [h4]; simp [nameOk]
    rw [hn]
    have s_ := And.intro @h1 (And.intro @h2 (And.intro @h3 (@h4)))
    try simp [s_]
    repeat' ((first | ((first | refine Tp ?_ | refine Tn ?_ | refine T2 ?_ ?_) <;> intro hw_ ew_ nw_) | rw [Ip] | rw [In] | rw [Fz] | rw [Gz] | fail) <;> first | simp [ew_, nw_, s_] | simp [s_] | skip)
  simp [h1, h2, h3, h4]
  refine AW.loopG (lit := fun _ => false) (fun i : Nat => ⟨36, pat [(0, S s), (3, I i)], []⟩) (fun i => s.size - i) (fun i => i ≤ s.size ∧ ∀ j, j < i → byteAt s j ≠ 47 ∧ byteAt s j ≠ 0) 0 ?_ ?_ ?_
  · exact Wk.at _ rfl rfl (by simp)
  · simp
  rintro i ⟨h5, h6⟩ A hA
  by_cases hi : i < s.size
  case neg =>
    have hn : nameOk s = true := by
      cases hx : nameOk s with
      | true => rfl
      | false =>
        rcases name_no hx with h | h | h | h | h | h
        · exact absurd h h1
        · exact absurd h h2
        · exact absurd h h3
        · exact absurd h h4
        · obtain ⟨j, hj, e⟩ := (contains_byte s 47).1 h
          exact absurd e (h6 j (by omega)).1
        · obtain ⟨j, hj, e⟩ := (contains_byte s 0).1 h
          exact absurd e (h6 j (by omega)).2
    have s_ := hn
    try simp [s_]
    repeat' ((first | ((first | refine Tp ?_ | refine Tn ?_ | refine T2 ?_ ?_) <;> intro hw_ ew_ nw_) | rw [Ip] | rw [In] | rw [Fz] | rw [Gz] | fail) <;> first | simp [ew_, nw_, s_] | simp [s_] | skip)
  have hw2 : IntKind.i64.wrap ((i : Int) + 1) = ((i + 1 : Nat) : Int) := by rw [wrap_id (by omega) (by omega)]; omega
  by_cases h7 : byteAt s i = 47
  · have hn : nameOk s = false := by
      cases hx : nameOk s with
      | false => rfl
      | true =>
        have := (contains_byte s 47).2 ⟨i, hi, h7⟩
        rw [(name_yes hx).2.2.2.2.1] at this; cases this
    have s_ := And.intro @hn (@h7)
    try simp [s_]
    repeat' ((first | ((first | refine Tp ?_ | refine Tn ?_ | refine T2 ?_ ?_) <;> intro hw_ ew_ nw_) | rw [Ip] | rw [In] | rw [Fz] | rw [Gz] | fail) <;> first | simp [ew_, nw_, s_] | simp [s_] | skip)
  by_cases h8 : byteAt s i = 0
  · have hn : nameOk s = false := by
      cases hx : nameOk s with
      | false => rfl
      | true =>
        have := (contains_byte s 0).2 ⟨i, hi, h8⟩
        rw [(name_yes hx).2.2.2.2.2] at this; cases this
    have s_ := And.intro @hn (And.intro @h7 (@h8))
    try simp [s_]
    repeat' ((first | ((first | refine Tp ?_ | refine Tn ?_ | refine T2 ?_ ?_) <;> intro hw_ ew_ nw_) | rw [Ip] | rw [In] | rw [Fz] | rw [Gz] | fail) <;> first | simp [ew_, nw_, s_] | simp [s_] | skip)
  have s_ := And.intro @h7 (And.intro @h8 (@hw2))
  try simp [s_]
  repeat' ((first | ((first | refine Tp ?_ | refine Tn ?_ | refine T2 ?_ ?_) <;> intro hw_ ew_ nw_) | (exact hA (i + 1) _ Wa ⟨by omega, lt_step h6 ⟨h7, h8⟩⟩ (by omega)) | rw [Ip] | rw [In] | rw [Fz] | rw [Gz] | fail) <;> first | simp [ew_, nw_, s_] | simp [s_] | skip)
theorem right_name_ok (l : List EntryR) : PCall Tryz.prog 240 [encL EntryR.enc l] (B (rowOk l)) := by
  refine Pm Tryz.func240 fun hfit => ?_
  simp at hfit
  simp [Tryz.f240, rowOk]
  refine AW.loopG (lit := fun _ => false) (fun i : Nat => ⟨40, pat [(0, encL EntryR.enc l), (5, encL EntryR.enc l), (6, I l.length), (7, I i)], []⟩) (fun i => l.length - i) (fun i => i ≤ l.length ∧ entsOk (prevAt l i) (l.drop i) = entsOk none l) 0 ?_ ?_ ?_
  · exact Wk.at _ rfl rfl (by simp)
  · simp [prevAt]
  rintro i ⟨h5, h6⟩ A hA
  by_cases hi : i < l.length
  case neg =>
    rw [entsOk_end l i (by omega)] at h6
    have s_ := Eq.symm (h6)
    try simp [s_]
    repeat' ((first | ((first | refine Tp ?_ | refine Tn ?_ | refine T2 ?_ ?_) <;> intro hw_ ew_ nw_) | refine Dg 4 24 [] [] ?_ | rw [Ip] | rw [In] | rw [Fz] | rw [Gz] | fail) <;> first | simp [ew_, nw_, s_] | simp [s_] | skip)
  rw [entsOk_at l i hi] at h6
  have hw2 := wrap_nat hi hfit.1
  cases i with
  | zero =>
    simp [prevAt] at h6
    have s_ := And.intro @hi (And.intro @EntryR.enc.eq_1 (And.intro @hw2 (Eq.symm (h6))))
    try simp [s_]
    repeat' ((first | ((first | refine Tp ?_ | refine Tn ?_ | refine T2 ?_ ?_) <;> intro hw_ ew_ nw_) | (exact hA 1 _ Wc ⟨by omega, by simp [prevAt, hi]; simp_all⟩ (by omega)) | refine Pg (check_ok (l[0]).name) ?_ | refine Dg 4 24 [] [] ?_ | rw [Ip] | rw [In] | rw [Fz] | rw [Gz] | fail) <;> first | simp [ew_, nw_, s_] | simp [s_] | skip)
  | succ i =>
    have hw3 : IntKind.i64.wrap ((i : Int) + 1 - 1) = (i : Int) := by rw [show (i : Int) + 1 - 1 = i by omega]; exact wrap_id (by omega) (by have := maxLen_lt hfit.1; omega)
    have hw4 : IntKind.i64.wrap (i : Int) = (i : Int) := wrap_id (by omega) (by have := maxLen_lt hfit.1; omega)
    have hw5 : IntKind.i64.wrap ((i : Int) + 1 + 1) = (i : Int) + 2 := by rw [wrap_id (by omega) (by have := maxLen_lt hfit.1; omega)]; omega
    have hi0 : i < l.length := by omega
    simp [prevAt, hi0] at h6
    have s_ := And.intro @hi (And.intro @EntryR.enc.eq_1 (And.intro @hw2 (And.intro @hw3 (And.intro @hw4 (And.intro @hw5 (And.intro @hi0 (Eq.symm (h6))))))))
    try simp [s_]
    repeat' ((first | ((first | refine Tp ?_ | refine Tn ?_ | refine T2 ?_ ?_) <;> intro hw_ ew_ nw_) | (exact hA (i + 2) _ Wc ⟨by omega, by simp [prevAt, hi]; simp_all⟩ (by omega)) | refine Pg (check_ok (l[i + 1]).name) ?_ | refine Dg 4 24 [] [] ?_ | rw [Ip] | rw [In] | rw [Fz] | rw [Gz] | fail) <;> first | simp [ew_, nw_, s_] | simp [s_] | skip)
theorem rsame06_ok (a b : List EntryR) : PCall Tryz.prog 150 [encL EntryR.enc a, encL EntryR.enc b] (B (decide (a = b))) := by
  refine Pm Tryz.func150 fun hfit => ?_
  simp at hfit
  simp [Tryz.f150]
  by_cases hl : a.length = b.length
  case neg =>
    have : ¬ a = b := fun e => hl (by rw [e])
    simp [hl, this]
  simp [hl]
  refine AW.loopG (lit := fun _ => false) (fun i : Nat => ⟨26, pat [(0, encL EntryR.enc a), (1, encL EntryR.enc b), (5, I i)], []⟩) (fun i => b.length - i) (fun i => i ≤ b.length ∧ a.take i = b.take i) 0 ?_ ?_ ?_
  · exact Wk.at _ rfl rfl (by simp [hl])
  · simp
  · rintro i ⟨hi, ht⟩ A hA
    by_cases h : i < b.length
    case neg =>
      have := take_done ht (by omega) (by omega)
      simp [h, hl, eq_true this]
    have ha : i < a.length := by omega
    simp [h, hl]
    refine Dg _ 9 [] [] ?_
    simp [h, ha]
    by_cases h2 : a[i] = b[i]
    · simp [entK, h2, wrap_nat ha hfit.1.1]
      exact hA (i + 1) _ Wa ⟨by omega, take_step ht ha h h2⟩ (by omega)
    · have : ¬ a = b := fun e => by subst e; exact h2 rfl
      simp [entK, h2, this]
theorem rright_name_ok (l : List EntryR) : PCall Tryz.prog 75 [encL EntryR.enc l] (B (rowOk l)) := by
  refine Pm Tryz.func75 fun hfit => ?_
  simp at hfit
  simp [Tryz.f75, rowOk]
  by_cases hl : l.length ≤ 256
  case neg =>
    have s_ := hl
    try simp [s_]
    repeat' ((first | ((first | refine Tp ?_ | refine Tn ?_ | refine T2 ?_ ?_) <;> intro hw_ ew_ nw_) | refine Dg 7 28 [] [] ?_ | rw [Ip] | rw [In] | rw [Fz] | rw [Gz] | fail) <;> first | simp [ew_, nw_, s_] | simp [s_] | skip)
  have hl' := Nat.not_lt.2 hl
  simp [hl']
  refine AW.loopG (lit := fun _ => false) (fun i : Nat => ⟨48, pat [(0, encL EntryR.enc l), (3, I i)], []⟩) (fun i => l.length - i) (fun i => i ≤ l.length ∧ entsOk (prevAt l i) (l.drop i) = entsOk none l) 0 ?_ ?_ ?_
  · exact Wk.at _ rfl rfl (by simp)
  · simp [prevAt]
  rintro i ⟨h5, h6⟩ A hA
  by_cases hi : i < l.length
  case neg =>
    rw [entsOk_end l i (by omega)] at h6
    have s_ := And.intro (Eq.symm (h6)) (@hl)
    try simp [s_]
    repeat' ((first | ((first | refine Tp ?_ | refine Tn ?_ | refine T2 ?_ ?_) <;> intro hw_ ew_ nw_) | refine Dg 7 28 [] [] ?_ | rw [Ip] | rw [In] | rw [Fz] | rw [Gz] | fail) <;> first | simp [ew_, nw_, s_] | simp [s_] | skip)
  rw [entsOk_at l i hi] at h6
  have hw2 := wrap_nat hi hfit.1
  cases i with
  | zero =>
    simp [prevAt] at h6
    have s_ := And.intro @hi (And.intro @EntryR.enc.eq_1 (And.intro @hw2 (And.intro (Eq.symm (h6)) (@hl))))
    try simp [s_]
    repeat' ((first | ((first | refine Tp ?_ | refine Tn ?_ | refine T2 ?_ ?_) <;> intro hw_ ew_ nw_) | (exact hA 1 _ Wa ⟨by omega, by simp [prevAt, hi]; simp_all⟩ (by omega)) | refine Pg (rcheck_ok (l[0]).name) ?_ | refine Dg 7 28 [] [] ?_ | rw [Ip] | rw [In] | rw [Fz] | rw [Gz] | fail) <;> first | simp [ew_, nw_, s_] | simp [s_] | skip)
  | succ i =>
    have hw3 : IntKind.i64.wrap ((i : Int) + 1 - 1) = (i : Int) := by rw [show (i : Int) + 1 - 1 = i by omega]; exact wrap_id (by omega) (by have := maxLen_lt hfit.1; omega)
    have hw4 : IntKind.i64.wrap (i : Int) = (i : Int) := wrap_id (by omega) (by have := maxLen_lt hfit.1; omega)
    have hw5 : IntKind.i64.wrap ((i : Int) + 1 + 1) = (i : Int) + 2 := by rw [wrap_id (by omega) (by have := maxLen_lt hfit.1; omega)]; omega
    have hi0 : i < l.length := by omega
    simp [prevAt, hi0] at h6
    have s_ := And.intro @hi (And.intro @EntryR.enc.eq_1 (And.intro @hw2 (And.intro @hw3 (And.intro @hw4 (And.intro @hw5 (And.intro @hi0 (And.intro (Eq.symm (h6)) (@hl))))))))
    try simp [s_]
    repeat' ((first | ((first | refine Tp ?_ | refine Tn ?_ | refine T2 ?_ ?_) <;> intro hw_ ew_ nw_) | (exact hA (i + 2) _ Wa ⟨by omega, by simp [prevAt, hi]; simp_all⟩ (by omega)) | refine Pg (rcheck_ok (l[i + 1]).name) ?_ | refine Dg 7 28 [] [] ?_ | rw [Ip] | rw [In] | rw [Fz] | rw [Gz] | fail) <;> first | simp [ew_, nw_, s_] | simp [s_] | skip)
theorem nright_ok (n : NodeR) : PCall Tryz.prog 217 [encN n] (B (nodeOk n)) := by
  refine Pm Tryz.func217 fun hfit => ?_
  simp [Tryz.f217, NodeR.enc, nodeOk]
  try simp
  repeat' ((first | ((first | refine Tp ?_ | refine Tn ?_ | refine T2 ?_ ?_) <;> intro hw_ ew_ nw_) | refine Pg (right_name_ok n.l) ?_ | rw [Ip] | rw [In] | rw [Fz] | rw [Gz] | fail) <;> first | simp [ew_, nw_] | simp | skip)
  intro h; rw [h]; rfl
theorem nsize_ok (n : NodeR) : PCall Tryz.prog 124 [encN n] (I (sizeS n)) := by
  refine Pm Tryz.func124 fun hfit => ?_
  simp [Tryz.f124, NodeR.enc, sizeS]
  try simp
  repeat' ((first | ((first | refine Tp ?_ | refine Tn ?_ | refine T2 ?_ ?_) <;> intro hw_ ew_ nw_) | rw [Ip] | rw [In] | rw [Fz] | rw [Gz] | fail) <;> first | simp [ew_, nw_] | simp | skip)
theorem rnright_ok (n : NodeR) : PCall Tryz.prog 26 [encN n] (B (nodeOk n)) := by
  refine Pm Tryz.func26 fun hfit => ?_
  simp [Tryz.f26, NodeR.enc, nodeOk]
  try simp
  repeat' ((first | ((first | refine Tp ?_ | refine Tn ?_ | refine T2 ?_ ?_) <;> intro hw_ ew_ nw_) | refine Pg (rright_name_ok n.l) ?_ | rw [Ip] | rw [In] | rw [Fz] | rw [Gz] | fail) <;> first | simp [ew_, nw_] | simp | skip)
theorem rnsame_ok (a b : NodeR) : PCall Tryz.prog 71 [encN a, encN b] (B (decide (a = b))) := by
  refine Pm Tryz.func71 fun hfit => ?_
  simp only [NodeR.eq_iff]
  simp [Tryz.f71, NodeR.enc]
  try simp
  repeat' ((first | ((first | refine Tp ?_ | refine Tn ?_ | refine T2 ?_ ?_) <;> intro hw_ ew_ nw_) | refine Pg (rsame06_ok a.l b.l) ?_ | rw [Ip] | rw [In] | rw [Fz] | rw [Gz] | fail) <;> first | simp [ew_, nw_] | simp | skip)
end Go.Proofs.YtdnfnddlciafmaaGreat
