/- What the functions of layer 6 that nodes need compute, and their reference's. -/
import Derived.Test.YtilmfmjcemfoeaaOctW
import Derived.Test.YtilmfmjcemfoeaaBf
set_option linter.unusedVariables false
set_option linter.unusedSimpArgs false
namespace Go.Proofs.Ytilmfmjcemfoeaa
open Go.Cx Tab
set_option maxHeartbeats 400000
set_option maxRecDepth 40000

theorem indexByte_ok (s : ByteArray) (c : Nat) (hc : c < 256) : PCall Try.prog 51 [S s, Y8 c] (I (Lib.indexByte s.data.toList (UInt8.ofNat c))) := by
  refine PCall.ofCalls (by simp) rfl (Ent.mk Try.func51 (by kernel_rfl) rfl) fun Z w cargs hz hr => ?_
  cases hr with
  | cons h1 h2 =>
    cases h2 with
    | cons h2 h3 =>
      cases h3
      have hs := concV_ok h1 rfl
      have hs2 := concV_ok h2 rfl
      subst hs hs2
      refine (Try.strings_IndexByte s c w).mono fun e w' ⟨he, hw⟩ => ⟨?_, by rw [hw]; exact .refl _ _⟩
      rw [he]
      have : ((c : Int).toNat.toUInt8) = UInt8.ofNat c := by simp
      rw [this]

theorem check_ok (s : ByteArray) : PCall Try.prog 48 [S s] (I (checkS s)) := by
  refine PCall.mk (fun _ => false) Try.func48 rfl rfl rfl (Ent.mk Try.func48 (by kernel_rfl) rfl) (by simp) (by simp) fun hfit => ?_
  have e1 := indexByte_in s.data.toList 47
  have e2 := indexByte_in s.data.toList 0
  cases hn : nameOk s with
  | true =>
    obtain ⟨⟨h1, h2⟩, h3, h4, h5, h6, h7⟩ := name_yes hn
    have h2' := Nat.not_lt.2 h2
    have h5' : ¬ s = { data := #[] } := h5
    rw [h6] at e1
    rw [h7] at e2
    simp [Try.f48, checkS, hn, h3, h4, h5']
    try simp [e1, e2, h2']
    repeat' (first
      | ((first | refine Tst.go (fun hw_ ew_ => ?_) (fun hw_ ew_ => ?_)) <;> first | (exfalso; first | omega | with_reducible exact hw_ (by assumption) | with_reducible exact absurd hw_ (by assumption)) | (have nw_ := Nw.nw hw_; simp [ew_, nw_, e1, e2, h2']) | simp [ew_, e1, e2, h2'])
      | ((first | (refine Pc.go (indexByte_ok s 47 (by omega)) ?_ ?_; focus (first | rfl | (simp [e1, e2, h2']; done))) | (refine Pc.go (indexByte_ok s 0 (by omega)) ?_ ?_; focus (first | rfl | (simp [e1, e2, h2']; done))) | rw [if_pos (by first | omega | (simp only [maxLen]; omega))] | rw [if_neg (by first | omega | (simp only [maxLen]; omega))] | rw [frzOwn_neat (by simp) (by simp <;> omega)] | rw [fzOwn_neat (by simp) (by simp <;> omega)]); try simp [e1, e2, h2'])
      | ((first | refine TstB.go (fun hw_ ew_ => ?_) (fun hw_ ew_ => ?_)) <;> first | (exfalso; first | omega | with_reducible exact hw_ (by assumption) | with_reducible exact absurd hw_ (by assumption)) | simp [ew_, e1, e2, h2'])
      | fail)
  | false =>
    simp [Try.f48, checkS, hn]
    rcases name_no hn with h | h | h | h | h | h
    · have h : s = { data := #[] } := h
      try simp [h]
      repeat' (first
        | ((first | refine Tst.go (fun hw_ ew_ => ?_) (fun hw_ ew_ => ?_)) <;> first | (exfalso; first | omega | with_reducible exact hw_ (by assumption) | with_reducible exact absurd hw_ (by assumption)) | (have nw_ := Nw.nw hw_; simp [ew_, nw_, h]) | simp [ew_, h])
        | ((first | rw [if_pos (by first | omega | (simp only [maxLen]; omega))] | rw [if_neg (by first | omega | (simp only [maxLen]; omega))] | rw [frzOwn_neat (by simp) (by simp <;> omega)] | rw [fzOwn_neat (by simp) (by simp <;> omega)]); try simp [h])
        | ((first | refine TstB.go (fun hw_ ew_ => ?_) (fun hw_ ew_ => ?_)) <;> first | (exfalso; first | omega | with_reducible exact hw_ (by assumption) | with_reducible exact absurd hw_ (by assumption)) | simp [ew_, h])
        | fail)
    · try simp [h]
      repeat' (first
        | ((first | refine Tst.go (fun hw_ ew_ => ?_) (fun hw_ ew_ => ?_)) <;> first | (exfalso; first | omega | with_reducible exact hw_ (by assumption) | with_reducible exact absurd hw_ (by assumption)) | (have nw_ := Nw.nw hw_; simp [ew_, nw_, h]) | simp [ew_, h])
        | ((first | (refine Pc.go (indexByte_ok s 47 (by omega)) ?_ ?_; focus (first | rfl | (simp [h]; done))) | (refine Pc.go (indexByte_ok s 0 (by omega)) ?_ ?_; focus (first | rfl | (simp [h]; done))) | rw [if_pos (by first | omega | (simp only [maxLen]; omega))] | rw [if_neg (by first | omega | (simp only [maxLen]; omega))] | rw [frzOwn_neat (by simp) (by simp <;> omega)] | rw [fzOwn_neat (by simp) (by simp <;> omega)]); try simp [h])
        | ((first | refine TstB.go (fun hw_ ew_ => ?_) (fun hw_ ew_ => ?_)) <;> first | (exfalso; first | omega | with_reducible exact hw_ (by assumption) | with_reducible exact absurd hw_ (by assumption)) | simp [ew_, h])
        | fail)
    · try simp [h]
      repeat' (first
        | ((first | refine Tst.go (fun hw_ ew_ => ?_) (fun hw_ ew_ => ?_)) <;> first | (exfalso; first | omega | with_reducible exact hw_ (by assumption) | with_reducible exact absurd hw_ (by assumption)) | (have nw_ := Nw.nw hw_; simp [ew_, nw_, h]) | simp [ew_, h])
        | ((first | (refine Pc.go (indexByte_ok s 47 (by omega)) ?_ ?_; focus (first | rfl | (simp [h]; done))) | (refine Pc.go (indexByte_ok s 0 (by omega)) ?_ ?_; focus (first | rfl | (simp [h]; done))) | rw [if_pos (by first | omega | (simp only [maxLen]; omega))] | rw [if_neg (by first | omega | (simp only [maxLen]; omega))] | rw [frzOwn_neat (by simp) (by simp <;> omega)] | rw [fzOwn_neat (by simp) (by simp <;> omega)]); try simp [h])
        | ((first | refine TstB.go (fun hw_ ew_ => ?_) (fun hw_ ew_ => ?_)) <;> first | (exfalso; first | omega | with_reducible exact hw_ (by assumption) | with_reducible exact absurd hw_ (by assumption)) | simp [ew_, h])
        | fail)
    · try simp [h]
      repeat' (first
        | ((first | refine Tst.go (fun hw_ ew_ => ?_) (fun hw_ ew_ => ?_)) <;> first | (exfalso; first | omega | with_reducible exact hw_ (by assumption) | with_reducible exact absurd hw_ (by assumption)) | (have nw_ := Nw.nw hw_; simp [ew_, nw_, h]) | simp [ew_, h])
        | ((first | (refine Pc.go (indexByte_ok s 47 (by omega)) ?_ ?_; focus (first | rfl | (simp [h]; done))) | (refine Pc.go (indexByte_ok s 0 (by omega)) ?_ ?_; focus (first | rfl | (simp [h]; done))) | rw [if_pos (by first | omega | (simp only [maxLen]; omega))] | rw [if_neg (by first | omega | (simp only [maxLen]; omega))] | rw [frzOwn_neat (by simp) (by simp <;> omega)] | rw [fzOwn_neat (by simp) (by simp <;> omega)]); try simp [h])
        | ((first | refine TstB.go (fun hw_ ew_ => ?_) (fun hw_ ew_ => ?_)) <;> first | (exfalso; first | omega | with_reducible exact hw_ (by assumption) | with_reducible exact absurd hw_ (by assumption)) | simp [ew_, h])
        | fail)
    · rw [h] at e1
      try simp [e1]
      repeat' (first
        | ((first | refine Tst.go (fun hw_ ew_ => ?_) (fun hw_ ew_ => ?_)) <;> first | (exfalso; first | omega | with_reducible exact hw_ (by assumption) | with_reducible exact absurd hw_ (by assumption)) | (have nw_ := Nw.nw hw_; simp [ew_, nw_, e1]) | simp [ew_, e1])
        | ((first | (refine Pc.go (indexByte_ok s 47 (by omega)) ?_ ?_; focus (first | rfl | (simp [e1]; done))) | (refine Pc.go (indexByte_ok s 0 (by omega)) ?_ ?_; focus (first | rfl | (simp [e1]; done))) | rw [if_pos (by first | omega | (simp only [maxLen]; omega))] | rw [if_neg (by first | omega | (simp only [maxLen]; omega))] | rw [frzOwn_neat (by simp) (by simp <;> omega)] | rw [fzOwn_neat (by simp) (by simp <;> omega)]); try simp [e1])
        | ((first | refine TstB.go (fun hw_ ew_ => ?_) (fun hw_ ew_ => ?_)) <;> first | (exfalso; first | omega | with_reducible exact hw_ (by assumption) | with_reducible exact absurd hw_ (by assumption)) | simp [ew_, e1])
        | fail)
    · rw [h] at e2
      try simp [e2]
      repeat' (first
        | ((first | refine Tst.go (fun hw_ ew_ => ?_) (fun hw_ ew_ => ?_)) <;> first | (exfalso; first | omega | with_reducible exact hw_ (by assumption) | with_reducible exact absurd hw_ (by assumption)) | (have nw_ := Nw.nw hw_; simp [ew_, nw_, e2]) | simp [ew_, e2])
        | ((first | (refine Pc.go (indexByte_ok s 47 (by omega)) ?_ ?_; focus (first | rfl | (simp [e2]; done))) | (refine Pc.go (indexByte_ok s 0 (by omega)) ?_ ?_; focus (first | rfl | (simp [e2]; done))) | rw [if_pos (by first | omega | (simp only [maxLen]; omega))] | rw [if_neg (by first | omega | (simp only [maxLen]; omega))] | rw [frzOwn_neat (by simp) (by simp <;> omega)] | rw [fzOwn_neat (by simp) (by simp <;> omega)]); try simp [e2])
        | ((first | refine TstB.go (fun hw_ ew_ => ?_) (fun hw_ ew_ => ?_)) <;> first | (exfalso; first | omega | with_reducible exact hw_ (by assumption) | with_reducible exact absurd hw_ (by assumption)) | simp [ew_, e2])
        | fail)

theorem rcheck_ok (s : ByteArray) : PCall Try.prog 42 [S s] (I (checkS s)) := by
  refine PCall.mk (fun _ => false) Try.func42 rfl rfl rfl (Ent.mk Try.func42 (by kernel_rfl) rfl) (by simp) (by simp) fun hfit => ?_
  simp at hfit
  simp [Try.f42, checkS]
  by_cases h1 : s = .empty
  · have hn : nameOk .empty = false := rfl
    subst h1
    try simp [hn]
    repeat' (first
      | ((first | refine Tst.go (fun hw_ ew_ => ?_) (fun hw_ ew_ => ?_)) <;> first | (exfalso; first | omega | with_reducible exact hw_ (by assumption) | with_reducible exact absurd hw_ (by assumption)) | (have nw_ := Nw.nw hw_; simp [ew_, nw_, hn]) | simp [ew_, hn])
      | ((first | rw [if_pos (by first | omega | (simp only [maxLen]; omega))] | rw [if_neg (by first | omega | (simp only [maxLen]; omega))] | rw [frzOwn_neat (by simp) (by simp <;> omega)] | rw [fzOwn_neat (by simp) (by simp <;> omega)]); try simp [hn])
      | ((first | refine TstB.go (fun hw_ ew_ => ?_) (fun hw_ ew_ => ?_)) <;> first | (exfalso; first | omega | with_reducible exact hw_ (by assumption) | with_reducible exact absurd hw_ (by assumption)) | simp [ew_, hn])
      | fail)
  by_cases h2 : 32 < s.size
  · have hn : nameOk s = false := by simp [nameOk, Nat.not_le.2 h2]
    try simp [h1, h2, hn]
    repeat' (first
      | ((first | refine Tst.go (fun hw_ ew_ => ?_) (fun hw_ ew_ => ?_)) <;> first | (exfalso; first | omega | with_reducible exact hw_ (by assumption) | with_reducible exact absurd hw_ (by assumption)) | (have nw_ := Nw.nw hw_; simp [ew_, nw_, h1, h2, hn]) | simp [ew_, h1, h2, hn])
      | ((first | rw [if_pos (by first | omega | (simp only [maxLen]; omega))] | rw [if_neg (by first | omega | (simp only [maxLen]; omega))] | rw [frzOwn_neat (by simp) (by simp <;> omega)] | rw [fzOwn_neat (by simp) (by simp <;> omega)]); try simp [h1, h2, hn])
      | ((first | refine TstB.go (fun hw_ ew_ => ?_) (fun hw_ ew_ => ?_)) <;> first | (exfalso; first | omega | with_reducible exact hw_ (by assumption) | with_reducible exact absurd hw_ (by assumption)) | simp [ew_, h1, h2, hn])
      | fail)
  by_cases h3 : s = { data := #[46] }
  · have hn : nameOk s = false := by rw [h3]; simp [nameOk]
    rw [hn]
    try simp [h1, h2, h3]
    repeat' (first
      | ((first | refine Tst.go (fun hw_ ew_ => ?_) (fun hw_ ew_ => ?_)) <;> first | (exfalso; first | omega | with_reducible exact hw_ (by assumption) | with_reducible exact absurd hw_ (by assumption)) | (have nw_ := Nw.nw hw_; simp [ew_, nw_, h1, h2, h3]) | simp [ew_, h1, h2, h3])
      | ((first | rw [if_pos (by first | omega | (simp only [maxLen]; omega))] | rw [if_neg (by first | omega | (simp only [maxLen]; omega))] | rw [frzOwn_neat (by simp) (by simp <;> omega)] | rw [fzOwn_neat (by simp) (by simp <;> omega)]); try simp [h1, h2, h3])
      | ((first | refine TstB.go (fun hw_ ew_ => ?_) (fun hw_ ew_ => ?_)) <;> first | (exfalso; first | omega | with_reducible exact hw_ (by assumption) | with_reducible exact absurd hw_ (by assumption)) | simp [ew_, h1, h2, h3])
      | fail)
  by_cases h4 : s = { data := #[46, 46] }
  · have hn : nameOk s = false := by rw [h4]; simp [nameOk]
    rw [hn]
    try simp [h1, h2, h3, h4]
    repeat' (first
      | ((first | refine Tst.go (fun hw_ ew_ => ?_) (fun hw_ ew_ => ?_)) <;> first | (exfalso; first | omega | with_reducible exact hw_ (by assumption) | with_reducible exact absurd hw_ (by assumption)) | (have nw_ := Nw.nw hw_; simp [ew_, nw_, h1, h2, h3, h4]) | simp [ew_, h1, h2, h3, h4])
      | ((first | rw [if_pos (by first | omega | (simp only [maxLen]; omega))] | rw [if_neg (by first | omega | (simp only [maxLen]; omega))] | rw [frzOwn_neat (by simp) (by simp <;> omega)] | rw [fzOwn_neat (by simp) (by simp <;> omega)]); try simp [h1, h2, h3, h4])
      | ((first | refine TstB.go (fun hw_ ew_ => ?_) (fun hw_ ew_ => ?_)) <;> first | (exfalso; first | omega | with_reducible exact hw_ (by assumption) | with_reducible exact absurd hw_ (by assumption)) | simp [ew_, h1, h2, h3, h4])
      | fail)
  simp [h1, h2, h3, h4]
  refine AW.loopG (lit := fun _ => false) (fun i : Nat => ⟨36, pat [(0, S s), (3, I i)], []⟩) (fun i => s.size - i) (fun i => i ≤ s.size ∧ ∀ j, j < i → byteAt s j ≠ 47 ∧ byteAt s j ≠ 0) 0 ?_ ?_ ?_
  · exact Wk.at _ rfl rfl (by simp)
  · simp
  rintro i ⟨h5, h6⟩ A hA
  by_cases hi : i < s.size
  case neg =>
    have hn : nameOk s = true := by
      cases hx : nameOk s with
      | true => rfl
      | false =>
        rcases name_no hx with h | h | h | h | h | h
        · exact absurd h h1
        · exact absurd h h2
        · exact absurd h h3
        · exact absurd h h4
        · obtain ⟨j, hj, e⟩ := (contains_byte s 47).1 h
          exact absurd e (h6 j (by omega)).1
        · obtain ⟨j, hj, e⟩ := (contains_byte s 0).1 h
          exact absurd e (h6 j (by omega)).2
    try simp [hn]
    repeat' (first
      | ((first | refine Tst.go (fun hw_ ew_ => ?_) (fun hw_ ew_ => ?_)) <;> first | (exfalso; first | omega | with_reducible exact hw_ (by assumption) | with_reducible exact absurd hw_ (by assumption)) | (have nw_ := Nw.nw hw_; simp [ew_, nw_, hn]) | simp [ew_, hn])
      | ((first | rw [if_pos (by first | omega | (simp only [maxLen]; omega))] | rw [if_neg (by first | omega | (simp only [maxLen]; omega))] | rw [frzOwn_neat (by simp) (by simp <;> omega)] | rw [fzOwn_neat (by simp) (by simp <;> omega)]); try simp [hn])
      | ((first | refine TstB.go (fun hw_ ew_ => ?_) (fun hw_ ew_ => ?_)) <;> first | (exfalso; first | omega | with_reducible exact hw_ (by assumption) | with_reducible exact absurd hw_ (by assumption)) | simp [ew_, hn])
      | fail)
  have hw2 : IntKind.i64.wrap ((i : Int) + 1) = ((i + 1 : Nat) : Int) := by rw [wrap_id (by omega) (by omega)]; omega
  by_cases h7 : byteAt s i = 47
  · have hn : nameOk s = false := by
      cases hx : nameOk s with
      | false => rfl
      | true =>
        have := (contains_byte s 47).2 ⟨i, hi, h7⟩
        rw [(name_yes hx).2.2.2.2.1] at this; cases this
    try simp [hn, h7]
    repeat' (first
      | ((first | refine Tst.go (fun hw_ ew_ => ?_) (fun hw_ ew_ => ?_)) <;> first | (exfalso; first | omega | with_reducible exact hw_ (by assumption) | with_reducible exact absurd hw_ (by assumption)) | (have nw_ := Nw.nw hw_; simp [ew_, nw_, hn, h7]) | simp [ew_, hn, h7])
      | ((first | rw [if_pos (by first | omega | (simp only [maxLen]; omega))] | rw [if_neg (by first | omega | (simp only [maxLen]; omega))] | rw [frzOwn_neat (by simp) (by simp <;> omega)] | rw [fzOwn_neat (by simp) (by simp <;> omega)]); try simp [hn, h7])
      | ((first | refine TstB.go (fun hw_ ew_ => ?_) (fun hw_ ew_ => ?_)) <;> first | (exfalso; first | omega | with_reducible exact hw_ (by assumption) | with_reducible exact absurd hw_ (by assumption)) | simp [ew_, hn, h7])
      | fail)
  by_cases h8 : byteAt s i = 0
  · have hn : nameOk s = false := by
      cases hx : nameOk s with
      | false => rfl
      | true =>
        have := (contains_byte s 0).2 ⟨i, hi, h8⟩
        rw [(name_yes hx).2.2.2.2.2] at this; cases this
    try simp [hn, h7, h8]
    repeat' (first
      | ((first | refine Tst.go (fun hw_ ew_ => ?_) (fun hw_ ew_ => ?_)) <;> first | (exfalso; first | omega | with_reducible exact hw_ (by assumption) | with_reducible exact absurd hw_ (by assumption)) | (have nw_ := Nw.nw hw_; simp [ew_, nw_, hn, h7, h8]) | simp [ew_, hn, h7, h8])
      | ((first | rw [if_pos (by first | omega | (simp only [maxLen]; omega))] | rw [if_neg (by first | omega | (simp only [maxLen]; omega))] | rw [frzOwn_neat (by simp) (by simp <;> omega)] | rw [fzOwn_neat (by simp) (by simp <;> omega)]); try simp [hn, h7, h8])
      | ((first | refine TstB.go (fun hw_ ew_ => ?_) (fun hw_ ew_ => ?_)) <;> first | (exfalso; first | omega | with_reducible exact hw_ (by assumption) | with_reducible exact absurd hw_ (by assumption)) | simp [ew_, hn, h7, h8])
      | fail)
  try simp [h7, h8, hw2]
  repeat' (first
    | ((first | refine Tst.go (fun hw_ ew_ => ?_) (fun hw_ ew_ => ?_)) <;> first | (exfalso; first | omega | with_reducible exact hw_ (by assumption) | with_reducible exact absurd hw_ (by assumption)) | (have nw_ := Nw.nw hw_; simp [ew_, nw_, h7, h8, hw2]) | simp [ew_, h7, h8, hw2])
    | (exact hA (i + 1) _ (Wk.at _ rfl (by simp) (by simp)) ⟨by omega, lt_step h6 ⟨h7, h8⟩⟩ (by omega))
    | ((first | rw [if_pos (by first | omega | (simp only [maxLen]; omega))] | rw [if_neg (by first | omega | (simp only [maxLen]; omega))] | rw [frzOwn_neat (by simp) (by simp <;> omega)] | rw [fzOwn_neat (by simp) (by simp <;> omega)]); try simp [h7, h8, hw2])
    | ((first | refine TstB.go (fun hw_ ew_ => ?_) (fun hw_ ew_ => ?_)) <;> first | (exfalso; first | omega | with_reducible exact hw_ (by assumption) | with_reducible exact absurd hw_ (by assumption)) | simp [ew_, h7, h8, hw2])
    | fail)

theorem right_name_ok (l : List EntryR) : PCall Try.prog 41 [encL EntryR.enc l] (B (rowOk l)) := by
  refine PCall.mk (fun _ => false) Try.func41 rfl rfl rfl (Ent.mk Try.func41 (by kernel_rfl) rfl) (by simp) (by simp) fun hfit => ?_
  simp at hfit
  simp [Try.f41, rowOk]
  refine AW.loopG (lit := fun _ => false) (fun i : Nat => ⟨40, pat [(0, encL EntryR.enc l), (5, encL EntryR.enc l), (6, I l.length), (7, I i)], []⟩) (fun i => l.length - i) (fun i => i ≤ l.length ∧ entsOk (prevAt l i) (l.drop i) = entsOk none l) 0 ?_ ?_ ?_
  · exact Wk.at _ rfl rfl (by simp)
  · simp [prevAt]
  rintro i ⟨h5, h6⟩ A hA
  by_cases hi : i < l.length
  case neg =>
    rw [entsOk_end l i (by omega)] at h6
    try simp [← h6]
    repeat' (first
      | ((first | refine Tst.go (fun hw_ ew_ => ?_) (fun hw_ ew_ => ?_)) <;> first | (exfalso; first | omega | with_reducible exact hw_ (by assumption) | with_reducible exact absurd hw_ (by assumption)) | (have nw_ := Nw.nw hw_; simp [ew_, nw_, ← h6]) | simp [ew_, ← h6])
      | ((first | refine AW.draw (id := 4) Try.checked.mixed (fun _ => false) [] [] 24 (by kernel_rfl) ?_ | rw [if_pos (by first | omega | (simp only [maxLen]; omega))] | rw [if_neg (by first | omega | (simp only [maxLen]; omega))] | rw [frzOwn_neat (by simp) (by simp <;> omega)] | rw [fzOwn_neat (by simp) (by simp <;> omega)]); try simp [← h6])
      | ((first | refine TstB.go (fun hw_ ew_ => ?_) (fun hw_ ew_ => ?_)) <;> first | (exfalso; first | omega | with_reducible exact hw_ (by assumption) | with_reducible exact absurd hw_ (by assumption)) | simp [ew_, ← h6])
      | fail)
  rw [entsOk_at l i hi] at h6
  have hw2 := wrap_nat hi hfit.1
  cases i with
  | zero =>
    simp [prevAt] at h6
    try simp [hi, EntryR.enc, hw2, ← h6]
    repeat' (first
      | ((first | refine Tst.go (fun hw_ ew_ => ?_) (fun hw_ ew_ => ?_)) <;> first | (exfalso; first | omega | with_reducible exact hw_ (by assumption) | with_reducible exact absurd hw_ (by assumption)) | (have nw_ := Nw.nw hw_; simp [ew_, nw_, hi, EntryR.enc, hw2, ← h6]) | simp [ew_, hi, EntryR.enc, hw2, ← h6])
      | (exact hA 1 _ (Wk.cutAt _ rfl (by simp) (by simp) (by simp) (by simp)) ⟨by omega, by simp [prevAt, hi]; simp_all⟩ (by omega))
      | ((first | (refine Pc.go (check_ok (l[0]).name) ?_ ?_; focus (first | rfl | (simp [hi, EntryR.enc, hw2, ← h6]; done))) | refine AW.draw (id := 4) Try.checked.mixed (fun _ => false) [] [] 24 (by kernel_rfl) ?_ | rw [if_pos (by first | omega | (simp only [maxLen]; omega))] | rw [if_neg (by first | omega | (simp only [maxLen]; omega))] | rw [frzOwn_neat (by simp) (by simp <;> omega)] | rw [fzOwn_neat (by simp) (by simp <;> omega)]); try simp [hi, EntryR.enc, hw2, ← h6])
      | ((first | refine TstB.go (fun hw_ ew_ => ?_) (fun hw_ ew_ => ?_)) <;> first | (exfalso; first | omega | with_reducible exact hw_ (by assumption) | with_reducible exact absurd hw_ (by assumption)) | simp [ew_, hi, EntryR.enc, hw2, ← h6])
      | fail)
  | succ i =>
    have hw3 : IntKind.i64.wrap ((i : Int) + 1 - 1) = (i : Int) := by rw [show (i : Int) + 1 - 1 = i by omega]; exact wrap_id (by omega) (by have := maxLen_lt hfit.1; omega)
    have hw4 : IntKind.i64.wrap (i : Int) = (i : Int) := wrap_id (by omega) (by have := maxLen_lt hfit.1; omega)
    have hw5 : IntKind.i64.wrap ((i : Int) + 1 + 1) = (i : Int) + 2 := by rw [wrap_id (by omega) (by have := maxLen_lt hfit.1; omega)]; omega
    have hi0 : i < l.length := by omega
    simp [prevAt, hi0] at h6
    try simp [hi, EntryR.enc, hw2, hw3, hw4, hw5, hi0, ← h6]
    repeat' (first
      | ((first | refine Tst.go (fun hw_ ew_ => ?_) (fun hw_ ew_ => ?_)) <;> first | (exfalso; first | omega | with_reducible exact hw_ (by assumption) | with_reducible exact absurd hw_ (by assumption)) | (have nw_ := Nw.nw hw_; simp [ew_, nw_, hi, EntryR.enc, hw2, hw3, hw4, hw5, hi0, ← h6]) | simp [ew_, hi, EntryR.enc, hw2, hw3, hw4, hw5, hi0, ← h6])
      | (exact hA (i + 2) _ (Wk.cutAt _ rfl (by simp) (by simp) (by simp) (by simp)) ⟨by omega, by simp [prevAt, hi]; simp_all⟩ (by omega))
      | ((first | (refine Pc.go (check_ok (l[i + 1]).name) ?_ ?_; focus (first | rfl | (simp [hi, EntryR.enc, hw2, hw3, hw4, hw5, hi0, ← h6]; done))) | refine AW.draw (id := 4) Try.checked.mixed (fun _ => false) [] [] 24 (by kernel_rfl) ?_ | rw [if_pos (by first | omega | (simp only [maxLen]; omega))] | rw [if_neg (by first | omega | (simp only [maxLen]; omega))] | rw [frzOwn_neat (by simp) (by simp <;> omega)] | rw [fzOwn_neat (by simp) (by simp <;> omega)]); try simp [hi, EntryR.enc, hw2, hw3, hw4, hw5, hi0, ← h6])
      | ((first | refine TstB.go (fun hw_ ew_ => ?_) (fun hw_ ew_ => ?_)) <;> first | (exfalso; first | omega | with_reducible exact hw_ (by assumption) | with_reducible exact absurd hw_ (by assumption)) | simp [ew_, hi, EntryR.enc, hw2, hw3, hw4, hw5, hi0, ← h6])
      | fail)
end Go.Proofs.Ytilmfmjcemfoeaa
