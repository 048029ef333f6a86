import Derived.Test.YtdnfnddlciafmaaGreatXLaw11d
import Derived.Test.YtdnfnddlciafmaaGreatXBp
set_option linter.unusedVariables false
set_option linter.unusedSimpArgs false
namespace Go.Proofs.YtdnfnddlciafmaaGreat
open Go.Cx Tab
set_option maxHeartbeats 400000
set_option maxRecDepth 40000
theorem law_touched (f : FSR) (c : CallR) (hwf : c.wf) : PCall Tryz.prog 8 [encF f, encC c] (B true) := by
  have h0 := shown11_ok
  have h1 := few11_ok f
  have h2 := small_ok [c]
  cases q1 : fewOk f with
  | false =>
    rw [q1] at h1
    refine Pm Tryz.func8 fun hfit => ?_
    simp [Tryz.f8]
    try simp
    repeat' ((first | ((first | refine Tp ?_ | refine Tn ?_ | refine T2 ?_ ?_) <;> intro hw_ ew_ nw_) | refine Pg h0 ?_ | refine Pg h1 ?_ | refine Dg 11 9 [] [] ?_ | refine Dg 15 13 [] [] ?_ | rw [Ip] | rw [In] | rw [Fz] | rw [Gz] | fail) <;> first | simp [ew_, nw_] | simp | skip)
  | true =>
  rw [q1] at h1
  cases q2 : smallS [c] with
  | false =>
    rw [q2] at h2
    refine Pm Tryz.func8 fun hfit => ?_
    simp [Tryz.f8]
    try simp
    repeat' ((first | ((first | refine Tp ?_ | refine Tn ?_ | refine T2 ?_ ?_) <;> intro hw_ ew_ nw_) | refine Pg h0 ?_ | refine Pg h1 ?_ | refine Lg h2 ?_ | refine Sg h2 ?_ | refine Dg 11 9 [] [] ?_ | refine Dg 15 13 [] [] ?_ | rw [Ip] | rw [In] | rw [Fz] | rw [Gz] | fail) <;> first | simp [ew_, nw_] | simp | skip)
  | true =>
  rw [q2] at h2
  obtain ⟨R, T, hnx, _⟩ := few_right q1
  have K := doS_kept R T c
  have d1 := do_ok f c R (by omega) hwf (calm_of R T c)
  obtain ⟨L, hL⟩ := doS_touch R T c
  obtain ⟨t1, t2⟩ := changes_touch R K.rows hL.no
  have hll := hL.len
  have hyes : ∀ x ∈ changesS f (doS f c).1, x.ino ∈ looksS f c ∨ f.next ≤ x.ino := fun x hx => hL.yes _ (t1 x hx)
  have h3 := changes_ok f (doS f c).1 (by have := R.len; omega) (by have := K.rows.len; omega)
  have h4 := looks_ok f c R
  have h5 := (looks_len f c)
  clear hL t1 K
  generalize doS f c = X at *
  obtain ⟨k, r⟩ := X
  simp only at *
  generalize changesS f k = l at *
  generalize looksS f c = looks at *
  have h6 : l.length ≤ 4 := by omega
  refine Pm Tryz.func8 fun hfit => ?_
  simp [Tryz.f8]
  try simp
  repeat' ((first | ((first | refine Tp ?_ | refine Tn ?_ | refine T2 ?_ ?_) <;> intro hw_ ew_ nw_) | refine Pg h0 ?_ | refine Pg h1 ?_ | refine Lg h2 ?_ | refine Sg h2 ?_ | refine Pg d1 ?_ | refine Pg h3 ?_ | refine Pg h4 ?_ | refine Dg 11 9 [] [] ?_ | refine Dg 15 13 [] [] ?_ | rw [Ip] | rw [In] | rw [Fz] | rw [Gz] | fail) <;> first | simp [ew_, nw_] | simp | skip)
  refine AW.loopG (lit := fun _ => false) (fun i : Nat => ⟨79, pat [(2, .ptr 0 0 0), (5, B true), (9, encL ChangeR.enc l), (10, enc1 I looks), (11, I i)], [.cells 0 f.enc]⟩) (fun i => l.length - i) (fun i => i ≤ l.length) 0 ?_ ?_ ?_
  · exact Wc
  · simp
  rintro i g1 A hA
  by_cases hi : i < l.length
  case neg =>
    have s_ := And.intro @hi (@h6)
    try simp [s_]
    repeat' ((first | ((first | refine Tp ?_ | refine Tn ?_ | refine T2 ?_ ?_) <;> intro hw_ ew_ nw_) | refine Dg 11 9 [] [] ?_ | refine Dg 15 13 [] [] ?_ | rw [Ip] | rw [In] | rw [Fz] | rw [Gz] | fail) <;> first | simp [ew_, nw_, s_] | simp [s_] | skip)
  have hwi := wrap_nat hi (by simp only [maxLen]; omega)
  have hy := hyes l[i] (List.getElem_mem hi)
  obtain ⟨b0, hb0⟩ : ∃ b, decide (f.next ≤ l[i].ino) = b := ⟨_, rfl⟩
  have hst : b0 = true ∨ l[i].ino ∈ looks := by
    rcases hy with hy | hy
    · exact .inr hy
    · exact .inl (by rw [← hb0]; exact decide_eq_true hy)
  have s_ := And.intro @hi (And.intro @hb0 (@FSR.enc.eq_1))
  try simp [s_]
  repeat' ((first | ((first | refine Tp ?_ | refine Tn ?_ | refine T2 ?_ ?_) <;> intro hw_ ew_ nw_) | refine Dg 11 9 [] [] ?_ | refine Dg 15 13 [] [] ?_ | rw [Ip] | rw [In] | rw [Fz] | rw [Gz] | fail) <;> first | simp [ew_, nw_, s_] | simp [s_] | skip)
  refine AW.loopG (lit := fun _ => false) (fun x : Nat × Bool => ⟨79, pat [(2, .ptr 0 0 0), (5, B true), (9, encL ChangeR.enc l), (10, enc1 I looks), (11, I i), (12, B x.2), (13, I x.1)], [.cells 0 f.enc]⟩) (fun x => looks.length - x.1) (fun x => x.1 ≤ looks.length ∧ (x.2 = true ∨ l[i].ino ∈ looks.drop x.1)) (0, b0) ?_ ?_ ?_
  · exact Wk.cutAt _ rfl (by simp) (by simp [FSR.enc]) (by simp) (by simp)
  · exact ⟨by simp, by simpa using hst⟩
  rintro ⟨j, b⟩ ⟨k1, k2⟩ C hC
  simp only at k1 k2 hC
  by_cases hj : j < looks.length
  case neg =>
    rw [List.drop_eq_nil_of_le (by omega)] at k2
    have k2 : b = true := k2.resolve_right (by simp)
    subst k2
    have s_ := And.intro @hj (@hwi)
    try simp [s_]
    repeat' ((first | ((first | refine Tp ?_ | refine Tn ?_ | refine T2 ?_ ?_) <;> intro hw_ ew_ nw_) | (exact hA (i + 1) _ (Wk.cutAt _ rfl (by simp) (by simp [FSR.enc]) (by simp) (by simp)) hi (by omega)) | refine Dg 11 9 [] [] ?_ | refine Dg 15 13 [] [] ?_ | rw [Ip] | rw [In] | rw [Fz] | rw [Gz] | fail) <;> first | simp [ew_, nw_, s_] | simp [s_] | skip)
  have hwj := wrap_nat hj (by simp only [maxLen]; omega)
  cases b with
  | true =>
    have s_ := And.intro @hi (And.intro @hj (@hwj))
    try simp [s_]
    repeat' ((first | ((first | refine Tp ?_ | refine Tn ?_ | refine T2 ?_ ?_) <;> intro hw_ ew_ nw_) | (exact hC (j + 1, true) _ Wc ⟨hj, .inl rfl⟩ (by simp only; omega)) | refine Dg 11 9 [] [] ?_ | refine Dg 15 13 [] [] ?_ | rw [Ip] | rw [In] | rw [Fz] | rw [Gz] | fail) <;> first | simp [ew_, nw_, s_] | simp [s_] | skip)
  | false =>
    by_cases q : looks[j] = l[i].ino
    · have s_ := And.intro @hi (And.intro @hj (And.intro @hwj (@q)))
      try simp [s_]
      repeat' ((first | ((first | refine Tp ?_ | refine Tn ?_ | refine T2 ?_ ?_) <;> intro hw_ ew_ nw_) | (exact hC (j + 1, true) _ Wc ⟨hj, .inl rfl⟩ (by simp only; omega)) | refine Dg 11 9 [] [] ?_ | refine Dg 15 13 [] [] ?_ | rw [Ip] | rw [In] | rw [Fz] | rw [Gz] | fail) <;> first | simp [ew_, nw_, s_] | simp [s_] | skip)
    · have k3 : l[i].ino ∈ looks.drop (j + 1) := by
        have := k2.resolve_left (by simp)
        rw [List.drop_eq_getElem_cons hj] at this
        exact (List.mem_cons.1 this).resolve_left (fun e => q e.symm)
      have s_ := And.intro @hi (And.intro @hj (And.intro @hwj (@q)))
      try simp [s_]
      repeat' ((first | ((first | refine Tp ?_ | refine Tn ?_ | refine T2 ?_ ?_) <;> intro hw_ ew_ nw_) | (exact hC (j + 1, false) _ Wc ⟨hj, .inr k3⟩ (by simp only; omega)) | refine Dg 11 9 [] [] ?_ | refine Dg 15 13 [] [] ?_ | rw [Ip] | rw [In] | rw [Fz] | rw [Gz] | fail) <;> first | simp [ew_, nw_, s_] | simp [s_] | skip)
end Go.Proofs.YtdnfnddlciafmaaGreat
