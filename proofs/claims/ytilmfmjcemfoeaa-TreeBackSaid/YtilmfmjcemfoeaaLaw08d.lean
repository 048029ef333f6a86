/- The statements of layer 8 hold, part four: TreeBack. -/
import Derived.Test.YtilmfmjcemfoeaaLaw08
import Derived.Test.YtilmfmjcemfoeaaTreL
set_option linter.unusedVariables false
set_option linter.unusedSimpArgs false
namespace Go.Proofs.Ytilmfmjcemfoeaa
open Go.Cx Tab
set_option maxHeartbeats 400000
set_option maxRecDepth 40000

theorem takeNs_wf : ∀ (m : Nat) (s : List UInt8), ∀ x ∈ (takeNs m s).1, x.wf
  | 0, s, x, hx => by simp [takeNs] at hx
  | m + 1, s, x, hx => by
    rw [takeNs] at hx
    split at hx
    · simp at hx
    · split at hx
      · simp at hx
      · simp only [List.mem_cons] at hx
        rcases hx with rfl | hx
        · exact takeN_wf s
        · exact takeNs_wf m _ x hx
theorem takeF_wf {s : List UInt8} {a : FSR} (h : takeF s = (a, 0)) : a.wf := by
  unfold takeF at h
  split at h
  · rename_i h1; rw [← (Prod.mk.inj h).2] at h1; simp at h1
  split at h
  · rename_i h2; rw [← (Prod.mk.inj h).2] at h2; simp at h2
  split at h
  · simp at h
  split at h
  · rename_i h4; rw [← (Prod.mk.inj h).2] at h4; simp at h4
  split at h
  · simp only [Prod.mk.injEq, and_true] at h
    subst h
    exact ⟨takeNs_wf _ _, unfoldS_in (takeS_lt s)⟩
  · simp at h
theorem nodes_len : ∀ l : List NodeR, (∀ x ∈ l, x.wf ∧ nodeOk x = true) → (l.flatMap nodeL).length ≤ 20000 * l.length
  | [], _ => by simp
  | x :: l, h => by
    have ih := nodes_len l fun y hy => h y (by simp [hy])
    have hx := nodeL_small (h x (by simp)).1 (h x (by simp)).2
    rw [List.flatMap_cons, List.length_append, List.length_cons]
    omega
theorem treeL_len {f : FSR} (hw : f.wf) (h : rowsOk f = true) : (treeL f).length ≤ 6000000 := by
  obtain ⟨h1, _, h3⟩ := rowsOk_le h
  have := nodes_len f.l fun x hx => ⟨hw.1 x hx, h3 x hx⟩
  have b1 := numL_10 (foldS_lt hw.2)
  have b2 := numL_10 (n := f.l.length) (by omega)
  unfold treeL whl
  simp only [List.length_append]
  omega
theorem law_back (f : FSR) (hf : f.wf) (s : ByteArray) : PCall Try.prog 3 [encF f, S s] (B true) := by
  have h0 := shown08_ok
  have h1 := few_ok f
  by_cases hs : 5000 < s.size
  · refine PCall.mk (fun _ => false) Try.func3 rfl rfl rfl (Ent.mk Try.func3 (by kernel_rfl) rfl) (by simp) (by simp) fun hfit => ?_
    simp [Try.f3]
    try simp [hs]
    repeat' (first
      | ((first | refine Tst.go (fun hw_ ew_ => ?_) (fun hw_ ew_ => ?_)) <;> first | (exfalso; first | omega | with_reducible exact hw_ (by assumption) | with_reducible exact absurd hw_ (by assumption)) | (have nw_ := Nw.nw hw_; simp [ew_, nw_, hs]) | simp [ew_, hs])
      | ((first | (refine Pc.go (h0) ?_ ?_; focus (first | rfl | (simp [hs]; done))) | (refine Pc.go (h1) ?_ ?_; focus (first | rfl | (simp [hs]; done))) | rw [if_pos (by first | omega | (simp only [maxLen]; omega))] | rw [if_neg (by first | omega | (simp only [maxLen]; omega))] | rw [frzOwn_neat (by simp) (by simp <;> omega)] | rw [fzOwn_neat (by simp) (by simp <;> omega)]); try simp [hs])
      | ((first | refine TstB.go (fun hw_ ew_ => ?_) (fun hw_ ew_ => ?_)) <;> first | (exfalso; first | omega | with_reducible exact hw_ (by assumption) | with_reducible exact absurd hw_ (by assumption)) | simp [ew_, hs])
      | fail)
  have t1 := ttake_ok (bs s) (by simp; omega)
  rw [T_bs] at t1
  have h2 := rrows_ok f
  rcases hr : takeF (bs s) with ⟨a, e⟩
  rw [hr] at t1
  simp only at t1
  have g : e = 0 → PCall Try.prog 7 [encF a] (B true) ∧ PCall Try.prog 8 [encF a] (S s) := by
    rintro rfl
    obtain ⟨r1, r2⟩ := takeF_ok hr
    have r3 := rrows_ok a
    rw [r1] at r3
    have r4 := ttext_ok a (takeF_wf hr) (by rw [← r2]; simp; omega) (by have := (rowsOk_le r1).1; omega)
    rw [← r2, T_bs] at r4
    exact ⟨r3, r4⟩
  by_cases hrf : rowsOk f = true
  case neg =>
    rw [Bool.not_eq_true] at hrf
    rw [hrf] at h2
    by_cases he : e = 0
    · obtain ⟨g1, g2⟩ := g he
      subst he
      refine PCall.mk (fun _ => false) Try.func3 rfl rfl rfl (Ent.mk Try.func3 (by kernel_rfl) rfl) (by simp) (by simp) fun hfit => ?_
      simp [Try.f3]
      try simp [hs]
      repeat' (first
        | ((first | refine Tst.go (fun hw_ ew_ => ?_) (fun hw_ ew_ => ?_)) <;> first | (exfalso; first | omega | with_reducible exact hw_ (by assumption) | with_reducible exact absurd hw_ (by assumption)) | (have nw_ := Nw.nw hw_; simp [ew_, nw_, hs]) | simp [ew_, hs])
        | ((first | (refine Pc.go (h0) ?_ ?_; focus (first | rfl | (simp [hs]; done))) | (refine Pc.go (h1) ?_ ?_; focus (first | rfl | (simp [hs]; done))) | (refine Pc.go (t1) ?_ ?_; focus (first | rfl | (simp [hs]; done))) | (refine Pc.go (h2) ?_ ?_; focus (first | rfl | (simp [hs]; done))) | (refine Pc.go (g1) ?_ ?_; focus (first | rfl | (simp [hs]; done))) | (refine Pc.go (g2) ?_ ?_; focus (first | rfl | (simp [hs]; done))) | rw [if_pos (by first | omega | (simp only [maxLen]; omega))] | rw [if_neg (by first | omega | (simp only [maxLen]; omega))] | rw [frzOwn_neat (by simp) (by simp <;> omega)] | rw [fzOwn_neat (by simp) (by simp <;> omega)]); try simp [hs])
        | ((first | refine TstB.go (fun hw_ ew_ => ?_) (fun hw_ ew_ => ?_)) <;> first | (exfalso; first | omega | with_reducible exact hw_ (by assumption) | with_reducible exact absurd hw_ (by assumption)) | simp [ew_, hs])
        | fail)
    · refine PCall.mk (fun _ => false) Try.func3 rfl rfl rfl (Ent.mk Try.func3 (by kernel_rfl) rfl) (by simp) (by simp) fun hfit => ?_
      simp [Try.f3]
      try simp [hs, he]
      repeat' (first
        | ((first | refine Tst.go (fun hw_ ew_ => ?_) (fun hw_ ew_ => ?_)) <;> first | (exfalso; first | omega | with_reducible exact hw_ (by assumption) | with_reducible exact absurd hw_ (by assumption)) | (have nw_ := Nw.nw hw_; simp [ew_, nw_, hs, he]) | simp [ew_, hs, he])
        | ((first | (refine Pc.go (h0) ?_ ?_; focus (first | rfl | (simp [hs, he]; done))) | (refine Pc.go (h1) ?_ ?_; focus (first | rfl | (simp [hs, he]; done))) | (refine Pc.go (t1) ?_ ?_; focus (first | rfl | (simp [hs, he]; done))) | (refine Pc.go (h2) ?_ ?_; focus (first | rfl | (simp [hs, he]; done))) | rw [if_pos (by first | omega | (simp only [maxLen]; omega))] | rw [if_neg (by first | omega | (simp only [maxLen]; omega))] | rw [frzOwn_neat (by simp) (by simp <;> omega)] | rw [fzOwn_neat (by simp) (by simp <;> omega)]); try simp [hs, he])
        | ((first | refine TstB.go (fun hw_ ew_ => ?_) (fun hw_ ew_ => ?_)) <;> first | (exfalso; first | omega | with_reducible exact hw_ (by assumption) | with_reducible exact absurd hw_ (by assumption)) | simp [ew_, hs, he])
        | fail)
  rw [hrf] at h2
  have hlen := treeL_len hf hrf
  have t2 := ttext_ok f hf (by omega) (by have := (rowsOk_le hrf).1; omega)
  have t3 := ttake_ok (treeL f) (by omega)
  rw [takeF_tree hrf hf] at t3
  have t4 := rsame08_ok f f
  simp only [decide_true] at t4
  by_cases he : e = 0
  · obtain ⟨g1, g2⟩ := g he
    subst he
    refine PCall.mk (fun _ => false) Try.func3 rfl rfl rfl (Ent.mk Try.func3 (by kernel_rfl) rfl) (by simp) (by simp) fun hfit => ?_
    simp [Try.f3]
    try simp [hs]
    repeat' (first
      | ((first | refine Tst.go (fun hw_ ew_ => ?_) (fun hw_ ew_ => ?_)) <;> first | (exfalso; first | omega | with_reducible exact hw_ (by assumption) | with_reducible exact absurd hw_ (by assumption)) | (have nw_ := Nw.nw hw_; simp [ew_, nw_, hs]) | simp [ew_, hs])
      | ((first | (refine Pc.go (h0) ?_ ?_; focus (first | rfl | (simp [hs]; done))) | (refine Pc.go (h1) ?_ ?_; focus (first | rfl | (simp [hs]; done))) | (refine Pc.go (t1) ?_ ?_; focus (first | rfl | (simp [hs]; done))) | (refine Pc.go (h2) ?_ ?_; focus (first | rfl | (simp [hs]; done))) | (refine Pc.go (g1) ?_ ?_; focus (first | rfl | (simp [hs]; done))) | (refine Pc.go (g2) ?_ ?_; focus (first | rfl | (simp [hs]; done))) | (refine Pc.go (t2) ?_ ?_; focus (first | rfl | (simp [hs]; done))) | (refine Pc.go (t3) ?_ ?_; focus (first | rfl | (simp [hs]; done))) | (refine Pc.go (t4) ?_ ?_; focus (first | rfl | (simp [hs]; done))) | rw [if_pos (by first | omega | (simp only [maxLen]; omega))] | rw [if_neg (by first | omega | (simp only [maxLen]; omega))] | rw [frzOwn_neat (by simp) (by simp <;> omega)] | rw [fzOwn_neat (by simp) (by simp <;> omega)]); try simp [hs])
      | ((first | refine TstB.go (fun hw_ ew_ => ?_) (fun hw_ ew_ => ?_)) <;> first | (exfalso; first | omega | with_reducible exact hw_ (by assumption) | with_reducible exact absurd hw_ (by assumption)) | simp [ew_, hs])
      | fail)
  · refine PCall.mk (fun _ => false) Try.func3 rfl rfl rfl (Ent.mk Try.func3 (by kernel_rfl) rfl) (by simp) (by simp) fun hfit => ?_
    simp [Try.f3]
    try simp [hs, he]
    repeat' (first
      | ((first | refine Tst.go (fun hw_ ew_ => ?_) (fun hw_ ew_ => ?_)) <;> first | (exfalso; first | omega | with_reducible exact hw_ (by assumption) | with_reducible exact absurd hw_ (by assumption)) | (have nw_ := Nw.nw hw_; simp [ew_, nw_, hs, he]) | simp [ew_, hs, he])
      | ((first | (refine Pc.go (h0) ?_ ?_; focus (first | rfl | (simp [hs, he]; done))) | (refine Pc.go (h1) ?_ ?_; focus (first | rfl | (simp [hs, he]; done))) | (refine Pc.go (t1) ?_ ?_; focus (first | rfl | (simp [hs, he]; done))) | (refine Pc.go (h2) ?_ ?_; focus (first | rfl | (simp [hs, he]; done))) | (refine Pc.go (t2) ?_ ?_; focus (first | rfl | (simp [hs, he]; done))) | (refine Pc.go (t3) ?_ ?_; focus (first | rfl | (simp [hs, he]; done))) | (refine Pc.go (t4) ?_ ?_; focus (first | rfl | (simp [hs, he]; done))) | rw [if_pos (by first | omega | (simp only [maxLen]; omega))] | rw [if_neg (by first | omega | (simp only [maxLen]; omega))] | rw [frzOwn_neat (by simp) (by simp <;> omega)] | rw [fzOwn_neat (by simp) (by simp <;> omega)]); try simp [hs, he])
      | ((first | refine TstB.go (fun hw_ ew_ => ?_) (fun hw_ ew_ => ?_)) <;> first | (exfalso; first | omega | with_reducible exact hw_ (by assumption) | with_reducible exact absurd hw_ (by assumption)) | simp [ew_, hs, he])
      | fail)
end Go.Proofs.Ytilmfmjcemfoeaa
