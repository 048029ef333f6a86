/- What rows' text tells is taken as it was; what is taken, told again, is what was taken; no beginning of it is taken. -/
import Derived.Test.YtpbjeabigckijaaTabQ
import Derived.Test.YtpbjeabigckijaaBf
set_option linter.unusedVariables false
set_option linter.unusedSimpArgs false
namespace Go.Proofs.Ytpbjeabigckijaa
open Go.Cx Tab
set_option maxHeartbeats 400000
set_option maxRecDepth 40000

theorem numM_num {most n : Nat} (h : n < 18446744073709551616) (hm : n ≤ most) (r : List UInt8) : numM most (numL n ++ r, 0) = (n, (r, 0)) := by
  have := numR_num h r
  simp only [numR, if_true] at this
  simp only [numM, if_true, this]
  rw [if_neg (by omega)]
theorem numM_ok {most : Nat} {r : Rst} (h : (numM most r).2.2 = 0) : r.1 = numL (numM most r).1 ++ (numM most r).2.1 ∧ r.2 = 0 ∧ (numM most r).1 ≤ most := by
  have hle := numM_le h
  unfold numM at h hle ⊢
  split at h
  · rename_i h0
    simp only at h
    have e0 : (takeS r.1).2.2 = 0 := by
      split at h
      · cases h
      · exact h
    have := numR_ok' (r := r) (by simp only [numR, if_pos h0]; exact e0)
    simp only [numR, if_pos h0] at this
    simp only [if_pos h0] at hle ⊢
    exact ⟨this.1, h0, hle⟩
  · rename_i h0
    exact absurd h h0
theorem numM_cut {most k : Nat} (hk : k < 18446744073709551616) (hm : k ≤ most) (r : List UInt8) (c : Nat) : numM most ((numL k ++ r).take c, 0) = if (numL k).length ≤ c then (k, (r.take (c - (numL k).length), 0)) else (0, ([], 2)) := by
  have e := numR_cut hk r c
  simp only [numR, if_true] at e
  simp only [numM, if_true, e]
  split
  · simp only
    rw [if_neg (by omega)]
  · simp
theorem yes_num (b : Bool) : (if b then 1 else 0 : Nat) < 18446744073709551616 := by cases b <;> simp
theorem yes_one (b : Bool) : decide ((if b then 1 else 0 : Nat) = 1) = b := by cases b <;> rfl
theorem yes_big (b : Bool) : decide (1 < (if b then 1 else 0 : Nat)) = false := by cases b <;> rfl
/-! forth -/
theorem decsT_decs : ∀ (l : List DecisionR), (∀ d ∈ l, inI d.seq) → ∀ (a : List DecisionR) (o : Bool) (r : List UInt8), decsT l.length ⟨a, o, (l.flatMap decL ++ r, 0)⟩ = ⟨a ++ l, o, (r, 0)⟩
  | [], _, a, o, r => by simp [decsT]
  | d :: l, h, a, o, r => by
    have e1 : numR ((d :: l).flatMap decL ++ r, 0) = (foldS d.seq, (numL (if d.yes then 1 else 0) ++ (l.flatMap decL ++ r), 0)) := by
      have := numR_num (foldS_lt (h d (by simp))) (numL (if d.yes then 1 else 0) ++ (l.flatMap decL ++ r))
      rw [← this]; simp [decL, whl]
    have e2 := numR_num (yes_num d.yes) (l.flatMap decL ++ r)
    have hs : Dt.step ⟨a, o, ((d :: l).flatMap decL ++ r, 0)⟩ = ⟨a ++ [d], o, (l.flatMap decL ++ r, 0)⟩ := by
      simp only [Dt.step, e1, e2, unfold_fold, yes_one, yes_big, Bool.or_false]
    rw [List.length_cons, decsT_succ rfl, hs, decsT_decs l (fun x hx => h x (by simp [hx]))]
    simp
theorem rowsT_rows : ∀ (l : List RowR), (∀ r ∈ l, RowW r ∧ r.l.length ≤ 256) → ∀ (a : List RowR) (o : Bool) (t : List UInt8), rowsT l.length ⟨a, o, (l.flatMap rowL ++ t, 0)⟩ = ⟨a ++ l, o, (t, 0)⟩
  | [], _, a, o, t => by simp [rowsT]
  | x :: l, h, a, o, t => by
    obtain ⟨⟨w1, w2, w3, w4⟩, hx⟩ := h x (by simp)
    have e0 : (x :: l).flatMap rowL ++ t = numL (foldS x.client) ++ (numL (foldS x.epoch) ++ (numL (foldS x.done) ++ (numL x.l.length ++ (x.l.flatMap decL ++ (l.flatMap rowL ++ t))))) := by simp [rowL, whl]
    have e1 := numR_num (foldS_lt w1) (numL (foldS x.epoch) ++ (numL (foldS x.done) ++ (numL x.l.length ++ (x.l.flatMap decL ++ (l.flatMap rowL ++ t)))))
    have e2 := numR_num (foldS_lt w2) (numL (foldS x.done) ++ (numL x.l.length ++ (x.l.flatMap decL ++ (l.flatMap rowL ++ t))))
    have e3 := numR_num (foldS_lt w3) (numL x.l.length ++ (x.l.flatMap decL ++ (l.flatMap rowL ++ t)))
    have e4 := numM_num (most := 256) (n := x.l.length) (by omega) hx (x.l.flatMap decL ++ (l.flatMap rowL ++ t))
    have hs : Rt.step ⟨a, o, ((x :: l).flatMap rowL ++ t, 0)⟩ = ⟨a ++ [x], o, (l.flatMap rowL ++ t, 0)⟩ := by
      rw [e0]
      simp only [Rt.step, Rt.inner, Rt.head, e1, e2, e3, e4, unfold_fold]
      rw [decsT_decs x.l w4]
      simp
    rw [List.length_cons, rowsT_succ rfl, hs, rowsT_rows l (fun y hy => h y (by simp [hy]))]
    simp
theorem takenT_rows (l : List RowR) (h : ∀ r ∈ l, RowW r ∧ r.l.length ≤ 256) (hl : l.length ≤ 64) : takenT (rowsL l) = ⟨l, false, ([], 0)⟩ := by
  have e := numM_num (most := 64) (n := l.length) (by omega) hl (l.flatMap rowL)
  have e2 := rowsT_rows l h [] false []
  simp only [List.append_nil, List.nil_append] at e2
  simp only [takenT, rowsL, e, e2]
theorem takeT_rows {l : List RowR} (R : RightT l) (h : ∀ r ∈ l, RowW r) : takeT (rowsL l) = (l, 0) :=
  takeT_ok (takenT_rows l (fun r hr => ⟨h r hr, (R.ok r hr).len⟩) R.len) rfl ⟨rfl, rfl, R⟩
/-! back -/
theorem decsT_back : ∀ (k : Nat) (a : Dt), (decsT k a).r.2 = 0 → a.r.2 = 0 ∧ ∃ l, l.length = k ∧ (decsT k a).l = a.l ++ l ∧ (∀ d ∈ l, inI d.seq) ∧ ((decsT k a).odd = false → a.odd = false ∧ a.r.1 = l.flatMap decL ++ (decsT k a).r.1)
  | 0, a, h => ⟨h, [], rfl, by simp [decsT], by simp, fun h => ⟨h, by simp [decsT]⟩⟩
  | k + 1, a, h => by
    by_cases h0 : a.r.2 = 0
    case neg => rw [decsT_bad h0] at h; exact absurd h h0
    rw [decsT_succ h0] at h ⊢
    obtain ⟨h1, l, h2, h3, h4, h5⟩ := decsT_back k a.step h
    obtain ⟨b1, b2⟩ := numR_ok' (r := (numR a.r).2) h1
    obtain ⟨c1, c2⟩ := numR_ok' (r := a.r) b2
    refine ⟨h0, ⟨unfoldS (numR a.r).1, decide ((numR (numR a.r).2).1 = 1)⟩ :: l, by simp [h2], by rw [h3]; simp [Dt.step], ?_, fun hodd => ?_⟩
    · intro d hd
      rcases List.mem_cons.1 hd with rfl | hd
      · exact unfoldS_in (numR_lt a.r)
      · exact h4 d hd
    · obtain ⟨g1, g2⟩ := h5 hodd
      simp only [Dt.step, Bool.or_eq_false_iff, decide_eq_false_iff_not, Nat.not_lt] at g1
      refine ⟨g1.1, ?_⟩
      have hy : numL (numR (numR a.r).2).1 = numL (if decide ((numR (numR a.r).2).1 = 1) then 1 else 0) := by
        have : (numR (numR a.r).2).1 = 0 ∨ (numR (numR a.r).2).1 = 1 := by omega
        rcases this with q | q <;> rw [q] <;> rfl
      rw [c1, b1, hy, List.flatMap_cons, decL, whl, fold_unfold]
      rw [show (numR (numR a.r).2).2.1 = a.step.r.1 from rfl, g2]
      simp
theorem rowsT_back : ∀ (k : Nat) (a : Rt), (rowsT k a).r.2 = 0 → a.r.2 = 0 ∧ ∃ l, l.length = k ∧ (rowsT k a).l = a.l ++ l ∧ (∀ x ∈ l, RowW x) ∧ ((rowsT k a).odd = false → a.odd = false ∧ a.r.1 = l.flatMap rowL ++ (rowsT k a).r.1)
  | 0, a, h => ⟨h, [], rfl, by simp [rowsT], by simp, fun h => ⟨h, by simp [rowsT]⟩⟩
  | k + 1, a, h => by
    by_cases h0 : a.r.2 = 0
    case neg => rw [rowsT_bad h0] at h; exact absurd h h0
    rw [rowsT_succ h0] at h ⊢
    obtain ⟨h1, l, h2, h3, h4, h5⟩ := rowsT_back k a.step h
    obtain ⟨d1, dl, d2, d3, d4, d5⟩ := decsT_back a.head.1 ⟨[], a.odd, a.head.2⟩ h1
    obtain ⟨m1, m2, m3⟩ := numM_ok (most := 256) (r := (numR (numR (numR a.r).2).2).2) d1
    obtain ⟨b1, b2⟩ := numR_ok' (r := (numR (numR a.r).2).2) m2
    obtain ⟨c1, c2⟩ := numR_ok' (r := (numR a.r).2) b2
    obtain ⟨e1, e2⟩ := numR_ok' (r := a.r) c2
    have hin : a.inner.l = dl := by simpa [Rt.inner] using d3
    refine ⟨h0, ⟨unfoldS (numR a.r).1, unfoldS (numR (numR a.r).2).1, unfoldS (numR (numR (numR a.r).2).2).1, dl⟩ :: l, by simp [h2], by rw [h3]; simp [Rt.step, hin], ?_, fun hodd => ?_⟩
    · intro x hx
      rcases List.mem_cons.1 hx with rfl | hx
      · exact ⟨unfoldS_in (numR_lt _), unfoldS_in (numR_lt _), unfoldS_in (numR_lt _), d4⟩
      · exact h4 x hx
    · obtain ⟨g1, g2⟩ := h5 hodd
      obtain ⟨k1, k2⟩ := d5 g1
      refine ⟨k1, ?_⟩
      have m1' : (numR (numR (numR a.r).2).2).2.1 = numL a.head.1 ++ a.head.2.1 := m1
      simp only at k2
      rw [e1, c1, b1, m1', k2, List.flatMap_cons, rowL, whl, whl, whl, fold_unfold, fold_unfold, fold_unfold]
      rw [show (decsT a.head.1 ⟨[], a.odd, a.head.2⟩).r.1 = a.step.r.1 from rfl, g2]
      simp only [d2]
      simp
theorem takeT_cases (s : List UInt8) : takeT s = ([], (takeT s).2) ∧ (takeT s).2 ≠ 0 ∨ (takeT s).2 = 0 ∧ RightT (takeT s).1 ∧ (∀ x ∈ (takeT s).1, RowW x) ∧ rowsL (takeT s).1 = s := by
  by_cases he : (takenT s).r.2 = 0
  case neg =>
    rw [takeT_bad rfl he]
    exact .inl ⟨rfl, he⟩
  by_cases hq : (takenT s).odd = false ∧ (takenT s).r.1 = [] ∧ RightT (takenT s).l
  case neg =>
    rw [takeT_odd rfl he hq]
    exact .inl ⟨rfl, by simp⟩
  rw [takeT_ok rfl he hq]
  obtain ⟨h1, l, h2, h3, h4, h5⟩ := rowsT_back _ _ he
  obtain ⟨g1, g2⟩ := h5 hq.1
  obtain ⟨m1, m2, m3⟩ := numM_ok h1
  have e3 : (takenT s).l = l := by simpa [takenT] using h3
  refine .inr ⟨rfl, hq.2.2, by rw [e3]; exact h4, ?_⟩
  have hr : (takenT s).r.1 = [] := hq.2.1
  simp only at m1 g2
  rw [show (rowsT (numM 64 (s, 0)).1 ⟨[], false, (numM 64 (s, 0)).2⟩).r.1 = (takenT s).r.1 from rfl, hr] at g2
  simp only [e3, rowsL, h2]
  conv => rhs; rw [m1, g2]
  simp
theorem takeT_right (s : List UInt8) : RightT (takeT s).1 := by
  rcases takeT_cases s with ⟨h, _⟩ | ⟨_, h, _⟩
  · rw [h]; exact RightT.nil
  · exact h
/-! a beginning -/
theorem numM_two (most : Nat) : numM most ([], 2) = (0, ([], 2)) := by simp [numM]
theorem decsT_cut : ∀ (l : List DecisionR), (∀ d ∈ l, inI d.seq) → ∀ (a : List DecisionR) (o : Bool) (r : List UInt8) (c : Nat),
    ((l.flatMap decL).length ≤ c → decsT l.length ⟨a, o, ((l.flatMap decL ++ r).take c, 0)⟩ = ⟨a ++ l, o, (r.take (c - (l.flatMap decL).length), 0)⟩) ∧
    (c < (l.flatMap decL).length → (decsT l.length ⟨a, o, ((l.flatMap decL ++ r).take c, 0)⟩).r = ([], 2))
  | [], _, a, o, r, c => by simp [decsT]
  | d :: l, h, a, o, r, c => by
    have e0 : (d :: l).flatMap decL ++ r = numL (foldS d.seq) ++ (numL (if d.yes then 1 else 0) ++ (l.flatMap decL ++ r)) := by simp [decL, whl]
    have el : ((d :: l).flatMap decL).length = (numL (foldS d.seq)).length + ((numL (if d.yes then 1 else 0)).length + (l.flatMap decL).length) := by simp [decL, whl, Nat.add_assoc]
    have e1 := numR_cut (foldS_lt (h d (by simp))) (numL (if d.yes then 1 else 0) ++ (l.flatMap decL ++ r)) c
    rw [e0, el, List.length_cons, decsT_succ rfl]
    by_cases h1 : (numL (foldS d.seq)).length ≤ c
    case neg =>
      rw [if_neg h1] at e1
      have hs : (Dt.step ⟨a, o, ((numL (foldS d.seq) ++ (numL (if d.yes then 1 else 0) ++ (l.flatMap decL ++ r))).take c, 0)⟩).r = ([], 2) := by simp only [Dt.step, e1, numR_bad]
      refine ⟨fun hc => by omega, fun _ => ?_⟩
      rw [decsT_bad (by rw [hs]; simp), hs]
    rw [if_pos h1] at e1
    have e2 := numR_cut (yes_num d.yes) (l.flatMap decL ++ r) (c - (numL (foldS d.seq)).length)
    by_cases h2 : (numL (if d.yes then 1 else 0)).length ≤ c - (numL (foldS d.seq)).length
    case neg =>
      rw [if_neg h2] at e2
      have hs : (Dt.step ⟨a, o, ((numL (foldS d.seq) ++ (numL (if d.yes then 1 else 0) ++ (l.flatMap decL ++ r))).take c, 0)⟩).r = ([], 2) := by simp only [Dt.step, e1, e2]
      refine ⟨fun hc => by omega, fun _ => ?_⟩
      rw [decsT_bad (by rw [hs]; simp), hs]
    rw [if_pos h2] at e2
    have hs : Dt.step ⟨a, o, ((numL (foldS d.seq) ++ (numL (if d.yes then 1 else 0) ++ (l.flatMap decL ++ r))).take c, 0)⟩ = ⟨a ++ [d], o, ((l.flatMap decL ++ r).take (c - (numL (foldS d.seq)).length - (numL (if d.yes then 1 else 0)).length), 0)⟩ := by
      simp only [Dt.step, e1, e2, unfold_fold, yes_one, yes_big, Bool.or_false]
    rw [hs]
    obtain ⟨i1, i2⟩ := decsT_cut l (fun x hx => h x (by simp [hx])) (a ++ [d]) o r (c - (numL (foldS d.seq)).length - (numL (if d.yes then 1 else 0)).length)
    refine ⟨fun hc => ?_, fun hc => i2 (by omega)⟩
    rw [i1 (by omega)]
    simp only [List.append_assoc, List.singleton_append, Nat.sub_sub, Nat.add_assoc]
theorem Rt.step_bad {a : Rt} (h : a.head.2 = ([], 2)) : a.step.r = ([], 2) := by
  rw [step_head_bad (by rw [h]; simp), h]
theorem rowsT_cut : ∀ (l : List RowR), (∀ x ∈ l, RowW x ∧ x.l.length ≤ 256) → ∀ (a : List RowR) (o : Bool) (r : List UInt8) (c : Nat),
    ((l.flatMap rowL).length ≤ c → rowsT l.length ⟨a, o, ((l.flatMap rowL ++ r).take c, 0)⟩ = ⟨a ++ l, o, (r.take (c - (l.flatMap rowL).length), 0)⟩) ∧
    (c < (l.flatMap rowL).length → (rowsT l.length ⟨a, o, ((l.flatMap rowL ++ r).take c, 0)⟩).r = ([], 2))
  | [], _, a, o, r, c => by simp [rowsT]
  | x :: l, h, a, o, t, c => by
    obtain ⟨⟨w1, w2, w3, w4⟩, hx⟩ := h x (by simp)
    generalize hR : l.flatMap rowL ++ t = R
    have e0 : (x :: l).flatMap rowL ++ t = numL (foldS x.client) ++ (numL (foldS x.epoch) ++ (numL (foldS x.done) ++ (numL x.l.length ++ (x.l.flatMap decL ++ R)))) := by rw [← hR]; simp [rowL, whl]
    have el : ((x :: l).flatMap rowL).length = (numL (foldS x.client)).length + ((numL (foldS x.epoch)).length + ((numL (foldS x.done)).length + ((numL x.l.length).length + ((x.l.flatMap decL).length + (l.flatMap rowL).length)))) := by simp [rowL, whl, Nat.add_assoc]
    rw [e0, el, List.length_cons, rowsT_succ rfl]
    have bad : ∀ s : List UInt8, (Rt.head ⟨a, o, (s, 0)⟩).2 = ([], 2) → (rowsT l.length (Rt.step ⟨a, o, (s, 0)⟩)).r = ([], 2) := fun s hs => by
      have := Rt.step_bad hs
      rw [rowsT_bad (by rw [this]; simp), this]
    have e1 := numR_cut (foldS_lt w1) (numL (foldS x.epoch) ++ (numL (foldS x.done) ++ (numL x.l.length ++ (x.l.flatMap decL ++ R)))) c
    by_cases h1 : (numL (foldS x.client)).length ≤ c
    case neg =>
      rw [if_neg h1] at e1
      exact ⟨fun hc => by omega, fun _ => bad _ (by simp only [Rt.head, e1, numR_bad, numM_two])⟩
    rw [if_pos h1] at e1
    generalize hc1 : c - (numL (foldS x.client)).length = c1 at *
    have e2 := numR_cut (foldS_lt w2) (numL (foldS x.done) ++ (numL x.l.length ++ (x.l.flatMap decL ++ R))) c1
    by_cases h2 : (numL (foldS x.epoch)).length ≤ c1
    case neg =>
      rw [if_neg h2] at e2
      exact ⟨fun hc => by omega, fun _ => bad _ (by simp only [Rt.head, e1, e2, numR_bad, numM_two])⟩
    rw [if_pos h2] at e2
    generalize hc2 : c1 - (numL (foldS x.epoch)).length = c2 at *
    have e3 := numR_cut (foldS_lt w3) (numL x.l.length ++ (x.l.flatMap decL ++ R)) c2
    by_cases h3 : (numL (foldS x.done)).length ≤ c2
    case neg =>
      rw [if_neg h3] at e3
      exact ⟨fun hc => by omega, fun _ => bad _ (by simp only [Rt.head, e1, e2, e3, numM_two])⟩
    rw [if_pos h3] at e3
    generalize hc3 : c2 - (numL (foldS x.done)).length = c3 at *
    have e4 := numM_cut (most := 256) (k := x.l.length) (by omega) hx (x.l.flatMap decL ++ R) c3
    by_cases h4 : (numL x.l.length).length ≤ c3
    case neg =>
      rw [if_neg h4] at e4
      exact ⟨fun hc => by omega, fun _ => bad _ (by simp only [Rt.head, e1, e2, e3, e4])⟩
    rw [if_pos h4] at e4
    generalize hc4 : c3 - (numL x.l.length).length = c4 at *
    obtain ⟨d1, d2⟩ := decsT_cut x.l w4 [] o R c4
    by_cases h5 : (x.l.flatMap decL).length ≤ c4
    case neg =>
      have d3 := d2 (by omega)
      refine ⟨fun hc => by omega, fun _ => ?_⟩
      have hs : (Rt.step ⟨a, o, ((numL (foldS x.client) ++ (numL (foldS x.epoch) ++ (numL (foldS x.done) ++ (numL x.l.length ++ (x.l.flatMap decL ++ R))))).take c, 0)⟩).r = ([], 2) := by
        simp only [Rt.step, Rt.inner, Rt.head, e1, e2, e3, e4, d3]
      rw [rowsT_bad (by rw [hs]; simp), hs]
    have d3 := d1 h5
    have hs : Rt.step ⟨a, o, ((numL (foldS x.client) ++ (numL (foldS x.epoch) ++ (numL (foldS x.done) ++ (numL x.l.length ++ (x.l.flatMap decL ++ R))))).take c, 0)⟩ = ⟨a ++ [x], o, (R.take (c4 - (x.l.flatMap decL).length), 0)⟩ := by
      simp only [Rt.step, Rt.inner, Rt.head, e1, e2, e3, e4, d3, unfold_fold, List.nil_append]
    rw [hs]
    obtain ⟨i1, i2⟩ := rowsT_cut l (fun y hy => h y (by simp [hy])) (a ++ [x]) o t (c4 - (x.l.flatMap decL).length)
    rw [hR] at i1 i2
    refine ⟨fun hc => ?_, fun hc => i2 (by omega)⟩
    rw [i1 (by omega)]
    simp only [List.append_assoc, List.singleton_append]
    congr 3
    omega
theorem takeT_cut {l : List RowR} (R : RightT l) (h : ∀ r ∈ l, RowW r) {c : Nat} (hc : c < (rowsL l).length) : takeT ((rowsL l).take c) = ([], 2) := by
  have hl := R.len
  have e := numM_cut (most := 64) (k := l.length) (by omega) hl (l.flatMap rowL) c
  have hr : (takenT ((rowsL l).take c)).r = ([], 2) := by
    simp only [takenT, rowsL, e]
    by_cases h1 : (numL l.length).length ≤ c
    case neg =>
      rw [if_neg h1, rowsT_bad (by simp)]
    rw [if_pos h1]
    have := (rowsT_cut l (fun r hr => ⟨h r hr, (R.ok r hr).len⟩) [] false [] (c - (numL l.length).length)).2 (by simp only [rowsL, List.length_append] at hc; omega)
    simpa using this
  have := takeT_bad (s := (rowsL l).take c) rfl (by rw [hr]; simp)
  rw [this, hr]
/-! how long it is -/
theorem decL_len {d : DecisionR} (h : inI d.seq) : (decL d).length ≤ 20 := by
  have h1 := numL_10 (foldS_lt h)
  have h2 := numL_10 (yes_num d.yes)
  simp only [decL, whl, List.length_append]; omega
theorem flat_le {α : Type} (f : α → List UInt8) (B : Nat) : ∀ l : List α, (∀ x ∈ l, (f x).length ≤ B) → (l.flatMap f).length ≤ B * l.length
  | [], _ => by simp
  | x :: l, h => by
    have := flat_le f B l fun y hy => h y (by simp [hy])
    have := h x (by simp)
    simp only [List.flatMap_cons, List.length_append, List.length_cons, Nat.mul_add]; omega
theorem rowL_len {x : RowR} (h : RowW x) (hx : x.l.length < 18446744073709551616) : (rowL x).length ≤ 40 + 20 * x.l.length := by
  obtain ⟨w1, w2, w3, w4⟩ := h
  have h1 := numL_10 (foldS_lt w1)
  have h2 := numL_10 (foldS_lt w2)
  have h3 := numL_10 (foldS_lt w3)
  have h4 := numL_10 hx
  have h5 := flat_le decL 20 x.l fun d hd => decL_len (w4 d hd)
  simp only [rowL, whl, List.length_append]; omega
theorem rowsL_right {l : List RowR} (R : RightT l) (h : ∀ r ∈ l, RowW r) : (rowsL l).length ≤ 1000000 := by
  have h1 := flat_le rowL 5160 l fun x hx => by
    have := (R.ok x hx).len
    have := rowL_len (h x hx) (by omega)
    omega
  have := R.len
  have := numL_10 (n := l.length) (by omega)
  simp only [rowsL, List.length_append]; omega
end Go.Proofs.Ytpbjeabigckijaa
