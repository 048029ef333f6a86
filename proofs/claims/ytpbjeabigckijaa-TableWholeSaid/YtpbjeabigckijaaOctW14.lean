/- What the functions of layer 1 compute. -/
import Derived.Test.YtpbjeabigckijaaTab
import Derived.Test.YtpbjeabigckijaaBe
import Derived.Test.YtpbjeabigckijaaChecked
import Derived.Test.YtpbjeabigckijaaShelf
import Derived.Test.YtpbjeabigckijaaBf
import Derived.Test.YtpbjeabigckijaaBd
set_option linter.unusedVariables false
set_option linter.unusedSimpArgs false
namespace Go.Proofs.Ytpbjeabigckijaa
open Go.Cx Tab
set_option maxHeartbeats 400000
set_option maxRecDepth 40000

theorem num_ok (n : Nat) (hn : n < 18446744073709551616) : PCall Try.prog 51 [U n] (S (T (numL n))) := by
  refine PCall.mk (fun _ => false) Try.func51 rfl rfl rfl (Ent.mk Try.func51 (by kernel_rfl) rfl) (by simp) (by simp) fun hfit => ?_
  simp [Try.f51]
  refine AW.scopeG (lit := fun _ => false) 0 (fun x : Nat × List UInt8 × Nat => ⟨20, pat [(0, U x.1), (3, .own 0 x.2.2 0 x.2.1.length 1)], [.cells x.2.2 (x.2.1.map yb)]⟩) (fun x => x.1) (fun x => x.2.1 ++ numL x.1 = numL n ∧ x.1 < 18446744073709551616) rfl ?_ ?_
  · intro A hA
    simp
    by_cases h : 128 ≤ n
    · have hd : ¬ n < 128 := by omega
      simp [h, show 1 ≤ maxLen by simp [maxLen], bOr128]
      refine hA (n / 128, [UInt8.ofNat (n % 128 + 128)], 0) _ (Wk.keep _ (by simp)) ⟨by rw [numL_hi hd]; rfl, by simp only; omega⟩
    · have hd : n < 128 := by omega
      simp [h, show 1 ≤ maxLen by simp [maxLen], numL_lo hd, u8s_cons]
      apply UInt8.toNat_inj.1
      simp
      omega
  · rintro ⟨m, out, ver⟩ ⟨ho, hm⟩ A hA
    simp only at ho hm
    have hl := numL_10 hn
    rw [← ho, List.length_append] at hl
    have hmax : out.length + 1 ≤ maxLen := by simp only [maxLen]; omega
    simp
    by_cases h : 128 ≤ m
    · have hd : ¬ m < 128 := by omega
      simp [h, hmax, show out.length + 1 ≤ 140737488355328 by omega, bOr128]
      refine hA (m / 128, out ++ [UInt8.ofNat (m % 128 + 128)], ver + 1) _ (Wk.at _ rfl (by simp) (by simp)) ⟨?_, by simp only; omega⟩ (by simp only; omega)
      rw [← ho, numL_hi hd, List.append_assoc]; rfl
    · have hd : m < 128 := by omega
      simp [h, hmax, show out.length + 1 ≤ 140737488355328 by omega]
      simp [← ho, numL_lo hd]
      apply UInt8.toNat_inj.1
      simp
      omega
theorem fold_ok (n : Int) (hn : inI n) : PCall Try.prog 53 [I n] (U (foldS n)) := by
  refine PCall.mk (fun _ => false) Try.func53 rfl rfl rfl (Ent.mk Try.func53 (by kernel_rfl) rfl) (by simp) (by simp) fun hfit => ?_
  simp [Try.f53]
  exact fold_eq hn
theorem unfold_ok (n : Nat) (hn : n < 18446744073709551616) : PCall Try.prog 67 [U n] (I (unfoldS n)) := by
  refine PCall.mk (fun _ => false) Try.func67 rfl rfl rfl (Ent.mk Try.func67 (by kernel_rfl) rfl) (by simp) (by simp) fun hfit => ?_
  have e : bAnd .u64 (n : Int) 1 = ((n &&& 1 : Nat) : Int) := by
    rw [bAnd_nat (.inr (.inr rfl)) (by omega) (by simp [IntKind.bits]; omega) (by omega) (by simp [IntKind.bits])]; rfl
  have h := unfold_eq hn
  simp only [Int.zero_sub] at h
  simp [Try.f67, e]
  simpa using h
theorem takeNum_ok (l : List UInt8) (hl : l.length ≤ 1099511627776) : PCall Try.prog 66 [S (T l)] (.tup [U (takeS l).1, S (T (takeS l).2.1), I (takeS l).2.2]) := by
  refine PCall.mk (fun _ => false) Try.func66 rfl rfl rfl (Ent.mk Try.func66 (by kernel_rfl) rfl) (by simp) (by simp) fun hfit => ?_
  simp [Try.f66]
  refine AW.loopG (lit := fun _ => false) (fun x : Nat × Nat => ⟨51, pat [(0, S (T l)), (5, U x.2), (6, I x.1)], []⟩) (fun x => 10 - x.1) (fun x => x.1 ≤ l.length ∧ x.1 ≤ 10 ∧ (l.take x.1).all hi = true ∧ (x.1 ≤ 9 → x.2 = valL (l.take x.1))) (0, 0) ?_ ?_ ?_
  · exact Wk.at _ rfl rfl (by simp)
  · simp [valL]
  rintro ⟨i, n⟩ ⟨h1, h2, h3, h4⟩ A hA
  simp only at h1 h2 h3 h4
  simp [T_size]
  by_cases hi1 : i < l.length
  case neg =>
    have : l.take i = l := List.take_of_length_le (by omega)
    rw [this] at h3
    by_cases h10 : i = 10
    · simp [hi1, h10, takeS_all h3, show 10 ≤ l.length by omega, show ¬ 10 < l.length by omega]
    · simp [hi1, h10, takeS_all h3, show ¬ 10 ≤ l.length by omega]
  by_cases hi2 : i < 10
  case neg =>
    have h10 : i = 10 := by omega
    have e := takeS_many (r := l.drop i) h3 (by simp; omega)
    rw [List.take_append_drop] at e
    subst h10
    simp [hi1, e]
  have hn := h4 (by omega)
  have hlt : n < 128 ^ i := by have := valL_lt (l.take i); rw [← hn] at this; simpa [show min i l.length = i by omega] using this
  have hb := byteAt_T l i hi1
  have hc := (l[i]).toNat_lt
  have hw : IntKind.i64.wrap (7 * (i : Int)) = ((7 * i : Nat) : Int) := by rw [wrap_id (by omega) (by omega)]; omega
  have hw2 : IntKind.i64.wrap ((i : Int) + 1) = ((i + 1 : Nat) : Int) := by rw [wrap_id (by omega) (by omega)]; omega
  have ho := or_step (c := (l[i]).toNat) (at_ := i) (by omega) hlt
  have hand : bAnd .u8 ((l[i]).toNat : Int) 127 = (((l[i]).toNat &&& 127 : Nat) : Int) := by
    rw [bAnd_nat (.inl rfl) (by omega) (by simp [IntKind.bits]; omega) (by omega) (by simp [IntKind.bits])]; rfl
  have hand2 : (((l[i]).toNat &&& 127 : Nat) : Int) % 18446744073709551616 = (((l[i]).toNat &&& 127 : Nat) : Int) := by
    have := and127 (l[i]).toNat
    omega
  have hN : i ≤ 8 ∨ (l[i]).toNat ≤ 1 → n + (l[i]).toNat % 128 * 128 ^ i % 18446744073709551616 = valL (l.take i ++ [l[i]]) := by
    intro h
    rw [valL_snoc, ← hn]
    have e : (l.take i).length = i := by simp; omega
    rw [e]
    congr 1
    apply Nat.mod_eq_of_lt
    rcases h with h | h
    · have h1 : (128 : Nat) ^ i ≤ 128 ^ 8 := Nat.pow_le_pow_right (by omega) h
      have h2 : (l[i]).toNat % 128 * 128 ^ i ≤ 127 * 128 ^ 8 := Nat.mul_le_mul (by omega) h1
      have : (128 : Nat) ^ 8 = 72057594037927936 := by decide
      omega
    · have h1 : (128 : Nat) ^ i ≤ 128 ^ 9 := Nat.pow_le_pow_right (by omega) (by omega)
      have h2 : (l[i]).toNat % 128 * 128 ^ i ≤ 1 * 128 ^ 9 := Nat.mul_le_mul (by omega) h1
      have : (128 : Nat) ^ 9 = 9223372036854775808 := by decide
      omega
  have hN2 : n + (l[i]).toNat % 128 * 128 ^ i % 18446744073709551616 < 36893488147419103232 := by
    have : 128 ^ i ≤ 128 ^ 9 := Nat.pow_le_pow_right (by omega) (by omega)
    have e9 : (128 : Nat) ^ 9 = 9223372036854775808 := by decide
    omega
  generalize n + (l[i]).toNat % 128 * 128 ^ i % 18446744073709551616 = N at *
  have ht : (7 * (i : Int)).toNat = 7 * i := by omega
  have hneg : ¬ 7 * (i : Int) < 0 := by omega
  simp [hi1, hi2, T_size, hb, hand, hand2, hw, hw2, hneg, ht, ho]
  have hs := split_at l i hi1
  have hlen : (l.take i).length = i := by simp; omega
  by_cases hc128 : (l[i]).toNat < 128
  · have e := takeS_at (r := l.drop (i + 1)) h3 hc128
    rw [← hs, hlen] at e
    rw [if_neg (by omega)] at e
    have w1 : ((i : Int) + 1).toNat = i + 1 := by omega
    have fin : (T l).extract (i + 1) l.length = T (l.drop (i + 1)) := by
      rw [T_ext]; simp
    by_cases q : (1 ≤ i ∧ (l[i]).toNat = 0) ∨ (i = 9 ∧ 1 < (l[i]).toNat)
    · rw [if_pos q] at e
      simp [hc128, e]
      try simp
      repeat' (first
        | ((first | refine Tst.go (fun hw_ ew_ => ?_) (fun hw_ ew_ => ?_)) <;> first | (exfalso; first | omega | with_reducible exact hw_ (by assumption) | with_reducible exact absurd hw_ (by assumption)) | (have nw_ := Nw.nw hw_; simp [ew_, nw_]) | simp [ew_])
        | ((first | refine AW.draw (id := 10) Try.checked.mixed (fun _ => false) [] [] 7 (by kernel_rfl) ?_ | rw [if_pos (by first | omega | (simp only [maxLen]; omega))] | rw [if_neg (by first | omega | (simp only [maxLen]; omega))] | rw [frzOwn_neat (by simp) (by simp <;> omega)] | rw [fzOwn_neat (by simp) (by simp <;> omega)]); try simp)
        | ((first | refine TstB.go (fun hw_ ew_ => ?_) (fun hw_ ew_ => ?_)) <;> first | (exfalso; first | omega | with_reducible exact hw_ (by assumption) | with_reducible exact absurd hw_ (by assumption)) | simp [ew_])
        | fail)
    · rw [if_neg q] at e
      have hv := hN (by omega)
      rw [← List.take_succ_eq_append_getElem hi1] at hv e
      rw [← hv] at e
      simp [hc128, e]
      try simp [w1, fin, T_size]
      repeat' (first
        | ((first | refine Tst.go (fun hw_ ew_ => ?_) (fun hw_ ew_ => ?_)) <;> first | (exfalso; first | omega | with_reducible exact hw_ (by assumption) | with_reducible exact absurd hw_ (by assumption)) | (have nw_ := Nw.nw hw_; simp [ew_, nw_, w1, fin, T_size]) | simp [ew_, w1, fin, T_size])
        | ((first | refine AW.draw (id := 10) Try.checked.mixed (fun _ => false) [] [] 7 (by kernel_rfl) ?_ | rw [if_pos (by first | omega | (simp only [maxLen]; omega))] | rw [if_neg (by first | omega | (simp only [maxLen]; omega))] | rw [frzOwn_neat (by simp) (by simp <;> omega)] | rw [fzOwn_neat (by simp) (by simp <;> omega)]); try simp [w1, fin, T_size])
        | ((first | refine TstB.go (fun hw_ ew_ => ?_) (fun hw_ ew_ => ?_)) <;> first | (exfalso; first | omega | with_reducible exact hw_ (by assumption) | with_reducible exact absurd hw_ (by assumption)) | simp [ew_, w1, fin, T_size])
        | fail)
  · have := hA (i + 1, N)
    simp [hc128]
    refine this _ (Wk.at _ rfl rfl (by simp)) ⟨by omega, by omega, ?_, ?_⟩ (by simp only; omega)
    · rw [List.take_succ_eq_append_getElem hi1, List.all_append, h3]
      simp [hi]; omega
    · intro h9
      rw [List.take_succ_eq_append_getElem hi1]
      exact hN (by simp only at h9; omega)
end Go.Proofs.Ytpbjeabigckijaa

