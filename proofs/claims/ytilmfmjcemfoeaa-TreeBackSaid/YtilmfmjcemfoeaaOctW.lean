/- What the functions of layer 1 compute. -/
import Derived.Test.YtilmfmjcemfoeaaTab
import Derived.Test.YtilmfmjcemfoeaaBe
import Derived.Test.YtilmfmjcemfoeaaBq
import Derived.Test.YtilmfmjcemfoeaaChecked
import Derived.Test.YtilmfmjcemfoeaaShelf
import Derived.Test.YtilmfmjcemfoeaaBf
import Derived.Test.YtilmfmjcemfoeaaBd
set_option linter.unusedVariables false
set_option linter.unusedSimpArgs false
namespace Go.Proofs.Ytilmfmjcemfoeaa
open Go.Cx Tab
set_option maxHeartbeats 400000
set_option maxRecDepth 40000

theorem num_ok (n : Nat) (hn : n < 18446744073709551616) : PCall Try.prog 20 [U n] (S (T (numL n))) := by
  refine PCall.mk (fun _ => false) Try.func20 rfl rfl rfl (Ent.mk Try.func20 (by kernel_rfl) rfl) (by simp) (by simp) fun hfit => ?_
  simp [Try.f20]
  refine AW.scopeG (lit := fun _ => false) 0 (fun x : Nat × List UInt8 × Nat => ⟨20, pat [(0, U x.1), (3, .own 0 x.2.2 0 x.2.1.length 1)], [.cells x.2.2 (x.2.1.map yb)]⟩) (fun x => x.1) (fun x => x.2.1 ++ numL x.1 = numL n ∧ x.1 < 18446744073709551616) rfl ?_ ?_
  · intro A hA
    simp
    by_cases h : 128 ≤ n
    · have hd : ¬ n < 128 := by omega
      simp [h, show 1 ≤ maxLen by simp [maxLen], bOr128]
      refine hA (n / 128, [UInt8.ofNat (n % 128 + 128)], 0) _ (Wk.keep _ (by simp)) ⟨by rw [numL_hi hd]; rfl, by simp only; omega⟩
    · have hd : n < 128 := by omega
      simp [h, show 1 ≤ maxLen by simp [maxLen], numL_lo hd, u8s_cons]
      apply UInt8.toNat_inj.1
      simp
      omega
  · rintro ⟨m, out, ver⟩ ⟨ho, hm⟩ A hA
    simp only at ho hm
    have hl := numL_10 hn
    rw [← ho, List.length_append] at hl
    have hmax : out.length + 1 ≤ maxLen := by simp only [maxLen]; omega
    simp
    by_cases h : 128 ≤ m
    · have hd : ¬ m < 128 := by omega
      simp [h, hmax, show out.length + 1 ≤ 140737488355328 by omega, bOr128]
      refine hA (m / 128, out ++ [UInt8.ofNat (m % 128 + 128)], ver + 1) _ (Wk.at _ rfl (by simp) (by simp)) ⟨?_, by simp only; omega⟩ (by simp only; omega)
      rw [← ho, numL_hi hd, List.append_assoc]; rfl
    · have hd : m < 128 := by omega
      simp [h, hmax, show out.length + 1 ≤ 140737488355328 by omega]
      simp [← ho, numL_lo hd]
      apply UInt8.toNat_inj.1
      simp
      omega
theorem fold_ok (n : Int) (hn : inI n) : PCall Try.prog 21 [I n] (U (foldS n)) := by
  refine PCall.mk (fun _ => false) Try.func21 rfl rfl rfl (Ent.mk Try.func21 (by kernel_rfl) rfl) (by simp) (by simp) fun hfit => ?_
  simp [Try.f21]
  exact fold_eq hn
theorem unfold_ok (n : Nat) (hn : n < 18446744073709551616) : PCall Try.prog 15 [U n] (I (unfoldS n)) := by
  refine PCall.mk (fun _ => false) Try.func15 rfl rfl rfl (Ent.mk Try.func15 (by kernel_rfl) rfl) (by simp) (by simp) fun hfit => ?_
  have e : bAnd .u64 (n : Int) 1 = ((n &&& 1 : Nat) : Int) := by
    rw [bAnd_nat (.inr (.inr rfl)) (by omega) (by simp [IntKind.bits]; omega) (by omega) (by simp [IntKind.bits])]; rfl
  have h := unfold_eq hn
  simp only [Int.zero_sub] at h
  simp [Try.f15, e]
  simpa using h
theorem join_ok (l : List (List UInt8)) (hl : l.flatten.length ≤ 140737488355328) (hn : l.length ≤ 140737488355328) : PCall Try.prog 49 [enc1 S (l.map T), S .empty] (S (T l.flatten)) := by
  refine PCall.ofCalls (by simp) rfl (Ent.mk Try.func49 (by kernel_rfl) rfl) fun Z w cargs hz hr => ?_
  cases hr with
  | cons h1 h2 =>
    cases h2 with
    | cons h2 h3 =>
      cases h3
      have hs := concV_ok h2 rfl
      subst hs
      have hj : Lib.join ((l.map T).map (·.data.toList)) (ByteArray.empty).data.toList = l.flatten := by
        have : (l.map T).map (·.data.toList) = l := by simp [Function.comp_def]
        rw [this]
        have h0 : (ByteArray.empty).data.toList = [] := rfl
        rw [h0]
        have : ∀ l : List (List UInt8), Lib.join l [] = l.flatten := by
          intro l
          unfold Lib.join List.intercalate
          induction l with
          | nil => rfl
          | cons a l ih =>
            cases l with
            | nil => simp [List.intersperse]
            | cons b l => simp [List.intersperse] at ih ⊢; exact ih
        exact this l
      rcases h1.sl_inv with ⟨q0, _, A, cap, rfl⟩ | ⟨q0, A, cap, us, rfl, q1, q3, q4, q5, q6⟩
      · have : l = [] := List.eq_nil_of_length_eq_zero (by simpa using q0)
        subst this
        exact (Try.strings_Join_none _ _ _ w).mono fun e w' ⟨he, hw⟩ => ⟨he, by rw [hw]; exact .refl _ _⟩
      · have hlen := q6.length
        have hcell : ∀ (j : Nat) (x : ByteArray), (l.map T)[j]? = some x → w.cell? (A.add j) = some (.string x) := by
          intro j x hx
          obtain ⟨v, hv, hr⟩ := q6.get j (S x) (by rw [List.getElem?_map, hx]; rfl)
          have := concV_ok hr rfl
          subst this
          exact q5 j _ hv
        have h0 := hcell 0 _ (by rw [List.getElem?_eq_getElem q0])
        have e0 : A.add 0 = A := by simp [Addr.add]
        rw [e0] at h0
        have hsp := cell_spot h0
        obtain ⟨bk, o, sp⟩ := A
        simp only at hsp
        subst hsp
        have hbk : bk < w.heap.size := hz _ q4
        have hc : ∀ (j : Nat) (x : ByteArray), (l.map T)[j]? = some x → w.cell? ⟨bk, o + j, none⟩ = some (.string x) := fun j x hx => by
          have := hcell j x hx
          rwa [addr_add] at this
        have := Try.strings_Join bk o cap (l.map T) .empty w hc hbk (by simpa using hn) (by simpa using q1) (by rw [hj]; exact hl)
        rw [hj] at this
        simpa using this
theorem joined_ok (l : List (List UInt8)) (hl : l.flatten.length ≤ 140737488355328) (hn : l.length ≤ 140737488355328) : PCall Try.prog 44 [enc1 S (l.map T)] (S (T l.flatten)) := by
  refine PCall.mk (fun _ => false) Try.func44 rfl rfl rfl (Ent.mk Try.func44 (by kernel_rfl) rfl) (by simp) (by simp) fun hfit => ?_
  simp [Try.f44]
  refine AInv.pure (join_ok l hl hn) rfl ?_
  simp
theorem text_ok (s : List UInt8) (hs : s.length ≤ 1099511627776) : PCall Try.prog 35 [S (T s)] (S (T (textL s))) := by
  refine PCall.mk (fun _ => false) Try.func35 rfl rfl rfl (Ent.mk Try.func35 (by kernel_rfl) rfl) (by simp) (by simp) fun hfit => ?_
  simp [Try.f35, T_size]
  have e : (s.length : Int) % 18446744073709551616 = (s.length : Int) := by omega
  rw [e]
  refine AInv.pure (num_ok s.length (by omega)) rfl ?_
  simp
  have h10 := numL_10 (n := s.length) (by omega)
  refine AInv.give [] (joined_ok [numL s.length, s] (by simp; omega) (by simp)) ?_ ?_
  · simp
  · simp [textL]
theorem takeNum_ok (l : List UInt8) (hl : l.length ≤ 1099511627776) : PCall Try.prog 14 [S (T l)] (.tup [U (takeS l).1, S (T (takeS l).2.1), I (takeS l).2.2]) := by
  refine PCall.mk (fun _ => false) Try.func14 rfl rfl rfl (Ent.mk Try.func14 (by kernel_rfl) rfl) (by simp) (by simp) fun hfit => ?_
  simp [Try.f14]
  refine AW.loopG (lit := fun _ => false) (fun x : Nat × Nat => ⟨51, pat [(0, S (T l)), (5, U x.2), (6, I x.1)], []⟩) (fun x => 10 - x.1) (fun x => x.1 ≤ l.length ∧ x.1 ≤ 10 ∧ (l.take x.1).all hi = true ∧ (x.1 ≤ 9 → x.2 = valL (l.take x.1))) (0, 0) ?_ ?_ ?_
  · exact Wk.at _ rfl rfl (by simp)
  · simp [valL]
  rintro ⟨i, n⟩ ⟨h1, h2, h3, h4⟩ A hA
  simp only at h1 h2 h3 h4
  simp [T_size]
  by_cases hi1 : i < l.length
  case neg =>
    have : l.take i = l := List.take_of_length_le (by omega)
    rw [this] at h3
    by_cases h10 : i = 10
    · simp [hi1, h10, takeS_all h3, show 10 ≤ l.length by omega, show ¬ 10 < l.length by omega]
    · simp [hi1, h10, takeS_all h3, show ¬ 10 ≤ l.length by omega]
  by_cases hi2 : i < 10
  case neg =>
    have h10 : i = 10 := by omega
    have e := takeS_many (r := l.drop i) h3 (by simp; omega)
    rw [List.take_append_drop] at e
    subst h10
    simp [hi1, e]
  have hn := h4 (by omega)
  have hlt : n < 128 ^ i := by have := valL_lt (l.take i); rw [← hn] at this; simpa [show min i l.length = i by omega] using this
  have hb := byteAt_T l i hi1
  have hc := (l[i]).toNat_lt
  have hw : IntKind.i64.wrap (7 * (i : Int)) = ((7 * i : Nat) : Int) := by rw [wrap_id (by omega) (by omega)]; omega
  have hw2 : IntKind.i64.wrap ((i : Int) + 1) = ((i + 1 : Nat) : Int) := by rw [wrap_id (by omega) (by omega)]; omega
  have ho := or_step (c := (l[i]).toNat) (at_ := i) (by omega) hlt
  have hand : bAnd .u8 ((l[i]).toNat : Int) 127 = (((l[i]).toNat &&& 127 : Nat) : Int) := by
    rw [bAnd_nat (.inl rfl) (by omega) (by simp [IntKind.bits]; omega) (by omega) (by simp [IntKind.bits])]; rfl
  have hand2 : (((l[i]).toNat &&& 127 : Nat) : Int) % 18446744073709551616 = (((l[i]).toNat &&& 127 : Nat) : Int) := by
    have := and127 (l[i]).toNat
    omega
  have hN : i ≤ 8 ∨ (l[i]).toNat ≤ 1 → n + (l[i]).toNat % 128 * 128 ^ i % 18446744073709551616 = valL (l.take i ++ [l[i]]) := by
    intro h
    rw [valL_snoc, ← hn]
    have e : (l.take i).length = i := by simp; omega
    rw [e]
    congr 1
    apply Nat.mod_eq_of_lt
    rcases h with h | h
    · have h1 : (128 : Nat) ^ i ≤ 128 ^ 8 := Nat.pow_le_pow_right (by omega) h
      have h2 : (l[i]).toNat % 128 * 128 ^ i ≤ 127 * 128 ^ 8 := Nat.mul_le_mul (by omega) h1
      have : (128 : Nat) ^ 8 = 72057594037927936 := by decide
      omega
    · have h1 : (128 : Nat) ^ i ≤ 128 ^ 9 := Nat.pow_le_pow_right (by omega) (by omega)
      have h2 : (l[i]).toNat % 128 * 128 ^ i ≤ 1 * 128 ^ 9 := Nat.mul_le_mul (by omega) h1
      have : (128 : Nat) ^ 9 = 9223372036854775808 := by decide
      omega
  have hN2 : n + (l[i]).toNat % 128 * 128 ^ i % 18446744073709551616 < 36893488147419103232 := by
    have : 128 ^ i ≤ 128 ^ 9 := Nat.pow_le_pow_right (by omega) (by omega)
    have e9 : (128 : Nat) ^ 9 = 9223372036854775808 := by decide
    omega
  generalize n + (l[i]).toNat % 128 * 128 ^ i % 18446744073709551616 = N at *
  have ht : (7 * (i : Int)).toNat = 7 * i := by omega
  have hneg : ¬ 7 * (i : Int) < 0 := by omega
  simp [hi1, hi2, T_size, hb, hand, hand2, hw, hw2, hneg, ht, ho]
  have hs := split_at l i hi1
  have hlen : (l.take i).length = i := by simp; omega
  by_cases hc128 : (l[i]).toNat < 128
  · have e := takeS_at (r := l.drop (i + 1)) h3 hc128
    rw [← hs, hlen] at e
    rw [if_neg (by omega)] at e
    have w1 : ((i : Int) + 1).toNat = i + 1 := by omega
    have fin : (T l).extract (i + 1) l.length = T (l.drop (i + 1)) := by
      rw [T_ext]; simp
    by_cases q : (1 ≤ i ∧ (l[i]).toNat = 0) ∨ (i = 9 ∧ 1 < (l[i]).toNat)
    · rw [if_pos q] at e
      simp [hc128, e]
      try simp
      repeat' (first
        | ((first | refine Tst.go (fun hw_ ew_ => ?_) (fun hw_ ew_ => ?_)) <;> first | (exfalso; first | omega | with_reducible exact hw_ (by assumption) | with_reducible exact absurd hw_ (by assumption)) | (have nw_ := Nw.nw hw_; simp [ew_, nw_]) | simp [ew_])
        | ((first | refine AW.draw (id := 10) Try.checked.mixed (fun _ => false) [] [] 7 (by kernel_rfl) ?_ | rw [if_pos (by first | omega | (simp only [maxLen]; omega))] | rw [if_neg (by first | omega | (simp only [maxLen]; omega))] | rw [frzOwn_neat (by simp) (by simp <;> omega)] | rw [fzOwn_neat (by simp) (by simp <;> omega)]); try simp)
        | ((first | refine TstB.go (fun hw_ ew_ => ?_) (fun hw_ ew_ => ?_)) <;> first | (exfalso; first | omega | with_reducible exact hw_ (by assumption) | with_reducible exact absurd hw_ (by assumption)) | simp [ew_])
        | fail)
    · rw [if_neg q] at e
      have hv := hN (by omega)
      rw [← List.take_succ_eq_append_getElem hi1] at hv e
      rw [← hv] at e
      simp [hc128, e]
      try simp [w1, fin, T_size]
      repeat' (first
        | ((first | refine Tst.go (fun hw_ ew_ => ?_) (fun hw_ ew_ => ?_)) <;> first | (exfalso; first | omega | with_reducible exact hw_ (by assumption) | with_reducible exact absurd hw_ (by assumption)) | (have nw_ := Nw.nw hw_; simp [ew_, nw_, w1, fin, T_size]) | simp [ew_, w1, fin, T_size])
        | ((first | refine AW.draw (id := 10) Try.checked.mixed (fun _ => false) [] [] 7 (by kernel_rfl) ?_ | rw [if_pos (by first | omega | (simp only [maxLen]; omega))] | rw [if_neg (by first | omega | (simp only [maxLen]; omega))] | rw [frzOwn_neat (by simp) (by simp <;> omega)] | rw [fzOwn_neat (by simp) (by simp <;> omega)]); try simp [w1, fin, T_size])
        | ((first | refine TstB.go (fun hw_ ew_ => ?_) (fun hw_ ew_ => ?_)) <;> first | (exfalso; first | omega | with_reducible exact hw_ (by assumption) | with_reducible exact absurd hw_ (by assumption)) | simp [ew_, w1, fin, T_size])
        | fail)
  · have := hA (i + 1, N)
    simp [hc128]
    refine this _ (Wk.at _ rfl rfl (by simp)) ⟨by omega, by omega, ?_, ?_⟩ (by simp only; omega)
    · rw [List.take_succ_eq_append_getElem hi1, List.all_append, h3]
      simp [hi]; omega
    · intro h9
      rw [List.take_succ_eq_append_getElem hi1]
      exact hN (by simp only at h9; omega)
theorem takeText_ok (l : List UInt8) (most : Int) (hm : inI most) (hl : l.length ≤ 1099511627776) : PCall Try.prog 40 [S (T l), I most] (.tup [S (T (takeTextS l most).1), S (T (takeTextS l most).2.1), I (takeTextS l most).2.2]) := by
  refine PCall.mk (fun _ => false) Try.func40 rfl rfl rfl (Ent.mk Try.func40 (by kernel_rfl) rfl) (by simp) (by simp) fun hfit => ?_
  simp only [inI] at hm
  simp [Try.f40]
  refine AInv.pure (takeNum_ok l hl) rfl ?_
  have hlt := takeS_lt l
  have hlen : (takeS l).2.2 = 0 → (takeS l).2.1.length < l.length := takeS_len
  unfold takeTextS
  generalize takeS l = q at *
  obtain ⟨n, r, e⟩ := q
  simp only at hlt hlen
  simp
  by_cases h1 : e = 0
  case neg => simp [h1]
  have hlen := hlen h1
  have e1 : (r.length : Int) % 18446744073709551616 = r.length := by omega
  by_cases h2 : most < 0
  · simp [h1, h2]
  have e2 : most % 18446744073709551616 = most := by omega
  have f1 : (T r).extract 0 n = T (r.take n) := by rw [T_ext]; simp
  have f2 : (T r).extract n r.length = T (r.drop n) := by rw [T_ext]; simp
  simp [h1, h2, e2, e1, T_size]
  try simp [f1, f2, T_size, e1]
  repeat' (first
    | ((first | refine Tst.go (fun hw_ ew_ => ?_) (fun hw_ ew_ => ?_)) <;> first | (exfalso; first | omega | with_reducible exact hw_ (by assumption) | with_reducible exact absurd hw_ (by assumption)) | (have nw_ := Nw.nw hw_; simp [ew_, nw_, f1, f2, T_size, e1]) | simp [ew_, f1, f2, T_size, e1])
    | ((first | refine AW.draw (id := 8) Try.checked.mixed (fun _ => false) [] [] 9 (by kernel_rfl) ?_ | rw [if_pos (by first | omega | (simp only [maxLen]; omega))] | rw [if_neg (by first | omega | (simp only [maxLen]; omega))] | rw [frzOwn_neat (by simp) (by simp <;> omega)] | rw [fzOwn_neat (by simp) (by simp <;> omega)]); try simp [f1, f2, T_size, e1])
    | ((first | refine TstB.go (fun hw_ ew_ => ?_) (fun hw_ ew_ => ?_)) <;> first | (exfalso; first | omega | with_reducible exact hw_ (by assumption) | with_reducible exact absurd hw_ (by assumption)) | simp [ew_, f1, f2, T_size, e1])
    | fail)
end Go.Proofs.Ytilmfmjcemfoeaa
