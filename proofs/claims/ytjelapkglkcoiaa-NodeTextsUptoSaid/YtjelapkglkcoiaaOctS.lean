/- Numbers and texts as bytes, in plain Lean. -/
import Derived.Test.YtjelapkglkcoiaaApiN
set_option linter.unusedVariables false
set_option linter.unusedSimpArgs false
namespace Go.Cx

theorem or128 {r : Nat} (h : r < 256) : r ||| 128 = r % 128 + 128 := by
  have : ∀ r : Fin 256, (r.val ||| 128) = r.val % 128 + 128 := by decide +kernel
  exact this ⟨r, h⟩
theorem bOr128 (m : Nat) : bOr .u8 ((m : Int) % 256) 128 = ((UInt8.ofNat (m % 128 + 128)).toNat : Int) := by
  rw [bOr_nat (.inl rfl) (by omega) (by simp [IntKind.bits]; omega) (by omega) (by simp [IntKind.bits])]
  have e : ((m : Int) % 256).toNat = m % 256 := by omega
  rw [e]
  show ((m % 256 ||| 128 : Nat) : Int) = _
  rw [or128 (by omega)]
  have : (UInt8.ofNat (m % 128 + 128)).toNat = m % 128 + 128 := by simp; omega
  rw [this]; omega
/-- A number's bytes. -/
def numL (n : Nat) : List UInt8 := if h : n < 128 then [UInt8.ofNat n] else UInt8.ofNat (n % 128 + 128) :: numL (n / 128)
termination_by n
decreasing_by omega
theorem numL_lo {n : Nat} (h : n < 128) : numL n = [UInt8.ofNat n] := by rw [numL, dif_pos h]
theorem numL_hi {n : Nat} (h : ¬ n < 128) : numL n = UInt8.ofNat (n % 128 + 128) :: numL (n / 128) := by rw [numL, dif_neg h]
theorem numL_len : ∀ (k n : Nat), n < 128 ^ (k + 1) → (numL n).length ≤ k + 1
  | 0, n, h => by rw [numL_lo (by simpa using h)]; simp
  | k + 1, n, h => by
    by_cases h1 : n < 128
    · rw [numL_lo h1]; simp
    · rw [numL_hi h1, List.length_cons]
      have := numL_len k (n / 128) (by rw [Nat.div_lt_iff_lt_mul (by omega)]; rwa [← Nat.pow_succ])
      omega
theorem numL_10 {n : Nat} (h : n < 18446744073709551616) : (numL n).length ≤ 10 := numL_len 9 n (by omega)
theorem numL_pos (n : Nat) : 0 < (numL n).length := by
  by_cases h : n < 128
  · rw [numL_lo h]; simp
  · rw [numL_hi h]; simp

/-- The number that bytes tell. -/
def valL : List UInt8 → Nat
  | [] => 0
  | c :: l => c.toNat % 128 + 128 * valL l
theorem toNat_of {n : Nat} (h : n < 256) : (UInt8.ofNat n).toNat = n := by simp [Nat.mod_eq_of_lt h]
theorem valL_num (n : Nat) : valL (numL n) = n := by
  induction n using Nat.strongRecOn with
  | _ n ih =>
    by_cases h : n < 128
    · rw [numL_lo h, valL, toNat_of (by omega), valL]; omega
    · rw [numL_hi h, valL, toNat_of (by omega), ih (n / 128) (by omega)]; omega
theorem valL_lt : ∀ l : List UInt8, valL l < 128 ^ l.length
  | [] => by simp [valL]
  | c :: l => by
    have := valL_lt l
    rw [valL, List.length_cons, Nat.pow_succ]; omega
theorem valL_snoc : ∀ (l : List UInt8) (c : UInt8), valL (l ++ [c]) = valL l + c.toNat % 128 * 128 ^ l.length
  | [], c => by simp [valL]
  | d :: l, c => by
    rw [List.cons_append, valL, valL_snoc l c, valL, List.length_cons, Nat.pow_succ, Nat.mul_add, Nat.add_assoc, Nat.mul_left_comm 128, Nat.mul_comm 128 (128 ^ l.length)]

/-- High bytes ahead, and one that isn't. -/
def hi (c : UInt8) : Bool := decide (128 ≤ c.toNat)
theorem numL_form (n : Nat) : ∃ p c, numL n = p ++ [c] ∧ p.all hi = true ∧ c.toNat < 128 ∧ (p = [] ∨ c.toNat ≠ 0) := by
  induction n using Nat.strongRecOn with
  | _ n ih =>
    by_cases h : n < 128
    · exact ⟨[], UInt8.ofNat n, by rw [numL_lo h]; rfl, rfl, by rw [toNat_of (by omega)]; exact h, .inl rfl⟩
    · obtain ⟨p, c, h1, h2, h3, h4⟩ := ih (n / 128) (by omega)
      refine ⟨UInt8.ofNat (n % 128 + 128) :: p, c, by rw [numL_hi h, h1]; rfl, ?_, h3, .inr ?_⟩
      · rw [List.all_cons, h2, Bool.and_true]
        simp only [hi, toNat_of (show n % 128 + 128 < 256 by omega), decide_eq_true_eq]; omega
      · rcases h4 with rfl | h4
        · have := valL_num (n / 128)
          rw [h1] at this
          simp [valL] at this
          omega
        · exact h4
/-- Such bytes are the number's that they tell. -/
theorem num_valL : ∀ (p : List UInt8) (c : UInt8), p.all hi = true → c.toNat < 128 → (p = [] ∨ c.toNat ≠ 0) → numL (valL (p ++ [c])) = p ++ [c]
  | [], c, _, hc, _ => by
    have e : valL ([] ++ [c]) = c.toNat := by simp [valL]; omega
    rw [e, numL_lo hc]
    simp
  | d :: p, c, hp, hc, h0 => by
    rw [List.all_cons, Bool.and_eq_true] at hp
    have hd : 128 ≤ d.toNat := by simpa [hi] using hp.1
    have hd2 := d.toNat_lt
    have hc0 : c.toNat ≠ 0 := h0.resolve_left (by simp)
    have ih := num_valL p c hp.2 hc (.inr hc0)
    have hpos : 0 < valL (p ++ [c]) := by
      rw [valL_snoc]
      have : 0 < 128 ^ p.length := Nat.pow_pos (by omega)
      have : 0 < c.toNat % 128 * 128 ^ p.length := Nat.mul_pos (by omega) this
      omega
    rw [List.cons_append, valL, numL_hi (by omega)]
    have e1 : (d.toNat % 128 + 128 * valL (p ++ [c])) / 128 = valL (p ++ [c]) := by omega
    have e2 : (d.toNat % 128 + 128 * valL (p ++ [c])) % 128 + 128 = d.toNat := by omega
    rw [e1, e2, ih]
    congr 1
    apply UInt8.toNat_inj.1
    rw [toNat_of hd2]

/-- What is taken of bytes: a number, what is left, why not. -/
def takeS (s : List UInt8) : Nat × List UInt8 × Int :=
  match s.dropWhile hi with
  | [] => if 10 ≤ (s.takeWhile hi).length then (0, [], 3) else (0, [], 2)
  | c :: r => if 10 ≤ (s.takeWhile hi).length then (0, [], 3) else if (1 ≤ (s.takeWhile hi).length ∧ c.toNat = 0) ∨ ((s.takeWhile hi).length = 9 ∧ 1 < c.toNat) then (0, [], 3) else (valL (s.takeWhile hi ++ [c]), r, 0)
/-- High bytes, and one that isn't, ahead. -/
theorem takeS_at {p : List UInt8} {c : UInt8} {r : List UInt8} (hp : p.all hi = true) (hc : c.toNat < 128) : takeS (p ++ c :: r) = if 10 ≤ p.length then (0, [], 3) else if (1 ≤ p.length ∧ c.toNat = 0) ∨ (p.length = 9 ∧ 1 < c.toNat) then (0, [], 3) else (valL (p ++ [c]), r, 0) := by
  have hc : hi c = false := by simp [hi]; omega
  have e1 : (p ++ c :: r).takeWhile hi = p := by
    rw [List.takeWhile_append_of_pos (by simpa using hp)]
    simp [List.takeWhile, hc]
  have e2 : (p ++ c :: r).dropWhile hi = c :: r := by
    rw [List.dropWhile_append_of_pos (by simpa using hp)]
    simp [List.dropWhile, hc]
  unfold takeS
  rw [e1, e2]
theorem takeS_all {p : List UInt8} (hp : p.all hi = true) : takeS p = if 10 ≤ p.length then (0, [], 3) else (0, [], 2) := by
  have e1 : p.takeWhile hi = p := by
    have := List.takeWhile_append_of_pos (p := hi) (l₁ := p) (l₂ := []) (by simpa using hp)
    simpa using this
  have e2 : p.dropWhile hi = [] := by
    have := List.dropWhile_append_of_pos (p := hi) (l₁ := p) (l₂ := []) (by simpa using hp)
    simpa using this
  unfold takeS
  rw [e1, e2]
theorem takeS_many {p r : List UInt8} (hp : p.all hi = true) (hl : 10 ≤ p.length) : takeS (p ++ r) = (0, [], 3) := by
  have e1 : 10 ≤ ((p ++ r).takeWhile hi).length := by
    rw [List.takeWhile_append_of_pos (by simpa using hp), List.length_append]; omega
  unfold takeS
  split
  · rw [if_pos e1]
  · rw [if_pos e1]
theorem takeS_num {n : Nat} (h : n < 18446744073709551616) (r : List UInt8) : takeS (numL n ++ r) = (n, r, 0) := by
  obtain ⟨p, c, h1, h2, h3, h4⟩ := numL_form n
  have hl := numL_10 h
  rw [h1] at hl
  simp only [List.length_append, List.length_singleton] at hl
  have e0 : numL n ++ r = p ++ c :: r := by rw [h1]; simp
  rw [e0, takeS_at h2 h3, if_neg (by omega), ← h1, valL_num, if_neg]
  rintro (⟨a, b⟩ | ⟨a, b⟩)
  · rcases h4 with h4 | h4
    · rw [h4] at a; simp at a
    · exact h4 b
  · have e := valL_num n
    rw [h1, valL_snoc, a] at e
    have e2 : c.toNat % 128 = c.toNat := by omega
    rw [e2] at e
    have : (128 : Nat) ^ 9 = 9223372036854775808 := by decide
    rw [this] at e
    omega
theorem split_hi (s : List UInt8) : (s.all hi = true) ∨ ∃ p c r, s = p ++ c :: r ∧ p.all hi = true ∧ c.toNat < 128 := by
  induction s with
  | nil => exact .inl rfl
  | cons a s ih =>
    by_cases ha : hi a = true
    · rcases ih with h | ⟨p, c, r, rfl, h1, h2⟩
      · left; rw [List.all_cons, ha, h]; rfl
      · exact .inr ⟨a :: p, c, r, rfl, by rw [List.all_cons, ha, h1]; rfl, h2⟩
    · exact .inr ⟨[], a, s, rfl, rfl, by simpa [hi] using ha⟩
/-- What is taken was told so. -/
theorem takeS_ok {s r : List UInt8} {n : Nat} (h : takeS s = (n, r, 0)) : s = numL n ++ r ∧ n < 18446744073709551616 := by
  rcases split_hi s with hs | ⟨p, c, q, rfl, h1, hc⟩
  · rw [takeS_all hs] at h
    split at h <;> simp at h
  · rw [takeS_at h1 hc] at h
    split at h
    · simp at h
    · split at h
      · simp at h
      · rename_i h3 h4
        simp only [Prod.mk.injEq, and_true] at h
        obtain ⟨rfl, rfl⟩ := h
        refine ⟨?_, ?_⟩
        · rw [num_valL p c h1 hc]
          · simp
          · rcases Nat.eq_zero_or_pos p.length with h0 | h0
            · exact .inl (List.eq_nil_of_length_eq_zero h0)
            · right; intro hc0; exact h4 (.inl ⟨h0, hc0⟩)
        · by_cases h9 : p.length = 9
          · have hc1 : c.toNat ≤ 1 := by
              false_or_by_contra
              exact h4 (.inr ⟨h9, by omega⟩)
            have := valL_lt p
            rw [h9] at this
            have e9 : (128 : Nat) ^ 9 = 9223372036854775808 := by decide
            rw [valL_snoc, h9, e9]
            rw [e9] at this
            have h1 : c.toNat % 128 ≤ 1 := by omega
            have := Nat.mul_le_mul_right 9223372036854775808 h1
            omega
          · have hl := valL_lt (p ++ [c])
            have : 128 ^ (p ++ [c]).length ≤ 128 ^ 9 := Nat.pow_le_pow_right (by omega) (by simp; omega)
            have e9 : (128 : Nat) ^ 9 = 9223372036854775808 := by decide
            omega

/-- A number with a sign, without. -/
def foldS (n : Int) : Nat := if 0 ≤ n then (2 * n).toNat else (-2 * n - 1).toNat
def unfoldS (n : Nat) : Int := if n % 2 = 0 then (n / 2 : Nat) else -((n / 2 : Nat) : Int) - 1
theorem unfold_fold (n : Int) : unfoldS (foldS n) = n := by
  unfold foldS unfoldS
  split
  · rw [if_pos (by omega)]; omega
  · rw [if_neg (by omega)]; omega
theorem fold_unfold (n : Nat) : foldS (unfoldS n) = n := by
  unfold foldS unfoldS
  split
  · rw [if_pos (by omega)]; omega
  · rw [if_neg (by omega)]; omega
theorem foldS_lt {n : Int} (h : inI n) : foldS n < 18446744073709551616 := by
  simp only [inI] at h
  unfold foldS
  split <;> omega
theorem unfoldS_in {n : Nat} (h : n < 18446744073709551616) : inI (unfoldS n) := by
  simp only [inI]
  unfold unfoldS
  split <;> omega
theorem xor_ones {a : Nat} (h : a < 18446744073709551616) : a ^^^ 18446744073709551615 = 18446744073709551615 - a := by
  have e := congrArg BitVec.toNat (BitVec.xor_allOnes (x := BitVec.ofNat 64 a))
  rw [BitVec.toNat_xor, BitVec.toNat_not, BitVec.toNat_allOnes, BitVec.toNat_ofNat] at e
  have e2 : a % 2 ^ 64 = a := Nat.mod_eq_of_lt (by omega)
  rw [e2] at e
  simpa using e
theorem fold_eq {n : Int} (h : inI n) : bXor .u64 ((n % 18446744073709551616 * 2) % 18446744073709551616) (n.fdiv 9223372036854775808 % 18446744073709551616) = (foldS n : Int) := by
  simp only [inI] at h
  rw [bXor_nat (.inr (.inr rfl)) (by omega) (by simp [IntKind.bits]; omega) (by omega) (by simp [IntKind.bits]; omega)]
  rw [Int.fdiv_eq_ediv_of_nonneg _ (by omega)]
  unfold foldS
  by_cases h0 : 0 ≤ n
  · rw [if_pos h0]
    have e1 : (n / 9223372036854775808 % 18446744073709551616).toNat = 0 := by omega
    rw [e1, Nat.xor_zero]
    omega
  · rw [if_neg h0]
    have e1 : (n / 9223372036854775808 % 18446744073709551616).toNat = 18446744073709551615 := by omega
    rw [e1, xor_ones (by omega)]
    omega
theorem ofInt_neg1 : (BitVec.ofInt 64 (-1)).toNat = 18446744073709551615 := by decide
theorem unfold_eq {n : Nat} (h : n < 18446744073709551616) : bXor .i64 (IntKind.i64.wrap ((n / 2 : Nat) : Int)) (IntKind.i64.wrap (0 - IntKind.i64.wrap ((n &&& 1 : Nat) : Int))) = unfoldS n := by
  have e1 : IntKind.i64.wrap ((n / 2 : Nat) : Int) = ((n / 2 : Nat) : Int) := wrap_id (by omega) (by omega)
  have e2 : n &&& 1 = n % 2 := Nat.and_two_pow_sub_one_eq_mod n 1
  rw [e1, e2]
  unfold unfoldS bXor
  have e3 : IntKind.i64.bits = 64 := rfl
  rw [e3, BitVec.toNat_xor, ofInt_nat (w := 64) (by omega) (by omega)]
  by_cases h0 : n % 2 = 0
  · rw [if_pos h0, h0]
    have : IntKind.i64.wrap (0 - IntKind.i64.wrap ((0 : Nat) : Int)) = 0 := by decide
    rw [this]
    have : (BitVec.ofInt 64 0).toNat = 0 := by decide
    rw [this, Nat.xor_zero]
    rw [wrap_id (by omega) (by omega)]; omega
  · have h1 : n % 2 = 1 := by omega
    rw [if_neg h0, h1]
    have : IntKind.i64.wrap (0 - IntKind.i64.wrap ((1 : Nat) : Int)) = -1 := by decide
    rw [this, ofInt_neg1, xor_ones (by omega)]
    rw [IntKind.wrap_i64]; omega

/-- A text's bytes. -/
def textL (s : List UInt8) : List UInt8 := numL s.length ++ s
def takeTextS (s : List UInt8) (most : Int) : List UInt8 × List UInt8 × Int :=
  if (takeS s).2.2 ≠ 0 then ([], [], (takeS s).2.2)
  else if most < 0 ∨ most < ((takeS s).1 : Int) then ([], [], 5)
  else if (takeS s).2.1.length < (takeS s).1 then ([], [], 2)
  else ((takeS s).2.1.take (takeS s).1, (takeS s).2.1.drop (takeS s).1, 0)
theorem takeS_lt (s : List UInt8) : (takeS s).1 < 18446744073709551616 := by
  by_cases h : (takeS s).2.2 = 0
  · have : takeS s = ((takeS s).1, (takeS s).2.1, 0) := by rw [← h]
    exact (takeS_ok this).2
  · unfold takeS at *
    split
    · split <;> simp
    · split
      · simp
      · split
        · simp
        · rename_i h1 h2 h3
          simp [h1, h2, h3] at h
theorem takeS_len {s : List UInt8} (h : (takeS s).2.2 = 0) : (takeS s).2.1.length < s.length := by
  have : takeS s = ((takeS s).1, (takeS s).2.1, 0) := by rw [← h]
  have e := congrArg List.length (takeS_ok this).1
  have := numL_pos (takeS s).1
  rw [List.length_append] at e
  omega
theorem takeS_form (s : List UInt8) : (takeS s).2.2 = 0 ∨ (takeS s = (0, [], 3)) ∨ takeS s = (0, [], 2) := by
  unfold takeS
  split
  · split <;> simp
  · split
    · simp
    · split <;> simp
theorem byteAt_T (l : List UInt8) (i : Nat) (h : i < l.length) : byteAt (T l) i = (l[i]).toNat := by
  simp [byteAt, List.getD_eq_getElem?_getD, h]
theorem split_at (l : List UInt8) (i : Nat) (h : i < l.length) : l = l.take i ++ l[i] :: l.drop (i + 1) := by
  rw [← List.drop_eq_getElem_cons h, List.take_append_drop]
/-- One more of a number's seven bits. -/
theorem or_step {n at_ : Nat} {c : Nat} (ha : at_ ≤ 9) (hn : n < 128 ^ at_) : bOr .u64 (n : Int) (((c &&& 127 : Nat) : Int) * 2 ^ (min (7 * at_) 64) % 18446744073709551616) = ((n + c % 128 * 128 ^ at_ % 18446744073709551616 : Nat) : Int) := by
  have e1 : min (7 * at_) 64 = 7 * at_ := by omega
  have e2 : (128 : Nat) ^ at_ = 2 ^ (7 * at_) := by rw [Nat.pow_mul]
  have hle : (2 : Nat) ^ (7 * at_) ≤ 2 ^ 63 := Nat.pow_le_pow_right (by omega) (by omega)
  have hn64 : n < 18446744073709551616 := by rw [e2] at hn; omega
  rw [e1, and127, e2]
  have e3 : (((c % 128 : Nat) : Int) * 2 ^ (7 * at_) % 18446744073709551616) = ((c % 128 * 2 ^ (7 * at_) % 18446744073709551616 : Nat) : Int) := by
    simp only [Int.natCast_emod, Int.natCast_mul, Int.natCast_pow]; rfl
  rw [e3, bOr_nat (.inr (.inr rfl)) (by omega) (by simp [IntKind.bits]; omega) (by omega) (by simp [IntKind.bits]; omega)]
  rw [Int.toNat_natCast, Int.toNat_natCast]
  congr 1
  -- what is left of the product is a number of that many halves
  have e4 : c % 128 * 2 ^ (7 * at_) % 18446744073709551616 = c % 128 % 2 ^ (64 - 7 * at_) * 2 ^ (7 * at_) := by
    have : (18446744073709551616 : Nat) = 2 ^ (64 - 7 * at_) * 2 ^ (7 * at_) := by rw [← Nat.pow_add, show 64 - 7 * at_ + 7 * at_ = 64 by omega]
    rw [this, Nat.mul_mod_mul_right]
  rw [e4]
  rw [e2] at hn
  exact or_shl hn
/-- Bytes are their number's just if they are laid so. -/
theorem canon {q : List UInt8} {c : UInt8} (hq : q.all hi = true) (hc : c.toNat < 128) (hl : q.length ≤ 9) : numL (valL (q ++ [c]) % 18446744073709551616) = q ++ [c] ↔ ¬ ((1 ≤ q.length ∧ c.toNat = 0) ∨ (q.length = 9 ∧ 1 < c.toNat)) := by
  have e9 : (128 : Nat) ^ 9 = 9223372036854775808 := by decide
  constructor
  · intro h hbad
    have hv := valL_num (valL (q ++ [c]) % 18446744073709551616)
    rw [h] at hv
    rcases hbad with ⟨h1, h2⟩ | ⟨h1, h2⟩
    · obtain ⟨p, d, f1, f2, f3, f4⟩ := numL_form (valL (q ++ [c]) % 18446744073709551616)
      rw [h] at f1
      have := List.append_inj f1 (by have := congrArg List.length f1; simp at this; exact this)
      obtain ⟨rfl, hd⟩ := this
      injection hd with hd
      subst hd
      rcases f4 with rfl | f4
      · simp at h1
      · exact f4 h2
    · rw [valL_snoc, h1, e9] at hv
      have : c.toNat % 128 = c.toNat := by omega
      rw [this] at hv
      omega
  · intro h
    have hlt : valL (q ++ [c]) < 18446744073709551616 := by
      by_cases h9 : q.length = 9
      · have h1 := valL_lt q
        rw [h9, e9] at h1
        rw [valL_snoc, h9, e9]
        have : c.toNat % 128 ≤ 1 := by omega
        have := Nat.mul_le_mul_right 9223372036854775808 this
        omega
      · have h1 := valL_lt (q ++ [c])
        have : 128 ^ (q ++ [c]).length ≤ 128 ^ 9 := Nat.pow_le_pow_right (by omega) (by simp; omega)
        omega
    rw [Nat.mod_eq_of_lt hlt]
    refine num_valL q c hq hc ?_
    rcases Nat.eq_zero_or_pos q.length with h0 | h0
    · exact .inl (List.eq_nil_of_length_eq_zero h0)
    · right; intro h1; exact h (.inl ⟨h0, h1⟩)
theorem canon_lt {q : List UInt8} {c : UInt8} (hl : q.length ≤ 9) (h : ¬ ((1 ≤ q.length ∧ c.toNat = 0) ∨ (q.length = 9 ∧ 1 < c.toNat))) : valL (q ++ [c]) % 18446744073709551616 = valL (q ++ [c]) := by
  have e9 : (128 : Nat) ^ 9 = 9223372036854775808 := by decide
  apply Nat.mod_eq_of_lt
  by_cases h9 : q.length = 9
  · have h1 := valL_lt q
    rw [h9, e9] at h1
    rw [valL_snoc, h9, e9]
    have : c.toNat % 128 ≤ 1 := by omega
    have := Nat.mul_le_mul_right 9223372036854775808 this
    omega
  · have h1 := valL_lt (q ++ [c])
    have : 128 ^ (q ++ [c]).length ≤ 128 ^ 9 := Nat.pow_le_pow_right (by omega) (by simp; omega)
    omega
theorem valL_drop (l : List UInt8) (k : Nat) (h : k < l.length) : valL (l.drop k) = (l[k]).toNat % 128 + 128 * valL (l.drop (k + 1)) := by
  rw [List.drop_eq_getElem_cons h, valL]
end Go.Cx
