/- Numbers and texts as bytes, in plain Lean. Names and rows of entries, in plain Lean. Nodes' texts, in plain Lean. Beginnings of nodes' texts, in plain Lean. Rows that rise by a number: searched, put into, taken out of; in plain Lean. -/
import Derived.Test.YtilmfmjcemfoeaaBe
import Derived.Lib.Bytealg
set_option linter.unusedVariables false
set_option linter.unusedSimpArgs false
namespace Go.Cx

theorem or128 {r : Nat} (h : r < 256) : r ||| 128 = r % 128 + 128 := by
  have : ∀ r : Fin 256, (r.val ||| 128) = r.val % 128 + 128 := by decide +kernel
  exact this ⟨r, h⟩
theorem bOr128 (m : Nat) : bOr .u8 ((m : Int) % 256) 128 = ((UInt8.ofNat (m % 128 + 128)).toNat : Int) := by
  rw [bOr_nat (.inl rfl) (by omega) (by simp [IntKind.bits]; omega) (by omega) (by simp [IntKind.bits])]
  have e : ((m : Int) % 256).toNat = m % 256 := by omega
  rw [e]
  show ((m % 256 ||| 128 : Nat) : Int) = _
  rw [or128 (by omega)]
  have : (UInt8.ofNat (m % 128 + 128)).toNat = m % 128 + 128 := by simp; omega
  rw [this]; omega
/-- A number's bytes. -/
def numL (n : Nat) : List UInt8 := if h : n < 128 then [UInt8.ofNat n] else UInt8.ofNat (n % 128 + 128) :: numL (n / 128)
termination_by n
decreasing_by omega
theorem numL_lo {n : Nat} (h : n < 128) : numL n = [UInt8.ofNat n] := by rw [numL, dif_pos h]
theorem numL_hi {n : Nat} (h : ¬ n < 128) : numL n = UInt8.ofNat (n % 128 + 128) :: numL (n / 128) := by rw [numL, dif_neg h]
theorem numL_len : ∀ (k n : Nat), n < 128 ^ (k + 1) → (numL n).length ≤ k + 1
  | 0, n, h => by rw [numL_lo (by simpa using h)]; simp
  | k + 1, n, h => by
    by_cases h1 : n < 128
    · rw [numL_lo h1]; simp
    · rw [numL_hi h1, List.length_cons]
      have := numL_len k (n / 128) (by rw [Nat.div_lt_iff_lt_mul (by omega)]; rwa [← Nat.pow_succ])
      omega
theorem numL_10 {n : Nat} (h : n < 18446744073709551616) : (numL n).length ≤ 10 := numL_len 9 n (by omega)
theorem numL_pos (n : Nat) : 0 < (numL n).length := by
  by_cases h : n < 128
  · rw [numL_lo h]; simp
  · rw [numL_hi h]; simp

/-- The number that bytes tell. -/
def valL : List UInt8 → Nat
  | [] => 0
  | c :: l => c.toNat % 128 + 128 * valL l
theorem toNat_of {n : Nat} (h : n < 256) : (UInt8.ofNat n).toNat = n := by simp [Nat.mod_eq_of_lt h]
theorem valL_num (n : Nat) : valL (numL n) = n := by
  induction n using Nat.strongRecOn with
  | _ n ih =>
    by_cases h : n < 128
    · rw [numL_lo h, valL, toNat_of (by omega), valL]; omega
    · rw [numL_hi h, valL, toNat_of (by omega), ih (n / 128) (by omega)]; omega
theorem valL_lt : ∀ l : List UInt8, valL l < 128 ^ l.length
  | [] => by simp [valL]
  | c :: l => by
    have := valL_lt l
    rw [valL, List.length_cons, Nat.pow_succ]; omega
theorem valL_snoc : ∀ (l : List UInt8) (c : UInt8), valL (l ++ [c]) = valL l + c.toNat % 128 * 128 ^ l.length
  | [], c => by simp [valL]
  | d :: l, c => by
    rw [List.cons_append, valL, valL_snoc l c, valL, List.length_cons, Nat.pow_succ, Nat.mul_add, Nat.add_assoc, Nat.mul_left_comm 128, Nat.mul_comm 128 (128 ^ l.length)]

/-- High bytes ahead, and one that isn't. -/
def hi (c : UInt8) : Bool := decide (128 ≤ c.toNat)
theorem numL_form (n : Nat) : ∃ p c, numL n = p ++ [c] ∧ p.all hi = true ∧ c.toNat < 128 ∧ (p = [] ∨ c.toNat ≠ 0) := by
  induction n using Nat.strongRecOn with
  | _ n ih =>
    by_cases h : n < 128
    · exact ⟨[], UInt8.ofNat n, by rw [numL_lo h]; rfl, rfl, by rw [toNat_of (by omega)]; exact h, .inl rfl⟩
    · obtain ⟨p, c, h1, h2, h3, h4⟩ := ih (n / 128) (by omega)
      refine ⟨UInt8.ofNat (n % 128 + 128) :: p, c, by rw [numL_hi h, h1]; rfl, ?_, h3, .inr ?_⟩
      · rw [List.all_cons, h2, Bool.and_true]
        simp only [hi, toNat_of (show n % 128 + 128 < 256 by omega), decide_eq_true_eq]; omega
      · rcases h4 with rfl | h4
        · have := valL_num (n / 128)
          rw [h1] at this
          simp [valL] at this
          omega
        · exact h4
/-- Such bytes are the number's that they tell. -/
theorem num_valL : ∀ (p : List UInt8) (c : UInt8), p.all hi = true → c.toNat < 128 → (p = [] ∨ c.toNat ≠ 0) → numL (valL (p ++ [c])) = p ++ [c]
  | [], c, _, hc, _ => by
    have e : valL ([] ++ [c]) = c.toNat := by simp [valL]; omega
    rw [e, numL_lo hc]
    simp
  | d :: p, c, hp, hc, h0 => by
    rw [List.all_cons, Bool.and_eq_true] at hp
    have hd : 128 ≤ d.toNat := by simpa [hi] using hp.1
    have hd2 := d.toNat_lt
    have hc0 : c.toNat ≠ 0 := h0.resolve_left (by simp)
    have ih := num_valL p c hp.2 hc (.inr hc0)
    have hpos : 0 < valL (p ++ [c]) := by
      rw [valL_snoc]
      have : 0 < 128 ^ p.length := Nat.pow_pos (by omega)
      have : 0 < c.toNat % 128 * 128 ^ p.length := Nat.mul_pos (by omega) this
      omega
    rw [List.cons_append, valL, numL_hi (by omega)]
    have e1 : (d.toNat % 128 + 128 * valL (p ++ [c])) / 128 = valL (p ++ [c]) := by omega
    have e2 : (d.toNat % 128 + 128 * valL (p ++ [c])) % 128 + 128 = d.toNat := by omega
    rw [e1, e2, ih]
    congr 1
    apply UInt8.toNat_inj.1
    rw [toNat_of hd2]

/-- What is taken of bytes: a number, what is left, why not. -/
def takeS (s : List UInt8) : Nat × List UInt8 × Int :=
  match s.dropWhile hi with
  | [] => if 10 ≤ (s.takeWhile hi).length then (0, [], 3) else (0, [], 2)
  | c :: r => if 10 ≤ (s.takeWhile hi).length then (0, [], 3) else if (1 ≤ (s.takeWhile hi).length ∧ c.toNat = 0) ∨ ((s.takeWhile hi).length = 9 ∧ 1 < c.toNat) then (0, [], 3) else (valL (s.takeWhile hi ++ [c]), r, 0)
/-- High bytes, and one that isn't, ahead. -/
theorem takeS_at {p : List UInt8} {c : UInt8} {r : List UInt8} (hp : p.all hi = true) (hc : c.toNat < 128) : takeS (p ++ c :: r) = if 10 ≤ p.length then (0, [], 3) else if (1 ≤ p.length ∧ c.toNat = 0) ∨ (p.length = 9 ∧ 1 < c.toNat) then (0, [], 3) else (valL (p ++ [c]), r, 0) := by
  have hc : hi c = false := by simp [hi]; omega
  have e1 : (p ++ c :: r).takeWhile hi = p := by
    rw [List.takeWhile_append_of_pos (by simpa using hp)]
    simp [List.takeWhile, hc]
  have e2 : (p ++ c :: r).dropWhile hi = c :: r := by
    rw [List.dropWhile_append_of_pos (by simpa using hp)]
    simp [List.dropWhile, hc]
  unfold takeS
  rw [e1, e2]
theorem takeS_all {p : List UInt8} (hp : p.all hi = true) : takeS p = if 10 ≤ p.length then (0, [], 3) else (0, [], 2) := by
  have e1 : p.takeWhile hi = p := by
    have := List.takeWhile_append_of_pos (p := hi) (l₁ := p) (l₂ := []) (by simpa using hp)
    simpa using this
  have e2 : p.dropWhile hi = [] := by
    have := List.dropWhile_append_of_pos (p := hi) (l₁ := p) (l₂ := []) (by simpa using hp)
    simpa using this
  unfold takeS
  rw [e1, e2]
theorem takeS_many {p r : List UInt8} (hp : p.all hi = true) (hl : 10 ≤ p.length) : takeS (p ++ r) = (0, [], 3) := by
  have e1 : 10 ≤ ((p ++ r).takeWhile hi).length := by
    rw [List.takeWhile_append_of_pos (by simpa using hp), List.length_append]; omega
  unfold takeS
  split
  · rw [if_pos e1]
  · rw [if_pos e1]
theorem takeS_num {n : Nat} (h : n < 18446744073709551616) (r : List UInt8) : takeS (numL n ++ r) = (n, r, 0) := by
  obtain ⟨p, c, h1, h2, h3, h4⟩ := numL_form n
  have hl := numL_10 h
  rw [h1] at hl
  simp only [List.length_append, List.length_singleton] at hl
  have e0 : numL n ++ r = p ++ c :: r := by rw [h1]; simp
  rw [e0, takeS_at h2 h3, if_neg (by omega), ← h1, valL_num, if_neg]
  rintro (⟨a, b⟩ | ⟨a, b⟩)
  · rcases h4 with h4 | h4
    · rw [h4] at a; simp at a
    · exact h4 b
  · have e := valL_num n
    rw [h1, valL_snoc, a] at e
    have e2 : c.toNat % 128 = c.toNat := by omega
    rw [e2] at e
    have : (128 : Nat) ^ 9 = 9223372036854775808 := by decide
    rw [this] at e
    omega
theorem split_hi (s : List UInt8) : (s.all hi = true) ∨ ∃ p c r, s = p ++ c :: r ∧ p.all hi = true ∧ c.toNat < 128 := by
  induction s with
  | nil => exact .inl rfl
  | cons a s ih =>
    by_cases ha : hi a = true
    · rcases ih with h | ⟨p, c, r, rfl, h1, h2⟩
      · left; rw [List.all_cons, ha, h]; rfl
      · exact .inr ⟨a :: p, c, r, rfl, by rw [List.all_cons, ha, h1]; rfl, h2⟩
    · exact .inr ⟨[], a, s, rfl, rfl, by simpa [hi] using ha⟩
/-- What is taken was told so. -/
theorem takeS_ok {s r : List UInt8} {n : Nat} (h : takeS s = (n, r, 0)) : s = numL n ++ r ∧ n < 18446744073709551616 := by
  rcases split_hi s with hs | ⟨p, c, q, rfl, h1, hc⟩
  · rw [takeS_all hs] at h
    split at h <;> simp at h
  · rw [takeS_at h1 hc] at h
    split at h
    · simp at h
    · split at h
      · simp at h
      · rename_i h3 h4
        simp only [Prod.mk.injEq, and_true] at h
        obtain ⟨rfl, rfl⟩ := h
        refine ⟨?_, ?_⟩
        · rw [num_valL p c h1 hc]
          · simp
          · rcases Nat.eq_zero_or_pos p.length with h0 | h0
            · exact .inl (List.eq_nil_of_length_eq_zero h0)
            · right; intro hc0; exact h4 (.inl ⟨h0, hc0⟩)
        · by_cases h9 : p.length = 9
          · have hc1 : c.toNat ≤ 1 := by
              false_or_by_contra
              exact h4 (.inr ⟨h9, by omega⟩)
            have := valL_lt p
            rw [h9] at this
            have e9 : (128 : Nat) ^ 9 = 9223372036854775808 := by decide
            rw [valL_snoc, h9, e9]
            rw [e9] at this
            have h1 : c.toNat % 128 ≤ 1 := by omega
            have := Nat.mul_le_mul_right 9223372036854775808 h1
            omega
          · have hl := valL_lt (p ++ [c])
            have : 128 ^ (p ++ [c]).length ≤ 128 ^ 9 := Nat.pow_le_pow_right (by omega) (by simp; omega)
            have e9 : (128 : Nat) ^ 9 = 9223372036854775808 := by decide
            omega

/-- A number with a sign, without. -/
def foldS (n : Int) : Nat := if 0 ≤ n then (2 * n).toNat else (-2 * n - 1).toNat
def unfoldS (n : Nat) : Int := if n % 2 = 0 then (n / 2 : Nat) else -((n / 2 : Nat) : Int) - 1
theorem unfold_fold (n : Int) : unfoldS (foldS n) = n := by
  unfold foldS unfoldS
  split
  · rw [if_pos (by omega)]; omega
  · rw [if_neg (by omega)]; omega
theorem fold_unfold (n : Nat) : foldS (unfoldS n) = n := by
  unfold foldS unfoldS
  split
  · rw [if_pos (by omega)]; omega
  · rw [if_neg (by omega)]; omega
theorem foldS_lt {n : Int} (h : inI n) : foldS n < 18446744073709551616 := by
  simp only [inI] at h
  unfold foldS
  split <;> omega
theorem unfoldS_in {n : Nat} (h : n < 18446744073709551616) : inI (unfoldS n) := by
  simp only [inI]
  unfold unfoldS
  split <;> omega
theorem xor_ones {a : Nat} (h : a < 18446744073709551616) : a ^^^ 18446744073709551615 = 18446744073709551615 - a := by
  have e := congrArg BitVec.toNat (BitVec.xor_allOnes (x := BitVec.ofNat 64 a))
  rw [BitVec.toNat_xor, BitVec.toNat_not, BitVec.toNat_allOnes, BitVec.toNat_ofNat] at e
  have e2 : a % 2 ^ 64 = a := Nat.mod_eq_of_lt (by omega)
  rw [e2] at e
  simpa using e
theorem fold_eq {n : Int} (h : inI n) : bXor .u64 ((n % 18446744073709551616 * 2) % 18446744073709551616) (n.fdiv 9223372036854775808 % 18446744073709551616) = (foldS n : Int) := by
  simp only [inI] at h
  rw [bXor_nat (.inr (.inr rfl)) (by omega) (by simp [IntKind.bits]; omega) (by omega) (by simp [IntKind.bits]; omega)]
  rw [Int.fdiv_eq_ediv_of_nonneg _ (by omega)]
  unfold foldS
  by_cases h0 : 0 ≤ n
  · rw [if_pos h0]
    have e1 : (n / 9223372036854775808 % 18446744073709551616).toNat = 0 := by omega
    rw [e1, Nat.xor_zero]
    omega
  · rw [if_neg h0]
    have e1 : (n / 9223372036854775808 % 18446744073709551616).toNat = 18446744073709551615 := by omega
    rw [e1, xor_ones (by omega)]
    omega
theorem ofInt_neg1 : (BitVec.ofInt 64 (-1)).toNat = 18446744073709551615 := by decide
theorem unfold_eq {n : Nat} (h : n < 18446744073709551616) : bXor .i64 (IntKind.i64.wrap ((n / 2 : Nat) : Int)) (IntKind.i64.wrap (0 - IntKind.i64.wrap ((n &&& 1 : Nat) : Int))) = unfoldS n := by
  have e1 : IntKind.i64.wrap ((n / 2 : Nat) : Int) = ((n / 2 : Nat) : Int) := wrap_id (by omega) (by omega)
  have e2 : n &&& 1 = n % 2 := Nat.and_two_pow_sub_one_eq_mod n 1
  rw [e1, e2]
  unfold unfoldS bXor
  have e3 : IntKind.i64.bits = 64 := rfl
  rw [e3, BitVec.toNat_xor, ofInt_nat (w := 64) (by omega) (by omega)]
  by_cases h0 : n % 2 = 0
  · rw [if_pos h0, h0]
    have : IntKind.i64.wrap (0 - IntKind.i64.wrap ((0 : Nat) : Int)) = 0 := by decide
    rw [this]
    have : (BitVec.ofInt 64 0).toNat = 0 := by decide
    rw [this, Nat.xor_zero]
    rw [wrap_id (by omega) (by omega)]; omega
  · have h1 : n % 2 = 1 := by omega
    rw [if_neg h0, h1]
    have : IntKind.i64.wrap (0 - IntKind.i64.wrap ((1 : Nat) : Int)) = -1 := by decide
    rw [this, ofInt_neg1, xor_ones (by omega)]
    rw [IntKind.wrap_i64]; omega

/-- A text's bytes. -/
def textL (s : List UInt8) : List UInt8 := numL s.length ++ s
def takeTextS (s : List UInt8) (most : Int) : List UInt8 × List UInt8 × Int :=
  if (takeS s).2.2 ≠ 0 then ([], [], (takeS s).2.2)
  else if most < 0 ∨ most < ((takeS s).1 : Int) then ([], [], 5)
  else if (takeS s).2.1.length < (takeS s).1 then ([], [], 2)
  else ((takeS s).2.1.take (takeS s).1, (takeS s).2.1.drop (takeS s).1, 0)
theorem takeS_lt (s : List UInt8) : (takeS s).1 < 18446744073709551616 := by
  by_cases h : (takeS s).2.2 = 0
  · have : takeS s = ((takeS s).1, (takeS s).2.1, 0) := by rw [← h]
    exact (takeS_ok this).2
  · unfold takeS at *
    split
    · split <;> simp
    · split
      · simp
      · split
        · simp
        · rename_i h1 h2 h3
          simp [h1, h2, h3] at h
theorem takeS_len {s : List UInt8} (h : (takeS s).2.2 = 0) : (takeS s).2.1.length < s.length := by
  have : takeS s = ((takeS s).1, (takeS s).2.1, 0) := by rw [← h]
  have e := congrArg List.length (takeS_ok this).1
  have := numL_pos (takeS s).1
  rw [List.length_append] at e
  omega
theorem takeS_form (s : List UInt8) : (takeS s).2.2 = 0 ∨ (takeS s = (0, [], 3)) ∨ takeS s = (0, [], 2) := by
  unfold takeS
  split
  · split <;> simp
  · split
    · simp
    · split <;> simp
theorem byteAt_T (l : List UInt8) (i : Nat) (h : i < l.length) : byteAt (T l) i = (l[i]).toNat := by
  simp [byteAt, List.getD_eq_getElem?_getD, h]
theorem split_at (l : List UInt8) (i : Nat) (h : i < l.length) : l = l.take i ++ l[i] :: l.drop (i + 1) := by
  rw [← List.drop_eq_getElem_cons h, List.take_append_drop]
/-- One more of a number's seven bits. -/
theorem or_step {n at_ : Nat} {c : Nat} (ha : at_ ≤ 9) (hn : n < 128 ^ at_) : bOr .u64 (n : Int) (((c &&& 127 : Nat) : Int) * 2 ^ (min (7 * at_) 64) % 18446744073709551616) = ((n + c % 128 * 128 ^ at_ % 18446744073709551616 : Nat) : Int) := by
  have e1 : min (7 * at_) 64 = 7 * at_ := by omega
  have e2 : (128 : Nat) ^ at_ = 2 ^ (7 * at_) := by rw [Nat.pow_mul]
  have hle : (2 : Nat) ^ (7 * at_) ≤ 2 ^ 63 := Nat.pow_le_pow_right (by omega) (by omega)
  have hn64 : n < 18446744073709551616 := by rw [e2] at hn; omega
  rw [e1, and127, e2]
  have e3 : (((c % 128 : Nat) : Int) * 2 ^ (7 * at_) % 18446744073709551616) = ((c % 128 * 2 ^ (7 * at_) % 18446744073709551616 : Nat) : Int) := by
    simp only [Int.natCast_emod, Int.natCast_mul, Int.natCast_pow]; rfl
  rw [e3, bOr_nat (.inr (.inr rfl)) (by omega) (by simp [IntKind.bits]; omega) (by omega) (by simp [IntKind.bits]; omega)]
  rw [Int.toNat_natCast, Int.toNat_natCast]
  congr 1
  -- what is left of the product is a number of that many halves
  have e4 : c % 128 * 2 ^ (7 * at_) % 18446744073709551616 = c % 128 % 2 ^ (64 - 7 * at_) * 2 ^ (7 * at_) := by
    have : (18446744073709551616 : Nat) = 2 ^ (64 - 7 * at_) * 2 ^ (7 * at_) := by rw [← Nat.pow_add, show 64 - 7 * at_ + 7 * at_ = 64 by omega]
    rw [this, Nat.mul_mod_mul_right]
  rw [e4]
  rw [e2] at hn
  exact or_shl hn
/-- Bytes are their number's just if they are laid so. -/
theorem canon {q : List UInt8} {c : UInt8} (hq : q.all hi = true) (hc : c.toNat < 128) (hl : q.length ≤ 9) : numL (valL (q ++ [c]) % 18446744073709551616) = q ++ [c] ↔ ¬ ((1 ≤ q.length ∧ c.toNat = 0) ∨ (q.length = 9 ∧ 1 < c.toNat)) := by
  have e9 : (128 : Nat) ^ 9 = 9223372036854775808 := by decide
  constructor
  · intro h hbad
    have hv := valL_num (valL (q ++ [c]) % 18446744073709551616)
    rw [h] at hv
    rcases hbad with ⟨h1, h2⟩ | ⟨h1, h2⟩
    · obtain ⟨p, d, f1, f2, f3, f4⟩ := numL_form (valL (q ++ [c]) % 18446744073709551616)
      rw [h] at f1
      have := List.append_inj f1 (by have := congrArg List.length f1; simp at this; exact this)
      obtain ⟨rfl, hd⟩ := this
      injection hd with hd
      subst hd
      rcases f4 with rfl | f4
      · simp at h1
      · exact f4 h2
    · rw [valL_snoc, h1, e9] at hv
      have : c.toNat % 128 = c.toNat := by omega
      rw [this] at hv
      omega
  · intro h
    have hlt : valL (q ++ [c]) < 18446744073709551616 := by
      by_cases h9 : q.length = 9
      · have h1 := valL_lt q
        rw [h9, e9] at h1
        rw [valL_snoc, h9, e9]
        have : c.toNat % 128 ≤ 1 := by omega
        have := Nat.mul_le_mul_right 9223372036854775808 this
        omega
      · have h1 := valL_lt (q ++ [c])
        have : 128 ^ (q ++ [c]).length ≤ 128 ^ 9 := Nat.pow_le_pow_right (by omega) (by simp; omega)
        omega
    rw [Nat.mod_eq_of_lt hlt]
    refine num_valL q c hq hc ?_
    rcases Nat.eq_zero_or_pos q.length with h0 | h0
    · exact .inl (List.eq_nil_of_length_eq_zero h0)
    · right; intro h1; exact h (.inl ⟨h0, h1⟩)
theorem canon_lt {q : List UInt8} {c : UInt8} (hl : q.length ≤ 9) (h : ¬ ((1 ≤ q.length ∧ c.toNat = 0) ∨ (q.length = 9 ∧ 1 < c.toNat))) : valL (q ++ [c]) % 18446744073709551616 = valL (q ++ [c]) := by
  have e9 : (128 : Nat) ^ 9 = 9223372036854775808 := by decide
  apply Nat.mod_eq_of_lt
  by_cases h9 : q.length = 9
  · have h1 := valL_lt q
    rw [h9, e9] at h1
    rw [valL_snoc, h9, e9]
    have : c.toNat % 128 ≤ 1 := by omega
    have := Nat.mul_le_mul_right 9223372036854775808 this
    omega
  · have h1 := valL_lt (q ++ [c])
    have : 128 ^ (q ++ [c]).length ≤ 128 ^ 9 := Nat.pow_le_pow_right (by omega) (by simp; omega)
    omega
theorem valL_drop (l : List UInt8) (k : Nat) (h : k < l.length) : valL (l.drop k) = (l[k]).toNat % 128 + 128 * valL (l.drop (k + 1)) := by
  rw [List.drop_eq_getElem_cons h, valL]
end Go.Cx

set_option linter.unusedVariables false
set_option linter.unusedSimpArgs false
namespace Go.Cx

/-- A name that may be. -/
def nameOk (s : ByteArray) : Bool := decide (1 ≤ s.size) && decide (s.size ≤ 32) && !decide (s = T [46]) && !decide (s = T [46, 46]) && !s.data.toList.contains 47 && !s.data.toList.contains 0
def checkS (s : ByteArray) : Int := if nameOk s then 0 else 10
@[simp] theorem checkS_eq (s : ByteArray) : (checkS s = 0) = (nameOk s = true) := by
  unfold checkS; cases nameOk s <;> simp
/-- The entries rise, and are right, one behind the other. -/
def entsOk : Option ByteArray → List EntryR → Bool
  | _, [] => true
  | p, x :: l => nameOk x.name && decide (1 ≤ x.ino) && (p.map fun q => strLt q x.name).getD true && entsOk (some x.name) l
def prevAt (l : List EntryR) (i : Nat) : Option ByteArray := if i = 0 then none else (l[i - 1]?).map (·.name)
def rowOk (l : List EntryR) : Bool := decide (l.length ≤ 256) && entsOk none l
theorem entsOk_at (l : List EntryR) (i : Nat) (h : i < l.length) : entsOk (prevAt l i) (l.drop i) = (nameOk l[i].name && decide (1 ≤ l[i].ino) && ((prevAt l i).map fun q => strLt q l[i].name).getD true && entsOk (prevAt l (i + 1)) (l.drop (i + 1))) := by
  have e : prevAt l (i + 1) = some l[i].name := by simp [prevAt, h]
  rw [List.drop_eq_getElem_cons h, entsOk, e]
theorem entsOk_end (l : List EntryR) (i : Nat) (h : l.length ≤ i) : entsOk (prevAt l i) (l.drop i) = true := by
  rw [List.drop_eq_nil_of_le h, entsOk]

theorem indexByte_in (l : List UInt8) (c : UInt8) : (0 ≤ Lib.indexByte l c) = (l.contains c = true) := by
  apply propext
  induction l with
  | nil => simp [Lib.indexByte]
  | cons b l ih =>
    have h := Lib.indexByte_ge l c
    unfold Lib.indexByte
    rw [List.contains_cons]
    by_cases hb : b = c
    · subst hb; simp
    · have hb' : (b == c) = false := by simpa using hb
      have hc' : (c == b) = false := by simpa using fun e : c = b => hb e.symm
      rw [hb', hc', Bool.false_or, ← ih]
      simp only [Bool.false_eq_true, if_false]
      by_cases h1 : Lib.indexByte l c = -1
      · rw [h1]; decide
      · have : (Lib.indexByte l c == -1) = false := by simpa using h1
        rw [this]
        simp only [Bool.false_eq_true, if_false]
        omega
theorem contains_at (l : List UInt8) (c : UInt8) : l.contains c = true ↔ ∃ i, ∃ h : i < l.length, l[i] = c := by
  simp [List.contains_iff_mem, List.mem_iff_getElem]
theorem name_yes {s : ByteArray} (h : nameOk s = true) : (1 ≤ s.size ∧ s.size ≤ 32) ∧ ¬ s = T [46] ∧ ¬ s = T [46, 46] ∧ ¬ s = .empty ∧ s.data.toList.contains 47 = false ∧ s.data.toList.contains 0 = false := by
  simp only [nameOk, Bool.and_eq_true, decide_eq_true_eq, Bool.not_eq_true', decide_eq_false_iff_not] at h
  obtain ⟨⟨⟨⟨⟨h1, h2⟩, h3⟩, h4⟩, h5⟩, h6⟩ := h
  refine ⟨⟨h1, h2⟩, h3, h4, ?_, h5, h6⟩
  rintro rfl
  simp at h1
theorem name_no {s : ByteArray} (h : nameOk s = false) : s = .empty ∨ 32 < s.size ∨ s = T [46] ∨ s = T [46, 46] ∨ s.data.toList.contains 47 = true ∨ s.data.toList.contains 0 = true := by
  by_cases h0 : s.size = 0
  · left; exact ByteArray.ext (Array.eq_empty_of_size_eq_zero h0)
  right
  by_cases h1 : 32 < s.size
  · exact .inl h1
  right
  by_cases h2 : s = T [46]
  · exact .inl h2
  right
  by_cases h3 : s = T [46, 46]
  · exact .inl h3
  right
  by_cases h4 : s.data.toList.contains 47 = true
  · exact .inl h4
  right
  false_or_by_contra
  rename_i h5
  have : nameOk s = true := by
    have h4' : s.data.toList.contains 47 = false := by cases h : s.data.toList.contains 47 <;> simp_all
    have h5' : s.data.toList.contains 0 = false := by cases h : s.data.toList.contains 0 <;> simp_all
    simp only [nameOk, h4', h5', decide_eq_true (show 1 ≤ s.size by omega), decide_eq_true (show s.size ≤ 32 by omega), decide_eq_false h2, decide_eq_false h3]
    rfl
  rw [this] at h
  cases h
theorem byteAt_get (s : ByteArray) (i : Nat) (h : i < s.size) : byteAt s i = (s.data.toList[i]'(by simpa using h)).toNat := by
  have hl : i < s.data.toList.length := by simpa using h
  unfold byteAt
  rw [List.getD_eq_getElem?_getD, List.getElem?_eq_getElem hl]; rfl
theorem lt_step {p : Nat → Prop} {i : Nat} (h : ∀ j, j < i → p j) (hi : p i) : ∀ j, j < i + 1 → p j := by
  intro j hj
  rcases Nat.lt_or_ge j i with h1 | h1
  · exact h j h1
  · have : j = i := by omega
    subst this; exact hi
theorem contains_byte (s : ByteArray) (c : UInt8) : s.data.toList.contains c = true ↔ ∃ i, i < s.size ∧ byteAt s i = c.toNat := by
  rw [contains_at]
  constructor
  · rintro ⟨i, h, e⟩
    have h' : i < s.size := by simpa using h
    exact ⟨i, h', by rw [byteAt_get s i h', e]⟩
  · rintro ⟨i, h, e⟩
    rw [byteAt_get s i h] at e
    exact ⟨i, by simpa using h, UInt8.toNat_inj.1 e⟩
end Go.Cx

set_option linter.unusedVariables false
set_option linter.unusedSimpArgs false
namespace Go.Cx

abbrev bs (b : ByteArray) : List UInt8 := b.data.toList
@[simp] theorem T_bs (b : ByteArray) : T (bs b) = b := by cases b; simp [T]
@[simp] theorem T_toList (b : ByteArray) : T b.data.toList = b := T_bs b
@[simp] theorem bs_T (l : List UInt8) : bs (T l) = l := by simp [T, bs]
@[simp] theorem len_bs (b : ByteArray) : (bs b).length = b.size := by simp [bs]

def EntryR.vals (c : EntryR) : List Value := [.string c.name, .int .i64 c.ino]
abbrev entK : List TypeDesc := [.string, .int .i64]
theorem EntryR.kinds (c : EntryR) : Kinds entK c.vals := .cons rfl (.cons rfl .nil)
theorem EntryR.vals_eq (a b : EntryR) : a.vals = b.vals ↔ a = b := by
  cases a; cases b; simp [EntryR.vals]
section
variable {P : Program} {t : TypeId} (ox oy : Operand)
@[simp] theorem ent_neq (ht : tflat P t = some entK) (hg : tagg P t = some true) (a b : EntryR) : abin P .neq t ox oy (.agg a.enc) (.agg b.enc) = some (.val (.bool (!decide (a = b)))) := by
  have := (bin_agg ht hg a.kinds b.kinds ox oy).2
  have e : decide (a.vals = b.vals) = decide (a = b) := by rw [decide_eq_decide]; exact EntryR.vals_eq a b
  rw [e] at this; exact this
end
abbrev encN (n : NodeR) : AV := .agg n.enc
/-- A number with a sign. -/
abbrev whl (n : Int) : List UInt8 := numL (foldS n)
def entL (x : EntryR) : List UInt8 := textL (bs x.name) ++ whl x.ino
def headL (n : NodeR) : List UInt8 := whl n.ino ++ whl n.kind ++ whl n.links ++ (textL (bs n.text) ++ numL n.l.length)
def nodeL (n : NodeR) : List UInt8 := headL n ++ n.l.flatMap entL
def nodeOk (n : NodeR) : Bool := decide (1 ≤ n.ino) && decide (1 ≤ n.kind) && decide (n.kind ≤ 3) && decide (0 ≤ n.links) && decide (n.links ≤ 64) && decide (n.text.size ≤ 4096) && rowOk n.l && (decide (n.kind ≠ 2) || decide (n.text = T [])) && (decide (n.kind = 2) || decide (n.l.length = 0))
def sizeS (n : NodeR) : Int := if n.kind = 2 then n.l.length else n.text.size

/-- What is left of a text; why nothing can be taken any more. -/
abbrev Rst := List UInt8 × Int
def numR (r : Rst) : Nat × Rst := if r.2 = 0 then takeS r.1 else (0, r)
def textR (r : Rst) (most : Int) : List UInt8 × Rst := if r.2 = 0 then takeTextS r.1 most else ([], r)
theorem takeS_len' (s : List UInt8) : (takeS s).2.1.length ≤ s.length := by
  rcases takeS_form s with h | h | h
  · exact Nat.le_of_lt (takeS_len h)
  · rw [h]; simp
  · rw [h]; simp
theorem numR_len (r : Rst) : (numR r).2.1.length ≤ r.1.length := by
  unfold numR; split
  · exact takeS_len' _
  · simp
theorem textR_len (r : Rst) (most : Int) : (textR r most).2.1.length ≤ r.1.length := by
  unfold textR; split
  · unfold takeTextS
    have := takeS_len' r.1
    split
    · simp
    · split
      · simp
      · split
        · simp
        · simp; omega
  · simp
theorem numR_lt (r : Rst) : (numR r).1 < 18446744073709551616 := by
  unfold numR; split
  · exact takeS_lt _
  · simp
def entStep (a : List EntryR × Rst) : List EntryR × Rst := (a.1 ++ [⟨T (textR a.2 32).1, unfoldS (numR (textR a.2 32).2).1⟩], (numR (textR a.2 32).2).2)
def entsAt (r : Rst) : Nat → List EntryR × Rst
  | 0 => ([], r)
  | k + 1 => entStep (entsAt r k)
theorem entsAt_len (r : Rst) (k : Nat) : (entsAt r k).1.length = k := by
  induction k with
  | zero => rfl
  | succ k ih => simp [entsAt, entStep, ih]
theorem entsAt_rest (r : Rst) (k : Nat) : (entsAt r k).2.1.length ≤ r.1.length := by
  induction k with
  | zero => exact Nat.le_refl _
  | succ k ih =>
    have h1 := textR_len (entsAt r k).2 32
    have h2 := numR_len (textR (entsAt r k).2 32).2
    simp only [entsAt, entStep]
    omega
theorem entsAt_bad {r : Rst} {i : Nat} (h : (entsAt r i).2.2 ≠ 0) (j : Nat) (hj : i ≤ j) : (entsAt r j).2 = (entsAt r i).2 := by
  induction j with
  | zero =>
    have : i = 0 := by omega
    subst this; rfl
  | succ j ih =>
    rcases Nat.lt_or_ge j i with h1 | h1
    · have : i = j + 1 := by omega
      subst this; rfl
    · have e := ih h1
      have h' : (entsAt r j).2.2 ≠ 0 := by rw [e]; exact h
      simp only [entsAt, entStep, textR, numR, e, if_neg h]
def takeK (a b c t m : Nat × Rst) : Unit := ()
structure Hd where
  (ino kind links : Int) (text : List UInt8) (many : Nat) (r : Rst)
def headR (s : List UInt8) : Hd :=
  let a := numR (s, 0); let b := numR a.2; let c := numR b.2; let t := textR c.2 4096; let m := numR t.2
  ⟨unfoldS a.1, unfoldS b.1, unfoldS c.1, t.1, m.1, (m.2.1, if m.2.2 = 0 ∧ 256 < m.1 then 5 else m.2.2)⟩
def Hd.node (h : Hd) (l : List EntryR) : NodeR := ⟨h.ino, h.kind, h.links, T h.text, l⟩
/-- What is taken: a node, what is left, why not. -/
def takeN (s : List UInt8) : NodeR × List UInt8 × Int :=
  let h := headR s
  if h.r.2 ≠ 0 then (.zero, [], h.r.2) else
  let q := entsAt h.r h.many
  if q.2.2 ≠ 0 then (.zero, [], q.2.2) else
  if nodeOk (h.node q.1) = true then (h.node q.1, q.2.1, 0) else (.zero, [], 3)

/-! what is taken is what was told -/
theorem numR_ok {r q : Rst} {n : Nat} (h : numR r = (n, q)) (hq : q.2 = 0) : r.1 = numL n ++ q.1 ∧ r.2 = 0 := by
  unfold numR at h
  split at h
  · rename_i h0
    obtain ⟨q1, q2⟩ := q
    simp only at hq; subst hq
    exact ⟨(takeS_ok h).1, h0⟩
  · rename_i h0
    simp only [Prod.mk.injEq] at h
    rw [← h.2] at hq
    exact absurd hq h0
theorem numR_num {n : Nat} (h : n < 18446744073709551616) (r : List UInt8) : numR (numL n ++ r, 0) = (n, (r, 0)) := by
  simp only [numR, if_true]; exact takeS_num h r
theorem textR_ok {r q : Rst} {t : List UInt8} {most : Int} (h : textR r most = (t, q)) (hq : q.2 = 0) : r.1 = textL t ++ q.1 ∧ r.2 = 0 ∧ (t.length : Int) ≤ most := by
  unfold textR at h
  split at h
  · rename_i h0
    unfold takeTextS at h
    split at h
    · rename_i h1; rw [← (Prod.mk.inj h).2] at hq; exact absurd hq h1
    · rename_i h1
      split at h
      · rw [← (Prod.mk.inj h).2] at hq; simp at hq
      · split at h
        · rw [← (Prod.mk.inj h).2] at hq; simp at hq
        · rename_i h2 h3
          have h1 : (takeS r.1).2.2 = 0 := by simpa using h1
          obtain ⟨rfl, rfl⟩ := Prod.mk.inj h
          have e := (takeS_ok (s := r.1) (r := (takeS r.1).2.1) (n := (takeS r.1).1) (by rw [← h1])).1
          refine ⟨?_, h0, ?_⟩
          · have e3 : min (takeS r.1).1 (takeS r.1).2.1.length = (takeS r.1).1 := by omega
            simp only [textL, List.length_take, List.append_assoc, e3, List.take_append_drop]
            exact e
          · rw [List.length_take]; omega
  · rename_i h0
    rw [← (Prod.mk.inj h).2] at hq; exact absurd hq h0
theorem textR_text {t : List UInt8} {most : Int} (h : (t.length : Int) ≤ most) (hl : t.length < 18446744073709551616) (r : List UInt8) : textR (textL t ++ r, 0) most = (t, (r, 0)) := by
  simp only [textR, if_true, takeTextS, textL, List.append_assoc]
  rw [takeS_num hl]
  simp only [ne_eq, not_true_eq_false, if_false]
  rw [if_neg (by omega), if_neg (by simp)]
  simp
theorem numR_ok' {r : Rst} (h : (numR r).2.2 = 0) : r.1 = numL (numR r).1 ++ (numR r).2.1 ∧ r.2 = 0 := numR_ok (n := (numR r).1) (q := (numR r).2) rfl h
theorem textR_ok' {r : Rst} {most : Int} (h : (textR r most).2.2 = 0) : r.1 = textL (textR r most).1 ++ (textR r most).2.1 ∧ r.2 = 0 ∧ ((textR r most).1.length : Int) ≤ most := textR_ok (t := (textR r most).1) (q := (textR r most).2) rfl h
/-- Entries, one behind the other. -/
theorem entsAt_ok {r : Rst} : ∀ (k : Nat), (entsAt r k).2.2 = 0 → r.2 = 0 ∧ r.1 = (entsAt r k).1.flatMap entL ++ (entsAt r k).2.1
  | 0, h => ⟨h, by simp [entsAt]⟩
  | k + 1, h => by
    simp only [entsAt, entStep] at h ⊢
    obtain ⟨w1, w2⟩ := numR_ok (r := (textR (entsAt r k).2 32).2) (q := (numR (textR (entsAt r k).2 32).2).2) (n := (numR (textR (entsAt r k).2 32).2).1) rfl h
    obtain ⟨t1, t2, _⟩ := textR_ok (r := (entsAt r k).2) (q := (textR (entsAt r k).2 32).2) (t := (textR (entsAt r k).2 32).1) rfl w2
    obtain ⟨i1, i2⟩ := entsAt_ok k t2
    refine ⟨i1, ?_⟩
    rw [i2, t1, w1]
    simp [entL, whl, fold_unfold]
theorem entsAt_ents (l : List EntryR) (r : List UInt8) (hl : ∀ x ∈ l, x.name.size ≤ 32 ∧ inI x.ino) : ∀ k, k ≤ l.length → entsAt (l.flatMap entL ++ r, 0) k = (l.take k, ((l.drop k).flatMap entL ++ r, 0))
  | 0, _ => by simp [entsAt]
  | k + 1, h => by
    rw [entsAt, entsAt_ents l r hl k (by omega), entStep]
    have hk : k < l.length := by omega
    obtain ⟨h1, h2⟩ := hl l[k] (List.getElem_mem hk)
    have e1 : (l.drop k).flatMap entL ++ r = textL (bs (l[k]).name) ++ (numL (foldS (l[k]).ino) ++ ((l.drop (k + 1)).flatMap entL ++ r)) := by
      rw [List.drop_eq_getElem_cons hk, List.flatMap_cons]; simp [entL, whl]
    simp only [e1]
    rw [textR_text (by simp; omega) (by simp; omega), numR_num (foldS_lt h2)]
    simp [unfold_fold]
    rw [List.take_succ_eq_append_getElem hk]

/-- The row's bounds. -/
theorem rowOk_at {l : List EntryR} (h : rowOk l = true) : l.length ≤ 256 ∧ ∀ x ∈ l, nameOk x.name = true ∧ 1 ≤ x.ino := by
  simp only [rowOk, Bool.and_eq_true, decide_eq_true_eq] at h
  refine ⟨h.1, ?_⟩
  have : ∀ (l : List EntryR) (p : Option ByteArray), entsOk p l = true → ∀ x ∈ l, nameOk x.name = true ∧ 1 ≤ x.ino := by
    intro l
    induction l with
    | nil => intro p _ x hx; simp at hx
    | cons y l ih =>
      intro p hp x hx
      simp only [entsOk, Bool.and_eq_true, decide_eq_true_eq] at hp
      rcases List.mem_cons.1 hx with rfl | hx
      · exact hp.1.1
      · exact ih _ hp.2 x hx
  exact this l none h.2
structure NOk (n : NodeR) : Prop where
  ino : 1 ≤ n.ino
  k1 : 1 ≤ n.kind
  k3 : n.kind ≤ 3
  l0 : 0 ≤ n.links
  l64 : n.links ≤ 64
  size : n.text.size ≤ 4096
  row : rowOk n.l = true
  dir : n.kind = 2 → n.text = T []
  els : n.kind ≠ 2 → n.l.length = 0
theorem nodeOk_iff (n : NodeR) : nodeOk n = true ↔ NOk n := by
  simp only [nodeOk, Bool.and_eq_true, Bool.or_eq_true, decide_eq_true_eq]
  constructor
  · rintro ⟨⟨⟨⟨⟨⟨⟨⟨h1, h2⟩, h3⟩, h4⟩, h5⟩, h6⟩, h7⟩, h8⟩, h9⟩
    exact ⟨h1, h2, h3, h4, h5, h6, h7, fun h => h8.resolve_left (fun h' => h' h), fun h => h9.resolve_left h⟩
  · rintro ⟨h1, h2, h3, h4, h5, h6, h7, h8, h9⟩
    refine ⟨⟨⟨⟨⟨⟨⟨⟨h1, h2⟩, h3⟩, h4⟩, h5⟩, h6⟩, h7⟩, ?_⟩, ?_⟩
    · by_cases h : n.kind = 2
      · exact .inr (h8 h)
      · exact .inl h
    · by_cases h : n.kind = 2
      · exact .inl h
      · exact .inr (h9 h)
theorem headR_head {n : NodeR} (h : NOk n) (hi : inI n.ino) (r : List UInt8) : headR (headL n ++ r) = ⟨n.ino, n.kind, n.links, bs n.text, n.l.length, (r, 0)⟩ := by
  have h2 : inI n.kind := by have := h.k1; have := h.k3; simp only [inI]; omega
  have h3 : inI n.links := by have := h.l0; have := h.l64; simp only [inI]; omega
  have h4 := (rowOk_at h.row).1
  have h5 := h.size
  have e : headL n ++ r = numL (foldS n.ino) ++ (numL (foldS n.kind) ++ (numL (foldS n.links) ++ (textL (bs n.text) ++ (numL n.l.length ++ r)))) := by simp [headL, whl]
  rw [e]
  unfold headR
  simp only [numR_num (foldS_lt hi), numR_num (foldS_lt h2), numR_num (foldS_lt h3)]
  rw [textR_text (by simp; omega) (by simp; omega)]
  simp only [numR_num (show n.l.length < 18446744073709551616 by omega), unfold_fold]
  rw [if_neg (by omega)]
theorem node_eta (n : NodeR) : (⟨n.ino, n.kind, n.links, T (bs n.text), n.l⟩ : NodeR) = n := by rw [T_bs]
/-- What a right node's text tells is taken as it was. -/
theorem takeN_node {n : NodeR} (h : nodeOk n = true) (hw : n.wf) (r : List UInt8) : takeN (nodeL n ++ r) = (n, r, 0) := by
  have h' := (nodeOk_iff n).1 h
  have hr := rowOk_at h'.row
  unfold takeN
  rw [nodeL, List.append_assoc, headR_head h' hw.1]
  have e := entsAt_ents n.l r (fun x hx => ⟨(name_yes (hr.2 x hx).1).1.2, (hw.2.2.2.2 x hx).2⟩) n.l.length (Nat.le_refl _)
  simp only [List.take_length, List.drop_length, List.flatMap_nil, List.nil_append] at e
  simp only [e, Hd.node, node_eta, h]
  simp
theorem headR_ok {s : List UInt8} {h : Hd} (e : headR s = h) (h0 : h.r.2 = 0) : s = whl h.ino ++ whl h.kind ++ whl h.links ++ (textL h.text ++ numL h.many) ++ h.r.1 ∧ h.many ≤ 256 ∧ h.text.length ≤ 4096 := by
  subst e
  simp only [headR] at h0 ⊢
  split at h0
  · simp at h0
  · rename_i hm
    have hm : (numR (textR (numR (numR (numR (s, 0)).2).2).2 4096).2).1 ≤ 256 := by
      false_or_by_contra
      exact hm ⟨h0, by omega⟩
    obtain ⟨m1, m2⟩ := numR_ok' h0
    obtain ⟨t1, t2, t3⟩ := textR_ok' m2
    obtain ⟨c1, c2⟩ := numR_ok' t2
    obtain ⟨b1, b2⟩ := numR_ok' c2
    obtain ⟨a1, a2⟩ := numR_ok' b2
    refine ⟨?_, hm, by omega⟩
    simp only [whl, fold_unfold]
    simp only at a1
    conv => lhs; rw [a1, b1, c1, t1, m1]
    simp
/-- What is taken is right, and was told so. -/
theorem takeN_ok {s r : List UInt8} {n : NodeR} (h : takeN s = (n, r, 0)) : nodeOk n = true ∧ s = nodeL n ++ r := by
  unfold takeN at h
  simp only at h
  split at h
  · rename_i h1; rw [← (Prod.mk.inj (Prod.mk.inj h).2).2] at h1; simp at h1
  rename_i h1
  split at h
  · rename_i h2; rw [← (Prod.mk.inj (Prod.mk.inj h).2).2] at h2; simp at h2
  rename_i h2
  split at h
  · rename_i h3
    have h1 : (headR s).r.2 = 0 := by simpa using h1
    have h2 : (entsAt (headR s).r (headR s).many).2.2 = 0 := by simpa using h2
    obtain ⟨rfl, hr⟩ := Prod.mk.inj h
    have hr := (Prod.mk.inj hr).1
    refine ⟨h3, ?_⟩
    obtain ⟨e1, e2, e3⟩ := headR_ok rfl h1
    have e4 := (entsAt_ok _ h2).2
    conv => lhs; rw [e1, e4, hr]
    have hl := entsAt_len (headR s).r (headR s).many
    simp only [nodeL, headL, Hd.node, hl, bs_T, List.append_assoc]
  · simp at h
/-- Two right nodes of one text are the same. -/
theorem nodeL_inj {a b : NodeR} (ha : nodeOk a = true) (hb : nodeOk b = true) (wa : a.wf) (wb : b.wf) (e : nodeL a = nodeL b) : a = b := by
  have h1 := takeN_node ha wa []
  have h2 := takeN_node hb wb []
  rw [e, h2] at h1
  exact (Prod.mk.inj h1).1.symm

theorem ents_len (B : Nat) (l : List EntryR) (h : ∀ x ∈ l, x.name.size ≤ B ∧ inI x.ino) (hB : B < 18446744073709551616) : (l.flatMap entL).length ≤ (B + 20) * l.length := by
  induction l with
  | nil => simp
  | cons x l ih =>
    have h1 := h x (by simp)
    have h2 := ih fun y hy => h y (by simp [hy])
    have h3 := numL_10 (foldS_lt h1.2)
    have h4 := numL_10 (n := x.name.size) (by omega)
    rw [List.flatMap_cons, List.length_append, List.length_cons, Nat.mul_add]
    have : (entL x).length = (numL x.name.size).length + x.name.size + (numL (foldS x.ino)).length := by simp [entL, textL, whl]; omega
    omega
theorem nodeL_len (n : NodeR) (hw : n.wf) (h : ∀ x ∈ n.l, x.name.size ≤ 32) (ht : n.text.size < 18446744073709551616) (hn : n.l.length < 18446744073709551616) : (nodeL n).length ≤ 60 + n.text.size + 52 * n.l.length := by
  have h1 := ents_len 32 n.l (fun x hx => ⟨h x hx, (hw.2.2.2.2 x hx).2⟩) (by omega)
  have h2 := numL_10 (foldS_lt hw.1)
  have h3 := numL_10 (foldS_lt hw.2.1)
  have h4 := numL_10 (foldS_lt hw.2.2.1)
  have h5 := numL_10 (n := n.text.size) ht
  have h6 := numL_10 (n := n.l.length) hn
  have : (nodeL n).length = (numL (foldS n.ino)).length + (numL (foldS n.kind)).length + (numL (foldS n.links)).length + (numL n.text.size).length + n.text.size + (numL n.l.length).length + (n.l.flatMap entL).length := by
    simp only [nodeL, headL, textL, whl, List.length_append, len_bs]; omega
  omega
theorem nodeL_small {n : NodeR} (hw : n.wf) (h : nodeOk n = true) : (nodeL n).length ≤ 20000 := by
  have h' := (nodeOk_iff n).1 h
  have hr := rowOk_at h'.row
  have h1 := h'.size
  have := nodeL_len n hw (fun x hx => (name_yes (hr.2 x hx).1).1.2) (by omega) (by omega)
  omega

theorem textR_short (r : Rst) (most : Int) (h0 : 0 ≤ most) : ((textR r most).1.length : Int) ≤ most := by
  unfold textR; split
  · unfold takeTextS
    split
    · simpa using h0
    · split
      · simpa using h0
      · split
        · simpa using h0
        · rename_i h1 h2 h3
          simp only [List.length_take]; omega
  · simpa using h0
theorem entsAt_wf (r : Rst) (k : Nat) : ∀ x ∈ (entsAt r k).1, x.wf := by
  induction k with
  | zero => simp [entsAt]
  | succ k ih =>
    intro x hx
    simp only [entsAt, entStep, List.mem_append, List.mem_singleton] at hx
    rcases hx with hx | rfl
    · exact ih x hx
    · have := textR_short (entsAt r k).2 32 (by omega)
      refine ⟨?_, unfoldS_in (numR_lt _)⟩
      simp only [T_size, maxLen]; omega
theorem takeN_wf (s : List UInt8) : (takeN s).1.wf := by
  have hz : NodeR.wf .zero := by simp [NodeR.wf, NodeR.zero, inI]
  unfold takeN
  simp only
  split
  · exact hz
  · split
    · exact hz
    · split
      · refine ⟨unfoldS_in (numR_lt _), unfoldS_in (numR_lt _), unfoldS_in (numR_lt _), ?_, entsAt_wf _ _⟩
        have := textR_short (numR (numR (numR (s, 0)).2).2).2 4096 (by omega)
        simp only [Hd.node, headR, T_size, maxLen]; omega
      · exact hz
end Go.Cx

set_option linter.unusedVariables false
set_option linter.unusedSimpArgs false
namespace Go.Cx

theorem numR_cut {k : Nat} (hk : k < 18446744073709551616) (r : List UInt8) (c : Nat) : numR ((numL k ++ r).take c, 0) = if (numL k).length ≤ c then (k, (r.take (c - (numL k).length), 0)) else (0, ([], 2)) := by
  split
  · rename_i h
    rw [List.take_append, List.take_of_length_le h]
    exact numR_num hk _
  · rename_i h
    obtain ⟨p, d, h1, h2, h3, h4⟩ := numL_form k
    have h10 := numL_10 hk
    have e : (numL k ++ r).take c = p.take c := by
      rw [h1] at h ⊢
      rw [List.length_append, List.length_singleton] at h
      rw [List.append_assoc, List.take_append_of_le_length (by omega)]
    have hl : (p.take c).length < 10 := by
      rw [h1, List.length_append, List.length_singleton] at h10
      rw [List.length_take]; omega
    have ha : (p.take c).all hi = true := by
      rw [List.all_eq_true] at h2 ⊢
      exact fun x hx => h2 x (List.mem_of_mem_take hx)
    rw [e]
    simp only [numR, if_true]
    rw [takeS_all ha, if_neg (by omega)]
theorem textR_cut {t : List UInt8} {most : Int} (hm : (t.length : Int) ≤ most) (ht : t.length < 18446744073709551616) (r : List UInt8) (c : Nat) : textR ((textL t ++ r).take c, 0) most = if (textL t).length ≤ c then (t, (r.take (c - (textL t).length), 0)) else ([], ([], 2)) := by
  split
  · rename_i h
    rw [List.take_append, List.take_of_length_le h]
    exact textR_text hm ht _
  · rename_i h
    have e := numR_cut ht (t ++ r) c
    simp only [numR, if_true] at e
    simp only [textR, if_true, takeTextS, textL, List.append_assoc, e]
    simp only [textL, List.length_append] at h
    split
    · rename_i h2
      have : (List.take (c - (numL t.length).length) (t ++ r)).length < t.length := by
        rw [List.length_take]; omega
      simp only [ne_eq, not_true_eq_false, if_false, this, if_true]
      rw [if_neg (by omega)]
    · simp
theorem numR_bad : numR ([], 2) = (0, ([], 2)) := by simp [numR]
theorem textR_bad (most : Int) : textR ([], 2) most = ([], ([], 2)) := by simp [textR]
theorem entsAt_cut (l : List EntryR) (r : List UInt8) (c : Nat) (hl : ∀ x ∈ l, x.name.size ≤ 32 ∧ inI x.ino) : ∀ k, k ≤ l.length →
    (((l.take k).flatMap entL).length ≤ c → entsAt ((l.flatMap entL ++ r).take c, 0) k = (l.take k, (((l.drop k).flatMap entL ++ r).take (c - ((l.take k).flatMap entL).length), 0))) ∧
    (c < ((l.take k).flatMap entL).length → (entsAt ((l.flatMap entL ++ r).take c, 0) k).2 = ([], 2))
  | 0, _ => by simp [entsAt]
  | k + 1, h => by
    obtain ⟨i1, i2⟩ := entsAt_cut l r c hl k (by omega)
    have hk : k < l.length := by omega
    obtain ⟨h1, h2⟩ := hl l[k] (List.getElem_mem hk)
    have e0 : (l.take (k + 1)).flatMap entL = (l.take k).flatMap entL ++ entL l[k] := by rw [List.take_succ_eq_append_getElem hk, List.flatMap_append, List.flatMap_cons, List.flatMap_nil, List.append_nil]
    have e1 : (l.drop k).flatMap entL ++ r = textL (bs (l[k]).name) ++ (numL (foldS (l[k]).ino) ++ ((l.drop (k + 1)).flatMap entL ++ r)) := by
      rw [List.drop_eq_getElem_cons hk, List.flatMap_cons]; simp [entL, whl]
    have e2 : (entL l[k]).length = (textL (bs (l[k]).name)).length + (numL (foldS (l[k]).ino)).length := by simp [entL, whl]
    rw [e0, List.length_append, e2]
    rw [entsAt]
    by_cases h0 : ((l.take k).flatMap entL).length ≤ c
    · rw [i1 h0, e1]
      simp only [entStep]
      rw [textR_cut (by simp; omega) (by simp; omega)]
      split
      · rename_i h3
        simp only
        rw [numR_cut (foldS_lt h2)]
        split
        · rename_i h4
          refine ⟨fun _ => ?_, fun hc => by omega⟩
          simp only [T_bs, unfold_fold]
          rw [List.take_succ_eq_append_getElem hk]
          rw [Nat.sub_sub, Nat.sub_sub]
        · rename_i h4
          exact ⟨fun hc => by omega, fun _ => rfl⟩
      · rename_i h3
        simp only [numR_bad]
        exact ⟨fun hc => by omega, fun _ => trivial⟩
    · have e3 := i2 (by omega)
      refine ⟨fun hc => by omega, fun _ => ?_⟩
      simp only [entStep, e3, textR_bad, numR_bad]
/-- No beginning of what a right node's text tells is taken. -/
theorem takeN_cut {n : NodeR} (h : nodeOk n = true) (hw : n.wf) (c : Nat) (hc : c < (nodeL n).length) : takeN ((nodeL n).take c) = (.zero, [], 2) := by
  have h' := (nodeOk_iff n).1 h
  have hr := rowOk_at h'.row
  have h2 : inI n.kind := by have := h'.k1; have := h'.k3; simp only [inI]; omega
  have h3 : inI n.links := by have := h'.l0; have := h'.l64; simp only [inI]; omega
  have h4 := hr.1
  have h5 := h'.size
  have e : nodeL n = numL (foldS n.ino) ++ (numL (foldS n.kind) ++ (numL (foldS n.links) ++ (textL (bs n.text) ++ (numL n.l.length ++ (n.l.flatMap entL ++ []))))) := by simp [nodeL, headL, whl]
  have hlen := congrArg List.length e
  simp only [List.length_append, List.length_nil] at hlen
  rw [e]
  unfold takeN headR
  simp only
  rw [numR_cut (foldS_lt hw.1)]
  split
  case isFalse => simp [numR_bad, textR_bad]
  rename_i c1
  simp only
  rw [numR_cut (foldS_lt h2)]
  split
  case isFalse => simp [numR_bad, textR_bad]
  rename_i c2
  simp only
  rw [numR_cut (foldS_lt h3)]
  split
  case isFalse => simp [numR_bad, textR_bad]
  rename_i c3
  simp only
  rw [textR_cut (by simp; omega) (by simp; omega)]
  split
  case isFalse => simp [numR_bad, textR_bad]
  rename_i c4
  simp only
  rw [numR_cut (by omega)]
  split
  case isFalse => simp [numR_bad, textR_bad]
  rename_i c5
  have c6 := (entsAt_cut n.l [] (c - (numL (foldS n.ino)).length - (numL (foldS n.kind)).length - (numL (foldS n.links)).length - (textL (bs n.text)).length - (numL n.l.length).length) (fun x hx => ⟨(name_yes (hr.2 x hx).1).1.2, (hw.2.2.2.2 x hx).2⟩) n.l.length (Nat.le_refl _)).2 (by rw [List.take_length]; omega)
  have c7 : ¬ 256 < n.l.length := by omega
  simp only [true_and, c7, if_false, ne_eq, not_true_eq_false]
  rw [c6]
  simp

theorem numL_mono : ∀ (b a : Nat), a ≤ b → (numL a).length ≤ (numL b).length := by
  intro b
  induction b using Nat.strongRecOn with
  | _ b ih =>
    intro a h
    by_cases hb : b < 128
    · rw [numL_lo hb, numL_lo (by omega)]; simp
    · by_cases ha : a < 128
      · rw [numL_lo ha]; have := numL_pos b; simp; omega
      · rw [numL_hi hb, numL_hi ha, List.length_cons, List.length_cons]
        have := ih (b / 128) (by omega) (a / 128) (by omega)
        omega
/-- A directory with an entry more; a text with a byte more. -/
abbrev extD (n : NodeR) : NodeR := { n with l := n.l ++ [⟨T [122, 122], 3⟩] }
abbrev extT (n : NodeR) : NodeR := { n with text := n.text ++ T [120] }
theorem extD_wf {n : NodeR} (h : n.wf) : (extD n).wf := by
  obtain ⟨h1, h2, h3, h4, h5⟩ := h
  refine ⟨h1, h2, h3, h4, fun x hx => ?_⟩
  rcases List.mem_append.1 hx with hx | hx
  · exact h5 x hx
  · rw [List.mem_singleton] at hx; subst hx; simp [EntryR.wf, inI, T_size, maxLen]
theorem extT_size (n : NodeR) : (extT n).text.size = n.text.size + 1 := by
  simp [extT, ByteArray.size_append]; rfl
theorem extT_wf {n : NodeR} (h : n.wf) (hs : n.text.size ≤ 4096) : (extT n).wf := by
  obtain ⟨h1, h2, h3, h4, h5⟩ := h
  refine ⟨h1, h2, h3, ?_, h5⟩
  rw [extT_size]; simp only [maxLen]; omega
theorem nodeL_len' (n : NodeR) : (nodeL n).length = (numL (foldS n.ino)).length + (numL (foldS n.kind)).length + (numL (foldS n.links)).length + (numL n.text.size).length + n.text.size + (numL n.l.length).length + (n.l.flatMap entL).length := by
  simp only [nodeL, headL, textL, whl, List.length_append, len_bs]; omega
theorem extD_lt (n : NodeR) : (nodeL n).length < (nodeL (extD n)).length := by
  rw [nodeL_len', nodeL_len']
  have h := numL_mono (n.l.length + 1) n.l.length (by omega)
  have h2 := numL_pos (foldS 3)
  simp only [extD, List.length_append, List.length_singleton, List.flatMap_append, List.flatMap_cons, List.flatMap_nil, List.append_nil, entL, textL, whl, bs_T, List.length_cons, List.length_nil, Nat.zero_add]
  omega
theorem extT_lt (n : NodeR) : (nodeL n).length < (nodeL (extT n)).length := by
  rw [nodeL_len', nodeL_len', extT_size]
  have h := numL_mono (n.text.size + 1) n.text.size (by omega)
  show _ < (numL (foldS n.ino)).length + (numL (foldS n.kind)).length + (numL (foldS n.links)).length + (numL (n.text.size + 1)).length + (n.text.size + 1) + (numL n.l.length).length + (n.l.flatMap entL).length
  omega
theorem ext_small {n : NodeR} (hw : n.wf) (h : nodeOk n = true) : (nodeL (extD n)).length ≤ 20000 ∧ (nodeL (extT n)).length ≤ 20000 := by
  have h' := (nodeOk_iff n).1 h
  have hr := rowOk_at h'.row
  have h1 := h'.size
  have hx : ∀ x ∈ n.l, x.name.size ≤ 32 := fun x hx => (name_yes (hr.2 x hx).1).1.2
  have h2 := nodeL_len (extD n) (extD_wf hw) (fun x hx' => by
    rcases List.mem_append.1 hx' with h | h
    · exact hx x h
    · rw [List.mem_singleton] at h; subst h; simp [T_size]) (by simp [extD]; omega) (by simp [extD]; omega)
  have h3 := nodeL_len (extT n) (extT_wf hw h1) hx (by rw [extT_size]; omega) (by simp [extT]; omega)
  rw [extT_size] at h3
  simp only [extD, extT, List.length_append, List.length_singleton] at h2 h3 ⊢
  omega
theorem extD_ne (n : NodeR) : extD n ≠ n := fun e => by
  have := congrArg (fun n => n.l.length) e
  simp [extD] at this
theorem extT_ne (n : NodeR) : extT n ≠ n := fun e => by
  have h : (extT n).text.size = n.text.size := congrArg (fun n => n.text.size) e
  rw [extT_size] at h
  omega
end Go.Cx

set_option linter.unusedVariables false
set_option linter.unusedSimpArgs false
namespace Go.Cx

/-- The search: between i and j, f's first place that isn't below the key. -/
def bsGo (f : Nat → Int) (key : Int) (i j : Nat) : Nat :=
  if h : i < j then if f ((i + j) / 2) < key then bsGo f key ((i + j) / 2 + 1) j else bsGo f key i ((i + j) / 2) else i
termination_by j - i
decreasing_by all_goals omega
theorem bsGo_lt {f : Nat → Int} {key : Int} {i j : Nat} (h : i < j) : bsGo f key i j = if f ((i + j) / 2) < key then bsGo f key ((i + j) / 2 + 1) j else bsGo f key i ((i + j) / 2) := by
  rw [bsGo, dif_pos h]
theorem bsGo_ge {f : Nat → Int} {key : Int} {i j : Nat} (h : ¬ i < j) : bsGo f key i j = i := by rw [bsGo, dif_neg h]
/-- Of numbers that rise: all ahead of the place are below the key, all behind aren't. -/
theorem bsGo_spec {f : Nat → Int} {key : Int} {n : Nat} (hf : ∀ a b, a < b → b < n → f a ≤ f b) : ∀ (d i j : Nat), j - i = d → i ≤ j → j ≤ n → (∀ m, m < i → f m < key) → (∀ m, j ≤ m → m < n → key ≤ f m) →
    i ≤ bsGo f key i j ∧ bsGo f key i j ≤ j ∧ (∀ m, m < bsGo f key i j → f m < key) ∧ (∀ m, bsGo f key i j ≤ m → m < n → key ≤ f m) := by
  intro d
  induction d using Nat.strongRecOn with
  | _ d ih =>
    intro i j hd hij hjn h1 h2
    by_cases h : i < j
    · rw [bsGo_lt h]
      have hm1 : i ≤ (i + j) / 2 := by omega
      have hm2 : (i + j) / 2 < j := by omega
      split
      · rename_i hc
        obtain ⟨q1, q2, q3, q4⟩ := ih (j - ((i + j) / 2 + 1)) (by omega) ((i + j) / 2 + 1) j rfl (by omega) hjn (fun m hm => by
          rcases Nat.lt_or_ge m ((i + j) / 2) with hh | hh
          · exact Int.lt_of_le_of_lt (hf m _ hh (by omega)) hc
          · have : m = (i + j) / 2 := by omega
            rw [this]; exact hc) h2
        exact ⟨by omega, q2, q3, q4⟩
      · rename_i hc
        obtain ⟨q1, q2, q3, q4⟩ := ih ((i + j) / 2 - i) (by omega) i ((i + j) / 2) rfl hm1 (by omega) h1 (fun m hm hmn => by
          rcases Nat.lt_or_ge ((i + j) / 2) m with hh | hh
          · exact Int.le_trans (by omega) (hf _ m hh hmn)
          · have : m = (i + j) / 2 := by omega
            rw [this]; omega)
        exact ⟨q1, by omega, q3, q4⟩
    · rw [bsGo_ge h]
      have : i = j := by omega
      subst this
      exact ⟨Nat.le_refl _, Nat.le_refl _, h1, h2⟩
section
variable {α : Type} (key : α → Int)
/-- The numbers rise, each above the one ahead of it. -/
def rises : List α → Bool
  | [] => true
  | [_] => true
  | a :: b :: l => decide (key a < key b) && rises (b :: l)
/-- Where a number stands, or should. -/
def placeS (l : List α) (k : Int) : Nat := (l.takeWhile fun x => decide (key x < k)).length
def findS (l : List α) (k : Int) : Option α := l.find? fun x => decide (key x = k)
def putS (l : List α) (x : α) : List α := (l.takeWhile fun y => decide (key y < key x)) ++ x :: (l.dropWhile fun y => decide (key y ≤ key x))
def outS (l : List α) (k : Int) : List α := l.filter fun x => !decide (key x = k)
theorem rises_tail {a : α} {l : List α} (h : rises key (a :: l) = true) : rises key l = true ∧ ∀ x ∈ l, key a < key x := by
  induction l generalizing a with
  | nil => exact ⟨rfl, by simp⟩
  | cons b l ih =>
    simp only [rises, Bool.and_eq_true, decide_eq_true_eq] at h
    refine ⟨h.2, fun x hx => ?_⟩
    rcases List.mem_cons.1 hx with rfl | hx
    · exact h.1
    · have := (ih h.2).2 x hx; omega
theorem rises_get {l : List α} (h : rises key l = true) : ∀ (i j : Nat) (hi : i < l.length) (hj : j < l.length), i < j → key l[i] < key l[j] := by
  induction l with
  | nil => intro i j hi; simp at hi
  | cons a l ih =>
    intro i j hi hj hij
    obtain ⟨h1, h2⟩ := rises_tail key h
    cases j with
    | zero => omega
    | succ j =>
      cases i with
      | zero => simpa using h2 _ (List.getElem_mem (by simpa using hj))
      | succ i => simpa using ih h1 i j (by simpa using hi) (by simpa using hj) (by omega)
theorem place_not (p : α → Bool) : ∀ (l : List α) (h : (l.takeWhile p).length < l.length), p (l[(l.takeWhile p).length]) = false
  | [], h => by simp at h
  | a :: l, h => by
    cases hp : p a with
    | false => simp [List.takeWhile_cons, hp]
    | true =>
      simp only [List.takeWhile_cons, hp, if_true, List.length_cons] at h ⊢
      simpa using place_not p l (by omega)
theorem placeS_le (l : List α) (k : Int) : placeS key l k ≤ l.length := (List.takeWhile_sublist _).length_le
theorem placeS_lt (l : List α) (k : Int) (i : Nat) (h : i < placeS key l k) (hi : i < l.length) : key l[i] < k := by
  have h2 : i < (l.takeWhile fun x => decide (key x < k)).length := h
  have := List.all_eq_true.1 (List.all_takeWhile (p := fun x => decide (key x < k)) (l := l)) _ (List.getElem_mem h2)
  rw [List.IsPrefix.getElem (List.takeWhile_prefix _) h2] at this
  simpa using this
theorem placeS_ge {l : List α} (hr : rises key l = true) (k : Int) (i : Nat) (h : placeS key l k ≤ i) (hi : i < l.length) : k ≤ key l[i] := by
  have hp : placeS key l k < l.length := by omega
  have h1 : k ≤ key l[placeS key l k] := by
    have := place_not (fun x => decide (key x < k)) l hp
    rw [decide_eq_false_iff_not] at this
    exact Int.not_lt.1 this
  rcases Nat.lt_or_ge (placeS key l k) i with h2 | h2
  · have := rises_get key hr _ i hp hi h2
    omega
  · have : i = placeS key l k := by omega
    subst this; exact h1
/-- The search finds the place. -/
theorem bs_place {l : List α} (hr : rises key l = true) {f : Nat → Int} (hf : ∀ i (hi : i < l.length), f i = key l[i]) (k : Int) : bsGo f k 0 l.length = placeS key l k := by
  obtain ⟨_, q2, q3, q4⟩ := bsGo_spec (f := f) (key := k) (n := l.length) (fun a b hab hb => by
    rw [hf a (by omega), hf b hb]
    exact Int.le_of_lt (rises_get key hr a b (by omega) hb hab)) l.length 0 l.length (by omega) (by omega) (Nat.le_refl _) (by omega) (by omega)
  have hle := placeS_le key l k
  rcases Nat.lt_trichotomy (bsGo f k 0 l.length) (placeS key l k) with h | h | h
  · have h1 := placeS_lt key l k _ h (by omega)
    have h2 := q4 _ (Nat.le_refl _) (by omega)
    rw [hf _ (by omega)] at h2
    omega
  · exact h
  · have h1 := q3 _ h
    rw [hf _ (by omega)] at h1
    have h2 := placeS_ge key hr k _ (Nat.le_refl _) (by omega)
    omega
end
section
variable {α : Type}
/-- The first place from i on where it is so; -1: nowhere. -/
def idxFrom (p : α → Bool) : Nat → List α → Int
  | _, [] => -1
  | i, x :: l => if p x then (i : Int) else idxFrom p (i + 1) l
def idxS (p : α → Bool) (l : List α) : Int := idxFrom p 0 l
theorem idxFrom_at {p : α → Bool} {l : List α} {i : Nat} (h : i < l.length) : idxFrom p i (l.drop i) = if p l[i] then (i : Int) else idxFrom p (i + 1) (l.drop (i + 1)) := by
  rw [List.drop_eq_getElem_cons h, idxFrom]
theorem idxFrom_end {p : α → Bool} {l : List α} {i : Nat} (h : ¬ i < l.length) : idxFrom p i (l.drop i) = -1 := by
  rw [List.drop_eq_nil_of_le (by omega), idxFrom]
theorem idxFrom_spec {p : α → Bool} : ∀ (l : List α) (i : Nat), (idxFrom p i l = -1 ∧ ∀ x ∈ l, p x = false) ∨ ∃ j, ∃ h : j < l.length, idxFrom p i l = ((i + j : Nat) : Int) ∧ p l[j] = true ∧ ∀ x ∈ l.take j, p x = false
  | [], i => .inl ⟨rfl, by simp⟩
  | x :: l, i => by
    by_cases hp : p x = true
    · exact .inr ⟨0, by simp, by simp [idxFrom, hp], by simpa using hp, by simp⟩
    · rw [Bool.not_eq_true] at hp
      rcases idxFrom_spec (p := p) l (i + 1) with ⟨h1, h2⟩ | ⟨j, h, h1, h2, h3⟩
      · exact .inl ⟨by simp [idxFrom, hp, h1], by simpa [hp] using h2⟩
      · exact .inr ⟨j + 1, by simpa using h, by rw [idxFrom, if_neg (by simp [hp]), h1]; congr 1; omega, by simpa using h2, by simpa [hp] using h3⟩
theorem idxS_none {p : α → Bool} {l : List α} (h : idxS p l = -1) : l.filter (fun x => !p x) = l ∧ ∀ x ∈ l, p x = false := by
  rcases idxFrom_spec (p := p) l 0 with ⟨_, h2⟩ | ⟨j, hj, h1, _⟩
  · exact ⟨List.filter_eq_self.2 fun x hx => by simp [h2 x hx], h2⟩
  · unfold idxS at h; rw [h1] at h; omega
theorem idxS_some {p : α → Bool} {l : List α} (h : ¬ idxS p l = -1) : ∃ j, ∃ hj : j < l.length, idxS p l = (j : Int) ∧ p l[j] = true ∧ l.take j = (l.take (j + 1)).filter (fun x => !p x) := by
  rcases idxFrom_spec (p := p) l 0 with ⟨h1, _⟩ | ⟨j, hj, h1, h2, h3⟩
  · exact absurd h1 h
  · refine ⟨j, hj, by unfold idxS; rw [h1]; congr 1; omega, h2, ?_⟩
    rw [List.take_succ_eq_append_getElem hj, List.filter_append, List.filter_eq_self.2 fun x hx => by simp [h3 x hx]]
    simp [h2]
/-- Elements are taken out in place: up to i what is kept of those up to j, from j on as it was. -/
structure DelAt (p : α → Bool) (l m : List α) (i j : Nat) : Prop where
  len : m.length = l.length
  lt : i < j
  le : j ≤ l.length
  front : m.take i = (l.take j).filter (fun x => !p x)
  back : m.drop j = l.drop j
theorem DelAt.get {p : α → Bool} {l m : List α} {i j : Nat} (h : DelAt p l m i j) (hj : j < l.length) : m[j]'(by rw [h.len]; exact hj) = l[j] := by
  have := congrArg (·[0]?) h.back
  simp only [List.getElem?_drop, Nat.add_zero] at this
  rw [List.getElem?_eq_getElem (by rw [h.len]; exact hj), List.getElem?_eq_getElem hj] at this
  injection this
theorem DelAt.skip {p : α → Bool} {l m : List α} {i j : Nat} (h : DelAt p l m i j) (hj : j < l.length) (hp : p l[j] = true) : DelAt p l m i (j + 1) := by
  refine ⟨h.len, by have := h.lt; omega, hj, ?_, ?_⟩
  · rw [h.front, List.take_succ_eq_append_getElem hj, List.filter_append]; simp [hp]
  · have := congrArg (List.drop 1) h.back
    simpa [List.drop_drop] using this
theorem DelAt.keep {p : α → Bool} {l m : List α} {i j : Nat} (h : DelAt p l m i j) (hj : j < l.length) (hp : p l[j] = false) : DelAt p l (m.set i l[j]) (i + 1) (j + 1) := by
  have hi := h.lt
  refine ⟨by simp [h.len], by omega, hj, ?_, ?_⟩
  · rw [List.take_succ_eq_append_getElem (by simp [h.len]; omega), List.take_set_of_le (Nat.le_refl _), h.front, List.take_succ_eq_append_getElem hj, List.filter_append]; simp [hp]
  · rw [List.drop_set_of_lt (by omega)]
    have := congrArg (List.drop 1) h.back
    simpa [List.drop_drop] using this
theorem DelAt.done {p : α → Bool} {l m : List α} {i j : Nat} (h : DelAt p l m i j) (hj : ¬ j < l.length) : m.take i = l.filter (fun x => !p x) ∧ i = (l.filter (fun x => !p x)).length ∧ i ≤ l.length := by
  have h1 := h.front
  have hl := h.le
  have hi := h.lt
  have h2 : l.take j = l := List.take_of_length_le (by omega)
  rw [h2] at h1
  refine ⟨h1, ?_, by omega⟩
  rw [← h1, List.length_take, h.len]; omega
theorem DelAt.start {p : α → Bool} {l : List α} {j : Nat} (hj : j < l.length) (hp : p l[j] = true) (ht : l.take j = (l.take (j + 1)).filter (fun x => !p x)) : DelAt p l l j (j + 1) := ⟨rfl, by omega, hj, ht, rfl⟩
end
end Go.Cx
