import Derived.Test.YtdnfnddlciafmaaGreatXBe
import Derived.Laws.FloatArith
import Derived.Sort.Grow
set_option linter.unusedVariables false
set_option linter.unusedSimpArgs false
namespace Go.Cx
variable {P : Program}
def splitN : Nat → Code → Code × Code
  | 0, .seq x y => (x, y)
  | k + 1, .seq x (.seq y z) => (.seq x (splitN k (.seq y z)).1, (splitN k (.seq y z)).2)
  | _ + 1, .seq x y => (x, y)
  | _, c => (.skip, c)
theorem AW.mono {n : Nat} {c : Code} {Q Q' : Exit → AState → Prop} {s : AState} (h : AW P n c Q s) (hk : ∀ e s, Q e s → Q' e s) : AW P n c Q' s := fun Z κ a w r hn =>
  wp_mono (h Z κ a w r hn) fun e a' w' ha => ha.mono (hk e)
theorem AW.seqW {n : Nat} {x y : Code} {Q : Exit → AState → Prop} {s : AState} (hx : AW P n x (thenA (AW P n y Q) Q) s) : AW P n (.seq x y) Q s := fun Z κ a w r hn => by
  refine wp_seq (wp_mono (hx Z κ a w r hn) fun e a' w' ha => ?_)
  cases e with
  | normal =>
    obtain ⟨s', Z', κ', hq, r', ex, st, hn'⟩ := ha
    exact wp_mono (hq Z' κ' a' w' r' hn') fun e2 a2 w2 h2 => h2.trans ex st
  | exit id => exact ha
  | goto l => exact ha
  | ret => exact ha
  | panic ch => exact ha
  | outgrown => exact ha
theorem AW.splitA' {lit : TypeId → Bool} {n : Nat} {Q : Exit → AState → Prop} : ∀ (k : Nat) (c : Code) {s : AState}, AX P lit n (splitN k c).1 (thenA (AW P n (splitN k c).2 Q) Q) s → AW P n c Q s
  | 0, c, s, h => by
    cases c with
    | seq x y => exact AW.seqA h
    | _ => exact h
  | k + 1, c, s, h => by
    cases c with
    | seq x y =>
      cases y with
      | seq y z =>
        refine AW.seqW (AW.mono (AX_ok (lit := lit) x _ s h) fun e s hs => ?_)
        cases e with
        | normal => exact AW.splitA' k _ hs
        | exit id => exact hs
        | goto l => exact hs
        | ret => exact hs
        | panic ch => exact hs
        | outgrown => exact hs
      | _ => exact AW.seqA h
    | _ => exact h
end Go.Cx
set_option linter.unusedVariables false
set_option linter.unusedSimpArgs false
namespace Go.Cx
open Ieee
def FB (n : Nat) : Nat := FloatKind.f64.nearest (n : Int)
abbrev FL (n : Nat) : AV := .val (.float .f64 (FB n))
abbrev CL (a b : Nat) : AV := .val (.complex .f64 (FB a) (FB b))
theorem cut_exact (way : Toward) (neg : Bool) (q drop : Nat) (h : drop ≤ (q * 2 ^ drop).log2 + 2 ∨ q = 0) : way.cut neg (q * 2 ^ drop) drop = q := by
  have key : ∀ g : Nat, 0 < g → (q * 2 ^ drop) % g = 0 → (q * 2 ^ drop) / g = q → (1 <<< min drop ((q * 2 ^ drop).log2 + 2)) = g → way.cut neg (q * 2 ^ drop) drop = q := by
    intro g hg h1 h2 h3
    unfold Toward.cut
    simp only [h3, h1, h2]
    cases way <;> simp <;> omega
  rcases h with h | h
  · refine key (2 ^ drop) (Nat.two_pow_pos _) (by simp) (Nat.mul_div_cancel _ (Nat.two_pow_pos _)) ?_
    rw [Nat.min_eq_left h, Nat.shiftLeft_eq, Nat.one_mul]
  · subst h
    refine key _ ?_ (by simp) (by simp) rfl
    rw [Nat.shiftLeft_eq, Nat.one_mul]; exact Nat.two_pow_pos _
theorem log2_lt53 {n : Nat} (h : n < 2 ^ 53) (h0 : 0 < n) : n.log2 ≤ 52 := by
  have := (Nat.log2_lt (by omega)).2 h
  omega
theorem log2_mul (n k : Nat) (h0 : 0 < n) : (n * 2 ^ k).log2 = n.log2 + k := by
  rw [← Nat.shiftLeft_eq]
  induction k with
  | zero => simp
  | succ k ih =>
    have e : n <<< (k + 1) = 2 * (n <<< k) := by rw [Nat.shiftLeft_eq, Nat.shiftLeft_eq, Nat.pow_succ, ← Nat.mul_assoc, Nat.mul_comm]
    have hp : 0 < n <<< k := by rw [Nat.shiftLeft_eq]; exact Nat.mul_pos h0 (Nat.two_pow_pos _)
    rw [e, Nat.log2_two_mul (by omega), ih]; omega
theorem nearest_eq {n : Nat} (h : n < 2 ^ 53) (h0 : 0 < n) (k : Nat) (hk : k ≤ 1074) :
    double.nearest false (n * 2 ^ k) (-(k : Int)) = (n.log2 + 1022) * 2 ^ 52 + n * 2 ^ (52 - n.log2) := by
  have hl := log2_lt53 h h0
  have hm : n * 2 ^ k ≠ 0 := Nat.ne_of_gt (Nat.mul_pos h0 (Nat.two_pow_pos _))
  have hlp : double.leastPlace = -1074 := by decide
  have hlast : max (-(k : Int) + ((n * 2 ^ k).log2 : Nat) - (52 : Nat)) (-1074) = (n.log2 : Int) - 52 := by
    rw [log2_mul n k h0]; omega
  have hkept : Toward.even.cut false ((n * 2 ^ k) <<< (-(k : Int) - ((n.log2 : Int) - 52)).toNat) (((n.log2 : Int) - 52) - (-(k : Int))).toNat = n * 2 ^ (52 - n.log2) := by
    rcases Nat.le_total k (52 - n.log2) with q | q
    · have e1 : (((n.log2 : Int) - 52) - (-(k : Int))).toNat = 0 := by omega
      have e2 : (-(k : Int) - ((n.log2 : Int) - 52)).toNat = 52 - n.log2 - k := by omega
      have e3 : (n * 2 ^ k) <<< (52 - n.log2 - k) = n * 2 ^ (52 - n.log2) * 2 ^ 0 := by
        rw [Nat.pow_zero, Nat.mul_one, Nat.shiftLeft_eq, Nat.mul_assoc, ← Nat.pow_add, show k + (52 - n.log2 - k) = 52 - n.log2 by omega]
      rw [e1, e2, e3]
      have := cut_exact .even false (n * 2 ^ (52 - n.log2)) 0 (.inl (by omega))
      simpa using this
    · have e1 : (((n.log2 : Int) - 52) - (-(k : Int))).toNat = k - (52 - n.log2) := by omega
      have e2 : (-(k : Int) - ((n.log2 : Int) - 52)).toNat = 0 := by omega
      have e3 : (n * 2 ^ k) <<< 0 = n * 2 ^ (52 - n.log2) * 2 ^ (k - (52 - n.log2)) := by
        rw [Nat.shiftLeft_zero, Nat.mul_assoc, ← Nat.pow_add, show 52 - n.log2 + (k - (52 - n.log2)) = k by omega]
      rw [e1, e2, e3]
      refine cut_exact .even false _ _ (.inl ?_)
      rw [log2_mul _ _ (Nat.mul_pos h0 (Nat.two_pow_pos _))]; omega
  have hfr : double.fractionBits = 52 := rfl
  unfold Format.nearest
  rw [if_neg hm, hfr, hlp]
  simp only [hlast, hkept]
  have hb : double.binade = 2 ^ 52 := rfl
  have hi : double.infRung = 2047 * 2 ^ 52 := by decide
  have hlow : n * 2 ^ (52 - n.log2) < 2 ^ 53 := by
    have h1 : n < 2 ^ (n.log2 + 1) := Nat.lt_log2_self
    calc n * 2 ^ (52 - n.log2) < 2 ^ (n.log2 + 1) * 2 ^ (52 - n.log2) := Nat.mul_lt_mul_of_pos_right h1 (Nat.two_pow_pos _)
      _ = 2 ^ 53 := by rw [← Nat.pow_add]; congr 1; omega
  rw [hb, hi, show ((n.log2 : Int) - 52 - -1074).toNat = n.log2 + 1022 by omega]
  simp only [Format.word, Bool.false_eq_true, if_false]
  rw [Nat.min_eq_left]
  omega
theorem FB_zero : FB 0 = 0 := by decide
theorem FB_pos {n : Nat} (h : n < 2 ^ 53) (h0 : 0 < n) : FB n = (n.log2 + 1022) * 2 ^ 52 + n * 2 ^ (52 - n.log2) := by
  have := nearest_eq h h0 0 (by omega)
  simp only [Nat.pow_zero, Nat.mul_one] at this
  rw [← this]
  have : decide ((n : Int) < 0) = false := by simp
  simp only [FB, FloatKind.nearest, FloatKind.encode, FloatKind.format, Format.write, this]
  congr 1
theorem read_FB {n : Nat} (h : n < 2 ^ 53) : ∃ k : Nat, k ≤ 1074 ∧ double.read (FB n) = .number false (n * 2 ^ k) (-(k : Int)) := by
  rcases Nat.eq_zero_or_pos n with h0 | h0
  · subst h0
    obtain ⟨k, hk⟩ : ∃ k : Nat, k = 1074 := ⟨_, rfl⟩
    exact ⟨k, by omega, by rw [FB_zero, Nat.zero_mul, hk]; rfl⟩
  have hl := log2_lt53 h h0
  refine ⟨52 - n.log2, by omega, ?_⟩
  have hlow : n * 2 ^ (52 - n.log2) < 2 ^ 53 := by
    have h1 : n < 2 ^ (n.log2 + 1) := Nat.lt_log2_self
    calc n * 2 ^ (52 - n.log2) < 2 ^ (n.log2 + 1) * 2 ^ (52 - n.log2) := Nat.mul_lt_mul_of_pos_right h1 (Nat.two_pow_pos _)
      _ = 2 ^ 53 := by rw [← Nat.pow_add]; congr 1; omega
  have hge : 2 ^ 52 ≤ n * 2 ^ (52 - n.log2) := by
    have h1 : 2 ^ n.log2 ≤ n := Nat.log2_self_le (by omega)
    calc 2 ^ 52 = 2 ^ n.log2 * 2 ^ (52 - n.log2) := by rw [← Nat.pow_add]; congr 1; omega
      _ ≤ n * 2 ^ (52 - n.log2) := Nat.mul_le_mul_right _ h1
  rw [FB_pos h h0]
  generalize n * 2 ^ (52 - n.log2) = m at *
  have hs : double.signWeight = 9223372036854775808 := rfl
  have hb : double.binade = 4503599627370496 := rfl
  have hi : double.infRung = 9218868437227405312 := by decide
  have hlp : double.leastPlace = -1074 := by decide
  have hp52 : (2 : Nat) ^ 52 = 4503599627370496 := rfl
  have hp53 : (2 : Nat) ^ 53 = 9007199254740992 := rfl
  simp only [Format.read, hs, hb, hi, hlp, hp52, hp53] at *
  generalize n.log2 = L at *
  have e1 : ((L + 1022) * 4503599627370496 + m) / 9223372036854775808 = 0 := by omega
  have e2 : ((L + 1022) * 4503599627370496 + m) % 9223372036854775808 = (L + 1022) * 4503599627370496 + m := by omega
  rw [e1, e2, if_neg (by omega), if_pos (by omega)]
  have e3 : ((L + 1022) * 4503599627370496 + m) % 4503599627370496 = m - 4503599627370496 := by omega
  have e4 : ((L + 1022) * 4503599627370496 + m) / 4503599627370496 = L + 1023 := by omega
  rw [e3, e4]
  have e5 : 4503599627370496 + (m - 4503599627370496) = m := by omega
  rw [e5]
  have e6 : (-1074 : Int) + ((L + 1023 - 1 : Nat) : Int) = -((52 - L : Nat) : Int) := by omega
  rw [e6]
  rfl
theorem shl_eq (n k : Nat) (b : Int) (hb : b ≤ -(k : Int)) : (n * 2 ^ k) <<< (-(k : Int) - b).toNat = n * 2 ^ (-b).toNat := by
  rw [Nat.shiftLeft_eq, Nat.mul_assoc, ← Nat.pow_add]
  congr 2; omega
theorem order_FB {a b : Nat} (ha : a < 2 ^ 53) (hb : b < 2 ^ 53) : double.order (FB a) (FB b) = some (compare a b) := by
  obtain ⟨i, hi, h1⟩ := read_FB ha
  obtain ⟨j, hj, h2⟩ := read_FB hb
  simp only [Format.order, h1, h2, Datum.order, signed, Bool.false_eq_true, if_false]
  rw [shl_eq a i _ (Int.min_le_left ..), shl_eq b j _ (Int.min_le_right ..)]
  generalize (-(min (-(i : Int)) (-(j : Int)))).toNat = k
  have hp : 0 < 2 ^ k := Nat.two_pow_pos k
  congr 1
  rcases Nat.lt_trichotomy a b with h | h | h
  · rw [Nat.compare_eq_lt.2 h]
    have : a * 2 ^ k < b * 2 ^ k := Nat.mul_lt_mul_of_pos_right h hp
    exact Int.compare_eq_lt.2 (by omega)
  · subst h; rw [Nat.compare_eq_eq.2 rfl]; exact Int.compare_eq_eq.2 rfl
  · rw [Nat.compare_eq_gt.2 h]
    have : b * 2 ^ k < a * 2 ^ k := Nat.mul_lt_mul_of_pos_right h hp
    exact Int.compare_eq_gt.2 (by omega)
theorem write_eq {n k : Nat} (h : n < 2 ^ 53) (hk : k ≤ 1074) : double.nearest false (n * 2 ^ k) (-(k : Int)) = FB n := by
  rcases Nat.eq_zero_or_pos n with h0 | h0
  · subst h0; rw [FB_zero]; simp [Format.nearest, Format.word]
  · rw [nearest_eq h h0 k hk, FB_pos h h0]
theorem add_FB {a b : Nat} (h : a + b < 2 ^ 53) : double.add (FB a) (FB b) = some (FB (a + b)) := by
  obtain ⟨i, hi, h1⟩ := read_FB (n := a) (by omega)
  obtain ⟨j, hj, h2⟩ := read_FB (n := b) (by omega)
  simp only [Format.add, h1, h2, Datum.sum, signed, Bool.false_eq_true, if_false]
  rw [shl_eq a i _ (Int.min_le_left ..), shl_eq b j _ (Int.min_le_right ..)]
  obtain ⟨k, hk, e⟩ : ∃ k : Nat, k ≤ 1074 ∧ min (-(i : Int)) (-(j : Int)) = -(k : Int) := ⟨max i j, by omega, by omega⟩
  rw [e]
  have e2 : (- -(k : Int)).toNat = k := by omega
  rw [e2]
  have e3 : (((a * 2 ^ k : Nat) : Int) + ((b * 2 ^ k : Nat) : Int)) = (((a + b) * 2 ^ k : Nat) : Int) := by rw [Nat.add_mul]; omega
  simp only [e3, Int.natAbs_natCast, Option.map_some, Format.write]
  have e4 : (if (((a + b) * 2 ^ k : Nat) : Int) = 0 then (false && false) else decide ((((a + b) * 2 ^ k : Nat) : Int) < 0)) = false := by
    split
    · rfl
    · exact decide_eq_false (by omega)
  rw [e4, write_eq h hk]
theorem sub_FB {a b : Nat} (h : a < 2 ^ 53) (hb : b ≤ a) : double.sub (FB a) (FB b) = some (FB (a - b)) := by
  obtain ⟨i, hi, h1⟩ := read_FB (n := a) (by omega)
  obtain ⟨j, hj, h2⟩ := read_FB (n := b) (by omega)
  simp only [Format.sub, h1, h2, Datum.opposite, Datum.sum, signed, Bool.false_eq_true, if_false, Bool.not_false, if_true]
  rw [shl_eq a i _ (Int.min_le_left ..), shl_eq b j _ (Int.min_le_right ..)]
  obtain ⟨k, hk, e⟩ : ∃ k : Nat, k ≤ 1074 ∧ min (-(i : Int)) (-(j : Int)) = -(k : Int) := ⟨max i j, by omega, by omega⟩
  rw [e]
  have e2 : (- -(k : Int)).toNat = k := by omega
  rw [e2]
  have hle : b * 2 ^ k ≤ a * 2 ^ k := Nat.mul_le_mul_right _ hb
  have e3 : (((a * 2 ^ k : Nat) : Int) + -((b * 2 ^ k : Nat) : Int)) = (((a - b) * 2 ^ k : Nat) : Int) := by rw [Nat.sub_mul]; omega
  simp only [e3, Int.natAbs_natCast, Option.map_some, Format.write]
  have e4 : (if (((a - b) * 2 ^ k : Nat) : Int) = 0 then (false && true) else decide ((((a - b) * 2 ^ k : Nat) : Int) < 0)) = false := by
    split
    · rfl
    · exact decide_eq_false (by omega)
  rw [e4, write_eq (by omega) hk]
theorem int_FB {a : Nat} (h : a < 2 ^ 53) : (FloatKind.f64.decode (FB a)).toInt .zero = some (a : Int) := by
  obtain ⟨i, hi, h1⟩ := read_FB h
  simp only [FloatKind.decode, FloatKind.format, h1, Datum.toInt, Datum.integral]
  have e1 : (-(i : Int)).toNat = 0 := by omega
  have e2 : (- -(i : Int)).toNat = i := by omega
  rw [e1, e2, Nat.shiftLeft_zero]
  have := cut_exact .zero false a i (by
    rcases Nat.eq_zero_or_pos a with h0 | h0
    · exact .inr h0
    · left; rw [log2_mul a i h0]; omega)
  simp [this, signed]
theorem neg_FB {a : Nat} (h : a < 2 ^ 53) : (FloatKind.f64.decode (FB a)).neg = false := by
  obtain ⟨i, hi, h1⟩ := read_FB h
  simp only [FloatKind.decode, FloatKind.format, h1, Datum.neg]
section
variable {P : Program} (t : TypeId) (ox oy : Operand) {a b : Nat}
theorem binf_add (h : a + b < 9007199254740992) : abin P .add t ox oy (FL a) (FL b) = some (FL (a + b)) := by
  simp [abin, conc, eqGuard, binOp, Op.floatArith, FloatKind.format, add_FB (a := a) (b := b) h, ofV, cellV]
theorem binf_sub (h : a < 9007199254740992) (hb : b ≤ a) : abin P .sub t ox oy (FL a) (FL b) = some (FL (a - b)) := by
  simp [abin, conc, eqGuard, binOp, Op.floatArith, FloatKind.format, sub_FB (a := a) (b := b) h hb, ofV, cellV]
theorem binf_gtr (ha : a < 9007199254740992) (hb : b < 9007199254740992) : abin P .gtr t ox oy (FL a) (FL b) = some (.val (.bool (decide (b < a)))) := by
  have : (some (compare a b) == some Ordering.gt) = decide (b < a) := by
    rw [Bool.eq_iff_iff]; simp [Nat.compare_eq_gt]
  simp [abin, conc, eqGuard, binOp, Op.floatCmp, FloatKind.format, order_FB (a := a) (b := b) ha hb, ofV, cellV, this]
theorem binf_geq (ha : a < 9007199254740992) (hb : b < 9007199254740992) : abin P .geq t ox oy (FL a) (FL b) = some (.val (.bool (decide (b ≤ a)))) := by
  have : (compare a b == Ordering.gt || compare a b == Ordering.eq) = decide (b ≤ a) := by
    rcases Nat.lt_trichotomy a b with h | h | h
    · rw [Nat.compare_eq_lt.2 h, decide_eq_false (by omega)]; rfl
    · subst h; rw [Nat.compare_eq_eq.2 rfl, decide_eq_true (Nat.le_refl _)]; rfl
    · rw [Nat.compare_eq_gt.2 h, decide_eq_true (by omega)]; rfl
  simp [abin, conc, eqGuard, binOp, Op.floatCmp, FloatKind.format, order_FB (a := a) (b := b) ha hb, ofV, cellV, this]
end
section
variable {P : Program} (h : AHeap) (t t' ty : TypeId) (cs : Array Bool) (a b : Nat)
@[simp] theorem evCall_real : evCall P h .real [t] ty cs [CL a b] = some (FL a, h) := rfl
@[simp] theorem evCall_imag : evCall P h .imag [t] ty cs [CL a b] = some (FL b, h) := rfl
@[simp] theorem evCall_complex : evCall P h .complex [t, t'] ty cs [FL a, FL b] = some (CL a b, h) := rfl
@[simp] theorem ofV_complex (k : FloatKind) (x y : Nat) : ofV (.complex k x y) = .val (.complex k x y) := rfl
@[simp] theorem ofV_float (k : FloatKind) (x : Nat) : ofV (.float k x) = .val (.float k x) := rfl
theorem evCall_fmax (ha : a < 9007199254740992) (hb : b < 9007199254740992) : evCall P h .max [t, t'] ty cs [FL a, FL b] = some (FL (max a b), h) := by
  have hn := neg_FB (a := a) ha
  have ho := order_FB (a := a) (b := b) ha hb
  have e : Builtin.max2 (.float .f64 (FB a)) (.float .f64 (FB b)) = pure (.float .f64 (FB (max a b))) := by
    simp only [Builtin.max2, FloatKind.format, ho]
    rcases Nat.lt_trichotomy a b with q | q | q
    · rw [Nat.compare_eq_lt.2 q, Nat.max_eq_right (by omega)]
    · subst q; rw [Nat.compare_eq_eq.2 rfl]; simp
    · rw [Nat.compare_eq_gt.2 q, Nat.max_eq_left (by omega)]
  simp [evCall, abuiltinV, conc, builtin, Builtin.max_, e, ofV, cellV, pr]
theorem evCall_fmin (ha : a < 9007199254740992) (hb : b < 9007199254740992) : evCall P h .min [t, t'] ty cs [FL a, FL b] = some (FL (min a b), h) := by
  have hn := neg_FB (a := a) ha
  have ho := order_FB (a := a) (b := b) ha hb
  have e : Builtin.min2 (.float .f64 (FB a)) (.float .f64 (FB b)) = pure (.float .f64 (FB (min a b))) := by
    simp only [Builtin.min2, FloatKind.format, ho]
    rcases Nat.lt_trichotomy a b with q | q | q
    · rw [Nat.compare_eq_lt.2 q, Nat.min_eq_left (by omega)]
    · subst q; rw [Nat.compare_eq_eq.2 rfl]; simp
    · rw [Nat.compare_eq_gt.2 q, Nat.min_eq_right (by omega)]
  simp [evCall, abuiltinV, conc, builtin, Builtin.min_, e, ofV, cellV, pr]
theorem aconv_float {src dst : TypeId} {k : IntKind} {n : Int} (hs : P.underlying src = some (.int k)) (hd : P.underlying dst = some (.float .f64)) (h0 : 0 ≤ n) : aconv P src dst (.val (.int k n)) = some (FL n.toNat) := by
  obtain ⟨m, rfl⟩ := Int.eq_ofNat_of_zero_le h0
  have : pr P (convert src dst (.int k m)) = some (.float .f64 (FB m)) := by
    unfold convert
    rw [pr_bind, pr_underlying hs, Option.bind_some, pr_bind, pr_underlying hd]; rfl
  simp [aconv, conc, this, ofV, cellV]
theorem aconv_whole {src dst : TypeId} {n : Nat} (hs : P.underlying src = some (.float .f64)) (hd : P.underlying dst = some (.int .i64)) (hn : n < 9007199254740992) : aconv P src dst (FL n) = some (.val (.int .i64 n)) := by
  have hi := int_FB (a := n) hn
  have : pr P (convert src dst (.float .f64 (FB n))) = some (.int .i64 n) := by
    unfold convert
    rw [pr_bind, pr_underlying hs, Option.bind_some, pr_bind, pr_underlying hd, Option.bind_some]
    simp only [Conv.floatToInt, hi]
    have h1 : IntKind.i64.min = -9223372036854775808 := by decide
    have h2 : IntKind.i64.max = 9223372036854775807 := by decide
    rw [if_pos (by rw [h1, h2]; omega)]; rfl
  simp [aconv, conc, this, ofV, cellV]
end
end Go.Cx
set_option linter.unusedVariables false
set_option linter.unusedSimpArgs false
namespace Go.Cx
open Go.Sort
variable {P : Program}
theorem ints_of {Z : Nat → Prop} {w : World} {κ : Nat → Slot} : ∀ {l : List Int} {us : List Value}, Rs Z w κ (l.map I) us → us = l.map (Value.int .i64)
  | [], _, .nil => rfl
  | x :: l, _, .cons h1 h2 => by
    cases h1 with
    | val _ => rw [ints_of h2]; rfl
theorem ints_rs {Z : Nat → Prop} {w : World} {κ : Nat → Slot} : ∀ l : List Int, Rs Z w κ (l.map I) (l.map (Value.int .i64))
  | [] => .nil
  | x :: l => .cons (.val rfl) (ints_rs l)
theorem heap_putRow_ne (enc : Int → Value) (w : World) (n blk off : Nat) (d : Array Int) (os : Array Obj) {b : Nat} (hb : b < w.heap.size) (h : b ≠ blk) : (Go.Sort.grow (putRow enc (Sort.ahead w n) blk off d) os).heap[b]? = w.heap[b]? := by
  simp only [Go.Sort.grow, putRow, mapBlock, Sort.ahead]
  rw [Array.getElem?_append_left (by simpa using hb), Array.getElem?_modify, if_neg (Ne.symm h)]
theorem heap_putRow_same (enc : Int → Value) (w : World) (n blk off : Nat) (d : Array Int) (os : Array Obj) {c : Array Value} {E : TypeId} {fr : Nat × Nat} (hb : w.heap[blk]? = some (.cells c E fr)) : (Go.Sort.grow (putRow enc (Sort.ahead w n) blk off d) os).heap[blk]? = some (.cells (putCells enc off d c) E fr) := by
  have hlt := (Array.getElem?_eq_some_iff.1 hb).1
  simp only [Go.Sort.grow, putRow, mapBlock, Sort.ahead]
  rw [Array.getElem?_append_left (by simpa using hlt), Array.getElem?_modify, if_pos rfl, hb]
  rfl
abbrev sortI (l : List Int) : List Int := l.mergeSort fun x y => decide (x ≤ y)
theorem sort_hcall {f : FuncId} (he : Ent P f)
    (hs : ∀ (blk off cap : Nat) (zs : List Int) (w : World), Holds (Value.int .i64) w blk off zs.toArray → blk < w.heap.size → zs.length < 4611686018427387904 → Calls P f #[.slice (some ⟨blk, off, none⟩) zs.length cap] w fun e w' => e = .returned (.tuple #[]) ∧ ∃ n os, w' = Go.Sort.grow (putRow (Value.int .i64) (Sort.ahead w n) blk off (sortI zs).toArray) os)
    (h0 : ∀ (p : Option Addr) (cap : Nat) (w : World), Calls P f #[.slice p 0 cap] w fun e w' => e = .returned (.tuple #[]) ∧ w' = w)
    (ver : Nat) (l : List Int) (hl : l.length < 4611686018427387904) : HCall P f [.own 0 ver 0 l.length 1] [.cells ver (l.map I)] (.tup []) [.cells ver ((sortI l).map I)] := by
  refine ⟨by simp, by simp, by simp, rfl, by simp, he, fun Z κ w cargs r hr => ?_⟩
  cases hr with
  | cons h1 h2 =>
  cases h2
  have same : ∀ {e : Ending} {w' : World}, l = [] → e = .returned (.tuple #[]) → w' = w → ∃ v h' Z' κ' c, (v = AV.tup [] ∧ h' = [ABlk.cells ver ((sortI l).map I)]) ∧ e = .returned c ∧ Rel Z' κ' h' w' ∧ R Z' w' κ' v c ∧ Ext Z κ w Z' κ' w' ∧ StepLt 1 κ κ' := by
    rintro e w' rfl rfl rfl
    refine ⟨_, _, Z, κ, _, ⟨rfl, rfl⟩, rfl, ?_, .tup .nil, .refl _ _ _, .refl _ _⟩
    have : sortI [] = [] := by simp
    rw [this]; exact r
  cases h1 with
  | @own _ _ _ _ _ A cap hn hcap hA h2 =>
  obtain ⟨ob, sz, hk, hblk⟩ := r.blk 0 _ rfl
  simp only [refOk, hk] at h2
  have h2 := h2.2 trivial
  by_cases hl0 : l = []
  · subst hl0
    exact (h0 A cap w).mono fun e w' ⟨h3, h4⟩ => same rfl h3 h4
  have hlen : 0 < l.length := List.length_pos_iff.2 hl0
  cases ob with
  | none => obtain ⟨_, q, _⟩ := h2; omega
  | some b =>
  obtain ⟨e1, _, ⟨a, rfl, ha⟩, e2⟩ := h2
  obtain rfl := ha (by omega)
  obtain ⟨c, E, us, ⟨fr, g1, gf⟩, g2, g3, g4, g5⟩ := hblk
  have hus := ints_of g5
  subst hus
  have hlt := (Array.getElem?_eq_some_iff.1 g1).1
  simp only [Nat.zero_mul]
  refine (hs b 0 cap l w (fun j hj => ?_) hlt hl).mono ?_
  · have hj' : j < l.length := by simpa using hj
    have := g4 j (Value.int .i64 l[j]) (by simp [hj'])
    refine ⟨?_, ?_⟩
    · simp only [World.cell?, g1, Nat.zero_add]
      simp [this, hj']
    · rcases gf with rfl | ⟨_, gf⟩
      · simp [World.frozen?, g1]
      · have : j < c.size := by simp at g3; omega
        simp [World.frozen?, g1]; intro; omega
  rintro e w' ⟨rfl, n, os, rfl⟩
  have hsl : (sortI l).length = l.length := List.length_mergeSort _
  have hal : alive κ b := ⟨0, ver, sz, hk⟩
  have hsz : w.heap.size ≤ (Go.Sort.grow (putRow (Value.int .i64) (Sort.ahead w n) b 0 (sortI l).toArray) os).heap.size := by rw [Go.Sort.size_grow, size_putRow]; exact Nat.le_add_right _ _
  have ex : Ext Z κ w Z κ (Go.Sort.grow (putRow (Value.int .i64) (Sort.ahead w n) b 0 (sortI l).toArray) os) :=
    ⟨rfl, rfl, rfl, hsz, fun b' hb' hn' => heap_putRow_ne _ _ _ _ _ _ _ hb' (fun e => hn' (e ▸ hal)), fun _ h => h, fun _ h => .inl h, fun _ h => .inl h⟩
  refine ⟨_, _, Z, κ, _, ⟨rfl, rfl⟩, rfl, ⟨fun b' hz => Nat.lt_of_lt_of_le (r.zlt b' hz) hsz, r.za, fun id hid => r.hole id hid, fun id x hx => ?_, r.inj⟩, .tup .nil, ex, .refl _ _⟩
  cases id with
  | succ id => simp at hx
  | zero =>
    simp at hx
    subst hx
    refine ⟨some b, sz, hk, putCells (Value.int .i64) 0 (sortI l).toArray c, E, (sortI l).map (Value.int .i64), ⟨fr, heap_putRow_same _ _ _ _ _ _ _ g1, by simpa [putCells] using gf⟩, ?_, ?_, ?_, ints_rs _⟩
    · simpa [putCells] using g2
    · have : (l.map (Value.int .i64)).length = l.length := by simp
      simp [putCells, hsl]; omega
    · intro j u hj
      have hj1 : j < (sortI l).length := by have := (List.getElem?_eq_some_iff.1 hj).1; simpa using this
      have hjc : j < c.size := by simp at g3; omega
      simp only [putCells, Array.getElem?_mapIdx, Array.getElem?_eq_getElem hjc, Option.map_some, Nat.zero_le, true_and, Nat.zero_add, List.size_toArray, Nat.sub_zero]
      rw [if_pos hj1]
      rw [List.getElem?_map, List.getElem?_eq_getElem hj1] at hj
      simp only [Option.map_some] at hj
      rw [← hj]
      rw [getElem!_pos _ j (by simpa using hj1)]
      simp
theorem compact_hcall {f : FuncId} (he : Ent P f) (cp : List Int → List Int) (hcp : ∀ zs, (cp zs).length ≤ zs.length) (hc0 : ∀ zs, zs ≠ [] → cp zs ≠ [])
    (hs : ∀ (blk off cap : Nat) (zs : List Int) (w : World), Holds (Value.int .i64) w blk off zs.toArray → zs.length ≤ 9223372036854775807 → zs.length ≤ cap → Calls P f #[.slice (some ⟨blk, off, none⟩) zs.length cap] w fun e w' => e = .returned (.slice (some ⟨blk, off, none⟩) (cp zs).length cap) ∧ ∃ n, w' = putRow (Value.int .i64) (Sort.ahead w n) blk off (cp zs ++ List.replicate (zs.length - (cp zs).length) 0).toArray)
    (h0 : ∀ (p : Option Addr) (cap : Nat) (w : World), Calls P f #[.slice p 0 cap] w fun e w' => e = .returned (.slice p 0 cap) ∧ w' = w)
    (ver : Nat) (l : List Int) (hl : l.length ≤ 9223372036854775807) : HCall P f [.own 0 ver 0 l.length 1] [.cells ver (l.map I)] (.own 0 ver 0 (cp l).length 1) [.cells ver ((cp l ++ List.replicate (l.length - (cp l).length) 0).map I)] := by
  refine ⟨by simp, by simp, by simp, rfl, by simp, he, fun Z κ w cargs r hr => ?_⟩
  cases hr with
  | cons h1 h2 =>
  cases h2
  have h1' := h1
  cases h1 with
  | @own _ _ _ _ _ A cap hn hcap hA h2 =>
  obtain ⟨ob, sz, hk, hblk⟩ := r.blk 0 _ rfl
  have h2o := h2
  simp only [refOk, hk] at h2
  have h2 := h2.2 trivial
  by_cases hl0 : l = []
  · subst hl0
    have hc : cp [] = [] := List.eq_nil_of_length_eq_zero (by have := hcp []; simpa using this)
    refine (h0 A cap w).mono ?_
    rintro e w' ⟨rfl, rfl⟩
    refine ⟨_, _, Z, κ, _, ⟨rfl, rfl⟩, rfl, ?_, ?_, .refl _ _ _, .refl _ _⟩
    · rw [hc]; exact r
    · rw [hc]; exact h1'
  have hlen : 0 < l.length := List.length_pos_iff.2 hl0
  cases ob with
  | none => obtain ⟨_, q, _⟩ := h2; omega
  | some b =>
  obtain ⟨e1, _, ⟨a, rfl, ha⟩, e2⟩ := h2
  obtain rfl := ha (by omega)
  obtain ⟨c, E, us, ⟨fr, g1, gf⟩, g2, g3, g4, g5⟩ := hblk
  have hus := ints_of g5
  subst hus
  simp only [Nat.zero_mul] at h2o h1' ⊢
  refine (hs b 0 cap l w (fun j hj => ?_) hl hn).mono ?_
  · have hj' : j < l.length := by simpa using hj
    have := g4 j (Value.int .i64 l[j]) (by simp [hj'])
    refine ⟨?_, ?_⟩
    · simp only [World.cell?, g1, Nat.zero_add]
      simp [this, hj']
    · rcases gf with rfl | ⟨_, gf⟩
      · simp [World.frozen?, g1]
      · have : j < c.size := by simp at g3; omega
        simp [World.frozen?, g1]; intro; omega
  rintro e w' ⟨rfl, n, rfl⟩
  generalize hrr : cp l ++ List.replicate (l.length - (cp l).length) 0 = rr
  have hsl : rr.length = l.length := by rw [← hrr]; have := hcp l; simp; omega
  have eg : putRow (Value.int .i64) (Sort.ahead w n) b 0 rr.toArray = Go.Sort.grow (putRow (Value.int .i64) (Sort.ahead w n) b 0 rr.toArray) #[] := by simp
  rw [eg]
  have hal : alive κ b := ⟨0, ver, sz, hk⟩
  have hsz : w.heap.size ≤ (Go.Sort.grow (putRow (Value.int .i64) (Sort.ahead w n) b 0 rr.toArray) #[]).heap.size := by rw [Go.Sort.size_grow, size_putRow]; exact Nat.le_add_right _ _
  have ex : Ext Z κ w Z κ (Go.Sort.grow (putRow (Value.int .i64) (Sort.ahead w n) b 0 rr.toArray) #[]) :=
    ⟨rfl, rfl, rfl, hsz, fun b' hb' hn' => heap_putRow_ne _ _ _ _ _ _ _ hb' (fun e => hn' (e ▸ hal)), fun _ h => h, fun _ h => .inl h, fun _ h => .inl h⟩
  refine ⟨_, _, Z, κ, _, ⟨rfl, rfl⟩, rfl, ⟨fun b' hz => Nat.lt_of_lt_of_le (r.zlt b' hz) hsz, r.za, fun id hid => r.hole id hid, fun id x hx => ?_, r.inj⟩, .own (by have := hcp l; omega) hcap (by simp) ?_, ex, .refl _ _⟩
  · cases id with
    | succ id => simp at hx
    | zero =>
      simp at hx
      subst hx
      refine ⟨some b, sz, hk, putCells (Value.int .i64) 0 rr.toArray c, E, rr.map (Value.int .i64), ⟨fr, heap_putRow_same _ _ _ _ _ _ _ g1, by simpa [putCells] using gf⟩, ?_, ?_, ?_, ints_rs _⟩
      · simpa [putCells] using g2
      · have : (l.map (Value.int .i64)).length = l.length := by simp
        simp [putCells, hsl]; omega
      · intro j u hj
        have hj1 : j < rr.length := by have := (List.getElem?_eq_some_iff.1 hj).1; simpa using this
        have hjc : j < c.size := by simp at g3; omega
        simp only [putCells, Array.getElem?_mapIdx, Array.getElem?_eq_getElem hjc, Option.map_some, Nat.zero_le, true_and, Nat.zero_add, List.size_toArray, Nat.sub_zero]
        rw [if_pos hj1]
        rw [List.getElem?_map, List.getElem?_eq_getElem hj1] at hj
        simp only [Option.map_some] at hj
        rw [← hj]
        rw [getElem!_pos _ j (by simpa using hj1)]
        simp
  · simp only [refOk, hk]
    exact ⟨Nat.le_refl _, fun _ => ⟨by simpa using e1, by omega, ⟨_, rfl, fun _ => by simp⟩, e2⟩⟩
end Go.Cx
