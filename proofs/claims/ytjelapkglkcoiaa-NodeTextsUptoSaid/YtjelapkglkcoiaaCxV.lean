/- Strings, bytes, numbers without a sign, as equations. -/
import Derived.Test.YtjelapkglkcoiaaCxT
set_option linter.unusedVariables false
set_option linter.unusedSimpArgs false
namespace Go.Cx
variable {P : Program} {lit : TypeId → Bool} {n : Nat}

/-! ### bytes -/
abbrev yb (b : UInt8) : AV := .val (.int .u8 (b.toNat : Int))
@[simp] theorem u8s_nil : u8s [] = some [] := rfl
theorem u8s_cons (k : Int) (l : List AV) : u8s (.val (.int .u8 k) :: l) = (u8s l).map (UInt8.ofNat k.toNat :: ·) := by rw [u8s]
@[simp] theorem u8s_yb (l : List UInt8) : u8s (l.map yb) = some l := by
  induction l with
  | nil => rfl
  | cons b l ih => rw [List.map_cons, u8s_cons, ih]; simp
@[simp] theorem u8s_one (k : Int) : u8s [.val (.int .u8 k)] = some [UInt8.ofNat k.toNat] := by rw [u8s_cons]; rfl
theorem u8s_app : ∀ {a b : List AV} {x y : List UInt8}, u8s a = some x → u8s b = some y → u8s (a ++ b) = some (x ++ y)
  | [], b, x, y, ha, hb => by simp at ha; subst ha; simpa using hb
  | v :: a, b, x, y, ha, hb => by
    unfold u8s at ha
    split at ha
    · rename_i e; cases e
    · rename_i k a' e
      injection e with e1 e2
      subst e1 e2
      obtain ⟨x', hx, rfl⟩ := Option.map_eq_some_iff.1 ha
      rw [List.cons_append, u8s_cons, u8s_app hx hb]; rfl
    · cases ha
@[simp] theorem u8s_snoc (l : List UInt8) (k : Int) : u8s (l.map yb ++ [.val (.int .u8 k)]) = some (l ++ [UInt8.ofNat k.toNat]) := u8s_app (u8s_yb l) (u8s_one k)
@[simp] theorem u8s_both (l m : List UInt8) : u8s (l.map yb ++ m.map yb) = some (l ++ m) := u8s_app (u8s_yb l) (u8s_yb m)
@[simp] theorem isU8_u8 : isU8 (.int .u8) = true := rfl
@[simp] theorem isStr_s : isStr .string = true := rfl
attribute [simp] aconvB
@[simp high] theorem take_map1 {α β : Type} (f : α → β) (l : List α) (b : β) : List.take (l.length + 1) (l.map f ++ [b]) = l.map f ++ [b] := List.take_of_length_le (by simp)
@[simp high] theorem take_map0 {α β : Type} (f : α → β) (l : List α) : List.take l.length (l.map f) = l.map f := List.take_of_length_le (by simp)
@[simp] theorem all_ybs (l : List UInt8) : (l.map yb).all neat = true := by simp
@[simp high] theorem one_ybs (l : List UInt8) : (l.map yb).all isOne = true := by simp [isOne]

/-! ### strings -/
abbrev T (l : List UInt8) : ByteArray := ⟨l.toArray⟩
theorem T_data (s : ByteArray) : T s.data.toList = s := by cases s; rfl
theorem T_app (a b : List UInt8) : T a ++ T b = T (a ++ b) := by
  apply ByteArray.ext
  rw [ByteArray.data_append]
  simp
theorem T_size (a : List UInt8) : (T a).size = a.length := rfl
theorem T_inj {a b : List UInt8} : T a = T b ↔ a = b := by
  constructor
  · intro h
    have := congrArg (fun s : ByteArray => s.data.toList) h
    simpa using this
  · rintro rfl; rfl
theorem T_ext (a : List UInt8) (i j : Nat) : (T a).extract i j = T ((a.take j).drop i) := by
  apply ByteArray.ext
  rw [ByteArray.data_extract]
  apply Array.ext'
  simp [List.drop_take]

theorem pr_rtB {α : Type} (x y : Int) (b : Bool) (c : BoundsCode) : pr P (runtimePanic (.bounds x y b c) : Sem α) = none := by
  unfold runtimePanic
  rw [pr_bind]
  cases pr P program with
  | none => rfl
  | some p => rfl
theorem pr_rt {α : Type} (m : String) : pr P (runtimePanic (.error m) : Sem α) = none := by
  unfold runtimePanic
  rw [pr_bind]
  cases pr P program with
  | none => rfl
  | some p => rfl
theorem pr_bounds {α : Type} (k : IntKind) (x y : Int) (c : BoundsCode) : pr P (boundsPanic k x y c : Sem α) = none := by
  unfold boundsPanic
  dsimp only
  rw [pr_ite]
  simp only [pr_bind]
  have : ∀ o : Option Bool, (o.bind fun s => pr P (runtimePanic (.bounds (IntKind.i64.wrap x) y s c) : Sem α)) = none := by
    intro o
    cases o with
    | none => rfl
    | some b => exact pr_rtB (P := P) (IntKind.i64.wrap x) y b c
  split
  · exact this _
  · exact this _
theorem pr_bound (k : IntKind) (x : Int) (top : Nat) (f : BoundsCode) : pr P (Instr.sliceBound (.int k x) top f) = if 0 ≤ x ∧ x ≤ top then some x.toNat else none := by
  unfold Instr.sliceBound
  simp only [asIntOf, pr_bind, pr_pure, Option.bind_some, pr_ite, pr_bounds]

/-- The byte at a place. -/
def byteAt (s : ByteArray) (i : Nat) : Nat := (s.data.toList.getD i 0).toNat
theorem byteAt_lt (s : ByteArray) (i : Nat) : byteAt s i < 256 := (s.data.toList.getD i 0).toNat_lt
section
variable {t : TypeId} (ht : P.underlying t = some .string) (s : ByteArray) (i lo hi : Int) (k k' : IntKind)
include ht
@[simp] theorem index_str : aindexV P t (.val (.string s)) (.val (.int k i)) = if 0 ≤ i ∧ i < s.size then some (.val (.int .u8 (byteAt s i.toNat))) else none := by
  have hu := pr_underlying (P := P) ht
  by_cases h0 : 0 ≤ i
  · by_cases h1 : i < s.size
    · have hlt : i.toNat < s.size := by omega
      have hg : s[i.toNat]? = some (s[i.toNat]'hlt) := getElem?_pos s i.toNat hlt
      have hb : byteAt s i.toNat = (s[i.toNat]'hlt).toNat := by
        have hl : i.toNat < s.data.toList.length := by simpa using hlt
        unfold byteAt
        rw [List.getD_eq_getElem?_getD, List.getElem?_eq_getElem hl]
        rfl
      rw [if_pos ⟨h0, h1⟩, hb]
      simp only [aindexV, conc, Instr.index, asIntOf, pr_bind, pr_pure, Option.bind_some, hu, if_pos h0, hg, Option.map_some, ofV, cellV]
    · rw [if_neg (by omega)]
      have hg : s[i.toNat]? = none := getElem?_neg s i.toNat (by have : ¬ i.toNat < s.size := by omega
                                                                 exact this)
      simp only [aindexV, conc, Instr.index, asIntOf, pr_bind, pr_pure, Option.bind_some, hu, if_pos h0, hg, pr_bounds, Option.map_none]
  · rw [if_neg (by omega)]
    simp only [aindexV, conc, Instr.index, asIntOf, pr_bind, pr_pure, Option.bind_some, hu, if_neg h0, pr_bounds, Option.map_none]
@[simp] theorem slice_from : asliceV P t (.val (.string s)) (some (.val (.int k lo))) none none = if 0 ≤ lo ∧ lo ≤ s.size then some (.val (.string (s.extract lo.toNat s.size))) else none := by
  have hu := pr_underlying (P := P) ht
  simp only [asliceV, conc, concO, Option.map_some, Option.bind_some, Instr.sliceAt, Instr.slice, Instr.sliceBounds, pr_bind, pr_pure, hu, Option.isSome_none, Bool.false_eq_true, if_false, pr_bound]
  by_cases h : 0 ≤ lo ∧ lo ≤ s.size
  · simp [h, ofV, cellV]
  · simp [h]
@[simp] theorem slice_to : asliceV P t (.val (.string s)) none (some (.val (.int k hi))) none = if 0 ≤ hi ∧ hi ≤ s.size then some (.val (.string (s.extract 0 hi.toNat))) else none := by
  have hu := pr_underlying (P := P) ht
  simp only [asliceV, conc, concO, Option.map_some, Option.bind_some, Instr.sliceAt, Instr.slice, Instr.sliceBounds, pr_bind, pr_pure, hu, Option.isSome_none, Bool.false_eq_true, if_false, pr_bound]
  by_cases h : 0 ≤ hi ∧ hi ≤ s.size
  · simp [h, ofV, cellV]
  · simp [h]
@[simp] theorem slice_both : asliceV P t (.val (.string s)) (some (.val (.int k lo))) (some (.val (.int k' hi))) none = if (0 ≤ hi ∧ hi ≤ s.size) ∧ 0 ≤ lo ∧ lo ≤ hi then some (.val (.string (s.extract lo.toNat hi.toNat))) else none := by
  have hu := pr_underlying (P := P) ht
  simp only [asliceV, conc, concO, Option.map_some, Option.bind_some, Instr.sliceAt, Instr.slice, Instr.sliceBounds, pr_bind, pr_pure, hu, Option.isSome_none, Bool.false_eq_true, if_false, pr_bound]
  by_cases h : 0 ≤ hi ∧ hi ≤ s.size
  · have e : max hi 0 = hi := by omega
    by_cases h2 : 0 ≤ lo ∧ lo ≤ hi
    · simp [h, e, h2, ofV, cellV]
    · have e2 : ¬ (0 ≤ lo ∧ lo ≤ (hi.toNat : Int)) := by omega
      have e3 : ¬ ((0 ≤ hi ∧ hi ≤ (s.size : Int)) ∧ 0 ≤ lo ∧ lo ≤ hi) := by omega
      rw [if_pos h, if_neg e3]
      simp only [Option.bind_some]
      rw [if_neg e2]
      rfl
  · simp [h]
end

/-! ### comparisons of strings -/
def strLt (x y : ByteArray) : Bool := Op.bytesLess x.toList y.toList
section
variable (t : TypeId) (ox oy : Operand) (x y : ByteArray)
@[simp] theorem bins_lss : abin P .lss t ox oy (.val (.string x)) (.val (.string y)) = some (.val (.bool (strLt x y))) := by simp [abin, conc, eqGuard, binOp, Op.stringOp, ofV, cellV, strLt]
@[simp] theorem bins_geq : abin P .geq t ox oy (.val (.string x)) (.val (.string y)) = some (.val (.bool (!strLt x y))) := by simp [abin, conc, eqGuard, binOp, Op.stringOp, ofV, cellV, strLt]
@[simp] theorem bins_leq : abin P .leq t ox oy (.val (.string x)) (.val (.string y)) = some (.val (.bool (strLt x y || decide (x = y)))) := by rw [← str_beq]; simp [abin, conc, eqGuard, binOp, Op.stringOp, ofV, cellV, strLt]
@[simp] theorem bins_gtr : abin P .gtr t ox oy (.val (.string x)) (.val (.string y)) = some (.val (.bool (!(strLt x y || decide (x = y))))) := by rw [← str_beq]; simp [abin, conc, eqGuard, binOp, Op.stringOp, ofV, cellV, strLt]
end

/-! ### numbers without a sign -/
def bAnd (k : IntKind) (a b : Int) : Int := k.wrap (BitVec.ofInt k.bits a &&& BitVec.ofInt k.bits b).toNat
def bOr (k : IntKind) (a b : Int) : Int := k.wrap (BitVec.ofInt k.bits a ||| BitVec.ofInt k.bits b).toNat
def bXor (k : IntKind) (a b : Int) : Int := k.wrap (BitVec.ofInt k.bits a ^^^ BitVec.ofInt k.bits b).toNat
theorem ofInt_nat {w : Nat} {a : Int} (h0 : 0 ≤ a) (h1 : a < (2 ^ w : Nat)) : (BitVec.ofInt w a).toNat = a.toNat := by
  rw [BitVec.toNat_ofInt, Int.emod_eq_of_lt h0 h1]
theorem wrap_lt {k : IntKind} (hk : k = .u8 ∨ k = .u32 ∨ k = .u64) {n : Nat} (h : n < 2 ^ k.bits) : k.wrap (n : Int) = n := by
  rcases hk with rfl | rfl | rfl <;> simp [IntKind.wrap, IntKind.bits, IntKind.signed] at h ⊢ <;> omega
section
variable {k : IntKind} {a b : Int} (hk : k = .u8 ∨ k = .u32 ∨ k = .u64) (ha0 : 0 ≤ a) (ha : a < (2 ^ k.bits : Nat)) (hb0 : 0 ≤ b) (hb : b < (2 ^ k.bits : Nat))
include hk ha0 ha hb0 hb
theorem bAnd_nat : bAnd k a b = ((a.toNat &&& b.toNat : Nat) : Int) := by
  unfold bAnd
  rw [BitVec.toNat_and, ofInt_nat ha0 ha, ofInt_nat hb0 hb]
  exact wrap_lt hk (Nat.and_lt_two_pow _ (by omega))
theorem bOr_nat : bOr k a b = ((a.toNat ||| b.toNat : Nat) : Int) := by
  unfold bOr
  rw [BitVec.toNat_or, ofInt_nat ha0 ha, ofInt_nat hb0 hb]
  exact wrap_lt hk (Nat.or_lt_two_pow (by omega) (by omega))
theorem bXor_nat : bXor k a b = ((a.toNat ^^^ b.toNat : Nat) : Int) := by
  unfold bXor
  rw [BitVec.toNat_xor, ofInt_nat ha0 ha, ofInt_nat hb0 hb]
  exact wrap_lt hk (Nat.xor_lt_two_pow (by omega) (by omega))
end
theorem and127 (n : Nat) : n &&& 127 = n % 128 := Nat.and_two_pow_sub_one_eq_mod n 7
theorem or_shl {a b i : Nat} (h : a < 2 ^ i) : a ||| b * 2 ^ i = a + b * 2 ^ i := by
  rw [Nat.or_comm, Nat.mul_comm, ← Nat.two_pow_add_eq_or_of_lt h, Nat.add_comm]
@[simp] theorem fdiv_nat (n k : Nat) : (n : Int).fdiv (no_index (@OfNat.ofNat Int k instOfNat)) = ((n / (@OfNat.ofNat Nat k (instOfNatNat k)) : Nat) : Int) := by
  show (n : Int).fdiv ((k : Nat) : Int) = ((n / k : Nat) : Int)
  rw [Int.fdiv_eq_ediv_of_nonneg _ (Int.natCast_nonneg _)]; rfl
section
variable (t : TypeId) (ox oy : Operand) (k k' : IntKind) (a b : Int)
@[simp] theorem bin_and : abin P .and t ox oy (.val (.int k a)) (.val (.int k b)) = some (.val (.int k (bAnd k a b))) := by simp [abin, conc, eqGuard, binOp, Op.intBits, ofV, cellV, bAnd]
@[simp] theorem bin_or : abin P .or t ox oy (.val (.int k a)) (.val (.int k b)) = some (.val (.int k (bOr k a b))) := by simp [abin, conc, eqGuard, binOp, Op.intBits, ofV, cellV, bOr]
@[simp] theorem bin_xor : abin P .xor t ox oy (.val (.int k a)) (.val (.int k b)) = some (.val (.int k (bXor k a b))) := by simp [abin, conc, eqGuard, binOp, Op.intBits, ofV, cellV, bXor]
@[simp] theorem bin_quo : abin P .quo t ox oy (.val (.int k a)) (.val (.int k b)) = if b = 0 then none else some (.val (.int k (k.wrap (a.tdiv b)))) := by
  simp only [abin, conc, eqGuard, binOp, Op.intDiv, pr_bind, pr_pure, Option.bind_some, pr_ite, pr_rt]
  by_cases h : b = 0 <;> simp [h, ofV, cellV]
@[simp] theorem bin_rem : abin P .rem t ox oy (.val (.int k a)) (.val (.int k b)) = if b = 0 then none else some (.val (.int k (a.tmod b))) := by
  simp only [abin, conc, eqGuard, binOp, Op.intDiv, pr_bind, pr_pure, Option.bind_some, pr_ite, pr_rt]
  by_cases h : b = 0 <;> simp [h, ofV, cellV]
@[simp] theorem bins_plus (x y : ByteArray) : abin P .add t ox oy (.val (.string x)) (.val (.string y)) = if x.size + y.size ≤ 9223372036854775807 then some (.val (.string (x ++ y))) else none := by
  by_cases h : x.size + y.size ≤ 9223372036854775807
  · rw [if_pos h]; exact bins_add t ox oy (by omega)
  · have h1 : ((9223372036854775807 : Int) < (x.size : Int) + (y.size : Int)) := by omega
    rw [if_neg h]
    simp [abin, conc, eqGuard, binOp, Op.stringOp, pr_ite, h1]
    rfl
@[simp] theorem tdiv_nat (n k : Nat) : (n : Int).tdiv (no_index (@OfNat.ofNat Int k instOfNat)) = ((n / (@OfNat.ofNat Nat k (instOfNatNat k)) : Nat) : Int) := by
  show (n : Int).tdiv ((k : Nat) : Int) = ((n / k : Nat) : Int)
  rfl
@[simp] theorem tmod_nat (n k : Nat) : (n : Int).tmod (no_index (@OfNat.ofNat Int k instOfNat)) = ((n % (@OfNat.ofNat Nat k (instOfNatNat k)) : Nat) : Int) := by
  show (n : Int).tmod ((k : Nat) : Int) = ((n % k : Nat) : Int)
  rfl
@[simp] theorem bin_shl : abin P .shl t ox oy (.val (.int k a)) (.val (.int k' b)) = if b < 0 then none else some (.val (.int k (k.wrap (a * 2 ^ min b.toNat k.bits)))) := by
  simp only [abin, conc, eqGuard, binOp, Op.shift, pr_bind, pr_pure, Option.bind_some, pr_ite, pr_rt]
  by_cases h : b < 0 <;> simp [h, ofV, cellV]
@[simp] theorem bin_shr : abin P .shr t ox oy (.val (.int k a)) (.val (.int k' b)) = if b < 0 then none else some (.val (.int k (a.fdiv (2 ^ min b.toNat k.bits)))) := by
  simp only [abin, conc, eqGuard, binOp, Op.shift, pr_bind, pr_pure, Option.bind_some, pr_ite, pr_rt]
  by_cases h : b < 0 <;> simp [h, ofV, cellV]
end
section
variable {src dst : TypeId} {k' : IntKind} (hs : (P.underlying src).isSome = true) (hd : P.underlying dst = some (.int k')) (k : IntKind) (a : Int)
include hs hd
@[simp] theorem conv_int : aconv P src dst (.val (.int k a)) = some (.val (.int k' (k'.wrap a))) := by
  obtain ⟨u, hs⟩ := Option.isSome_iff_exists.1 hs
  simp only [aconv, conc, convert, pr_bind, pr_underlying hs, pr_underlying hd, Option.bind_some, Conv.intToInt, pr_pure, Option.map_some, ofV, cellV]
end
@[simp] theorem wrap_u8 (a : Int) : IntKind.u8.wrap a = a % 256 := by
  simp [IntKind.wrap, IntKind.bits, IntKind.signed]
@[simp] theorem wrap_u64 (a : Int) : IntKind.u64.wrap a = a % 18446744073709551616 := by
  simp [IntKind.wrap, IntKind.bits, IntKind.signed]
@[simp] theorem wrap_u32 (a : Int) : IntKind.u32.wrap a = a % 4294967296 := by
  simp [IntKind.wrap, IntKind.bits, IntKind.signed]
@[simp] theorem wrap_l0 : IntKind.i64.wrap 0 = 0 := by decide
@[simp] theorem wrap_l1 : IntKind.i64.wrap 1 = 1 := by decide
@[simp] theorem wrap_l2 : IntKind.i64.wrap 2 = 2 := by decide
@[simp] theorem wrap_l3 : IntKind.i64.wrap 3 = 3 := by decide
@[simp] theorem wrap_l4 : IntKind.i64.wrap 4 = 4 := by decide
@[simp] theorem wrap_l5 : IntKind.i64.wrap 5 = 5 := by decide
@[simp] theorem wrap_l6 : IntKind.i64.wrap 6 = 6 := by decide
@[simp] theorem wrap_l7 : IntKind.i64.wrap 7 = 7 := by decide
@[simp] theorem wrap_l8 : IntKind.i64.wrap 8 = 8 := by decide
@[simp] theorem wrap_l9 : IntKind.i64.wrap 9 = 9 := by decide
@[simp] theorem wrap_l10 : IntKind.i64.wrap 10 = 10 := by decide
@[simp] theorem wrap_l11 : IntKind.i64.wrap 11 = 11 := by decide
@[simp] theorem wrap_l12 : IntKind.i64.wrap 12 = 12 := by decide
@[simp] theorem wrap_l13 : IntKind.i64.wrap 13 = 13 := by decide
@[simp] theorem wrap_l14 : IntKind.i64.wrap 14 = 14 := by decide
@[simp] theorem wrap_l15 : IntKind.i64.wrap 15 = 15 := by decide
@[simp] theorem wrap_l16 : IntKind.i64.wrap 16 = 16 := by decide
@[simp] theorem wrap_l17 : IntKind.i64.wrap 17 = 17 := by decide
@[simp] theorem wrap_l18 : IntKind.i64.wrap 18 = 18 := by decide
@[simp] theorem wrap_l19 : IntKind.i64.wrap 19 = 19 := by decide
@[simp] theorem wrap_l20 : IntKind.i64.wrap 20 = 20 := by decide
@[simp] theorem wrap_l21 : IntKind.i64.wrap 21 = 21 := by decide
@[simp] theorem wrap_l22 : IntKind.i64.wrap 22 = 22 := by decide
@[simp] theorem wrap_l23 : IntKind.i64.wrap 23 = 23 := by decide
@[simp] theorem wrap_l24 : IntKind.i64.wrap 24 = 24 := by decide
@[simp] theorem wrap_l25 : IntKind.i64.wrap 25 = 25 := by decide
@[simp] theorem wrap_l26 : IntKind.i64.wrap 26 = 26 := by decide
@[simp] theorem wrap_l27 : IntKind.i64.wrap 27 = 27 := by decide
@[simp] theorem wrap_l28 : IntKind.i64.wrap 28 = 28 := by decide
@[simp] theorem wrap_l29 : IntKind.i64.wrap 29 = 29 := by decide
@[simp] theorem wrap_l30 : IntKind.i64.wrap 30 = 30 := by decide
@[simp] theorem wrap_l31 : IntKind.i64.wrap 31 = 31 := by decide
@[simp] theorem wrap_l32 : IntKind.i64.wrap 32 = 32 := by decide
@[simp] theorem wrap_l33 : IntKind.i64.wrap 33 = 33 := by decide
@[simp] theorem wrap_l34 : IntKind.i64.wrap 34 = 34 := by decide
@[simp] theorem wrap_l35 : IntKind.i64.wrap 35 = 35 := by decide
@[simp] theorem wrap_l36 : IntKind.i64.wrap 36 = 36 := by decide
@[simp] theorem wrap_l37 : IntKind.i64.wrap 37 = 37 := by decide
@[simp] theorem wrap_l38 : IntKind.i64.wrap 38 = 38 := by decide
@[simp] theorem wrap_l39 : IntKind.i64.wrap 39 = 39 := by decide
@[simp] theorem wrap_l40 : IntKind.i64.wrap 40 = 40 := by decide
@[simp] theorem wrap_lm1 : IntKind.i64.wrap (-1) = -1 := by decide
@[simp] theorem bits_u64 : IntKind.u64.bits = 64 := rfl
@[simp] theorem bits_u32 : IntKind.u32.bits = 32 := rfl
@[simp] theorem bits_u8 : IntKind.u8.bits = 8 := rfl
@[simp] theorem bits_i64 : IntKind.i64.bits = 64 := rfl
@[simp] theorem cast_eq_lit (n k : Nat) : ((n : Int) = (no_index (@OfNat.ofNat Int k instOfNat))) = (n = @OfNat.ofNat Nat k (instOfNatNat k)) := propext Int.ofNat_inj
@[simp] theorem lit_eq_cast (n k : Nat) : ((no_index (@OfNat.ofNat Int k instOfNat)) = (n : Int)) = (@OfNat.ofNat Nat k (instOfNatNat k) = n) := propext Int.ofNat_inj
end Go.Cx
