/- What is handed back, as equations. -/
import Derived.Test.YtjelapkglkcoiaaCxN
import Derived.IntWalk
set_option linter.unusedVariables false
set_option linter.unusedSimpArgs false
namespace Go.Cx
variable {P : Program} {h : AHeap} {n f : Nat}

theorem frz_all {cs : List AV} (hc : cs.all neat = true) : cs.mapM (frz h n (f + 1)) = some cs := by
  induction cs with
  | nil => rfl
  | cons a cs ih =>
    simp only [List.all_cons, Bool.and_eq_true] at hc
    simp [List.mapM_cons, frz_neat _ _ _ hc.1, ih hc.2]
/-- The same, one by one. -/
def frzs (h : AHeap) (n f : Nat) (cs : List AV) : Option (List AV) := cs.mapM (frz h n f)
@[simp] theorem frzs_nil : frzs h n f [] = some [] := rfl
@[simp] theorem frzs_cons (a : AV) (cs : List AV) : frzs h n f (a :: cs) = (frz h n f a).bind fun a => (frzs h n f cs).map fun cs => a :: cs := by
  simp only [frzs, List.mapM_cons]
  cases frz h n f a with
  | none => rfl
  | some x => cases List.mapM (frz h n f) cs <;> rfl
theorem frzs_neat {cs : List AV} (hc : cs.all neat = true) : frzs h n (f + 1) cs = some cs := frz_all hc
@[simp] theorem frz_val (v : Value) : frz h n (f + 1) (.val v) = some (.val v) := frz_neat _ _ _ (by simp)
@[simp] theorem frz_any : frz h n (f + 1) .any = some .any := frz_neat _ _ _ (by simp)
@[simp] theorem frz_agg (cs : List AV) : frz h n (f + 2) (.agg cs) = (frzs h n (f + 1) cs).map .agg := by
  rw [frz]
  split
  · rename_i hn
    rw [neat_agg] at hn
    rw [frzs_neat hn]; rfl
  · rfl
@[simp] theorem frz_tup (cs : List AV) : frz h n (f + 2) (.tup cs) = (frzs h n (f + 1) cs).map .tup := by
  rw [frz]
  split
  · rename_i hn
    rw [neat_tup] at hn
    rw [frzs_neat hn]; rfl
  · rfl
@[simp] theorem frz_fn (g : FuncId) (cs : List AV) : frz h n (f + 2) (.fn g cs) = (frzs h n (f + 1) cs).map (.fn g) := by
  rw [frz]
  split
  · rename_i hn
    rw [neat_fn] at hn
    rw [frzs_neat hn]; rfl
  · rfl
@[simp] theorem frz_sl {t : Bool} {k : Nat} {cs : List AV} (hc : cs.all neat = true) : frz h n (f + 2) (.sl t k cs) = some (.sl false k cs) := by
  rw [frz]
  split
  · rename_i hn
    rw [neat_sl] at hn
    simp only [Bool.and_eq_true, Bool.not_eq_true'] at hn
    rw [hn.1]
  · show (cs.mapM (frz h n (f + 1))).map (AV.sl false k) = _
    rw [frz_all hc]; rfl
@[simp] theorem frz_sl0 {t : Bool} : frz h n (f + 2) (.sl t 0 []) = some (.sl false 0 []) := frz_sl rfl
theorem frz_slm (t : Bool) (k : Nat) (cs : List AV) : frz h n (f + 2) (.sl t k cs) = (frzs h n (f + 1) cs).map (.sl false k) := by
  rw [frz]
  split
  · rename_i hn
    rw [neat_sl] at hn
    simp only [Bool.and_eq_true, Bool.not_eq_true'] at hn
    rw [frzs_neat hn.2, hn.1]; rfl
  · rfl
def frzOwn (h : AHeap) (f ver off m k : Nat) : Option ABlk → Option AV
  | some (.cells ver' cs) => if ver = ver' ∧ (off + m) * k ≤ cs.length then (if m = 0 then some (.sl false 0 []) else (frzs h 0 f ((cs.drop (off * k)).take (m * k))).map (.sl false m)) else none
  | _ => none
@[simp] theorem frz_own (id ver off m k : Nat) : frz h 0 (f + 1) (.own id ver off m k) = frzOwn h f ver off m k h[id]? := by
  rw [frz]
  simp only [neat_own, Bool.false_eq_true, if_false, Nat.not_lt_zero]
  cases h[id]? with
  | none => rfl
  | some b => cases b <;> rfl
def frzMp (h : AHeap) (f : Nat) : Option ABlk → Option AV
  | some (.map ks vs) => (frzs h 0 f ks).bind fun ks => (frzs h 0 f vs).map (.fmap ks)
  | _ => none
@[simp] theorem frz_mp (id : Nat) : frz h 0 (f + 1) (.mp id) = frzMp h f h[id]? := by
  rw [frz]
  simp only [neat_mp, Bool.false_eq_true, if_false, Nat.not_lt_zero]
  cases h[id]? with
  | none => rfl
  | some b => cases b <;> rfl
@[simp] theorem frzMp_eq (ks vs : List AV) : frzMp h f (some (.map ks vs)) = (frzs h 0 f ks).bind fun ks => (frzs h 0 f vs).map (.fmap ks) := rfl
def frzPtr (h : AHeap) (f ver off : Nat) : Option ABlk → Option AV
  | some (.cells ver' cs) => if ver = ver' then (frzs h 0 f (cs.drop off)).map .fp else none
  | _ => none
@[simp] theorem frz_ptr (id ver off : Nat) : frz h 0 (f + 1) (.ptr id ver off) = frzPtr h f ver off h[id]? := by
  rw [frz]
  simp only [neat_ptr, Bool.false_eq_true, if_false, Nat.not_lt_zero]
  cases h[id]? with
  | none => rfl
  | some b => cases b <;> rfl
@[simp] theorem frzPtr_eq (ver off ver' : Nat) (cs : List AV) : frzPtr h f ver off (some (.cells ver' cs)) = if ver = ver' then (frzs h 0 f (cs.drop off)).map .fp else none := rfl
/-- A row in a block of one's own, whose cells hold nothing of one's own. -/
theorem frzOwn_neat {ver m k : Nat} {cs : List AV} (hc : cs.all neat = true) (hl : cs.length = m * k) : frzOwn h (f + 1) ver 0 m k (some (.cells ver cs)) = some (.sl false m cs) := by
  simp only [frzOwn, true_and, Nat.zero_add, Nat.zero_mul, List.drop_zero]
  rw [if_pos (by omega)]
  split
  · rename_i h0
    subst h0
    have : cs = [] := List.eq_nil_of_length_eq_zero (by rw [hl]; simp)
    rw [this]
  · rw [List.take_of_length_le (by omega), frzs_neat hc]; rfl

/-! ### what no row can be longer than -/
def fits : AV → Bool
  | .val _ | .any => true
  | .agg cs => cs.attach.all fun ⟨c, _⟩ => fits c
  | .tup cs => cs.attach.all fun ⟨c, _⟩ => fits c
  | .sl _ n cs => decide (n ≤ maxLen) && cs.attach.all fun ⟨c, _⟩ => fits c
  | .fp cs => cs.attach.all fun ⟨c, _⟩ => fits c
  | .fn _ cs => cs.attach.all fun ⟨c, _⟩ => fits c
  | .fmap ks vs => (ks.attach.all fun ⟨c, _⟩ => fits c) && (vs.attach.all fun ⟨c, _⟩ => fits c)
  | .own _ _ _ n _ => decide (n ≤ maxLen)
  | .ptr .. | .mp .. => true
@[simp] theorem fits_val (v : Value) : fits (.val v) = true := by simp [fits]
@[simp] theorem fits_any : fits .any = true := by simp [fits]
@[simp] theorem fits_agg (cs : List AV) : fits (.agg cs) = cs.all fits := by rw [fits, all_attach]
@[simp] theorem fits_tup (cs : List AV) : fits (.tup cs) = cs.all fits := by rw [fits, all_attach]
@[simp] theorem fits_sl (t : Bool) (n : Nat) (cs : List AV) : fits (.sl t n cs) = (decide (n ≤ maxLen) && cs.all fits) := by rw [fits, all_attach]
@[simp] theorem fits_fp (cs : List AV) : fits (.fp cs) = cs.all fits := by rw [fits, all_attach]
@[simp] theorem fits_fn (f : FuncId) (cs : List AV) : fits (.fn f cs) = cs.all fits := by rw [fits, all_attach]
@[simp] theorem fits_fmap (ks vs : List AV) : fits (.fmap ks vs) = (ks.all fits && vs.all fits) := by rw [fits, all_attach, all_attach]
@[simp] theorem fits_own (id ver off n k : Nat) : fits (.own id ver off n k) = decide (n ≤ maxLen) := by rw [fits]
@[simp] theorem fits_ptr (id ver off : Nat) : fits (.ptr id ver off) = true := by rw [fits]
@[simp] theorem fits_mp (id : Nat) : fits (.mp id) = true := by rw [fits]

mutual
theorem R.fits {Z : Nat → Prop} {w : World} {κ : Nat → Slot} : ∀ {a : AV} {v : Value}, R Z w κ a v → Cx.fits a = true
  | _, _, .val _ => fits_val _
  | _, _, .any => fits_any
  | _, _, .agg h => by rw [fits_agg]; exact h.fits
  | _, _, .tup h => by rw [fits_tup]; exact h.fits
  | _, _, .sl0 _ _ => by simp
  | _, _, .sl h0 h1 h2 h3 h4 h5 h6 => by rw [fits_sl, h6.fits, Bool.and_true, decide_eq_true_eq]; omega
  | _, _, .fp _ _ h => by rw [fits_fp]; exact h.fits
  | _, _, .fn h => by rw [fits_fn]; exact h.fits
  | _, _, .fmap _ _ _ _ h1 h2 => by rw [fits_fmap, h1.fits, h2.fits]; rfl
  | _, _, .own h1 h2 _ _ => by rw [fits_own, decide_eq_true_eq]; omega
  | _, _, .ptr _ => fits_ptr _ _ _
  | _, _, .mp _ => fits_mp _
theorem Rs.fits {Z : Nat → Prop} {w : World} {κ : Nat → Slot} : ∀ {as : List AV} {vs : List Value}, Rs Z w κ as vs → as.all Cx.fits = true
  | _, _, .nil => rfl
  | _, _, .cons h1 h2 => by rw [List.all_cons, h1.fits, h2.fits]; rfl
end

/-- A function that only computes; its arguments' rows are no longer than rows can be. -/
theorem PCall.mk {f : FuncId} {fn : Func} {c : Code} {rs : List ResultVar} {N : Nat} {args : List AV} {v : AV} (lit : TypeId → Bool) (hf : P.funcs[f]? = some fn) (hb : fn.body = some c) (hrs : fn.results.toList = rs) (hN : args.length + (fn.ntmps - args.length) = N) (he : Ent P f) (ha : args.all neat = true) (hv : neat v = true)
    (hx : args.all fits = true → AX P lit 0 c (PostA P rs 0 (fun v' _ => v' = v)) ⟨N, initT args, []⟩) : PCall P f args v := by
  by_cases hfit : args.all fits = true
  · exact PCall.intro lit hf hb hrs hN he ha hv (hx hfit)
  · exact ⟨ha, hv, he, fun Z κ w cargs r hr => absurd hr.fits hfit⟩

theorem wrap_id {n : Int} (h1 : -9223372036854775808 ≤ n) (h2 : n < 9223372036854775808) : IntKind.i64.wrap n = n := by
  rw [IntKind.wrap_i64]; omega
theorem maxLen_lt {n : Nat} (h : n ≤ maxLen) : (n : Int) < 9223372036854775808 := by simp only [maxLen] at h; omega

section
variable {P : Program} {lit : TypeId → Bool} (D : List Nat) (cc : CC) (K : AState → Prop) (s : AState) (i' : Nat) (dst : Option Tmp) (ty : TypeId) (pos : String) (after : Array Edge) (g : Option (Nat × Bool))
@[simp] theorem ADop_move (x : Operand) : ADop P lit D cc i' { dst := dst, op := .move x, type := ty, pos := pos, after := after, guard := g } s K = AOp P lit { dst := dst, op := .move x, type := ty, pos := pos, after := after, guard := g } s K := rfl
@[simp] theorem ADop_assign (x : Operand) : ADop P lit D cc i' { dst := dst, op := .assign x, type := ty, pos := pos, after := after, guard := g } s K = AOp P lit { dst := dst, op := .assign x, type := ty, pos := pos, after := after, guard := g } s K := rfl
@[simp] theorem ADop_pick (c a b : Operand) : ADop P lit D cc i' { dst := dst, op := .pick c a b, type := ty, pos := pos, after := after, guard := g } s K = AOp P lit { dst := dst, op := .pick c a b, type := ty, pos := pos, after := after, guard := g } s K := rfl
@[simp] theorem ADop_alloc (t : TypeId) : ADop P lit D cc i' { dst := dst, op := .alloc t, type := ty, pos := pos, after := after, guard := g } s K = alcK P D (look cc i' .e) t s.h (thenOp K s dst) (AOp P lit { dst := dst, op := .alloc t, type := ty, pos := pos, after := after, guard := g } s K) := rfl
@[simp] theorem ADop_box (t : TypeId) (x : Operand) : ADop P lit D cc i' { dst := dst, op := .box t x, type := ty, pos := pos, after := after, guard := g } s K = AOp P lit { dst := dst, op := .box t x, type := ty, pos := pos, after := after, guard := g } s K := rfl
@[simp] theorem ADop_build (t : TypeId) (ps : Array (Nat × Operand)) : ADop P lit D cc i' { dst := dst, op := .build t ps, type := ty, pos := pos, after := after, guard := g } s K = AOp P lit { dst := dst, op := .build t ps, type := ty, pos := pos, after := after, guard := g } s K := rfl
@[simp] theorem ADop_buildSlice (t : TypeId) (len : Nat) (ps : Array (Nat × Operand)) : ADop P lit D cc i' { dst := dst, op := .buildSlice t len ps, type := ty, pos := pos, after := after, guard := g } s K = AOp P lit { dst := dst, op := .buildSlice t len ps, type := ty, pos := pos, after := after, guard := g } s K := rfl
@[simp] theorem ADop_nilCheck (x : Operand) : ADop P lit D cc i' { dst := dst, op := .nilCheck x, type := ty, pos := pos, after := after, guard := g } s K = AOp P lit { dst := dst, op := .nilCheck x, type := ty, pos := pos, after := after, guard := g } s K := rfl
@[simp] theorem ADop_fieldAddr (t : TypeId) (x : Operand) (i : Nat) : ADop P lit D cc i' { dst := dst, op := .fieldAddr t x i, type := ty, pos := pos, after := after, guard := g } s K = AOp P lit { dst := dst, op := .fieldAddr t x i, type := ty, pos := pos, after := after, guard := g } s K := rfl
@[simp] theorem ADop_field (t : TypeId) (x : Operand) (i : Nat) : ADop P lit D cc i' { dst := dst, op := .field t x i, type := ty, pos := pos, after := after, guard := g } s K = AOp P lit { dst := dst, op := .field t x i, type := ty, pos := pos, after := after, guard := g } s K := rfl
@[simp] theorem ADop_indexAddr (t : TypeId) (x i : Operand) : ADop P lit D cc i' { dst := dst, op := .indexAddr t x i, type := ty, pos := pos, after := after, guard := g } s K = AOp P lit { dst := dst, op := .indexAddr t x i, type := ty, pos := pos, after := after, guard := g } s K := rfl
@[simp] theorem ADop_index (t : TypeId) (x i : Operand) : ADop P lit D cc i' { dst := dst, op := .index t x i, type := ty, pos := pos, after := after, guard := g } s K = AOp P lit { dst := dst, op := .index t x i, type := ty, pos := pos, after := after, guard := g } s K := rfl
@[simp] theorem ADop_slice (t : TypeId) (x : Operand) (lo hi mx : Option Operand) : ADop P lit D cc i' { dst := dst, op := .slice t x lo hi mx, type := ty, pos := pos, after := after, guard := g } s K = AOp P lit { dst := dst, op := .slice t x lo hi mx, type := ty, pos := pos, after := after, guard := g } s K := rfl
@[simp] theorem ADop_extract (x : Operand) (i : Nat) : ADop P lit D cc i' { dst := dst, op := .extract x i, type := ty, pos := pos, after := after, guard := g } s K = AOp P lit { dst := dst, op := .extract x i, type := ty, pos := pos, after := after, guard := g } s K := rfl
@[simp] theorem ADop_makeFunc (f : Fn) (a b : Array Operand) : ADop P lit D cc i' { dst := dst, op := .makeFunc f a b, type := ty, pos := pos, after := after, guard := g } s K = AOp P lit { dst := dst, op := .makeFunc f a b, type := ty, pos := pos, after := after, guard := g } s K := rfl
@[simp] theorem ADop_binOp (op : BinOp) (t : TypeId) (x y : Operand) (yt : TypeId) : ADop P lit D cc i' { dst := dst, op := .binOp op t x y yt, type := ty, pos := pos, after := after, guard := g } s K = AOp P lit { dst := dst, op := .binOp op t x y yt, type := ty, pos := pos, after := after, guard := g } s K := rfl
@[simp] theorem ADop_unOp (op : UnOp) (t : TypeId) (x : Operand) : ADop P lit D cc i' { dst := dst, op := .unOp op t x, type := ty, pos := pos, after := after, guard := g } s K = AOp P lit { dst := dst, op := .unOp op t x, type := ty, pos := pos, after := after, guard := g } s K := rfl
@[simp] theorem ADop_convert (a b : TypeId) (x : Operand) : ADop P lit D cc i' { dst := dst, op := .convert a b x, type := ty, pos := pos, after := after, guard := g } s K = (notOwn (s.ev x) = true ∧ AOp P lit { dst := dst, op := .convert a b x, type := ty, pos := pos, after := after, guard := g } s K) := rfl
@[simp] theorem notOwn_val (v : Value) : notOwn (.val v) = true := rfl
@[simp] theorem notOwn_sl (t : Bool) (n : Nat) (cs : List AV) : notOwn (.sl t n cs) = true := rfl
@[simp] theorem ADop_builtin (b : Builtin) (xs : Array Operand) (ts : Array TypeId) : ADop P lit D cc i' { dst := dst, op := .call { callee := .builtin b, args := xs, argTypes := ts }, type := ty, pos := pos, after := after, guard := g } s K = AOp P lit { dst := dst, op := .call { callee := .builtin b, args := xs, argTypes := ts }, type := ty, pos := pos, after := after, guard := g } s K := rfl
@[simp] theorem ADop_makeMap (t : TypeId) (r : Option Operand) : ADop P lit D cc i' { dst := dst, op := .makeMap t r, type := ty, pos := pos, after := after, guard := g } s K = AOp P lit { dst := dst, op := .makeMap t r, type := ty, pos := pos, after := after, guard := g } s K := rfl
@[simp] theorem ADop_insert (t : TypeId) (m k x : Operand) : ADop P lit D cc i' { dst := dst, op := .insert t m k x, type := ty, pos := pos, after := after, guard := g } s K = AOp P lit { dst := dst, op := .insert t m k x, type := ty, pos := pos, after := after, guard := g } s K := rfl
@[simp] theorem ADop_mapUpdate (t : TypeId) (m k x : Operand) : ADop P lit D cc i' { dst := dst, op := .mapUpdate t m k x, type := ty, pos := pos, after := after, guard := g } s K = AOp P lit { dst := dst, op := .mapUpdate t m k x, type := ty, pos := pos, after := after, guard := g } s K := rfl
@[simp] theorem ADop_load (t : TypeId) (x : Operand) : ADop P lit D cc i' { dst := dst, op := .load t x, type := ty, pos := pos, after := after, guard := g } s K = ldK D (look cc i' .q) (s.ev x) (AOp P lit { dst := dst, op := .load t x, type := ty, pos := pos, after := after, guard := g } s K) := rfl
@[simp] theorem ADop_lookup (t : TypeId) (m k : Operand) (ok : Bool) : ADop P lit D cc i' { dst := dst, op := .lookup t m k ok, type := ty, pos := pos, after := after, guard := g } s K = ldK D (look cc i' .q) (s.ev m) (AOp P lit { dst := dst, op := .lookup t m k ok, type := ty, pos := pos, after := after, guard := g } s K) := rfl
@[simp] theorem ADop_store (t : TypeId) (p x : Operand) : ADop P lit D cc i' { dst := dst, op := .store t p x, type := ty, pos := pos, after := after, guard := g } s K = stK D (look cc i' .w) (s.ev p) (AOp P lit { dst := dst, op := .store t p x, type := ty, pos := pos, after := after, guard := g } s K) := rfl
@[simp] theorem clAt_call (f : Operand) (xs : Array Operand) (ts : Array TypeId) : clAt lit cc i' { dst := dst, op := .call { callee := .value f, args := xs, argTypes := ts }, type := ty, pos := pos, after := after, guard := g } = look cc i' .t := rfl
@[simp] theorem look_nil (c : Cl) : look [] i' c = c := rfl
@[simp] theorem look_cons (j : Nat) (d c : Cl) : look ((j, d) :: cc) i' c = if j = i' then d else look cc i' c := by
  simp only [look, List.find?_cons]
  by_cases h : j = i'
  · simp [h]
  · have : (j == i') = false := by simpa using h
    simp [this, h]
variable (p : AV) (A : Prop)
@[simp] theorem alcK_e (t : TypeId) (h : AHeap) (K : AV → AHeap → Prop) : alcK P D .e t h K A = A := rfl
@[simp] theorem alcK_w (t : TypeId) (h : AHeap) (K : AV → AHeap → Prop) : alcK P D .w t h K A = (match roomOf D h with
    | some (id, ver) => match tzero P t with
      | some zs => K (.ptr id (ver + 1) 0) (h.set id (.cells (ver + 1) zs))
      | none => False
    | none => False) := rfl
@[simp] theorem roomOf_one (r : Nat) (h : AHeap) : roomOf [r] h = (match (h[r]? : Option ABlk) with | some (ABlk.cells ver []) => some (r, ver) | _ => none) := by
  unfold roomOf
  simp only [List.findSome?_cons, List.findSome?_nil]
  split <;> (rename_i e; exact e.symm)
@[simp] theorem ldK_q : ldK D .q p A = (offD D p = true ∧ A) := rfl
@[simp] theorem ldK_w : ldK D .w p A = (onD D p = true ∧ A) := rfl
@[simp] theorem ldK_e : ldK D .e p A = A := rfl
@[simp] theorem stK_w : stK D .w p A = (onD D p = true ∧ A) := rfl
@[simp] theorem stK_e : stK D .e p A = A := rfl
@[simp] theorem offD_ptr (id ver off : Nat) : offD D (.ptr id ver off) = !D.contains id := rfl
@[simp] theorem offD_mp (id : Nat) : offD D (.mp id) = !D.contains id := rfl
@[simp] theorem offD_fp (cs : List AV) : offD D (.fp cs) = true := rfl
@[simp] theorem offD_fmap (ks vs : List AV) : offD D (.fmap ks vs) = true := rfl
@[simp] theorem offD_val (v : Value) : offD D (.val v) = true := rfl
@[simp] theorem onD_ptr (id ver off : Nat) : onD D (.ptr id ver off) = D.contains id := rfl
@[simp] theorem onD_mp (id : Nat) : onD D (.mp id) = D.contains id := rfl
end
theorem offEq_nil {k h : AHeap} (hk : offEq [] k h) : k = h := List.ext_getElem? fun id => hk.2 id rfl
theorem ADcall.pure {P : Program} {h : AHeap} {g : FuncId} {cap args args' : List AV} {v : AV} {K : AV → AHeap → Prop} (hp : PCall P g args' v) (ha : args ++ cap = args') (hk : K v h) {D : List Nat} : ADcall P D .t (.fn g cap) args h K :=
  ⟨v, fun k => AInv.pure hp ha ⟨rfl, rfl⟩, hk⟩
theorem ADcall.lend {P : Program} {h : AHeap} {g : FuncId} {cap args args' : List AV} {v : AV} {K : AV → AHeap → Prop} (hp : PCall P g args' v) (hm : memFree v = true) (ha : (args ++ cap).mapM (frz h 0 12) = some args') (hk : K v h) : ADcall P [] .q (.fn g cap) args h K :=
  ⟨v, fun k hke => by rw [offEq_nil hke]; exact AInv.lend hp hm ha ⟨rfl, rfl⟩, hk⟩

/-- What a function hands back. -/
def retV (P : Program) (rs : List ResultVar) (s : AState) : Option AV := (rs.mapM (resA P s)).bind fun vs => frz s.h 0 12 (resV vs)
@[simp] theorem PostA_eq (P : Program) (rs : List ResultVar) (v : AV) (e : Exit) (s : AState) : PostA P rs 0 (fun v' _ => v' = v) e s = (isEnd e = true ∧ retV P rs s = some v) := by
  apply propext
  constructor
  · rintro ⟨he, vs, v', h1, h2, _, rfl⟩
    exact ⟨he, by simp only [retV, h1, Option.bind_some]; exact h2⟩
  · rintro ⟨he, h⟩
    obtain ⟨vs, h1, h2⟩ := Option.bind_eq_some_iff.1 h
    exact ⟨he, vs, v, h1, h2, by simp, rfl⟩
@[simp] theorem retV_one (P : Program) (r : ResultVar) (s : AState) : retV P [r] s = (resA P s r).bind fun x => frz s.h 0 12 x := by
  simp only [retV, List.mapM_cons, List.mapM_nil]
  cases resA P s r <;> rfl
@[simp] theorem retV_two (P : Program) (r r' : ResultVar) (s : AState) : retV P [r, r'] s = (resA P s r).bind fun x => (resA P s r').bind fun y => frz s.h 0 12 (.tup [x, y]) := by
  simp only [retV, List.mapM_cons, List.mapM_nil]
  cases resA P s r with
  | none => rfl
  | some x => cases resA P s r' <;> rfl
@[simp] theorem retV_three (P : Program) (r r' r2 : ResultVar) (s : AState) : retV P [r, r', r2] s = (resA P s r).bind fun x => (resA P s r').bind fun y => (resA P s r2).bind fun z => frz s.h 0 12 (.tup [x, y, z]) := by
  simp only [retV, List.mapM_cons, List.mapM_nil]
  cases resA P s r with
  | none => rfl
  | some x => cases resA P s r' with
    | none => rfl
    | some y => cases resA P s r2 <;> rfl
attribute [simp] frz_neat
end Go.Cx
