/- Calls that write blocks of their caller's: told over a small heap, met in a great one. -/
import Derived.Test.YtjelapkglkcoiaaCxW
set_option linter.unusedVariables false
set_option linter.unusedSimpArgs false
namespace Go.Cx
variable {P : Program} {Z : Nat → Prop} {κ : Nat → Slot} {h : AHeap} {w : World}

def ren (ρ : Nat → Nat) : AV → AV
  | .val v => .val v
  | .any => .any
  | .agg cs => .agg (cs.attach.map fun ⟨c, _⟩ => ren ρ c)
  | .tup cs => .tup (cs.attach.map fun ⟨c, _⟩ => ren ρ c)
  | .sl t n cs => .sl t n (cs.attach.map fun ⟨c, _⟩ => ren ρ c)
  | .fp cs => .fp (cs.attach.map fun ⟨c, _⟩ => ren ρ c)
  | .fn f cs => .fn f (cs.attach.map fun ⟨c, _⟩ => ren ρ c)
  | .fmap ks vs => .fmap (ks.attach.map fun ⟨c, _⟩ => ren ρ c) (vs.attach.map fun ⟨c, _⟩ => ren ρ c)
  | .own id ver off n k => .own (ρ id) ver off n k
  | .ptr id ver off => .ptr (ρ id) ver off
  | .mp id => .mp (ρ id)
theorem map_attach {α β : Type} (l : List α) (f : α → β) : (l.attach.map fun ⟨c, _⟩ => f c) = l.map f := by
  have : (l.attach.map fun x => f x.1) = (l.attach.map (·.1)).map f := by rw [List.map_map]; rfl
  rw [this, List.attach_map_subtype_val]
section
variable (ρ : Nat → Nat)
@[simp] theorem ren_val (v : Value) : ren ρ (.val v) = .val v := by rw [ren]
@[simp] theorem ren_any : ren ρ .any = .any := by rw [ren]
@[simp] theorem ren_agg (cs : List AV) : ren ρ (.agg cs) = .agg (cs.map (ren ρ)) := by rw [ren, map_attach]
@[simp] theorem ren_tup (cs : List AV) : ren ρ (.tup cs) = .tup (cs.map (ren ρ)) := by rw [ren, map_attach]
@[simp] theorem ren_sl (t : Bool) (n : Nat) (cs : List AV) : ren ρ (.sl t n cs) = .sl t n (cs.map (ren ρ)) := by rw [ren, map_attach]
@[simp] theorem ren_fp (cs : List AV) : ren ρ (.fp cs) = .fp (cs.map (ren ρ)) := by rw [ren, map_attach]
@[simp] theorem ren_fn (f : FuncId) (cs : List AV) : ren ρ (.fn f cs) = .fn f (cs.map (ren ρ)) := by rw [ren, map_attach]
@[simp] theorem ren_fmap (ks vs : List AV) : ren ρ (.fmap ks vs) = .fmap (ks.map (ren ρ)) (vs.map (ren ρ)) := by rw [ren, map_attach, map_attach]
@[simp] theorem ren_own (id ver off n k : Nat) : ren ρ (.own id ver off n k) = .own (ρ id) ver off n k := by rw [ren]
@[simp] theorem ren_ptr (id ver off : Nat) : ren ρ (.ptr id ver off) = .ptr (ρ id) ver off := by rw [ren]
@[simp] theorem ren_mp (id : Nat) : ren ρ (.mp id) = .mp (ρ id) := by rw [ren]
mutual
theorem ren_neat1 : ∀ a : AV, neat a = true → ren ρ a = a
  | .val _, _ => by simp
  | .any, _ => by simp
  | .agg cs, h => by rw [neat_agg] at h; rw [ren_agg, ren_neats1 cs h]
  | .tup cs, h => by rw [neat_tup] at h; rw [ren_tup, ren_neats1 cs h]
  | .sl t n cs, h => by rw [neat_sl, Bool.and_eq_true] at h; rw [ren_sl, ren_neats1 cs h.2]
  | .fp cs, h => by rw [neat_fp] at h; rw [ren_fp, ren_neats1 cs h]
  | .fn f cs, h => by rw [neat_fn] at h; rw [ren_fn, ren_neats1 cs h]
  | .fmap ks vs, h => by rw [neat_fmap, Bool.and_eq_true] at h; rw [ren_fmap, ren_neats1 ks h.1, ren_neats1 vs h.2]
  | .own .., h => by simp at h
  | .ptr .., h => by simp at h
  | .mp .., h => by simp at h
theorem ren_neats1 : ∀ cs : List AV, cs.all neat = true → cs.map (ren ρ) = cs
  | [], _ => rfl
  | a :: cs, h => by
    rw [List.all_cons, Bool.and_eq_true] at h
    rw [List.map_cons, ren_neat1 a h.1, ren_neats1 cs h.2]
end
end
@[simp] theorem ren_neat {ρ : Nat → Nat} {a : AV} (h : neat a = true) : ren ρ a = a := ren_neat1 ρ a h
@[simp] theorem ren_neats {ρ : Nat → Nat} {cs : List AV} (h : cs.all neat = true) : cs.map (ren ρ) = cs := ren_neats1 ρ cs h
@[simp] theorem refsLt_val (L : Nat) (v : Value) : refsLt L (.val v) = true := by rw [refsLt]
@[simp] theorem refsLt_any (L : Nat) : refsLt L .any = true := by rw [refsLt]
@[simp] theorem refsLt_tup (L : Nat) (cs : List AV) : refsLt L (.tup cs) = cs.all (refsLt L) := by rw [refsLt, all_attach]
@[simp] theorem refsLt_fp (L : Nat) (cs : List AV) : refsLt L (.fp cs) = cs.all (refsLt L) := by rw [refsLt, all_attach]
@[simp] theorem refsLt_fmap (L : Nat) (ks vs : List AV) : refsLt L (.fmap ks vs) = (ks.all (refsLt L) && vs.all (refsLt L)) := by rw [refsLt, all_attach, all_attach]

theorem refOk_of {κ κ' : Nat → Slot} {id id' ver : Nat} {p : Option Nat → Nat → Prop} (hk : κ' id' = κ id) (h : refOk κ id ver p) : refOk κ' id' ver p := by
  unfold refOk at *; rw [hk]; exact h

mutual
/-- What is told by small numbers is told by great ones. -/
theorem R.ren {κ0 : Nat → Slot} {ρ : Nat → Nat} {k : Nat} (hk : ∀ i, i < k → κ (ρ i) = κ0 i) {a : AV} {v : Value} (hr : R Z w κ0 a v) (hl : refsLt k a = true) : R Z w κ (Cx.ren ρ a) v := by
  cases hr with
  | val h => rw [ren_val]; exact .val h
  | any => rw [ren_any]; exact .any
  | agg h => rw [ren_agg]; exact .agg (h.ren hk (by simpa using hl))
  | tup h => rw [ren_tup]; exact .tup (h.ren hk (by simpa using hl))
  | sl0 h1 h2 => rw [ren_sl]; exact .sl0 h1 h2
  | sl h0 h1 h2 h3 h4 h5 h6 => rw [ren_sl]; exact .sl h0 h1 h2 h3 h4 h5 (h6.ren hk (by simpa using hl))
  | fp h1 h2 h3 => rw [ren_fp]; exact .fp h1 h2 (h3.ren hk (by simpa using hl))
  | fn h => rw [ren_fn]; exact .fn (h.ren hk (by simpa using hl))
  | fmap h1 h2 h3 h4 h5 h6 =>
    rw [refsLt_fmap, Bool.and_eq_true] at hl
    rw [ren_fmap]
    exact .fmap h1 h2 h3 h4 (h5.ren hk hl.1) (h6.ren hk hl.2)
  | own h0 h1 hA h2 => rw [ren_own]; rw [refsLt_own, decide_eq_true_eq] at hl; exact .own h0 h1 hA (refOk_of (hk _ hl) h2)
  | ptr h2 => rw [ren_ptr]; rw [refsLt_ptr, decide_eq_true_eq] at hl; exact .ptr (refOk_of (hk _ hl) h2)
  | mp h2 => rw [ren_mp]; rw [refsLt_mp, decide_eq_true_eq] at hl; exact .mp (refOk_of (hk _ hl) h2)
theorem Rs.ren {κ0 : Nat → Slot} {ρ : Nat → Nat} {k : Nat} (hk : ∀ i, i < k → κ (ρ i) = κ0 i) {as : List AV} {vs : List Value} (hr : Rs Z w κ0 as vs) (hl : as.all (refsLt k) = true) : Rs Z w κ (as.map (Cx.ren ρ)) vs := by
  cases hr with
  | nil => exact .nil
  | cons h1 h2 => rw [List.all_cons, Bool.and_eq_true] at hl; exact .cons (h1.ren hk hl.1) (h2.ren hk hl.2)
end
mutual
/-- And the other way. -/
theorem R.unren {κ0 : Nat → Slot} {ρ : Nat → Nat} {k : Nat} (hk : ∀ i, i < k → κ0 i = κ (ρ i)) : ∀ (a : AV) {v : Value}, R Z w κ (Cx.ren ρ a) v → refsLt k a = true → R Z w κ0 a v
  | .val u, v, hr, hl => by rw [ren_val] at hr; cases hr with | val h => exact .val h
  | .any, v, hr, hl => .any
  | .agg cs, v, hr, hl => by rw [ren_agg] at hr; cases hr with | agg h => exact .agg (Rs.unren hk cs h (by simpa using hl))
  | .tup cs, v, hr, hl => by rw [ren_tup] at hr; cases hr with | tup h => exact .tup (Rs.unren hk cs h (by simpa using hl))
  | .sl t n cs, v, hr, hl => by
    rw [ren_sl] at hr
    generalize hcs : cs.map (Cx.ren ρ) = ds at hr
    cases hr with
    | sl0 h1 h2 =>
      have : cs = [] := by cases cs <;> simp at hcs; rfl
      subst this
      exact .sl0 h1 h2
    | sl h0 h1 h2 h3 h4 h5 h6 => subst hcs; exact .sl h0 h1 h2 h3 h4 h5 (Rs.unren hk cs h6 (by simpa using hl))
  | .fp cs, v, hr, hl => by rw [ren_fp] at hr; cases hr with | fp h1 h2 h3 => exact .fp h1 h2 (Rs.unren hk cs h3 (by simpa using hl))
  | .fn f cs, v, hr, hl => by rw [ren_fn] at hr; cases hr with | fn h => exact .fn (Rs.unren hk cs h (by simpa using hl))
  | .fmap ks vs, v, hr, hl => by
    rw [ren_fmap] at hr
    rw [refsLt_fmap, Bool.and_eq_true] at hl
    cases hr with | fmap h1 h2 h3 h4 h5 h6 => exact .fmap h1 h2 h3 h4 (Rs.unren hk ks h5 hl.1) (Rs.unren hk vs h6 hl.2)
  | .own id ver off n m, v, hr, hl => by
    rw [ren_own] at hr; rw [refsLt_own, decide_eq_true_eq] at hl
    cases hr with | own h0 h1 hA h2 => exact .own h0 h1 hA (refOk_of (hk _ hl) h2)
  | .ptr id ver off, v, hr, hl => by
    rw [ren_ptr] at hr; rw [refsLt_ptr, decide_eq_true_eq] at hl
    cases hr with | ptr h2 => exact .ptr (refOk_of (hk _ hl) h2)
  | .mp id, v, hr, hl => by
    rw [ren_mp] at hr; rw [refsLt_mp, decide_eq_true_eq] at hl
    cases hr with | mp h2 => exact .mp (refOk_of (hk _ hl) h2)
theorem Rs.unren {κ0 : Nat → Slot} {ρ : Nat → Nat} {k : Nat} (hk : ∀ i, i < k → κ0 i = κ (ρ i)) : ∀ (as : List AV) {vs : List Value}, Rs Z w κ (as.map (Cx.ren ρ)) vs → as.all (refsLt k) = true → Rs Z w κ0 as vs
  | [], _, hr, _ => by cases hr; exact .nil
  | a :: as, _, hr, hl => by
    rw [List.all_cons, Bool.and_eq_true] at hl
    cases hr with
    | cons h1 h2 => exact .cons (R.unren hk a h1 hl.1) (Rs.unren hk as h2 hl.2)
end

def renB (ρ : Nat → Nat) : ABlk → ABlk
  | .dead => .dead
  | .cells ver cs => .cells ver (cs.map (ren ρ))
  | .map ks vs => .map (ks.map (ren ρ)) (vs.map (ren ρ))
theorem blkOk_ren {κ0 : Nat → Slot} {ρ : Nat → Nat} {k i : Nat} (hi : i < k) (hk : ∀ i, i < k → κ (ρ i) = κ0 i) {x : ABlk} (hx : blkOk Z w κ0 i x) (hl : x.refsLt k = true) : blkOk Z w κ (ρ i) (renB ρ x) := by
  cases x with
  | dead => simp only [blkOk, renB] at *; rw [hk i hi]; exact hx
  | cells ver cs =>
    obtain ⟨ob, sz, h1, h2⟩ := hx
    refine ⟨ob, sz, (hk i hi).trans h1, ?_⟩
    cases ob with
    | none => subst h2; rfl
    | some b =>
      obtain ⟨c, E, us, h3, h4, h5, h6, h7⟩ := h2
      exact ⟨c, E, us, h3, h4, h5, h6, h7.ren hk hl⟩
  | map ks vs =>
    obtain ⟨b, es, cl, h1, h2, h3, h4⟩ := hx
    simp only [ABlk.refsLt, Bool.and_eq_true] at hl
    exact ⟨b, es, cl, (hk i hi).trans h1, h2, h3.ren hk hl.1, h4.ren hk hl.2⟩
theorem blkOk_unren {κ0 : Nat → Slot} {ρ : Nat → Nat} {k i : Nat} (hi : i < k) (hk : ∀ i, i < k → κ0 i = κ (ρ i)) {x : ABlk} (hx : blkOk Z w κ (ρ i) (renB ρ x)) (hl : x.refsLt k = true) : blkOk Z w κ0 i x := by
  cases x with
  | dead => simp only [blkOk, renB] at *; rw [hk i hi]; exact hx
  | cells ver cs =>
    obtain ⟨ob, sz, h1, h2⟩ := hx
    refine ⟨ob, sz, (hk i hi).trans h1, ?_⟩
    cases ob with
    | none => cases cs <;> simp at h2; rfl
    | some b =>
      obtain ⟨c, E, us, h3, h4, h5, h6, h7⟩ := h2
      exact ⟨c, E, us, h3, h4, h5, h6, Rs.unren hk cs h7 hl⟩
  | map ks vs =>
    obtain ⟨b, es, cl, h1, h2, h3, h4⟩ := hx
    simp only [ABlk.refsLt, Bool.and_eq_true] at hl
    exact ⟨b, es, cl, (hk i hi).trans h1, h2, Rs.unren hk ks h3 hl.1, Rs.unren hk vs h4 hl.2⟩

/-- A call over a small heap: what it hands back, and what becomes of the heap. -/
structure HCall (P : Program) (f : FuncId) (args : List AV) (h0 : AHeap) (v : AV) (h1 : AHeap) : Prop where
  hargs : args.all (refsLt h0.length) = true
  heap : h0.all (ABlk.refsLt h0.length) = true
  val : refsLt h0.length v = true
  len : h1.length = h0.length
  heap1 : h1.all (ABlk.refsLt h0.length) = true
  call : ACall P f args h0 (fun v' h' => v' = v ∧ h' = h1)

/-- The blocks are laid at their numbers. -/
def lay (ρ : Nat → Nat) : Nat → AHeap → AHeap → AHeap
  | _, [], h => h
  | i, x :: xs, h => lay ρ (i + 1) xs (h.set (ρ i) (renB ρ x))
theorem lay_len (ρ : Nat → Nat) : ∀ (xs : AHeap) (i : Nat) (h : AHeap), (lay ρ i xs h).length = h.length
  | [], _, _ => rfl
  | x :: xs, i, h => by rw [lay, lay_len ρ xs]; simp
theorem lay_out (ρ : Nat → Nat) : ∀ (xs : AHeap) (i : Nat) (h : AHeap) (j : Nat), (∀ m, m < xs.length → ρ (i + m) ≠ j) → (lay ρ i xs h)[j]? = h[j]?
  | [], _, _, _, _ => rfl
  | x :: xs, i, h, j, hj => by
    rw [lay, lay_out ρ xs (i + 1) _ j fun m hm => by have := hj (m + 1) (by simpa using hm); rwa [show i + (m + 1) = i + 1 + m by omega] at this]
    rw [List.getElem?_set_ne]
    have := hj 0 (by simp)
    simpa using this
theorem lay_in (ρ : Nat → Nat) : ∀ (xs : AHeap) (i : Nat) (h : AHeap) (m : Nat), m < xs.length → (∀ a b, a < xs.length → b < xs.length → ρ (i + a) = ρ (i + b) → a = b) → (∀ a, a < xs.length → ρ (i + a) < h.length) → (lay ρ i xs h)[ρ (i + m)]? = xs[m]?.map (renB ρ)
  | [], _, _, m, hm, _, _ => by simp at hm
  | x :: xs, i, h, 0, hm, hinj, hlt => by
    rw [lay, lay_out ρ xs (i + 1) _ _ fun a ha => fun e => by
      have := hinj (a + 1) 0 (by simpa using ha) (by simp) (by rw [show i + (a + 1) = i + 1 + a by omega]; simpa using e)
      omega]
    have hl := hlt 0 (by simp)
    rw [Nat.add_zero] at hl ⊢
    rw [List.getElem?_set_self hl]; rfl
  | x :: xs, i, h, m + 1, hm, hinj, hlt => by
    rw [lay]
    have := lay_in ρ xs (i + 1) (h.set (ρ i) (renB ρ x)) m (by simpa using hm)
      (fun a b ha hb e => by
        have := hinj (a + 1) (b + 1) (by simpa using ha) (by simpa using hb) (by rw [show i + (a + 1) = i + 1 + a by omega, show i + (b + 1) = i + 1 + b by omega]; exact e)
        omega)
      (fun a ha => by
        have := hlt (a + 1) (by simpa using ha)
        rw [show i + (a + 1) = i + 1 + a by omega] at this
        simpa using this)
    rw [show i + (m + 1) = i + 1 + m by omega]
    simpa using this

theorem ACall.reloc {f : FuncId} {args : List AV} {h0 h1 : AHeap} {v : AV} (hc : HCall P f args h0 v h1) (ρ : Nat → Nat) (hinj : ∀ i j, i < h0.length → j < h0.length → ρ i = ρ j → i = j)
    (hlt : ∀ i, i < h0.length → ρ i < h.length) (hb : ∀ i x, h0[i]? = some x → h[ρ i]? = some (renB ρ x)) : ACall P f (args.map (ren ρ)) h (fun v' h' => v' = ren ρ v ∧ h' = lay ρ 0 h1 h) := by
  obtain ⟨ha, hh, hv, hlen, hh1, he, hcall⟩ := hc
  refine ⟨he, fun Z κ w cargs r hr => ?_⟩
  let κ0 : Nat → Slot := fun i => if i < h0.length then κ (ρ i) else .hole
  have hk0 : ∀ i, i < h0.length → κ0 i = κ (ρ i) := fun i hi => by simp [κ0, hi]
  have hal : ∀ b, alive κ0 b → ∃ i ver sz, i < h0.length ∧ κ (ρ i) = .live ver (some b) sz := by
    rintro b ⟨i, ver, sz, hk⟩
    by_cases hi : i < h0.length
    · exact ⟨i, ver, sz, hi, by rw [← hk0 i hi]; exact hk⟩
    · simp [κ0, hi] at hk
  have hal' : ∀ b, alive κ0 b → alive κ b := fun b hb => by obtain ⟨i, ver, sz, _, hk⟩ := hal b hb; exact ⟨_, ver, sz, hk⟩
  have r0 : Rel Z κ0 h0 w := by
    refine ⟨r.zlt, fun b hz hb => r.za b hz (hal' b hb), fun i hi => by simp [κ0, Nat.not_lt.2 hi], fun i x hx => ?_, ?_⟩
    · have hi := (List.getElem?_eq_some_iff.1 hx).1
      exact blkOk_unren hi hk0 (r.blk _ _ (hb i x hx)) (List.all_eq_true.1 hh x (List.mem_of_getElem? hx))
    · intro i j ver ver' b sz sz' h1 h2
      by_cases hi : i < h0.length
      · by_cases hj : j < h0.length
        · rw [hk0 i hi] at h1; rw [hk0 j hj] at h2
          exact hinj i j hi hj (r.inj _ _ _ _ _ _ _ h1 h2)
        · simp [κ0, hj] at h2
      · simp [κ0, hi] at h1
  refine (hcall Z κ0 w cargs r0 (Rs.unren hk0 args hr ha)).mono ?_
  rintro e w' ⟨v', h', Z', κ0', c, ⟨rfl, rfl⟩, rfl, r', hv', ex, st⟩
  have img : ∀ id, (∃ i, i < h0.length ∧ ρ i = id) ∨ ¬ (∃ i, i < h0.length ∧ ρ i = id) := fun id => Classical.em _
  let κ' : Nat → Slot := fun id => if hx : ∃ i, i < h0.length ∧ ρ i = id then κ0' (Classical.choose hx) else κ id
  have hin : ∀ i, i < h0.length → κ' (ρ i) = κ0' i := by
    intro i hi
    have hx : ∃ j, j < h0.length ∧ ρ j = ρ i := ⟨i, hi, rfl⟩
    have hs := Classical.choose_spec hx
    have : Classical.choose hx = i := hinj _ _ hs.1 hi hs.2
    simp only [κ', dif_pos hx, this]
  have hout : ∀ id, ¬ (∃ i, i < h0.length ∧ ρ i = id) → κ' id = κ id := fun id hx => by simp only [κ', dif_neg hx]
  have hal2 : ∀ b, alive κ' b → alive κ0' b ∨ ∃ id ver sz, ¬ (∃ i, i < h0.length ∧ ρ i = id) ∧ κ id = .live ver (some b) sz := by
    rintro b ⟨id, ver, sz, hk⟩
    rcases img id with ⟨i, hi, rfl⟩ | hx
    · rw [hin i hi] at hk; exact .inl ⟨i, ver, sz, hk⟩
    · rw [hout id hx] at hk; exact .inr ⟨id, ver, sz, hx, hk⟩
  have E : Ext Z κ w Z' κ' w' := by
    refine ⟨ex.os, ex.tape, ex.output, ex.size, fun b hbl hn => ex.keep b hbl (fun ha => hn (hal' b ha)), ex.zin, fun b hz => ?_, fun b ha => ?_⟩
    · rcases ex.znew b hz with h1 | h1 | h1
      · exact .inl h1
      · exact .inr (.inl (hal' b h1))
      · exact .inr (.inr h1)
    · rcases hal2 b ha with h1 | ⟨id, ver, sz, _, h1⟩
      · rcases ex.anew b h1 with h2 | h2
        · exact .inl (hal' b h2)
        · exact .inr h2
      · exact .inl ⟨id, ver, sz, h1⟩
  have S : StepAll κ κ' := by
    intro id
    rcases img id with ⟨i, hi, rfl⟩ | hx
    · right; rw [hin i hi, ← hk0 i hi]; exact st i hi
    · right; rw [hout id hx]; exact Slot.step_refl _
  have apart : ∀ b id ver sz, ¬ (∃ i, i < h0.length ∧ ρ i = id) → κ id = .live ver (some b) sz → ¬ alive κ0 b := by
    intro b id ver sz hx hk ha
    obtain ⟨i, ver', sz', hi, hk'⟩ := hal b ha
    exact hx ⟨i, hi, r.inj _ _ _ _ _ _ _ hk' hk⟩
  have r2 : Rel Z' κ' (lay ρ 0 h' h) w' := by
    refine ⟨r'.zlt, fun b hz ha => ?_, fun id hid => ?_, fun id x hx => ?_, ?_⟩
    · rcases hal2 b ha with h1 | ⟨id, ver, sz, hx, hk⟩
      · exact r'.za b hz h1
      · rcases ex.znew b hz with h1 | h1 | h1
        · exact r.za b h1 ⟨id, ver, sz, hk⟩
        · exact apart b id ver sz hx hk h1
        · have := alive_lt r ⟨id, ver, sz, hk⟩; omega
    · rw [lay_len] at hid
      have hx : ¬ (∃ i, i < h0.length ∧ ρ i = id) := by
        rintro ⟨i, hi, rfl⟩; have := hlt i hi; omega
      rw [hout id hx]; exact r.hole id hid
    · rcases img id with ⟨i, hi, rfl⟩ | hn
      · have hl := lay_in ρ h' 0 h i (by omega) (fun a b ha hb e => hinj a b (by omega) (by omega) (by simpa using e)) (fun a ha => by have := hlt a (by omega); simpa using this)
        rw [Nat.zero_add] at hl
        rw [hl] at hx
        obtain ⟨y, hy, rfl⟩ := Option.map_eq_some_iff.1 hx
        exact blkOk_ren hi hin (r'.blk i y hy) (List.all_eq_true.1 hh1 y (List.mem_of_getElem? hy))
      · have hl := lay_out ρ h' 0 h id (fun m hm e => hn ⟨m, by omega, by simpa using e⟩)
        rw [hl] at hx
        exact (r.blk id x hx).ext r E S (hout id hn) fun ver b sz hk => ex.keep b (alive_lt r ⟨id, ver, sz, hk⟩) (apart b id ver sz hn hk)
    · intro id id' ver ver' b sz sz' h1 h2
      rcases img id with ⟨i, hi, rfl⟩ | hn
      · rw [hin i hi] at h1
        rcases img id' with ⟨j, hj, rfl⟩ | hn'
        · rw [hin j hj] at h2
          rw [r'.inj _ _ _ _ _ _ _ h1 h2]
        · rw [hout id' hn'] at h2
          rcases ex.anew b ⟨i, ver, sz, h1⟩ with h3 | h3
          · exact absurd h3 (apart b id' _ _ hn' h2)
          · have := alive_lt r ⟨id', _, _, h2⟩; omega
      · rw [hout id hn] at h1
        rcases img id' with ⟨j, hj, rfl⟩ | hn'
        · rw [hin j hj] at h2
          rcases ex.anew b ⟨j, ver', sz', h2⟩ with h3 | h3
          · exact absurd h3 (apart b id _ _ hn h1)
          · have := alive_lt r ⟨id, _, _, h1⟩; omega
        · rw [hout id' hn'] at h2
          exact r.inj _ _ _ _ _ _ _ h1 h2
  exact ⟨_, _, Z', κ', c, ⟨rfl, rfl⟩, rfl, r2, hv'.ren hin hv, E, S.lt r (Nat.le_refl _)⟩
end Go.Cx
