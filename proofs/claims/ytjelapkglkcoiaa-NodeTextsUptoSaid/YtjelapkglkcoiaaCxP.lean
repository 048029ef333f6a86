/- Arguments that lie in blocks of one's own are given away: nobody writes them any more. -/
import Derived.Test.YtjelapkglkcoiaaCxO
set_option linter.unusedVariables false
set_option linter.unusedSimpArgs false
namespace Go.Cx
variable {P : Program} {Z : Nat → Prop} {κ : Nat → Slot} {h : AHeap} {w : World}

def killF (D : List Nat) : Nat → AHeap → AHeap
  | _, [] => []
  | i, b :: h => (if D.contains i then .dead else b) :: killF D (i + 1) h
abbrev kill (D : List Nat) (h : AHeap) : AHeap := killF D 0 h
theorem killF_get (D : List Nat) : ∀ (h : AHeap) (i j : Nat), (killF D i h)[j]? = (h[j]?).map fun b => if D.contains (i + j) then .dead else b
  | [], i, j => by simp [killF]
  | b :: h, i, 0 => by simp [killF]
  | b :: h, i, j + 1 => by
    simp only [killF, List.getElem?_cons_succ]
    rw [killF_get D h (i + 1) j, show i + 1 + j = i + (j + 1) by omega]
theorem killF_len (D : List Nat) : ∀ (h : AHeap) (i : Nat), (killF D i h).length = h.length
  | [], i => rfl
  | b :: h, i => by simp [killF, killF_len D h]

def killK (D : List Nat) (κ : Nat → Slot) : Nat → Slot := fun id => if D.contains id then (match κ id with | .hole => .hole | _ => .dead) else κ id
def killZ (D : List Nat) (Z : Nat → Prop) (κ : Nat → Slot) : Nat → Prop := fun b => Z b ∨ ∃ id ver sz, D.contains id = true ∧ κ id = .live ver (some b) sz
theorem killK_step (D : List Nat) (κ : Nat → Slot) (id : Nat) : (κ id).step (killK D κ id) := by
  unfold killK
  split
  · cases κ id <;> simp [Slot.step]
  · exact Slot.step_refl _
theorem killK_live {D : List Nat} {id ver sz : Nat} {b : Option Nat} (hk : killK D κ id = .live ver b sz) : D.contains id = false ∧ κ id = .live ver b sz := by
  unfold killK at hk
  split at hk
  · split at hk <;> cases hk
  · rename_i hd; exact ⟨by simpa using hd, hk⟩

theorem rel_kill (D : List Nat) (r : Rel Z κ h w) : Rel (killZ D Z κ) (killK D κ) (kill D h) w ∧ Ext Z κ w (killZ D Z κ) (killK D κ) w := by
  have hal : ∀ b, alive (killK D κ) b → ∃ id ver sz, D.contains id = false ∧ κ id = .live ver (some b) sz := by
    rintro b ⟨id, ver, sz, hk⟩
    exact ⟨id, ver, sz, killK_live hk⟩
  refine ⟨⟨?_, ?_, ?_, fun id x hx => ?_, ?_⟩, ⟨rfl, rfl, rfl, Nat.le_refl _, fun _ _ _ => rfl, fun b hz => .inl hz, ?_, ?_⟩⟩
  · rintro b (hz | ⟨id, ver, sz, _, hk⟩)
    · exact r.zlt b hz
    · exact alive_lt r ⟨id, ver, sz, hk⟩
  · rintro b (hz | ⟨id, ver, sz, hid, hk⟩) ha
    · obtain ⟨id', ver', sz', _, hk'⟩ := hal b ha
      exact r.za b hz ⟨id', ver', sz', hk'⟩
    · obtain ⟨id', ver', sz', hid', hk'⟩ := hal b ha
      have := r.inj _ _ _ _ _ _ _ hk hk'
      subst this
      rw [hid] at hid'; cases hid'
  · intro id hid
    rw [killF_len] at hid
    have := r.hole id hid
    unfold killK
    rw [this]
    split <;> rfl
  · rw [killF_get, Nat.zero_add] at hx
    obtain ⟨y, hy, rfl⟩ := Option.map_eq_some_iff.1 hx
    have hb := r.blk id y hy
    have conv : ∀ (as : List AV) (vs : List Value), Rs Z w κ as vs → Rs (killZ D Z κ) w (killK D κ) as vs := fun as vs hs =>
      hs.imp (fun b hz => ⟨.inl hz, rfl⟩) (fun j => .inr (killK_step D κ j))
    split
    · rename_i hd
      have hn := rel_nonhole r (id := id) (List.getElem?_eq_some_iff.1 hy).1
      show killK D κ id = .dead
      unfold killK
      rw [if_pos hd]
      cases hk : κ id with
      | hole => exact absurd hk hn
      | dead => rfl
      | live a b c => rfl
    · rename_i hd
      have hk : killK D κ id = κ id := by simp only [killK, hd]; rfl
      cases y with
      | dead => simp only [blkOk] at *; rw [hk]; exact hb
      | cells ver cs =>
        obtain ⟨ob, sz, h1, h2⟩ := hb
        refine ⟨ob, sz, hk.trans h1, ?_⟩
        cases ob with
        | none => exact h2
        | some b =>
          obtain ⟨c, E, us, h3, h4, h5, h6, h7⟩ := h2
          exact ⟨c, E, us, h3, h4, h5, h6, conv _ _ h7⟩
      | map ks vs =>
        obtain ⟨b, es, cl, h1, h2, h3, h4⟩ := hb
        exact ⟨b, es, cl, hk.trans h1, h2, conv _ _ h3, conv _ _ h4⟩
  · intro id id' ver ver' b sz sz' h1 h2
    exact r.inj _ _ _ _ _ _ _ (killK_live h1).2 (killK_live h2).2
  · rintro b (hz | ⟨id, ver, sz, _, hk⟩)
    · exact .inl hz
    · exact .inr (.inl ⟨id, ver, sz, hk⟩)
  · intro b ha
    obtain ⟨id, ver, sz, _, hk⟩ := hal b ha
    exact .inl ⟨id, ver, sz, hk⟩

/-- A value, where all its own blocks are given away. -/
def fzD (h : AHeap) (D : List Nat) : Nat → AV → Option AV
  | 0, _ => none
  | f + 1, v => if neat v then some v else match v with
    | .agg cs => (cs.mapM (fzD h D f)).map .agg
    | .tup cs => (cs.mapM (fzD h D f)).map .tup
    | .sl _ k cs => (cs.mapM (fzD h D f)).map (.sl false k)
    | .fp cs => (cs.mapM (fzD h D f)).map .fp
    | .fn g cs => (cs.mapM (fzD h D f)).map (.fn g)
    | .own id ver off m k => if D.contains id then match h[id]? with
      | some (.cells ver' cs) => if ver = ver' ∧ (off + m) * k ≤ cs.length then (if m = 0 then some (.sl false 0 []) else (((cs.drop (off * k)).take (m * k)).mapM (fzD h D f)).map (.sl false m)) else none
      | _ => none
      else none
    | .ptr id ver off => if D.contains id then match h[id]? with
      | some (.cells ver' cs) => if ver = ver' then ((cs.drop off).mapM (fzD h D f)).map .fp else none
      | _ => none
      else none
    | .mp id => if D.contains id then match h[id]? with
      | some (.map ks vs) => (ks.mapM (fzD h D f)).bind fun ks => (vs.mapM (fzD h D f)).map (.fmap ks)
      | _ => none
      else none
    | _ => none

theorem fzD_ok (r : Rel Z κ h w) {D : List Nat} : ∀ (f : Nat) (v v' : AV) (c : Value), fzD h D f v = some v' → R Z w κ v c → R (killZ D Z κ) w (killK D κ) v' c
  | 0, v, v', c, hf, hr => by simp [fzD] at hf
  | f + 1, v, v', c, hf, hr => by
    have ih := fun a b c => fzD_ok r (D := D) f a b c
    simp only [fzD] at hf
    split at hf
    · rename_i hn
      injection hf with hf
      subst hf
      exact (hr.noRef_any (κ' := killK D κ) (noRef_of_neat _ hn)).imp (fun b hz => ⟨.inl hz, rfl⟩) (fun id => .inr (Slot.step_refl _))
    · split at hf
      · obtain ⟨bs, hb, rfl⟩ := Option.map_eq_some_iff.1 hf
        cases hr with | agg hs => exact .agg (mapM_ok ih hb hs)
      · obtain ⟨bs, hb, rfl⟩ := Option.map_eq_some_iff.1 hf
        cases hr with | tup hs => exact .tup (mapM_ok ih hb hs)
      · obtain ⟨bs, hb, rfl⟩ := Option.map_eq_some_iff.1 hf
        cases hr with
        | sl0 h1 h2 => simp at hb; subst hb; exact .sl0 (by simp) h2
        | sl h0 h1 h2 h3 h4 h5 h6 => exact .sl h0 h1 (by simp) h3 (.inl h4) h5 (mapM_ok ih hb h6)
      · obtain ⟨bs, hb, rfl⟩ := Option.map_eq_some_iff.1 hf
        cases hr with | fp h1 h2 h3 => exact .fp (.inl h1) h2 (mapM_ok ih hb h3)
      · obtain ⟨bs, hb, rfl⟩ := Option.map_eq_some_iff.1 hf
        cases hr with | fn hs => exact .fn (mapM_ok ih hb hs)
      · rename_i id ver off m k _
        split at hf
        · rename_i hid
          split at hf
          · rename_i ver' cs hx
            split at hf
            · rename_i hc
              obtain ⟨rfl, hlen⟩ := hc
              split at hf
              · rename_i hm
                injection hf with hf; subst hf hm
                cases hr with | own h0 h1 hA h2 => exact .sl0 (by simp) h1
              · rename_i hm
                obtain ⟨bs, hb, rfl⟩ := Option.map_eq_some_iff.1 hf
                rcases own_slice r hr hx with ⟨_, _, _, _, _, h0, _⟩ | ⟨b, sz, arr, E, us, cap, a, q1, rfl, q3, q4, q5, q6, q7, q8, q9, q10, q11, q12⟩
                · exact absurd h0 hm
                · have hcap : 0 < cap := by omega
                  have ha := q6 hcap
                  subst ha
                  exact .sl (by omega) q3 (by simp) (by omega) (.inr ⟨id, ver, sz, hid, q1⟩) ((cells_drop q8 q11 (off * k)).take _) (mapM_ok ih hb ((q12.drop _).take _))
            · cases hf
          · cases hf
        · cases hf
      · rename_i id ver off _
        split at hf
        · rename_i hid
          split at hf
          · rename_i ver' cs hx
            split at hf
            · rename_i hc
              subst hc
              obtain ⟨bs, hb, rfl⟩ := Option.map_eq_some_iff.1 hf
              obtain ⟨b, sz, arr, E, us, q1, rfl, q8, q9, q10, q11, q12⟩ := own_block r hr hx
              exact .fp (.inr ⟨id, ver, sz, hid, q1⟩) (cells_drop q8 q11 off) (mapM_ok ih hb (q12.drop _))
            · cases hf
          · cases hf
        · cases hf
      · rename_i id _
        split at hf
        · rename_i hid
          split at hf
          · rename_i ks vs hx
            obtain ⟨ks', hk, hf⟩ := Option.bind_eq_some_iff.1 hf
            obtain ⟨vs', hv, rfl⟩ := Option.map_eq_some_iff.1 hf
            obtain ⟨b, es, cl, q1, q2, q3, q4⟩ := r.blk id _ hx
            cases hr with
            | mp h2 =>
              simp only [refOk, q1] at h2
              have := h2.2 trivial
              simp only [mapAt] at this
              subst this
              exact .fmap (.inr ⟨id, 0, 0, hid, q1⟩) q2 rfl rfl (mapM_ok ih hk q3) (mapM_ok ih hv q4)
          · cases hf
        · cases hf
      · cases hf

def fzDs (h : AHeap) (D : List Nat) (f : Nat) (cs : List AV) : Option (List AV) := cs.mapM (fzD h D f)

/-- At a call: what the arguments hold of one's own is given away. -/
theorem AInv.give {f : FuncId} {cap args args' : List AV} {v : AV} {Q : AV → AHeap → Prop} (D : List Nat) (hp : PCall P f args' v) (ha : fzDs h D 12 (args ++ cap) = some args') (hq : Q v (kill D h)) : AInv P (.fn f cap) args h Q := by
  refine ⟨hp.2.2.1, fun Z κ w cargs r hr => ?_⟩
  obtain ⟨r1, e1⟩ := rel_kill D r
  have hr1 : Rs (killZ D Z κ) w (killK D κ) args' cargs := mapM_ok (fun a b c h1 h2 => fzD_ok r 12 a b c h1 h2) ha hr
  refine ((hp.frame (kill D h)).2 _ _ w cargs r1 hr1).mono ?_
  rintro e w' ⟨v', h', Z', κ', c, ⟨rfl, rfl⟩, he', r', hv', ex, st⟩
  exact ⟨v', _, Z', κ', c, hq, he', r', hv', e1.trans ex, fun id hid => Slot.step_trans (killK_step D κ id) (st id (by rw [killF_len]; exact hid))⟩

/-! ### equations -/
section
variable {D : List Nat} {f : Nat}
@[simp] theorem fzD_neat {v : AV} (hv : neat v = true) : fzD h D (f + 1) v = some v := by simp [fzD, hv]
theorem fzDs_neat {cs : List AV} (hc : cs.all neat = true) : fzDs h D (f + 1) cs = some cs := by
  induction cs with
  | nil => rfl
  | cons a cs ih =>
    simp only [List.all_cons, Bool.and_eq_true] at hc
    have := ih hc.2
    simp only [fzDs] at this
    simp [fzDs, List.mapM_cons, fzD_neat hc.1, this]
@[simp] theorem fzDs_nil : fzDs h D f [] = some [] := rfl
@[simp] theorem fzDs_cons (a : AV) (cs : List AV) : fzDs h D f (a :: cs) = (fzD h D f a).bind fun a => (fzDs h D f cs).map fun cs => a :: cs := by
  simp only [fzDs, List.mapM_cons]
  cases fzD h D f a with
  | none => rfl
  | some x => cases List.mapM (fzD h D f) cs <;> rfl
@[simp] theorem fzD_agg (cs : List AV) : fzD h D (f + 2) (.agg cs) = (fzDs h D (f + 1) cs).map .agg := by
  rw [fzD]
  split
  · rename_i hn
    rw [neat_agg] at hn
    rw [fzDs_neat hn]; rfl
  · rfl
@[simp] theorem fzD_fn (g : FuncId) (cs : List AV) : fzD h D (f + 2) (.fn g cs) = (fzDs h D (f + 1) cs).map (.fn g) := by
  rw [fzD]
  split
  · rename_i hn
    rw [neat_fn] at hn
    rw [fzDs_neat hn]; rfl
  · rfl
@[simp] theorem fzD_sl {t : Bool} {k : Nat} {cs : List AV} (hc : cs.all neat = true) : fzD h D (f + 2) (.sl t k cs) = some (.sl false k cs) := by
  rw [fzD]
  split
  · rename_i hn
    rw [neat_sl] at hn
    simp only [Bool.and_eq_true, Bool.not_eq_true'] at hn
    rw [hn.1]
  · show (cs.mapM (fzD h D (f + 1))).map (AV.sl false k) = _
    have := fzDs_neat (h := h) (D := D) (f := f) hc
    simp only [fzDs] at this
    rw [this]; rfl
@[simp] theorem fzD_sl0 {t : Bool} : fzD h D (f + 2) (.sl t 0 []) = some (.sl false 0 []) := fzD_sl rfl
def fzOwn (h : AHeap) (D : List Nat) (f ver off m k : Nat) : Option ABlk → Option AV
  | some (.cells ver' cs) => if ver = ver' ∧ (off + m) * k ≤ cs.length then (if m = 0 then some (.sl false 0 []) else (fzDs h D f ((cs.drop (off * k)).take (m * k))).map (.sl false m)) else none
  | _ => none
@[simp] theorem fzD_own (id ver off m k : Nat) : fzD h D (f + 1) (.own id ver off m k) = if D.contains id then fzOwn h D f ver off m k h[id]? else none := by
  rw [fzD]
  simp only [neat_own, Bool.false_eq_true, if_false]
  split
  · cases h[id]? with
    | none => rfl
    | some b => cases b <;> rfl
  · rfl
def fzPtr (h : AHeap) (D : List Nat) (f ver off : Nat) : Option ABlk → Option AV
  | some (.cells ver' cs) => if ver = ver' then (fzDs h D f (cs.drop off)).map .fp else none
  | _ => none
@[simp] theorem fzD_ptr (id ver off : Nat) : fzD h D (f + 1) (.ptr id ver off) = if D.contains id then fzPtr h D f ver off h[id]? else none := by
  rw [fzD]
  simp only [neat_ptr, Bool.false_eq_true, if_false]
  split
  · cases h[id]? with
    | none => rfl
    | some b => cases b <;> rfl
  · rfl
@[simp] theorem fzPtr_eq (ver off ver' : Nat) (cs : List AV) : fzPtr h D f ver off (some (.cells ver' cs)) = if ver = ver' then (fzDs h D f (cs.drop off)).map .fp else none := rfl
/-- A row in a block of one's own, whose cells hold nothing of one's own. -/
theorem fzOwn_neat {ver m k : Nat} {cs : List AV} (hc : cs.all neat = true) (hl : cs.length = m * k) : fzOwn h D (f + 1) ver 0 m k (some (.cells ver cs)) = some (.sl false m cs) := by
  simp only [fzOwn, true_and, Nat.zero_add, Nat.zero_mul, List.drop_zero]
  rw [if_pos (by omega)]
  split
  · rename_i h0
    subst h0
    have : cs = [] := List.eq_nil_of_length_eq_zero (by rw [hl]; simp)
    rw [this]
  · rw [List.take_of_length_le (by omega), fzDs_neat hc]; rfl
end
attribute [simp] killF

@[simp] theorem alen_str {P : Program} {t : TypeId} (ht : P.underlying t = some .string) (s : ByteArray) : alen P t (.val (.string s)) = some (.val (.int .i64 s.size)) := by simp [alen, ht, isString]
@[simp] theorem cast_le_lit (n k : Nat) : ((n : Int) ≤ (no_index (@OfNat.ofNat Int k instOfNat))) = (n ≤ @OfNat.ofNat Nat k (instOfNatNat k)) := propext Int.ofNat_le
@[simp] theorem cast_lt_lit (n k : Nat) : ((n : Int) < (no_index (@OfNat.ofNat Int k instOfNat))) = (n < @OfNat.ofNat Nat k (instOfNatNat k)) := propext Int.ofNat_lt
@[simp] theorem lit_le_cast (n k : Nat) : ((no_index (@OfNat.ofNat Int k instOfNat)) ≤ (n : Int)) = (@OfNat.ofNat Nat k (instOfNatNat k) ≤ n) := propext Int.ofNat_le
@[simp] theorem lit_lt_cast (n k : Nat) : ((no_index (@OfNat.ofNat Int k instOfNat)) < (n : Int)) = (@OfNat.ofNat Nat k (instOfNatNat k) < n) := propext Int.ofNat_lt
section
variable {P : Program} {t : TypeId} (ht : P.underlying t = some .bool) (ox oy : Operand) (x y : Bool)
include ht
@[simp] theorem binB_eql : abin P .eql t ox oy (.val (.bool x)) (.val (.bool y)) = some (.val (.bool (decide (x = y)))) := by
  rw [binb_eql (ht := ht)]; cases x <;> cases y <;> rfl
@[simp] theorem binB_neq : abin P .neq t ox oy (.val (.bool x)) (.val (.bool y)) = some (.val (.bool (!decide (x = y)))) := by
  rw [binb_neq (ht := ht)]; cases x <;> cases y <;> rfl
end
/-! ### loops: what stands at their head -/
theorem Wk.keep {n : Nat} {s : AState} (l : List (Nat × AV)) (hl : ∀ p ∈ l, s.T p.1 = p.2) : Wk n s ⟨s.N, Cx.pat l, s.h⟩ := fun Z κ a w r hn =>
  ⟨κ, ⟨r.rel, r.size, pat_R l fun p hp => by have := r.tmps p.1; rwa [hl p hp] at this, r.defers⟩, .refl _ _ _, .refl _ _, hn⟩
attribute [simp] pat_cons Int.natCast_inj Int.ofNat_lt Int.ofNat_le
@[simp] theorem head_at {α : Type} (l : List α) (i : Nat) : (List.take 1 (List.drop i l)).head? = l[i]? := by
  rw [List.head?_take]; simp
theorem all_step {α : Type} {l : List α} {p : α → Prop} {i : Nat} (h : ∀ x ∈ l.take i, p x) (hi : i < l.length) (hp : p l[i]) : ∀ x ∈ l.take (i + 1), p x := by
  rw [List.take_succ_eq_append_getElem hi]
  intro x hx
  rcases List.mem_append.1 hx with h1 | h1
  · exact h x h1
  · rw [List.mem_singleton.1 h1]; exact hp
theorem all_done {α : Type} {l : List α} {p : α → Prop} {i : Nat} (h : ∀ x ∈ l.take i, p x) (hi : ¬ i < l.length) : ∀ x ∈ l, p x := by
  rwa [List.take_of_length_le (by omega)] at h
/-- One more of two rows that are alike so far. -/
theorem take_step {α : Type} {a b : List α} {i : Nat} (h : a.take i = b.take i) (ha : i < a.length) (hb : i < b.length) (he : a[i] = b[i]) : a.take (i + 1) = b.take (i + 1) := by
  rw [List.take_succ_eq_append_getElem ha, List.take_succ_eq_append_getElem hb, h, he]
theorem take_done {α : Type} {a b : List α} {i : Nat} (h : a.take i = b.take i) (ha : a.length ≤ i) (hb : b.length ≤ i) : a = b := by
  rwa [List.take_of_length_le ha, List.take_of_length_le hb] at h
theorem wrap_nat {i m : Nat} (h : i < m) (hm : m ≤ maxLen) : IntKind.i64.wrap ((i : Int) + 1) = ((i + 1 : Nat) : Int) := by
  have := maxLen_lt hm
  rw [wrap_id (by omega) (by omega)]; simp

/-! ### less is told: blocks are dropped -/
mutual
theorem refsLt_noRef (L : Nat) : ∀ a : AV, neat a = true → refsLt L a = true
  | .val v, _ => by simp [refsLt]
  | .any, _ => by simp [refsLt]
  | .agg cs, h => by rw [neat_agg] at h; rw [refsLt, all_attach]; exact refsLts_noRef L cs h
  | .tup cs, h => by rw [neat_tup] at h; rw [refsLt, all_attach]; exact refsLts_noRef L cs h
  | .sl t n cs, h => by rw [neat_sl, Bool.and_eq_true] at h; rw [refsLt, all_attach]; exact refsLts_noRef L cs h.2
  | .fp cs, h => by rw [neat_fp] at h; rw [refsLt, all_attach]; exact refsLts_noRef L cs h
  | .fn f cs, h => by rw [neat_fn] at h; rw [refsLt, all_attach]; exact refsLts_noRef L cs h
  | .fmap ks vs, h => by rw [neat_fmap, Bool.and_eq_true] at h; rw [refsLt, all_attach, all_attach, refsLts_noRef L ks h.1, refsLts_noRef L vs h.2]; rfl
  | .own id ver off n k, h => by simp at h
  | .ptr id ver off, h => by simp at h
  | .mp id, h => by simp at h
theorem refsLts_noRef (L : Nat) : ∀ cs : List AV, cs.all neat = true → cs.all (refsLt L) = true
  | [], _ => rfl
  | a :: cs, h => by
    simp only [List.all_cons, Bool.and_eq_true] at h ⊢
    exact ⟨refsLt_noRef L a h.1, refsLts_noRef L cs h.2⟩
end
@[simp] theorem refsLt_neat {L : Nat} {a : AV} (h : neat a = true) : refsLt L a = true := refsLt_noRef L a h
@[simp] theorem refsLts_neat {L : Nat} {cs : List AV} (h : cs.all neat = true) : cs.all (refsLt L) = true := refsLts_noRef L cs h
@[simp] theorem refsLt_agg (L : Nat) (cs : List AV) : refsLt L (.agg cs) = cs.all (refsLt L) := by rw [refsLt, all_attach]
@[simp] theorem refsLt_sl (L : Nat) (t : Bool) (n : Nat) (cs : List AV) : refsLt L (.sl t n cs) = cs.all (refsLt L) := by rw [refsLt, all_attach]
@[simp] theorem refsLt_fn (L : Nat) (f : FuncId) (cs : List AV) : refsLt L (.fn f cs) = cs.all (refsLt L) := by rw [refsLt, all_attach]
@[simp] theorem refsLt_ptr (L id ver off : Nat) : refsLt L (.ptr id ver off) = decide (id < L) := by rw [refsLt]
@[simp] theorem refsLt_own (L id ver off n k : Nat) : refsLt L (.own id ver off n k) = decide (id < L) := by rw [refsLt]
@[simp] theorem refsLt_mp (L id : Nat) : refsLt L (.mp id) = decide (id < L) := by rw [refsLt]
attribute [simp] ABlk.refsLt
theorem Wk.cut {n : Nat} {s : AState} (m : Nat) (l : List (Nat × AV)) (hnm : n ≤ m) (hm : m ≤ s.h.length) (hc : (s.h.take m).all (ABlk.refsLt m) = true) (hl : ∀ p ∈ l, s.T p.1 = p.2 ∧ refsLt m p.2 = true) : Wk n s ⟨s.N, Cx.pat l, s.h.take m⟩ :=
  Wk.pat l hnm hm hc fun p hp => ⟨by rw [(hl p hp).1]; exact .refl _, (hl p hp).2⟩
@[simp] theorem fzD_slm {h : AHeap} {D : List Nat} {f : Nat} (t : Bool) (k : Nat) (cs : List AV) : fzD h D (f + 2) (.sl t k cs) = (fzDs h D (f + 1) cs).map (.sl false k) := by
  rw [fzD]
  split
  · rename_i hn
    rw [neat_sl, Bool.and_eq_true, Bool.not_eq_true'] at hn
    rw [fzDs_neat hn.2, hn.1]; rfl
  · rfl
attribute [simp] fzDs_neat frzs_neat frz_slm
end Go.Cx
