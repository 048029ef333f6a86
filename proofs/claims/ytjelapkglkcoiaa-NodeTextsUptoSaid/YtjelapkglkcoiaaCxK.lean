/- Functions that only compute; weakenings; loops. -/
import Derived.Test.YtjelapkglkcoiaaCxJ
set_option linter.unusedVariables false
namespace Go.Cx
variable {P : Program} {Z : Nat → Prop} {κ : Nat → Slot} {h : AHeap} {w : World}

/-- A FUNCTION THAT ONLY COMPUTES: at these arguments it hands back this. -/
def PCall (P : Program) (f : FuncId) (args : List AV) (v : AV) : Prop :=
  args.all neat = true ∧ neat v = true ∧ ACall P f args [] (fun v' h' => v' = v ∧ h' = [])

theorem no_alive (b : Nat) : ¬ alive (fun _ : Nat => Slot.hole) b := by
  rintro ⟨id, ver, sz, hk⟩
  cases hk
theorem rel_empty {Z : Nat → Prop} {w : World} (hz : ∀ b, Z b → b < w.heap.size) : Rel Z (fun _ => .hole) [] w where
  zlt := hz
  za := fun b _ => no_alive b
  hole := fun id _ => rfl
  blk := fun id x hx => by simp at hx
  inj := fun id id' ver ver' b sz sz' h1 => by cases h1

theorem PCall.intro {f : FuncId} {fn : Func} {c : Code} {rs : List ResultVar} {N : Nat} {args : List AV} {v : AV} (lit : TypeId → Bool) (hf : P.funcs[f]? = some fn) (hb : fn.body = some c) (hrs : fn.results.toList = rs) (hN : args.length + (fn.ntmps - args.length) = N) (he : Ent P f) (ha : args.all neat = true) (hv : neat v = true)
    (hx : AX P lit 0 c (PostA P rs 0 (fun v' _ => v' = v)) ⟨N, initT args, []⟩) : PCall P f args v := by
  refine ⟨ha, hv, ?_⟩
  have := ACall.intro (h := []) (Q := fun v' _ => v' = v) lit hf hb hrs hN he hx
  refine ⟨this.1, fun Z κ w cargs r hr => (this.2 Z κ w cargs r hr).mono ?_⟩
  rintro e w' ⟨v', h', Z', κ', c, hq, he', r', hv', ex, st⟩
  -- what is left of the heap doesn't matter
  have r2 : Rel Z' (fun _ => .hole) [] w' := rel_empty r'.zlt
  subst hq
  exact ⟨v', [], Z', fun _ => .hole, c, ⟨rfl, rfl⟩, he', r2, hv'.noRef_any (noRef_of_neat _ hv),
    ⟨ex.os, ex.tape, ex.output, ex.size, ex.keep, ex.zin, ex.znew, fun b ha => absurd ha (no_alive b)⟩, fun id hid => absurd hid (Nat.not_lt_zero _)⟩

/-- It computes the same whatever heap lies beside. -/
theorem PCall.frame {f : FuncId} {args : List AV} {v : AV} (hp : PCall P f args v) (h : AHeap) : ACall P f args h (fun v' h' => v' = v ∧ h' = h) := by
  obtain ⟨ha, hv, he, hc⟩ := hp
  refine ⟨he, fun Z κ w cargs r hr => ?_⟩
  refine (hc Z (fun _ => .hole) w cargs (rel_empty r.zlt) (hr.noRef_any fun a h1 => noRef_of_neat a (List.all_eq_true.1 ha a h1))).mono ?_
  rintro e w' ⟨v', h', Z', κ', c, ⟨rfl, rfl⟩, he', r', hv', ex, st⟩
  have hno := no_alive
  have e : Ext Z κ w Z' κ w' := ⟨ex.os, ex.tape, ex.output, ex.size, fun b hb _ => ex.keep b hb (hno b), ex.zin, fun b hz => (ex.znew b hz).elim .inl fun h1 => h1.elim (fun h2 => (hno b h2).elim) (fun h2 => .inr (.inr h2)), fun b h1 => .inl h1⟩
  have r2 : Rel Z' κ h w' := by
    refine ⟨r'.zlt, fun b hz hal => ?_, r.hole, fun id x hx => ?_, r.inj⟩
    · rcases ex.znew b hz with h1 | h1 | h1
      · exact r.za b h1 hal
      · exact hno b h1
      · have := alive_lt r hal; omega
    · exact (r.blk id x hx).ext r e (.refl _) rfl fun ver b sz hk => ex.keep b (alive_lt r ⟨id, ver, sz, hk⟩) (hno b)
  exact ⟨v', h, Z', κ, c, ⟨rfl, rfl⟩, he', r2, hv'.noRef_any (noRef_of_neat _ hv), e, .refl _ _⟩

/-- At a call: the arguments by sight. -/
theorem AInv.pure {f : FuncId} {cap args args' : List AV} {v : AV} {Q : AV → AHeap → Prop} (hp : PCall P f args' v) (ha : args ++ cap = args') (hq : Q v h) : AInv P (.fn f cap) args h Q := by
  show ACall P f (args ++ cap) h Q
  rw [ha]
  exact (hp.frame h).mono fun v' h' ⟨h1, h2⟩ => by rw [h1, h2]; exact hq

/-- A value without memory behind it. -/
def memFree : AV → Bool
  | .val _ => true
  | .agg cs => cs.all fun | .val _ => true | _ => false
  | .tup cs => cs.all fun | .val _ => true | _ => false
  | _ => false
theorem memFree_any {Z' : Nat → Prop} {w' : World} {κ' : Nat → Slot} : ∀ {v : AV} {c : Value}, memFree v = true → R Z w κ v c → R Z' w' κ' v c := by
  have hs : ∀ (cs : List AV) (vs : List Value), (cs.all fun | .val _ => true | _ => false) = true → Rs Z w κ cs vs → Rs Z' w' κ' cs vs := by
    intro cs
    induction cs with
    | nil => intro vs _ h; cases h; exact .nil
    | cons a cs ih =>
      intro vs hall h
      simp only [List.all_cons, Bool.and_eq_true] at hall
      cases h with
      | cons h1 h2 =>
        refine .cons ?_ (ih _ hall.2 h2)
        cases h1 <;> simp at hall
        exact .val (by assumption)
  intro v c hm hr
  cases hr with
  | val hp => exact .val hp
  | agg h => exact .agg (hs _ _ (by simpa [memFree] using hm) h)
  | tup h => exact .tup (hs _ _ (by simpa [memFree] using hm) h)
  | _ => simp [memFree] at hm

/-- Arguments that lie in blocks of one's own are lent: what is handed back keeps nothing of them. -/
theorem AInv.lend {f : FuncId} {cap args args' : List AV} {v : AV} {Q : AV → AHeap → Prop} (hp : PCall P f args' v) (hm : memFree v = true) (ha : (args ++ cap).mapM (frz h 0 12) = some args') (hq : Q v h) : AInv P (.fn f cap) args h Q := by
  obtain ⟨hn, hv, he, hc⟩ := hp
  refine ⟨he, fun Z κ w cargs r hr => ?_⟩
  obtain ⟨r0, e0⟩ := rel_cut r (n := 0) (by simp)
  have hk0 : cutK 0 κ = fun _ => .hole := by funext id; simp [cutK]
  have hr0 : Rs (cutZ 0 Z κ) w (cutK 0 κ) args' cargs := mapM_ok (fun a b c h1 h2 => frz_ok r 12 a b c h1 h2) ha hr
  rw [hk0] at hr0 r0
  simp only [List.take_zero] at r0
  refine (hc _ _ w cargs r0 hr0).mono ?_
  rintro e w' ⟨v', h', Z', κ', c, ⟨rfl, rfl⟩, he', r', hv', ex, st⟩
  have hno := no_alive
  have e : Ext Z κ w Z κ w' := ⟨ex.os, ex.tape, ex.output, ex.size, fun b hb _ => ex.keep b hb (hno b), fun b h => h, fun b h => .inl h, fun b h1 => .inl h1⟩
  have r2 : Rel Z κ h w' := by
    refine ⟨fun b hz => Nat.lt_of_lt_of_le (r.zlt b hz) ex.size, r.za, r.hole, fun id x hx => ?_, r.inj⟩
    exact (r.blk id x hx).ext r e (.refl _) rfl fun ver b sz hk => ex.keep b (alive_lt r ⟨id, ver, sz, hk⟩) (hno b)
  exact ⟨v', h, Z, κ, c, hq, he', r2, memFree_any hm hv', e, .refl _ _⟩

/-! ### less is told -/
def Wk (n : Nat) (s s' : AState) : Prop :=
  ∀ (Z : Nat → Prop) (κ : Nat → Slot) (a : Act) (w : World), SRel Z κ s a w → n ≤ s.h.length → ∃ κ', SRel Z κ' s' a w ∧ Ext Z κ w Z κ' w ∧ StepLt n κ κ' ∧ n ≤ s'.h.length

theorem Wk.refl (n : Nat) (s : AState) : Wk n s s := fun Z κ a w r hn => ⟨κ, r, .refl _ _ _, .refl _ _, hn⟩
theorem Wk.trans {n : Nat} {s s' s'' : AState} (h : Wk n s s') (k : Wk n s' s'') : Wk n s s'' := fun Z κ a w r hn => by
  obtain ⟨κ1, r1, e1, st1, n1⟩ := h Z κ a w r hn
  obtain ⟨κ2, r2, e2, st2, n2⟩ := k Z κ1 a w r1 n1
  exact ⟨κ2, r2, e1.trans e2, st1.trans st2, n2⟩
theorem After.wk {n : Nat} {Q : AState → Prop} {a' : Act} {w' : World} (ha : After n (fun s => ∃ s', Wk n s s' ∧ Q s') Z κ w a' w') : After n Q Z κ w a' w' := by
  obtain ⟨s, Z', κ', ⟨s', hw, hq⟩, r, e, st, hn⟩ := ha
  obtain ⟨κ2, r2, e2, st2, n2⟩ := hw Z' κ' a' w' r hn
  exact ⟨s', Z', κ2, hq, r2, e.trans e2, st.trans st2, n2⟩
theorem AW.wk {n : Nat} {c : Code} {Q : Exit → AState → Prop} {s s' : AState} (hw : Wk n s s') (hx : AW P n c Q s') : AW P n c Q s := fun Z κ a w r hn => by
  obtain ⟨κ2, r2, e2, st2, n2⟩ := hw Z κ a w r hn
  exact wp_mono (hx Z κ2 a w r2 n2) fun e a' w' ha => ha.trans e2 st2

/-- b tells no more than a. -/
def le (a b : AV) : Prop := ∀ (Z : Nat → Prop) (w : World) (κ : Nat → Slot) (c : Value), R Z w κ a c → R Z w κ b c
theorem le.refl (a : AV) : le a a := fun _ _ _ _ h => h
theorem le.any (a : AV) : le a .any := fun _ _ _ _ _ => .any
theorem le.loose (t : Bool) (n : Nat) (cs : List AV) : le (.sl t n cs) (.sl false n cs) := fun _ _ _ _ h => h.loose

/-- A few slots, and nothing of all others. -/
def pat : List (Nat × AV) → Nat → AV
  | [], _ => .any
  | (i, v) :: l, j => if j = i then v else pat l j
@[simp] theorem pat_nil (j : Nat) : pat [] j = .any := rfl
theorem pat_cons (i : Nat) (v : AV) (l : List (Nat × AV)) (j : Nat) : pat ((i, v) :: l) j = if j = i then v else pat l j := rfl

theorem pat_R {κ' : Nat → Slot} {a : Act} (l : List (Nat × AV)) (hl : ∀ p ∈ l, R Z w κ' p.2 (a.tmps.getD p.1 undef)) : ∀ j, R Z w κ' (pat l j) (a.tmps.getD j undef) := by
  intro j
  induction l with
  | nil => exact .any
  | cons p l ih =>
    obtain ⟨i, v⟩ := p
    rw [pat_cons]
    split
    · rename_i hj; subst hj; exact hl (_, v) (by simp)
    · exact ih fun p hp => hl p (by simp [hp])

/-- Slots are forgotten; the last blocks, too. -/
theorem Wk.pat {n m : Nat} {s : AState} (l : List (Nat × AV)) (hnm : n ≤ m) (hm : m ≤ s.h.length) (hc : (s.h.take m).all (ABlk.refsLt m) = true) (hl : ∀ p ∈ l, le (s.T p.1) p.2 ∧ refsLt m p.2 = true) : Wk n s ⟨s.N, Cx.pat l, s.h.take m⟩ := by
  intro Z κ a w r hn
  obtain ⟨r1, e1⟩ := rel_cut r.rel (n := m) hc
  have hz : ∀ b, alive (cutK m κ) b → alive κ b := by
    rintro b ⟨id, ver, sz, hk⟩
    unfold cutK at hk
    split at hk
    · exact ⟨id, ver, sz, hk⟩
    · cases hk
  have r2 : Rel Z (cutK m κ) (s.h.take m) w := by
    refine ⟨r.rel.zlt, fun b hz' ha => r.rel.za b hz' (hz b ha), r1.hole, fun id x hx => ?_, r1.inj⟩
    have hlt := (List.getElem?_eq_some_iff.1 hx).1
    have hidn : id < m := by simp at hlt; omega
    have hx' : s.h[id]? = some x := by rw [List.getElem?_take_of_lt hidn] at hx; exact hx
    have hb := r.rel.blk id x hx'
    have hr := List.all_eq_true.1 hc x (List.mem_of_getElem? hx)
    have hk : cutK m κ id = κ id := by simp [cutK, hidn]
    have conv : ∀ (as : List AV) (vs : List Value), as.all (refsLt m) = true → Rs Z w κ as vs → Rs Z w (cutK m κ) as vs := fun as vs ha hs =>
      hs.lt (List.all_eq_true.1 ha) (fun j hj => show cutK m κ j = κ j by simp [cutK, hj])
    cases x with
    | dead => simp only [blkOk] at *; rw [hk]; exact hb
    | cells ver cs =>
      obtain ⟨ob, sz, h1, h2⟩ := hb
      refine ⟨ob, sz, hk.trans h1, ?_⟩
      cases ob with
      | none => exact h2
      | some b =>
        obtain ⟨c, E, us, h3, h4, h5, h6, h7⟩ := h2
        exact ⟨c, E, us, h3, h4, h5, h6, conv _ _ hr h7⟩
    | map ks vs =>
      obtain ⟨b, es, cl, h1, h2, h3, h4⟩ := hb
      simp only [ABlk.refsLt, Bool.and_eq_true] at hr
      exact ⟨b, es, cl, hk.trans h1, h2, conv _ _ hr.1 h3, conv _ _ hr.2 h4⟩
  refine ⟨cutK m κ, ⟨r2, r.size, pat_R l fun p hp => ?_, r.defers⟩, ⟨rfl, rfl, rfl, Nat.le_refl _, fun _ _ _ => rfl, fun _ h => h, fun _ h => .inl h, fun b ha => .inl (hz b ha)⟩, (stepLt_cut m κ).mono hnm, by simp; omega⟩
  obtain ⟨h1, h2⟩ := hl p hp
  exact (h1 _ _ _ _ (r.tmps p.1)).lt h2 (fun j hj => show cutK m κ j = κ j by simp [cutK, hj])

/-- A slice that is nil, or empty without room, is one's own. -/
theorem Wk.ownNil {n : Nat} {s : AState} (t k : Nat) (ht : s.T t = .sl true 0 []) : Wk n s ⟨s.N, put s.T t (.own s.h.length 0 0 0 k), s.h ++ [.cells 0 []]⟩ := by
  intro Z κ a w r hn
  have hh := r.rel.hole s.h.length (Nat.le_refl _)
  have hs : StepAll κ (upd κ s.h.length (.live 0 none 0)) := .upd (.inl hh)
  have hal : ∀ b, alive (upd κ s.h.length (.live 0 none 0)) b → alive κ b := by
    rintro b ⟨id, ver, sz, hk⟩
    by_cases hid : id = s.h.length
    · subst hid; rw [upd_same] at hk; cases hk
    · rw [upd_ne _ _ hid] at hk; exact ⟨id, ver, sz, hk⟩
  have e : Ext Z κ w Z (upd κ s.h.length (.live 0 none 0)) w := ⟨rfl, rfl, rfl, Nat.le_refl _, fun _ _ _ => rfl, fun _ h => h, fun _ h => .inl h, fun b ha => .inl (hal b ha)⟩
  refine ⟨_, ⟨⟨r.rel.zlt, fun b hz ha => r.rel.za b hz (hal b ha), fun id hid => ?_, fun id x hx => ?_, ?_⟩, r.size, fun j => ?_, r.defers⟩, e, hs.lt r.rel hn, by simp; omega⟩
  · simp at hid
    rw [upd_ne _ _ (by omega)]; exact r.rel.hole id (by omega)
  · by_cases hid : id = s.h.length
    · subst hid
      simp at hx
      subst hx
      exact ⟨none, 0, upd_same _ _ _, rfl⟩
    · have hlt : id < s.h.length := by
        have := (List.getElem?_eq_some_iff.1 hx).1
        simp at this; omega
      rw [List.getElem?_append_left hlt] at hx
      exact (r.rel.blk id x hx).ext r.rel e hs (upd_ne _ _ hid) fun _ _ _ _ => rfl
  · intro id id' ver ver' b sz sz' h1 h2
    by_cases hid : id = s.h.length
    · subst hid; rw [upd_same] at h1; cases h1
    · by_cases hid' : id' = s.h.length
      · subst hid'; rw [upd_same] at h2; cases h2
      · rw [upd_ne _ _ hid] at h1; rw [upd_ne _ _ hid'] at h2
        exact r.rel.inj _ _ _ _ _ _ _ h1 h2
  · show R Z w _ (put s.T t _ j) _
    by_cases hj : j = t
    · subst hj
      rw [put_same]
      have h1 := r.tmps j
      rw [ht] at h1
      generalize a.tmps.getD j undef = c at h1
      cases h1 with
      | sl0 h2 h3 =>
        have h0 := h2 rfl
        subst h0
        refine .own (Nat.le_refl _) h3 (by simp) ?_
        simp [refOk, upd_same, ownAt]
      | sl h2 => omega
    · rw [put_ne _ _ hj]; exact (r.tmps j).ext r.rel e hs

/-! ### loops -/
theorem AW.loop {n : Nat} {c : Code} {Q : Exit → AState → Prop} {s : AState} (I : AState → Prop) (μ : AState → Nat) (h0 : I s)
    (hr : ∀ s, I s → AW P n c (thenA (fun s' => ∃ s'', Wk n s' s'' ∧ I s'' ∧ μ s'' < μ s) Q) s) : AW P n (.loop c) Q s := by
  intro Z κ a w r hn
  have hmin : ∀ a' w', (∃ m s', After n (fun s' => I s' ∧ μ s' = m) Z κ w a' w' ∧ s' = m) → True := fun _ _ _ => trivial
  -- the states that may stand here, and the least measure of them
  let J : Act → World → Nat → Prop := fun a' w' m => After n (fun s' => I s' ∧ μ s' = m) Z κ w a' w'
  let I' : Act → World → Prop := fun a' w' => ∃ m, J a' w' m
  have lst : ∀ a' w', I' a' w' → ∃ m, J a' w' m ∧ ∀ k, J a' w' k → m ≤ k := by
    intro a' w' ⟨m, hm⟩
    induction m using Nat.strongRecOn with
    | _ m ih =>
      by_cases hex : ∃ k, k < m ∧ J a' w' k
      · obtain ⟨k, hk, hj⟩ := hex; exact ih k hk hj
      · exact ⟨m, hm, fun k hk => Nat.le_of_not_lt fun hlt => hex ⟨k, hlt, hk⟩⟩
  let μ' : Act → World → Nat := fun a' w' => Classical.epsilon fun m => J a' w' m ∧ ∀ k, J a' w' k → m ≤ k
  have hμ : ∀ a' w', I' a' w' → J a' w' (μ' a' w') ∧ ∀ k, J a' w' k → μ' a' w' ≤ k := fun a' w' hi => Classical.epsilon_spec (lst a' w' hi)
  refine wp_loop I' μ' ⟨μ s, s, Z, κ, ⟨h0, rfl⟩, r, .refl _ _ _, .refl _ _, hn⟩ fun a' w' hi => ?_
  obtain ⟨⟨s1, Z1, κ1, ⟨hI, hm⟩, r1, e1, st1, n1⟩, hle⟩ := hμ a' w' hi
  refine wp_mono (hr s1 hI Z1 κ1 a' w' r1 n1) fun e a2 w2 ha => ?_
  have ha := ha.trans e1 st1
  cases e with
  | normal =>
    obtain ⟨s2, Z2, κ2, ⟨s3, hwk, hI3, hlt⟩, r2, e2, st2, n2⟩ := ha
    obtain ⟨κ3, r3, e3, st3, n3⟩ := hwk Z2 κ2 a2 w2 r2 n2
    have hj : J a2 w2 (μ s3) := ⟨s3, Z2, κ3, ⟨hI3, rfl⟩, r3, e2.trans e3, st2.trans st3, n3⟩
    refine ⟨⟨_, hj⟩, ?_⟩
    have := (hμ a2 w2 ⟨_, hj⟩).2 _ hj
    omega
  | exit id => exact ha
  | goto l => exact ha
  | ret => exact ha
  | panic ch => exact ha
  | outgrown => exact ha

/-- A loop, its states by a family. -/
theorem AW.loopF {α : Type} {n : Nat} {lit : TypeId → Bool} {c : Code} {Q : Exit → AState → Prop} {s : AState} (S : α → AState) (μ : α → Nat) (good : α → Prop) (x0 : α) (h0 : Wk n s (S x0)) (g0 : good x0)
    (hr : ∀ x, good x → AX P lit n c (thenA (fun s' => ∃ x', Wk n s' (S x') ∧ good x' ∧ μ x' < μ x) Q) (S x)) : AW P n (.loop c) Q s := by
  refine AW.wk h0 ?_
  -- the least measure of those that give this state
  let I : AState → Prop := fun s => ∃ x, good x ∧ S x = s
  let M : AState → Nat → Prop := fun s m => ∃ x, good x ∧ S x = s ∧ μ x = m
  have lst : ∀ s, I s → ∃ m, M s m ∧ ∀ k, M s k → m ≤ k := by
    rintro s ⟨x, hg, hs⟩
    have : ∀ m, M s m → ∃ m, M s m ∧ ∀ k, M s k → m ≤ k := by
      intro m
      induction m using Nat.strongRecOn with
      | _ m ih =>
        intro hm
        by_cases hex : ∃ k, k < m ∧ M s k
        · obtain ⟨k, hk, hj⟩ := hex; exact ih k hk hj
        · exact ⟨m, hm, fun k hk => Nat.le_of_not_lt fun hlt => hex ⟨k, hlt, hk⟩⟩
    exact this (μ x) ⟨x, hg, hs, rfl⟩
  let μ' : AState → Nat := fun s => Classical.epsilon fun m => M s m ∧ ∀ k, M s k → m ≤ k
  have hμ : ∀ s, I s → M s (μ' s) ∧ ∀ k, M s k → μ' s ≤ k := fun s hi => Classical.epsilon_spec (lst s hi)
  refine AW.loop I μ' ⟨x0, g0, rfl⟩ fun s hi => ?_
  obtain ⟨⟨x, hg, hs, hm⟩, _⟩ := hμ s hi
  subst hs
  intro Z κ a w r hn
  refine wp_mono (AX_ok c _ _ (hr x hg) Z κ a w r hn) fun e a' w' ha => ha.mono fun s2 h2 => ?_
  cases e with
  | normal =>
    obtain ⟨x', hw, hg', hlt⟩ := h2
    refine ⟨S x', hw, ⟨x', hg', rfl⟩, ?_⟩
    have := (hμ (S x') ⟨x', hg', rfl⟩).2 _ ⟨x', hg', rfl, rfl⟩
    omega
  | exit id => exact h2
  | goto l => exact h2
  | ret => exact h2
  | panic ch => exact h2
  | outgrown => exact h2

end Go.Cx
