/- What is handed back; entering a function; calls of functions that only compute; loops. -/
import Derived.Test.YtjelapkglkcoiaaCxI
set_option linter.unusedVariables false
namespace Go.Cx
variable {P : Program} {Z : Nat → Prop} {κ : Nat → Slot} {h : AHeap} {w : World}

/-- A value without references, all its slices told plainly. -/
def neat : AV → Bool
  | .val _ | .any => true
  | .agg cs => cs.attach.all fun ⟨c, _⟩ => neat c
  | .tup cs => cs.attach.all fun ⟨c, _⟩ => neat c
  | .sl t _ cs => !t && cs.attach.all fun ⟨c, _⟩ => neat c
  | .fp cs => cs.attach.all fun ⟨c, _⟩ => neat c
  | .fn _ cs => cs.attach.all fun ⟨c, _⟩ => neat c
  | .fmap ks vs => (ks.attach.all fun ⟨c, _⟩ => neat c) && (vs.attach.all fun ⟨c, _⟩ => neat c)
  | .own .. | .ptr .. | .mp .. => false

@[simp] theorem neat_val (v : Value) : neat (.val v) = true := by simp [neat]
@[simp] theorem neat_any : neat .any = true := by simp [neat]
@[simp] theorem neat_agg (cs : List AV) : neat (.agg cs) = cs.all neat := by rw [neat, all_attach]
@[simp] theorem neat_tup (cs : List AV) : neat (.tup cs) = cs.all neat := by rw [neat, all_attach]
@[simp] theorem neat_sl (t : Bool) (n : Nat) (cs : List AV) : neat (.sl t n cs) = (!t && cs.all neat) := by rw [neat, all_attach]
@[simp] theorem neat_fp (cs : List AV) : neat (.fp cs) = cs.all neat := by rw [neat, all_attach]
@[simp] theorem neat_fn (f : FuncId) (cs : List AV) : neat (.fn f cs) = cs.all neat := by rw [neat, all_attach]
@[simp] theorem neat_fmap (ks vs : List AV) : neat (.fmap ks vs) = (ks.all neat && vs.all neat) := by rw [neat, all_attach, all_attach]
@[simp] theorem neat_own (id ver off n k : Nat) : neat (.own id ver off n k) = false := by rw [neat]
@[simp] theorem neat_ptr (id ver off : Nat) : neat (.ptr id ver off) = false := by rw [neat]
@[simp] theorem neat_mp (id : Nat) : neat (.mp id) = false := by rw [neat]

theorem noRef_of_neat : ∀ a : AV, neat a = true → noRef a = true
  | .val _, _ | .any, _ => by simp [noRef]
  | .agg cs, h => by simp only [neat_agg, noRef, all_attach, List.all_eq_true] at *; exact fun c hc => noRef_of_neat c (h c hc)
  | .tup cs, h => by simp only [neat_tup, noRef, all_attach, List.all_eq_true] at *; exact fun c hc => noRef_of_neat c (h c hc)
  | .sl _ _ cs, h => by simp only [neat_sl, noRef, all_attach, List.all_eq_true, Bool.and_eq_true] at *; exact fun c hc => noRef_of_neat c (h.2 c hc)
  | .fp cs, h => by simp only [neat_fp, noRef, all_attach, List.all_eq_true] at *; exact fun c hc => noRef_of_neat c (h c hc)
  | .fn _ cs, h => by simp only [neat_fn, noRef, all_attach, List.all_eq_true] at *; exact fun c hc => noRef_of_neat c (h c hc)
  | .fmap ks vs, h => by
    simp only [neat_fmap, noRef, all_attach, List.all_eq_true, Bool.and_eq_true] at *
    exact ⟨fun c hc => noRef_of_neat c (h.1 c hc), fun c hc => noRef_of_neat c (h.2 c hc)⟩
  | .own .., h | .ptr .., h | .mp .., h => by simp at h

/-- The slots and the blocks behind all from n on is given up. -/
def cutK (n : Nat) (κ : Nat → Slot) : Nat → Slot := fun id => if id < n then κ id else .hole
def cutZ (n : Nat) (Z : Nat → Prop) (κ : Nat → Slot) : Nat → Prop := fun b => Z b ∨ ∃ id ver sz, n ≤ id ∧ κ id = .live ver (some b) sz

def frz (h : AHeap) (n : Nat) : Nat → AV → Option AV
  | 0, _ => none
  | f + 1, v => if neat v then some v else match v with
    | .val v => some (.val v)
    | .any => some .any
    | .agg cs => (cs.mapM (frz h n f)).map .agg
    | .tup cs => (cs.mapM (frz h n f)).map .tup
    | .sl _ k cs => (cs.mapM (frz h n f)).map (.sl false k)
    | .fp cs => (cs.mapM (frz h n f)).map .fp
    | .fn g cs => (cs.mapM (frz h n f)).map (.fn g)
    | .fmap ks vs => (ks.mapM (frz h n f)).bind fun ks => (vs.mapM (frz h n f)).map (.fmap ks)
    | .own id ver off m k => if id < n then some (.own id ver off m k) else match h[id]? with
      | some (.cells ver' cs) => if ver = ver' ∧ (off + m) * k ≤ cs.length then (if m = 0 then some (.sl false 0 []) else (((cs.drop (off * k)).take (m * k)).mapM (frz h n f)).map (.sl false m)) else none
      | _ => none
    | .ptr id ver off => if id < n then some (.ptr id ver off) else match h[id]? with
      | some (.cells ver' cs) => if ver = ver' then ((cs.drop off).mapM (frz h n f)).map .fp else none
      | _ => none
    | .mp id => if id < n then some (.mp id) else match h[id]? with
      | some (.map ks vs) => (ks.mapM (frz h n f)).bind fun ks => (vs.mapM (frz h n f)).map (.fmap ks)
      | _ => none

theorem mapM_ok {f : AV → Option AV} {Z' : Nat → Prop} {κ' : Nat → Slot} {w' : World} (hf : ∀ a b c, f a = some b → R Z w κ a c → R Z' w' κ' b c) : ∀ {as bs : List AV} {cs : List Value}, as.mapM f = some bs → Rs Z w κ as cs → Rs Z' w' κ' bs cs
  | _, bs, _, hm, .nil => by simp at hm; subst hm; exact .nil
  | _, bs, _, hm, .cons h1 h2 => by
    simp only [List.mapM_cons, Option.pure_def, Option.bind_eq_bind] at hm
    obtain ⟨y, hy, hm⟩ := Option.bind_eq_some_iff.1 hm
    obtain ⟨ys, hys, hm⟩ := Option.bind_eq_some_iff.1 hm
    injection hm with hm
    subst hm
    exact .cons (hf _ _ _ hy h1) (mapM_ok hf hys h2)

theorem R.loose {t : Bool} {n : Nat} {cs : List AV} {c : Value} (hr : R Z w κ (.sl t n cs) c) : R Z w κ (.sl false n cs) c := by
  cases hr with
  | sl0 h1 h2 => exact .sl0 (by simp) h2
  | sl h0 h1 h2 h3 h4 h5 h6 => exact .sl h0 h1 (by simp) h3 h4 h5 h6

theorem refOk_cut {n id ver : Nat} {p : Option Nat → Nat → Prop} (hid : id < n) (hr : refOk κ id ver p) : refOk (cutK n κ) id ver p := by
  unfold refOk cutK at *
  simpa [hid] using hr

theorem frz_ok (r : Rel Z κ h w) {n : Nat} : ∀ (f : Nat) (v v' : AV) (c : Value), frz h n f v = some v' → R Z w κ v c → R (cutZ n Z κ) w (cutK n κ) v' c
  | 0, v, v', c, hf, hr => by simp [frz] at hf
  | f + 1, v, v', c, hf, hr => by
    have ih := fun a b c => frz_ok r (n := n) f a b c
    simp only [frz] at hf
    split at hf
    · rename_i hn
      injection hf with hf
      subst hf
      exact (hr.noRef_any (κ' := cutK n κ) (noRef_of_neat _ hn)).imp (fun b hz => ⟨.inl hz, rfl⟩) (fun id => .inr (Slot.step_refl _))
    · split at hf
      · rename_i v; injection hf with hf; subst hf; cases hr with | val hp => exact .val hp
      · injection hf with hf; subst hf; exact .any
      · obtain ⟨bs, hb, rfl⟩ := Option.map_eq_some_iff.1 hf
        cases hr with | agg hs => exact .agg (mapM_ok ih hb hs)
      · obtain ⟨bs, hb, rfl⟩ := Option.map_eq_some_iff.1 hf
        cases hr with | tup hs => exact .tup (mapM_ok ih hb hs)
      · obtain ⟨bs, hb, rfl⟩ := Option.map_eq_some_iff.1 hf
        cases hr with
        | sl0 h1 h2 => simp at hb; subst hb; exact .sl0 (by simp) h2
        | sl h0 h1 h2 h3 h4 h5 h6 => exact .sl h0 h1 (by simp) h3 (.inl h4) h5 (mapM_ok ih hb h6)
      · obtain ⟨bs, hb, rfl⟩ := Option.map_eq_some_iff.1 hf
        cases hr with | fp h1 h2 h3 => exact .fp (.inl h1) h2 (mapM_ok ih hb h3)
      · obtain ⟨bs, hb, rfl⟩ := Option.map_eq_some_iff.1 hf
        cases hr with | fn hs => exact .fn (mapM_ok ih hb hs)
      · obtain ⟨ks', hk, hf⟩ := Option.bind_eq_some_iff.1 hf
        obtain ⟨vs', hv, rfl⟩ := Option.map_eq_some_iff.1 hf
        cases hr with | fmap h1 h2 h3 h4 h5 h6 => exact .fmap (.inl h1) h2 h3 h4 (mapM_ok ih hk h5) (mapM_ok ih hv h6)
      · rename_i id ver off m k _
        split at hf
        · rename_i hid
          injection hf with hf; subst hf
          cases hr with | own h0 h1 hA h2 => exact .own h0 h1 hA (refOk_cut hid h2)
        · rename_i hid
          split at hf
          · rename_i ver' cs hx
            split at hf
            · rename_i hc
              obtain ⟨rfl, hlen⟩ := hc
              split at hf
              · rename_i hm
                injection hf with hf; subst hf hm
                cases hr with | own h0 h1 hA h2 => exact .sl0 (by simp) h1
              · rename_i hm
                obtain ⟨bs, hb, rfl⟩ := Option.map_eq_some_iff.1 hf
                rcases own_slice r hr hx with ⟨_, _, _, _, _, h0, _⟩ | ⟨b, sz, arr, E, us, cap, a, q1, rfl, q3, q4, q5, q6, q7, q8, q9, q10, q11, q12⟩
                · exact absurd h0 hm
                · have hcap : 0 < cap := by omega
                  have ha := q6 hcap
                  subst ha
                  exact .sl (by omega) q3 (by simp) (by omega) (.inr ⟨id, ver, sz, by omega, q1⟩) ((cells_drop q8 q11 (off * k)).take _) (mapM_ok ih hb ((q12.drop _).take _))
            · cases hf
          · cases hf
      · rename_i id ver off _
        split at hf
        · rename_i hid
          injection hf with hf; subst hf
          cases hr with | ptr h2 => exact .ptr (refOk_cut hid h2)
        · rename_i hid
          split at hf
          · rename_i ver' cs hx
            split at hf
            · rename_i hc
              subst hc
              obtain ⟨bs, hb, rfl⟩ := Option.map_eq_some_iff.1 hf
              obtain ⟨b, sz, arr, E, us, q1, rfl, q8, q9, q10, q11, q12⟩ := own_block r hr hx
              exact .fp (.inr ⟨id, ver, sz, by omega, q1⟩) (cells_drop q8 q11 off) (mapM_ok ih hb (q12.drop _))
            · cases hf
          · cases hf
      · rename_i id _
        split at hf
        · rename_i hid
          injection hf with hf; subst hf
          cases hr with | mp h2 => exact .mp (refOk_cut hid h2)
        · rename_i hid
          split at hf
          · rename_i ks vs hx
            obtain ⟨ks', hk, hf⟩ := Option.bind_eq_some_iff.1 hf
            obtain ⟨vs', hv, rfl⟩ := Option.map_eq_some_iff.1 hf
            obtain ⟨b, es, cl, q1, q2, q3, q4⟩ := r.blk id _ hx
            cases hr with
            | mp h2 =>
              simp only [refOk, q1] at h2
              have := h2.2 trivial
              simp only [mapAt] at this
              subst this
              exact .fmap (.inr ⟨id, 0, 0, by omega, q1⟩) q2 rfl rfl (mapM_ok ih hk q3) (mapM_ok ih hv q4)
          · cases hf

def ABlk.refsLt (L : Nat) : ABlk → Bool
  | .dead => true
  | .cells _ cs => cs.all (Cx.refsLt L)
  | .map ks vs => ks.all (Cx.refsLt L) && vs.all (Cx.refsLt L)

/-- All blocks from n on are given up: nobody writes them any more. -/
theorem rel_cut (r : Rel Z κ h w) {n : Nat} (hc : (h.take n).all (ABlk.refsLt n) = true) : Rel (cutZ n Z κ) (cutK n κ) (h.take n) w ∧ Ext Z κ w (cutZ n Z κ) (cutK n κ) w := by
  have hal : ∀ b, alive (cutK n κ) b → ∃ id ver sz, id < n ∧ κ id = .live ver (some b) sz := by
    rintro b ⟨id, ver, sz, hk⟩
    unfold cutK at hk
    split at hk
    · exact ⟨id, ver, sz, by assumption, hk⟩
    · cases hk
  refine ⟨⟨?_, ?_, ?_, fun id x hx => ?_, ?_⟩, ⟨rfl, rfl, rfl, Nat.le_refl _, fun _ _ _ => rfl, fun b hz => .inl hz, ?_, ?_⟩⟩
  · rintro b (hz | ⟨id, ver, sz, _, hk⟩)
    · exact r.zlt b hz
    · exact alive_lt r ⟨id, ver, sz, hk⟩
  · rintro b (hz | ⟨id, ver, sz, hid, hk⟩) ha
    · obtain ⟨id', ver', sz', _, hk'⟩ := hal b ha
      exact r.za b hz ⟨id', ver', sz', hk'⟩
    · obtain ⟨id', ver', sz', hid', hk'⟩ := hal b ha
      have := r.inj _ _ _ _ _ _ _ hk hk'
      omega
  · intro id hid
    unfold cutK
    split
    · rename_i h1
      simp at hid
      exact r.hole id (by omega)
    · rfl
  · have hlt := (List.getElem?_eq_some_iff.1 hx).1
    have hidn : id < n := by simp at hlt; omega
    have hx' : h[id]? = some x := by rw [List.getElem?_take_of_lt hidn] at hx; exact hx
    have hb := r.blk id x hx'
    have hr := List.all_eq_true.1 hc x (List.mem_of_getElem? hx)
    have hk : cutK n κ id = κ id := by simp [cutK, hidn]
    have conv : ∀ (as : List AV) (vs : List Value), as.all (refsLt n) = true → Rs Z w κ as vs → Rs (cutZ n Z κ) w (cutK n κ) as vs := fun as vs ha hs =>
      (hs.lt (List.all_eq_true.1 ha) (fun j hj => show cutK n κ j = κ j by simp [cutK, hj])).imp (fun b hz => ⟨.inl hz, rfl⟩) (fun j => .inr (Slot.step_refl _))
    cases x with
    | dead => simp only [blkOk] at *; rw [hk]; exact hb
    | cells ver cs =>
      obtain ⟨ob, sz, h1, h2⟩ := hb
      refine ⟨ob, sz, hk.trans h1, ?_⟩
      cases ob with
      | none => exact h2
      | some b =>
        obtain ⟨c, E, us, h3, h4, h5, h6, h7⟩ := h2
        exact ⟨c, E, us, h3, h4, h5, h6, conv _ _ hr h7⟩
    | map ks vs =>
      obtain ⟨b, es, cl, h1, h2, h3, h4⟩ := hb
      simp only [ABlk.refsLt, Bool.and_eq_true] at hr
      exact ⟨b, es, cl, hk.trans h1, h2, conv _ _ hr.1 h3, conv _ _ hr.2 h4⟩
  · intro id id' ver ver' b sz sz' h1 h2
    unfold cutK at h1 h2
    split at h1
    · split at h2
      · exact r.inj _ _ _ _ _ _ _ h1 h2
      · cases h2
    · cases h1
  · rintro b (hz | ⟨id, ver, sz, _, hk⟩)
    · exact .inl hz
    · exact .inr (.inl ⟨id, ver, sz, hk⟩)
  · intro b ha
    obtain ⟨id, ver, sz, _, hk⟩ := hal b ha
    exact .inl ⟨id, ver, sz, hk⟩

theorem stepLt_cut (n : Nat) (κ : Nat → Slot) : StepLt n κ (cutK n κ) := fun id hid => by
  simp only [cutK, hid, if_true]; exact Slot.step_refl _

/-! ### entering a function -/
def resA (P : Program) (s : AState) : ResultVar → Option AV
  | .tmp t => some (s.T t)
  | .cell t ty => aload P ty (s.T t) s.h
def resV : List AV → AV
  | [v] => v
  | vs => .tup vs

theorem resA_ok {s : AState} {a : Act} (r : SRel Z κ s a w) : ∀ (rs : List ResultVar) (vs : List AV), rs.mapM (resA P s) = some vs →
    ∃ cs : List Value, (rs.mapM (m := Sem) fun | .tmp t => pure (a.tmps.getD t undef) | .cell x t => do loadVar t (← asAddr (a.tmps.getD x undef))).run P w = .ok cs w ∧ Rs Z w κ vs cs
  | [], vs, hm => by simp at hm; subst hm; exact ⟨[], by simp, .nil⟩
  | x :: rs, vs, hm => by
    simp only [List.mapM_cons, Option.pure_def, Option.bind_eq_bind] at hm
    obtain ⟨y, hy, hm⟩ := Option.bind_eq_some_iff.1 hm
    obtain ⟨ys, hys, hm⟩ := Option.bind_eq_some_iff.1 hm
    injection hm with hm
    subst hm
    obtain ⟨cs, hcs, hrs⟩ := resA_ok r rs ys hys
    cases x with
    | tmp t =>
      simp only [resA, Option.some.injEq] at hy
      subst hy
      exact ⟨_ :: cs, by simp only [List.mapM_cons, Sem.run_bind, Sem.run_pure, Result.andThen_ok, hcs], .cons (r.tmps t) hrs⟩
    | cell t ty =>
      simp only [resA] at hy
      obtain ⟨u, hu, hru⟩ := aload_ok (P := P) r.rel (r.tmps t) hy
      have hptr : ∃ ad, a.tmps.getD t undef = .pointer (some ad) := by
        have h1 := r.tmps t
        generalize a.tmps.getD t undef = c at *
        generalize s.T t = p at *
        unfold aload at hy
        cases h1 <;> first
          | exact ⟨_, rfl⟩
          | (split at hy <;> simp at hy)
      obtain ⟨ad, had⟩ := hptr
      rw [had] at hu
      simp only [Instr.loadAt, Instr.sureAddr, Sem.run_bind, Sem.run_pure, Result.andThen_ok] at hu
      have hasA : asAddr (a.tmps.getD t undef) = pure ad := by rw [had]; rfl
      exact ⟨u :: cs, by simp only [List.mapM_cons, Sem.run_bind, Sem.run_pure, Result.andThen_ok, hasA, hu, hcs], .cons hru hrs⟩

theorem results_ok {s : AState} {a : Act} {fn : Func} {vs : List AV} (r : SRel Z κ s a w) (hm : fn.results.toList.mapM (resA P s) = some vs) : ∃ c, (results fn a.tmps).run P w = .ok c w ∧ R Z w κ (resV vs) c := by
  obtain ⟨cs, hcs, hrs⟩ := resA_ok (P := P) r _ _ hm
  have hrun : (results fn a.tmps).run P w = .ok (if h : cs.toArray.size = 1 then cs.toArray[0] else .tuple cs.toArray) w := by
    unfold results
    rw [Array.mapM_eq_mapM_toList, map_eq_pure_bind]
    simp only [Sem.run_bind, Sem.run_pure]
    erw [hcs]
    rfl
  refine ⟨_, hrun, ?_⟩
  match vs, cs, hrs with
  | [], [], .nil => exact .tup .nil
  | [v], [c], .cons h1 .nil => exact h1
  | v1 :: v2 :: vs, c1 :: c2 :: cs, h => exact .tup h

def initT (args : List AV) : Nat → AV := fun j => args.getD j .any

/-- Where a function has come to its end. -/
def isEnd : Exit → Bool
  | .normal | .ret => true
  | _ => false
def PostA (P : Program) (rs : List ResultVar) (n : Nat) (Q : AV → AHeap → Prop) (e : Exit) (s : AState) : Prop :=
  isEnd e = true ∧ ∃ vs v, rs.mapM (resA P s) = some vs ∧ frz s.h n 12 (resV vs) = some v ∧ (s.h.take n).all (ABlk.refsLt n) = true ∧ Q v (s.h.take n)

theorem ACall.intro {f : FuncId} {fn : Func} {c : Code} {rs : List ResultVar} {N : Nat} {args : List AV} {Q : AV → AHeap → Prop} (lit : TypeId → Bool) (hf : P.funcs[f]? = some fn) (hb : fn.body = some c) (hrs : fn.results.toList = rs) (hN : args.length + (fn.ntmps - args.length) = N) (he : Ent P f)
    (hx : AX P lit h.length c (PostA P rs h.length Q) ⟨N, initT args, h⟩) : ACall P f args h Q := by
  subst hrs hN
  refine ⟨he, fun Z κ w cargs r hr => ?_⟩
  refine calls_of_wp hf hb (wp_mono (AX_ok c _ _ hx Z κ _ w ?_ (Nat.le_refl _)) ?_)
  · have hl := hr.length
    refine ⟨r, by simp [hl], fun j => ?_, rfl⟩
    simp only [initT, Array.getD_eq_getD_getElem?, Array.getElem?_append, List.size_toArray, List.getD]
    by_cases hj : j < cargs.length
    · rw [if_pos hj]
      obtain ⟨v, hv, hvr⟩ := hr.get j (args[j]'(by omega)) (by simp [hl ▸ hj])
      have : args[j]? = some (args[j]'(by omega)) := by simp [hl ▸ hj]
      rw [this]
      simpa [hv] using hvr
    · rw [if_neg hj]
      have : args[j]? = none := List.getElem?_eq_none (by omega)
      rw [this]
      exact .any
  · intro e a' w' ha
    obtain ⟨s', Z', κ', hq, r', ex, st, hn⟩ := ha
    obtain ⟨he', vs, v, hm, hz, hc, hQ⟩ := hq
    obtain ⟨cv, hrun, hcv⟩ := results_ok (P := P) r' hm
    obtain ⟨r2, e2⟩ := rel_cut r'.rel hc
    have fin : ∃ v h' Z2 κ2 c, Q v h' ∧ Ending.returned cv = .returned c ∧ Rel Z2 κ2 h' w' ∧ R Z2 w' κ2 v c ∧ Ext Z κ w Z2 κ2 w' ∧ StepLt h.length κ κ2 :=
      ⟨v, _, _, _, cv, hQ, rfl, r2, frz_ok r'.rel _ _ _ _ hz hcv, ex.trans e2, st.trans (stepLt_cut _ _)⟩
    cases e with
    | normal => exact ⟨r'.defers, cv, hrun, fin⟩
    | ret => exact ⟨r'.defers, cv, hrun, fin⟩
    | exit id => simp [isEnd] at he'
    | goto l => simp [isEnd] at he'
    | panic ch => simp [isEnd] at he'
    | outgrown => simp [isEnd] at he'

end Go.Cx
