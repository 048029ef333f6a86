/- How calls that write blocks of their caller's are walked and met. -/
import Derived.Test.YtjelapkglkcoiaaCxX
set_option linter.unusedVariables false
set_option linter.unusedSimpArgs false
namespace Go.Cx
variable {P : Program} {h : AHeap}

theorem HCall.mk' {f : FuncId} {fn : Func} {c : Code} {rs : List ResultVar} {N : Nat} {args : List AV} {h0 h1 : AHeap} {v : AV} (lit : TypeId → Bool) (hf : P.funcs[f]? = some fn) (hb : fn.body = some c) (hrs : fn.results.toList = rs) (hN : args.length + (fn.ntmps - args.length) = N) (he : Ent P f)
    (ha : args.all (refsLt h0.length) = true) (hh : h0.all (ABlk.refsLt h0.length) = true) (hv : refsLt h0.length v = true) (hl : h1.length = h0.length) (hh1 : h1.all (ABlk.refsLt h0.length) = true)
    (hx : args.all fits = true → AX P lit h0.length c (PostA P rs h0.length (fun v' h' => v' = v ∧ h' = h1)) ⟨N, initT args, h0⟩) : HCall P f args h0 v h1 := by
  refine ⟨ha, hh, hv, hl, hh1, ?_⟩
  by_cases hfit : args.all fits = true
  · exact ACall.intro lit hf hb hrs hN he (hx hfit)
  · exact ⟨he, fun Z κ w cargs r hr => absurd hr.fits hfit⟩

/-- What is handed back, where blocks below n are the caller's. -/
def retN (P : Program) (rs : List ResultVar) (n : Nat) (s : AState) : Option AV := (rs.mapM (resA P s)).bind fun vs => frz s.h n 12 (resV vs)
theorem PostA_n (rs : List ResultVar) (n : Nat) (v : AV) (h1 : AHeap) (e : Exit) (s : AState) : PostA P rs n (fun v' h' => v' = v ∧ h' = h1) e s = (isEnd e = true ∧ retN P rs n s = some v ∧ (s.h.take n).all (ABlk.refsLt n) = true ∧ s.h.take n = h1) := by
  apply propext
  constructor
  · rintro ⟨he, vs, v', h1, h2, h3, rfl, rfl⟩
    exact ⟨he, by simp only [retN, h1, Option.bind_some]; exact h2, h3, rfl⟩
  · rintro ⟨he, h1, h2, h3⟩
    obtain ⟨vs, hvs, hz⟩ := Option.bind_eq_some_iff.1 h1
    exact ⟨he, vs, v, hvs, hz, h2, rfl, h3⟩
@[simp] theorem PostA_n1 (rs : List ResultVar) (v : AV) (h1 : AHeap) (e : Exit) (s : AState) : PostA P rs 1 (fun v' h' => v' = v ∧ h' = h1) e s = (isEnd e = true ∧ retN P rs 1 s = some v ∧ (s.h.take 1).all (ABlk.refsLt 1) = true ∧ s.h.take 1 = h1) := PostA_n ..
@[simp] theorem PostA_n2 (rs : List ResultVar) (v : AV) (h1 : AHeap) (e : Exit) (s : AState) : PostA P rs 2 (fun v' h' => v' = v ∧ h' = h1) e s = (isEnd e = true ∧ retN P rs 2 s = some v ∧ (s.h.take 2).all (ABlk.refsLt 2) = true ∧ s.h.take 2 = h1) := PostA_n ..
@[simp] theorem PostA_n3 (rs : List ResultVar) (v : AV) (h1 : AHeap) (e : Exit) (s : AState) : PostA P rs 3 (fun v' h' => v' = v ∧ h' = h1) e s = (isEnd e = true ∧ retN P rs 3 s = some v ∧ (s.h.take 3).all (ABlk.refsLt 3) = true ∧ s.h.take 3 = h1) := PostA_n ..
section
variable (s : AState) (n : Nat) (r r' r2 : ResultVar)
@[simp] theorem retN_zero : retN P [] n s = frz s.h n 12 (.tup []) := by simp only [retN, List.mapM_nil]; rfl
@[simp] theorem retN_one : retN P [r] n s = (resA P s r).bind fun x => frz s.h n 12 x := by
  simp only [retN, List.mapM_cons, List.mapM_nil]
  cases resA P s r <;> rfl
@[simp] theorem retN_two : retN P [r, r'] n s = (resA P s r).bind fun x => (resA P s r').bind fun y => frz s.h n 12 (.tup [x, y]) := by
  simp only [retN, List.mapM_cons, List.mapM_nil]
  cases resA P s r <;> cases resA P s r' <;> rfl
end
def frzOwnN (h : AHeap) (n f ver off m k : Nat) : Option ABlk → Option AV
  | some (.cells ver' cs) => if ver = ver' ∧ (off + m) * k ≤ cs.length then (if m = 0 then some (.sl false 0 []) else (frzs h n f ((cs.drop (off * k)).take (m * k))).map (.sl false m)) else none
  | _ => none
@[simp] theorem frz_ownN (n f id ver off m k : Nat) : frz h (n + 1) (f + 1) (.own id ver off m k) = if id < n + 1 then some (.own id ver off m k) else frzOwnN h (n + 1) f ver off m k h[id]? := by
  rw [frz]
  simp only [neat_own, Bool.false_eq_true, if_false]
  split
  · rfl
  · cases h[id]? with
    | none => rfl
    | some b => cases b <;> rfl
theorem frzOwnN_neat {n f ver m k : Nat} {cs : List AV} (hc : cs.all neat = true) (hl : cs.length = m * k) : frzOwnN h n (f + 1) ver 0 m k (some (.cells ver cs)) = some (.sl false m cs) := by
  simp only [frzOwnN, true_and, Nat.zero_add, Nat.zero_mul, List.drop_zero]
  rw [if_pos (by omega)]
  split
  · rename_i h0
    subst h0
    have : cs = [] := List.eq_nil_of_length_eq_zero (by rw [hl]; simp)
    rw [this]
  · rw [List.take_of_length_le (by omega), frzs_neat hc]; rfl

/-! ### at a call -/
def atB (ρ : Nat → Nat) (h : AHeap) : Nat → AHeap → Prop
  | _, [] => True
  | i, x :: xs => h[ρ i]? = some (renB ρ x) ∧ atB ρ h (i + 1) xs
theorem atB_get (ρ : Nat → Nat) : ∀ (xs : AHeap) (i : Nat), atB ρ h i xs → ∀ m x, xs[m]? = some x → h[ρ (i + m)]? = some (renB ρ x)
  | [], _, _, m, x, hm => by simp at hm
  | y :: xs, i, ⟨h1, h2⟩, 0, x, hm => by simp at hm; subst hm; exact h1
  | y :: xs, i, ⟨h1, h2⟩, m + 1, x, hm => by
    have := atB_get ρ xs (i + 1) h2 m x (by simpa using hm)
    rwa [show i + 1 + m = i + (m + 1) by omega] at this
abbrev ρL (L : List Nat) : Nat → Nat := fun i => L.getD i 0
theorem ρL_inj {L : List Nat} (hn : L.Nodup) : ∀ i j, i < L.length → j < L.length → ρL L i = ρL L j → i = j := by
  intro i j hi hj e
  simp only [ρL, List.getD_eq_getElem?_getD, List.getElem?_eq_getElem hi, List.getElem?_eq_getElem hj, Option.getD_some] at e
  exact (List.getElem_inj hn).1 e
theorem HCall.at {f : FuncId} {args args' : List AV} {h0 h1 : AHeap} {v : AV} (hc : HCall P f args h0 v h1) (L : List Nat) (hn : L.Nodup) (hl : L.length = h0.length) (ha : args' = args.map (ren (ρL L))) (hb : atB (ρL L) h 0 h0) :
    ACall P f args' h (fun v' h' => v' = ren (ρL L) v ∧ h' = Cx.lay (ρL L) 0 h1 h) := by
  subst ha
  have hget : ∀ i x, h0[i]? = some x → h[ρL L i]? = some (renB (ρL L) x) := fun i x hx => by
    have := atB_get (ρL L) h0 0 hb i x hx
    rwa [Nat.zero_add] at this
  exact ACall.reloc hc (ρL L) (fun i j hi hj => ρL_inj hn i j (by omega) (by omega)) (fun i hi => (List.getElem?_eq_some_iff.1 (hget i h0[i] (by simp [hi]))).1) hget
theorem AInv.heap {f : FuncId} {cap args args0 : List AV} {h0 h1 : AHeap} {v : AV} {Q : AV → AHeap → Prop} (L : List Nat) (hc : HCall P f args0 h0 v h1) (ha : args ++ cap = args0.map (ren (ρL L))) (hb : atB (ρL L) h 0 h0) (hq : Q (ren (ρL L) v) (Cx.lay (ρL L) 0 h1 h)) (hn : L.Nodup := by decide) (hl : L.length = h0.length := by rfl) : AInv P (.fn f cap) args h Q :=
  (hc.at L hn hl ha hb).mono fun v' h' ⟨h1, h2⟩ => by rw [h1, h2]; exact hq
theorem ADcall.heap {f : FuncId} {cap args args0 : List AV} {h0 h1 : AHeap} {v : AV} {K : AV → AHeap → Prop} {D : List Nat} (L : List Nat) (hc : HCall P f args0 h0 v h1) (ha : args ++ cap = args0.map (ren (ρL L))) (hb : atB (ρL L) h 0 h0) (hq : K (ren (ρL L) v) (Cx.lay (ρL L) 0 h1 h)) (hn : L.Nodup := by decide) (hl : L.length = h0.length := by rfl) : ADcall P D .e (.fn f cap) args h K :=
  ⟨_, _, hc.at L hn hl ha hb, hq⟩
theorem AInv.same {f : FuncId} {cap args args0 : List AV} {h1 : AHeap} {v : AV} {Q : AV → AHeap → Prop} (hc : HCall P f args0 h v h1) (ha : args ++ cap = args0) (hq : Q v h1) : AInv P (.fn f cap) args h Q := by
  show ACall P f (args ++ cap) h Q
  rw [ha]
  exact hc.call.mono fun v' h' ⟨q1, q2⟩ => by rw [q1, q2]; exact hq
/-- A call that only computes, where the order of calls is told. -/
theorem ADcall.pureE {f : FuncId} {cap args args' : List AV} {v : AV} {K : AV → AHeap → Prop} {D : List Nat} (hp : PCall P f args' v) (ha : args ++ cap = args') (hk : K v h) : ADcall P D .e (.fn f cap) args h K := by
  refine ⟨v, h, ?_, hk⟩
  show ACall P f (args ++ cap) h _
  rw [ha]; exact hp.frame h
attribute [simp] atB Cx.lay renB
@[simp] theorem ρL_app (L : List Nat) (i : Nat) : ρL L i = L.getD i 0 := rfl

/-! ### a row without its room -/
def wk : AV → AV
  | .agg cs => .agg (cs.attach.map fun ⟨c, _⟩ => wk c)
  | .tup cs => .tup (cs.attach.map fun ⟨c, _⟩ => wk c)
  | .sl _ n cs => .sl false n (cs.attach.map fun ⟨c, _⟩ => wk c)
  | a => a
@[simp] theorem wk_val (v : Value) : wk (.val v) = .val v := by rw [wk] <;> simp
@[simp] theorem wk_agg (cs : List AV) : wk (.agg cs) = .agg (cs.map wk) := by rw [wk, map_attach]
@[simp] theorem wk_tup (cs : List AV) : wk (.tup cs) = .tup (cs.map wk) := by rw [wk, map_attach]
@[simp] theorem wk_sl (t : Bool) (n : Nat) (cs : List AV) : wk (.sl t n cs) = .sl false n (cs.map wk) := by rw [wk, map_attach]
mutual
theorem R.wk {Z : Nat → Prop} {κ : Nat → Slot} {w : World} {a : AV} {v : Value} (hr : R Z w κ a v) : R Z w κ (Cx.wk a) v := by
  cases hr with
  | val h => rw [wk_val]; exact .val h
  | any => rw [Cx.wk] <;> first | exact .any | simp
  | agg h => rw [wk_agg]; exact .agg h.wk
  | tup h => rw [wk_tup]; exact .tup h.wk
  | sl0 h1 h2 => rw [wk_sl]; exact .sl0 (by simp) h2
  | sl h0 h1 h2 h3 h4 h5 h6 => rw [wk_sl]; exact .sl h0 h1 (by simp) h3 h4 h5 h6.wk
  | fp h1 h2 h3 => rw [Cx.wk] <;> first | exact .fp h1 h2 h3 | simp
  | fn h => rw [Cx.wk] <;> first | exact .fn h | simp
  | fmap h1 h2 h3 h4 h5 h6 => rw [Cx.wk] <;> first | exact .fmap h1 h2 h3 h4 h5 h6 | simp
  | own h0 h1 hA h2 => rw [Cx.wk] <;> first | exact .own h0 h1 hA h2 | simp
  | ptr h2 => rw [Cx.wk] <;> first | exact .ptr h2 | simp
  | mp h2 => rw [Cx.wk] <;> first | exact .mp h2 | simp
theorem Rs.wk {Z : Nat → Prop} {κ : Nat → Slot} {w : World} {as : List AV} {vs : List Value} (hr : Rs Z w κ as vs) : Rs Z w κ (as.map Cx.wk) vs := by
  cases hr with
  | nil => exact .nil
  | cons h1 h2 => exact .cons h1.wk h2.wk
end
/-- What is handed back, told with less of its room. -/
theorem PCall.wk {f : FuncId} {args : List AV} {v v' : AV} (hp : PCall P f args v) (hv : Cx.wk v = v') (hn : neat v' = true) : PCall P f args v' := by
  subst hv
  obtain ⟨h1, h2, he, hc⟩ := hp
  refine ⟨h1, hn, he, fun Z κ w cargs r hr => (hc Z κ w cargs r hr).mono ?_⟩
  rintro e w' ⟨v', h', Z', κ', c, ⟨rfl, rfl⟩, rfl, r', hv, ex, st⟩
  exact ⟨_, _, Z', κ', c, ⟨rfl, rfl⟩, rfl, r', hv.wk, ex, st⟩
/-- Room is kept for a block. -/
theorem Wk.room (n : Nat) (s : AState) : Wk n s ⟨s.N, s.T, s.h ++ [.cells 0 []]⟩ := by
  intro Z κ a w r hn
  have hh := r.rel.hole s.h.length (Nat.le_refl _)
  have hs : StepAll κ (upd κ s.h.length (.live 0 none 0)) := .upd (.inl hh)
  have hal : ∀ b, alive (upd κ s.h.length (.live 0 none 0)) b → alive κ b := by
    rintro b ⟨id, ver, sz, hk⟩
    by_cases hid : id = s.h.length
    · subst hid; rw [upd_same] at hk; cases hk
    · rw [upd_ne _ _ hid] at hk; exact ⟨id, ver, sz, hk⟩
  have e : Ext Z κ w Z (upd κ s.h.length (.live 0 none 0)) w := ⟨rfl, rfl, rfl, Nat.le_refl _, fun _ _ _ => rfl, fun _ h => h, fun _ h => .inl h, fun b ha => .inl (hal b ha)⟩
  refine ⟨_, ⟨⟨r.rel.zlt, fun b hz ha => r.rel.za b hz (hal b ha), fun id hid => ?_, fun id x hx => ?_, ?_⟩, r.size, fun j => (r.tmps j).ext r.rel e hs, r.defers⟩, e, hs.lt r.rel hn, by simp; omega⟩
  · simp at hid
    rw [upd_ne _ _ (by omega)]; exact r.rel.hole id (by omega)
  · by_cases hid : id = s.h.length
    · subst hid
      simp at hx
      subst hx
      exact ⟨none, 0, upd_same _ _ _, rfl⟩
    · have hlt : id < s.h.length := by
        have := (List.getElem?_eq_some_iff.1 hx).1
        simp at this; omega
      rw [List.getElem?_append_left hlt] at hx
      exact (r.rel.blk id x hx).ext r.rel e hs (upd_ne _ _ hid) fun _ _ _ _ => rfl
  · intro id id' ver ver' b sz sz' h1 h2
    by_cases hid : id = s.h.length
    · subst hid; rw [upd_same] at h1; cases h1
    · by_cases hid' : id' = s.h.length
      · subst hid'; rw [upd_same] at h2; cases h2
      · rw [upd_ne _ _ hid] at h1; rw [upd_ne _ _ hid'] at h2
        exact r.rel.inj _ _ _ _ _ _ _ h1 h2
theorem AW.room {n : Nat} {c : Code} {Q : Exit → AState → Prop} {s : AState} (hx : AW P n c Q ⟨s.N, s.T, s.h ++ [.cells 0 []]⟩) : AW P n c Q s := AW.wk (Wk.room n s) hx
end Go.Cx
