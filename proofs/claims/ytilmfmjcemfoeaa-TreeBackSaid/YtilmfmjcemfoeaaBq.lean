/- Arguments without memory of one's own: told with less, wherever the call stands. The steps of a walk by short names: what stands beside a step is found by sight. A row that is nil is one's own, where it lies in a block that keeps its type; its bytes keep theirs. -/
import Derived.Test.YtilmfmjcemfoeaaBe
import Derived.KernelRfl
import Derived.Lib.Builder
import Derived.Laws.Externs
set_option linter.unusedVariables false
namespace Go.Cx
variable {P : Program}

theorem frz_soft {Z : Nat → Prop} {κ : Nat → Slot} {w : World} : ∀ (f : Nat) (v v' : AV) (c : Value), frz [] 0 f v = some v' → R Z w κ v c → R Z w κ v' c
  | 0, v, v', c, hf, hr => by simp [frz] at hf
  | f + 1, v, v', c, hf, hr => by
    have ih := fun a b c => frz_soft (Z := Z) (κ := κ) (w := w) f a b c
    simp only [frz] at hf
    split at hf
    · injection hf with hf
      subst hf
      exact hr
    · split at hf
      · rename_i v; injection hf with hf; subst hf; exact hr
      · injection hf with hf; subst hf; exact .any
      · obtain ⟨bs, hb, rfl⟩ := Option.map_eq_some_iff.1 hf
        cases hr with | agg hs => exact .agg (mapM_ok ih hb hs)
      · obtain ⟨bs, hb, rfl⟩ := Option.map_eq_some_iff.1 hf
        cases hr with | tup hs => exact .tup (mapM_ok ih hb hs)
      · obtain ⟨bs, hb, rfl⟩ := Option.map_eq_some_iff.1 hf
        cases hr with
        | sl0 h1 h2 => simp at hb; subst hb; exact .sl0 (by simp) h2
        | sl h0 h1 h2 h3 h4 h5 h6 => exact .sl h0 h1 (by simp) h3 h4 h5 (mapM_ok ih hb h6)
      · obtain ⟨bs, hb, rfl⟩ := Option.map_eq_some_iff.1 hf
        cases hr with | fp h1 h2 h3 => exact .fp h1 h2 (mapM_ok ih hb h3)
      · obtain ⟨bs, hb, rfl⟩ := Option.map_eq_some_iff.1 hf
        cases hr with | fn hs => exact .fn (mapM_ok ih hb hs)
      · obtain ⟨ks', hk, hf⟩ := Option.bind_eq_some_iff.1 hf
        obtain ⟨vs', hv, rfl⟩ := Option.map_eq_some_iff.1 hf
        cases hr with | fmap h1 h2 h3 h4 h5 h6 => exact .fmap h1 h2 h3 h4 (mapM_ok ih hk h5) (mapM_ok ih hv h6)
      · simp at hf
      · simp at hf
      · simp at hf
theorem AInv.soft {h : AHeap} {f : FuncId} {cap args args' : List AV} {v : AV} {Q : AV → AHeap → Prop} (hp : PCall P f args' v) (ha : (args ++ cap).mapM (frz [] 0 12) = some args') (hq : Q v h) : AInv P (.fn f cap) args h Q := by
  have hf := hp.frame h
  refine .of ⟨hf.1, fun Z κ w cargs r hr => ?_⟩
  exact (hf.2 Z κ w cargs r (mapM_ok (fun a b c h1 h2 => frz_soft 12 a b c h1 h2) ha hr)).mono fun e w' ⟨v', h', Z', κ', c, ⟨e1, e2⟩, g⟩ => ⟨v', h', Z', κ', c, by rw [e1, e2]; exact hq, g⟩
theorem ADcall.soft {h : AHeap} {g : FuncId} {cap args args' : List AV} {v : AV} {K : AV → AHeap → Prop} (hp : PCall P g args' v) (ha : (args ++ cap).mapM (frz [] 0 12) = some args') (hk : K v h) {D : List Nat} : ADcall P D .t (.fn g cap) args h K :=
  ⟨v, fun k => AInv.soft hp ha ⟨rfl, rfl⟩, hk⟩
class Sc (G : Prop) (P : outParam Program) (f : outParam FuncId) (cap args : outParam (List AV)) (h : outParam AHeap) (K : outParam (AV → AHeap → Prop)) : Prop where
  go : ∀ {args' : List AV} {v : AV}, PCall P f args' v → (args ++ cap).mapM (frz [] 0 12) = some args' → K v h → G
section
variable {f : FuncId} {cap args : List AV} {h : AHeap} {K : AV → AHeap → Prop} {D : List Nat}
instance : Sc (AInv P (.fn f cap) args h K) P f cap args h K := ⟨AInv.soft⟩
instance : Sc (ADcall P D .t (.fn f cap) args h K) P f cap args h K := ⟨fun hp ha hk => ADcall.soft hp ha hk⟩
end
/-! ### the end of a block in other words -/
theorem Rs_soft {Z : Nat → Prop} {κ : Nat → Slot} {w : World} {x x' : List AV} (hm : x.mapM (frz [] 0 12) = some x') : ∀ {pre : List AV} {us : List Value}, Rs Z w κ (pre ++ x) us → Rs Z w κ (pre ++ x') us
  | [], us, h => mapM_ok (fun a b c h1 h2 => frz_soft 12 a b c h1 h2) hm h
  | a :: pre, us, h => by
    cases h with
    | cons h1 h2 => exact .cons h1 (Rs_soft hm h2)
theorem blk_soft {Z : Nat → Prop} {κ : Nat → Slot} {w : World} {id ver : Nat} {pre x x' : List AV} (hm : x.mapM (frz [] 0 12) = some x') (h : blkOk Z w κ id (.cells ver (pre ++ x))) : blkOk Z w κ id (.cells ver (pre ++ x')) := by
  obtain ⟨ob, sz, h1, h2⟩ := h
  refine ⟨ob, sz, h1, ?_⟩
  cases ob with
  | none =>
    simp only at h2 ⊢
    obtain ⟨rfl, rfl⟩ := List.append_eq_nil_iff.1 h2
    simp at hm
    subst hm
    rfl
  | some b =>
    obtain ⟨c, E, us, h3, h4, h5, h6, h7⟩ := h2
    exact ⟨c, E, us, h3, h4, h5, h6, Rs_soft hm h7⟩
theorem Wk.softEnd {n : Nat} {s : AState} (id ver : Nat) (pre : List AV) {x x' : List AV} (hx : s.h[id]? = some (.cells ver (pre ++ x))) (hm : x.mapM (frz [] 0 12) = some x') : Wk n s ⟨s.N, s.T, s.h.set id (.cells ver (pre ++ x'))⟩ :=
  Wk.blk id _ hx fun _ _ _ hb => blk_soft hm hb
end Go.Cx

set_option linter.unusedVariables false
set_option linter.unusedSimpArgs false
namespace Go.Cx
variable {P : Program} {n : Nat}

/-! ### tests -/
instance {t : Bool} : Nw (t = true) (t = true) := ⟨id⟩
instance {t : Bool} : Nw (¬ t = true) (t = false) := ⟨fun h => by simpa using h⟩
instance (priority := low) {p : Prop} : Nw p True := ⟨fun _ => trivial⟩
instance (priority := low) {G A B : Prop} {t : Bool} [h : TstB G t A B] : Tst G (t = true) A B :=
  ⟨fun h1 h2 => h.go (fun a _ => h1 a (eq_true a)) (fun a _ => h2 (by rw [a]; decide) (by rw [a]; decide))⟩
/-- The one way, and the other. -/
theorem Tp {G p A B q : Prop} [h : Tst G p A B] [a : Nw p q] (k : p → p = True → q → A) (hp : p := by first | with_reducible assumption | omega) : G := h.go (fun g e => k g e (a.nw g)) fun g _ => absurd hp g
theorem Tn {G p A B q : Prop} [h : Tst G p A B] [a : Nw (¬ p) q] (k : ¬ p → p = False → q → B) (hp : ¬ p := by first | with_reducible assumption | omega) : G := h.go (fun g _ => absurd g hp) fun g e => k g e (a.nw g)
theorem T2 {G p A B q q' : Prop} [h : Tst G p A B] [a : Nw p q] [b : Nw (¬ p) q'] (k1 : p → p = True → q → A) (k2 : ¬ p → p = False → q' → B) : G := h.go (fun g e => k1 g e (a.nw g)) fun g e => k2 g e (b.nw g)

/-! ### calls -/
section
variable {G : Prop} {f : FuncId} {cap args args' : List AV} {v : AV} {h : AHeap} {K : AV → AHeap → Prop}
theorem Pg [i : Pc G P f cap args h K] (hp : PCall P f args' v) (k : K v h) (ha : args ++ cap = args' := by first | rfl | (simp <;> fail) | (simp [s_] <;> fail)) : G := i.go hp ha k
theorem Sg [i : Sc G P f cap args h K] (hp : PCall P f args' v) (k : K v h) (ha : (args ++ cap).mapM (frz [] 0 12) = some args' := by first | (simp <;> fail) | (simp [s_] <;> fail)) : G := i.go hp ha k
theorem Lg [i : Lc G P f cap args h K] (hp : PCall P f args' v) (k : K v h) (hm : memFree v = true := by rfl)
    (ha : (args ++ cap).mapM (frz h 0 12) = some args' := by first | (simp <;> fail) | (simp [s_] <;> fail) | (simp; rw [frzOwn_neat (by simp) (by simp <;> omega)]; simp <;> fail) | (simp; rw [frzOwn_neat (by simp) (by simp <;> omega)]; simp [s_] <;> fail)) : G := i.go hp hm ha k
theorem Gg (D : List Nat) (hp : PCall P f args' v) (k : K v (kill D h))
    (ha : fzDs h D 12 (args ++ cap) = some args' := by first | (simp <;> fail) | (simp [s_] <;> fail) | (simp; rw [fzOwn_neat (by simp) (by simp <;> omega)]; simp <;> fail) | (simp; rw [fzOwn_neat (by simp) (by simp <;> omega)]; simp [s_] <;> fail)) : AInv P (.fn f cap) args h K := AInv.give D hp ha k
end

/-! ### choices -/
theorem Ip {α : Type} {c : Prop} [Decidable c] {a b : α} (h : c := by first | omega | (simp only [maxLen]; omega)) : (if c then a else b) = a := if_pos h
theorem In {α : Type} {c : Prop} [Decidable c] {a b : α} (h : ¬ c := by first | omega | (simp only [maxLen]; omega)) : (if c then a else b) = b := if_neg h
theorem Fz {h : AHeap} {f ver m k : Nat} {cs : List AV} (hc : cs.all neat = true := by simp) (hl : cs.length = m * k := by simp <;> omega) : frzOwn h (f + 1) ver 0 m k (some (.cells ver cs)) = some (.sl false m cs) := frzOwn_neat hc hl
theorem Gz {h : AHeap} {D : List Nat} {f ver m k : Nat} {cs : List AV} (hc : cs.all neat = true := by simp) (hl : cs.length = m * k := by simp <;> omega) : fzOwn h D (f + 1) ver 0 m k (some (.cells ver cs)) = some (.sl false m cs) := fzOwn_neat hc hl

/-! ### regions, frames, states by sight -/
/-- Orders are drawn where the text leaves them open. -/
class Mix (P : Program) : Prop where
  m : P.follows .mixedOrders = true
theorem Dg [i : Mix P] (id m : Nat) (D : List Nat) (cc : CC) {ops : Array Oper} {Q : Exit → AState → Prop} {s : AState} (h : AD P (fun _ => false) D cc ops (AOps P (fun _ => false) ops (Q .normal) (ops.toList.drop m)) 0 (ops.toList.take m) s)
    (hok : okDraw (fun _ => false) cc m ops = true := by kernel_rfl) (hcc : (cc.all fun p => match p.2 with | .r id => D.contains id | _ => true) = true := by rfl) : AW P n (.region id ops true) Q s :=
  AW.draw i.m (fun _ => false) D cc m hok h hcc
theorem Pm {f : FuncId} {fn : Func} {c : Code} {rs : List ResultVar} {N : Nat} {args : List AV} {v : AV} (hf : P.funcs[f]? = some fn) (hx : args.all fits = true → AX P (fun _ => false) 0 c (PostA P rs 0 (fun v' _ => v' = v)) ⟨N, initT args, []⟩)
    (hb : fn.body = some c := by exact rfl) (hrs : fn.results.toList = rs := by exact rfl) (hN : args.length + (fn.ntmps - args.length) = N := by exact rfl) (he1 : (fn.name == "runtime.NumGoroutine") = false := by kernel_rfl) (he2 : fn.body.isNone = false := by exact rfl) (ha : args.all neat = true := by simp) (hv : neat v = true := by simp) : PCall P f args v :=
  PCall.mk (fun _ => false) hf hb hrs hN (Ent.mk hf he1 he2) ha hv hx
theorem Wa {n N' : Nat} {s : AState} {h' : AHeap} {l : List (Nat × AV)} (hN : s.N = N' := by exact rfl) (hh : s.h = h' := by (simp <;> fail)) (hl : ∀ p ∈ l, s.T p.1 = p.2 := by (simp <;> fail)) : Wk n s ⟨N', Cx.pat l, h'⟩ := Wk.at l hN hh hl
theorem Wc {n N' : Nat} {s : AState} {h' : AHeap} {l : List (Nat × AV)} (hN : s.N = N' := by exact rfl) (hnm : n ≤ h'.length := by (simp <;> fail)) (hh : s.h.take h'.length = h' := by (simp <;> fail)) (hc : h'.all (ABlk.refsLt h'.length) = true := by (simp <;> fail)) (hl : ∀ p ∈ l, s.T p.1 = p.2 ∧ refsLt h'.length p.2 = true := by (simp <;> fail)) : Wk n s ⟨N', Cx.pat l, h'⟩ := Wk.cutAt l hN hnm hh hc hl
theorem Wz {n : Nat} {s : AState} {l : List (Nat × AV)} (hl : ∀ p ∈ l, s.T p.1 = p.2 := by (simp <;> fail)) : Wk n s ⟨s.N, Cx.pat l, s.h⟩ := Wk.keep l hl
/-! ### a walk to its end -/
theorem D0 (id m : Nat) (D : List Nat) (cc : CC) : ∀ ⦃P : Program⦄ ⦃n : Nat⦄ [Mix P] ⦃ops : Array Oper⦄ ⦃Q : Exit → AState → Prop⦄ ⦃s : AState⦄, AD P (fun _ => false) D cc ops (AOps P (fun _ => false) ops (Q .normal) (ops.toList.drop m)) 0 (ops.toList.take m) s →
    okDraw (fun _ => false) cc m ops = true → (cc.all fun p => match p.2 with | .r id => D.contains id | _ => true) = true → AW P n (.region id ops true) Q s := fun _ _ _ _ _ _ h h1 h2 => Dg id m D cc h h1 h2
theorem D1 (id m : Nat) (D : List Nat) (cc : CC) : ∀ ⦃P : Program⦄ ⦃n : Nat⦄ [Mix P] ⦃ops : Array Oper⦄ ⦃Q : Exit → AState → Prop⦄ ⦃s : AState⦄, AD P (fun _ => false) D cc ops (AOps P (fun _ => false) ops (Q .normal) (ops.toList.drop m)) 0 (ops.toList.take m) ⟨s.N, s.T, s.h ++ [.cells 0 []]⟩ →
    okDraw (fun _ => false) cc m ops = true → (cc.all fun p => match p.2 with | .r id => D.contains id | _ => true) = true → AW P n (.region id ops true) Q s := fun _ _ _ _ _ _ h h1 h2 => AW.room (Dg id m D cc h h1 h2)
theorem F0 {f : FuncId} {args0 : List AV} {h0 h1 : AHeap} {v : AV} (L : List Nat) (hc : XCall P f args0 h0 v h1) : ∀ ⦃cap args : List AV⦄ ⦃h : AHeap⦄ ⦃Q : AV → AHeap → Prop⦄, args ++ cap = args0.map (ren (ρL L)) → atB (ρL L) h 0 h0 →
    Q (ren (Cx.grow (ρL L) h0.length h.length) v) (Cx.lay (Cx.grow (ρL L) h0.length h.length) 0 (h1.take h0.length) h ++ (h1.drop h0.length).map (renB (Cx.grow (ρL L) h0.length h.length))) → L.Nodup → L.length = h0.length → AInv P (.fn f cap) args h Q := fun _ _ _ _ a b q n l => AInv.fresh L hc a b q n l
theorem H0 {f : FuncId} {args0 : List AV} {h0 h1 : AHeap} {v : AV} (L : List Nat) (hc : HCall P f args0 h0 v h1) : ∀ ⦃cap args : List AV⦄ ⦃h : AHeap⦄ ⦃Q : AV → AHeap → Prop⦄, args ++ cap = args0.map (ren (ρL L)) → atB (ρL L) h 0 h0 →
    Q (ren (ρL L) v) (Cx.lay (ρL L) 0 h1 h) → L.Nodup → L.length = h0.length → AInv P (.fn f cap) args h Q := fun _ _ _ _ a b q n l => AInv.heap L hc a b q n l
/-- A walk to its end: calls by the facts h0 .. h19 and p1_ .. p8_, over blocks by f1_ .. f4_, regions that draw by e1_ .. e8_, d1_ .. d20_, a loop's next round by q1_ .. q3_; words rewritten by s_. -/
theorem WW {G : Prop} (h : G := by
  try first | simp [s_] | simp
  repeat' ((first | ((first | refine Tp ?_ | refine Tn ?_ | refine T2 ?_ ?_) <;> intro hw_ ew_ nw_) | exact q1_ _ Wc | exact q1_ _ Wa | exact q2_ _ Wc | exact q2_ _ Wa | exact q3_ _ Wc | exact q3_ _ Wa | refine e1_ ?_ (by kernel_rfl) rfl | refine e2_ ?_ (by kernel_rfl) rfl | refine e3_ ?_ (by kernel_rfl) rfl | refine e4_ ?_ (by kernel_rfl) rfl | refine e5_ ?_ (by kernel_rfl) rfl | refine e6_ ?_ (by kernel_rfl) rfl | refine e7_ ?_ (by kernel_rfl) rfl | refine e8_ ?_ (by kernel_rfl) rfl | refine d1_ ?_ (by kernel_rfl) rfl | refine d2_ ?_ (by kernel_rfl) rfl | refine d3_ ?_ (by kernel_rfl) rfl | refine d4_ ?_ (by kernel_rfl) rfl | refine d5_ ?_ (by kernel_rfl) rfl | refine d6_ ?_ (by kernel_rfl) rfl | refine d7_ ?_ (by kernel_rfl) rfl | refine d8_ ?_ (by kernel_rfl) rfl | refine d9_ ?_ (by kernel_rfl) rfl | refine d10_ ?_ (by kernel_rfl) rfl | refine d11_ ?_ (by kernel_rfl) rfl | refine d12_ ?_ (by kernel_rfl) rfl | refine d13_ ?_ (by kernel_rfl) rfl | refine d14_ ?_ (by kernel_rfl) rfl | refine d15_ ?_ (by kernel_rfl) rfl | refine d16_ ?_ (by kernel_rfl) rfl | refine d17_ ?_ (by kernel_rfl) rfl | refine d18_ ?_ (by kernel_rfl) rfl | refine d19_ ?_ (by kernel_rfl) rfl | refine d20_ ?_ (by kernel_rfl) rfl | (refine f1_ (by simp) (by simp) ?_ (by decide) rfl; simp) | (refine f2_ (by simp) (by simp) ?_ (by decide) rfl; simp) | (refine f3_ (by simp) (by simp) ?_ (by decide) rfl; simp) | (refine f4_ (by simp) (by simp) ?_ (by decide) rfl; simp) | refine Pg h0 ?_ | refine Pg h1 ?_ | refine Pg h2 ?_ | refine Pg h3 ?_ | refine Pg h4 ?_ | refine Pg h5 ?_ | refine Pg h6 ?_ | refine Pg h7 ?_ | refine Pg h8 ?_ | refine Pg h9 ?_ | refine Pg h10 ?_ | refine Pg h11 ?_ | refine Pg h12 ?_ | refine Pg h13 ?_ | refine Pg h14 ?_ | refine Pg h15 ?_ | refine Pg h16 ?_ | refine Pg h17 ?_ | refine Pg h18 ?_ | refine Pg h19 ?_ | refine Pg p1_ ?_ | refine Pg p2_ ?_ | refine Pg p3_ ?_ | refine Pg p4_ ?_ | refine Pg p5_ ?_ | refine Pg p6_ ?_ | refine Pg p7_ ?_ | refine Pg p8_ ?_ | refine Lg h0 ?_ | refine Lg h1 ?_ | refine Lg h2 ?_ | refine Lg h3 ?_ | refine Lg h4 ?_ | refine Lg h5 ?_ | refine Lg h6 ?_ | refine Lg h7 ?_ | refine Lg h8 ?_ | refine Lg h9 ?_ | refine Lg h10 ?_ | refine Lg h11 ?_ | refine Lg h12 ?_ | refine Lg h13 ?_ | refine Lg h14 ?_ | refine Lg h15 ?_ | refine Lg h16 ?_ | refine Lg h17 ?_ | refine Lg h18 ?_ | refine Lg h19 ?_ | refine Lg p1_ ?_ | refine Lg p2_ ?_ | refine Lg p3_ ?_ | refine Lg p4_ ?_ | refine Lg p5_ ?_ | refine Lg p6_ ?_ | refine Lg p7_ ?_ | refine Lg p8_ ?_ | refine Sg h0 ?_ | refine Sg h1 ?_ | refine Sg h2 ?_ | refine Sg h3 ?_ | refine Sg h4 ?_ | refine Sg h5 ?_ | refine Sg h6 ?_ | refine Sg h7 ?_ | refine Sg h8 ?_ | refine Sg h9 ?_ | refine Sg h10 ?_ | refine Sg h11 ?_ | refine Sg h12 ?_ | refine Sg h13 ?_ | refine Sg h14 ?_ | refine Sg h15 ?_ | refine Sg h16 ?_ | refine Sg h17 ?_ | refine Sg h18 ?_ | refine Sg h19 ?_ | refine Sg p1_ ?_ | refine Sg p2_ ?_ | refine Sg p3_ ?_ | refine Sg p4_ ?_ | refine Sg p5_ ?_ | refine Sg p6_ ?_ | refine Sg p7_ ?_ | refine Sg p8_ ?_ | rw [Ip] | rw [In] | rw [Fz] | rw [Gz] | fail) <;> first | simp [ew_, nw_, s_] | simp [ew_, nw_] | simp [s_] | simp | skip)) : G := h
end Go.Cx

set_option linter.unusedVariables false
set_option linter.unusedSimpArgs false
namespace Go.Cx
variable {P : Program} {Z : Nat → Prop} {κ : Nat → Slot} {h : AHeap} {w : World}

/-- A nil row in a cell of a typed block is a typed row of one's own. -/
theorem Wk.ownNilTyped {n : Nat} {s : AState} (id ver j k : Nat) (E e : TypeId) {cs : List AV} (hx : s.h[id]? = some (.typed E ver cs)) (hj : cs[j]? = some (.sl true 0 [])) :
    Wk n s ⟨s.N, s.T, (s.h.set id (.typed E ver (cs.set j (.own s.h.length 0 0 0 k)))) ++ [.typed e 0 []]⟩ := by
  intro Z κ a w r hn
  have hidl := (List.getElem?_eq_some_iff.1 hx).1
  have hh := r.rel.hole s.h.length (Nat.le_refl _)
  have hs : StepAll κ (upd κ s.h.length (.live 0 none 0)) := .upd (.inl hh)
  have hal : ∀ b, alive (upd κ s.h.length (.live 0 none 0)) b → alive κ b := by
    rintro b ⟨id, ver, sz, hk⟩
    by_cases hid : id = s.h.length
    · subst hid; rw [upd_same] at hk; cases hk
    · rw [upd_ne _ _ hid] at hk; exact ⟨id, ver, sz, hk⟩
  have e : Ext Z κ w Z (upd κ s.h.length (.live 0 none 0)) w := ⟨rfl, rfl, rfl, Nat.le_refl _, fun _ _ _ => rfl, fun _ h => h, fun _ h => .inl h, fun b ha => .inl (hal b ha)⟩
  refine ⟨_, ⟨⟨r.rel.zlt, fun b hz ha => r.rel.za b hz (hal b ha), fun id' hid' => ?_, fun id' x hx' => ?_, ?_⟩, r.size, fun j => (r.tmps j).ext r.rel e hs, r.defers⟩, e, hs.lt r.rel hn, by simp; omega⟩
  · simp at hid'
    rw [upd_ne _ _ (by omega)]; exact r.rel.hole id' (by omega)
  · by_cases hid : id' = s.h.length
    · subst hid
      simp at hx'
      subst hx'
      exact ⟨none, 0, upd_same _ _ _, rfl⟩
    · have hlt : id' < s.h.length := by
        have := (List.getElem?_eq_some_iff.1 hx').1
        simp at this; omega
      rw [List.getElem?_append_left (by simpa using hlt)] at hx'
      by_cases hii : id' = id
      · subst hii
        rw [List.getElem?_set_self hidl] at hx'
        injection hx' with hx'
        subst hx'
        obtain ⟨ob, sz, h1, h2⟩ := r.rel.blk id' _ hx
        refine ⟨ob, sz, by rw [upd_ne _ _ hid]; exact h1, ?_⟩
        cases ob with
        | none => subst h2; simp at hj
        | some b =>
          obtain ⟨c, us, h3, h5, h6, h4, h7⟩ := h2
          refine ⟨c, us, h3, h5, h6, h4, Rs_set_of (w' := w) j _ (h7.ext r.rel e hs) fun u hu => ?_⟩
          obtain ⟨u', hu', hr⟩ := h7.get j _ hj
          rw [hu] at hu'
          injection hu' with hu'
          subst hu'
          cases hr with
          | sl0 h2 h3 =>
            have h0 := h2 rfl
            subst h0
            refine .own (Nat.le_refl _) h3 (by simp) ?_
            simp [refOk, upd_same, ownAt]
          | sl h2 => omega
      · rw [List.getElem?_set_ne (Ne.symm hii)] at hx'
        exact (r.rel.blk id' x hx').ext r.rel e hs (upd_ne _ _ hid) fun _ _ _ _ => rfl
  · intro id id' ver ver' b sz sz' h1 h2
    by_cases hid : id = s.h.length
    · subst hid; rw [upd_same] at h1; cases h1
    · by_cases hid' : id' = s.h.length
      · subst hid'; rw [upd_same] at h2; cases h2
      · rw [upd_ne _ _ hid] at h1; rw [upd_ne _ _ hid'] at h2
        exact r.rel.inj _ _ _ _ _ _ _ h1 h2
/-- Texts that are added behind each other. -/
theorem bytesA_append (a b : ByteArray) : bytesA a ++ bytesA b = bytesA (a ++ b) := by
  simp [bytesA, ByteArray.data_append]
@[simp] theorem bytesA_len (a : ByteArray) : (bytesA a).length = a.size := by unfold bytesA; rw [List.length_map]; rfl
@[simp] theorem bytesA_nil : bytesA ByteArray.empty = [] := rfl
@[simp] theorem bytesA_refs (n : Nat) (s : ByteArray) : (∀ x, x ∈ bytesA s → refsLt n x = true) = True := by
  simp [bytesA]
@[simp] theorem bytesA_ren (ρ : Nat → Nat) (s : ByteArray) : (bytesA s).map (ren ρ) = bytesA s := by
  unfold bytesA; rw [List.map_map]; exact List.map_congr_left fun _ _ => by simp [ren]
/-- The pointer as it is. -/
theorem AInv.noEscape {f : FuncId} {fn : Func} {x : AV} {Q : AV → AHeap → Prop} (hf : P.funcs[f]? = some fn) (hname : (fn.name == "runtime.NumGoroutine") = false) (hb : fn.body.isNone = true) (hn : Extern.findNext fn = none) (he : Extern.find fn = some Extern.AbiNoEscape.same) (hq : Q x h) : AInv P (.fn f []) [x] h Q :=
  .inr fun Z κ w cargs r hr => by
    cases hr with
    | cons h1 h2 =>
      cases h2
      exact ⟨x, h, Z, κ, _, w, hq, by rw [run_callFunc_extern hf hname hb hn he, Lib.run_noEscape]; rfl, r, h1, Ext.refl _ _ _, StepLt.refl _ _⟩
end Go.Cx
