import Derived.Test.YtdnfnddlciafmaaGreatXBe
import Derived.KernelRfl
set_option linter.unusedVariables false
namespace Go.Cx
variable {P : Program}
theorem frz_soft {Z : Nat → Prop} {κ : Nat → Slot} {w : World} : ∀ (f : Nat) (v v' : AV) (c : Value), frz [] 0 f v = some v' → R Z w κ v c → R Z w κ v' c
  | 0, v, v', c, hf, hr => by simp [frz] at hf
  | f + 1, v, v', c, hf, hr => by
    have ih := fun a b c => frz_soft (Z := Z) (κ := κ) (w := w) f a b c
    simp only [frz] at hf
    split at hf
    · injection hf with hf
      subst hf
      exact hr
    · split at hf
      · rename_i v; injection hf with hf; subst hf; exact hr
      · injection hf with hf; subst hf; exact .any
      · obtain ⟨bs, hb, rfl⟩ := Option.map_eq_some_iff.1 hf
        cases hr with | agg hs => exact .agg (mapM_ok ih hb hs)
      · obtain ⟨bs, hb, rfl⟩ := Option.map_eq_some_iff.1 hf
        cases hr with | tup hs => exact .tup (mapM_ok ih hb hs)
      · obtain ⟨bs, hb, rfl⟩ := Option.map_eq_some_iff.1 hf
        cases hr with
        | sl0 h1 h2 => simp at hb; subst hb; exact .sl0 (by simp) h2
        | sl h0 h1 h2 h3 h4 h5 h6 => exact .sl h0 h1 (by simp) h3 h4 h5 (mapM_ok ih hb h6)
      · obtain ⟨bs, hb, rfl⟩ := Option.map_eq_some_iff.1 hf
        cases hr with | fp h1 h2 h3 => exact .fp h1 h2 (mapM_ok ih hb h3)
      · obtain ⟨bs, hb, rfl⟩ := Option.map_eq_some_iff.1 hf
        cases hr with | fn hs => exact .fn (mapM_ok ih hb hs)
      · obtain ⟨ks', hk, hf⟩ := Option.bind_eq_some_iff.1 hf
        obtain ⟨vs', hv, rfl⟩ := Option.map_eq_some_iff.1 hf
        cases hr with | fmap h1 h2 h3 h4 h5 h6 => exact .fmap h1 h2 h3 h4 (mapM_ok ih hk h5) (mapM_ok ih hv h6)
      · simp at hf
      · simp at hf
      · simp at hf
theorem AInv.soft {h : AHeap} {f : FuncId} {cap args args' : List AV} {v : AV} {Q : AV → AHeap → Prop} (hp : PCall P f args' v) (ha : (args ++ cap).mapM (frz [] 0 12) = some args') (hq : Q v h) : AInv P (.fn f cap) args h Q := by
  have hf := hp.frame h
  refine .of ⟨hf.1, fun Z κ w cargs r hr => ?_⟩
  exact (hf.2 Z κ w cargs r (mapM_ok (fun a b c h1 h2 => frz_soft 12 a b c h1 h2) ha hr)).mono fun e w' ⟨v', h', Z', κ', c, ⟨e1, e2⟩, g⟩ => ⟨v', h', Z', κ', c, by rw [e1, e2]; exact hq, g⟩
theorem ADcall.soft {h : AHeap} {g : FuncId} {cap args args' : List AV} {v : AV} {K : AV → AHeap → Prop} (hp : PCall P g args' v) (ha : (args ++ cap).mapM (frz [] 0 12) = some args') (hk : K v h) {D : List Nat} : ADcall P D .t (.fn g cap) args h K :=
  ⟨v, fun k => AInv.soft hp ha ⟨rfl, rfl⟩, hk⟩
class Sc (G : Prop) (P : outParam Program) (f : outParam FuncId) (cap args : outParam (List AV)) (h : outParam AHeap) (K : outParam (AV → AHeap → Prop)) : Prop where
  go : ∀ {args' : List AV} {v : AV}, PCall P f args' v → (args ++ cap).mapM (frz [] 0 12) = some args' → K v h → G
section
variable {f : FuncId} {cap args : List AV} {h : AHeap} {K : AV → AHeap → Prop} {D : List Nat}
instance : Sc (AInv P (.fn f cap) args h K) P f cap args h K := ⟨AInv.soft⟩
instance : Sc (ADcall P D .t (.fn f cap) args h K) P f cap args h K := ⟨fun hp ha hk => ADcall.soft hp ha hk⟩
end
theorem Rs_soft {Z : Nat → Prop} {κ : Nat → Slot} {w : World} {x x' : List AV} (hm : x.mapM (frz [] 0 12) = some x') : ∀ {pre : List AV} {us : List Value}, Rs Z w κ (pre ++ x) us → Rs Z w κ (pre ++ x') us
  | [], us, h => mapM_ok (fun a b c h1 h2 => frz_soft 12 a b c h1 h2) hm h
  | a :: pre, us, h => by
    cases h with
    | cons h1 h2 => exact .cons h1 (Rs_soft hm h2)
theorem blk_soft {Z : Nat → Prop} {κ : Nat → Slot} {w : World} {id ver : Nat} {pre x x' : List AV} (hm : x.mapM (frz [] 0 12) = some x') (h : blkOk Z w κ id (.cells ver (pre ++ x))) : blkOk Z w κ id (.cells ver (pre ++ x')) := by
  obtain ⟨ob, sz, h1, h2⟩ := h
  refine ⟨ob, sz, h1, ?_⟩
  cases ob with
  | none =>
    simp only at h2 ⊢
    obtain ⟨rfl, rfl⟩ := List.append_eq_nil_iff.1 h2
    simp at hm
    subst hm
    rfl
  | some b =>
    obtain ⟨c, E, us, h3, h4, h5, h6, h7⟩ := h2
    exact ⟨c, E, us, h3, h4, h5, h6, Rs_soft hm h7⟩
theorem Wk.softEnd {n : Nat} {s : AState} (id ver : Nat) (pre : List AV) {x x' : List AV} (hx : s.h[id]? = some (.cells ver (pre ++ x))) (hm : x.mapM (frz [] 0 12) = some x') : Wk n s ⟨s.N, s.T, s.h.set id (.cells ver (pre ++ x'))⟩ :=
  Wk.blk id _ hx fun _ _ _ hb => blk_soft hm hb
end Go.Cx
set_option linter.unusedVariables false
set_option linter.unusedSimpArgs false
namespace Go.Cx
variable {P : Program} {n : Nat}
instance {t : Bool} : Nw (t = true) (t = true) := ⟨id⟩
instance {t : Bool} : Nw (¬ t = true) (t = false) := ⟨fun h => by simpa using h⟩
instance (priority := low) {p : Prop} : Nw p True := ⟨fun _ => trivial⟩
instance (priority := low) {G A B : Prop} {t : Bool} [h : TstB G t A B] : Tst G (t = true) A B :=
  ⟨fun h1 h2 => h.go (fun a _ => h1 a (eq_true a)) (fun a _ => h2 (by rw [a]; decide) (by rw [a]; decide))⟩
theorem Tp {G p A B q : Prop} [h : Tst G p A B] [a : Nw p q] (k : p → p = True → q → A) (hp : p := by first | with_reducible assumption | omega) : G := h.go (fun g e => k g e (a.nw g)) fun g _ => absurd hp g
theorem Tn {G p A B q : Prop} [h : Tst G p A B] [a : Nw (¬ p) q] (k : ¬ p → p = False → q → B) (hp : ¬ p := by first | with_reducible assumption | omega) : G := h.go (fun g _ => absurd g hp) fun g e => k g e (a.nw g)
theorem T2 {G p A B q q' : Prop} [h : Tst G p A B] [a : Nw p q] [b : Nw (¬ p) q'] (k1 : p → p = True → q → A) (k2 : ¬ p → p = False → q' → B) : G := h.go (fun g e => k1 g e (a.nw g)) fun g e => k2 g e (b.nw g)
section
variable {G : Prop} {f : FuncId} {cap args args' : List AV} {v : AV} {h : AHeap} {K : AV → AHeap → Prop}
theorem Pg [i : Pc G P f cap args h K] (hp : PCall P f args' v) (k : K v h) (ha : args ++ cap = args' := by first | rfl | (simp <;> fail) | (simp [s_] <;> fail)) : G := i.go hp ha k
theorem Sg [i : Sc G P f cap args h K] (hp : PCall P f args' v) (k : K v h) (ha : (args ++ cap).mapM (frz [] 0 12) = some args' := by first | (simp <;> fail) | (simp [s_] <;> fail)) : G := i.go hp ha k
theorem Lg [i : Lc G P f cap args h K] (hp : PCall P f args' v) (k : K v h) (hm : memFree v = true := by rfl)
    (ha : (args ++ cap).mapM (frz h 0 12) = some args' := by first | (simp <;> fail) | (simp [s_] <;> fail) | (simp; rw [frzOwn_neat (by simp) (by simp <;> omega)]; simp <;> fail) | (simp; rw [frzOwn_neat (by simp) (by simp <;> omega)]; simp [s_] <;> fail)) : G := i.go hp hm ha k
end
theorem Ip {α : Type} {c : Prop} [Decidable c] {a b : α} (h : c := by first | omega | (simp only [maxLen]; omega)) : (if c then a else b) = a := if_pos h
theorem In {α : Type} {c : Prop} [Decidable c] {a b : α} (h : ¬ c := by first | omega | (simp only [maxLen]; omega)) : (if c then a else b) = b := if_neg h
theorem Fz {h : AHeap} {f ver m k : Nat} {cs : List AV} (hc : cs.all neat = true := by simp) (hl : cs.length = m * k := by simp <;> omega) : frzOwn h (f + 1) ver 0 m k (some (.cells ver cs)) = some (.sl false m cs) := frzOwn_neat hc hl
theorem Gz {h : AHeap} {D : List Nat} {f ver m k : Nat} {cs : List AV} (hc : cs.all neat = true := by simp) (hl : cs.length = m * k := by simp <;> omega) : fzOwn h D (f + 1) ver 0 m k (some (.cells ver cs)) = some (.sl false m cs) := fzOwn_neat hc hl
class Mix (P : Program) : Prop where
  m : P.follows .mixedOrders = true
theorem Dg [i : Mix P] (id m : Nat) (D : List Nat) (cc : CC) {ops : Array Oper} {Q : Exit → AState → Prop} {s : AState} (h : AD P (fun _ => false) D cc ops (AOps P (fun _ => false) ops (Q .normal) (ops.toList.drop m)) 0 (ops.toList.take m) s)
    (hok : okDraw (fun _ => false) cc m ops = true := by kernel_rfl) (hcc : (cc.all fun p => match p.2 with | .r id => D.contains id | _ => true) = true := by rfl) : AW P n (.region id ops true) Q s :=
  AW.draw i.m (fun _ => false) D cc m hok h hcc
theorem Pm {f : FuncId} {fn : Func} {c : Code} {rs : List ResultVar} {N : Nat} {args : List AV} {v : AV} (hf : P.funcs[f]? = some fn) (hx : args.all fits = true → AX P (fun _ => false) 0 c (PostA P rs 0 (fun v' _ => v' = v)) ⟨N, initT args, []⟩)
    (hb : fn.body = some c := by exact rfl) (hrs : fn.results.toList = rs := by exact rfl) (hN : args.length + (fn.ntmps - args.length) = N := by exact rfl) (he1 : (fn.name == "runtime.NumGoroutine") = false := by kernel_rfl) (he2 : fn.body.isNone = false := by exact rfl) (ha : args.all neat = true := by simp) (hv : neat v = true := by simp) : PCall P f args v :=
  PCall.mk (fun _ => false) hf hb hrs hN (Ent.mk hf he1 he2) ha hv hx
theorem Wa {n N' : Nat} {s : AState} {h' : AHeap} {l : List (Nat × AV)} (hN : s.N = N' := by exact rfl) (hh : s.h = h' := by simp) (hl : ∀ p ∈ l, s.T p.1 = p.2 := by simp) : Wk n s ⟨N', Cx.pat l, h'⟩ := Wk.at l hN hh hl
theorem Wc {n N' : Nat} {s : AState} {h' : AHeap} {l : List (Nat × AV)} (hN : s.N = N' := by exact rfl) (hnm : n ≤ h'.length := by simp) (hh : s.h.take h'.length = h' := by simp) (hc : h'.all (ABlk.refsLt h'.length) = true := by simp) (hl : ∀ p ∈ l, s.T p.1 = p.2 ∧ refsLt h'.length p.2 = true := by simp) : Wk n s ⟨N', Cx.pat l, h'⟩ := Wk.cutAt l hN hnm hh hc hl
theorem Wz {n : Nat} {s : AState} {l : List (Nat × AV)} (hl : ∀ p ∈ l, s.T p.1 = p.2 := by simp) : Wk n s ⟨s.N, Cx.pat l, s.h⟩ := Wk.keep l hl
end Go.Cx
