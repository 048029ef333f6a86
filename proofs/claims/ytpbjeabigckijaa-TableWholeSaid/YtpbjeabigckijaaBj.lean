/- Code, cut at a place of its own choice: ahead of it evaluated, behind it walked by itself. -/
import Derived.Test.YtpbjeabigckijaaBe
set_option linter.unusedVariables false
set_option linter.unusedSimpArgs false
namespace Go.Cx
variable {P : Program}

/-- The first k + 1 parts of a row of code, and the rest (the last part alone, if there are fewer). -/
def splitN : Nat → Code → Code × Code
  | 0, .seq x y => (x, y)
  | k + 1, .seq x (.seq y z) => (.seq x (splitN k (.seq y z)).1, (splitN k (.seq y z)).2)
  | _ + 1, .seq x y => (x, y)
  | _, c => (.skip, c)
theorem AW.mono {n : Nat} {c : Code} {Q Q' : Exit → AState → Prop} {s : AState} (h : AW P n c Q s) (hk : ∀ e s, Q e s → Q' e s) : AW P n c Q' s := fun Z κ a w r hn =>
  wp_mono (h Z κ a w r hn) fun e a' w' ha => ha.mono (hk e)
theorem AW.seqW {n : Nat} {x y : Code} {Q : Exit → AState → Prop} {s : AState} (hx : AW P n x (thenA (AW P n y Q) Q) s) : AW P n (.seq x y) Q s := fun Z κ a w r hn => by
  refine wp_seq (wp_mono (hx Z κ a w r hn) fun e a' w' ha => ?_)
  cases e with
  | normal =>
    obtain ⟨s', Z', κ', hq, r', ex, st, hn'⟩ := ha
    exact wp_mono (hq Z' κ' a' w' r' hn') fun e2 a2 w2 h2 => h2.trans ex st
  | exit id => exact ha
  | goto l => exact ha
  | ret => exact ha
  | panic ch => exact ha
  | outgrown => exact ha
theorem AW.blockW {n id : Nat} {c : Code} {Q : Exit → AState → Prop} {s : AState} (hx : AW P n c (inBlockA id Q) s) : AW P n (.block id c) Q s := fun Z κ a w r hn => by
  refine wp_block (wp_mono (hx Z κ a w r hn) fun e a' w' ha => ?_)
  cases e with
  | exit id' =>
    show if id' = id then After n (Q .normal) Z κ w a' w' else After n (Q (.exit id')) Z κ w a' w'
    by_cases he : id' = id
    · rw [if_pos he]; exact ha.mono fun s h => by simpa [inBlockA, he] using h
    · rw [if_neg he]; exact ha.mono fun s h => by simpa [inBlockA, he] using h
  | normal => exact ha
  | goto l => exact ha
  | ret => exact ha
  | panic ch => exact ha
  | outgrown => exact ha
theorem AW.splitA' {lit : TypeId → Bool} {n : Nat} {Q : Exit → AState → Prop} : ∀ (k : Nat) (c : Code) {s : AState}, AX P lit n (splitN k c).1 (thenA (AW P n (splitN k c).2 Q) Q) s → AW P n c Q s
  | 0, c, s, h => by
    cases c with
    | seq x y => exact AW.seqA h
    | _ => exact h
  | k + 1, c, s, h => by
    cases c with
    | seq x y =>
      cases y with
      | seq y z =>
        refine AW.seqW (AW.mono (AX_ok (lit := lit) x _ s h) fun e s hs => ?_)
        cases e with
        | normal => exact AW.splitA' k _ hs
        | exit id => exact hs
        | goto l => exact hs
        | ret => exact hs
        | panic ch => exact hs
        | outgrown => exact hs
      | _ => exact AW.seqA h
    | _ => exact h
/-- The first parts are evaluated, the rest is walked by itself. -/
theorem AW.splitA {lit : TypeId → Bool} {n : Nat} {Q : Exit → AState → Prop} (k : Nat) {c a b : Code} {s : AState} (he : splitN k c = (a, b)) (h : AX P lit n a (thenA (AW P n b Q) Q) s) : AW P n c Q s :=
  AW.splitA' (lit := lit) k c (by rw [he]; exact h)
end Go.Cx
