/- Contracts of the library's functions, met by the walk. -/
import Derived.Test.YtjelapkglkcoiaaCxV
set_option linter.unusedVariables false
set_option linter.unusedSimpArgs false
namespace Go.Cx
variable {P : Program}

/-- A contract that hands back a plain value, and lets all stand that lay there. -/
theorem PCall.ofCalls {f : FuncId} {args : List AV} {c : Value} (ha : args.all neat = true) (hc : plain c = true) (he : Ent P f)
    (h : ∀ (Z : Nat → Prop) (w : World) (cargs : List Value), (∀ b, Z b → b < w.heap.size) → Rs Z w (fun _ => .hole) args cargs → Calls P f cargs.toArray w fun e w' => e = .returned c ∧ RowKit.Below w.heap.size w w') : PCall P f args (.val c) := by
  refine ⟨ha, by simp, he, fun Z κ w cargs r hr => ?_⟩
  have hr' : Rs Z w (fun _ => .hole) args cargs := hr.noRef_any fun a h1 => noRef_of_neat a (List.all_eq_true.1 ha a h1)
  refine (h Z w cargs r.zlt hr').mono ?_
  rintro e w' ⟨rfl, b⟩
  have ex : Ext Z κ w Z κ w' := ⟨b.os, b.tape, b.output, b.size, fun k hk _ => b.block k hk, fun _ h => h, fun _ h => .inl h, fun _ h => .inl h⟩
  refine ⟨.val c, [], Z, κ, c, ⟨rfl, rfl⟩, rfl, ⟨fun b hb => Nat.lt_of_lt_of_le (r.zlt b hb) ex.size, r.za, r.hole, fun id x hx => by simp at hx, r.inj⟩, .val hc, ex, .refl _ _⟩

theorem R.sl_inv {Z : Nat → Prop} {w : World} {κ : Nat → Slot} {t : Bool} {n : Nat} {cs : List AV} {c : Value} (h : R Z w κ (.sl t n cs) c) :
    (n = 0 ∧ cs = [] ∧ ∃ A cap, c = .slice A 0 cap) ∨ (0 < n ∧ ∃ a cap us, c = .slice (some a) n cap ∧ n ≤ cap ∧ cap ≤ maxLen ∧ Z a.block ∧ CellsAt w a us ∧ Rs Z w κ cs us) := by
  cases h with
  | sl0 q1 q2 => exact .inl ⟨rfl, rfl, _, _, rfl⟩
  | sl q0 q1 q2 q3 q4 q5 q6 => exact .inr ⟨q0, _, _, _, rfl, q1, q3, q4, q5, q6⟩
theorem cell_spot {w : World} {A : Addr} {v : Value} (h : w.cell? A = some v) : A.spot = none := by
  unfold World.cell? at h
  split at h
  · split at h
    · cases h
    · rename_i hs; simpa using hs
  · cases h
end Go.Cx
