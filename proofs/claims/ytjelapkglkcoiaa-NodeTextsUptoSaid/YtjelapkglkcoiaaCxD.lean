/- More operations on abstract values: elements, slices, fields, what is built, made and appended. -/
import Derived.Test.YtjelapkglkcoiaaCxC
set_option linter.unusedVariables false
namespace Go.Cx
variable {P : Program} {Z : Nat → Prop} {κ : Nat → Slot} {h : AHeap} {w : World}

theorem CellsAt.take {a : Addr} {us : List Value} (hc : CellsAt w a us) (n : Nat) : CellsAt w a (us.take n) := fun j u hj => by
  refine hc j u ?_
  rw [List.getElem?_take] at hj
  split at hj
  · exact hj
  · cases hj

/-! ### elements -/
def elemSize (P : Program) (t : TypeId) : Option Nat := (telem P t).bind (tsize P)
theorem run_elemSize {t : TypeId} {k : Nat} (ht : elemSize P t = some k) : ∃ e, P.underlying t = some (.slice e) ∧ tsize P e = some k := by
  obtain ⟨e, he, hk⟩ := Option.bind_eq_some_iff.1 ht
  exact ⟨e, run_telem he, hk⟩

def aindex (P : Program) (t : TypeId) (x i : AV) : Option AV :=
  match elemSize P t, i with
  | some k, .val (.int _ n) => match x with
    | .sl _ len cs => if 0 ≤ n ∧ n < len then some (.fp ((cs.drop (n.toNat * k)).take k)) else none
    | .own id ver off len k' => if 0 ≤ n ∧ n < len ∧ k' = k then some (.ptr id ver ((off + n.toNat) * k)) else none
    | _ => none
  | _, _ => none

theorem aindex_ok {t : TypeId} {x i v : AV} {c d : Value} (hx : R Z w κ x c) (hi : R Z w κ i d) (hv : aindex P t x i = some v) : ∃ u, (Instr.indexAt t c d).run P w = .ok u w ∧ R Z w κ v u := by
  unfold aindex at hv
  split at hv
  · rename_i k ki n h1
    obtain ⟨e, he, hk⟩ := run_elemSize h1
    cases hi with
    | val hp =>
      have key : ∀ (a : Addr) (len cap : Nat), 0 ≤ n → n < len → (Instr.indexAt t (.slice (some a) len cap) (.int ki n)).run P w = .ok (.pointer (some (a.add (n.toNat * k)))) w := by
        intro a len cap h0 h2
        simp only [Instr.indexAt, asIntOf, Sem.run_bind, Sem.run_pure, Result.andThen_ok, run_underlying he]
        simp [h0, h2, run_tsize hk]
      split at hv
      · rename_i tt len cs
        split at hv
        · rename_i hn
          injection hv with hv
          subst hv
          cases hx with
          | sl0 => omega
          | sl h2 h3 h4 h5 h6 h7 h8 => exact ⟨_, key _ _ _ hn.1 hn.2, .fp (by rw [add_block]; exact h6) ((h7.drop _).take _) ((h8.drop _).take _)⟩
        · cases hv
      · rename_i id ver off len k'
        split at hv
        · rename_i hn
          obtain ⟨hn0, hn1, rfl⟩ := hn
          injection hv with hv
          subst hv
          cases hx with
          | own h2 h3 h4 h5 =>
            rename_i A cap
            obtain ⟨a, rfl⟩ : ∃ a, A = some a := by
              have := h4 (by omega)
              cases A with
              | none => exact absurd rfl this
              | some a => exact ⟨a, rfl⟩
            refine ⟨_, key _ _ _ hn0 hn1, .ptr ?_⟩
            unfold refOk at *
            split at h5
            · exact h5
            · trivial
            · rename_i v b sz hk'
              refine ⟨h5.1, fun e => ?_⟩
              have h6 := h5.2 e
              cases b with
              | none => simp only [ownAt] at h6; omega
              | some b =>
                simp only [ownAt, ptrAt] at h6 ⊢
                obtain ⟨_, _, ⟨a', h7, h8⟩, _⟩ := h6
                injection h7 with h7
                subst h7
                rw [h8 (by omega), addr_add, Nat.add_mul]
        · cases hv
      · cases hv
  · cases hv

/-! ### a part of a slice -/
def intOf? : AV → Option Int
  | .val (.int _ n) => some n
  | _ => none
def boundOr (d : Int) : Option AV → Option Int
  | none => some d
  | some v => intOf? v
def aslice (P : Program) (t : TypeId) (x : AV) (lo hi mx : Option AV) : Option AV :=
  match elemSize P t, x with
  | some k, .sl tight len cs => match boundOr 0 lo, boundOr len hi, mx with
    | some l, some h, none => if 0 ≤ l ∧ l ≤ h ∧ h ≤ len then some (.sl (tight && decide (h = len)) (h.toNat - l.toNat) ((cs.drop (l.toNat * k)).take ((h.toNat - l.toNat) * k))) else none
    | some l, some h, some m => match intOf? m with
      | some m => if 0 ≤ l ∧ l ≤ h ∧ h ≤ m ∧ m ≤ len ∧ hi.isSome then some (.sl (decide (m = h)) (h.toNat - l.toNat) ((cs.drop (l.toNat * k)).take ((h.toNat - l.toNat) * k))) else none
      | none => none
    | _, _, _ => none
  | some k, .own id ver off len k' => match boundOr 0 lo, boundOr len hi, mx with
    | some l, some h, none => if 0 ≤ l ∧ l ≤ h ∧ h ≤ len ∧ k' = k then some (.own id ver (off + l.toNat) (h.toNat - l.toNat) k) else none
    | _, _, _ => none
  | _, _ => none

inductive Ro (Z : Nat → Prop) (w : World) (κ : Nat → Slot) : Option AV → Option Value → Prop
  | none : Ro Z w κ none none
  | some {a : AV} {v : Value} : R Z w κ a v → Ro Z w κ (some a) (some v)

theorem bound_ok {x : AV} {c : Value} {n : Int} {y : Nat} {code : BoundsCode} (hx : R Z w κ x c) (hi : intOf? x = some n) (h0 : 0 ≤ n) (h1 : n ≤ y) : (Instr.sliceBound c y code).run P w = .ok n.toNat w := by
  unfold intOf? at hi
  split at hi
  · injection hi with hi
    subst hi
    cases hx with
    | val hp => simp [Instr.sliceBound, asIntOf, h0, h1]
  · cases hi

theorem bounds_ok {lo hi mx : Option AV} {cl ch cm : Option Value} {len cap : Nat} {l h m : Int} (hlo : Ro Z w κ lo cl) (hhi : Ro Z w κ hi ch) (hmx : Ro Z w κ mx cm) (h1 : boundOr 0 lo = some l) (h2 : boundOr len hi = some h)
    (h3 : boundOr cap mx = some m) (hm : mx.isSome → hi.isSome) (a : 0 ≤ l) (b : l ≤ h) (c : h ≤ m) (d : m ≤ cap) : (Instr.sliceBounds true len cap cl ch cm).run P w = .ok (l.toNat, h.toNat, m.toNat) w := by
  unfold Instr.sliceBounds
  have eh : ((h.toNat : Nat) : Int) = h := by omega
  cases hmx with
  | none =>
    simp only [boundOr, Option.some.injEq] at h3
    subst h3
    cases hhi with
    | none =>
      simp only [boundOr, Option.some.injEq] at h2
      subst h2
      cases hlo with
      | none => simp only [boundOr, Option.some.injEq] at h1; subst h1; simp
      | some hr => simp [bound_ok (P := P) (y := len) hr h1 a (by omega)]
    | some hr2 =>
      have e2 := fun code => bound_ok (P := P) (y := cap) (code := code) hr2 h2 (by omega) (by omega)
      cases hlo with
      | none => simp only [boundOr, Option.some.injEq] at h1; subst h1; simp [e2]
      | some hr => simp [e2, bound_ok (P := P) (y := h.toNat) hr h1 a (by omega)]
  | some hr3 =>
    have e3 := fun code => bound_ok (P := P) (y := cap) (code := code) hr3 h3 (by omega) (by omega)
    cases hhi with
    | none => simp at hm
    | some hr2 =>
      have e2 := fun code => bound_ok (P := P) (y := m.toNat) (code := code) hr2 h2 (by omega) (by omega)
      cases hlo with
      | none => simp only [boundOr, Option.some.injEq] at h1; subst h1; simp [e2, e3]
      | some hr => simp [e2, e3, bound_ok (P := P) (y := h.toNat) hr h1 a (by omega)]

theorem aslice_ok {t : TypeId} {x v : AV} {lo hi mx : Option AV} {c : Value} {cl ch cm : Option Value} (hx : R Z w κ x c) (hlo : Ro Z w κ lo cl) (hhi : Ro Z w κ hi ch) (hmx : Ro Z w κ mx cm) (hv : aslice P t x lo hi mx = some v) :
    ∃ u, (Instr.sliceAt t c cl ch cm).run P w = .ok u w ∧ R Z w κ v u := by
  have key : ∀ (e : TypeId) (k : Nat) (A : Option Addr) (len cap : Nat) (l h m : Int), P.underlying t = some (.slice e) → tsize P e = some k → boundOr 0 lo = some l → boundOr len hi = some h → boundOr cap mx = some m → (mx.isSome → hi.isSome) → 0 ≤ l → l ≤ h → h ≤ m → m ≤ cap →
      (Instr.sliceAt t (.slice A len cap) cl ch cm).run P w = .ok (.slice (if m.toNat = l.toNat then A else A.map (·.add (l.toNat * k))) (h.toNat - l.toNat) (m.toNat - l.toNat)) w := by
    intro e k A len cap l h m he hk h1 h2 h3 h4 h5 h6 h7 h8
    have hb := bounds_ok (P := P) hlo hhi hmx h1 h2 h3 h4 h5 h6 h7 h8
    simp only [Instr.sliceAt, Instr.slice, Sem.run_bind, run_underlying he, Result.andThen_ok, hb, run_tsize hk, Sem.run_pure]
  unfold aslice at hv
  split at hv
  · rename_i k tight len cs h1
    obtain ⟨e, he, hk⟩ := run_elemSize h1
    -- the slice that is read
    have fin : ∀ (A : Option Addr) (cap : Nat) (l h m : Int) (tt : Bool), R Z w κ (.sl tight len cs) (.slice A len cap) → 0 ≤ l → l ≤ h → h ≤ m → h ≤ len → m ≤ cap → (tt = true → m = h) →
        R Z w κ (.sl tt (h.toNat - l.toNat) ((cs.drop (l.toNat * k)).take ((h.toNat - l.toNat) * k))) (.slice (if m.toNat = l.toNat then A else A.map (·.add (l.toNat * k))) (h.toNat - l.toNat) (m.toNat - l.toNat)) := by
      intro A cap l h m tt hr a b c d e ht
      rcases Nat.eq_zero_or_pos (h.toNat - l.toNat) with hz | hz
      · rw [hz]
        simp only [Nat.zero_mul, List.take_zero]
        refine .sl0 (fun h' => by have := ht h'; omega) ?_
        cases hr with
        | sl0 _ h' => omega
        | sl _ _ _ h' => omega
      · cases hr with
        | sl0 => simp at d; omega
        | sl h2 h3 h4 h5 h6 h7 h8 =>
          rw [if_neg (by omega)]
          exact .sl hz (by omega) (fun h' => by have := ht h'; omega) (by omega) (by rw [add_block]; exact h6) ((h7.drop _).take _) ((h8.drop _).take _)
    have shape : ∃ A cap, c = .slice A len cap ∧ len ≤ cap ∧ (tight = true → cap = len) := by
      cases hx with
      | sl0 h2 => exact ⟨_, _, rfl, by omega, h2⟩
      | sl h2 h3 h4 => exact ⟨_, _, rfl, h3, h4⟩
    obtain ⟨A, cap, rfl, hcap, htight⟩ := shape
    split at hv
    · rename_i l hh h2 h3
      split at hv
      · rename_i hc
        injection hv with hv
        subst hv
        cases hmx
        refine ⟨_, key e k A len cap l hh cap he hk h2 h3 rfl (by simp) hc.1 hc.2.1 (by omega) (Int.le_refl _), ?_⟩
        exact fin A cap l hh cap _ hx hc.1 hc.2.1 (by omega) hc.2.2 (Int.le_refl _) (fun h' => by
          simp only [Bool.and_eq_true, decide_eq_true_eq] at h'
          have := htight h'.1; omega)
      · cases hv
    · rename_i l hh m h2 h3
      split at hv
      · rename_i mm h4
        split at hv
        · rename_i hc
          injection hv with hv
          subst hv
          refine ⟨_, key e k A len cap l hh mm he hk h2 h3 h4 (fun _ => hc.2.2.2.2) hc.1 hc.2.1 hc.2.2.1 (by omega), ?_⟩
          exact fin A cap l hh mm _ hx hc.1 hc.2.1 hc.2.2.1 (by omega) (by omega) (fun h' => by simpa using h')
        · cases hv
      · cases hv
    · cases hv
  · rename_i k id ver off len k' h1
    obtain ⟨e, he, hk⟩ := run_elemSize h1
    split at hv
    · rename_i l hh h2 h3
      split at hv
      · rename_i hc
        obtain ⟨c1, c2, c3, rfl⟩ := hc
        injection hv with hv
        subst hv
        cases hmx
        cases hx with
        | own h4 h5 h6 h7 =>
          rename_i A cap
          refine ⟨_, key e _ A len cap l hh cap he hk h2 h3 rfl (by simp) c1 c2 (by omega) (Int.le_refl _), .own (by omega) (by omega) ?_ ?_⟩
          · intro hn
            have := h6 (by omega)
            rw [if_neg (by omega)]
            cases A with
            | none => exact absurd rfl this
            | some a => simp
          · unfold refOk at *
            split at h7
            · exact h7
            · trivial
            · rename_i v b sz hk'
              refine ⟨h7.1, fun e => ?_⟩
              have h8 := h7.2 e
              cases b with
              | none =>
                simp only [ownAt] at h8 ⊢
                obtain ⟨r1, r2, r4⟩ := h8
                exact ⟨by omega, by omega, by omega⟩
              | some b =>
                simp only [ownAt] at h8 ⊢
                obtain ⟨r1, r2, ⟨a, r3, r4⟩, r5⟩ := h8
                refine ⟨?_, r2, ?_, by omega⟩
                · rw [← r1]; congr 1; omega
                · by_cases hcl : (((cap : Nat) : Int).toNat) = l.toNat
                  · rw [if_pos hcl]; exact ⟨a, r3, fun h => by omega⟩
                  · rw [if_neg hcl]
                    refine ⟨a.add (l.toNat * k'), by rw [r3]; rfl, fun h => ?_⟩
                    rw [r4 (by omega), addr_add, Nat.add_mul]
      · cases hv
    · cases hv
  · cases hv

end Go.Cx
