/- Records without an address, compared. -/
import Derived.Test.YtjelapkglkcoiaaCxQ
set_option linter.unusedVariables false
set_option linter.unusedSimpArgs false
namespace Go.Cx
variable {P : Program}

noncomputable instance decV : DecidableEq Value := fun _ _ => Classical.propDecidable _

def flatFs (P : Program) (F : TypeId → Option (List TypeDesc)) : List Field → Nat → Option (List TypeDesc)
  | [], _ => some []
  | f :: fs, off => if f.name ≠ "_" ∧ f.offset = off then match F f.type, tsize P f.type with
      | some ds, some k => if k = ds.length then (flatFs P F fs (off + k)).map fun r => ds ++ r else none
      | _, _ => none
    else none
/-- The kinds of a record's cells, where all are numbers, truths and texts. -/
def flatD (P : Program) : Nat → TypeId → Option (List TypeDesc)
  | 0, _ => none
  | d + 1, t => match P.underlying t with
    | some (.struct fs) => if P.stoodInHeld t = true then none else flatFs P (flatD P d) fs.toList 0
    | some k => if keyDesc k then some [k] else none
    | none => none
inductive Kinds : List TypeDesc → List Value → Prop
  | nil : Kinds [] []
  | cons {d : TypeDesc} {ds : List TypeDesc} {v : Value} {vs : List Value} : isKeyB d v = true → Kinds ds vs → Kinds (d :: ds) (v :: vs)
theorem Kinds.len {ds : List TypeDesc} {vs : List Value} (h : Kinds ds vs) : vs.length = ds.length := by induction h <;> simp_all
theorem Kinds.take {r : List TypeDesc} : ∀ {ds : List TypeDesc} {vs : List Value}, Kinds (ds ++ r) vs → Kinds ds (vs.take ds.length) ∧ Kinds r (vs.drop ds.length)
  | [], vs, h => ⟨.nil, h⟩
  | d :: ds, _, .cons h1 h2 => ⟨.cons h1 h2.take.1, h2.take.2⟩
/-- The value of a type whose cells are these. -/
def mkV (P : Program) (t : TypeId) (xs : List Value) : Value := if tagg P t = some true then .agg xs.toArray else xs.headD undef

theorem pr_isAgg {t : TypeId} {g : Bool} (h : tagg P t = some g) : pr P (isAgg t) = some g := by
  obtain ⟨d, hd, hg⟩ := Option.map_eq_some_iff.1 h
  simp only [isAgg, pr_bind, pr_underlying hd, Option.bind_some]
  cases d <;> simp_all [aggDesc]
theorem pr_sizeOf {t : TypeId} {k : Nat} (h : tsize P t = some k) : pr P (sizeOf t) = some k := by
  obtain ⟨i, hi, hk⟩ := Option.map_eq_some_iff.1 h
  simp [sizeOf, typeInfo, pr_bind, program, pr, hi, hk]

theorem flatD_agg {d : Nat} {t : TypeId} {ds : List TypeDesc} (h : flatD P d t = some ds) : ∃ g, tagg P t = some g ∧ (g = false → ds.length = 1) := by
  cases d with
  | zero => cases h
  | succ d =>
    simp only [flatD] at h
    split at h
    · rename_i fs hu; exact ⟨true, by simp [tagg, hu, aggDesc], by simp⟩
    · rename_i k hn hu
      split at h
      · rename_i hk
        injection h with h; subst h
        refine ⟨false, ?_, fun _ => rfl⟩
        cases k <;> simp [keyDesc] at hk <;> simp [tagg, hu, aggDesc]
      · cases h
    · cases h

theorem pr_part {t : TypeId} {d k off : Nat} {ds : List TypeDesc} {xs : List Value} (hf : flatD P d t = some ds) (hk : tsize P t = some k) (hkd : k = ds.length) (hx : Kinds ds ((xs.drop off).take k)) : pr P (part t xs.toArray off) = some (mkV P t ((xs.drop off).take k)) := by
  obtain ⟨g, hg, h1⟩ := flatD_agg hf
  unfold part mkV
  rw [pr_bind, pr_isAgg hg, hg]
  cases g with
  | true =>
    simp only [Option.bind_some, if_true, pr_bind, pr_sizeOf hk, pr_pure]
    congr 2
    apply Array.ext'
    simp [Array.toList_extract, List.extract_eq_take_drop]
  | false =>
    have hl := hx.len
    have h1 := h1 rfl
    simp only [Option.bind_some, Bool.false_eq_true, if_false, Option.some.injEq]
    have hlt : off < xs.length := by
      rw [List.length_take, List.length_drop] at hl; omega
    have e : (xs.drop off).take k = [xs[off]] := by
      rw [hkd, h1, List.drop_eq_getElem_cons hlt, List.take_succ_cons, List.take_zero]
    rw [e]
    simp [hlt]

theorem eq_scalar {d : Nat} {t : TypeId} {k : TypeDesc} {a b : Value} (hu : P.underlying t = some k) (hk : keyDesc k = true) (ha : isKeyB k a = true) (hb : isKeyB k b = true) : pr P (Op.equalIn (d + 1) t a b) = some (decide (a = b)) := by
  rw [Op.equalIn, pr_bind, pr_underlying hu]
  cases k <;> simp [keyDesc] at hk <;> cases a <;> simp [isKeyB] at ha <;> cases b <;> simp [isKeyB] at hb
  · simp only [Option.bind_some, pr_pure]; rename_i x y; cases x <;> cases y <;> simp
  · subst ha hb
    simp only [Option.bind_some, if_true, pr_pure, Value.int.injEq, true_and]
    rename_i n x y
    by_cases h : n = y <;> simp [h]
  · simp only [Option.bind_some, pr_pure, Value.string.injEq]
    rename_i x y
    by_cases h : x = y
    · subst h
      have e := (MapKept.bytes_beq x x).2 rfl
      rw [e]; simp
    · have e : (x == y) = false := by
        cases hh : (x == y) with
        | false => rfl
        | true => exact absurd ((MapKept.bytes_beq x y).1 hh) h
      rw [e]; simp [h]

theorem eq_fields {d : Nat} {xs ys : List Value} (ih : ∀ (t : TypeId) (ds : List TypeDesc) (a b : List Value), flatD P d t = some ds → Kinds ds a → Kinds ds b → pr P (Op.equalIn d t (mkV P t a) (mkV P t b)) = some (decide (a = b))) :
    ∀ (fs : List Field) (off : Nat) (r : List TypeDesc), flatFs P (flatD P d) fs off = some r → Kinds r (xs.drop off) → Kinds r (ys.drop off) →
      pr P (do
        let __s ← forIn fs ((none : Option Bool), ()) fun f __s =>
              if f.name ≠ "_" then do
                let a ← part f.type xs.toArray f.offset
                let b ← part f.type ys.toArray f.offset
                let c ← Op.equalIn d f.type a b
                if (!c) = true then pure (ForInStep.done (some false, ())) else pure (ForInStep.yield (none, ()))
              else pure (ForInStep.yield (none, ()))
        match __s.fst with
          | some r => pure r
          | none => pure true) = some (decide (xs.drop off = ys.drop off))
  | [], off, r, hf, hx, hy => by
    injection hf with hf; subst hf
    cases hxe : xs.drop off with
    | cons _ _ => rw [hxe] at hx; cases hx
    | nil => cases hye : ys.drop off with
      | cons _ _ => rw [hye] at hy; cases hy
      | nil => simp
  | f :: fs, off, r, hf, hx, hy => by
    simp only [flatFs] at hf
    split at hf
    · rename_i hn
      obtain ⟨hn, ho⟩ := hn
      split at hf
      · rename_i ds k hd hk
        split at hf
        · rename_i hkd
          obtain ⟨r', hr', he⟩ := Option.map_eq_some_iff.1 hf
          subst he
          have hx1 := hx.take
          have hy1 := hy.take
          rw [List.drop_drop] at hx1 hy1
          have step := eq_fields ih fs (off + k) r' hr' (by rw [hkd]; exact hx1.2) (by rw [hkd]; exact hy1.2)
          have pa := pr_part (xs := xs) (off := off) hd hk hkd (by rw [hkd]; exact hx1.1)
          have pb := pr_part (xs := ys) (off := off) hd hk hkd (by rw [hkd]; exact hy1.1)
          have pe := ih f.type ds _ _ hd (show Kinds ds ((xs.drop off).take k) by rw [hkd]; exact hx1.1) (show Kinds ds ((ys.drop off).take k) by rw [hkd]; exact hy1.1)
          have split : (xs.drop off = ys.drop off) ↔ ((xs.drop off).take k = (ys.drop off).take k ∧ xs.drop (off + k) = ys.drop (off + k)) := by
            rw [← List.drop_drop, ← List.drop_drop]
            refine ⟨fun h => by rw [h]; exact ⟨rfl, rfl⟩, fun ⟨h1, h2⟩ => ?_⟩
            rw [← List.take_append_drop k (xs.drop off), ← List.take_append_drop k (ys.drop off), h1, h2]
          rw [List.forIn_cons]
          rw [if_pos hn, ho]
          simp only [pr_bind, pa, pb, pe, Option.bind_some]
          by_cases he : (xs.drop off).take k = (ys.drop off).take k
          · simp only [he, decide_true, Bool.not_true, Bool.false_eq_true, if_false, pr_pure, Option.bind_some]
            simp only [pr_bind] at step
            rw [step]
            simp [split, he]
          · have : ¬ xs.drop off = ys.drop off := fun h => he (split.1 h).1
            simp [he, this]
        · cases hf
      · cases hf
    · cases hf

theorem eq_deep : ∀ (d : Nat) (t : TypeId) (ds : List TypeDesc) (a b : List Value), flatD P d t = some ds → Kinds ds a → Kinds ds b → pr P (Op.equalIn d t (mkV P t a) (mkV P t b)) = some (decide (a = b))
  | 0, t, ds, a, b, h, _, _ => by cases h
  | d + 1, t, ds, a, b, h, ha, hb => by
    simp only [flatD] at h
    split at h
    · rename_i fs hu
      split at h
      · cases h
      · rename_i hs
        have hg : tagg P t = some true := by simp [tagg, hu, aggDesc]
        have hs' : P.stoodInHeld t = false := by simpa using hs
        have := eq_fields (xs := a) (ys := b) (eq_deep d) fs.toList 0 ds h (by simpa using ha) (by simpa using hb)
        unfold mkV
        rw [if_pos hg, if_pos hg]
        rw [Op.equalIn, pr_bind, pr_underlying hu]
        simp only [Option.bind_some]
        rw [pr_bind]
        have hp : pr P program = some P := rfl
        rw [hp]
        simp only [Option.bind_some, hs', Bool.false_eq_true, if_false]
        rw [← Array.forIn_toList]
        simp only [List.drop_zero] at this
        refine (congrArg (pr P) ?_).trans this
        congr 1
        funext ⟨o, u⟩
        cases o <;> rfl
    · rename_i k hn hu
      split at h
      · rename_i hk
        injection h with h; subst h
        have hg : tagg P t = some false := by
          cases k <;> simp [keyDesc] at hk <;> simp [tagg, hu, aggDesc]
        cases ha with
        | cons h1 h2 =>
          cases h2
          cases hb with
          | cons h3 h4 =>
            cases h4
            unfold mkV
            simp only [hg, Option.some.injEq, Bool.false_eq_true, if_false, List.headD_cons]
            rw [eq_scalar hu hk h1 h3]
            simp
      · cases h
    · cases h

/-- A record's kinds of cells; its type holds no interface. -/
def tflat (P : Program) (t : TypeId) : Option (List TypeDesc) := if P.eqGuardType P.depth t = true then none else flatD P Op.maxDepth t

theorem mapM_val : ∀ xs : List Value, (xs.map AV.val).mapM concV = some xs
  | [] => rfl
  | x :: xs => by simp [List.mapM_cons, mapM_val xs, concV]
theorem bin_agg {t : TypeId} {ds : List TypeDesc} {xs ys : List Value} (ht : tflat P t = some ds) (hg : tagg P t = some true) (hx : Kinds ds xs) (hy : Kinds ds ys) (ox oy : Operand) :
    abin P .eql t ox oy (.agg (xs.map .val)) (.agg (ys.map .val)) = some (.val (.bool (decide (xs = ys)))) ∧ abin P .neq t ox oy (.agg (xs.map .val)) (.agg (ys.map .val)) = some (.val (.bool (!decide (xs = ys)))) := by
  unfold tflat at ht
  split at ht
  · cases ht
  · rename_i hq
    have hd := eq_deep Op.maxDepth t ds xs ys ht hx hy
    unfold mkV at hd
    rw [if_pos hg, if_pos hg] at hd
    have hq' : P.eqGuardType P.depth t = false := by simpa using hq
    have hp : pr P program = some P := rfl
    have h2 : ∀ op : BinOp, op = .eql ∨ op = .neq → pr P (eqGuard op t ox oy (.agg xs.toArray) (.agg ys.toArray)) = some () := by
      rintro op (rfl | rfl) <;> simp [eqGuard, pr_bind, hp, hq']
    have he : pr P (Op.equal t (.agg xs.toArray) (.agg ys.toArray)) = some (decide (xs = ys)) := hd
    constructor
    · have h1 : pr P (binOp .eql t (.agg xs.toArray) (.agg ys.toArray)) = some (.bool (decide (xs = ys))) := by
        show pr P (do pure (Value.bool (← Op.equal t (.agg xs.toArray) (.agg ys.toArray)))) = _
        rw [pr_bind, he]; rfl
      simp only [abin, conc, mapM_val, Option.map_some, h1, h2 .eql (.inl rfl)]; rfl
    · have h1 : pr P (binOp .neq t (.agg xs.toArray) (.agg ys.toArray)) = some (.bool (!decide (xs = ys))) := by
        show pr P (do pure (Value.bool (!(← Op.equal t (.agg xs.toArray) (.agg ys.toArray))))) = _
        rw [pr_bind, he]; rfl
      simp only [abin, conc, mapM_val, Option.map_some, h1, h2 .neq (.inr rfl)]; rfl
end Go.Cx
