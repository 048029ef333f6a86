/- Values without an address; the evaluation of one operation. -/
import Derived.Test.YtjelapkglkcoiaaCxF
import Derived.Laws.BytesString
set_option linter.unusedVariables false
namespace Go.Cx
variable {P : Program} {Z : Nat → Prop} {κ : Nat → Slot} {h : AHeap} {w : World}

/-- What comes of a piece that asks for nothing but the program. -/
def pr (P : Program) {α : Type} : Sem α → Option α
  | .pure a => some a
  | .program k => pr P (k P)
  | .mark _ k => pr P k
  | _ => none
theorem pr_run {α : Type} (s : Sem α) : ∀ {a : α}, pr P s = some a → s.run P w = .ok a w := by
  induction s with
  | pure a => intro b hb; simp only [pr, Option.some.injEq] at hb; subst hb; rfl
  | program k ih => intro b hb; exact ih P hb
  | mark m k ih => intro b hb; exact ih hb
  | _ => intro b hb; simp [pr] at hb
@[simp] theorem pr_pure {α : Type} (a : α) : pr P (Pure.pure a : Sem α) = some a := rfl
@[simp] theorem pr_pure' {α : Type} (a : α) : pr P (Sem.pure a : Sem α) = some a := rfl
@[simp] theorem pr_bind {α β : Type} (x : Sem α) (f : α → Sem β) : pr P (x >>= f) = (pr P x).bind fun a => pr P (f a) := by
  show pr P (Sem.bind x f) = _
  induction x with
  | program k ih => simpa [Sem.bind, pr] using ih P
  | mark m k ih => simpa [Sem.bind, pr] using ih
  | _ => simp [Sem.bind, pr]
theorem pr_ite {α : Type} (c : Prop) [Decidable c] (x y : Sem α) : pr P (if c then x else y) = if c then pr P x else pr P y := by split <;> rfl
theorem pr_underlying {t : TypeId} {d : TypeDesc} (hd : P.underlying t = some d) : pr P (underlying t) = some d := by
  simp [underlying, program, pr, hd]

def concV : AV → Option Value
  | .val v => some v
  | _ => none
def conc : AV → Option Value
  | .val v => some v
  | .agg cs => (cs.mapM concV).map fun l => .agg l.toArray
  | _ => none
theorem concV_ok {a : AV} {c v : Value} (hr : R Z w κ a c) (hc : concV a = some v) : c = v := by
  cases hr <;> simp [concV] at hc
  exact hc
theorem concs_ok : ∀ {as : List AV} {cs vs : List Value}, Rs Z w κ as cs → as.mapM concV = some vs → cs = vs
  | _, _, vs, .nil, hc => by simp at hc; exact hc.symm
  | _, _, vs, .cons h1 h2, hc => by
    simp only [List.mapM_cons, Option.pure_def, Option.bind_eq_bind] at hc
    obtain ⟨y, hy, hc⟩ := Option.bind_eq_some_iff.1 hc
    obtain ⟨ys, hys, hc⟩ := Option.bind_eq_some_iff.1 hc
    injection hc with hc
    rw [← hc, concV_ok h1 hy, concs_ok h2 hys]
theorem conc_ok {a : AV} {c v : Value} (hr : R Z w κ a c) (hc : conc a = some v) : c = v := by
  cases hr with
  | val h => simp only [conc, Option.some.injEq] at hc; exact hc
  | agg h =>
    simp only [conc] at hc
    obtain ⟨l, hl, rfl⟩ := Option.map_eq_some_iff.1 hc
    rw [concs_ok h hl]
  | _ => simp [conc] at hc

def abin (P : Program) (op : BinOp) (t : TypeId) (ox oy : Operand) (x y : AV) : Option AV :=
  match conc x, conc y with
  | some a, some b => ((pr P (eqGuard op t ox oy a b)).bind fun _ => pr P (binOp op t a b)).map ofV
  | _, _ => none
theorem abin_ok {op : BinOp} {t : TypeId} {ox oy : Operand} {x y v : AV} {c d : Value} (hx : R Z w κ x c) (hy : R Z w κ y d) (hv : abin P op t ox oy x y = some v) :
    ∃ u, ((do eqGuard op t ox oy c d; binOp op t c d : Sem Value)).run P w = .ok u w ∧ R Z w κ v u := by
  unfold abin at hv
  split at hv
  · rename_i a b h1 h2
    obtain ⟨u, hu, rfl⟩ := Option.map_eq_some_iff.1 hv
    rw [conc_ok hx h1, conc_ok hy h2]
    exact ⟨u, pr_run _ (by rw [pr_bind]; exact hu), R_ofV u⟩
  · cases hv

def aun (P : Program) (op : UnOp) (x : AV) : Option AV :=
  match conc x with
  | some a => (pr P (Op.unary op a)).map ofV
  | none => none
theorem aun_ok {op : UnOp} {x v : AV} {c : Value} (hx : R Z w κ x c) (hv : aun P op x = some v) : ∃ u, (Op.unary op c).run P w = .ok u w ∧ R Z w κ v u := by
  unfold aun at hv
  split at hv
  · rename_i a h1
    obtain ⟨u, hu, rfl⟩ := Option.map_eq_some_iff.1 hv
    rw [conc_ok hx h1]
    exact ⟨u, pr_run _ hu, R_ofV u⟩
  · cases hv

def aconv (P : Program) (src dst : TypeId) (x : AV) : Option AV :=
  match conc x with
  | some a => (pr P (convert src dst a)).map ofV
  | none => none
theorem aconv_ok {src dst : TypeId} {x v : AV} {c : Value} (hx : R Z w κ x c) (hv : aconv P src dst x = some v) : ∃ u, (convert src dst c).run P w = .ok u w ∧ R Z w κ v u := by
  unfold aconv at hv
  split at hv
  · rename_i a h1
    obtain ⟨u, hu, rfl⟩ := Option.map_eq_some_iff.1 hv
    rw [conc_ok hx h1]
    exact ⟨u, pr_run _ hu, R_ofV u⟩
  · cases hv

/-! ### rows of bytes to strings -/
def u8s : List AV → Option (List UInt8)
  | [] => some []
  | .val (.int .u8 n) :: l => (u8s l).map (UInt8.ofNat n.toNat :: ·)
  | _ => none
theorem u8s_ok : ∀ {ys : List AV} {us : List Value} {l : List UInt8}, u8s ys = some l → Rs Z w κ ys us → ∃ ns : List Int, us = ns.map (Value.int .u8) ∧ l = ns.map fun n => UInt8.ofNat n.toNat
  | [], us, l, hu, hr => by cases hr; simp [u8s] at hu; subst hu; exact ⟨[], rfl, rfl⟩
  | a :: ys, us, l, hu, hr => by
    unfold u8s at hu
    split at hu
    · rename_i e; cases e
    · rename_i n l' e
      injection e with e1 e2
      subst e1 e2
      obtain ⟨l2, h2, rfl⟩ := Option.map_eq_some_iff.1 hu
      cases hr with
      | cons h3 h4 =>
        obtain ⟨ns, rfl, rfl⟩ := u8s_ok h2 h4
        have := conc_ok h3 (v := .int .u8 n) rfl
        subst this
        exact ⟨n :: ns, rfl, rfl⟩
    · cases hu
theorem foldl_push' : ∀ (ns : List Int) (r : ByteArray), ns.foldl (fun r n => r.push (UInt8.ofNat n.toNat)) r = ⟨r.data ++ (ns.map fun n => UInt8.ofNat n.toNat).toArray⟩
  | [], r => by simp
  | b :: l, r => by
    simp only [List.foldl_cons, List.map_cons]
    rw [foldl_push' l]
    simp [ByteArray.push]
def isU8 : TypeDesc → Bool
  | .int .u8 => true
  | _ => false
def isStr : TypeDesc → Bool
  | .string => true
  | _ => false
def notOwn : AV → Bool
  | .own .. => false
  | _ => true
def aconvB (P : Program) (src dst : TypeId) (x : AV) (h : AHeap) : Option AV :=
  match telem P src with
  | some e => if (P.underlying e).map isU8 = some true ∧ (P.underlying dst).map isStr = some true then match srcCells 1 h x with
      | some (m, ys) => if ys.length = m then (u8s ys).map fun l => .val (.string ⟨l.toArray⟩) else none
      | none => none
    else none
  | none => none
def aconvS (P : Program) (src dst : TypeId) (x : AV) (h : AHeap) : Option AV :=
  match x with
  | .sl t n cs => aconvB P src dst (.sl t n cs) h
  | .own id ver off n k => aconvB P src dst (.own id ver off n k) h
  | x => aconv P src dst x
theorem aconvB_ok {src dst : TypeId} {x v : AV} {c : Value} (r : Rel Z κ h w) (hx : R Z w κ x c) (hv : aconvB P src dst x h = some v) : ∃ u, (convert src dst c).run P w = .ok u w ∧ R Z w κ v u := by
  unfold aconvB at hv
  split at hv
  · rename_i e he
    split at hv
    · rename_i hc
      obtain ⟨h1, h2⟩ := hc
      obtain ⟨d1, hd1, hd1'⟩ := Option.map_eq_some_iff.1 h1
      obtain ⟨d2, hd2, hd2'⟩ := Option.map_eq_some_iff.1 h2
      have hu8 : P.underlying e = some (.int .u8) := by
        rw [hd1]; cases d1 <;> simp [isU8] at hd1'
        rename_i k; cases k <;> simp at hd1' <;> rfl
      have hst : P.underlying dst = some .string := by rw [hd2]; cases d2 <;> simp [isStr] at hd2' <;> rfl
      split at hv
      · rename_i m ys hs
        split at hv
        · rename_i hl
          obtain ⟨l, hl2, rfl⟩ := Option.map_eq_some_iff.1 hv
          rcases Nat.eq_zero_or_pos m with hm | hm
          · subst hm
            have : ys = [] := List.eq_nil_of_length_eq_zero hl
            subst this
            simp only [u8s, Option.some.injEq] at hl2
            subst hl2
            obtain ⟨A, cap, rfl⟩ := src0_ok hx hs
            refine ⟨.string .empty, ?_, .val rfl⟩
            rw [run_convert_bytes_string w src dst e _ 0 cap (run_telem he) hu8 hst]
            cases A with
            | none => simp [Conv.bytesToString]
            | some a =>
              have hload := run_loadCells_list (P := P) w a [] (fun j v hj => by simp at hj)
              have := run_bytesToString w a 0 cap [] (by simpa using hload)
              simpa using this
          · obtain ⟨a, cap, us, rfl, hat, hus⟩ := srcCells_ok r hx hs hm
            obtain ⟨ns, rfl, rfl⟩ := u8s_ok hl2 hus
            have hn : ns.length = m := by have := hus.length; simp at this; omega
            have hload := run_loadCells_list (P := P) w a (ns.map (Value.int .u8)) hat
            simp only [List.length_map] at hload
            rw [hn] at hload
            refine ⟨.string ⟨(ns.map fun n => UInt8.ofNat n.toNat).toArray⟩, ?_, .val rfl⟩
            rw [run_convert_bytes_string w src dst e _ m cap (run_telem he) hu8 hst, run_bytesToString w a m cap ns hload, foldl_push']
            have he0 : ByteArray.empty.data = #[] := rfl
            rw [he0]
            simp
        · cases hv
      · cases hv
    · cases hv
  · cases hv
theorem aconvS_ok {src dst : TypeId} {x v : AV} {c : Value} (r : Rel Z κ h w) (hx : R Z w κ x c) (hv : aconvS P src dst x h = some v) : ∃ u, (convert src dst c).run P w = .ok u w ∧ R Z w κ v u := by
  unfold aconvS at hv
  split at hv
  · exact aconvB_ok r hx hv
  · exact aconvB_ok r hx hv
  · exact aconv_ok hx hv
theorem aconvS_any {src dst : TypeId} {x : AV} (hx : notOwn x = true) (k : AHeap) : aconvS P src dst x k = aconvS P src dst x h := by
  cases x with
  | sl t n cs => rfl
  | own => simp [notOwn] at hx
  | _ => rfl

def aindexV (P : Program) (t : TypeId) (x i : AV) : Option AV :=
  match conc x, conc i with
  | some a, some b => (pr P (Instr.index t a b)).map ofV
  | _, _ => none
theorem aindexV_ok {t : TypeId} {x y v : AV} {c d : Value} (hx : R Z w κ x c) (hy : R Z w κ y d) (hv : aindexV P t x y = some v) : ∃ u, (Instr.index t c d).run P w = .ok u w ∧ R Z w κ v u := by
  unfold aindexV at hv
  split at hv
  · rename_i a b h1 h2
    obtain ⟨u, hu, rfl⟩ := Option.map_eq_some_iff.1 hv
    rw [conc_ok hx h1, conc_ok hy h2]
    exact ⟨u, pr_run _ hu, R_ofV u⟩
  · cases hv

def concO : Option AV → Option (Option Value)
  | none => some none
  | some a => (conc a).map some
theorem concO_ok {a : Option AV} {c v : Option Value} (hr : Ro Z w κ a c) (hc : concO a = some v) : c = v := by
  cases hr with
  | none => simpa [concO] using hc
  | some hr =>
    obtain ⟨u, hu, rfl⟩ := Option.map_eq_some_iff.1 hc
    rw [conc_ok hr hu]
def asliceV (P : Program) (t : TypeId) (x : AV) (lo hi mx : Option AV) : Option AV :=
  match conc x, concO lo, concO hi, concO mx with
  | some a, some l, some h, some m => (pr P (Instr.sliceAt t a l h m)).map ofV
  | _, _, _, _ => none
theorem asliceV_ok {t : TypeId} {x v : AV} {lo hi mx : Option AV} {c : Value} {cl ch cm : Option Value} (hx : R Z w κ x c) (hlo : Ro Z w κ lo cl) (hhi : Ro Z w κ hi ch) (hmx : Ro Z w κ mx cm) (hv : asliceV P t x lo hi mx = some v) :
    ∃ u, (Instr.sliceAt t c cl ch cm).run P w = .ok u w ∧ R Z w κ v u := by
  unfold asliceV at hv
  split at hv
  · rename_i a l h m h1 h2 h3 h4
    obtain ⟨u, hu, rfl⟩ := Option.map_eq_some_iff.1 hv
    rw [conc_ok hx h1, concO_ok hlo h2, concO_ok hhi h3, concO_ok hmx h4]
    exact ⟨u, pr_run _ hu, R_ofV u⟩
  · cases hv

/-! ### len -/
def isString : TypeDesc → Bool
  | .string => true
  | _ => false
def alen (P : Program) (t : TypeId) (x : AV) : Option AV :=
  match x with
  | .sl _ n _ | .own _ _ _ n _ => if (telem P t).isSome then some (.val (.int .i64 n)) else none
  | .val (.string s) => if (P.underlying t).map isString = some true then some (.val (.int .i64 s.size)) else none
  | _ => none
theorem alen_ok {t ty : TypeId} {x v : AV} {c : Value} (hx : R Z w κ x c) (hv : alen P t x = some v) : ∃ u, (Builtin.len_ #[t] ty #[c]).run P w = .ok u w ∧ R Z w κ v u := by
  have key : ∀ (A : Option Addr) (n cap : Nat), (telem P t).isSome = true → (Builtin.len_ #[t] ty #[.slice A n cap]).run P w = .ok (.int .i64 n) w := by
    intro A n cap ht
    obtain ⟨e, he⟩ := Option.isSome_iff_exists.1 ht
    simp [Builtin.len_, run_underlying (run_telem he), goInt]
  unfold alen at hv
  split at hv
  · split at hv
    · rename_i hc
      injection hv with hv
      subst hv
      cases hx with
      | sl0 => exact ⟨_, key _ _ _ hc, .val rfl⟩
      | sl => exact ⟨_, key _ _ _ hc, .val rfl⟩
    · cases hv
  · split at hv
    · rename_i hc
      injection hv with hv
      subst hv
      cases hx with
      | own => exact ⟨_, key _ _ _ hc, .val rfl⟩
    · cases hv
  · split at hv
    · rename_i hc
      injection hv with hv
      subst hv
      cases hx with
      | val =>
        obtain ⟨d, hd, hs⟩ := Option.map_eq_some_iff.1 hc
        cases d <;> simp [isString] at hs
        exact ⟨_, by simp [Builtin.len_, run_underlying hd, goInt], .val rfl⟩
    · cases hv
  · cases hv

/-! ### built-in calls of values without an address -/
def abuiltinV (P : Program) (b : Builtin) (ts : Array TypeId) (ty : TypeId) (consts : Array Bool) (xs : List AV) : Option AV :=
  match xs.mapM conc with
  | some vs => match pr P (builtin b ts ty consts vs.toArray) with
    | some (.value v) => some (ofV v)
    | _ => none
  | none => none
theorem conc_all_ok : ∀ {as : List AV} {cs vs : List Value}, Rs Z w κ as cs → as.mapM conc = some vs → cs = vs
  | _, _, vs, .nil, hc => by simp at hc; exact hc.symm
  | _, _, vs, .cons h1 h2, hc => by
    simp only [List.mapM_cons, Option.pure_def, Option.bind_eq_bind] at hc
    obtain ⟨y, hy, hc⟩ := Option.bind_eq_some_iff.1 hc
    obtain ⟨ys, hys, hc⟩ := Option.bind_eq_some_iff.1 hc
    injection hc with hc
    rw [← hc, conc_ok h1 hy, conc_all_ok h2 hys]
theorem abuiltinV_ok {b : Builtin} {ts : Array TypeId} {ty : TypeId} {consts : Array Bool} {xs : List AV} {cs : List Value} {v : AV} (hx : Rs Z w κ xs cs) (hv : abuiltinV P b ts ty consts xs = some v) :
    ∃ u, (builtin b ts ty consts cs.toArray).run P w = .ok (.value u) w ∧ R Z w κ v u := by
  unfold abuiltinV at hv
  split at hv
  · rename_i vs h1
    split at hv
    · rename_i u hu
      injection hv with hv
      subst hv
      rw [conc_all_ok hx h1]
      exact ⟨u, pr_run _ hu, R_ofV u⟩
    · cases hv
  · cases hv

end Go.Cx
