/- The evaluation of one operation, of a region, of code. -/
import Derived.Test.YtjelapkglkcoiaaCxGm
set_option linter.unusedVariables false
namespace Go.Cx
variable {P : Program} {Z : Nat → Prop} {κ : Nat → Slot} {h : AHeap} {w : World}

structure AState where
  N : Nat
  T : Nat → AV
  h : AHeap

def put (T : Nat → AV) (i : Nat) (v : AV) : Nat → AV := fun j => if j = i then v else T j
theorem put_same (T : Nat → AV) (i : Nat) (v : AV) : put T i v i = v := by simp [put]
theorem put_ne (T : Nat → AV) {i j : Nat} (v : AV) (hj : j ≠ i) : put T i v j = T j := by simp [put, hj]

def AState.put (s : AState) (d : Option Nat) (v : AV) : AState :=
  match d with
  | none => s
  | some d => { s with T := Cx.put s.T d v }

def AState.ev (s : AState) : Operand → AV
  | .tmp t => s.T t
  | .const v => ofV v
  | .global _ => .any
  | .func f => .fn f []

/-- A frame and a world are told by an abstract state. -/
structure SRel (Z : Nat → Prop) (κ : Nat → Slot) (s : AState) (a : Act) (w : World) : Prop where
  rel : Rel Z κ s.h w
  size : a.tmps.size = s.N
  tmps : ∀ j, R Z w κ (s.T j) (a.tmps.getD j undef)
  defers : a.defers = []

theorem SRel.ev {s : AState} {a : Act} (r : SRel Z κ s a w) (x : Operand) : R Z w κ (s.ev x) (a.eval x) := by
  cases x with
  | tmp t => exact r.tmps t
  | const v => exact R_ofV v
  | global g => exact .any
  | func f => exact R.fn (vs := []) .nil

theorem getD_set (tmps : Array Value) (d j : Nat) (v : Value) : (tmps.setIfInBounds d v).getD j undef = if j = d ∧ d < tmps.size then v else tmps.getD j undef := by
  by_cases hj : j = d
  · subst hj
    by_cases hd : j < tmps.size
    · simp [hd]
    · simp [hd]
  · simp [hj, Array.getElem?_setIfInBounds_ne (Ne.symm hj)]

/-- Behind an operation. -/
theorem SRel.put {s : AState} {a : Act} {Z' : Nat → Prop} {κ' : Nat → Slot} {w' : World} {h' : AHeap} {d : Option Nat} {v : AV} {c : Value} (r : SRel Z κ s a w) (r' : Rel Z' κ' h' w') (hv : R Z' w' κ' v c) (e : Ext Z κ w Z' κ' w') (hs : StepAll κ κ')
    (hd : ∀ i, d = some i → i < s.N) : SRel Z' κ' (({ s with h := h' } : AState).put d v) (a.put d c) w' := by
  cases d with
  | none => exact ⟨r', r.size, fun j => (r.tmps j).ext r.rel e hs, r.defers⟩
  | some i =>
    have hi := hd i rfl
    refine ⟨r', by simpa [Act.put, AState.put] using r.size, fun j => ?_, r.defers⟩
    simp only [Act.put, AState.put]
    rw [getD_set, r.size]
    by_cases hj : j = i
    · subst hj; rw [put_same]; simpa [hi] using hv
    · rw [put_ne _ _ hj]; simpa [hj] using (r.tmps j).ext r.rel e hs

/-! ### one operation -/
def isAny : AV → Bool
  | .any => true
  | _ => false
def evCall (P : Program) (h : AHeap) (b : Builtin) (ts : List TypeId) (ty : TypeId) (consts : Array Bool) (xs : List AV) : Option (AV × AHeap) :=
  match b, ts, xs with
  | .len, [t], [x] => match alen P t x with
    | some v => some (v, h)
    | none => none
  | .append, [t, t'], [s, x] => if t = t' then aappend P t s x h else none
  | b, ts, xs => (abuiltinV P b ts.toArray ty consts xs).map fun v => (v, h)

def ev (P : Program) (lit : TypeId → Bool) (ρ : Operand → AV) (h : AHeap) (o : Oper) : Option (AV × AHeap) :=
  match o.op with
  | .move x | .assign x => some (ρ x, h)
  | .pick c a b => match ρ c with
    | .val (.bool t) => some (if t then ρ a else ρ b, h)
    | _ => none
  | .alloc t => (tzero P t).map fun zs => (.ptr h.length 0 0, h ++ [.cells 0 zs])
  | .box t x => (cellsOf (ρ x)).map fun cs => (.ptr h.length 0 0, h ++ [.cells 0 cs])
  | .build t ps => (abuild P t (ps.toList.map fun p => (p.1, ρ p.2))).map fun v => (v, h)
  | .buildSlice t len ps => match abuildSlice P t len (ps.toList.map fun p => (p.1, ρ p.2)) with
    | some (cs, k) => if lit t then some (.own h.length 0 0 len k, h ++ [.cells 0 cs]) else some (.sl true len cs, h)
    | none => none
  | .load t x => (aload P t (ρ x) h).map fun v => (v, h)
  | .store t p x => (astore P t (ρ p) (ρ x) h).map fun h' => (.any, h')
  | .nilCheck x => match ρ x with
    | .ptr id ver off => some (.ptr id ver off, h)
    | .fp cs => some (.fp cs, h)
    | .fn f cs => some (.fn f cs, h)
    | _ => none
  | .fieldAddr t x i => (afield P t (ρ x) i).map fun v => (v, h)
  | .field t x i => (afieldV P t (ρ x) i).map fun v => (v, h)
  | .indexAddr t x i => (aindex P t (ρ x) (ρ i)).map fun v => (v, h)
  | .index t x i => (aindexV P t (ρ x) (ρ i)).map fun v => (v, h)
  | .slice t x lo hi mx => match ρ x with
    | .val c => (asliceV P t (.val c) (lo.map ρ) (hi.map ρ) (mx.map ρ)).map fun v => (v, h)
    | x => (aslice P t x (lo.map ρ) (hi.map ρ) (mx.map ρ)).map fun v => (v, h)
  | .extract x i => (aextract (ρ x) i).map fun v => (v, h)
  | .makeFunc (.func f) first cap => if first.isEmpty then some (.fn f (cap.toList.map ρ), h) else none
  | .binOp op t x y _ => (abin P op t x y (ρ x) (ρ y)).map fun v => (v, h)
  | .unOp op _ x => (aun P op (ρ x)).map fun v => (v, h)
  | .convert src dst x => (aconvS P src dst (ρ x) h).map fun v => (v, h)
  | .call { callee := .builtin b, args := xs, argTypes := ts } => evCall P h b ts.toList o.type (xs.map fun | .const _ => true | _ => false) (xs.toList.map ρ)
  | .makeMap t none => some (.mp h.length, h ++ [.map [] []])
  | .insert t m k x | .mapUpdate t m k x => (ainsert P t (ρ m) (ρ k) (ρ x) h).map fun h' => (.any, h')
  | .lookup t m k ok => (alookup P t (ρ m) (ρ k) ok h).map fun v => (v, h)
  | _ => none

theorem Out.of_run {v : AV} {h' : AHeap} {r : Result Next} (hr : Rel Z κ h' w) (hx : ∃ u, r = .ok (.value u) w ∧ R Z w κ v u) : Out Z κ w v h' r := by
  obtain ⟨u, rfl, hv⟩ := hx
  exact ⟨u, w, Z, κ, .inl rfl, hr, hv, .refl _ _ _, .refl _⟩

theorem toArray_map (xs : Array Operand) (f : Operand → Value) : xs.map f = (xs.toList.map f).toArray := by
  apply Array.ext'
  simp

theorem rho_s {ρ : Operand → AV} {σ : Operand → Value} (hρ : ∀ x, R Z w κ (ρ x) (σ x)) : ∀ l : List Operand, Rs Z w κ (l.map ρ) (l.map σ)
  | [] => .nil
  | x :: l => .cons (hρ x) (rho_s hρ l)
theorem rho_p {ρ : Operand → AV} {σ : Operand → Value} (hρ : ∀ x, R Z w κ (ρ x) (σ x)) : ∀ l : List (Nat × Operand), Rp Z w κ (l.map fun p => (p.1, ρ p.2)) (l.map fun p => (p.1, σ p.2))
  | [] => .nil
  | (i, x) :: l => .cons (hρ x) (rho_p hρ l)
theorem rho_o {ρ : Operand → AV} {σ : Operand → Value} (hρ : ∀ x, R Z w κ (ρ x) (σ x)) : ∀ x : Option Operand, Ro Z w κ (x.map ρ) (x.map σ)
  | none => .none
  | some x => .some (hρ x)

theorem ev_ok {lit : TypeId → Bool} {ρ : Operand → AV} {σ : Operand → Value} {o : Oper} {v : AV} {h' : AHeap} (r : Rel Z κ h w) (hρ : ∀ x, R Z w κ (ρ x) (σ x)) (hv : ev P lit ρ h o = some (v, h')) : Out Z κ w v h' ((execOp σ o).run P w) := by
  have lift : ∀ (m : Sem Value) (h1 : h' = h), (execOp σ o = (do pure (.value (← m)))) → (∃ u, m.run P w = .ok u w ∧ R Z w κ v u) → Out Z κ w v h' ((execOp σ o).run P w) := by
    rintro m rfl he ⟨u, hu, hr⟩
    refine .of_run r ⟨u, ?_, hr⟩
    rw [he]; simp [hu]
  unfold ev at hv
  split at hv
  case h_1 x ho =>
    injection hv with hv; injection hv with h1 h2; subst h1 h2
    exact .of_run r ⟨_, by simp [execOp, ho], hρ x⟩
  case h_2 x ho =>
    injection hv with hv; injection hv with h1 h2; subst h1 h2
    exact .of_run r ⟨_, by simp [execOp, ho], hρ x⟩
  case h_3 c x y ho =>
    split at hv
    · rename_i t hc
      injection hv with hv; injection hv with h1 h2; subst h1 h2
      have hcc := hρ c
      rw [hc] at hcc
      have hcv := conc_ok hcc (v := .bool t) rfl
      refine .of_run r ⟨if t then σ x else σ y, by simp [execOp, ho, hcv, asBool], ?_⟩
      cases t
      · simpa using hρ y
      · simpa using hρ x
    · cases hv
  case h_4 t ho =>
    obtain ⟨zs, hz, he⟩ := Option.map_eq_some_iff.1 hv
    injection he with h1 h2; subst h1 h2
    exact alloc_ok r hz o ho σ
  case h_5 t x ho =>
    obtain ⟨cs, hc, he⟩ := Option.map_eq_some_iff.1 hv
    injection he with h1 h2; subst h1 h2
    exact box_ok r o ho σ (hρ x) hc
  case h_6 t ps ho =>
    obtain ⟨u, hu, he⟩ := Option.map_eq_some_iff.1 hv
    injection he with h1 h2; subst h1 h2
    exact lift _ rfl (by simp only [execOp, ho]; rfl) (abuild_ok (by simpa using rho_p hρ ps.toList) hu)
  case h_7 t len ps ho =>
    split at hv
    · rename_i cs k hb
      obtain ⟨us, E, hrun, hus, hlen, hk, hle⟩ := run_buildSlice' (P := P) (qs := ps.map fun p => (p.1, σ p.2)) (by simpa using rho_p hρ ps.toList) hb
      have hrun' : (execOp σ o).run P w = .ok (.value (.slice (some ⟨w.heap.size, 0, none⟩) len len)) (w.alloc (.cells us.toArray E)) := by
        simp only [execOp, ho, Sem.run_bind, hrun, Result.andThen_ok, Sem.run_pure]
      have hmax : len ≤ maxLen := by
        have h1 : len ≤ len * k := Nat.le_mul_of_pos_right _ hk
        simp only [maxLen]; omega
      have hul := hus.length
      rw [hrun']
      split at hv
      · injection hv with hv; injection hv with h1 h2; subst h1 h2
        exact Out.alloc r hus us.toArray E (by simp) (fun j u hj => by simpa using hj) (fun κ' hk' => R_newOwn hk' (Nat.le_refl _) hmax (by simp; omega) hk)
      · injection hv with hv; injection hv with h1 h2; subst h1 h2
        exact Out.frozen r hus E hmax (fun h0 => List.eq_nil_of_length_eq_zero (by rw [hlen, h0]; simp))
    · cases hv
  case h_8 t x ho =>
    obtain ⟨u, hu, he⟩ := Option.map_eq_some_iff.1 hv
    injection he with h1 h2; subst h1 h2
    exact lift _ rfl (by simp only [execOp, ho]) (aload_ok r (hρ x) hu)
  case h_9 t p x ho =>
    obtain ⟨h2, hu, he⟩ := Option.map_eq_some_iff.1 hv
    injection he with h1 h2; subst h1 h2
    obtain ⟨w', hw, hr, he⟩ := astore_ok (P := P) r (hρ p) (hρ x) hu
    exact ⟨undef, w', Z, κ, .inr ⟨by simp [execOp, ho, hw], rfl⟩, hr, .any, he, .refl _⟩
  case h_10 x ho =>
    have hx := hρ x
    split at hv <;> first | (cases hv; done) | skip
    all_goals
      rename_i hc
      injection hv with hv; injection hv with h1 h2; subst h1 h2
      rw [hc] at hx
      refine .of_run r ⟨σ x, ?_, hx⟩
      simp only [execOp, ho]
      generalize σ x = c at hx
      cases hx <;> simp
  case h_11 t x i ho =>
    obtain ⟨u, hu, he⟩ := Option.map_eq_some_iff.1 hv
    injection he with h1 h2; subst h1 h2
    exact lift _ rfl (by simp only [execOp, ho]) (afield_ok (hρ x) hu)
  case h_12 t x i ho =>
    obtain ⟨u, hu, he⟩ := Option.map_eq_some_iff.1 hv
    injection he with h1 h2; subst h1 h2
    exact lift _ rfl (by simp only [execOp, ho]) (afieldV_ok (hρ x) hu)
  case h_13 t x i ho =>
    obtain ⟨u, hu, he⟩ := Option.map_eq_some_iff.1 hv
    injection he with h1 h2; subst h1 h2
    exact lift _ rfl (by simp only [execOp, ho]) (aindex_ok (hρ x) (hρ i) hu)
  case h_14 t x i ho =>
    obtain ⟨u, hu, he⟩ := Option.map_eq_some_iff.1 hv
    injection he with h1 h2; subst h1 h2
    exact lift _ rfl (by simp only [execOp, ho]) (aindexV_ok (hρ x) (hρ i) hu)
  case h_15 t x lo hi mx ho =>
    have hx := hρ x
    split at hv
    · rename_i c hc
      rw [hc] at hx
      obtain ⟨u, hu, he⟩ := Option.map_eq_some_iff.1 hv
      injection he with h1 h2; subst h1 h2
      exact lift _ rfl (by simp only [execOp, ho]) (asliceV_ok hx (rho_o hρ lo) (rho_o hρ hi) (rho_o hρ mx) hu)
    · obtain ⟨u, hu, he⟩ := Option.map_eq_some_iff.1 hv
      injection he with h1 h2; subst h1 h2
      exact lift _ rfl (by simp only [execOp, ho]) (aslice_ok hx (rho_o hρ lo) (rho_o hρ hi) (rho_o hρ mx) hu)
  case h_16 x i ho =>
    obtain ⟨u, hu, he⟩ := Option.map_eq_some_iff.1 hv
    injection he with h1 h2; subst h1 h2
    exact lift _ rfl (by simp only [execOp, ho]) (aextract_ok (hρ x) hu)
  case h_17 f first cap ho =>
    split at hv
    · rename_i hf
      injection hv with hv; injection hv with h1 h2; subst h1 h2
      have hf' : first = #[] := by simpa using hf
      subst hf'
      refine .of_run r ⟨.func (.func f) #[] (cap.toList.map σ).toArray, ?_, .fn (rho_s hρ cap.toList)⟩
      simp [execOp, ho, Instr.makeFunc]
      exact toArray_map cap σ
    · cases hv
  case h_18 op t x y yt ho =>
    obtain ⟨u, hu, he⟩ := Option.map_eq_some_iff.1 hv
    injection he with h1 h2; subst h1 h2
    exact lift _ rfl (by simp only [execOp, ho]) (abin_ok (hρ x) (hρ y) hu)
  case h_19 op t x ho =>
    obtain ⟨u, hu, he⟩ := Option.map_eq_some_iff.1 hv
    injection he with h1 h2; subst h1 h2
    exact lift _ rfl (by simp only [execOp, ho]) (aun_ok (hρ x) hu)
  case h_20 src dst x ho =>
    obtain ⟨u, hu, he⟩ := Option.map_eq_some_iff.1 hv
    injection he with h1 h2; subst h1 h2
    exact lift _ rfl (by simp only [execOp, ho]) (aconvS_ok r (hρ x) hu)
  case h_21 b xs ts ho =>
    have hxs := rho_s hρ xs.toList
    have hex : execOp σ o = builtin b ts o.type (xs.map fun | .const _ => true | _ => false) (xs.map σ) := by
      simp only [execOp, ho, resolve]
      rfl
    rw [hex, toArray_map xs σ]
    unfold evCall at hv
    split at hv
    · rename_i t x e1 e2
      split at hv
      · rename_i u hu
        injection hv with hv; injection hv with h1 h2; subst h1 h2
        rw [e2] at hxs
        obtain ⟨c, hcs⟩ : ∃ c, xs.toList.map σ = [c] := by
          have := hxs.length
          match hq : xs.toList.map σ, this with
          | [c], _ => exact ⟨c, rfl⟩
        rw [hcs] at hxs ⊢
        cases hxs with
        | cons h1 h2 =>
          obtain ⟨u, hu, hr⟩ := alen_ok (P := P) (ty := o.type) h1 hu
          have ets : ts = #[t] := by apply Array.ext'; simpa using e1
          exact .of_run r ⟨u, by simp [builtin, ets, hu], hr⟩
      · cases hv
    · rename_i t t' x y e1 e2
      split at hv
      · rename_i ht
        subst ht
        rw [e2] at hxs
        obtain ⟨c, d, hcs⟩ : ∃ c d, xs.toList.map σ = [c, d] := by
          have := hxs.length
          match hq : xs.toList.map σ, this with
          | [c, d], _ => exact ⟨c, d, rfl⟩
        rw [hcs] at hxs ⊢
        cases hxs with
        | cons h1 h2 =>
          cases h2 with
          | cons h2 h3 =>
            obtain ⟨u, w', κ', hu, hr, hr2, he, hs⟩ := aappend_ok (P := P) (ty := o.type) r h1 h2 hv
            have ets : ts = #[t, t] := by apply Array.ext'; simpa using e1
            exact ⟨u, w', Z, κ', .inl (by simp [builtin, ets, hu]), hr, hr2, he, hs⟩
      · cases hv
    · obtain ⟨u, hu, he⟩ := Option.map_eq_some_iff.1 hv
      injection he with h1 h2; subst h1 h2
      obtain ⟨c, hc, hr⟩ := abuiltinV_ok (P := P) hxs hu
      exact .of_run r ⟨c, by simpa using hc, hr⟩
  case h_22 t ho =>
    injection hv with hv; injection hv with h1 h2; subst h1 h2
    exact makeMap_ok r o ho σ
  case h_23 t m k x ho =>
    obtain ⟨h2, hu, he⟩ := Option.map_eq_some_iff.1 hv
    injection he with h1 h2; subst h1 h2
    obtain ⟨w', hw, hr, he⟩ := insert_ok (P := P) r (hρ m) (hρ k) (hρ x) hu
    exact ⟨undef, w', Z, κ, .inr ⟨by simp [execOp, ho, hw], rfl⟩, hr, .any, he, .refl _⟩
  case h_24 t m k x ho =>
    obtain ⟨h2, hu, he⟩ := Option.map_eq_some_iff.1 hv
    injection he with h1 h2; subst h1 h2
    obtain ⟨w', hw, hr, he⟩ := insert_ok (P := P) r (hρ m) (hρ k) (hρ x) hu
    exact ⟨undef, w', Z, κ, .inr ⟨by simp [execOp, ho, hw], rfl⟩, hr, .any, he, .refl _⟩
  case h_25 t m k ok ho =>
    obtain ⟨u, hu, he⟩ := Option.map_eq_some_iff.1 hv
    injection he with h1 h2; subst h1 h2
    exact lift _ rfl (by simp only [execOp, ho]) (lookup_ok r (hρ m) (hρ k) hu)
  all_goals cases hv

end Go.Cx
