/- The frame of a claim: what is handed in, as abstract values; what is told behind the call. Records without an address, compared. Tests whose answer is open: both ways, each with its fact. Scopes and jumps to a label. Strings, bytes, numbers without a sign, as equations. Contracts of the library's functions, met by the walk. Calls that write blocks of their caller's: told over a small heap, met in a great one. How calls that write blocks of their caller's are walked and met. Arguments opened, their bulk told. Calls that hand back blocks of one's own: told over a small heap, met in a great one. -/
import Derived.Test.YtilmfmjcemfoeaaBc
import Derived.ChangeArms
import Derived.ChangeSame
import Derived.Carry
import Derived.RowKit
import Derived.Handed
import Derived.JoinedOf
import Derived.ScopeJumps
set_option linter.unusedVariables false
set_option linter.unusedSimpArgs false
namespace Go.Cx
open Go.ChangeShapes Go.WideShapes
variable {P : Program} {W : World}

def Zw (W : World) : Nat → Prop := fun b => b < W.heap.size
def noK : Nat → Slot := fun _ => .hole

/-- What is read at this type is told so. -/
def Opn (P : Program) (W : World) (t : TypeId) (A : List AV → Prop) : Prop :=
  ∀ (H : Type) (enc : TypeId × Value → H) (fuel : Nat) (cs : List Value) (x : DataW H × List MemPlace), DataW.trod enc P W 0 (fun _ => true) true fuel t cs = some x → ∃ as, A as ∧ Rs (Zw W) W noK as cs

theorem Opn.mono {t : TypeId} {A B : List AV → Prop} (h : Opn P W t A) (hab : ∀ as, A as → B as) : Opn P W t B := fun H enc fuel cs x hx =>
  let ⟨as, ha, hr⟩ := h H enc fuel cs x hx
  ⟨as, hab as ha, hr⟩

theorem opn_bool {t : TypeId} (ht : P.underlying t = some .bool) : Opn P W t (fun as => ∃ b, as = [.val (.bool b)]) := fun H enc fuel cs x hx => by
  obtain ⟨b, rfl, _⟩ := DataW.trod_bool ht hx
  exact ⟨_, ⟨b, rfl⟩, .cons (.val rfl) .nil⟩
def inI (n : Int) : Prop := -9223372036854775808 ≤ n ∧ n < 9223372036854775808
theorem opn_int {t : TypeId} (ht : P.underlying t = some (.int .i64)) : Opn P W t (fun as => ∃ n, as = [.val (.int .i64 n)] ∧ inI n) := fun H enc fuel cs x hx => by
  obtain ⟨n, rfl, _, hw⟩ := DataW.trod_int ht hx
  refine ⟨_, ⟨n, rfl, ?_⟩, .cons (.val rfl) .nil⟩
  have h1 : IntKind.i64.min = -9223372036854775808 := rfl
  have h2 : IntKind.i64.max = 9223372036854775807 := rfl
  simp only [Lit.wf, h1, h2, Bool.and_eq_true, decide_eq_true_eq] at hw
  simp only [inI]; omega
theorem opn_string {t : TypeId} (ht : P.underlying t = some .string) : Opn P W t (fun as => ∃ s : ByteArray, as = [.val (.string s)] ∧ s.size ≤ maxLen) := fun H enc fuel cs x hx => by
  obtain ⟨s, rfl, _, hs⟩ := DataW.trod_string ht hx
  exact ⟨_, ⟨s, rfl, hs⟩, .cons (.val rfl) .nil⟩

theorem cellsOf_tsize {t : TypeId} {k : Nat} (h : tsize P t = some k) : P.cellsOf t = k := by
  simp only [tsize] at h
  simp only [Program.cellsOf, h, Option.getD_some]

theorem cells?_spec {a : Addr} {n : Nat} {cs : List Value} (h : W.cells? 0 a n = some cs) : cs.length = n ∧ ∀ j u, cs[j]? = some u → W.cell? (a.add j) = some u := by
  simp only [World.cells?, Nat.zero_le, if_true] at h
  refine ⟨by simpa using mapM_some_length h, fun j u hj => ?_⟩
  have hlt : j < n := by
    have := mapM_some_length h
    have h2 := (List.getElem?_eq_some_iff.1 hj).1
    simp at this; omega
  have := mapM_some_get h j j (by simp [hlt])
  rw [this, hj]

theorem add2 (a : Addr) (m n : Nat) : (a.add m).add n = a.add (m + n) := by
  unfold Addr.add
  by_cases h1 : m = 0
  · simp [h1]
  · by_cases h2 : n = 0
    · simp [h2]
    · simp [h1, h2, Nat.add_assoc]
theorem cell_lt {a : Addr} {u : Value} (h : W.cell? a = some u) : a.block < W.heap.size := by
  unfold World.cell? at h
  rcases Nat.lt_or_ge a.block W.heap.size with h1 | h1
  · exact h1
  · rw [Array.getElem?_eq_none h1] at h; simp at h

theorem opn_slice {t e : TypeId} {k : Nat} {A : List AV → Prop} (ht : telem P t = some e) (hk : tsize P e = some k) (h0 : 0 < k) (he : Opn P W e A) :
    Opn P W t (fun as => ∃ l : List (List AV), (∀ x ∈ l, A x ∧ x.length = k) ∧ as = [.sl false l.length l.flatten]) := fun H enc fuel cs x hx => by
  have hc := cellsOf_tsize hk
  rcases DataW.trod_slice (run_telem ht) hx with ⟨rfl, _⟩ | ⟨a, len, cap, elems, rest, n, _, rfl, _, _, hlc, hcap, hel, hall, _, _⟩
  · exact ⟨_, ⟨[], by simp, rfl⟩, .cons (.sl0 (by simp) (by simp [maxLen])) .nil⟩
  · rw [hc] at hall
    have key : ∀ m, m ≤ len → ∃ (l : List (List AV)) (us : List Value), l.length = m ∧ (∀ x ∈ l, A x ∧ x.length = k) ∧ us.length = m * k ∧ CellsAt W a us ∧ Rs (Zw W) W noK l.flatten us := by
      intro m
      induction m with
      | zero => intro _; exact ⟨[], [], rfl, by simp, by simp, fun j u hj => by simp at hj, .nil⟩
      | succ m ih =>
        intro hm
        obtain ⟨l, us, h1, h2, h3, h4, h5⟩ := ih (by omega)
        have hm' := hall m (by omega)
        have hlt : m < elems.length := by omega
        rw [List.getElem?_eq_getElem hlt] at hm'
        obtain ⟨cs, hcs, htr⟩ := Option.bind_eq_some_iff.1 hm'
        obtain ⟨as, ha, hr⟩ := he H enc n cs _ htr
        obtain ⟨hl, hcell⟩ := cells?_spec hcs
        have hal : as.length = k := by rw [hr.length, hl]
        refine ⟨l ++ [as], us ++ cs, by simp [h1], ?_, by simp [h3, hl, Nat.add_mul], fun j u hj => ?_, ?_⟩
        · intro x hx
          rcases List.mem_append.1 hx with h | h
          · exact h2 x h
          · rw [List.mem_singleton.1 h]; exact ⟨ha, hal⟩
        · rcases Nat.lt_or_ge j us.length with hj1 | hj1
          · rw [List.getElem?_append_left hj1] at hj; exact h4 j u hj
          · rw [List.getElem?_append_right hj1] at hj
            have := hcell _ u hj
            rw [add2] at this
            rw [← this]; congr 2; omega
        · rw [List.flatten_append]
          exact h5.append (by simpa using hr)
    obtain ⟨l, us, h1, h2, h3, h4, h5⟩ := key len (Nat.le_refl _)
    refine ⟨_, ⟨l, h2, rfl⟩, .cons ?_ .nil⟩
    rcases Nat.eq_zero_or_pos len with hz | hz
    · have : l = [] := List.eq_nil_of_length_eq_zero (by omega)
      subst this
      subst hz
      exact .sl0 (by simp) hcap
    · rw [h1]
      refine .sl hz hlc (by simp) hcap ?_ h4 h5
      have hpos : 0 < us.length := by rw [h3]; exact Nat.mul_pos hz h0
      have := cell_lt (h4 0 us[0] (by simp [hpos]))
      have e : (a.add 0).block = a.block := by unfold Addr.add; split <;> rfl
      rw [e] at this
      exact this

def tstruct (P : Program) (t : TypeId) : Option (List (Nat × TypeId)) :=
  match P.underlying t with
  | some (.struct fs) => some (fs.toList.map fun f => (f.offset, f.type))
  | _ => none

inductive OpnFs (P : Program) (W : World) : List (Nat × TypeId) → Nat → Nat → (List AV → Prop) → Prop
  | nil {n : Nat} : OpnFs P W [] n n (fun as => as = [])
  | cons {off k n : Nat} {ft : TypeId} {fs : List (Nat × TypeId)} {A B : List AV → Prop} : Opn P W ft A → tsize P ft = some k → OpnFs P W fs (off + k) n B → OpnFs P W ((off, ft) :: fs) off n (fun as => ∃ a b, A a ∧ B b ∧ as = a ++ b)

theorem OpnFs.rs {fs : List (Nat × TypeId)} {off n : Nat} {B : List AV → Prop} (h : OpnFs P W fs off n B) : ∀ (H : Type) (enc : TypeId × Value → H) (fuel : Nat) (cs : List Value), cs.length = n →
    (∀ p ∈ fs, ∃ x, DataW.trod enc P W 0 (fun _ => true) true fuel p.2 ((cs.drop p.1).take (P.cellsOf p.2)) = some x) → ∃ as, B as ∧ Rs (Zw W) W noK as (cs.drop off) := by
  induction h with
  | nil => intro H enc fuel cs hl _; exact ⟨[], rfl, by rw [List.drop_eq_nil_of_le (by omega)]; exact .nil⟩
  | @cons off k n ft fs A B ha hk hfs ih =>
    intro H enc fuel cs hl hall
    obtain ⟨x, hx⟩ := hall (off, ft) (by simp)
    obtain ⟨a, hA, hr⟩ := ha H enc fuel _ x hx
    obtain ⟨b, hB, hr2⟩ := ih H enc fuel cs hl fun p hp => hall p (by simp [hp])
    refine ⟨a ++ b, ⟨a, b, hA, hB, rfl⟩, ?_⟩
    rw [cellsOf_tsize hk] at hr
    have : cs.drop off = (cs.drop off).take k ++ cs.drop (off + k) := by
      rw [← List.drop_drop, List.take_append_drop]
    rw [this]
    exact hr.append hr2

theorem opn_struct {t : TypeId} {fs : List (Nat × TypeId)} {n : Nat} {B : List AV → Prop} (ht : tstruct P t = some fs) (hs : tsize P t = some n) (h : OpnFs P W fs 0 n B) : Opn P W t B := fun H enc fuel cs x hx => by
  unfold tstruct at ht
  split at ht
  · rename_i fa hu
    injection ht with ht; subst ht
    obtain ⟨xs, m, _, _, hl, hxl, hall⟩ := DataW.trod_struct hu hx
    rw [cellsOf_tsize hs] at hl
    have := h.rs H enc m cs hl fun p hp => by
      obtain ⟨f, hf, rfl⟩ := List.mem_map.1 hp
      obtain ⟨i, hi, hfi⟩ := List.mem_iff_getElem.1 hf
      have h1 : fa[i]? = some f := by simp at hi; simp [hi]; simpa using hfi
      have h2 := hall i f h1
      have h3 : i < xs.length := by simp at hi; omega
      exact ⟨xs[i], by rw [h2]; simp [h3]⟩
    simpa using this
  · cases ht

/-! ### rows of records -/
theorem rows_of {α : Type} {enc : α → List AV} {p : α → Prop} : ∀ l : List (List AV), (∀ x ∈ l, ∃ c, x = enc c ∧ p c) → ∃ cs : List α, l = cs.map enc ∧ ∀ c ∈ cs, p c
  | [], _ => ⟨[], rfl, by simp⟩
  | x :: l, h => by
    obtain ⟨c, rfl, hp⟩ := h x (by simp)
    obtain ⟨cs, rfl, hps⟩ := rows_of l fun y hy => h y (by simp [hy])
    exact ⟨c :: cs, rfl, by simpa using ⟨hp, hps⟩⟩
theorem opn_rows {α : Type} {enc : α → List AV} {p : α → Prop} {t e : TypeId} {k : Nat} (ht : telem P t = some e) (hk : tsize P e = some k) (h0 : 0 < k) (he : Opn P W e (fun as => ∃ c, as = enc c ∧ p c)) :
    Opn P W t (fun as => ∃ cs : List α, as = [.sl false cs.length (cs.flatMap enc)] ∧ ∀ c ∈ cs, p c) :=
  (opn_slice ht hk h0 he).mono fun as ⟨l, hl, ha⟩ => by
    obtain ⟨cs, rfl, hp⟩ := rows_of l fun x hx => (hl x hx).1
    exact ⟨cs, by rw [ha]; simp [List.flatMap_def], hp⟩
theorem flat_one {α β : Type} (f : α → β) : ∀ l : List α, l.flatMap (fun c => [f c]) = l.map f
  | [] => rfl
  | a :: l => by simp [flat_one f l]
theorem opn_rows1 {α : Type} {enc : α → AV} {p : α → Prop} {t e : TypeId} (ht : telem P t = some e) (hk : tsize P e = some 1) (he : Opn P W e (fun as => ∃ c, as = [enc c] ∧ p c)) :
    Opn P W t (fun as => ∃ cs : List α, as = [.sl false cs.length (cs.map enc)] ∧ ∀ c ∈ cs, p c) :=
  (opn_rows (enc := fun c => [enc c]) ht hk (by omega) he).mono fun as ⟨cs, ha, hp⟩ => ⟨cs, by rw [ha]; simp [flat_one], hp⟩

/-! ### arguments -/
theorem arg_struct {H : Type} {enc : TypeId × Value → H} {base : Nat} {t : TypeId} {fs : List (Nat × TypeId)} {v : Value} {d : DataW H} {ps : List MemPlace} {A : List AV → Prop} (ht : tstruct P t = some fs) (hv : Value.okWide P W .any base t v) (h : DataW.Trod enc P W 0 (fun _ => true) true t v d ps) (ha : Opn P W t A) :
    ∃ as, A as ∧ R (Zw W) W noK (.agg as) v := by
  unfold tstruct at ht
  split at ht
  · rename_i fa hu
    obtain ⟨cs, rfl, _⟩ := okWide_struct hu hv
    obtain ⟨fuel, hf⟩ := h
    obtain ⟨as, hA, hr⟩ := ha H enc fuel _ _ hf
    exact ⟨as, hA, by have := R.agg hr; simpa [Value.cells] using this⟩
  · cases ht
theorem arg_one {H : Type} {enc : TypeId × Value → H} {t : TypeId} {v : Value} {d : DataW H} {ps : List MemPlace} {A : List AV → Prop} (hone : v.cells.toList = [v]) (h : DataW.Trod enc P W 0 (fun _ => true) true t v d ps) (ha : Opn P W t A) :
    ∃ a, A [a] ∧ R (Zw W) W noK a v := by
  obtain ⟨fuel, hf⟩ := h
  obtain ⟨as, hA, hr⟩ := ha H enc fuel _ _ hf
  rw [hone] at hr
  cases hr with
  | cons h1 h2 => cases h2; exact ⟨_, hA, h1⟩

/-! ### behind the call -/
theorem ext_same {Z' : Nat → Prop} {κ' : Nat → Slot} {W' : World} (e : Ext (Zw W) noK W Z' κ' W') {b : Nat} (hb : b < W.heap.size) : W'.heap[b]? = W.heap[b]? := e.keep b hb (no_alive b)
theorem ext_kept {Z' : Nat → Prop} {κ' : Nat → Slot} {W' : World} (e : Ext (Zw W) noK W Z' κ' W') (may : MemPlace → Prop) : W.keptBut W' may := by
  refine ⟨e.os, e.output, fun i hi => ?_⟩
  rw [ext_same e hi]
  cases W.heap[i]? with
  | none => rfl
  | some o => cases o with
    | cells c t fr => exact ⟨rfl, rfl, rfl, fun _ _ => rfl⟩
    | map es cl => exact .inr ⟨rfl, rfl⟩
    | _ => rfl
theorem ext_below {Z' : Nat → Prop} {κ' : Nat → Slot} {W' : World} (e : Ext (Zw W) noK W Z' κ' W') : RowKit.Below W.heap.size W W' := ⟨e.os, e.tape, e.output, e.size, fun k hk => ext_same e hk⟩
theorem ext_frozen {Z' : Nat → Prop} {κ' : Nat → Slot} {W' : World} (e : Ext (Zw W) noK W Z' κ' W') {b off : Nat} (hb : b < W.heap.size) : W'.frozen? ⟨b, off, none⟩ = W.frozen? ⟨b, off, none⟩ := by
  simp only [World.frozen?, ext_same e hb]

theorem post_true {H : Type} {enc : TypeId × Value → H} {f : Func} {s : ChangeSpec} {apart fresh handsOn again : Bool} {args : Array Value} {ds gs : List (DataW H)} {before : List MemPlace} {Z' : Nat → Prop} {κ' : Nat → Slot} {W' : World} {t : TypeId}
    (hW : DataW.Whole enc P f.params.toList s.vars apart W args.toList ds gs before) (e : Ext (Zw W) noK W Z' κ' W') (hvars : s.vars = []) (hspec : s.fn H (ds ++ gs) = { results := [.lit (.bool true)], args := ds })
    (hr : f.resultTypes = #[t]) (ht : P.underlying t = some .bool) (hl : laidOutB P = true) (hps : ∀ t ∈ f.params.toList, P.readableRec t = true ∧ t < P.types.size) : s.post enc P f apart fresh handsOn again W args (.bool true) W' := by
  have hold : ∀ p ∈ before, (fun b => decide (b < W.heap.size)) p.block = true := fun p hp => by simpa using hW.lt p hp
  have hW' := hW
  obtain ⟨pa, pv, hA, hV, hpq, hz, hn⟩ := hW'
  rw [hvars] at hV
  obtain ⟨hg, hpv⟩ : gs = [] ∧ pv = [] := trodVars_none hV
  subst hg hpv
  simp only [List.append_nil] at hpq
  subst hpq
  have hlt : ∀ p ∈ before, p.block < W.heap.size := fun p hp => hW.lt p hp
  have stays : ∀ (sp : Nat → Bool), (∀ p ∈ before, sp p.block = true) → DataW.TrodAll enc P W' 0 sp true f.params.toList args.toList ds before := by
    intro sp hsp
    have go : ∀ (ts : List TypeId) (vs : List Value) (ds : List (DataW H)) (ps : List MemPlace), (∀ t ∈ ts, P.readableRec t = true ∧ t < P.types.size) → (∀ p ∈ ps, p.block < W.heap.size ∧ sp p.block = true) → DataW.TrodAll enc P W 0 (fun _ => true) true ts vs ds ps → DataW.TrodAll enc P W' 0 sp true ts vs ds ps := by
      intro ts
      induction ts with
      | nil => intro vs ds ps _ _ h; cases vs <;> cases ds <;> simp_all [DataW.TrodAll]
      | cons t ts ih =>
        intro vs ds ps ht hp h
        match vs, ds, h with
        | v :: vs, d :: ds, ⟨p, q, h1, h2, hpq⟩ =>
          subst hpq
          refine ⟨p, q, WideElems.Trod_stays hl (ht t (by simp)).1 (ht t (by simp)).2 h1 (fun x hx => (ext_below e).same (hp x (by simp [hx])).1) (fun x hx => (hp x (by simp [hx])).2), ih vs ds q (fun t' h' => ht t' (by simp [h'])) (fun x hx => hp x (by simp [hx])) h2, rfl⟩
    exact go _ _ _ _ hps (fun p hp => ⟨hlt p hp, hsp p hp⟩) hA
  have hres : ∀ (b : Nat) (sp : Nat → Bool), DataW.TrodAll enc P W' b sp true f.resultTypes.toList ((Value.bool true).resultList f.resultTypes.size) (s.fn H (ds ++ [])).results [] := by
    intro b sp
    rw [hspec, hr]
    exact trodAll_mk1 ⟨1, by simp [DataW.trod, Value.cells, ht]⟩
  have hres2 : ∀ (b : Nat) (sp : Nat → Bool), DataW.TrodAll enc P W' b sp handsOn f.resultTypes.toList ((Value.bool true).resultList f.resultTypes.size) (s.fn H (ds ++ [])).results [] := by
    intro b sp
    rw [hspec, hr]
    exact trodAll_mk1 ⟨1, by simp [DataW.trod, Value.cells, ht]⟩
  have hargs : (s.fn H (ds ++ [])).args = ds := by rw [hspec]
  have hv0 : (s.fn H (ds ++ [])).vars = [] := by rw [hspec]
  have hvs : ∀ sp : Nat → Bool, DataW.TrodVars enc P W' sp s.vars (s.fn H (ds ++ [])).vars [] := fun sp => by rw [hvars, hv0]; rfl
  refine ⟨ds, [], before, [], before, [], hW, hres2 _ _, by rw [hargs]; exact stays _ hold, hvs _, World.keptBut_mono (fun p hp => ⟨hp, ?_⟩) (ext_kept e (· ∈ before)), fun _ => ?_⟩
  · exact .inr (.inl hp)
  · refine ⟨?_, _, _, ([] ++ before) ++ [], ⟨[] ++ before, [], trodAll_append (stays _ fun _ _ => rfl) (hres _ _), hvs _, rfl, ?_, ?_⟩, ?_⟩
    · exact RowKit.ok_one hr rfl (by simp [Value.okWide, ht, Cell.okWide, Cell.ok])
    · intro b off hp
      have hp : MemPlace.cell b off ∈ before := by simpa using hp
      have hb : b < W.heap.size := hlt _ hp
      rw [ext_frozen e hb]
      exact hz b off hp
    · intro ha; simpa using hn ha
    · intro p hp _; simpa using hp

/-- A law that only computes and comes to true keeps what it was handed. -/
theorem law_calls {H : Type} {enc : TypeId × Value → H} {f : FuncId} {fn : Func} {s : ChangeSpec} {apart fresh handsOn again : Bool} {args : Array Value} {ds gs : List (DataW H)} {before : List MemPlace} {t : TypeId} {avs : List AV}
    (hp : PCall P f avs (.val (.bool true))) (hrs : Rs (Zw W) W noK avs args.toList)
    (hW : DataW.Whole enc P fn.params.toList s.vars apart W args.toList ds gs before) (hvars : s.vars = []) (hspec : s.fn H (ds ++ gs) = { results := [.lit (.bool true)], args := ds })
    (hr : fn.resultTypes = #[t]) (ht : P.underlying t = some .bool) (hl : laidOutB P = true) (hps : ∀ t ∈ fn.params.toList, P.readableRec t = true ∧ t < P.types.size) :
    Calls P f args W fun e W' => ∃ v, e = .returned v ∧ s.post enc P fn apart fresh handsOn again W args v W' := by
  have h := hp.2.2.2 (Zw W) noK W args.toList (rel_empty fun b hb => hb) hrs
  have ea : args.toList.toArray = args := by simp
  rw [ea] at h
  refine h.mono ?_
  rintro e W' ⟨v, h', Z', κ', c, ⟨rfl, rfl⟩, rfl, r', hv, ex, st⟩
  have hc : c = .bool true := concV_ok hv rfl
  subst hc
  exact ⟨_, rfl, post_true hW ex hvars hspec hr ht hl hps⟩
end Go.Cx

set_option linter.unusedVariables false
set_option linter.unusedSimpArgs false
namespace Go.Cx
variable {P : Program}

noncomputable instance decV : DecidableEq Value := fun _ _ => Classical.propDecidable _

def flatFs (P : Program) (F : TypeId → Option (List TypeDesc)) : List Field → Nat → Option (List TypeDesc)
  | [], _ => some []
  | f :: fs, off => if f.name ≠ "_" ∧ f.offset = off then match F f.type, tsize P f.type with
      | some ds, some k => if k = ds.length then (flatFs P F fs (off + k)).map fun r => ds ++ r else none
      | _, _ => none
    else none
/-- The kinds of a record's cells, where all are numbers, truths and texts. -/
def flatD (P : Program) : Nat → TypeId → Option (List TypeDesc)
  | 0, _ => none
  | d + 1, t => match P.underlying t with
    | some (.struct fs) => if P.stoodInHeld t = true then none else flatFs P (flatD P d) fs.toList 0
    | some k => if keyDesc k then some [k] else none
    | none => none
inductive Kinds : List TypeDesc → List Value → Prop
  | nil : Kinds [] []
  | cons {d : TypeDesc} {ds : List TypeDesc} {v : Value} {vs : List Value} : isKeyB d v = true → Kinds ds vs → Kinds (d :: ds) (v :: vs)
theorem Kinds.len {ds : List TypeDesc} {vs : List Value} (h : Kinds ds vs) : vs.length = ds.length := by induction h <;> simp_all
theorem Kinds.take {r : List TypeDesc} : ∀ {ds : List TypeDesc} {vs : List Value}, Kinds (ds ++ r) vs → Kinds ds (vs.take ds.length) ∧ Kinds r (vs.drop ds.length)
  | [], vs, h => ⟨.nil, h⟩
  | d :: ds, _, .cons h1 h2 => ⟨.cons h1 h2.take.1, h2.take.2⟩
/-- The value of a type whose cells are these. -/
def mkV (P : Program) (t : TypeId) (xs : List Value) : Value := if tagg P t = some true then .agg xs.toArray else xs.headD undef

theorem pr_isAgg {t : TypeId} {g : Bool} (h : tagg P t = some g) : pr P (isAgg t) = some g := by
  obtain ⟨d, hd, hg⟩ := Option.map_eq_some_iff.1 h
  simp only [isAgg, pr_bind, pr_underlying hd, Option.bind_some]
  cases d <;> simp_all [aggDesc]
theorem pr_sizeOf {t : TypeId} {k : Nat} (h : tsize P t = some k) : pr P (sizeOf t) = some k := by
  obtain ⟨i, hi, hk⟩ := Option.map_eq_some_iff.1 h
  simp [sizeOf, typeInfo, pr_bind, program, pr, hi, hk]

theorem flatD_agg {d : Nat} {t : TypeId} {ds : List TypeDesc} (h : flatD P d t = some ds) : ∃ g, tagg P t = some g ∧ (g = false → ds.length = 1) := by
  cases d with
  | zero => cases h
  | succ d =>
    simp only [flatD] at h
    split at h
    · rename_i fs hu; exact ⟨true, by simp [tagg, hu, aggDesc], by simp⟩
    · rename_i k hn hu
      split at h
      · rename_i hk
        injection h with h; subst h
        refine ⟨false, ?_, fun _ => rfl⟩
        cases k <;> simp [keyDesc] at hk <;> simp [tagg, hu, aggDesc]
      · cases h
    · cases h

theorem pr_part {t : TypeId} {d k off : Nat} {ds : List TypeDesc} {xs : List Value} (hf : flatD P d t = some ds) (hk : tsize P t = some k) (hkd : k = ds.length) (hx : Kinds ds ((xs.drop off).take k)) : pr P (part t xs.toArray off) = some (mkV P t ((xs.drop off).take k)) := by
  obtain ⟨g, hg, h1⟩ := flatD_agg hf
  unfold part mkV
  rw [pr_bind, pr_isAgg hg, hg]
  cases g with
  | true =>
    simp only [Option.bind_some, if_true, pr_bind, pr_sizeOf hk, pr_pure]
    congr 2
    apply Array.ext'
    simp [Array.toList_extract, List.extract_eq_take_drop]
  | false =>
    have hl := hx.len
    have h1 := h1 rfl
    simp only [Option.bind_some, Bool.false_eq_true, if_false, Option.some.injEq]
    have hlt : off < xs.length := by
      rw [List.length_take, List.length_drop] at hl; omega
    have e : (xs.drop off).take k = [xs[off]] := by
      rw [hkd, h1, List.drop_eq_getElem_cons hlt, List.take_succ_cons, List.take_zero]
    rw [e]
    simp [hlt]

theorem eq_scalar {d : Nat} {t : TypeId} {k : TypeDesc} {a b : Value} (hu : P.underlying t = some k) (hk : keyDesc k = true) (ha : isKeyB k a = true) (hb : isKeyB k b = true) : pr P (Op.equalIn (d + 1) t a b) = some (decide (a = b)) := by
  rw [Op.equalIn, pr_bind, pr_underlying hu]
  cases k <;> simp [keyDesc] at hk <;> cases a <;> simp [isKeyB] at ha <;> cases b <;> simp [isKeyB] at hb
  · simp only [Option.bind_some, pr_pure]; rename_i x y; cases x <;> cases y <;> simp
  · subst ha hb
    simp only [Option.bind_some, if_true, pr_pure, Value.int.injEq, true_and]
    rename_i n x y
    by_cases h : n = y <;> simp [h]
  · simp only [Option.bind_some, pr_pure, Value.string.injEq]
    rename_i x y
    by_cases h : x = y
    · subst h
      have e := (MapKept.bytes_beq x x).2 rfl
      rw [e]; simp
    · have e : (x == y) = false := by
        cases hh : (x == y) with
        | false => rfl
        | true => exact absurd ((MapKept.bytes_beq x y).1 hh) h
      rw [e]; simp [h]

theorem eq_fields {d : Nat} {xs ys : List Value} (ih : ∀ (t : TypeId) (ds : List TypeDesc) (a b : List Value), flatD P d t = some ds → Kinds ds a → Kinds ds b → pr P (Op.equalIn d t (mkV P t a) (mkV P t b)) = some (decide (a = b))) :
    ∀ (fs : List Field) (off : Nat) (r : List TypeDesc), flatFs P (flatD P d) fs off = some r → Kinds r (xs.drop off) → Kinds r (ys.drop off) →
      pr P (do
        let __s ← forIn fs ((none : Option Bool), ()) fun f __s =>
              if f.name ≠ "_" then do
                let a ← part f.type xs.toArray f.offset
                let b ← part f.type ys.toArray f.offset
                let c ← Op.equalIn d f.type a b
                if (!c) = true then pure (ForInStep.done (some false, ())) else pure (ForInStep.yield (none, ()))
              else pure (ForInStep.yield (none, ()))
        match __s.fst with
          | some r => pure r
          | none => pure true) = some (decide (xs.drop off = ys.drop off))
  | [], off, r, hf, hx, hy => by
    injection hf with hf; subst hf
    cases hxe : xs.drop off with
    | cons _ _ => rw [hxe] at hx; cases hx
    | nil => cases hye : ys.drop off with
      | cons _ _ => rw [hye] at hy; cases hy
      | nil => simp
  | f :: fs, off, r, hf, hx, hy => by
    simp only [flatFs] at hf
    split at hf
    · rename_i hn
      obtain ⟨hn, ho⟩ := hn
      split at hf
      · rename_i ds k hd hk
        split at hf
        · rename_i hkd
          obtain ⟨r', hr', he⟩ := Option.map_eq_some_iff.1 hf
          subst he
          have hx1 := hx.take
          have hy1 := hy.take
          rw [List.drop_drop] at hx1 hy1
          have step := eq_fields ih fs (off + k) r' hr' (by rw [hkd]; exact hx1.2) (by rw [hkd]; exact hy1.2)
          have pa := pr_part (xs := xs) (off := off) hd hk hkd (by rw [hkd]; exact hx1.1)
          have pb := pr_part (xs := ys) (off := off) hd hk hkd (by rw [hkd]; exact hy1.1)
          have pe := ih f.type ds _ _ hd (show Kinds ds ((xs.drop off).take k) by rw [hkd]; exact hx1.1) (show Kinds ds ((ys.drop off).take k) by rw [hkd]; exact hy1.1)
          have split : (xs.drop off = ys.drop off) ↔ ((xs.drop off).take k = (ys.drop off).take k ∧ xs.drop (off + k) = ys.drop (off + k)) := by
            rw [← List.drop_drop, ← List.drop_drop]
            refine ⟨fun h => by rw [h]; exact ⟨rfl, rfl⟩, fun ⟨h1, h2⟩ => ?_⟩
            rw [← List.take_append_drop k (xs.drop off), ← List.take_append_drop k (ys.drop off), h1, h2]
          rw [List.forIn_cons]
          rw [if_pos hn, ho]
          simp only [pr_bind, pa, pb, pe, Option.bind_some]
          by_cases he : (xs.drop off).take k = (ys.drop off).take k
          · simp only [he, decide_true, Bool.not_true, Bool.false_eq_true, if_false, pr_pure, Option.bind_some]
            simp only [pr_bind] at step
            rw [step]
            simp [split, he]
          · have : ¬ xs.drop off = ys.drop off := fun h => he (split.1 h).1
            simp [he, this]
        · cases hf
      · cases hf
    · cases hf

theorem eq_deep : ∀ (d : Nat) (t : TypeId) (ds : List TypeDesc) (a b : List Value), flatD P d t = some ds → Kinds ds a → Kinds ds b → pr P (Op.equalIn d t (mkV P t a) (mkV P t b)) = some (decide (a = b))
  | 0, t, ds, a, b, h, _, _ => by cases h
  | d + 1, t, ds, a, b, h, ha, hb => by
    simp only [flatD] at h
    split at h
    · rename_i fs hu
      split at h
      · cases h
      · rename_i hs
        have hg : tagg P t = some true := by simp [tagg, hu, aggDesc]
        have hs' : P.stoodInHeld t = false := by simpa using hs
        have := eq_fields (xs := a) (ys := b) (eq_deep d) fs.toList 0 ds h (by simpa using ha) (by simpa using hb)
        unfold mkV
        rw [if_pos hg, if_pos hg]
        rw [Op.equalIn, pr_bind, pr_underlying hu]
        simp only [Option.bind_some]
        rw [pr_bind]
        have hp : pr P program = some P := rfl
        rw [hp]
        simp only [Option.bind_some, hs', Bool.false_eq_true, if_false]
        rw [← Array.forIn_toList]
        simp only [List.drop_zero] at this
        refine (congrArg (pr P) ?_).trans this
        congr 1
        funext ⟨o, u⟩
        cases o <;> rfl
    · rename_i k hn hu
      split at h
      · rename_i hk
        injection h with h; subst h
        have hg : tagg P t = some false := by
          cases k <;> simp [keyDesc] at hk <;> simp [tagg, hu, aggDesc]
        cases ha with
        | cons h1 h2 =>
          cases h2
          cases hb with
          | cons h3 h4 =>
            cases h4
            unfold mkV
            simp only [hg, Option.some.injEq, Bool.false_eq_true, if_false, List.headD_cons]
            rw [eq_scalar hu hk h1 h3]
            simp
      · cases h
    · cases h

/-- A record's kinds of cells; its type holds no interface. -/
def tflat (P : Program) (t : TypeId) : Option (List TypeDesc) := if P.eqGuardType P.depth t = true then none else flatD P Op.maxDepth t

theorem mapM_val : ∀ xs : List Value, (xs.map AV.val).mapM concV = some xs
  | [] => rfl
  | x :: xs => by simp [List.mapM_cons, mapM_val xs, concV]
theorem bin_agg {t : TypeId} {ds : List TypeDesc} {xs ys : List Value} (ht : tflat P t = some ds) (hg : tagg P t = some true) (hx : Kinds ds xs) (hy : Kinds ds ys) (ox oy : Operand) :
    abin P .eql t ox oy (.agg (xs.map .val)) (.agg (ys.map .val)) = some (.val (.bool (decide (xs = ys)))) ∧ abin P .neq t ox oy (.agg (xs.map .val)) (.agg (ys.map .val)) = some (.val (.bool (!decide (xs = ys)))) := by
  unfold tflat at ht
  split at ht
  · cases ht
  · rename_i hq
    have hd := eq_deep Op.maxDepth t ds xs ys ht hx hy
    unfold mkV at hd
    rw [if_pos hg, if_pos hg] at hd
    have hq' : P.eqGuardType P.depth t = false := by simpa using hq
    have hp : pr P program = some P := rfl
    have h2 : ∀ op : BinOp, op = .eql ∨ op = .neq → pr P (eqGuard op t ox oy (.agg xs.toArray) (.agg ys.toArray)) = some () := by
      rintro op (rfl | rfl) <;> simp [eqGuard, pr_bind, hp, hq']
    have he : pr P (Op.equal t (.agg xs.toArray) (.agg ys.toArray)) = some (decide (xs = ys)) := hd
    constructor
    · have h1 : pr P (binOp .eql t (.agg xs.toArray) (.agg ys.toArray)) = some (.bool (decide (xs = ys))) := by
        show pr P (do pure (Value.bool (← Op.equal t (.agg xs.toArray) (.agg ys.toArray)))) = _
        rw [pr_bind, he]; rfl
      simp only [abin, conc, mapM_val, Option.map_some, h1, h2 .eql (.inl rfl)]; rfl
    · have h1 : pr P (binOp .neq t (.agg xs.toArray) (.agg ys.toArray)) = some (.bool (!decide (xs = ys))) := by
        show pr P (do pure (Value.bool (!(← Op.equal t (.agg xs.toArray) (.agg ys.toArray))))) = _
        rw [pr_bind, he]; rfl
      simp only [abin, conc, mapM_val, Option.map_some, h1, h2 .neq (.inr rfl)]; rfl
end Go.Cx

set_option linter.unusedVariables false
set_option linter.unusedSimpArgs false
namespace Go.Cx
variable {P : Program} {lit : TypeId → Bool} {n : Nat}

section
variable {Q : Exit → AState → Prop} {s : AState} {a b : Code} {p : Prop} [Decidable p] {t : Bool}
theorem condK_dec (h1 : p → p = True → AX P lit n a Q s) (h2 : ¬ p → p = False → AX P lit n b Q s) : condK P lit n a b Q s (.val (.bool (decide p))) := by
  by_cases h : p
  · simpa [h] using h1 h (eq_true h)
  · simpa [h] using h2 h (eq_false h)
theorem condK_ndec (h1 : ¬ p → p = False → AX P lit n a Q s) (h2 : p → p = True → AX P lit n b Q s) : condK P lit n a b Q s (.val (.bool (!decide p))) := by
  by_cases h : p
  · simpa [h] using h2 h (eq_true h)
  · simpa [h] using h1 h (eq_false h)
theorem condK_b (h1 : t = true → t = true → AX P lit n a Q s) (h2 : t = false → t = false → AX P lit n b Q s) : condK P lit n a b Q s (.val (.bool t)) := by
  cases t
  · simpa using h2 rfl rfl
  · simpa using h1 rfl rfl
theorem condK_nb (h1 : t = false → t = false → AX P lit n a Q s) (h2 : t = true → t = true → AX P lit n b Q s) : condK P lit n a b Q s (.val (.bool (!t))) := by
  cases t
  · simpa using h1 rfl rfl
  · simpa using h2 rfl rfl
end

section
variable {o : Oper} {s : AState} {K : AState → Prop} {i : Nat} {want : Bool} {p : Prop} [Decidable p] {t : Bool}
theorem gdK_dec (h1 : p → p = True → gdK P lit o s i want K (.val (.bool true))) (h2 : ¬ p → p = False → gdK P lit o s i want K (.val (.bool false))) : gdK P lit o s i want K (.val (.bool (decide p))) := by
  by_cases h : p
  · simpa [h] using h1 h (eq_true h)
  · simpa [h] using h2 h (eq_false h)
theorem gdK_ndec (h1 : p → p = True → gdK P lit o s i want K (.val (.bool false))) (h2 : ¬ p → p = False → gdK P lit o s i want K (.val (.bool true))) : gdK P lit o s i want K (.val (.bool (!decide p))) := by
  by_cases h : p
  · simpa [h] using h1 h (eq_true h)
  · simpa [h] using h2 h (eq_false h)
theorem gdK_b (h1 : t = true → t = true → gdK P lit o s i want K (.val (.bool true))) (h2 : t = false → t = false → gdK P lit o s i want K (.val (.bool false))) : gdK P lit o s i want K (.val (.bool t)) := by
  cases t
  · exact h2 rfl rfl
  · exact h1 rfl rfl
theorem gdK_nb (h1 : t = false → t = false → gdK P lit o s i want K (.val (.bool true))) (h2 : t = true → t = true → gdK P lit o s i want K (.val (.bool false))) : gdK P lit o s i want K (.val (.bool (!t))) := by
  cases t
  · exact h1 rfl rfl
  · exact h2 rfl rfl
variable {D : List Nat} {cc : CC} {k : Nat}
theorem gdD_dec (h1 : p → p = True → gdD P lit D cc k o s i want K (.val (.bool true))) (h2 : ¬ p → p = False → gdD P lit D cc k o s i want K (.val (.bool false))) : gdD P lit D cc k o s i want K (.val (.bool (decide p))) := by
  by_cases h : p
  · simpa [h] using h1 h (eq_true h)
  · simpa [h] using h2 h (eq_false h)
theorem gdD_ndec (h1 : p → p = True → gdD P lit D cc k o s i want K (.val (.bool false))) (h2 : ¬ p → p = False → gdD P lit D cc k o s i want K (.val (.bool true))) : gdD P lit D cc k o s i want K (.val (.bool (!decide p))) := by
  by_cases h : p
  · simpa [h] using h1 h (eq_true h)
  · simpa [h] using h2 h (eq_false h)
theorem gdD_b (h1 : t = true → t = true → gdD P lit D cc k o s i want K (.val (.bool true))) (h2 : t = false → t = false → gdD P lit D cc k o s i want K (.val (.bool false))) : gdD P lit D cc k o s i want K (.val (.bool t)) := by
  cases t
  · exact h2 rfl rfl
  · exact h1 rfl rfl
theorem gdD_nb (h1 : t = false → t = false → gdD P lit D cc k o s i want K (.val (.bool true))) (h2 : t = true → t = true → gdD P lit D cc k o s i want K (.val (.bool false))) : gdD P lit D cc k o s i want K (.val (.bool (!t))) := by
  cases t
  · exact h1 rfl rfl
  · exact h2 rfl rfl
end
end Go.Cx

set_option linter.unusedVariables false
set_option linter.unusedSimpArgs false
namespace Go.Cx
variable {P : Program} {lit : TypeId → Bool} {n : Nat}

/-- As Q; at a jump to label l: J. -/
def jumpA (l : Nat) (J : AState → Prop) (Q : Exit → AState → Prop) : Exit → AState → Prop
  | .goto l', s => l' = l ∧ J s
  | e, s => Q e s
section
variable (l : Nat) (J : AState → Prop) (Q : Exit → AState → Prop) (s : AState)
@[simp] theorem jumpA_normal : jumpA l J Q .normal s = Q .normal s := rfl
@[simp] theorem jumpA_exit (id : Nat) : jumpA l J Q (.exit id) s = Q (.exit id) s := rfl
@[simp] theorem jumpA_goto (l' : Nat) : jumpA l J Q (.goto l') s = (l' = l ∧ J s) := rfl
@[simp] theorem jumpA_ret : jumpA l J Q .ret s = Q .ret s := rfl
end

theorem AW.scope {c rest : Code} {Q : Exit → AState → Prop} {s : AState} (l : Nat) (I : AState → Prop) (μ : AState → Nat) (hf : findLabel c l = some rest)
    (h0 : AW P n c (jumpA l (fun s' => ∃ s'', Wk n s' s'' ∧ I s'') Q) s)
    (hr : ∀ s, I s → AW P n rest (jumpA l (fun s' => ∃ s'', Wk n s' s'' ∧ I s'' ∧ μ s'' < μ s) Q) s) : AW P n (.scope c) Q s := by
  intro Z κ a w r hn
  let J : Act → World → Nat → Prop := fun a' w' m => After n (fun s' => I s' ∧ μ s' = m) Z κ w a' w'
  let I' : Act → World → Prop := fun a' w' => ∃ m, J a' w' m
  have lst : ∀ a' w', I' a' w' → ∃ m, J a' w' m ∧ ∀ k, J a' w' k → m ≤ k := by
    intro a' w' ⟨m, hm⟩
    induction m using Nat.strongRecOn with
    | _ m ih =>
      by_cases hex : ∃ k, k < m ∧ J a' w' k
      · obtain ⟨k, hk, hj⟩ := hex; exact ih k hk hj
      · exact ⟨m, hm, fun k hk => Nat.le_of_not_lt fun hlt => hex ⟨k, hlt, hk⟩⟩
  let μ' : Act → World → Nat := fun a' w' => Classical.epsilon fun m => J a' w' m ∧ ∀ k, J a' w' k → m ≤ k
  have hμ : ∀ a' w', I' a' w' → J a' w' (μ' a' w') ∧ ∀ k, J a' w' k → μ' a' w' ≤ k := fun a' w' hi => Classical.epsilon_spec (lst a' w' hi)
  refine wp_scope_jumps l I' μ' hf ?_ fun a' w' hi => ?_
  · refine wp_mono (h0 Z κ a w r hn) fun e a2 w2 ha => ?_
    cases e with
    | normal => exact ha
    | exit id => exact ha
    | goto l' =>
      obtain ⟨s2, Z2, κ2, ⟨hl, s3, hwk, hI3⟩, r2, e2, st2, n2⟩ := ha
      obtain ⟨κ3, r3, e3, st3, n3⟩ := hwk Z2 κ2 a2 w2 r2 n2
      exact ⟨hl, _, s3, Z2, κ3, ⟨hI3, rfl⟩, r3, e2.trans e3, st2.trans st3, n3⟩
    | ret => exact ha
    | panic ch => exact ha
    | outgrown => exact ha
  · obtain ⟨⟨s1, Z1, κ1, ⟨hI, hm⟩, r1, e1, st1, n1⟩, hle⟩ := hμ a' w' hi
    refine wp_mono (hr s1 hI Z1 κ1 a' w' r1 n1) fun e a2 w2 ha => ?_
    have ha := ha.trans e1 st1
    cases e with
    | normal => exact ha
    | exit id => exact ha
    | goto l' =>
      obtain ⟨s2, Z2, κ2, ⟨hl, s3, hwk, hI3, hlt⟩, r2, e2, st2, n2⟩ := ha
      obtain ⟨κ3, r3, e3, st3, n3⟩ := hwk Z2 κ2 a2 w2 r2 n2
      have hj : J a2 w2 (μ s3) := ⟨s3, Z2, κ3, ⟨hI3, rfl⟩, r3, e2.trans e3, st2.trans st3, n3⟩
      refine ⟨hl, ⟨_, hj⟩, ?_⟩
      have := (hμ a2 w2 ⟨_, hj⟩).2 _ hj
      omega
    | ret => exact ha
    | panic ch => exact ha
    | outgrown => exact ha

/-- A scope, its states at the label by a family. -/
theorem AW.scopeF {α : Type} {c rest : Code} {Q : Exit → AState → Prop} {s : AState} (l : Nat) (S : α → AState) (μ : α → Nat) (good : α → Prop) (hf : findLabel c l = some rest)
    (h0 : AX P lit n c (jumpA l (fun s' => ∃ x', Wk n s' (S x') ∧ good x') Q) s)
    (hr : ∀ x, good x → AX P lit n rest (jumpA l (fun s' => ∃ x', Wk n s' (S x') ∧ good x' ∧ μ x' < μ x) Q) (S x)) : AW P n (.scope c) Q s := by
  let I : AState → Prop := fun s => ∃ x, good x ∧ S x = s
  let M : AState → Nat → Prop := fun s m => ∃ x, good x ∧ S x = s ∧ μ x = m
  have lst : ∀ s, I s → ∃ m, M s m ∧ ∀ k, M s k → m ≤ k := by
    rintro s ⟨x, hg, hs⟩
    have : ∀ m, M s m → ∃ m, M s m ∧ ∀ k, M s k → m ≤ k := by
      intro m
      induction m using Nat.strongRecOn with
      | _ m ih =>
        intro hm
        by_cases hex : ∃ k, k < m ∧ M s k
        · obtain ⟨k, hk, hj⟩ := hex; exact ih k hk hj
        · exact ⟨m, hm, fun k hk => Nat.le_of_not_lt fun hlt => hex ⟨k, hlt, hk⟩⟩
    exact this (μ x) ⟨x, hg, hs, rfl⟩
  let μ' : AState → Nat := fun s => Classical.epsilon fun m => M s m ∧ ∀ k, M s k → m ≤ k
  have hμ : ∀ s, I s → M s (μ' s) ∧ ∀ k, M s k → μ' s ≤ k := fun s hi => Classical.epsilon_spec (lst s hi)
  refine AW.scope l I μ' hf ?_ fun s hi => ?_
  · intro Z κ a w r hn
    refine wp_mono (AX_ok c _ _ h0 Z κ a w r hn) fun e a' w' ha => ha.mono fun s2 h2 => ?_
    cases e with
    | goto l' => obtain ⟨hl, x', hw, hg⟩ := h2; exact ⟨hl, S x', hw, x', hg, rfl⟩
    | normal => exact h2
    | exit id => exact h2
    | ret => exact h2
    | panic ch => exact h2
    | outgrown => exact h2
  · obtain ⟨⟨x, hg, hs, hm⟩, _⟩ := hμ s hi
    subst hs
    intro Z κ a w r hn
    refine wp_mono (AX_ok rest _ _ (hr x hg) Z κ a w r hn) fun e a' w' ha => ha.mono fun s2 h2 => ?_
    cases e with
    | goto l' =>
      obtain ⟨hl, x', hw, hg', hlt⟩ := h2
      refine ⟨hl, S x', hw, ⟨x', hg', rfl⟩, ?_⟩
      have := (hμ (S x') ⟨x', hg', rfl⟩).2 _ ⟨x', hg', rfl, rfl⟩
      omega
    | normal => exact h2
    | exit id => exact h2
    | ret => exact h2
    | panic ch => exact h2
    | outgrown => exact h2
/-- Slots are kept, and the heap, by sight. -/
theorem Wk.at {n N' : Nat} {s : AState} {h' : AHeap} (l : List (Nat × AV)) (hN : s.N = N') (hh : s.h = h') (hl : ∀ p ∈ l, s.T p.1 = p.2) : Wk n s ⟨N', Cx.pat l, h'⟩ := by
  subst hN hh
  exact Wk.keep l hl
theorem Wk.cutAt {n N' : Nat} {s : AState} {h' : AHeap} (l : List (Nat × AV)) (hN : s.N = N') (hnm : n ≤ h'.length) (hh : s.h.take h'.length = h') (hc : h'.all (ABlk.refsLt h'.length) = true) (hl : ∀ p ∈ l, s.T p.1 = p.2 ∧ refsLt h'.length p.2 = true) : Wk n s ⟨N', Cx.pat l, h'⟩ := by
  subst hN
  have := Wk.cut (s := s) h'.length l hnm (by have := congrArg List.length hh; simp at this; omega) (by rw [hh]; exact hc) hl
  rwa [hh] at this
/-- The same, what stands behind a round under a name of its own. -/
theorem AW.scopeG {α : Type} {c rest : Code} {Q : Exit → AState → Prop} {s : AState} (l : Nat) (S : α → AState) (μ : α → Nat) (good : α → Prop) (hf : findLabel c l = some rest)
    (h0 : ∀ A : AState → Prop, (∀ x' s', Wk n s' (S x') → good x' → A s') → AX P lit n c (jumpA l A Q) s)
    (hr : ∀ x, good x → ∀ A : AState → Prop, (∀ x' s', Wk n s' (S x') → good x' → μ x' < μ x → A s') → AX P lit n rest (jumpA l A Q) (S x)) : AW P n (.scope c) Q s :=
  AW.scopeF (lit := lit) l S μ good hf (h0 _ fun x' s' h1 h2 => ⟨x', h1, h2⟩) (fun x hx => hr x hx _ fun x' s' h1 h2 h3 => ⟨x', h1, h2, h3⟩)
theorem AW.loopG {α : Type} {c : Code} {Q : Exit → AState → Prop} {s : AState} (S : α → AState) (μ : α → Nat) (good : α → Prop) (x0 : α) (h0 : Wk n s (S x0)) (g0 : good x0)
    (hr : ∀ x, good x → ∀ A : AState → Prop, (∀ x' s', Wk n s' (S x') → good x' → μ x' < μ x → A s') → AX P lit n c (thenA A Q) (S x)) : AW P n (.loop c) Q s :=
  AW.loopF (lit := lit) S μ good x0 h0 g0 (fun x hx => hr x hx _ fun x' s' h1 h2 h3 => ⟨x', h1, h2, h3⟩)
end Go.Cx

set_option linter.unusedVariables false
set_option linter.unusedSimpArgs false
namespace Go.Cx
variable {P : Program} {lit : TypeId → Bool} {n : Nat}

/-! ### bytes -/
abbrev yb (b : UInt8) : AV := .val (.int .u8 (b.toNat : Int))
@[simp] theorem u8s_nil : u8s [] = some [] := rfl
theorem u8s_cons (k : Int) (l : List AV) : u8s (.val (.int .u8 k) :: l) = (u8s l).map (UInt8.ofNat k.toNat :: ·) := by rw [u8s]
@[simp] theorem u8s_yb (l : List UInt8) : u8s (l.map yb) = some l := by
  induction l with
  | nil => rfl
  | cons b l ih => rw [List.map_cons, u8s_cons, ih]; simp
@[simp] theorem u8s_one (k : Int) : u8s [.val (.int .u8 k)] = some [UInt8.ofNat k.toNat] := by rw [u8s_cons]; rfl
theorem u8s_app : ∀ {a b : List AV} {x y : List UInt8}, u8s a = some x → u8s b = some y → u8s (a ++ b) = some (x ++ y)
  | [], b, x, y, ha, hb => by simp at ha; subst ha; simpa using hb
  | v :: a, b, x, y, ha, hb => by
    unfold u8s at ha
    split at ha
    · rename_i e; cases e
    · rename_i k a' e
      injection e with e1 e2
      subst e1 e2
      obtain ⟨x', hx, rfl⟩ := Option.map_eq_some_iff.1 ha
      rw [List.cons_append, u8s_cons, u8s_app hx hb]; rfl
    · cases ha
@[simp] theorem u8s_snoc (l : List UInt8) (k : Int) : u8s (l.map yb ++ [.val (.int .u8 k)]) = some (l ++ [UInt8.ofNat k.toNat]) := u8s_app (u8s_yb l) (u8s_one k)
@[simp] theorem u8s_both (l m : List UInt8) : u8s (l.map yb ++ m.map yb) = some (l ++ m) := u8s_app (u8s_yb l) (u8s_yb m)
@[simp] theorem isU8_u8 : isU8 (.int .u8) = true := rfl
@[simp] theorem isStr_s : isStr .string = true := rfl
attribute [simp] aconvB
@[simp high] theorem take_map1 {α β : Type} (f : α → β) (l : List α) (b : β) : List.take (l.length + 1) (l.map f ++ [b]) = l.map f ++ [b] := List.take_of_length_le (by simp)
@[simp high] theorem take_map0 {α β : Type} (f : α → β) (l : List α) : List.take l.length (l.map f) = l.map f := List.take_of_length_le (by simp)
@[simp] theorem all_ybs (l : List UInt8) : (l.map yb).all neat = true := by simp
@[simp high] theorem one_ybs (l : List UInt8) : (l.map yb).all isOne = true := by simp [isOne]

/-! ### strings -/
abbrev T (l : List UInt8) : ByteArray := ⟨l.toArray⟩
theorem T_data (s : ByteArray) : T s.data.toList = s := by cases s; rfl
theorem T_app (a b : List UInt8) : T a ++ T b = T (a ++ b) := by
  apply ByteArray.ext
  rw [ByteArray.data_append]
  simp
theorem T_size (a : List UInt8) : (T a).size = a.length := rfl
theorem T_inj {a b : List UInt8} : T a = T b ↔ a = b := by
  constructor
  · intro h
    have := congrArg (fun s : ByteArray => s.data.toList) h
    simpa using this
  · rintro rfl; rfl
theorem T_ext (a : List UInt8) (i j : Nat) : (T a).extract i j = T ((a.take j).drop i) := by
  apply ByteArray.ext
  rw [ByteArray.data_extract]
  apply Array.ext'
  simp [List.drop_take]

theorem pr_rtB {α : Type} (x y : Int) (b : Bool) (c : BoundsCode) : pr P (runtimePanic (.bounds x y b c) : Sem α) = none := by
  unfold runtimePanic
  rw [pr_bind]
  cases pr P program with
  | none => rfl
  | some p => rfl
theorem pr_rt {α : Type} (m : String) : pr P (runtimePanic (.error m) : Sem α) = none := by
  unfold runtimePanic
  rw [pr_bind]
  cases pr P program with
  | none => rfl
  | some p => rfl
theorem pr_bounds {α : Type} (k : IntKind) (x y : Int) (c : BoundsCode) : pr P (boundsPanic k x y c : Sem α) = none := by
  unfold boundsPanic
  dsimp only
  rw [pr_ite]
  simp only [pr_bind]
  have : ∀ o : Option Bool, (o.bind fun s => pr P (runtimePanic (.bounds (IntKind.i64.wrap x) y s c) : Sem α)) = none := by
    intro o
    cases o with
    | none => rfl
    | some b => exact pr_rtB (P := P) (IntKind.i64.wrap x) y b c
  split
  · exact this _
  · exact this _
theorem pr_bound (k : IntKind) (x : Int) (top : Nat) (f : BoundsCode) : pr P (Instr.sliceBound (.int k x) top f) = if 0 ≤ x ∧ x ≤ top then some x.toNat else none := by
  unfold Instr.sliceBound
  simp only [asIntOf, pr_bind, pr_pure, Option.bind_some, pr_ite, pr_bounds]

/-- The byte at a place. -/
def byteAt (s : ByteArray) (i : Nat) : Nat := (s.data.toList.getD i 0).toNat
theorem byteAt_lt (s : ByteArray) (i : Nat) : byteAt s i < 256 := (s.data.toList.getD i 0).toNat_lt
section
variable {t : TypeId} (ht : P.underlying t = some .string) (s : ByteArray) (i lo hi : Int) (k k' : IntKind)
include ht
@[simp] theorem index_str : aindexV P t (.val (.string s)) (.val (.int k i)) = if 0 ≤ i ∧ i < s.size then some (.val (.int .u8 (byteAt s i.toNat))) else none := by
  have hu := pr_underlying (P := P) ht
  by_cases h0 : 0 ≤ i
  · by_cases h1 : i < s.size
    · have hlt : i.toNat < s.size := by omega
      have hg : s[i.toNat]? = some (s[i.toNat]'hlt) := getElem?_pos s i.toNat hlt
      have hb : byteAt s i.toNat = (s[i.toNat]'hlt).toNat := by
        have hl : i.toNat < s.data.toList.length := by simpa using hlt
        unfold byteAt
        rw [List.getD_eq_getElem?_getD, List.getElem?_eq_getElem hl]
        rfl
      rw [if_pos ⟨h0, h1⟩, hb]
      simp only [aindexV, conc, Instr.index, asIntOf, pr_bind, pr_pure, Option.bind_some, hu, if_pos h0, hg, Option.map_some, ofV, cellV]
    · rw [if_neg (by omega)]
      have hg : s[i.toNat]? = none := getElem?_neg s i.toNat (show ¬ i.toNat < s.size by omega)
      simp only [aindexV, conc, Instr.index, asIntOf, pr_bind, pr_pure, Option.bind_some, hu, if_pos h0, hg, pr_bounds, Option.map_none]
  · rw [if_neg (by omega)]
    simp only [aindexV, conc, Instr.index, asIntOf, pr_bind, pr_pure, Option.bind_some, hu, if_neg h0, pr_bounds, Option.map_none]
@[simp] theorem slice_from : asliceV P t (.val (.string s)) (some (.val (.int k lo))) none none = if 0 ≤ lo ∧ lo ≤ s.size then some (.val (.string (s.extract lo.toNat s.size))) else none := by
  have hu := pr_underlying (P := P) ht
  simp only [asliceV, conc, concO, Option.map_some, Option.bind_some, Instr.sliceAt, Instr.slice, Instr.sliceBounds, pr_bind, pr_pure, hu, Option.isSome_none, Bool.false_eq_true, if_false, pr_bound]
  by_cases h : 0 ≤ lo ∧ lo ≤ s.size
  · simp [h, ofV, cellV]
  · simp [h]
@[simp] theorem slice_to : asliceV P t (.val (.string s)) none (some (.val (.int k hi))) none = if 0 ≤ hi ∧ hi ≤ s.size then some (.val (.string (s.extract 0 hi.toNat))) else none := by
  have hu := pr_underlying (P := P) ht
  simp only [asliceV, conc, concO, Option.map_some, Option.bind_some, Instr.sliceAt, Instr.slice, Instr.sliceBounds, pr_bind, pr_pure, hu, Option.isSome_none, Bool.false_eq_true, if_false, pr_bound]
  by_cases h : 0 ≤ hi ∧ hi ≤ s.size
  · simp [h, ofV, cellV]
  · simp [h]
@[simp] theorem slice_both : asliceV P t (.val (.string s)) (some (.val (.int k lo))) (some (.val (.int k' hi))) none = if (0 ≤ hi ∧ hi ≤ s.size) ∧ 0 ≤ lo ∧ lo ≤ hi then some (.val (.string (s.extract lo.toNat hi.toNat))) else none := by
  have hu := pr_underlying (P := P) ht
  simp only [asliceV, conc, concO, Option.map_some, Option.bind_some, Instr.sliceAt, Instr.slice, Instr.sliceBounds, pr_bind, pr_pure, hu, Option.isSome_none, Bool.false_eq_true, if_false, pr_bound]
  by_cases h : 0 ≤ hi ∧ hi ≤ s.size
  · have e : max hi 0 = hi := by omega
    by_cases h2 : 0 ≤ lo ∧ lo ≤ hi
    · simp [h, e, h2, ofV, cellV]
    · have e2 : ¬ (0 ≤ lo ∧ lo ≤ (hi.toNat : Int)) := by omega
      have e3 : ¬ ((0 ≤ hi ∧ hi ≤ (s.size : Int)) ∧ 0 ≤ lo ∧ lo ≤ hi) := by omega
      rw [if_pos h, if_neg e3]
      simp only [Option.bind_some]
      rw [if_neg e2]
      rfl
  · simp [h]
end

/-! ### comparisons of strings -/
def strLt (x y : ByteArray) : Bool := Op.bytesLess x.toList y.toList
section
variable (t : TypeId) (ox oy : Operand) (x y : ByteArray)
@[simp] theorem bins_lss : abin P .lss t ox oy (.val (.string x)) (.val (.string y)) = some (.val (.bool (strLt x y))) := by simp [abin, conc, eqGuard, binOp, Op.stringOp, ofV, cellV, strLt]
@[simp] theorem bins_geq : abin P .geq t ox oy (.val (.string x)) (.val (.string y)) = some (.val (.bool (!strLt x y))) := by simp [abin, conc, eqGuard, binOp, Op.stringOp, ofV, cellV, strLt]
@[simp] theorem bins_leq : abin P .leq t ox oy (.val (.string x)) (.val (.string y)) = some (.val (.bool (strLt x y || decide (x = y)))) := by rw [← str_beq]; simp [abin, conc, eqGuard, binOp, Op.stringOp, ofV, cellV, strLt]
@[simp] theorem bins_gtr : abin P .gtr t ox oy (.val (.string x)) (.val (.string y)) = some (.val (.bool (!(strLt x y || decide (x = y))))) := by rw [← str_beq]; simp [abin, conc, eqGuard, binOp, Op.stringOp, ofV, cellV, strLt]
end

/-! ### numbers without a sign -/
def bAnd (k : IntKind) (a b : Int) : Int := k.wrap (BitVec.ofInt k.bits a &&& BitVec.ofInt k.bits b).toNat
def bOr (k : IntKind) (a b : Int) : Int := k.wrap (BitVec.ofInt k.bits a ||| BitVec.ofInt k.bits b).toNat
def bXor (k : IntKind) (a b : Int) : Int := k.wrap (BitVec.ofInt k.bits a ^^^ BitVec.ofInt k.bits b).toNat
theorem ofInt_nat {w : Nat} {a : Int} (h0 : 0 ≤ a) (h1 : a < (2 ^ w : Nat)) : (BitVec.ofInt w a).toNat = a.toNat := by
  rw [BitVec.toNat_ofInt, Int.emod_eq_of_lt h0 h1]
theorem wrap_lt {k : IntKind} (hk : k = .u8 ∨ k = .u32 ∨ k = .u64) {n : Nat} (h : n < 2 ^ k.bits) : k.wrap (n : Int) = n := by
  rcases hk with rfl | rfl | rfl <;> simp [IntKind.wrap, IntKind.bits, IntKind.signed] at h ⊢ <;> omega
section
variable {k : IntKind} {a b : Int} (hk : k = .u8 ∨ k = .u32 ∨ k = .u64) (ha0 : 0 ≤ a) (ha : a < (2 ^ k.bits : Nat)) (hb0 : 0 ≤ b) (hb : b < (2 ^ k.bits : Nat))
include hk ha0 ha hb0 hb
theorem bAnd_nat : bAnd k a b = ((a.toNat &&& b.toNat : Nat) : Int) := by
  unfold bAnd
  rw [BitVec.toNat_and, ofInt_nat ha0 ha, ofInt_nat hb0 hb]
  exact wrap_lt hk (Nat.and_lt_two_pow _ (by omega))
theorem bOr_nat : bOr k a b = ((a.toNat ||| b.toNat : Nat) : Int) := by
  unfold bOr
  rw [BitVec.toNat_or, ofInt_nat ha0 ha, ofInt_nat hb0 hb]
  exact wrap_lt hk (Nat.or_lt_two_pow (by omega) (by omega))
theorem bXor_nat : bXor k a b = ((a.toNat ^^^ b.toNat : Nat) : Int) := by
  unfold bXor
  rw [BitVec.toNat_xor, ofInt_nat ha0 ha, ofInt_nat hb0 hb]
  exact wrap_lt hk (Nat.xor_lt_two_pow (by omega) (by omega))
end
theorem and127 (n : Nat) : n &&& 127 = n % 128 := Nat.and_two_pow_sub_one_eq_mod n 7
theorem or_shl {a b i : Nat} (h : a < 2 ^ i) : a ||| b * 2 ^ i = a + b * 2 ^ i := by
  rw [Nat.or_comm, Nat.mul_comm, ← Nat.two_pow_add_eq_or_of_lt h, Nat.add_comm]
@[simp] theorem fdiv_nat (n k : Nat) : (n : Int).fdiv (no_index (@OfNat.ofNat Int k instOfNat)) = ((n / (@OfNat.ofNat Nat k (instOfNatNat k)) : Nat) : Int) := by
  show (n : Int).fdiv ((k : Nat) : Int) = ((n / k : Nat) : Int)
  rw [Int.fdiv_eq_ediv_of_nonneg _ (Int.natCast_nonneg _)]; rfl
section
variable (t : TypeId) (ox oy : Operand) (k k' : IntKind) (a b : Int)
@[simp] theorem bin_and : abin P .and t ox oy (.val (.int k a)) (.val (.int k b)) = some (.val (.int k (bAnd k a b))) := by simp [abin, conc, eqGuard, binOp, Op.intBits, ofV, cellV, bAnd]
@[simp] theorem bin_or : abin P .or t ox oy (.val (.int k a)) (.val (.int k b)) = some (.val (.int k (bOr k a b))) := by simp [abin, conc, eqGuard, binOp, Op.intBits, ofV, cellV, bOr]
@[simp] theorem bin_xor : abin P .xor t ox oy (.val (.int k a)) (.val (.int k b)) = some (.val (.int k (bXor k a b))) := by simp [abin, conc, eqGuard, binOp, Op.intBits, ofV, cellV, bXor]
@[simp] theorem bin_quo : abin P .quo t ox oy (.val (.int k a)) (.val (.int k b)) = if b = 0 then none else some (.val (.int k (k.wrap (a.tdiv b)))) := by
  simp only [abin, conc, eqGuard, binOp, Op.intDiv, pr_bind, pr_pure, Option.bind_some, pr_ite, pr_rt]
  by_cases h : b = 0 <;> simp [h, ofV, cellV]
@[simp] theorem bin_rem : abin P .rem t ox oy (.val (.int k a)) (.val (.int k b)) = if b = 0 then none else some (.val (.int k (a.tmod b))) := by
  simp only [abin, conc, eqGuard, binOp, Op.intDiv, pr_bind, pr_pure, Option.bind_some, pr_ite, pr_rt]
  by_cases h : b = 0 <;> simp [h, ofV, cellV]
@[simp] theorem bins_plus (x y : ByteArray) : abin P .add t ox oy (.val (.string x)) (.val (.string y)) = if x.size + y.size ≤ 9223372036854775807 then some (.val (.string (x ++ y))) else none := by
  by_cases h : x.size + y.size ≤ 9223372036854775807
  · rw [if_pos h]; exact bins_add t ox oy (by omega)
  · have h1 : ((9223372036854775807 : Int) < (x.size : Int) + (y.size : Int)) := by omega
    rw [if_neg h]
    simp [abin, conc, eqGuard, binOp, Op.stringOp, pr_ite, h1]
    rfl
@[simp] theorem tdiv_nat (n k : Nat) : (n : Int).tdiv (no_index (@OfNat.ofNat Int k instOfNat)) = ((n / (@OfNat.ofNat Nat k (instOfNatNat k)) : Nat) : Int) := by
  show (n : Int).tdiv ((k : Nat) : Int) = ((n / k : Nat) : Int)
  rfl
@[simp] theorem tmod_nat (n k : Nat) : (n : Int).tmod (no_index (@OfNat.ofNat Int k instOfNat)) = ((n % (@OfNat.ofNat Nat k (instOfNatNat k)) : Nat) : Int) := by
  show (n : Int).tmod ((k : Nat) : Int) = ((n % k : Nat) : Int)
  rfl
@[simp] theorem bin_shl : abin P .shl t ox oy (.val (.int k a)) (.val (.int k' b)) = if b < 0 then none else some (.val (.int k (k.wrap (a * 2 ^ min b.toNat k.bits)))) := by
  simp only [abin, conc, eqGuard, binOp, Op.shift, pr_bind, pr_pure, Option.bind_some, pr_ite, pr_rt]
  by_cases h : b < 0 <;> simp [h, ofV, cellV]
@[simp] theorem bin_shr : abin P .shr t ox oy (.val (.int k a)) (.val (.int k' b)) = if b < 0 then none else some (.val (.int k (a.fdiv (2 ^ min b.toNat k.bits)))) := by
  simp only [abin, conc, eqGuard, binOp, Op.shift, pr_bind, pr_pure, Option.bind_some, pr_ite, pr_rt]
  by_cases h : b < 0 <;> simp [h, ofV, cellV]
end
section
variable {src dst : TypeId} {k' : IntKind} (hs : (P.underlying src).isSome = true) (hd : P.underlying dst = some (.int k')) (k : IntKind) (a : Int)
include hs hd
@[simp] theorem conv_int : aconv P src dst (.val (.int k a)) = some (.val (.int k' (k'.wrap a))) := by
  obtain ⟨u, hs⟩ := Option.isSome_iff_exists.1 hs
  simp only [aconv, conc, convert, pr_bind, pr_underlying hs, pr_underlying hd, Option.bind_some, Conv.intToInt, pr_pure, Option.map_some, ofV, cellV]
end
@[simp] theorem wrap_u8 (a : Int) : IntKind.u8.wrap a = a % 256 := by
  simp [IntKind.wrap, IntKind.bits, IntKind.signed]
@[simp] theorem wrap_u64 (a : Int) : IntKind.u64.wrap a = a % 18446744073709551616 := by
  simp [IntKind.wrap, IntKind.bits, IntKind.signed]
@[simp] theorem wrap_u32 (a : Int) : IntKind.u32.wrap a = a % 4294967296 := by
  simp [IntKind.wrap, IntKind.bits, IntKind.signed]
@[simp] theorem wrap_l0 : IntKind.i64.wrap 0 = 0 := by decide
@[simp] theorem wrap_l1 : IntKind.i64.wrap 1 = 1 := by decide
@[simp] theorem wrap_l2 : IntKind.i64.wrap 2 = 2 := by decide
@[simp] theorem wrap_l3 : IntKind.i64.wrap 3 = 3 := by decide
@[simp] theorem wrap_l4 : IntKind.i64.wrap 4 = 4 := by decide
@[simp] theorem wrap_l5 : IntKind.i64.wrap 5 = 5 := by decide
@[simp] theorem wrap_l6 : IntKind.i64.wrap 6 = 6 := by decide
@[simp] theorem wrap_l7 : IntKind.i64.wrap 7 = 7 := by decide
@[simp] theorem wrap_l8 : IntKind.i64.wrap 8 = 8 := by decide
@[simp] theorem wrap_l9 : IntKind.i64.wrap 9 = 9 := by decide
@[simp] theorem wrap_l10 : IntKind.i64.wrap 10 = 10 := by decide
@[simp] theorem wrap_l11 : IntKind.i64.wrap 11 = 11 := by decide
@[simp] theorem wrap_l12 : IntKind.i64.wrap 12 = 12 := by decide
@[simp] theorem wrap_l13 : IntKind.i64.wrap 13 = 13 := by decide
@[simp] theorem wrap_l14 : IntKind.i64.wrap 14 = 14 := by decide
@[simp] theorem wrap_l15 : IntKind.i64.wrap 15 = 15 := by decide
@[simp] theorem wrap_l16 : IntKind.i64.wrap 16 = 16 := by decide
@[simp] theorem wrap_l17 : IntKind.i64.wrap 17 = 17 := by decide
@[simp] theorem wrap_l18 : IntKind.i64.wrap 18 = 18 := by decide
@[simp] theorem wrap_l19 : IntKind.i64.wrap 19 = 19 := by decide
@[simp] theorem wrap_l20 : IntKind.i64.wrap 20 = 20 := by decide
@[simp] theorem wrap_l21 : IntKind.i64.wrap 21 = 21 := by decide
@[simp] theorem wrap_l22 : IntKind.i64.wrap 22 = 22 := by decide
@[simp] theorem wrap_l23 : IntKind.i64.wrap 23 = 23 := by decide
@[simp] theorem wrap_l24 : IntKind.i64.wrap 24 = 24 := by decide
@[simp] theorem wrap_l25 : IntKind.i64.wrap 25 = 25 := by decide
@[simp] theorem wrap_l26 : IntKind.i64.wrap 26 = 26 := by decide
@[simp] theorem wrap_l27 : IntKind.i64.wrap 27 = 27 := by decide
@[simp] theorem wrap_l28 : IntKind.i64.wrap 28 = 28 := by decide
@[simp] theorem wrap_l29 : IntKind.i64.wrap 29 = 29 := by decide
@[simp] theorem wrap_l30 : IntKind.i64.wrap 30 = 30 := by decide
@[simp] theorem wrap_l31 : IntKind.i64.wrap 31 = 31 := by decide
@[simp] theorem wrap_l32 : IntKind.i64.wrap 32 = 32 := by decide
@[simp] theorem wrap_l33 : IntKind.i64.wrap 33 = 33 := by decide
@[simp] theorem wrap_l34 : IntKind.i64.wrap 34 = 34 := by decide
@[simp] theorem wrap_l35 : IntKind.i64.wrap 35 = 35 := by decide
@[simp] theorem wrap_l36 : IntKind.i64.wrap 36 = 36 := by decide
@[simp] theorem wrap_l37 : IntKind.i64.wrap 37 = 37 := by decide
@[simp] theorem wrap_l38 : IntKind.i64.wrap 38 = 38 := by decide
@[simp] theorem wrap_l39 : IntKind.i64.wrap 39 = 39 := by decide
@[simp] theorem wrap_l40 : IntKind.i64.wrap 40 = 40 := by decide
@[simp] theorem wrap_lm1 : IntKind.i64.wrap (-1) = -1 := by decide
@[simp] theorem bits_u64 : IntKind.u64.bits = 64 := rfl
@[simp] theorem bits_u32 : IntKind.u32.bits = 32 := rfl
@[simp] theorem bits_u8 : IntKind.u8.bits = 8 := rfl
@[simp] theorem bits_i64 : IntKind.i64.bits = 64 := rfl
@[simp] theorem cast_eq_lit (n k : Nat) : ((n : Int) = (no_index (@OfNat.ofNat Int k instOfNat))) = (n = @OfNat.ofNat Nat k (instOfNatNat k)) := propext Int.ofNat_inj
@[simp] theorem lit_eq_cast (n k : Nat) : ((no_index (@OfNat.ofNat Int k instOfNat)) = (n : Int)) = (@OfNat.ofNat Nat k (instOfNatNat k) = n) := propext Int.ofNat_inj
end Go.Cx

set_option linter.unusedVariables false
set_option linter.unusedSimpArgs false
namespace Go.Cx
variable {P : Program}

/-- A contract that hands back a plain value, and lets all stand that lay there. -/
theorem PCall.ofCalls {f : FuncId} {args : List AV} {c : Value} (ha : args.all neat = true) (hc : plain c = true) (he : Ent P f)
    (h : ∀ (Z : Nat → Prop) (w : World) (cargs : List Value), (∀ b, Z b → b < w.heap.size) → Rs Z w (fun _ => .hole) args cargs → Calls P f cargs.toArray w fun e w' => e = .returned c ∧ RowKit.Below w.heap.size w w') : PCall P f args (.val c) := by
  refine ⟨ha, by simp, he, fun Z κ w cargs r hr => ?_⟩
  have hr' : Rs Z w (fun _ => .hole) args cargs := hr.noRef_any fun a h1 => noRef_of_neat a (List.all_eq_true.1 ha a h1)
  refine (h Z w cargs r.zlt hr').mono ?_
  rintro e w' ⟨rfl, b⟩
  have ex : Ext Z κ w Z κ w' := ⟨b.os, b.tape, b.output, b.size, fun k hk _ => b.block k hk, fun _ h => h, fun _ h => .inl h, fun _ h => .inl h⟩
  refine ⟨.val c, [], Z, κ, c, ⟨rfl, rfl⟩, rfl, ⟨fun b hb => Nat.lt_of_lt_of_le (r.zlt b hb) ex.size, r.za, r.hole, fun id x hx => by simp at hx, r.inj⟩, .val hc, ex, .refl _ _⟩

theorem R.sl_inv {Z : Nat → Prop} {w : World} {κ : Nat → Slot} {t : Bool} {n : Nat} {cs : List AV} {c : Value} (h : R Z w κ (.sl t n cs) c) :
    (n = 0 ∧ cs = [] ∧ ∃ A cap, c = .slice A 0 cap) ∨ (0 < n ∧ ∃ a cap us, c = .slice (some a) n cap ∧ n ≤ cap ∧ cap ≤ maxLen ∧ Z a.block ∧ CellsAt w a us ∧ Rs Z w κ cs us) := by
  cases h with
  | sl0 q1 q2 => exact .inl ⟨rfl, rfl, _, _, rfl⟩
  | sl q0 q1 q2 q3 q4 q5 q6 => exact .inr ⟨q0, _, _, _, rfl, q1, q3, q4, q5, q6⟩
theorem cell_spot {w : World} {A : Addr} {v : Value} (h : w.cell? A = some v) : A.spot = none := by
  unfold World.cell? at h
  split at h
  · split at h
    · cases h
    · rename_i hs; simpa using hs
  · cases h
end Go.Cx

set_option linter.unusedVariables false
set_option linter.unusedSimpArgs false
namespace Go.Cx
variable {P : Program} {Z : Nat → Prop} {κ : Nat → Slot} {h : AHeap} {w : World}

def ren (ρ : Nat → Nat) : AV → AV
  | .val v => .val v
  | .any => .any
  | .agg cs => .agg (cs.attach.map fun ⟨c, _⟩ => ren ρ c)
  | .tup cs => .tup (cs.attach.map fun ⟨c, _⟩ => ren ρ c)
  | .sl t n cs => .sl t n (cs.attach.map fun ⟨c, _⟩ => ren ρ c)
  | .fp cs => .fp (cs.attach.map fun ⟨c, _⟩ => ren ρ c)
  | .fn f cs => .fn f (cs.attach.map fun ⟨c, _⟩ => ren ρ c)
  | .fmap ks vs => .fmap (ks.attach.map fun ⟨c, _⟩ => ren ρ c) (vs.attach.map fun ⟨c, _⟩ => ren ρ c)
  | .own id ver off n k => .own (ρ id) ver off n k
  | .ptr id ver off => .ptr (ρ id) ver off
  | .mp id => .mp (ρ id)
theorem map_attach {α β : Type} (l : List α) (f : α → β) : (l.attach.map fun ⟨c, _⟩ => f c) = l.map f := by
  have : (l.attach.map fun x => f x.1) = (l.attach.map (·.1)).map f := by rw [List.map_map]; rfl
  rw [this, List.attach_map_subtype_val]
section
variable (ρ : Nat → Nat)
@[simp] theorem ren_val (v : Value) : ren ρ (.val v) = .val v := by rw [ren]
@[simp] theorem ren_any : ren ρ .any = .any := by rw [ren]
@[simp] theorem ren_agg (cs : List AV) : ren ρ (.agg cs) = .agg (cs.map (ren ρ)) := by rw [ren, map_attach]
@[simp] theorem ren_tup (cs : List AV) : ren ρ (.tup cs) = .tup (cs.map (ren ρ)) := by rw [ren, map_attach]
@[simp] theorem ren_sl (t : Bool) (n : Nat) (cs : List AV) : ren ρ (.sl t n cs) = .sl t n (cs.map (ren ρ)) := by rw [ren, map_attach]
@[simp] theorem ren_fp (cs : List AV) : ren ρ (.fp cs) = .fp (cs.map (ren ρ)) := by rw [ren, map_attach]
@[simp] theorem ren_fn (f : FuncId) (cs : List AV) : ren ρ (.fn f cs) = .fn f (cs.map (ren ρ)) := by rw [ren, map_attach]
@[simp] theorem ren_fmap (ks vs : List AV) : ren ρ (.fmap ks vs) = .fmap (ks.map (ren ρ)) (vs.map (ren ρ)) := by rw [ren, map_attach, map_attach]
@[simp] theorem ren_own (id ver off n k : Nat) : ren ρ (.own id ver off n k) = .own (ρ id) ver off n k := by rw [ren]
@[simp] theorem ren_ptr (id ver off : Nat) : ren ρ (.ptr id ver off) = .ptr (ρ id) ver off := by rw [ren]
@[simp] theorem ren_mp (id : Nat) : ren ρ (.mp id) = .mp (ρ id) := by rw [ren]
mutual
theorem ren_neat1 : ∀ a : AV, neat a = true → ren ρ a = a
  | .val _, _ => by simp
  | .any, _ => by simp
  | .agg cs, h => by rw [neat_agg] at h; rw [ren_agg, ren_neats1 cs h]
  | .tup cs, h => by rw [neat_tup] at h; rw [ren_tup, ren_neats1 cs h]
  | .sl t n cs, h => by rw [neat_sl, Bool.and_eq_true] at h; rw [ren_sl, ren_neats1 cs h.2]
  | .fp cs, h => by rw [neat_fp] at h; rw [ren_fp, ren_neats1 cs h]
  | .fn f cs, h => by rw [neat_fn] at h; rw [ren_fn, ren_neats1 cs h]
  | .fmap ks vs, h => by rw [neat_fmap, Bool.and_eq_true] at h; rw [ren_fmap, ren_neats1 ks h.1, ren_neats1 vs h.2]
  | .own .., h => by simp at h
  | .ptr .., h => by simp at h
  | .mp .., h => by simp at h
theorem ren_neats1 : ∀ cs : List AV, cs.all neat = true → cs.map (ren ρ) = cs
  | [], _ => rfl
  | a :: cs, h => by
    rw [List.all_cons, Bool.and_eq_true] at h
    rw [List.map_cons, ren_neat1 a h.1, ren_neats1 cs h.2]
end
end
@[simp] theorem ren_neat {ρ : Nat → Nat} {a : AV} (h : neat a = true) : ren ρ a = a := ren_neat1 ρ a h
@[simp] theorem ren_neats {ρ : Nat → Nat} {cs : List AV} (h : cs.all neat = true) : cs.map (ren ρ) = cs := ren_neats1 ρ cs h
@[simp] theorem refsLt_val (L : Nat) (v : Value) : refsLt L (.val v) = true := by rw [refsLt]
@[simp] theorem refsLt_any (L : Nat) : refsLt L .any = true := by rw [refsLt]
@[simp] theorem refsLt_tup (L : Nat) (cs : List AV) : refsLt L (.tup cs) = cs.all (refsLt L) := by rw [refsLt, all_attach]
@[simp] theorem refsLt_fp (L : Nat) (cs : List AV) : refsLt L (.fp cs) = cs.all (refsLt L) := by rw [refsLt, all_attach]
@[simp] theorem refsLt_fmap (L : Nat) (ks vs : List AV) : refsLt L (.fmap ks vs) = (ks.all (refsLt L) && vs.all (refsLt L)) := by rw [refsLt, all_attach, all_attach]

theorem refOk_of {κ κ' : Nat → Slot} {id id' ver : Nat} {p : Option Nat → Nat → Prop} (hk : κ' id' = κ id) (h : refOk κ id ver p) : refOk κ' id' ver p := by
  unfold refOk at *; rw [hk]; exact h

mutual
/-- What is told by small numbers is told by great ones. -/
theorem R.ren {κ0 : Nat → Slot} {ρ : Nat → Nat} {k : Nat} (hk : ∀ i, i < k → κ (ρ i) = κ0 i) {a : AV} {v : Value} (hr : R Z w κ0 a v) (hl : refsLt k a = true) : R Z w κ (Cx.ren ρ a) v := by
  cases hr with
  | val h => rw [ren_val]; exact .val h
  | any => rw [ren_any]; exact .any
  | agg h => rw [ren_agg]; exact .agg (h.ren hk (by simpa using hl))
  | tup h => rw [ren_tup]; exact .tup (h.ren hk (by simpa using hl))
  | sl0 h1 h2 => rw [ren_sl]; exact .sl0 h1 h2
  | sl h0 h1 h2 h3 h4 h5 h6 => rw [ren_sl]; exact .sl h0 h1 h2 h3 h4 h5 (h6.ren hk (by simpa using hl))
  | fp h1 h2 h3 => rw [ren_fp]; exact .fp h1 h2 (h3.ren hk (by simpa using hl))
  | fn h => rw [ren_fn]; exact .fn (h.ren hk (by simpa using hl))
  | fmap h1 h2 h3 h4 h5 h6 =>
    rw [refsLt_fmap, Bool.and_eq_true] at hl
    rw [ren_fmap]
    exact .fmap h1 h2 h3 h4 (h5.ren hk hl.1) (h6.ren hk hl.2)
  | own h0 h1 hA h2 => rw [ren_own]; rw [refsLt_own, decide_eq_true_eq] at hl; exact .own h0 h1 hA (refOk_of (hk _ hl) h2)
  | ptr h2 => rw [ren_ptr]; rw [refsLt_ptr, decide_eq_true_eq] at hl; exact .ptr (refOk_of (hk _ hl) h2)
  | mp h2 => rw [ren_mp]; rw [refsLt_mp, decide_eq_true_eq] at hl; exact .mp (refOk_of (hk _ hl) h2)
theorem Rs.ren {κ0 : Nat → Slot} {ρ : Nat → Nat} {k : Nat} (hk : ∀ i, i < k → κ (ρ i) = κ0 i) {as : List AV} {vs : List Value} (hr : Rs Z w κ0 as vs) (hl : as.all (refsLt k) = true) : Rs Z w κ (as.map (Cx.ren ρ)) vs := by
  cases hr with
  | nil => exact .nil
  | cons h1 h2 => rw [List.all_cons, Bool.and_eq_true] at hl; exact .cons (h1.ren hk hl.1) (h2.ren hk hl.2)
end
mutual
/-- And the other way. -/
theorem R.unren {κ0 : Nat → Slot} {ρ : Nat → Nat} {k : Nat} (hk : ∀ i, i < k → κ0 i = κ (ρ i)) : ∀ (a : AV) {v : Value}, R Z w κ (Cx.ren ρ a) v → refsLt k a = true → R Z w κ0 a v
  | .val u, v, hr, hl => by rw [ren_val] at hr; cases hr with | val h => exact .val h
  | .any, v, hr, hl => .any
  | .agg cs, v, hr, hl => by rw [ren_agg] at hr; cases hr with | agg h => exact .agg (Rs.unren hk cs h (by simpa using hl))
  | .tup cs, v, hr, hl => by rw [ren_tup] at hr; cases hr with | tup h => exact .tup (Rs.unren hk cs h (by simpa using hl))
  | .sl t n cs, v, hr, hl => by
    rw [ren_sl] at hr
    generalize hcs : cs.map (Cx.ren ρ) = ds at hr
    cases hr with
    | sl0 h1 h2 =>
      have : cs = [] := by cases cs <;> simp at hcs; rfl
      subst this
      exact .sl0 h1 h2
    | sl h0 h1 h2 h3 h4 h5 h6 => subst hcs; exact .sl h0 h1 h2 h3 h4 h5 (Rs.unren hk cs h6 (by simpa using hl))
  | .fp cs, v, hr, hl => by rw [ren_fp] at hr; cases hr with | fp h1 h2 h3 => exact .fp h1 h2 (Rs.unren hk cs h3 (by simpa using hl))
  | .fn f cs, v, hr, hl => by rw [ren_fn] at hr; cases hr with | fn h => exact .fn (Rs.unren hk cs h (by simpa using hl))
  | .fmap ks vs, v, hr, hl => by
    rw [ren_fmap] at hr
    rw [refsLt_fmap, Bool.and_eq_true] at hl
    cases hr with | fmap h1 h2 h3 h4 h5 h6 => exact .fmap h1 h2 h3 h4 (Rs.unren hk ks h5 hl.1) (Rs.unren hk vs h6 hl.2)
  | .own id ver off n m, v, hr, hl => by
    rw [ren_own] at hr; rw [refsLt_own, decide_eq_true_eq] at hl
    cases hr with | own h0 h1 hA h2 => exact .own h0 h1 hA (refOk_of (hk _ hl) h2)
  | .ptr id ver off, v, hr, hl => by
    rw [ren_ptr] at hr; rw [refsLt_ptr, decide_eq_true_eq] at hl
    cases hr with | ptr h2 => exact .ptr (refOk_of (hk _ hl) h2)
  | .mp id, v, hr, hl => by
    rw [ren_mp] at hr; rw [refsLt_mp, decide_eq_true_eq] at hl
    cases hr with | mp h2 => exact .mp (refOk_of (hk _ hl) h2)
theorem Rs.unren {κ0 : Nat → Slot} {ρ : Nat → Nat} {k : Nat} (hk : ∀ i, i < k → κ0 i = κ (ρ i)) : ∀ (as : List AV) {vs : List Value}, Rs Z w κ (as.map (Cx.ren ρ)) vs → as.all (refsLt k) = true → Rs Z w κ0 as vs
  | [], _, hr, _ => by cases hr; exact .nil
  | a :: as, _, hr, hl => by
    rw [List.all_cons, Bool.and_eq_true] at hl
    cases hr with
    | cons h1 h2 => exact .cons (R.unren hk a h1 hl.1) (Rs.unren hk as h2 hl.2)
end

def renB (ρ : Nat → Nat) : ABlk → ABlk
  | .dead => .dead
  | .cells ver cs => .cells ver (cs.map (ren ρ))
  | .full ver cs => .full ver (cs.map (ren ρ))
  | .typed E ver cs => .typed E ver (cs.map (ren ρ))
  | .map ks vs => .map (ks.map (ren ρ)) (vs.map (ren ρ))
  | .iter ks vs todo cur => .iter (ks.map (ren ρ)) (vs.map (ren ρ)) todo cur
theorem blkOk_ren {κ0 : Nat → Slot} {ρ : Nat → Nat} {k i : Nat} (hi : i < k) (hk : ∀ i, i < k → κ (ρ i) = κ0 i) {x : ABlk} (hx : blkOk Z w κ0 i x) (hl : x.refsLt k = true) : blkOk Z w κ (ρ i) (renB ρ x) := by
  cases x with
  | dead => simp only [blkOk, renB] at *; rw [hk i hi]; exact hx
  | cells ver cs =>
    obtain ⟨ob, sz, h1, h2⟩ := hx
    refine ⟨ob, sz, (hk i hi).trans h1, ?_⟩
    cases ob with
    | none => subst h2; rfl
    | some b =>
      obtain ⟨c, E, us, h3, h4, h5, h6, h7⟩ := h2
      exact ⟨c, E, us, h3, h4, h5, h6, h7.ren hk hl⟩
  | full ver cs =>
    obtain ⟨b, c, E, h1, h2, h3, h4⟩ := hx
    exact ⟨b, c, E, (hk i hi).trans h1, h2, h3.ren hk hl, h4⟩
  | typed E ver cs =>
    obtain ⟨ob, sz, h1, h2⟩ := hx
    refine ⟨ob, sz, (hk i hi).trans h1, ?_⟩
    cases ob with
    | none => subst h2; rfl
    | some b =>
      obtain ⟨c, us, h3, h4, h5, h6, h7⟩ := h2
      exact ⟨c, us, h3, h4, h5, h6, h7.ren hk hl⟩
  | map ks vs =>
    obtain ⟨b, es, cl, h1, h2, h3, h4⟩ := hx
    simp only [ABlk.refsLt, Bool.and_eq_true] at hl
    exact ⟨b, es, cl, (hk i hi).trans h1, h2, h3.ren hk hl.1, h4.ren hk hl.2⟩
  | iter ks vs todo cur =>
    obtain ⟨b, mb, es, cl, sn, la, h1, h2, h3, h4, h5, h6, h7⟩ := hx
    simp only [ABlk.refsLt, Bool.and_eq_true] at hl
    exact ⟨b, mb, es, cl, sn, la, (hk i hi).trans h1, h2, h3, h4, h5.ren hk hl.1, h6.ren hk hl.2, h7⟩
theorem blkOk_unren {κ0 : Nat → Slot} {ρ : Nat → Nat} {k i : Nat} (hi : i < k) (hk : ∀ i, i < k → κ0 i = κ (ρ i)) {x : ABlk} (hx : blkOk Z w κ (ρ i) (renB ρ x)) (hl : x.refsLt k = true) : blkOk Z w κ0 i x := by
  cases x with
  | dead => simp only [blkOk, renB] at *; rw [hk i hi]; exact hx
  | cells ver cs =>
    obtain ⟨ob, sz, h1, h2⟩ := hx
    refine ⟨ob, sz, (hk i hi).trans h1, ?_⟩
    cases ob with
    | none => cases cs <;> simp at h2; rfl
    | some b =>
      obtain ⟨c, E, us, h3, h4, h5, h6, h7⟩ := h2
      exact ⟨c, E, us, h3, h4, h5, h6, Rs.unren hk cs h7 hl⟩
  | full ver cs =>
    obtain ⟨b, c, E, h1, h2, h3, h4⟩ := hx
    exact ⟨b, c, E, (hk i hi).trans h1, h2, Rs.unren hk cs h3 hl, h4⟩
  | typed E ver cs =>
    obtain ⟨ob, sz, h1, h2⟩ := hx
    refine ⟨ob, sz, (hk i hi).trans h1, ?_⟩
    cases ob with
    | none => cases cs <;> simp at h2; rfl
    | some b =>
      obtain ⟨c, us, h3, h4, h5, h6, h7⟩ := h2
      exact ⟨c, us, h3, h4, h5, h6, Rs.unren hk cs h7 hl⟩
  | map ks vs =>
    obtain ⟨b, es, cl, h1, h2, h3, h4⟩ := hx
    simp only [ABlk.refsLt, Bool.and_eq_true] at hl
    exact ⟨b, es, cl, (hk i hi).trans h1, h2, Rs.unren hk ks h3 hl.1, Rs.unren hk vs h4 hl.2⟩
  | iter ks vs todo cur =>
    obtain ⟨b, mb, es, cl, sn, la, h1, h2, h3, h4, h5, h6, h7⟩ := hx
    simp only [ABlk.refsLt, Bool.and_eq_true] at hl
    exact ⟨b, mb, es, cl, sn, la, (hk i hi).trans h1, h2, h3, h4, Rs.unren hk ks h5 hl.1, Rs.unren hk vs h6 hl.2, h7⟩

/-- A call over a small heap: what it hands back, and what becomes of the heap. -/
structure HCall (P : Program) (f : FuncId) (args : List AV) (h0 : AHeap) (v : AV) (h1 : AHeap) : Prop where
  hargs : args.all (refsLt h0.length) = true
  heap : h0.all (ABlk.refsLt h0.length) = true
  val : refsLt h0.length v = true
  len : h1.length = h0.length
  heap1 : h1.all (ABlk.refsLt h0.length) = true
  call : ACall P f args h0 (fun v' h' => v' = v ∧ h' = h1)

/-- The blocks are laid at their numbers. -/
def lay (ρ : Nat → Nat) : Nat → AHeap → AHeap → AHeap
  | _, [], h => h
  | i, x :: xs, h => lay ρ (i + 1) xs (h.set (ρ i) (renB ρ x))
theorem lay_len (ρ : Nat → Nat) : ∀ (xs : AHeap) (i : Nat) (h : AHeap), (lay ρ i xs h).length = h.length
  | [], _, _ => rfl
  | x :: xs, i, h => by rw [lay, lay_len ρ xs]; simp
theorem lay_out (ρ : Nat → Nat) : ∀ (xs : AHeap) (i : Nat) (h : AHeap) (j : Nat), (∀ m, m < xs.length → ρ (i + m) ≠ j) → (lay ρ i xs h)[j]? = h[j]?
  | [], _, _, _, _ => rfl
  | x :: xs, i, h, j, hj => by
    rw [lay, lay_out ρ xs (i + 1) _ j fun m hm => by have := hj (m + 1) (by simpa using hm); rwa [show i + (m + 1) = i + 1 + m by omega] at this]
    rw [List.getElem?_set_ne]
    have := hj 0 (by simp)
    simpa using this
theorem lay_in (ρ : Nat → Nat) : ∀ (xs : AHeap) (i : Nat) (h : AHeap) (m : Nat), m < xs.length → (∀ a b, a < xs.length → b < xs.length → ρ (i + a) = ρ (i + b) → a = b) → (∀ a, a < xs.length → ρ (i + a) < h.length) → (lay ρ i xs h)[ρ (i + m)]? = xs[m]?.map (renB ρ)
  | [], _, _, m, hm, _, _ => by simp at hm
  | x :: xs, i, h, 0, hm, hinj, hlt => by
    rw [lay, lay_out ρ xs (i + 1) _ _ fun a ha => fun e => by
      have := hinj (a + 1) 0 (by simpa using ha) (by simp) (by rw [show i + (a + 1) = i + 1 + a by omega]; simpa using e)
      omega]
    have hl := hlt 0 (by simp)
    rw [Nat.add_zero] at hl ⊢
    rw [List.getElem?_set_self hl]; rfl
  | x :: xs, i, h, m + 1, hm, hinj, hlt => by
    rw [lay]
    have := lay_in ρ xs (i + 1) (h.set (ρ i) (renB ρ x)) m (by simpa using hm)
      (fun a b ha hb e => by
        have := hinj (a + 1) (b + 1) (by simpa using ha) (by simpa using hb) (by rw [show i + (a + 1) = i + 1 + a by omega, show i + (b + 1) = i + 1 + b by omega]; exact e)
        omega)
      (fun a ha => by
        have := hlt (a + 1) (by simpa using ha)
        rw [show i + (a + 1) = i + 1 + a by omega] at this
        simpa using this)
    rw [show i + (m + 1) = i + 1 + m by omega]
    simpa using this

theorem ACall.reloc {f : FuncId} {args : List AV} {h0 h1 : AHeap} {v : AV} (hc : HCall P f args h0 v h1) (ρ : Nat → Nat) (hinj : ∀ i j, i < h0.length → j < h0.length → ρ i = ρ j → i = j)
    (hlt : ∀ i, i < h0.length → ρ i < h.length) (hb : ∀ i x, h0[i]? = some x → h[ρ i]? = some (renB ρ x)) : ACall P f (args.map (ren ρ)) h (fun v' h' => v' = ren ρ v ∧ h' = lay ρ 0 h1 h) := by
  obtain ⟨ha, hh, hv, hlen, hh1, he, hcall⟩ := hc
  refine ⟨he, fun Z κ w cargs r hr => ?_⟩
  let κ0 : Nat → Slot := fun i => if i < h0.length then κ (ρ i) else .hole
  have hk0 : ∀ i, i < h0.length → κ0 i = κ (ρ i) := fun i hi => by simp [κ0, hi]
  have hal : ∀ b, alive κ0 b → ∃ i ver sz, i < h0.length ∧ κ (ρ i) = .live ver (some b) sz := by
    rintro b ⟨i, ver, sz, hk⟩
    by_cases hi : i < h0.length
    · exact ⟨i, ver, sz, hi, by rw [← hk0 i hi]; exact hk⟩
    · simp [κ0, hi] at hk
  have hal' : ∀ b, alive κ0 b → alive κ b := fun b hb => by obtain ⟨i, ver, sz, _, hk⟩ := hal b hb; exact ⟨_, ver, sz, hk⟩
  have r0 : Rel Z κ0 h0 w := by
    refine ⟨r.zlt, fun b hz hb => r.za b hz (hal' b hb), fun i hi => by simp [κ0, Nat.not_lt.2 hi], fun i x hx => ?_, ?_⟩
    · have hi := (List.getElem?_eq_some_iff.1 hx).1
      exact blkOk_unren hi hk0 (r.blk _ _ (hb i x hx)) (List.all_eq_true.1 hh x (List.mem_of_getElem? hx))
    · intro i j ver ver' b sz sz' h1 h2
      by_cases hi : i < h0.length
      · by_cases hj : j < h0.length
        · rw [hk0 i hi] at h1; rw [hk0 j hj] at h2
          exact hinj i j hi hj (r.inj _ _ _ _ _ _ _ h1 h2)
        · simp [κ0, hj] at h2
      · simp [κ0, hi] at h1
  refine (hcall Z κ0 w cargs r0 (Rs.unren hk0 args hr ha)).mono ?_
  rintro e w' ⟨v', h', Z', κ0', c, ⟨rfl, rfl⟩, rfl, r', hv', ex, st⟩
  have img : ∀ id, (∃ i, i < h0.length ∧ ρ i = id) ∨ ¬ (∃ i, i < h0.length ∧ ρ i = id) := fun id => Classical.em _
  let κ' : Nat → Slot := fun id => if hx : ∃ i, i < h0.length ∧ ρ i = id then κ0' (Classical.choose hx) else κ id
  have hin : ∀ i, i < h0.length → κ' (ρ i) = κ0' i := by
    intro i hi
    have hx : ∃ j, j < h0.length ∧ ρ j = ρ i := ⟨i, hi, rfl⟩
    have hs := Classical.choose_spec hx
    have : Classical.choose hx = i := hinj _ _ hs.1 hi hs.2
    simp only [κ', dif_pos hx, this]
  have hout : ∀ id, ¬ (∃ i, i < h0.length ∧ ρ i = id) → κ' id = κ id := fun id hx => by simp only [κ', dif_neg hx]
  have hal2 : ∀ b, alive κ' b → alive κ0' b ∨ ∃ id ver sz, ¬ (∃ i, i < h0.length ∧ ρ i = id) ∧ κ id = .live ver (some b) sz := by
    rintro b ⟨id, ver, sz, hk⟩
    rcases img id with ⟨i, hi, rfl⟩ | hx
    · rw [hin i hi] at hk; exact .inl ⟨i, ver, sz, hk⟩
    · rw [hout id hx] at hk; exact .inr ⟨id, ver, sz, hx, hk⟩
  have E : Ext Z κ w Z' κ' w' := by
    refine ⟨ex.os, ex.tape, ex.output, ex.size, fun b hbl hn => ex.keep b hbl (fun ha => hn (hal' b ha)), ex.zin, fun b hz => ?_, fun b ha => ?_⟩
    · rcases ex.znew b hz with h1 | h1 | h1
      · exact .inl h1
      · exact .inr (.inl (hal' b h1))
      · exact .inr (.inr h1)
    · rcases hal2 b ha with h1 | ⟨id, ver, sz, _, h1⟩
      · rcases ex.anew b h1 with h2 | h2
        · exact .inl (hal' b h2)
        · exact .inr h2
      · exact .inl ⟨id, ver, sz, h1⟩
  have S : StepAll κ κ' := by
    intro id
    rcases img id with ⟨i, hi, rfl⟩ | hx
    · right; rw [hin i hi, ← hk0 i hi]; exact st i hi
    · right; rw [hout id hx]; exact Slot.step_refl _
  have apart : ∀ b id ver sz, ¬ (∃ i, i < h0.length ∧ ρ i = id) → κ id = .live ver (some b) sz → ¬ alive κ0 b := by
    intro b id ver sz hx hk ha
    obtain ⟨i, ver', sz', hi, hk'⟩ := hal b ha
    exact hx ⟨i, hi, r.inj _ _ _ _ _ _ _ hk' hk⟩
  have r2 : Rel Z' κ' (lay ρ 0 h' h) w' := by
    refine ⟨r'.zlt, fun b hz ha => ?_, fun id hid => ?_, fun id x hx => ?_, ?_⟩
    · rcases hal2 b ha with h1 | ⟨id, ver, sz, hx, hk⟩
      · exact r'.za b hz h1
      · rcases ex.znew b hz with h1 | h1 | h1
        · exact r.za b h1 ⟨id, ver, sz, hk⟩
        · exact apart b id ver sz hx hk h1
        · have := alive_lt r ⟨id, ver, sz, hk⟩; omega
    · rw [lay_len] at hid
      have hx : ¬ (∃ i, i < h0.length ∧ ρ i = id) := by
        rintro ⟨i, hi, rfl⟩; have := hlt i hi; omega
      rw [hout id hx]; exact r.hole id hid
    · rcases img id with ⟨i, hi, rfl⟩ | hn
      · have hl := lay_in ρ h' 0 h i (by omega) (fun a b ha hb e => hinj a b (by omega) (by omega) (by simpa using e)) (fun a ha => by have := hlt a (by omega); simpa using this)
        rw [Nat.zero_add] at hl
        rw [hl] at hx
        obtain ⟨y, hy, rfl⟩ := Option.map_eq_some_iff.1 hx
        exact blkOk_ren hi hin (r'.blk i y hy) (List.all_eq_true.1 hh1 y (List.mem_of_getElem? hy))
      · have hl := lay_out ρ h' 0 h id (fun m hm e => hn ⟨m, by omega, by simpa using e⟩)
        rw [hl] at hx
        exact (r.blk id x hx).ext r E S (hout id hn) fun ver b sz hk => ex.keep b (alive_lt r ⟨id, ver, sz, hk⟩) (apart b id ver sz hn hk)
    · intro id id' ver ver' b sz sz' h1 h2
      rcases img id with ⟨i, hi, rfl⟩ | hn
      · rw [hin i hi] at h1
        rcases img id' with ⟨j, hj, rfl⟩ | hn'
        · rw [hin j hj] at h2
          rw [r'.inj _ _ _ _ _ _ _ h1 h2]
        · rw [hout id' hn'] at h2
          rcases ex.anew b ⟨i, ver, sz, h1⟩ with h3 | h3
          · exact absurd h3 (apart b id' _ _ hn' h2)
          · have := alive_lt r ⟨id', _, _, h2⟩; omega
      · rw [hout id hn] at h1
        rcases img id' with ⟨j, hj, rfl⟩ | hn'
        · rw [hin j hj] at h2
          rcases ex.anew b ⟨j, ver', sz', h2⟩ with h3 | h3
          · exact absurd h3 (apart b id _ _ hn h1)
          · have := alive_lt r ⟨id, _, _, h1⟩; omega
        · rw [hout id' hn'] at h2
          exact r.inj _ _ _ _ _ _ _ h1 h2
  exact ⟨_, _, Z', κ', c, ⟨rfl, rfl⟩, rfl, r2, hv'.ren hin hv, E, S.lt r (Nat.le_refl _)⟩
end Go.Cx

set_option linter.unusedVariables false
set_option linter.unusedSimpArgs false
namespace Go.Cx
variable {P : Program} {h : AHeap}

theorem HCall.mk' {f : FuncId} {fn : Func} {c : Code} {rs : List ResultVar} {N : Nat} {args : List AV} {h0 h1 : AHeap} {v : AV} (lit : TypeId → Bool) (hf : P.funcs[f]? = some fn) (hb : fn.body = some c) (hrs : fn.results.toList = rs) (hN : args.length + (fn.ntmps - args.length) = N) (he : Ent P f)
    (ha : args.all (refsLt h0.length) = true) (hh : h0.all (ABlk.refsLt h0.length) = true) (hv : refsLt h0.length v = true) (hl : h1.length = h0.length) (hh1 : h1.all (ABlk.refsLt h0.length) = true)
    (hx : args.all fits = true → AX P lit h0.length c (PostA P rs h0.length (fun v' h' => v' = v ∧ h' = h1)) ⟨N, initT args, h0⟩) : HCall P f args h0 v h1 := by
  refine ⟨ha, hh, hv, hl, hh1, ?_⟩
  by_cases hfit : args.all fits = true
  · exact ACall.intro lit hf hb hrs hN he (hx hfit)
  · exact ⟨he, fun Z κ w cargs r hr => absurd hr.fits hfit⟩

/-- What is handed back, where blocks below n are the caller's. -/
def retN (P : Program) (rs : List ResultVar) (n : Nat) (s : AState) : Option AV := (rs.mapM (resA P s)).bind fun vs => frz s.h n 12 (resV vs)
theorem PostA_n (rs : List ResultVar) (n : Nat) (v : AV) (h1 : AHeap) (e : Exit) (s : AState) : PostA P rs n (fun v' h' => v' = v ∧ h' = h1) e s = (isEnd e = true ∧ retN P rs n s = some v ∧ (s.h.take n).all (ABlk.refsLt n) = true ∧ s.h.take n = h1) := by
  apply propext
  constructor
  · rintro ⟨he, vs, v', h1, h2, h3, rfl, rfl⟩
    exact ⟨he, by simp only [retN, h1, Option.bind_some]; exact h2, h3, rfl⟩
  · rintro ⟨he, h1, h2, h3⟩
    obtain ⟨vs, hvs, hz⟩ := Option.bind_eq_some_iff.1 h1
    exact ⟨he, vs, v, hvs, hz, h2, rfl, h3⟩
@[simp] theorem PostA_n1 (rs : List ResultVar) (v : AV) (h1 : AHeap) (e : Exit) (s : AState) : PostA P rs 1 (fun v' h' => v' = v ∧ h' = h1) e s = (isEnd e = true ∧ retN P rs 1 s = some v ∧ (s.h.take 1).all (ABlk.refsLt 1) = true ∧ s.h.take 1 = h1) := PostA_n ..
@[simp] theorem PostA_n2 (rs : List ResultVar) (v : AV) (h1 : AHeap) (e : Exit) (s : AState) : PostA P rs 2 (fun v' h' => v' = v ∧ h' = h1) e s = (isEnd e = true ∧ retN P rs 2 s = some v ∧ (s.h.take 2).all (ABlk.refsLt 2) = true ∧ s.h.take 2 = h1) := PostA_n ..
@[simp] theorem PostA_n3 (rs : List ResultVar) (v : AV) (h1 : AHeap) (e : Exit) (s : AState) : PostA P rs 3 (fun v' h' => v' = v ∧ h' = h1) e s = (isEnd e = true ∧ retN P rs 3 s = some v ∧ (s.h.take 3).all (ABlk.refsLt 3) = true ∧ s.h.take 3 = h1) := PostA_n ..
section
variable (s : AState) (n : Nat) (r r' r2 : ResultVar)
@[simp] theorem retN_zero : retN P [] n s = frz s.h n 12 (.tup []) := by simp only [retN, List.mapM_nil]; rfl
@[simp] theorem retN_one : retN P [r] n s = (resA P s r).bind fun x => frz s.h n 12 x := by
  simp only [retN, List.mapM_cons, List.mapM_nil]
  cases resA P s r <;> rfl
@[simp] theorem retN_two : retN P [r, r'] n s = (resA P s r).bind fun x => (resA P s r').bind fun y => frz s.h n 12 (.tup [x, y]) := by
  simp only [retN, List.mapM_cons, List.mapM_nil]
  cases resA P s r <;> cases resA P s r' <;> rfl
end
def frzOwnN (h : AHeap) (n f ver off m k : Nat) : Option ABlk → Option AV
  | some (.cells ver' cs) => if ver = ver' ∧ (off + m) * k ≤ cs.length then (if m = 0 then some (.sl false 0 []) else (frzs h n f ((cs.drop (off * k)).take (m * k))).map (.sl false m)) else none
  | _ => none
@[simp] theorem frz_ownN (n f id ver off m k : Nat) : frz h (n + 1) (f + 1) (.own id ver off m k) = if id < n + 1 then some (.own id ver off m k) else frzOwnN h (n + 1) f ver off m k h[id]? := by
  rw [frz]
  simp only [neat_own, Bool.false_eq_true, if_false]
  split
  · rfl
  · cases h[id]? with
    | none => rfl
    | some b => cases b <;> rfl
theorem frzOwnN_neat {n f ver m k : Nat} {cs : List AV} (hc : cs.all neat = true) (hl : cs.length = m * k) : frzOwnN h n (f + 1) ver 0 m k (some (.cells ver cs)) = some (.sl false m cs) := by
  simp only [frzOwnN, true_and, Nat.zero_add, Nat.zero_mul, List.drop_zero]
  rw [if_pos (by omega)]
  split
  · rename_i h0
    subst h0
    have : cs = [] := List.eq_nil_of_length_eq_zero (by rw [hl]; simp)
    rw [this]
  · rw [List.take_of_length_le (by omega), frzs_neat hc]; rfl

/-! ### at a call -/
def atB (ρ : Nat → Nat) (h : AHeap) : Nat → AHeap → Prop
  | _, [] => True
  | i, x :: xs => h[ρ i]? = some (renB ρ x) ∧ atB ρ h (i + 1) xs
theorem atB_get (ρ : Nat → Nat) : ∀ (xs : AHeap) (i : Nat), atB ρ h i xs → ∀ m x, xs[m]? = some x → h[ρ (i + m)]? = some (renB ρ x)
  | [], _, _, m, x, hm => by simp at hm
  | y :: xs, i, ⟨h1, h2⟩, 0, x, hm => by simp at hm; subst hm; exact h1
  | y :: xs, i, ⟨h1, h2⟩, m + 1, x, hm => by
    have := atB_get ρ xs (i + 1) h2 m x (by simpa using hm)
    rwa [show i + 1 + m = i + (m + 1) by omega] at this
abbrev ρL (L : List Nat) : Nat → Nat := fun i => L.getD i 0
theorem ρL_inj {L : List Nat} (hn : L.Nodup) : ∀ i j, i < L.length → j < L.length → ρL L i = ρL L j → i = j := by
  intro i j hi hj e
  simp only [ρL, List.getD_eq_getElem?_getD, List.getElem?_eq_getElem hi, List.getElem?_eq_getElem hj, Option.getD_some] at e
  exact (List.getElem_inj hn).1 e
theorem HCall.at {f : FuncId} {args args' : List AV} {h0 h1 : AHeap} {v : AV} (hc : HCall P f args h0 v h1) (L : List Nat) (hn : L.Nodup) (hl : L.length = h0.length) (ha : args' = args.map (ren (ρL L))) (hb : atB (ρL L) h 0 h0) :
    ACall P f args' h (fun v' h' => v' = ren (ρL L) v ∧ h' = Cx.lay (ρL L) 0 h1 h) := by
  subst ha
  have hget : ∀ i x, h0[i]? = some x → h[ρL L i]? = some (renB (ρL L) x) := fun i x hx => by
    have := atB_get (ρL L) h0 0 hb i x hx
    rwa [Nat.zero_add] at this
  exact ACall.reloc hc (ρL L) (fun i j hi hj => ρL_inj hn i j (by omega) (by omega)) (fun i hi => (List.getElem?_eq_some_iff.1 (hget i h0[i] (by simp [hi]))).1) hget
theorem AInv.heap {f : FuncId} {cap args args0 : List AV} {h0 h1 : AHeap} {v : AV} {Q : AV → AHeap → Prop} (L : List Nat) (hc : HCall P f args0 h0 v h1) (ha : args ++ cap = args0.map (ren (ρL L))) (hb : atB (ρL L) h 0 h0) (hq : Q (ren (ρL L) v) (Cx.lay (ρL L) 0 h1 h)) (hn : L.Nodup := by decide) (hl : L.length = h0.length := by rfl) : AInv P (.fn f cap) args h Q :=
  .of ((hc.at L hn hl ha hb).mono fun v' h' ⟨h1, h2⟩ => by rw [h1, h2]; exact hq)
theorem ADcall.heap {f : FuncId} {cap args args0 : List AV} {h0 h1 : AHeap} {v : AV} {K : AV → AHeap → Prop} {D : List Nat} (L : List Nat) (hc : HCall P f args0 h0 v h1) (ha : args ++ cap = args0.map (ren (ρL L))) (hb : atB (ρL L) h 0 h0) (hq : K (ren (ρL L) v) (Cx.lay (ρL L) 0 h1 h)) (hn : L.Nodup := by decide) (hl : L.length = h0.length := by rfl) : ADcall P D .e (.fn f cap) args h K :=
  ⟨_, _, .of (hc.at L hn hl ha hb), hq⟩
theorem AInv.same {f : FuncId} {cap args args0 : List AV} {h1 : AHeap} {v : AV} {Q : AV → AHeap → Prop} (hc : HCall P f args0 h v h1) (ha : args ++ cap = args0) (hq : Q v h1) : AInv P (.fn f cap) args h Q := by
  refine .of ?_
  rw [ha]
  exact hc.call.mono fun v' h' ⟨q1, q2⟩ => by rw [q1, q2]; exact hq
/-- A call that only computes, where the order of calls is told. -/
theorem ADcall.pureE {f : FuncId} {cap args args' : List AV} {v : AV} {K : AV → AHeap → Prop} {D : List Nat} (hp : PCall P f args' v) (ha : args ++ cap = args') (hk : K v h) : ADcall P D .e (.fn f cap) args h K := by
  refine ⟨v, h, ?_, hk⟩
  refine .of ?_
  rw [ha]; exact hp.frame h
attribute [simp] atB Cx.lay renB
@[simp] theorem ρL_app (L : List Nat) (i : Nat) : ρL L i = L.getD i 0 := rfl

/-! ### a row without its room -/
def wk : AV → AV
  | .agg cs => .agg (cs.attach.map fun ⟨c, _⟩ => wk c)
  | .tup cs => .tup (cs.attach.map fun ⟨c, _⟩ => wk c)
  | .sl _ n cs => .sl false n (cs.attach.map fun ⟨c, _⟩ => wk c)
  | a => a
@[simp] theorem wk_val (v : Value) : wk (.val v) = .val v := by rw [wk] <;> simp
@[simp] theorem wk_agg (cs : List AV) : wk (.agg cs) = .agg (cs.map wk) := by rw [wk, map_attach]
@[simp] theorem wk_tup (cs : List AV) : wk (.tup cs) = .tup (cs.map wk) := by rw [wk, map_attach]
@[simp] theorem wk_sl (t : Bool) (n : Nat) (cs : List AV) : wk (.sl t n cs) = .sl false n (cs.map wk) := by rw [wk, map_attach]
mutual
theorem R.wk {Z : Nat → Prop} {κ : Nat → Slot} {w : World} {a : AV} {v : Value} (hr : R Z w κ a v) : R Z w κ (Cx.wk a) v := by
  cases hr with
  | val h => rw [wk_val]; exact .val h
  | any => rw [Cx.wk] <;> first | exact .any | simp
  | agg h => rw [wk_agg]; exact .agg h.wk
  | tup h => rw [wk_tup]; exact .tup h.wk
  | sl0 h1 h2 => rw [wk_sl]; exact .sl0 (by simp) h2
  | sl h0 h1 h2 h3 h4 h5 h6 => rw [wk_sl]; exact .sl h0 h1 (by simp) h3 h4 h5 h6.wk
  | fp h1 h2 h3 => rw [Cx.wk] <;> first | exact .fp h1 h2 h3 | simp
  | fn h => rw [Cx.wk] <;> first | exact .fn h | simp
  | fmap h1 h2 h3 h4 h5 h6 => rw [Cx.wk] <;> first | exact .fmap h1 h2 h3 h4 h5 h6 | simp
  | own h0 h1 hA h2 => rw [Cx.wk] <;> first | exact .own h0 h1 hA h2 | simp
  | ptr h2 => rw [Cx.wk] <;> first | exact .ptr h2 | simp
  | mp h2 => rw [Cx.wk] <;> first | exact .mp h2 | simp
theorem Rs.wk {Z : Nat → Prop} {κ : Nat → Slot} {w : World} {as : List AV} {vs : List Value} (hr : Rs Z w κ as vs) : Rs Z w κ (as.map Cx.wk) vs := by
  cases hr with
  | nil => exact .nil
  | cons h1 h2 => exact .cons h1.wk h2.wk
end
/-- What is handed back, told with less of its room. -/
theorem PCall.wk {f : FuncId} {args : List AV} {v v' : AV} (hp : PCall P f args v) (hv : Cx.wk v = v') (hn : neat v' = true) : PCall P f args v' := by
  subst hv
  obtain ⟨h1, h2, he, hc⟩ := hp
  refine ⟨h1, hn, he, fun Z κ w cargs r hr => (hc Z κ w cargs r hr).mono ?_⟩
  rintro e w' ⟨v', h', Z', κ', c, ⟨rfl, rfl⟩, rfl, r', hv, ex, st⟩
  exact ⟨_, _, Z', κ', c, ⟨rfl, rfl⟩, rfl, r', hv.wk, ex, st⟩
/-- Room is kept for a block. -/
theorem Wk.room (n : Nat) (s : AState) : Wk n s ⟨s.N, s.T, s.h ++ [.cells 0 []]⟩ := by
  intro Z κ a w r hn
  have hh := r.rel.hole s.h.length (Nat.le_refl _)
  have hs : StepAll κ (upd κ s.h.length (.live 0 none 0)) := .upd (.inl hh)
  have hal : ∀ b, alive (upd κ s.h.length (.live 0 none 0)) b → alive κ b := by
    rintro b ⟨id, ver, sz, hk⟩
    by_cases hid : id = s.h.length
    · subst hid; rw [upd_same] at hk; cases hk
    · rw [upd_ne _ _ hid] at hk; exact ⟨id, ver, sz, hk⟩
  have e : Ext Z κ w Z (upd κ s.h.length (.live 0 none 0)) w := ⟨rfl, rfl, rfl, Nat.le_refl _, fun _ _ _ => rfl, fun _ h => h, fun _ h => .inl h, fun b ha => .inl (hal b ha)⟩
  refine ⟨_, ⟨⟨r.rel.zlt, fun b hz ha => r.rel.za b hz (hal b ha), fun id hid => ?_, fun id x hx => ?_, ?_⟩, r.size, fun j => (r.tmps j).ext r.rel e hs, r.defers⟩, e, hs.lt r.rel hn, by simp; omega⟩
  · simp at hid
    rw [upd_ne _ _ (by omega)]; exact r.rel.hole id (by omega)
  · by_cases hid : id = s.h.length
    · subst hid
      simp at hx
      subst hx
      exact ⟨none, 0, upd_same _ _ _, rfl⟩
    · have hlt : id < s.h.length := by
        have := (List.getElem?_eq_some_iff.1 hx).1
        simp at this; omega
      rw [List.getElem?_append_left hlt] at hx
      exact (r.rel.blk id x hx).ext r.rel e hs (upd_ne _ _ hid) fun _ _ _ _ => rfl
  · intro id id' ver ver' b sz sz' h1 h2
    by_cases hid : id = s.h.length
    · subst hid; rw [upd_same] at h1; cases h1
    · by_cases hid' : id' = s.h.length
      · subst hid'; rw [upd_same] at h2; cases h2
      · rw [upd_ne _ _ hid] at h1; rw [upd_ne _ _ hid'] at h2
        exact r.rel.inj _ _ _ _ _ _ _ h1 h2
theorem AW.room {n : Nat} {c : Code} {Q : Exit → AState → Prop} {s : AState} (hx : AW P n c Q ⟨s.N, s.T, s.h ++ [.cells 0 []]⟩) : AW P n c Q s := AW.wk (Wk.room n s) hx
end Go.Cx

set_option linter.unusedVariables false
set_option linter.unusedSimpArgs false
namespace Go.Cx
open Go.ChangeShapes Go.WideShapes
variable {P : Program} {W : World}

mutual
/-- Letters and values of a reading, as far as they count here. -/
def blk {H : Type} : DataW H → Nat
  | .lit (.string bytes) => bytes.length + 1
  | .slice elems _ => blkAll elems + 1
  | .agg parts => blkAll parts + 1
  | _ => 1
def blkAll {H : Type} : List (DataW H) → Nat
  | [] => 0
  | d :: r => blk d + blkAll r
end
theorem blkAll_append {H : Type} : ∀ l r : List (DataW H), blkAll (l ++ r) = blkAll l + blkAll r
  | [], r => by simp [blkAll]
  | d :: l, r => by rw [List.cons_append, blkAll, blkAll, blkAll_append l r]; omega

def OpnB (P : Program) (W : World) (t : TypeId) (A : List AV → Nat → Prop) : Prop :=
  ∀ (H : Type) (enc : TypeId × Value → H) (fuel : Nat) (cs : List Value) (x : DataW H × List MemPlace), DataW.trod enc P W 0 (fun _ => true) true fuel t cs = some x → ∃ as, A as (blk x.1) ∧ Rs (Zw W) W noK as cs
theorem OpnB.mono {t : TypeId} {A B : List AV → Nat → Prop} (h : OpnB P W t A) (hab : ∀ as b, A as b → B as b) : OpnB P W t B := fun H enc fuel cs x hx =>
  let ⟨as, ha, hr⟩ := h H enc fuel cs x hx
  ⟨as, hab as _ ha, hr⟩
theorem Opn.b {t : TypeId} {A : List AV → Prop} (h : Opn P W t A) : OpnB P W t (fun as _ => A as) := fun H enc fuel cs x hx => h H enc fuel cs x hx
theorem opnB_string {t : TypeId} (ht : P.underlying t = some .string) : OpnB P W t (fun as b => ∃ s : ByteArray, as = [.val (.string s)] ∧ s.size ≤ maxLen ∧ s.size + 1 ≤ b) := fun H enc fuel cs x hx => by
  obtain ⟨s, rfl, rfl, hs⟩ := DataW.trod_string ht hx
  exact ⟨_, ⟨s, rfl, hs, by simp [blk]⟩, .cons (.val rfl) .nil⟩

inductive OpnFsB (P : Program) (W : World) : List (Nat × TypeId) → Nat → Nat → (List AV → Nat → Prop) → Prop
  | nil {n : Nat} : OpnFsB P W [] n n (fun as _ => as = [])
  | cons {off k n : Nat} {ft : TypeId} {fs : List (Nat × TypeId)} {A B : List AV → Nat → Prop} : OpnB P W ft A → tsize P ft = some k → OpnFsB P W fs (off + k) n B →
      OpnFsB P W ((off, ft) :: fs) off n (fun as b => ∃ a c b1 b2, b1 + b2 ≤ b ∧ A a b1 ∧ B c b2 ∧ as = a ++ c)
theorem OpnFsB.rs {fs : List (Nat × TypeId)} {off n : Nat} {B : List AV → Nat → Prop} (h : OpnFsB P W fs off n B) : ∀ (H : Type) (enc : TypeId × Value → H) (fuel : Nat) (cs : List Value) (xs : List (DataW H × List MemPlace)), cs.length = n → xs.length = fs.length →
    (∀ (i : Nat) p, fs[i]? = some p → DataW.trod enc P W 0 (fun _ => true) true fuel p.2 ((cs.drop p.1).take (P.cellsOf p.2)) = xs[i]?) → ∃ as, B as (blkAll (xs.map (·.1))) ∧ Rs (Zw W) W noK as (cs.drop off) := by
  induction h with
  | nil => intro H enc fuel cs xs hl _ _; exact ⟨[], rfl, by rw [List.drop_eq_nil_of_le (by omega)]; exact .nil⟩
  | @cons off k n ft fs A B ha hk hfs ih =>
    intro H enc fuel cs xs hl hxl hall
    cases xs with
    | nil => simp at hxl
    | cons x xs =>
      have hx := hall 0 (off, ft) rfl
      simp only [List.getElem?_cons_zero] at hx
      obtain ⟨a, hA, hr⟩ := ha H enc fuel _ x hx
      obtain ⟨b, hB, hr2⟩ := ih H enc fuel cs xs hl (by simpa using hxl) fun i p hp => by simpa using hall (i + 1) p (by simpa using hp)
      refine ⟨a ++ b, ⟨a, b, _, _, Nat.le_of_eq (by simp [blkAll]), hA, hB, rfl⟩, ?_⟩
      rw [cellsOf_tsize hk] at hr
      have : cs.drop off = (cs.drop off).take k ++ cs.drop (off + k) := by
        rw [← List.drop_drop, List.take_append_drop]
      rw [this]
      exact hr.append hr2
theorem opnB_struct {t : TypeId} {fs : List (Nat × TypeId)} {n : Nat} {B : List AV → Nat → Prop} (ht : tstruct P t = some fs) (hs : tsize P t = some n) (h : OpnFsB P W fs 0 n B) : OpnB P W t (fun as b => ∃ b', b' + 1 ≤ b ∧ B as b') := fun H enc fuel cs x hx => by
  unfold tstruct at ht
  split at ht
  · rename_i fa hu
    injection ht with ht; subst ht
    obtain ⟨xs, m, _, rfl, hl, hxl, hall⟩ := DataW.trod_struct hu hx
    rw [cellsOf_tsize hs] at hl
    have := h.rs H enc m cs xs hl (by simpa using hxl) fun i p hp => by
      rw [List.getElem?_map] at hp
      obtain ⟨f, hf, rfl⟩ := Option.map_eq_some_iff.1 hp
      exact hall i f (by simpa using hf)
    obtain ⟨as, hB, hr⟩ := this
    exact ⟨as, ⟨_, by simp [blk], hB⟩, by simpa using hr⟩
  · cases ht

theorem opnB_slice {t e : TypeId} {k : Nat} {A : List AV → Nat → Prop} (ht : telem P t = some e) (hk : tsize P e = some k) (h0 : 0 < k) (he : OpnB P W e A) :
    OpnB P W t (fun as b => ∃ l : List (List AV × Nat), (∀ x ∈ l, A x.1 x.2 ∧ x.1.length = k) ∧ (l.map (·.2)).sum + 1 ≤ b ∧ as = [.sl false l.length (l.map (·.1)).flatten]) := fun H enc fuel cs x hx => by
  have hc := cellsOf_tsize hk
  rcases DataW.trod_slice (run_telem ht) hx with ⟨rfl, rfl⟩ | ⟨a, len, cap, elems, rest, n, _, rfl, rfl, _, hlc, hcap, hel, hall, _, _⟩
  · exact ⟨_, ⟨[], by simp, by simp [blk], rfl⟩, .cons (.sl0 (by simp) (by simp [maxLen])) .nil⟩
  · rw [hc] at hall
    have key : ∀ m, m ≤ len → ∃ (l : List (List AV × Nat)) (us : List Value), l.length = m ∧ (∀ x ∈ l, A x.1 x.2 ∧ x.1.length = k) ∧ (l.map (·.2)).sum = blkAll ((elems.take m).map (·.1)) ∧ us.length = m * k ∧ CellsAt W a us ∧ Rs (Zw W) W noK (l.map (·.1)).flatten us := by
      intro m
      induction m with
      | zero => intro _; exact ⟨[], [], rfl, by simp, by simp [blkAll], by simp, fun j u hj => by simp at hj, .nil⟩
      | succ m ih =>
        intro hm
        obtain ⟨l, us, h1, h2, hb, h3, h4, h5⟩ := ih (by omega)
        have hm' := hall m (by omega)
        have hlt : m < elems.length := by omega
        rw [List.getElem?_eq_getElem hlt] at hm'
        obtain ⟨cs, hcs, htr⟩ := Option.bind_eq_some_iff.1 hm'
        obtain ⟨as, ha, hr⟩ := he H enc n cs _ htr
        obtain ⟨hl, hcell⟩ := cells?_spec hcs
        have hal : as.length = k := by rw [hr.length, hl]
        refine ⟨l ++ [(as, blk (elems[m]).1)], us ++ cs, by simp [h1], ?_, ?_, by simp [h3, hl, Nat.add_mul], fun j u hj => ?_, ?_⟩
        · intro x hx
          rcases List.mem_append.1 hx with h | h
          · exact h2 x h
          · rw [List.mem_singleton.1 h]; exact ⟨ha, hal⟩
        · rw [List.take_succ_eq_append_getElem hlt, List.map_append, List.map_append, blkAll_append, List.sum_append, hb]
          simp [blkAll]
        · rcases Nat.lt_or_ge j us.length with hj1 | hj1
          · rw [List.getElem?_append_left hj1] at hj; exact h4 j u hj
          · rw [List.getElem?_append_right hj1] at hj
            have := hcell _ u hj
            rw [add2] at this
            rw [← this]; congr 2; omega
        · rw [List.map_append, List.flatten_append]
          exact h5.append (by simpa using hr)
    obtain ⟨l, us, h1, h2, hb, h3, h4, h5⟩ := key len (Nat.le_refl _)
    refine ⟨_, ⟨l, h2, ?_, rfl⟩, .cons ?_ .nil⟩
    · rw [hb, List.take_of_length_le (by omega)]; simp [blk]
    · rcases Nat.eq_zero_or_pos len with hz | hz
      · have : l = [] := List.eq_nil_of_length_eq_zero (by omega)
        subst this
        subst hz
        exact .sl0 (by simp) hcap
      · rw [h1]
        refine .sl hz hlc (by simp) hcap ?_ h4 h5
        have hpos : 0 < us.length := by rw [h3]; exact Nat.mul_pos hz h0
        have := cell_lt (h4 0 us[0] (by simp [hpos]))
        have e : (a.add 0).block = a.block := by unfold Addr.add; split <;> rfl
        rw [e] at this
        exact this
theorem rowsB_of {α : Type} {enc : α → List AV} {p : α → Nat → Prop} : ∀ l : List (List AV × Nat), (∀ x ∈ l, ∃ c, x.1 = enc c ∧ p c x.2) → ∃ cs : List (α × Nat), l.map (·.1) = cs.map (fun c => enc c.1) ∧ l.map (·.2) = cs.map (·.2) ∧ ∀ c ∈ cs, p c.1 c.2
  | [], _ => ⟨[], rfl, rfl, by simp⟩
  | x :: l, h => by
    obtain ⟨c, hc, hp⟩ := h x (by simp)
    obtain ⟨cs, h1, h2, hps⟩ := rowsB_of l fun y hy => h y (by simp [hy])
    refine ⟨(c, x.2) :: cs, by simp [hc, h1], by simp [h2], ?_⟩
    intro y hy
    rcases List.mem_cons.1 hy with rfl | hy
    · exact hp
    · exact hps y hy
/-- A row of records, each with what it weighs. -/
theorem opnB_rows {α : Type} {enc : α → List AV} {p : α → Prop} {wt : α → Nat} {t e : TypeId} {k : Nat} (ht : telem P t = some e) (hk : tsize P e = some k) (h0 : 0 < k) (he : OpnB P W e (fun as b => ∃ c, as = enc c ∧ p c ∧ wt c ≤ b)) :
    OpnB P W t (fun as b => ∃ cs : List α, as = [.sl false cs.length (cs.flatMap enc)] ∧ (∀ c ∈ cs, p c) ∧ (cs.map wt).sum + 1 ≤ b) :=
  (opnB_slice ht hk h0 he).mono fun as b ⟨l, hl, hb, ha⟩ => by
    obtain ⟨cs, h1, h2, hp⟩ := rowsB_of (p := fun c b => p c ∧ wt c ≤ b) l fun x hx => by
      obtain ⟨c, h1, h2, h3⟩ := (hl x hx).1
      exact ⟨c, h1, h2, h3⟩
    have hlen : l.length = cs.length := by have := congrArg List.length h1; simpa using this
    have hsum : ((cs.map (·.1)).map wt).sum ≤ (cs.map (·.2)).sum := by
      clear h1 h2 hlen ha
      induction cs with
      | nil => simp
      | cons c cs ih =>
        have := (hp c (by simp)).2
        have := ih fun x hx => hp x (by simp [hx])
        simp at this ⊢
        omega
    refine ⟨cs.map (·.1), ?_, ?_, ?_⟩
    · rw [ha, h1, hlen]; simp [List.flatMap_def, List.map_map, Function.comp_def]
    · intro c hc
      obtain ⟨y, hy, rfl⟩ := List.mem_map.1 hc
      exact (hp y hy).1
    · rw [h2] at hb; omega
theorem argB_struct {H : Type} {enc : TypeId × Value → H} {base : Nat} {t : TypeId} {fs : List (Nat × TypeId)} {v : Value} {d : DataW H} {ps : List MemPlace} {A : List AV → Nat → Prop} (ht : tstruct P t = some fs) (hv : Value.okWide P W .any base t v) (h : DataW.Trod enc P W 0 (fun _ => true) true t v d ps) (ha : OpnB P W t A) :
    ∃ as, A as (blk d) ∧ R (Zw W) W noK (.agg as) v := by
  unfold tstruct at ht
  split at ht
  · rename_i fa hu
    obtain ⟨cs, rfl, _⟩ := okWide_struct hu hv
    obtain ⟨fuel, hf⟩ := h
    obtain ⟨as, hA, hr⟩ := ha H enc fuel _ _ hf
    exact ⟨as, hA, by have := R.agg hr; simpa [Value.cells] using this⟩
  · cases ht
theorem argB_one {H : Type} {enc : TypeId × Value → H} {t : TypeId} {v : Value} {d : DataW H} {ps : List MemPlace} {A : List AV → Nat → Prop} (hone : v.cells.toList = [v]) (h : DataW.Trod enc P W 0 (fun _ => true) true t v d ps) (ha : OpnB P W t A) :
    ∃ a, A [a] (blk d) ∧ R (Zw W) W noK a v := by
  obtain ⟨fuel, hf⟩ := h
  obtain ⟨as, hA, hr⟩ := ha H enc fuel _ _ hf
  rw [hone] at hr
  cases hr with
  | cons h1 h2 => cases h2; exact ⟨_, hA, h1⟩
end Go.Cx

set_option linter.unusedVariables false
set_option linter.unusedSimpArgs false
namespace Go.Cx
variable {P : Program} {Z : Nat → Prop} {κ : Nat → Slot} {h : AHeap} {w : World}

/-- A call over a small heap, which may grow: what it hands back, and what becomes of the heap. -/
structure XCall (P : Program) (f : FuncId) (args : List AV) (h0 : AHeap) (v : AV) (h1 : AHeap) : Prop where
  hargs : args.all (refsLt h0.length) = true
  heap : h0.all (ABlk.refsLt h0.length) = true
  val : refsLt h1.length v = true
  len : h0.length ≤ h1.length
  heap1 : h1.all (ABlk.refsLt h1.length) = true
  call : ACall P f args h0 (fun v' h' => v' = v ∧ h' = h1)

/-- Where a number of the small heap stands: the old ones by ρ, the new ones behind all. -/
def grow (ρ : Nat → Nat) (k n : Nat) : Nat → Nat := fun i => if i < k then ρ i else n + (i - k)
theorem ACall.grow {f : FuncId} {args : List AV} {h0 h1 : AHeap} {v : AV} (hc : XCall P f args h0 v h1) (ρ : Nat → Nat) (hinj : ∀ i j, i < h0.length → j < h0.length → ρ i = ρ j → i = j)
    (hlt : ∀ i, i < h0.length → ρ i < h.length) (hb : ∀ i x, h0[i]? = some x → h[ρ i]? = some (renB ρ x)) :
    ACall P f (args.map (ren ρ)) h (fun v' h' => v' = ren (Cx.grow ρ h0.length h.length) v ∧ h' = lay (Cx.grow ρ h0.length h.length) 0 (h1.take h0.length) h ++ (h1.drop h0.length).map (renB (Cx.grow ρ h0.length h.length))) := by
  obtain ⟨ha, hh, hv, hlen, hh1, he, hcall⟩ := hc
  let g := Cx.grow ρ h0.length h.length
  have g0 : ∀ i, i < h0.length → g i = ρ i := fun i hi => by simp only [g, Cx.grow, if_pos hi]
  have g1 : ∀ i, h0.length ≤ i → g i = h.length + (i - h0.length) := fun i hi => by simp only [g, Cx.grow]; rw [if_neg (by omega)]
  refine ⟨he, fun Z κ w cargs r hr => ?_⟩
  let κ0 : Nat → Slot := fun i => if i < h0.length then κ (ρ i) else .hole
  have hk0 : ∀ i, i < h0.length → κ0 i = κ (ρ i) := fun i hi => by simp [κ0, hi]
  have hal : ∀ b, alive κ0 b → ∃ i ver sz, i < h0.length ∧ κ (ρ i) = .live ver (some b) sz := by
    rintro b ⟨i, ver, sz, hk⟩
    by_cases hi : i < h0.length
    · exact ⟨i, ver, sz, hi, by rw [← hk0 i hi]; exact hk⟩
    · simp [κ0, hi] at hk
  have hal' : ∀ b, alive κ0 b → alive κ b := fun b hb => by obtain ⟨i, ver, sz, _, hk⟩ := hal b hb; exact ⟨_, ver, sz, hk⟩
  have r0 : Rel Z κ0 h0 w := by
    refine ⟨r.zlt, fun b hz hb => r.za b hz (hal' b hb), fun i hi => by simp [κ0, Nat.not_lt.2 hi], fun i x hx => ?_, ?_⟩
    · have hi := (List.getElem?_eq_some_iff.1 hx).1
      exact blkOk_unren hi hk0 (r.blk _ _ (hb i x hx)) (List.all_eq_true.1 hh x (List.mem_of_getElem? hx))
    · intro i j ver ver' b sz sz' h1 h2
      by_cases hi : i < h0.length
      · by_cases hj : j < h0.length
        · rw [hk0 i hi] at h1; rw [hk0 j hj] at h2
          exact hinj i j hi hj (r.inj _ _ _ _ _ _ _ h1 h2)
        · simp [κ0, hj] at h2
      · simp [κ0, hi] at h1
  refine (hcall Z κ0 w cargs r0 (Rs.unren hk0 args hr ha)).mono ?_
  rintro e w' ⟨v', h', Z', κ0', c, ⟨rfl, rfl⟩, rfl, r', hv', ex, st⟩
  have img : ∀ id, (∃ i, i < h0.length ∧ ρ i = id) ∨ ¬ (∃ i, i < h0.length ∧ ρ i = id) := fun id => Classical.em _
  let κ' : Nat → Slot := fun id => if hx : ∃ i, i < h0.length ∧ ρ i = id then κ0' (Classical.choose hx) else if h.length ≤ id then κ0' (h0.length + (id - h.length)) else κ id
  have hin0 : ∀ i, i < h0.length → κ' (ρ i) = κ0' i := by
    intro i hi
    have hx : ∃ j, j < h0.length ∧ ρ j = ρ i := ⟨i, hi, rfl⟩
    have hs := Classical.choose_spec hx
    have : Classical.choose hx = i := hinj _ _ hs.1 hi hs.2
    simp only [κ', dif_pos hx, this]
  have hnew : ∀ id, h.length ≤ id → κ' id = κ0' (h0.length + (id - h.length)) := by
    intro id hid
    have hx : ¬ (∃ i, i < h0.length ∧ ρ i = id) := by rintro ⟨i, hi, rfl⟩; have := hlt i hi; omega
    simp only [κ', dif_neg hx, if_pos hid]
  have hin : ∀ i, i < h'.length → κ' (g i) = κ0' i := by
    intro i _
    by_cases hi : i < h0.length
    · rw [g0 i hi]; exact hin0 i hi
    · rw [g1 i (by omega), hnew _ (by omega)]; congr 1; omega
  have hout : ∀ id, ¬ (∃ i, i < h0.length ∧ ρ i = id) → id < h.length → κ' id = κ id := fun id hx hl => by simp only [κ', dif_neg hx]; rw [if_neg (by omega)]
  -- of each number: an old one, a new one, or one outside
  have split : ∀ id, (∃ i, i < h0.length ∧ ρ i = id) ∨ h.length ≤ id ∨ (¬ (∃ i, i < h0.length ∧ ρ i = id) ∧ id < h.length) := fun id => by
    rcases img id with h1 | h1
    · exact .inl h1
    · rcases Nat.lt_or_ge id h.length with h2 | h2
      · exact .inr (.inr ⟨h1, h2⟩)
      · exact .inr (.inl h2)
  have hfrom : ∀ id, (∃ j, g j = id ∧ κ' id = κ0' j ∧ (j < h0.length → id < h.length)) ∨ (¬ (∃ i, i < h0.length ∧ ρ i = id) ∧ id < h.length ∧ κ' id = κ id) := fun id => by
    rcases split id with ⟨i, hi, rfl⟩ | h1 | ⟨h1, h2⟩
    · exact .inl ⟨i, g0 i hi, hin0 i hi, fun _ => hlt i hi⟩
    · exact .inl ⟨h0.length + (id - h.length), by rw [g1 _ (by omega)]; omega, hnew id h1, fun h2 => by omega⟩
    · exact .inr ⟨h1, h2, hout id h1 h2⟩
  have hal2 : ∀ b, alive κ' b → alive κ0' b ∨ ∃ id ver sz, ¬ (∃ i, i < h0.length ∧ ρ i = id) ∧ κ id = .live ver (some b) sz := by
    rintro b ⟨id, ver, sz, hk⟩
    rcases hfrom id with ⟨j, _, hj, _⟩ | ⟨h1, _, h3⟩
    · rw [hj] at hk; exact .inl ⟨j, ver, sz, hk⟩
    · rw [h3] at hk; exact .inr ⟨id, ver, sz, h1, hk⟩
  have E : Ext Z κ w Z' κ' w' := by
    refine ⟨ex.os, ex.tape, ex.output, ex.size, fun b hbl hn => ex.keep b hbl (fun ha => hn (hal' b ha)), ex.zin, fun b hz => ?_, fun b ha => ?_⟩
    · rcases ex.znew b hz with h1 | h1 | h1
      · exact .inl h1
      · exact .inr (.inl (hal' b h1))
      · exact .inr (.inr h1)
    · rcases hal2 b ha with h1 | ⟨id, ver, sz, _, h1⟩
      · rcases ex.anew b h1 with h2 | h2
        · exact .inl (hal' b h2)
        · exact .inr h2
      · exact .inl ⟨id, ver, sz, h1⟩
  have S : StepAll κ κ' := by
    intro id
    rcases split id with ⟨i, hi, rfl⟩ | h1 | ⟨h1, h2⟩
    · right; rw [hin0 i hi, ← hk0 i hi]; exact st i hi
    · left; exact r.hole id h1
    · right; rw [hout id h1 h2]; exact Slot.step_refl _
  have apart : ∀ b id ver sz, ¬ (∃ i, i < h0.length ∧ ρ i = id) → κ id = .live ver (some b) sz → ¬ alive κ0 b := by
    intro b id ver sz hx hk ha
    obtain ⟨i, ver', sz', hi, hk'⟩ := hal b ha
    exact hx ⟨i, hi, r.inj _ _ _ _ _ _ _ hk' hk⟩
  have r2 : Rel Z' κ' (lay g 0 (h'.take h0.length) h ++ (h'.drop h0.length).map (renB g)) w' := by
    have hll : (lay g 0 (h'.take h0.length) h).length = h.length := lay_len g _ _ _
    have htl : (h'.take h0.length).length = h0.length := by rw [List.length_take]; omega
    refine ⟨r'.zlt, fun b hz ha => ?_, fun id hid => ?_, fun id x hx => ?_, ?_⟩
    · rcases hal2 b ha with h1 | ⟨id, ver, sz, hx, hk⟩
      · exact r'.za b hz h1
      · rcases ex.znew b hz with h1 | h1 | h1
        · exact r.za b h1 ⟨id, ver, sz, hk⟩
        · exact apart b id ver sz hx hk h1
        · have := alive_lt r ⟨id, ver, sz, hk⟩; omega
    · simp only [List.length_append, hll, List.length_map, List.length_drop] at hid
      rw [hnew id (by omega)]
      exact r'.hole _ (by omega)
    · rcases Nat.lt_or_ge id h.length with hidl | hidl
      · rw [List.getElem?_append_left (by omega)] at hx
        rcases img id with ⟨i, hi, rfl⟩ | hn
        · have hl := lay_in g (h'.take h0.length) 0 h i (by omega) (fun a b ha hb e => by
              rw [htl] at ha hb
              simp only [Nat.zero_add] at e
              rw [g0 a ha, g0 b hb] at e
              exact hinj a b ha hb e) (fun a ha => by rw [htl] at ha; simp only [Nat.zero_add]; rw [g0 a ha]; exact hlt a ha)
          rw [Nat.zero_add, g0 i hi] at hl
          rw [hl, List.getElem?_take_of_lt hi] at hx
          obtain ⟨y, hy, rfl⟩ := Option.map_eq_some_iff.1 hx
          have := blkOk_ren (κ := κ') (ρ := g) (k := h'.length) (i := i) (by omega) hin (r'.blk i y hy) (List.all_eq_true.1 hh1 y (List.mem_of_getElem? hy))
          rwa [g0 i hi] at this
        · have hl := lay_out g (h'.take h0.length) 0 h id (fun m hm e => hn ⟨m, by omega, by rw [← g0 m (by omega)]; simpa using e⟩)
          rw [hl] at hx
          exact (r.blk id x hx).ext r E S (hout id hn hidl) fun ver b sz hk => ex.keep b (alive_lt r ⟨id, ver, sz, hk⟩) (apart b id ver sz hn hk)
      · rw [List.getElem?_append_right (by omega), hll, List.getElem?_map, List.getElem?_drop] at hx
        obtain ⟨y, hy, rfl⟩ := Option.map_eq_some_iff.1 hx
        have hi := (List.getElem?_eq_some_iff.1 hy).1
        have := blkOk_ren (κ := κ') (ρ := g) (k := h'.length) (i := h0.length + (id - h.length)) hi hin (r'.blk _ y hy) (List.all_eq_true.1 hh1 y (List.mem_of_getElem? hy))
        rw [g1 _ (by omega)] at this
        rwa [show h.length + (h0.length + (id - h.length) - h0.length) = id by omega] at this
    · intro id id' ver ver' b sz sz' h1 h2
      rcases hfrom id with ⟨i, e1, k1, l1⟩ | ⟨n1, l1, k1⟩
      · rw [k1] at h1
        rcases hfrom id' with ⟨j, e2, k2, l2⟩ | ⟨n2, l2, k2⟩
        · rw [k2] at h2
          have := r'.inj _ _ _ _ _ _ _ h1 h2
          rw [← e1, ← e2, this]
        · rw [k2] at h2
          rcases ex.anew b ⟨i, ver, sz, h1⟩ with h3 | h3
          · exact absurd h3 (apart b id' _ _ n2 h2)
          · have := alive_lt r ⟨id', _, _, h2⟩; omega
      · rw [k1] at h1
        rcases hfrom id' with ⟨j, e2, k2, l2⟩ | ⟨n2, l2, k2⟩
        · rw [k2] at h2
          rcases ex.anew b ⟨j, ver', sz', h2⟩ with h3 | h3
          · exact absurd h3 (apart b id _ _ n1 h1)
          · have := alive_lt r ⟨id, _, _, h1⟩; omega
        · rw [k2] at h2
          exact r.inj _ _ _ _ _ _ _ h1 h2
  exact ⟨_, _, Z', κ', c, ⟨rfl, rfl⟩, rfl, r2, hv'.ren hin hv, E, S.lt r (Nat.le_refl _)⟩

/-- What is handed back, as it lies: no block of the call's own is frozen; those behind h1 are given up. -/
def PostO (P : Program) (rs : List ResultVar) (v : AV) (h1 : AHeap) (e : Exit) (s : AState) : Prop :=
  isEnd e = true ∧ (rs.mapM (resA P s)).map resV = some v ∧ s.h.take h1.length = h1
theorem ACall.own {f : FuncId} {fn : Func} {c : Code} {rs : List ResultVar} {N : Nat} {args : List AV} {h1 : AHeap} {v : AV} (lit : TypeId → Bool) (hf : P.funcs[f]? = some fn) (hb : fn.body = some c) (hrs : fn.results.toList = rs) (hN : args.length + (fn.ntmps - args.length) = N) (he : Ent P f)
    (hv : refsLt h1.length v = true) (hl : h.length ≤ h1.length) (hh1 : h1.all (ABlk.refsLt h1.length) = true)
    (hx : AX P lit h.length c (PostO P rs v h1) ⟨N, initT args, h⟩) : ACall P f args h (fun v' h' => v' = v ∧ h' = h1) := by
  subst hrs hN
  refine ⟨he, fun Z κ w cargs r hr => ?_⟩
  refine calls_of_wp hf hb (wp_mono (AX_ok c _ _ hx Z κ _ w ?_ (Nat.le_refl _)) ?_)
  · have hl := hr.length
    refine ⟨r, by simp [hl], fun j => ?_, rfl⟩
    simp only [initT, Array.getD_eq_getD_getElem?, Array.getElem?_append, List.size_toArray, List.getD]
    by_cases hj : j < cargs.length
    · rw [if_pos hj]
      obtain ⟨v, hv, hvr⟩ := hr.get j (args[j]'(by omega)) (by simp [hl ▸ hj])
      have : args[j]? = some (args[j]'(by omega)) := by simp [hl ▸ hj]
      rw [this]
      simpa [hv] using hvr
    · rw [if_neg hj]
      have : args[j]? = none := List.getElem?_eq_none (by omega)
      rw [this]
      exact .any
  · intro e a' w' ha
    obtain ⟨s', Z', κ', hq, r', ex, st, hn⟩ := ha
    obtain ⟨he', hm, hz⟩ := hq
    obtain ⟨vs, hm, hvs⟩ := Option.map_eq_some_iff.1 hm
    obtain ⟨cv, hrun, hcv⟩ := results_ok (P := P) r' hm
    obtain ⟨r2, e2⟩ := rel_cut r'.rel (n := h1.length) (by rw [hz]; exact hh1)
    rw [hz] at r2
    rw [hvs] at hcv
    have hcv2 : R (cutZ h1.length Z' κ') w' (cutK h1.length κ') v cv :=
      (hcv.lt hv (fun j hj => show cutK h1.length κ' j = κ' j by simp [cutK, hj])).imp (fun b hz => ⟨.inl hz, rfl⟩) (fun j => .inr (Slot.step_refl _))
    have fin : ∃ v' h' Z2 κ2 c, (v' = v ∧ h' = h1) ∧ Ending.returned cv = .returned c ∧ Rel Z2 κ2 h' w' ∧ R Z2 w' κ2 v' c ∧ Ext Z κ w Z2 κ2 w' ∧ StepLt h.length κ κ2 :=
      ⟨v, h1, _, _, cv, ⟨rfl, rfl⟩, rfl, r2, hcv2, ex.trans e2, st.trans ((stepLt_cut h1.length κ').mono hl)⟩
    cases e with
    | normal => exact ⟨r'.defers, cv, hrun, fin⟩
    | ret => exact ⟨r'.defers, cv, hrun, fin⟩
    | exit id => simp [isEnd] at he'
    | goto l => simp [isEnd] at he'
    | panic ch => simp [isEnd] at he'
    | outgrown => simp [isEnd] at he'
theorem XCall.mk' {f : FuncId} {fn : Func} {c : Code} {rs : List ResultVar} {N : Nat} {args : List AV} {h0 h1 : AHeap} {v : AV} (lit : TypeId → Bool) (hf : P.funcs[f]? = some fn) (hb : fn.body = some c) (hrs : fn.results.toList = rs) (hN : args.length + (fn.ntmps - args.length) = N) (he : Ent P f)
    (ha : args.all (refsLt h0.length) = true) (hh : h0.all (ABlk.refsLt h0.length) = true) (hv : refsLt h1.length v = true) (hl : h0.length ≤ h1.length) (hh1 : h1.all (ABlk.refsLt h1.length) = true)
    (hx : args.all fits = true → AX P lit h0.length c (PostO P rs v h1) ⟨N, initT args, h0⟩) : XCall P f args h0 v h1 := by
  refine ⟨ha, hh, hv, hl, hh1, ?_⟩
  by_cases hfit : args.all fits = true
  · exact ACall.own lit hf hb hrs hN he hv hl hh1 (hx hfit)
  · exact ⟨he, fun Z κ w cargs r hr => absurd hr.fits hfit⟩
@[simp] theorem PostO_def (rs : List ResultVar) (v : AV) (h1 : AHeap) (e : Exit) (s : AState) : PostO P rs v h1 e s = (isEnd e = true ∧ (rs.mapM (resA P s)).map resV = some v ∧ s.h.take h1.length = h1) := rfl

/-- The same, where a result of no length may lie in no block yet. -/
def PostE (P : Program) (rs : List ResultVar) (k : Nat) (v : AV) (h1 : AHeap) (e : Exit) (s : AState) : Prop :=
  PostO P rs v h1 e s ∨ ∃ t, rs = [.tmp t] ∧ s.T t = .sl true 0 [] ∧ isEnd e = true ∧ v = .own s.h.length 0 0 0 k ∧ h1 = s.h ++ [.cells 0 []]
theorem AX.postE {n : Nat} {lit : TypeId → Bool} {c : Code} {rs : List ResultVar} {k : Nat} {v : AV} {h1 : AHeap} {s : AState} (hx : AX P lit n c (PostE P rs k v h1) s) {Z : Nat → Prop} {κ : Nat → Slot} {a : Act} {w : World} (r : SRel Z κ s a w) (hn : n ≤ s.h.length) :
    c.wp P (fun e a' w' => After n (PostO P rs v h1 e) Z κ w a' w') a w := by
  refine wp_mono (AX_ok c _ _ hx Z κ a w r hn) fun e a' w' ha => ?_
  obtain ⟨s', Z', κ', hq, r', ex, st, hn'⟩ := ha
  rcases hq with hq | ⟨t, rfl, ht, he, rfl, rfl⟩
  · exact ⟨s', Z', κ', hq, r', ex, st, hn'⟩
  · obtain ⟨κ2, r2, e2, st2, hn2⟩ := Wk.ownNil (n := n) (s := s') t k ht Z' κ' a' w' r' hn'
    refine ⟨_, Z', κ2, ⟨he, ?_, List.take_of_length_le (by simp)⟩, r2, ex.trans e2, st.trans st2, hn2⟩
    simp [resA, resV, put_same]
theorem ACall.ownE (k : Nat) {f : FuncId} {fn : Func} {c : Code} {rs : List ResultVar} {N : Nat} {args : List AV} {h1 : AHeap} {v : AV} (lit : TypeId → Bool) (hf : P.funcs[f]? = some fn) (hb : fn.body = some c) (hrs : fn.results.toList = rs) (hN : args.length + (fn.ntmps - args.length) = N) (he : Ent P f)
    (hv : refsLt h1.length v = true) (hl : h.length ≤ h1.length) (hh1 : h1.all (ABlk.refsLt h1.length) = true)
    (hx : AX P lit h.length c (PostE P rs k v h1) ⟨N, initT args, h⟩) : ACall P f args h (fun v' h' => v' = v ∧ h' = h1) := by
  subst hrs hN
  refine ⟨he, fun Z κ w cargs r hr => ?_⟩
  refine calls_of_wp hf hb (wp_mono (AX.postE hx (Z := Z) (κ := κ) ?_ (Nat.le_refl _)) ?_)
  · have hl := hr.length
    refine ⟨r, by simp [hl], fun j => ?_, rfl⟩
    simp only [initT, Array.getD_eq_getD_getElem?, Array.getElem?_append, List.size_toArray, List.getD]
    by_cases hj : j < cargs.length
    · rw [if_pos hj]
      obtain ⟨v, hv, hvr⟩ := hr.get j (args[j]'(by omega)) (by simp [hl ▸ hj])
      have : args[j]? = some (args[j]'(by omega)) := by simp [hl ▸ hj]
      rw [this]
      simpa [hv] using hvr
    · rw [if_neg hj]
      have : args[j]? = none := List.getElem?_eq_none (by omega)
      rw [this]
      exact .any
  · intro e a' w' ha
    obtain ⟨s', Z', κ', hq, r', ex, st, hn⟩ := ha
    obtain ⟨he', hm, hz⟩ := hq
    obtain ⟨vs, hm, hvs⟩ := Option.map_eq_some_iff.1 hm
    obtain ⟨cv, hrun, hcv⟩ := results_ok (P := P) r' hm
    obtain ⟨r2, e2⟩ := rel_cut r'.rel (n := h1.length) (by rw [hz]; exact hh1)
    rw [hz] at r2
    rw [hvs] at hcv
    have hcv2 : R (cutZ h1.length Z' κ') w' (cutK h1.length κ') v cv :=
      (hcv.lt hv (fun j hj => show cutK h1.length κ' j = κ' j by simp [cutK, hj])).imp (fun b hz => ⟨.inl hz, rfl⟩) (fun j => .inr (Slot.step_refl _))
    have fin : ∃ v' h' Z2 κ2 c, (v' = v ∧ h' = h1) ∧ Ending.returned cv = .returned c ∧ Rel Z2 κ2 h' w' ∧ R Z2 w' κ2 v' c ∧ Ext Z κ w Z2 κ2 w' ∧ StepLt h.length κ κ2 :=
      ⟨v, h1, _, _, cv, ⟨rfl, rfl⟩, rfl, r2, hcv2, ex.trans e2, st.trans ((stepLt_cut h1.length κ').mono hl)⟩
    cases e with
    | normal => exact ⟨r'.defers, cv, hrun, fin⟩
    | ret => exact ⟨r'.defers, cv, hrun, fin⟩
    | exit id => simp [isEnd] at he'
    | goto l => simp [isEnd] at he'
    | panic ch => simp [isEnd] at he'
    | outgrown => simp [isEnd] at he'
theorem XCall.mkE (k : Nat) {f : FuncId} {fn : Func} {c : Code} {rs : List ResultVar} {N : Nat} {args : List AV} {h0 h1 : AHeap} {v : AV} (lit : TypeId → Bool) (hf : P.funcs[f]? = some fn) (hb : fn.body = some c) (hrs : fn.results.toList = rs) (hN : args.length + (fn.ntmps - args.length) = N) (he : Ent P f)
    (ha : args.all (refsLt h0.length) = true) (hh : h0.all (ABlk.refsLt h0.length) = true) (hv : refsLt h1.length v = true) (hl : h0.length ≤ h1.length) (hh1 : h1.all (ABlk.refsLt h1.length) = true)
    (hx : args.all fits = true → AX P lit h0.length c (PostE P rs k v h1) ⟨N, initT args, h0⟩) : XCall P f args h0 v h1 := by
  refine ⟨ha, hh, hv, hl, hh1, ?_⟩
  by_cases hfit : args.all fits = true
  · exact ACall.ownE k lit hf hb hrs hN he hv hl hh1 (hx hfit)
  · exact ⟨he, fun Z κ w cargs r hr => absurd hr.fits hfit⟩
@[simp] theorem PostE_def (rs : List ResultVar) (k : Nat) (v : AV) (h1 : AHeap) (e : Exit) (s : AState) : PostE P rs k v h1 e s = (PostO P rs v h1 e s ∨ ∃ t, rs = [.tmp t] ∧ s.T t = .sl true 0 [] ∧ isEnd e = true ∧ v = .own s.h.length 0 0 0 k ∧ h1 = s.h ++ [.cells 0 []]) := rfl

/-! ### at a call -/
theorem XCall.at {f : FuncId} {args args' : List AV} {h0 h1 : AHeap} {v : AV} (hc : XCall P f args h0 v h1) (L : List Nat) (hn : L.Nodup) (hl : L.length = h0.length) (ha : args' = args.map (ren (ρL L))) (hb : atB (ρL L) h 0 h0) :
    ACall P f args' h (fun v' h' => v' = ren (Cx.grow (ρL L) h0.length h.length) v ∧ h' = Cx.lay (Cx.grow (ρL L) h0.length h.length) 0 (h1.take h0.length) h ++ (h1.drop h0.length).map (renB (Cx.grow (ρL L) h0.length h.length))) := by
  subst ha
  have hget : ∀ i x, h0[i]? = some x → h[ρL L i]? = some (renB (ρL L) x) := fun i x hx => by
    have := atB_get (ρL L) h0 0 hb i x hx
    rwa [Nat.zero_add] at this
  exact ACall.grow hc (ρL L) (fun i j hi hj => ρL_inj hn i j (by omega) (by omega)) (fun i hi => (List.getElem?_eq_some_iff.1 (hget i h0[i] (by simp [hi]))).1) hget
theorem AInv.fresh {f : FuncId} {cap args args0 : List AV} {h0 h1 : AHeap} {v : AV} {Q : AV → AHeap → Prop} (L : List Nat) (hc : XCall P f args0 h0 v h1) (ha : args ++ cap = args0.map (ren (ρL L))) (hb : atB (ρL L) h 0 h0)
    (hq : Q (ren (Cx.grow (ρL L) h0.length h.length) v) (Cx.lay (Cx.grow (ρL L) h0.length h.length) 0 (h1.take h0.length) h ++ (h1.drop h0.length).map (renB (Cx.grow (ρL L) h0.length h.length)))) (hn : L.Nodup := by decide) (hl : L.length = h0.length := by rfl) : AInv P (.fn f cap) args h Q :=
  .of ((hc.at L hn hl ha hb).mono fun v' h' ⟨h1, h2⟩ => by rw [h1, h2]; exact hq)
attribute [simp] Cx.grow
end Go.Cx
