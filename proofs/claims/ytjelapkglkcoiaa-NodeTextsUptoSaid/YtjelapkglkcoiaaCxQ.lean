/- The frame of a claim: what is handed in, as abstract values; what is told behind the call. -/
import Derived.Test.YtjelapkglkcoiaaCxP
import Derived.ChangeArms
import Derived.ChangeSame
import Derived.Carry
import Derived.RowKit
import Derived.Handed
import Derived.JoinedOf
set_option linter.unusedVariables false
set_option linter.unusedSimpArgs false
namespace Go.Cx
open Go.ChangeShapes Go.WideShapes
variable {P : Program} {W : World}

def Zw (W : World) : Nat → Prop := fun b => b < W.heap.size
def noK : Nat → Slot := fun _ => .hole

/-- What is read at this type is told so. -/
def Opn (P : Program) (W : World) (t : TypeId) (A : List AV → Prop) : Prop :=
  ∀ (H : Type) (enc : TypeId × Value → H) (fuel : Nat) (cs : List Value) (x : DataW H × List MemPlace), DataW.trod enc P W 0 (fun _ => true) true fuel t cs = some x → ∃ as, A as ∧ Rs (Zw W) W noK as cs

theorem Opn.mono {t : TypeId} {A B : List AV → Prop} (h : Opn P W t A) (hab : ∀ as, A as → B as) : Opn P W t B := fun H enc fuel cs x hx =>
  let ⟨as, ha, hr⟩ := h H enc fuel cs x hx
  ⟨as, hab as ha, hr⟩

theorem opn_bool {t : TypeId} (ht : P.underlying t = some .bool) : Opn P W t (fun as => ∃ b, as = [.val (.bool b)]) := fun H enc fuel cs x hx => by
  obtain ⟨b, rfl, _⟩ := DataW.trod_bool ht hx
  exact ⟨_, ⟨b, rfl⟩, .cons (.val rfl) .nil⟩
def inI (n : Int) : Prop := -9223372036854775808 ≤ n ∧ n < 9223372036854775808
theorem opn_int {t : TypeId} (ht : P.underlying t = some (.int .i64)) : Opn P W t (fun as => ∃ n, as = [.val (.int .i64 n)] ∧ inI n) := fun H enc fuel cs x hx => by
  obtain ⟨n, rfl, _, hw⟩ := DataW.trod_int ht hx
  refine ⟨_, ⟨n, rfl, ?_⟩, .cons (.val rfl) .nil⟩
  have h1 : IntKind.i64.min = -9223372036854775808 := rfl
  have h2 : IntKind.i64.max = 9223372036854775807 := rfl
  simp only [Lit.wf, h1, h2, Bool.and_eq_true, decide_eq_true_eq] at hw
  simp only [inI]; omega
theorem opn_string {t : TypeId} (ht : P.underlying t = some .string) : Opn P W t (fun as => ∃ s : ByteArray, as = [.val (.string s)] ∧ s.size ≤ maxLen) := fun H enc fuel cs x hx => by
  obtain ⟨s, rfl, _, hs⟩ := DataW.trod_string ht hx
  exact ⟨_, ⟨s, rfl, hs⟩, .cons (.val rfl) .nil⟩

theorem cellsOf_tsize {t : TypeId} {k : Nat} (h : tsize P t = some k) : P.cellsOf t = k := by
  simp only [tsize] at h
  simp only [Program.cellsOf, h, Option.getD_some]

theorem cells?_spec {a : Addr} {n : Nat} {cs : List Value} (h : W.cells? 0 a n = some cs) : cs.length = n ∧ ∀ j u, cs[j]? = some u → W.cell? (a.add j) = some u := by
  simp only [World.cells?, Nat.zero_le, if_true] at h
  refine ⟨by simpa using mapM_some_length h, fun j u hj => ?_⟩
  have hlt : j < n := by
    have := mapM_some_length h
    have h2 := (List.getElem?_eq_some_iff.1 hj).1
    simp at this; omega
  have := mapM_some_get h j j (by simp [hlt])
  rw [this, hj]

theorem add2 (a : Addr) (m n : Nat) : (a.add m).add n = a.add (m + n) := by
  unfold Addr.add
  by_cases h1 : m = 0
  · simp [h1]
  · by_cases h2 : n = 0
    · simp [h2]
    · simp [h1, h2, Nat.add_assoc]
theorem cell_lt {a : Addr} {u : Value} (h : W.cell? a = some u) : a.block < W.heap.size := by
  unfold World.cell? at h
  rcases Nat.lt_or_ge a.block W.heap.size with h1 | h1
  · exact h1
  · rw [Array.getElem?_eq_none h1] at h; simp at h

theorem opn_slice {t e : TypeId} {k : Nat} {A : List AV → Prop} (ht : telem P t = some e) (hk : tsize P e = some k) (h0 : 0 < k) (he : Opn P W e A) :
    Opn P W t (fun as => ∃ l : List (List AV), (∀ x ∈ l, A x ∧ x.length = k) ∧ as = [.sl false l.length l.flatten]) := fun H enc fuel cs x hx => by
  have hc := cellsOf_tsize hk
  rcases DataW.trod_slice (run_telem ht) hx with ⟨rfl, _⟩ | ⟨a, len, cap, elems, rest, n, _, rfl, _, _, hlc, hcap, hel, hall, _, _⟩
  · exact ⟨_, ⟨[], by simp, rfl⟩, .cons (.sl0 (by simp) (by simp [maxLen])) .nil⟩
  · rw [hc] at hall
    have key : ∀ m, m ≤ len → ∃ (l : List (List AV)) (us : List Value), l.length = m ∧ (∀ x ∈ l, A x ∧ x.length = k) ∧ us.length = m * k ∧ CellsAt W a us ∧ Rs (Zw W) W noK l.flatten us := by
      intro m
      induction m with
      | zero => intro _; exact ⟨[], [], rfl, by simp, by simp, fun j u hj => by simp at hj, .nil⟩
      | succ m ih =>
        intro hm
        obtain ⟨l, us, h1, h2, h3, h4, h5⟩ := ih (by omega)
        have hm' := hall m (by omega)
        have hlt : m < elems.length := by omega
        rw [List.getElem?_eq_getElem hlt] at hm'
        obtain ⟨cs, hcs, htr⟩ := Option.bind_eq_some_iff.1 hm'
        obtain ⟨as, ha, hr⟩ := he H enc n cs _ htr
        obtain ⟨hl, hcell⟩ := cells?_spec hcs
        have hal : as.length = k := by rw [hr.length, hl]
        refine ⟨l ++ [as], us ++ cs, by simp [h1], ?_, by simp [h3, hl, Nat.add_mul], fun j u hj => ?_, ?_⟩
        · intro x hx
          rcases List.mem_append.1 hx with h | h
          · exact h2 x h
          · rw [List.mem_singleton.1 h]; exact ⟨ha, hal⟩
        · rcases Nat.lt_or_ge j us.length with hj1 | hj1
          · rw [List.getElem?_append_left hj1] at hj; exact h4 j u hj
          · rw [List.getElem?_append_right hj1] at hj
            have := hcell _ u hj
            rw [add2] at this
            rw [← this]; congr 2; omega
        · rw [List.flatten_append]
          exact h5.append (by simpa using hr)
    obtain ⟨l, us, h1, h2, h3, h4, h5⟩ := key len (Nat.le_refl _)
    refine ⟨_, ⟨l, h2, rfl⟩, .cons ?_ .nil⟩
    rcases Nat.eq_zero_or_pos len with hz | hz
    · have : l = [] := List.eq_nil_of_length_eq_zero (by omega)
      subst this
      subst hz
      exact .sl0 (by simp) hcap
    · rw [h1]
      refine .sl hz hlc (by simp) hcap ?_ h4 h5
      have hpos : 0 < us.length := by rw [h3]; exact Nat.mul_pos hz h0
      have := cell_lt (h4 0 us[0] (by simp [hpos]))
      have e : (a.add 0).block = a.block := by unfold Addr.add; split <;> rfl
      rw [e] at this
      exact this

def tstruct (P : Program) (t : TypeId) : Option (List (Nat × TypeId)) :=
  match P.underlying t with
  | some (.struct fs) => some (fs.toList.map fun f => (f.offset, f.type))
  | _ => none

inductive OpnFs (P : Program) (W : World) : List (Nat × TypeId) → Nat → Nat → (List AV → Prop) → Prop
  | nil {n : Nat} : OpnFs P W [] n n (fun as => as = [])
  | cons {off k n : Nat} {ft : TypeId} {fs : List (Nat × TypeId)} {A B : List AV → Prop} : Opn P W ft A → tsize P ft = some k → OpnFs P W fs (off + k) n B → OpnFs P W ((off, ft) :: fs) off n (fun as => ∃ a b, A a ∧ B b ∧ as = a ++ b)

theorem OpnFs.rs {fs : List (Nat × TypeId)} {off n : Nat} {B : List AV → Prop} (h : OpnFs P W fs off n B) : ∀ (H : Type) (enc : TypeId × Value → H) (fuel : Nat) (cs : List Value), cs.length = n →
    (∀ p ∈ fs, ∃ x, DataW.trod enc P W 0 (fun _ => true) true fuel p.2 ((cs.drop p.1).take (P.cellsOf p.2)) = some x) → ∃ as, B as ∧ Rs (Zw W) W noK as (cs.drop off) := by
  induction h with
  | nil => intro H enc fuel cs hl _; exact ⟨[], rfl, by rw [List.drop_eq_nil_of_le (by omega)]; exact .nil⟩
  | @cons off k n ft fs A B ha hk hfs ih =>
    intro H enc fuel cs hl hall
    obtain ⟨x, hx⟩ := hall (off, ft) (by simp)
    obtain ⟨a, hA, hr⟩ := ha H enc fuel _ x hx
    obtain ⟨b, hB, hr2⟩ := ih H enc fuel cs hl fun p hp => hall p (by simp [hp])
    refine ⟨a ++ b, ⟨a, b, hA, hB, rfl⟩, ?_⟩
    rw [cellsOf_tsize hk] at hr
    have : cs.drop off = (cs.drop off).take k ++ cs.drop (off + k) := by
      rw [← List.drop_drop, List.take_append_drop]
    rw [this]
    exact hr.append hr2

theorem opn_struct {t : TypeId} {fs : List (Nat × TypeId)} {n : Nat} {B : List AV → Prop} (ht : tstruct P t = some fs) (hs : tsize P t = some n) (h : OpnFs P W fs 0 n B) : Opn P W t B := fun H enc fuel cs x hx => by
  unfold tstruct at ht
  split at ht
  · rename_i fa hu
    injection ht with ht; subst ht
    obtain ⟨xs, m, _, _, hl, hxl, hall⟩ := DataW.trod_struct hu hx
    rw [cellsOf_tsize hs] at hl
    have := h.rs H enc m cs hl fun p hp => by
      obtain ⟨f, hf, rfl⟩ := List.mem_map.1 hp
      obtain ⟨i, hi, hfi⟩ := List.mem_iff_getElem.1 hf
      have h1 : fa[i]? = some f := by simp at hi; simp [hi]; simpa using hfi
      have h2 := hall i f h1
      have h3 : i < xs.length := by simp at hi; omega
      exact ⟨xs[i], by rw [h2]; simp [h3]⟩
    simpa using this
  · cases ht

/-! ### rows of records -/
theorem rows_of {α : Type} {enc : α → List AV} {p : α → Prop} : ∀ l : List (List AV), (∀ x ∈ l, ∃ c, x = enc c ∧ p c) → ∃ cs : List α, l = cs.map enc ∧ ∀ c ∈ cs, p c
  | [], _ => ⟨[], rfl, by simp⟩
  | x :: l, h => by
    obtain ⟨c, rfl, hp⟩ := h x (by simp)
    obtain ⟨cs, rfl, hps⟩ := rows_of l fun y hy => h y (by simp [hy])
    exact ⟨c :: cs, rfl, by simpa using ⟨hp, hps⟩⟩
theorem opn_rows {α : Type} {enc : α → List AV} {p : α → Prop} {t e : TypeId} {k : Nat} (ht : telem P t = some e) (hk : tsize P e = some k) (h0 : 0 < k) (he : Opn P W e (fun as => ∃ c, as = enc c ∧ p c)) :
    Opn P W t (fun as => ∃ cs : List α, as = [.sl false cs.length (cs.flatMap enc)] ∧ ∀ c ∈ cs, p c) :=
  (opn_slice ht hk h0 he).mono fun as ⟨l, hl, ha⟩ => by
    obtain ⟨cs, rfl, hp⟩ := rows_of l fun x hx => (hl x hx).1
    exact ⟨cs, by rw [ha]; simp [List.flatMap_def], hp⟩
theorem flat_one {α β : Type} (f : α → β) : ∀ l : List α, l.flatMap (fun c => [f c]) = l.map f
  | [] => rfl
  | a :: l => by simp [flat_one f l]
theorem opn_rows1 {α : Type} {enc : α → AV} {p : α → Prop} {t e : TypeId} (ht : telem P t = some e) (hk : tsize P e = some 1) (he : Opn P W e (fun as => ∃ c, as = [enc c] ∧ p c)) :
    Opn P W t (fun as => ∃ cs : List α, as = [.sl false cs.length (cs.map enc)] ∧ ∀ c ∈ cs, p c) :=
  (opn_rows (enc := fun c => [enc c]) ht hk (by omega) he).mono fun as ⟨cs, ha, hp⟩ => ⟨cs, by rw [ha]; simp [flat_one], hp⟩

/-! ### arguments -/
theorem arg_struct {H : Type} {enc : TypeId × Value → H} {base : Nat} {t : TypeId} {fs : List (Nat × TypeId)} {v : Value} {d : DataW H} {ps : List MemPlace} {A : List AV → Prop} (ht : tstruct P t = some fs) (hv : Value.okWide P W .any base t v) (h : DataW.Trod enc P W 0 (fun _ => true) true t v d ps) (ha : Opn P W t A) :
    ∃ as, A as ∧ R (Zw W) W noK (.agg as) v := by
  unfold tstruct at ht
  split at ht
  · rename_i fa hu
    obtain ⟨cs, rfl, _⟩ := okWide_struct hu hv
    obtain ⟨fuel, hf⟩ := h
    obtain ⟨as, hA, hr⟩ := ha H enc fuel _ _ hf
    exact ⟨as, hA, by have := R.agg hr; simpa [Value.cells] using this⟩
  · cases ht
theorem arg_one {H : Type} {enc : TypeId × Value → H} {t : TypeId} {v : Value} {d : DataW H} {ps : List MemPlace} {A : List AV → Prop} (hone : v.cells.toList = [v]) (h : DataW.Trod enc P W 0 (fun _ => true) true t v d ps) (ha : Opn P W t A) :
    ∃ a, A [a] ∧ R (Zw W) W noK a v := by
  obtain ⟨fuel, hf⟩ := h
  obtain ⟨as, hA, hr⟩ := ha H enc fuel _ _ hf
  rw [hone] at hr
  cases hr with
  | cons h1 h2 => cases h2; exact ⟨_, hA, h1⟩

/-! ### behind the call -/
theorem ext_same {Z' : Nat → Prop} {κ' : Nat → Slot} {W' : World} (e : Ext (Zw W) noK W Z' κ' W') {b : Nat} (hb : b < W.heap.size) : W'.heap[b]? = W.heap[b]? := e.keep b hb (no_alive b)
theorem ext_kept {Z' : Nat → Prop} {κ' : Nat → Slot} {W' : World} (e : Ext (Zw W) noK W Z' κ' W') (may : MemPlace → Prop) : W.keptBut W' may := by
  refine ⟨e.os, e.output, fun i hi => ?_⟩
  rw [ext_same e hi]
  cases W.heap[i]? with
  | none => rfl
  | some o => cases o with
    | cells c t fr => exact ⟨rfl, rfl, rfl, fun _ _ => rfl⟩
    | map es cl => exact .inr ⟨rfl, rfl⟩
    | _ => rfl
theorem ext_below {Z' : Nat → Prop} {κ' : Nat → Slot} {W' : World} (e : Ext (Zw W) noK W Z' κ' W') : RowKit.Below W.heap.size W W' := ⟨e.os, e.tape, e.output, e.size, fun k hk => ext_same e hk⟩
theorem ext_frozen {Z' : Nat → Prop} {κ' : Nat → Slot} {W' : World} (e : Ext (Zw W) noK W Z' κ' W') {b off : Nat} (hb : b < W.heap.size) : W'.frozen? ⟨b, off, none⟩ = W.frozen? ⟨b, off, none⟩ := by
  simp only [World.frozen?, ext_same e hb]

theorem post_true {H : Type} {enc : TypeId × Value → H} {f : Func} {s : ChangeSpec} {apart fresh handsOn again : Bool} {args : Array Value} {ds gs : List (DataW H)} {before : List MemPlace} {Z' : Nat → Prop} {κ' : Nat → Slot} {W' : World} {t : TypeId}
    (hW : DataW.Whole enc P f.params.toList s.vars apart W args.toList ds gs before) (e : Ext (Zw W) noK W Z' κ' W') (hvars : s.vars = []) (hspec : s.fn H (ds ++ gs) = { results := [.lit (.bool true)], args := ds })
    (hr : f.resultTypes = #[t]) (ht : P.underlying t = some .bool) (hl : laidOutB P = true) (hps : ∀ t ∈ f.params.toList, P.readableRec t = true ∧ t < P.types.size) : s.post enc P f apart fresh handsOn again W args (.bool true) W' := by
  have hold : ∀ p ∈ before, (fun b => decide (b < W.heap.size)) p.block = true := fun p hp => by simpa using hW.lt p hp
  have hW' := hW
  obtain ⟨pa, pv, hA, hV, hpq, hz, hn⟩ := hW'
  rw [hvars] at hV
  obtain ⟨hg, hpv⟩ : gs = [] ∧ pv = [] := trodVars_none hV
  subst hg hpv
  simp only [List.append_nil] at hpq
  subst hpq
  have hlt : ∀ p ∈ before, p.block < W.heap.size := fun p hp => hW.lt p hp
  have stays : ∀ (sp : Nat → Bool), (∀ p ∈ before, sp p.block = true) → DataW.TrodAll enc P W' 0 sp true f.params.toList args.toList ds before := by
    intro sp hsp
    have go : ∀ (ts : List TypeId) (vs : List Value) (ds : List (DataW H)) (ps : List MemPlace), (∀ t ∈ ts, P.readableRec t = true ∧ t < P.types.size) → (∀ p ∈ ps, p.block < W.heap.size ∧ sp p.block = true) → DataW.TrodAll enc P W 0 (fun _ => true) true ts vs ds ps → DataW.TrodAll enc P W' 0 sp true ts vs ds ps := by
      intro ts
      induction ts with
      | nil => intro vs ds ps _ _ h; cases vs <;> cases ds <;> simp_all [DataW.TrodAll]
      | cons t ts ih =>
        intro vs ds ps ht hp h
        match vs, ds, h with
        | v :: vs, d :: ds, ⟨p, q, h1, h2, hpq⟩ =>
          subst hpq
          refine ⟨p, q, WideElems.Trod_stays hl (ht t (by simp)).1 (ht t (by simp)).2 h1 (fun x hx => (ext_below e).same (hp x (by simp [hx])).1) (fun x hx => (hp x (by simp [hx])).2), ih vs ds q (fun t' h' => ht t' (by simp [h'])) (fun x hx => hp x (by simp [hx])) h2, rfl⟩
    exact go _ _ _ _ hps (fun p hp => ⟨hlt p hp, hsp p hp⟩) hA
  have hres : ∀ (b : Nat) (sp : Nat → Bool), DataW.TrodAll enc P W' b sp true f.resultTypes.toList ((Value.bool true).resultList f.resultTypes.size) (s.fn H (ds ++ [])).results [] := by
    intro b sp
    rw [hspec, hr]
    exact trodAll_mk1 ⟨1, by simp [DataW.trod, Value.cells, ht]⟩
  have hres2 : ∀ (b : Nat) (sp : Nat → Bool), DataW.TrodAll enc P W' b sp handsOn f.resultTypes.toList ((Value.bool true).resultList f.resultTypes.size) (s.fn H (ds ++ [])).results [] := by
    intro b sp
    rw [hspec, hr]
    exact trodAll_mk1 ⟨1, by simp [DataW.trod, Value.cells, ht]⟩
  have hargs : (s.fn H (ds ++ [])).args = ds := by rw [hspec]
  have hv0 : (s.fn H (ds ++ [])).vars = [] := by rw [hspec]
  have hvs : ∀ sp : Nat → Bool, DataW.TrodVars enc P W' sp s.vars (s.fn H (ds ++ [])).vars [] := fun sp => by rw [hvars, hv0]; rfl
  refine ⟨ds, [], before, [], before, [], hW, hres2 _ _, by rw [hargs]; exact stays _ hold, hvs _, World.keptBut_mono (fun p hp => ⟨hp, ?_⟩) (ext_kept e (· ∈ before)), fun _ => ?_⟩
  · exact .inr (.inl hp)
  · refine ⟨?_, _, _, ([] ++ before) ++ [], ⟨[] ++ before, [], trodAll_append (stays _ fun _ _ => rfl) (hres _ _), hvs _, rfl, ?_, ?_⟩, ?_⟩
    · exact RowKit.ok_one hr rfl (by simp [Value.okWide, ht, Cell.okWide, Cell.ok])
    · intro b off hp
      have hp : MemPlace.cell b off ∈ before := by simpa using hp
      have hb : b < W.heap.size := hlt _ hp
      rw [ext_frozen e hb]
      exact hz b off hp
    · intro ha; simpa using hn ha
    · intro p hp _; simpa using hp

/-- A law that only computes and comes to true keeps what it was handed. -/
theorem law_calls {H : Type} {enc : TypeId × Value → H} {f : FuncId} {fn : Func} {s : ChangeSpec} {apart fresh handsOn again : Bool} {args : Array Value} {ds gs : List (DataW H)} {before : List MemPlace} {t : TypeId} {avs : List AV}
    (hp : PCall P f avs (.val (.bool true))) (hrs : Rs (Zw W) W noK avs args.toList)
    (hW : DataW.Whole enc P fn.params.toList s.vars apart W args.toList ds gs before) (hvars : s.vars = []) (hspec : s.fn H (ds ++ gs) = { results := [.lit (.bool true)], args := ds })
    (hr : fn.resultTypes = #[t]) (ht : P.underlying t = some .bool) (hl : laidOutB P = true) (hps : ∀ t ∈ fn.params.toList, P.readableRec t = true ∧ t < P.types.size) :
    Calls P f args W fun e W' => ∃ v, e = .returned v ∧ s.post enc P fn apart fresh handsOn again W args v W' := by
  have h := hp.2.2.2 (Zw W) noK W args.toList (rel_empty fun b hb => hb) hrs
  have ea : args.toList.toArray = args := by simp
  rw [ea] at h
  refine h.mono ?_
  rintro e W' ⟨v, h', Z', κ', c, ⟨rfl, rfl⟩, rfl, r', hv, ex, st⟩
  have hc : c = .bool true := concV_ok hv rfl
  subst hc
  exact ⟨_, rfl, post_true hW ex hvars hspec hr ht hl hps⟩
end Go.Cx
