/- Arguments opened, their bulk told. -/
import Derived.Test.YtjelapkglkcoiaaCxY
set_option linter.unusedVariables false
set_option linter.unusedSimpArgs false
namespace Go.Cx
open Go.ChangeShapes Go.WideShapes
variable {P : Program} {W : World}

mutual
/-- Letters and values of a reading, as far as they count here. -/
def blk {H : Type} : DataW H → Nat
  | .lit (.string bytes) => bytes.length + 1
  | .slice elems _ => blkAll elems + 1
  | .agg parts => blkAll parts + 1
  | _ => 1
def blkAll {H : Type} : List (DataW H) → Nat
  | [] => 0
  | d :: r => blk d + blkAll r
end
theorem blkAll_append {H : Type} : ∀ l r : List (DataW H), blkAll (l ++ r) = blkAll l + blkAll r
  | [], r => by simp [blkAll]
  | d :: l, r => by rw [List.cons_append, blkAll, blkAll, blkAll_append l r]; omega

def OpnB (P : Program) (W : World) (t : TypeId) (A : List AV → Nat → Prop) : Prop :=
  ∀ (H : Type) (enc : TypeId × Value → H) (fuel : Nat) (cs : List Value) (x : DataW H × List MemPlace), DataW.trod enc P W 0 (fun _ => true) true fuel t cs = some x → ∃ as, A as (blk x.1) ∧ Rs (Zw W) W noK as cs
theorem OpnB.mono {t : TypeId} {A B : List AV → Nat → Prop} (h : OpnB P W t A) (hab : ∀ as b, A as b → B as b) : OpnB P W t B := fun H enc fuel cs x hx =>
  let ⟨as, ha, hr⟩ := h H enc fuel cs x hx
  ⟨as, hab as _ ha, hr⟩
theorem Opn.b {t : TypeId} {A : List AV → Prop} (h : Opn P W t A) : OpnB P W t (fun as _ => A as) := fun H enc fuel cs x hx => h H enc fuel cs x hx
theorem opnB_string {t : TypeId} (ht : P.underlying t = some .string) : OpnB P W t (fun as b => ∃ s : ByteArray, as = [.val (.string s)] ∧ s.size ≤ maxLen ∧ s.size + 1 ≤ b) := fun H enc fuel cs x hx => by
  obtain ⟨s, rfl, rfl, hs⟩ := DataW.trod_string ht hx
  exact ⟨_, ⟨s, rfl, hs, by simp [blk]⟩, .cons (.val rfl) .nil⟩

inductive OpnFsB (P : Program) (W : World) : List (Nat × TypeId) → Nat → Nat → (List AV → Nat → Prop) → Prop
  | nil {n : Nat} : OpnFsB P W [] n n (fun as _ => as = [])
  | cons {off k n : Nat} {ft : TypeId} {fs : List (Nat × TypeId)} {A B : List AV → Nat → Prop} : OpnB P W ft A → tsize P ft = some k → OpnFsB P W fs (off + k) n B →
      OpnFsB P W ((off, ft) :: fs) off n (fun as b => ∃ a c b1 b2, b1 + b2 ≤ b ∧ A a b1 ∧ B c b2 ∧ as = a ++ c)
theorem OpnFsB.rs {fs : List (Nat × TypeId)} {off n : Nat} {B : List AV → Nat → Prop} (h : OpnFsB P W fs off n B) : ∀ (H : Type) (enc : TypeId × Value → H) (fuel : Nat) (cs : List Value) (xs : List (DataW H × List MemPlace)), cs.length = n → xs.length = fs.length →
    (∀ (i : Nat) p, fs[i]? = some p → DataW.trod enc P W 0 (fun _ => true) true fuel p.2 ((cs.drop p.1).take (P.cellsOf p.2)) = xs[i]?) → ∃ as, B as (blkAll (xs.map (·.1))) ∧ Rs (Zw W) W noK as (cs.drop off) := by
  induction h with
  | nil => intro H enc fuel cs xs hl _ _; exact ⟨[], rfl, by rw [List.drop_eq_nil_of_le (by omega)]; exact .nil⟩
  | @cons off k n ft fs A B ha hk hfs ih =>
    intro H enc fuel cs xs hl hxl hall
    cases xs with
    | nil => simp at hxl
    | cons x xs =>
      have hx := hall 0 (off, ft) rfl
      simp only [List.getElem?_cons_zero] at hx
      obtain ⟨a, hA, hr⟩ := ha H enc fuel _ x hx
      obtain ⟨b, hB, hr2⟩ := ih H enc fuel cs xs hl (by simpa using hxl) fun i p hp => by simpa using hall (i + 1) p (by simpa using hp)
      refine ⟨a ++ b, ⟨a, b, _, _, Nat.le_of_eq (by simp [blkAll]), hA, hB, rfl⟩, ?_⟩
      rw [cellsOf_tsize hk] at hr
      have : cs.drop off = (cs.drop off).take k ++ cs.drop (off + k) := by
        rw [← List.drop_drop, List.take_append_drop]
      rw [this]
      exact hr.append hr2
theorem opnB_struct {t : TypeId} {fs : List (Nat × TypeId)} {n : Nat} {B : List AV → Nat → Prop} (ht : tstruct P t = some fs) (hs : tsize P t = some n) (h : OpnFsB P W fs 0 n B) : OpnB P W t (fun as b => ∃ b', b' + 1 ≤ b ∧ B as b') := fun H enc fuel cs x hx => by
  unfold tstruct at ht
  split at ht
  · rename_i fa hu
    injection ht with ht; subst ht
    obtain ⟨xs, m, _, rfl, hl, hxl, hall⟩ := DataW.trod_struct hu hx
    rw [cellsOf_tsize hs] at hl
    have := h.rs H enc m cs xs hl (by simpa using hxl) fun i p hp => by
      rw [List.getElem?_map] at hp
      obtain ⟨f, hf, rfl⟩ := Option.map_eq_some_iff.1 hp
      exact hall i f (by simpa using hf)
    obtain ⟨as, hB, hr⟩ := this
    exact ⟨as, ⟨_, by simp [blk], hB⟩, by simpa using hr⟩
  · cases ht

theorem opnB_slice {t e : TypeId} {k : Nat} {A : List AV → Nat → Prop} (ht : telem P t = some e) (hk : tsize P e = some k) (h0 : 0 < k) (he : OpnB P W e A) :
    OpnB P W t (fun as b => ∃ l : List (List AV × Nat), (∀ x ∈ l, A x.1 x.2 ∧ x.1.length = k) ∧ (l.map (·.2)).sum + 1 ≤ b ∧ as = [.sl false l.length (l.map (·.1)).flatten]) := fun H enc fuel cs x hx => by
  have hc := cellsOf_tsize hk
  rcases DataW.trod_slice (run_telem ht) hx with ⟨rfl, rfl⟩ | ⟨a, len, cap, elems, rest, n, _, rfl, rfl, _, hlc, hcap, hel, hall, _, _⟩
  · exact ⟨_, ⟨[], by simp, by simp [blk], rfl⟩, .cons (.sl0 (by simp) (by simp [maxLen])) .nil⟩
  · rw [hc] at hall
    have key : ∀ m, m ≤ len → ∃ (l : List (List AV × Nat)) (us : List Value), l.length = m ∧ (∀ x ∈ l, A x.1 x.2 ∧ x.1.length = k) ∧ (l.map (·.2)).sum = blkAll ((elems.take m).map (·.1)) ∧ us.length = m * k ∧ CellsAt W a us ∧ Rs (Zw W) W noK (l.map (·.1)).flatten us := by
      intro m
      induction m with
      | zero => intro _; exact ⟨[], [], rfl, by simp, by simp [blkAll], by simp, fun j u hj => by simp at hj, .nil⟩
      | succ m ih =>
        intro hm
        obtain ⟨l, us, h1, h2, hb, h3, h4, h5⟩ := ih (by omega)
        have hm' := hall m (by omega)
        have hlt : m < elems.length := by omega
        rw [List.getElem?_eq_getElem hlt] at hm'
        obtain ⟨cs, hcs, htr⟩ := Option.bind_eq_some_iff.1 hm'
        obtain ⟨as, ha, hr⟩ := he H enc n cs _ htr
        obtain ⟨hl, hcell⟩ := cells?_spec hcs
        have hal : as.length = k := by rw [hr.length, hl]
        refine ⟨l ++ [(as, blk (elems[m]).1)], us ++ cs, by simp [h1], ?_, ?_, by simp [h3, hl, Nat.add_mul], fun j u hj => ?_, ?_⟩
        · intro x hx
          rcases List.mem_append.1 hx with h | h
          · exact h2 x h
          · rw [List.mem_singleton.1 h]; exact ⟨ha, hal⟩
        · rw [List.take_succ_eq_append_getElem hlt, List.map_append, List.map_append, blkAll_append, List.sum_append, hb]
          simp [blkAll]
        · rcases Nat.lt_or_ge j us.length with hj1 | hj1
          · rw [List.getElem?_append_left hj1] at hj; exact h4 j u hj
          · rw [List.getElem?_append_right hj1] at hj
            have := hcell _ u hj
            rw [add2] at this
            rw [← this]; congr 2; omega
        · rw [List.map_append, List.flatten_append]
          exact h5.append (by simpa using hr)
    obtain ⟨l, us, h1, h2, hb, h3, h4, h5⟩ := key len (Nat.le_refl _)
    refine ⟨_, ⟨l, h2, ?_, rfl⟩, .cons ?_ .nil⟩
    · rw [hb, List.take_of_length_le (by omega)]; simp [blk]
    · rcases Nat.eq_zero_or_pos len with hz | hz
      · have : l = [] := List.eq_nil_of_length_eq_zero (by omega)
        subst this
        subst hz
        exact .sl0 (by simp) hcap
      · rw [h1]
        refine .sl hz hlc (by simp) hcap ?_ h4 h5
        have hpos : 0 < us.length := by rw [h3]; exact Nat.mul_pos hz h0
        have := cell_lt (h4 0 us[0] (by simp [hpos]))
        have e : (a.add 0).block = a.block := by unfold Addr.add; split <;> rfl
        rw [e] at this
        exact this
theorem rowsB_of {α : Type} {enc : α → List AV} {p : α → Nat → Prop} : ∀ l : List (List AV × Nat), (∀ x ∈ l, ∃ c, x.1 = enc c ∧ p c x.2) → ∃ cs : List (α × Nat), l.map (·.1) = cs.map (fun c => enc c.1) ∧ l.map (·.2) = cs.map (·.2) ∧ ∀ c ∈ cs, p c.1 c.2
  | [], _ => ⟨[], rfl, rfl, by simp⟩
  | x :: l, h => by
    obtain ⟨c, hc, hp⟩ := h x (by simp)
    obtain ⟨cs, h1, h2, hps⟩ := rowsB_of l fun y hy => h y (by simp [hy])
    refine ⟨(c, x.2) :: cs, by simp [hc, h1], by simp [h2], ?_⟩
    intro y hy
    rcases List.mem_cons.1 hy with rfl | hy
    · exact hp
    · exact hps y hy
/-- A row of records, each with what it weighs. -/
theorem opnB_rows {α : Type} {enc : α → List AV} {p : α → Prop} {wt : α → Nat} {t e : TypeId} {k : Nat} (ht : telem P t = some e) (hk : tsize P e = some k) (h0 : 0 < k) (he : OpnB P W e (fun as b => ∃ c, as = enc c ∧ p c ∧ wt c ≤ b)) :
    OpnB P W t (fun as b => ∃ cs : List α, as = [.sl false cs.length (cs.flatMap enc)] ∧ (∀ c ∈ cs, p c) ∧ (cs.map wt).sum + 1 ≤ b) :=
  (opnB_slice ht hk h0 he).mono fun as b ⟨l, hl, hb, ha⟩ => by
    obtain ⟨cs, h1, h2, hp⟩ := rowsB_of (p := fun c b => p c ∧ wt c ≤ b) l fun x hx => by
      obtain ⟨c, h1, h2, h3⟩ := (hl x hx).1
      exact ⟨c, h1, h2, h3⟩
    have hlen : l.length = cs.length := by have := congrArg List.length h1; simpa using this
    have hsum : ((cs.map (·.1)).map wt).sum ≤ (cs.map (·.2)).sum := by
      clear h1 h2 hlen ha
      induction cs with
      | nil => simp
      | cons c cs ih =>
        have := (hp c (by simp)).2
        have := ih fun x hx => hp x (by simp [hx])
        simp at this ⊢
        omega
    refine ⟨cs.map (·.1), ?_, ?_, ?_⟩
    · rw [ha, h1, hlen]; simp [List.flatMap_def, List.map_map, Function.comp_def]
    · intro c hc
      obtain ⟨y, hy, rfl⟩ := List.mem_map.1 hc
      exact (hp y hy).1
    · rw [h2] at hb; omega
theorem argB_struct {H : Type} {enc : TypeId × Value → H} {base : Nat} {t : TypeId} {fs : List (Nat × TypeId)} {v : Value} {d : DataW H} {ps : List MemPlace} {A : List AV → Nat → Prop} (ht : tstruct P t = some fs) (hv : Value.okWide P W .any base t v) (h : DataW.Trod enc P W 0 (fun _ => true) true t v d ps) (ha : OpnB P W t A) :
    ∃ as, A as (blk d) ∧ R (Zw W) W noK (.agg as) v := by
  unfold tstruct at ht
  split at ht
  · rename_i fa hu
    obtain ⟨cs, rfl, _⟩ := okWide_struct hu hv
    obtain ⟨fuel, hf⟩ := h
    obtain ⟨as, hA, hr⟩ := ha H enc fuel _ _ hf
    exact ⟨as, hA, by have := R.agg hr; simpa [Value.cells] using this⟩
  · cases ht
theorem argB_one {H : Type} {enc : TypeId × Value → H} {t : TypeId} {v : Value} {d : DataW H} {ps : List MemPlace} {A : List AV → Nat → Prop} (hone : v.cells.toList = [v]) (h : DataW.Trod enc P W 0 (fun _ => true) true t v d ps) (ha : OpnB P W t A) :
    ∃ a, A [a] (blk d) ∧ R (Zw W) W noK a v := by
  obtain ⟨fuel, hf⟩ := h
  obtain ⟨as, hA, hr⟩ := ha H enc fuel _ _ hf
  rw [hone] at hr
  cases hr with
  | cons h1 h2 => cases h2; exact ⟨_, hA, h1⟩
end Go.Cx
