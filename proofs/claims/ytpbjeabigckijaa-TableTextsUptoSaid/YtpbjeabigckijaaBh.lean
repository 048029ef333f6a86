/- What was decided, in plain Lean. What holds of what was decided; in plain Lean. -/
import Derived.Test.YtpbjeabigckijaaBg
import Derived.Test.YtpbjeabigckijaaBe
set_option linter.unusedVariables false
set_option linter.unusedSimpArgs false
namespace Go.Cx
section
variable {α : Type} (key : α → Int)
theorem rises_same : ∀ {a b : List α}, rises key a = true → rises key b = true → (∀ x, x ∈ a ↔ x ∈ b) → a = b
  | [], [], _, _, _ => rfl
  | [], y :: b, _, _, h => by have := (h y).2 (by simp); cases this
  | x :: a, [], _, _, h => by have := (h x).1 (by simp); cases this
  | x :: a, y :: b, ha, hb, h => by
    obtain ⟨a1, a2⟩ := rises_tail key ha
    obtain ⟨b1, b2⟩ := rises_tail key hb
    have hxy : x = y := by
      rcases List.mem_cons.1 ((h x).1 (by simp)) with e | h1
      · exact e
      rcases List.mem_cons.1 ((h y).2 (by simp)) with e | h2
      · exact e.symm
      have := a2 y h2
      have := b2 x h1
      omega
    subst hxy
    rw [rises_same a1 b1 fun z => ⟨fun hz => ?_, fun hz => ?_⟩]
    · rcases List.mem_cons.1 ((h z).1 (by simp [hz])) with e | h1
      · have := a2 z hz; subst e; omega
      · exact h1
    · rcases List.mem_cons.1 ((h z).2 (by simp [hz])) with e | h1
      · have := b2 z hz; subst e; omega
      · exact h1
theorem findS_none {l : List α} {k : Int} : findS key l k = none ↔ ∀ x ∈ l, key x ≠ k := by
  simp [findS, List.find?_eq_none]
theorem findS_mem {l : List α} {k : Int} {x : α} (h : findS key l k = some x) : x ∈ l ∧ key x = k := by
  refine ⟨List.mem_of_find?_eq_some h, ?_⟩
  have := List.find?_some h
  simpa using this
theorem findS_iff {l : List α} (h : rises key l = true) (k : Int) (x : α) : findS key l k = some x ↔ x ∈ l ∧ key x = k := by
  refine ⟨findS_mem key, fun ⟨h1, h2⟩ => ?_⟩
  cases hf : findS key l k with
  | none => exact absurd h2 ((findS_none key).1 hf x h1)
  | some y =>
    obtain ⟨h3, h4⟩ := findS_mem key hf
    rw [rises_inj key h h1 h3 (by omega)]
theorem findS_same {l l' : List α} (h : rises key l = true) (h' : rises key l' = true) {k : Int} (hm : ∀ n, key n = k → (n ∈ l ↔ n ∈ l')) : findS key l k = findS key l' k := by
  cases hf : findS key l k with
  | some x =>
    obtain ⟨h1, h2⟩ := findS_mem key hf
    exact ((findS_iff key h' k x).2 ⟨(hm x h2).1 h1, h2⟩).symm
  | none =>
    refine ((findS_none key).2 fun x hx hk => ?_).symm
    exact (findS_none key).1 hf x ((hm x hk).2 hx) hk
theorem putS_spec {l : List α} (h : rises key l = true) (x : α) : rises key (putS key l x) = true ∧ ∀ y, y ∈ putS key l x ↔ y = x ∨ (y ∈ l ∧ key y ≠ key x) := by
  have hp := (rises_pair key l).1 h
  have h1 : ∀ y, y ∈ l.takeWhile (fun y => decide (key y < key x)) → key y < key x := fun y hy => by
    simpa using List.all_eq_true.1 (List.all_takeWhile (p := fun y => decide (key y < key x)) (l := l)) y hy
  have h2 : ∀ {l : List α}, l.Pairwise (fun a b => key a < key b) → ∀ y, y ∈ l.dropWhile (fun y => decide (key y ≤ key x)) ↔ y ∈ l ∧ key x < key y := by
    intro l
    induction l with
    | nil => simp
    | cons a l ih =>
      intro hp y
      obtain ⟨p1, p2⟩ := List.pairwise_cons.1 hp
      by_cases ha : key a ≤ key x
      · rw [List.dropWhile_cons_of_pos (by simpa using ha), ih p2, List.mem_cons]
        constructor
        · exact fun q => ⟨.inr q.1, q.2⟩
        · rintro ⟨rfl | q, q2⟩
          · omega
          · exact ⟨q, q2⟩
      · rw [List.dropWhile_cons_of_neg (by simpa using ha)]
        refine ⟨fun q => ⟨q, ?_⟩, fun q => q.1⟩
        rcases List.mem_cons.1 q with rfl | q
        · omega
        · have := p1 y q; omega
  have h3 : ∀ y, y ∈ l → key y < key x → y ∈ l.takeWhile (fun y => decide (key y < key x)) := by
    intro y hy hk
    obtain ⟨i, hi, rfl⟩ := List.getElem_of_mem hy
    have hlt : i < placeS key l (key x) := by
      rcases Nat.lt_or_ge i (placeS key l (key x)) with q | q
      · exact q
      · have := placeS_ge key h (key x) i q hi; omega
    have e := List.IsPrefix.getElem (List.takeWhile_prefix (fun y => decide (key y < key x)) (l := l)) (i := i) hlt
    rw [← e]
    exact List.getElem_mem _
  constructor
  · refine (rises_pair key _).2 (List.pairwise_append.2 ⟨hp.sublist (List.takeWhile_sublist _), List.pairwise_cons.2 ⟨fun y hy => ((h2 hp y).1 hy).2, hp.sublist (List.dropWhile_sublist _)⟩, fun a ha b hb => ?_⟩)
    have := h1 a ha
    rcases List.mem_cons.1 hb with rfl | hb
    · exact this
    · have := ((h2 hp b).1 hb).2; omega
  · intro y
    simp only [putS, List.mem_append, List.mem_cons, h2 hp]
    constructor
    · rintro (q | q | q)
      · exact .inr ⟨(List.takeWhile_sublist _).subset q, by have := h1 y q; omega⟩
      · exact .inl q
      · exact .inr ⟨q.1, by omega⟩
    · rintro (q | ⟨q, q2⟩)
      · exact .inr (.inl q)
      · by_cases hy : key y < key x
        · exact .inl (h3 y q hy)
        · exact .inr (.inr ⟨q, by omega⟩)
theorem findS_put {l : List α} (h : rises key l = true) (x : α) (k : Int) : findS key (putS key l x) k = if k = key x then some x else findS key l k := by
  obtain ⟨h1, h2⟩ := putS_spec key h x
  split
  · rename_i e; subst e
    exact (findS_iff key h1 _ _).2 ⟨(h2 x).2 (.inl rfl), rfl⟩
  · rename_i e
    refine (findS_same key h h1 fun n hn => ?_).symm
    rw [h2]
    refine ⟨fun q => .inr ⟨q, by omega⟩, fun q => ?_⟩
    rcases q with rfl | q
    · omega
    · exact q.1
theorem put_set {l : List α} (h : rises key l = true) {i : Nat} {x : α} (hi : i < l.length) (hk : key l[i] = key x) : l.set i x = putS key l x := by
  obtain ⟨h1, h2⟩ := putS_spec key h x
  obtain ⟨h3, h4⟩ := rises_set key h hi hk.symm
  exact rises_same key h3 h1 fun y => by rw [h4, h2]
theorem put_ins {l : List α} (h : rises key l = true) {x : α} (hx : ∀ y ∈ l, key y ≠ key x) : insL l (placeS key l (key x)) x = putS key l x := by
  obtain ⟨h1, h2⟩ := putS_spec key h x
  exact rises_same key (rises_ins key h x hx) h1 fun y => by
    rw [insL_mem, h2]
    exact ⟨fun q => q.imp id fun q => ⟨q, hx y q⟩, fun q => q.imp id fun q => q.1⟩
theorem place_find {l : List α} (h : rises key l = true) (k : Int) (hp : placeS key l k < l.length) (hk : key l[placeS key l k] = k) : findS key l k = some l[placeS key l k] :=
  (findS_iff key h _ _).2 ⟨List.getElem_mem _, hk⟩
theorem find_place {l : List α} (h : rises key l = true) {k : Int} {x : α} (hf : findS key l k = some x) : ∃ hp : placeS key l k < l.length, l[placeS key l k] = x := by
  obtain ⟨h1, h2⟩ := findS_mem key hf
  obtain ⟨i, hi, rfl⟩ := List.getElem_of_mem h1
  subst h2
  have q1 : placeS key l (key l[i]) ≤ i := by
    rcases Nat.lt_or_ge i (placeS key l (key l[i])) with q | q
    · have := placeS_lt key l (key l[i]) i q hi; omega
    · exact q
  refine ⟨by omega, ?_⟩
  refine rises_inj key h (List.getElem_mem _) h1 ?_
  have a := placeS_ge key h (key l[i]) _ (Nat.le_refl _) (by omega)
  rcases Nat.lt_or_ge (placeS key l (key l[i])) i with q | q
  · have := rises_get key h _ _ (by omega) hi q; omega
  · have : placeS key l (key l[i]) = i := by omega
    simp only [this]
theorem place_none {l : List α} (h : rises key l = true) {k : Int} (hf : findS key l k = none) (hp : placeS key l k < l.length) : key l[placeS key l k] ≠ k := fun e => by
  rw [place_find key h k hp e] at hf; cases hf
theorem putS_length {l : List α} (h : rises key l = true) (x : α) : (putS key l x).length = if (findS key l (key x)).isSome then l.length else l.length + 1 := by
  cases hf : findS key l (key x) with
  | some y =>
    obtain ⟨hp, e⟩ := find_place key h hf
    rw [← put_set key h hp (by rw [e]; exact (findS_mem key hf).2)]
    simp
  | none =>
    rw [← put_ins key h ((findS_none key).1 hf)]
    have := placeS_le key l (key x)
    simp [insL]; omega
theorem findS_filter {l : List α} (h : rises key l = true) (p : α → Bool) (k : Int) : findS key (l.filter p) k = (findS key l k).filter p := by
  cases hf : findS key l k with
  | some x =>
    obtain ⟨h1, h2⟩ := findS_mem key hf
    cases hp : p x with
    | true =>
      have e : (some x).filter p = if p x = true then some x else none := rfl
      rw [e, if_pos hp]
      exact (findS_iff key (rises_filter key h p) _ _).2 ⟨List.mem_filter.2 ⟨h1, hp⟩, h2⟩
    | false =>
      have e : (some x).filter p = if p x = true then some x else none := rfl
      rw [e, if_neg (by simp [hp])]
      refine (findS_none key).2 fun y hy hk => ?_
      rw [List.mem_filter] at hy
      have := rises_inj key h hy.1 h1 (by omega)
      subst this
      rw [hp] at hy; exact absurd hy.2 (by simp)
  | none =>
    show _ = none
    refine (findS_none key).2 fun y hy hk => ?_
    exact (findS_none key).1 hf y (List.mem_filter.1 hy).1 hk
end

/-! ### rows -/
abbrev cli (r : RowR) : Int := r.client
abbrev sq (d : DecisionR) : Int := d.seq
structure RowOk (r : RowR) : Prop where
  client : 0 ≤ r.client
  epoch : 1 ≤ r.epoch
  done : 0 ≤ r.done
  len : r.l.length ≤ 256
  rise : rises DecisionR.seq r.l = true
  above : ∀ d ∈ r.l, r.done < d.seq
structure RightT (l : List RowR) : Prop where
  len : l.length ≤ 64
  rise : rises RowR.client l = true
  ok : ∀ r ∈ l, RowOk r

def badS (c e n : Int) : Bool := decide (c < 0) || decide (e < 1) || decide (n < 1)
/-- Why a row doesn't answer. -/
def whyS (l : List RowR) (c e n : Int) : Int :=
  if badS c e n then 1 else match findS RowR.client l c with
  | none => 6
  | some r => if r.epoch < e then 6 else if e < r.epoch then 17 else 0
def rowS (l : List RowR) (c e n : Int) : RowR := if badS c e n then .zero else match findS RowR.client l c with
  | none => ⟨c, e, 0, []⟩
  | some r => if r.epoch = e then r else ⟨c, e, 0, []⟩
def askS (l : List RowR) (c e n : Int) : Bool × Int :=
  if whyS l c e n ≠ 0 then (false, whyS l c e n) else if n ≤ (rowS l c e n).done then (false, 18) else match findS DecisionR.seq (rowS l c e n).l n with
  | none => (false, 6)
  | some d => (d.yes, 0)
def decR (r : RowR) (n : Int) (yes : Bool) : RowR := ⟨r.client, r.epoch, r.done, putS DecisionR.seq r.l ⟨n, yes⟩⟩
def forR (r : RowR) (d : Int) : RowR := ⟨r.client, r.epoch, max r.done d, r.l.filter fun x => !decide (x.seq ≤ max r.done d)⟩
def roomless (l : List RowR) (c e n : Int) : Bool := (decide (findS RowR.client l c = none) && decide (64 ≤ l.length)) || decide (256 ≤ (rowS l c e n).l.length)
def decideS (l : List RowR) (c e n : Int) (yes : Bool) : List RowR × Bool × Int :=
  if (askS l c e n).2 ≠ 6 then (l, (askS l c e n).1, (askS l c e n).2) else if roomless l c e n = true then (l, false, 12) else (putS RowR.client l (decR (rowS l c e n) n yes), yes, 0)
def forgetS (l : List RowR) (c e n : Int) : List RowR × Int :=
  if whyS l c e n ≠ 0 then (l, whyS l c e n) else (putS RowR.client l (forR (rowS l c e n) n), 0)
theorem rowS_key (l : List RowR) {c e n : Int} (hb : badS c e n = false) : (rowS l c e n).client = c ∧ (rowS l c e n).epoch = e := by
  unfold rowS
  rw [if_neg (by simp [hb])]
  split
  · exact ⟨rfl, rfl⟩
  · rename_i r hr
    split
    · rename_i h; exact ⟨(findS_mem _ hr).2, h⟩
    · exact ⟨rfl, rfl⟩
theorem whyS_bad {l : List RowR} {c e n : Int} (h : whyS l c e n ≠ 1) : badS c e n = false := by
  cases hb : badS c e n with
  | false => rfl
  | true => exact absurd (by simp [whyS, hb]) h
theorem ask_six {l : List RowR} {c e n : Int} (h : (askS l c e n).2 = 6) : badS c e n = false ∧ findS DecisionR.seq (rowS l c e n).l n = none := by
  have hb : badS c e n = false := whyS_bad fun hw => by
    rw [askS, if_pos (by rw [hw]; decide)] at h
    rw [hw] at h; cases h
  refine ⟨hb, ?_⟩
  by_cases hw : whyS l c e n = 0
  · rw [askS, if_neg (by simp [hw])] at h
    split at h
    · cases h
    · split at h
      · rename_i hf; exact hf
      · cases h
  · rw [askS, if_pos hw] at h
    simp only at h
    unfold whyS at h
    rw [if_neg (by simp [hb])] at h
    unfold rowS
    rw [if_neg (by simp [hb])]
    split
    · rfl
    · rename_i r hr
      rw [hr] at h
      simp only at h
      split
      · rename_i he
        rw [if_neg (by omega), if_neg (by omega)] at h
        cases h
      · rfl
end Go.Cx

set_option linter.unusedVariables false
set_option linter.unusedSimpArgs false
namespace Go.Cx

theorem badS_false {c e n : Int} (h : badS c e n = false) : ¬ c < 0 ∧ ¬ e < 1 ∧ ¬ n < 1 := by
  simp only [badS, Bool.or_eq_false_iff, decide_eq_false_iff_not] at h
  exact ⟨h.1.1, h.1.2, h.2⟩
theorem badS_of {c e n : Int} (h1 : ¬ c < 0) (h2 : ¬ e < 1) (h3 : ¬ n < 1) : badS c e n = false := by
  simp [badS, h1, h2, h3]
theorem RightT.nil : RightT [] := ⟨by simp, rfl, by simp⟩
theorem RightT.put {l : List RowR} (R : RightT l) {x : RowR} (hx : RowOk x) (hl : (putS RowR.client l x).length ≤ 64) : RightT (putS RowR.client l x) := by
  obtain ⟨h1, h2⟩ := putS_spec RowR.client R.rise x
  refine ⟨hl, h1, fun r hr => ?_⟩
  rcases (h2 r).1 hr with rfl | hr
  · exact hx
  · exact R.ok r hr.1
theorem rowS_ok {l : List RowR} (R : RightT l) {c e n : Int} (hb : badS c e n = false) : RowOk (rowS l c e n) := by
  obtain ⟨h1, h2, h3⟩ := badS_false hb
  unfold rowS
  rw [if_neg (by simp [hb])]
  split
  · exact ⟨by simp only; omega, by simp only; omega, by simp, by simp, rfl, by simp⟩
  · rename_i r hr
    split
    · exact R.ok r (findS_mem _ hr).1
    · exact ⟨by simp only; omega, by simp only; omega, by simp, by simp, rfl, by simp⟩
theorem decR_ok {r : RowR} (h : RowOk r) {n : Int} {yes : Bool} (hn : findS DecisionR.seq r.l n = none) (hd : r.done < n) (hl : r.l.length < 256) : RowOk (decR r n yes) := by
  obtain ⟨h1, h2⟩ := putS_spec DecisionR.seq h.rise ⟨n, yes⟩
  have h3 := putS_length DecisionR.seq h.rise ⟨n, yes⟩
  simp only [hn] at h3
  refine ⟨h.client, h.epoch, h.done, ?_, h1, fun d hd' => ?_⟩
  · show (putS DecisionR.seq r.l ⟨n, yes⟩).length ≤ 256
    rw [h3]; simp; omega
  · rcases (h2 d).1 hd' with rfl | q
    · exact hd
    · exact h.above d q.1
theorem forR_ok {r : RowR} (h : RowOk r) (d : Int) : RowOk (forR r d) := by
  refine ⟨h.client, h.epoch, ?_, Nat.le_trans (List.length_filter_le _ _) h.len, rises_filter _ h.rise _, fun x hx => ?_⟩
  · show 0 ≤ max r.done d
    have := h.done; omega
  · have := (List.mem_filter.1 hx).2
    simp only [Bool.not_eq_true', decide_eq_false_iff_not] at this
    show max r.done d < x.seq
    omega
theorem ask_done {l : List RowR} {c e n : Int} (h : (askS l c e n).2 = 6) : (rowS l c e n).done < n := by
  obtain ⟨hb, _⟩ := ask_six h
  obtain ⟨b1, b2, b3⟩ := badS_false hb
  by_cases hw : whyS l c e n = 0
  · rw [askS, if_neg (by simp [hw])] at h
    split at h
    · cases h
    · omega
  · rw [askS, if_pos hw] at h
    simp only at h
    unfold whyS at h
    rw [if_neg (by simp [hb])] at h
    unfold rowS
    rw [if_neg (by simp [hb])]
    split
    · simp only; omega
    · rename_i r hr
      rw [hr] at h
      simp only at h
      split
      · rename_i he
        rw [if_neg (by omega), if_neg (by omega)] at h
        cases h
      · simp only; omega
theorem why_put {l : List RowR} (R : RightT l) {x : RowR} {n : Int} (hb : badS x.client x.epoch n = false) : whyS (putS RowR.client l x) x.client x.epoch n = 0 ∧ rowS (putS RowR.client l x) x.client x.epoch n = x := by
  have hf := findS_put RowR.client R.rise x x.client
  rw [if_pos rfl] at hf
  constructor
  · unfold whyS
    rw [if_neg (by simp [hb]), hf]
    simp
  · unfold rowS
    rw [if_neg (by simp [hb]), hf]
    simp
theorem ask_put_other {l : List RowR} (R : RightT l) {x : RowR} {c e n : Int} (hc : c ≠ x.client) : askS (putS RowR.client l x) c e n = askS l c e n := by
  have hf := findS_put RowR.client R.rise x c
  rw [if_neg hc] at hf
  have h1 : whyS (putS RowR.client l x) c e n = whyS l c e n := by unfold whyS; rw [hf]
  have h2 : rowS (putS RowR.client l x) c e n = rowS l c e n := by unfold rowS; rw [hf]
  unfold askS
  rw [h1, h2]
theorem decide_cases (l : List RowR) (c e n : Int) (yes : Bool) :
    ((askS l c e n).2 ≠ 6 ∧ decideS l c e n yes = (l, askS l c e n)) ∨ ((askS l c e n).2 = 6 ∧ roomless l c e n = true ∧ decideS l c e n yes = (l, false, 12)) ∨
    ((askS l c e n).2 = 6 ∧ roomless l c e n = false ∧ decideS l c e n yes = (putS RowR.client l (decR (rowS l c e n) n yes), yes, 0)) := by
  by_cases h : (askS l c e n).2 = 6
  · by_cases hr : roomless l c e n = true
    · exact .inr (.inl ⟨h, hr, by unfold decideS; rw [if_neg (by simp [h]), if_pos hr]⟩)
    · exact .inr (.inr ⟨h, by simpa using hr, by unfold decideS; rw [if_neg (by simp [h]), if_neg hr]⟩)
  · exact .inl ⟨h, by unfold decideS; rw [if_pos h]⟩
theorem put_few {l : List RowR} (R : RightT l) {c e n : Int} {x : RowR} (hx : x.client = c) (hr : roomless l c e n = false) : (putS RowR.client l x).length ≤ 64 := by
  rw [putS_length RowR.client R.rise, hx]
  have := R.len
  split
  · exact this
  · rename_i h
    simp only [roomless, Bool.or_eq_false_iff, Bool.and_eq_false_iff, decide_eq_false_iff_not] at hr
    have hn : findS RowR.client l c = none := by simpa using h
    rcases hr.1 with q | q
    · exact absurd hn q
    · omega
theorem decide_right {l : List RowR} (R : RightT l) (c e n : Int) (yes : Bool) : RightT (decideS l c e n yes).1 := by
  rcases decide_cases l c e n yes with ⟨_, h⟩ | ⟨_, _, h⟩ | ⟨h6, hr, h⟩
  · rw [h]; exact R
  · rw [h]; exact R
  · rw [h]
    obtain ⟨hb, hn⟩ := ask_six h6
    refine R.put (decR_ok (rowS_ok R hb) hn (ask_done h6) ?_) (put_few R (x := decR _ _ _) (rowS_key l hb).1 hr)
    simp only [roomless, Bool.or_eq_false_iff, decide_eq_false_iff_not] at hr
    omega
theorem ask_false {l : List RowR} {c e n : Int} (h : (askS l c e n).2 ≠ 0) : (askS l c e n).1 = false := by
  unfold askS at *
  split
  · rfl
  · rename_i h1
    rw [if_neg h1] at h
    split
    · rfl
    · rename_i h2
      rw [if_neg h2] at h
      split
      · rfl
      · rename_i d hd; rw [hd] at h; exact absurd rfl h
theorem decide_bad {l : List RowR} {c e n : Int} {yes : Bool} (h : (decideS l c e n yes).2.2 ≠ 0) : (decideS l c e n yes).1 = l ∧ (decideS l c e n yes).2.1 = false := by
  rcases decide_cases l c e n yes with ⟨_, q⟩ | ⟨_, _, q⟩ | ⟨h6, hr, q⟩
  · rw [q] at h ⊢; exact ⟨rfl, ask_false h⟩
  · rw [q]; exact ⟨rfl, rfl⟩
  · rw [q] at h; exact absurd rfl h
/-- What is asked of a row. -/
def askR (r : RowR) (n : Int) : Bool × Int := if n ≤ r.done then (false, 18) else match findS DecisionR.seq r.l n with
  | none => (false, 6)
  | some d => (d.yes, 0)
theorem askR_eq (r : RowR) (m : Int) : askR r m = if m ≤ r.done then ((false, 18) : Bool × Int) else match findS DecisionR.seq r.l m with
  | none => (false, 6)
  | some d => (d.yes, 0) := rfl
theorem askR_dec (r : RowR) (n : Int) (yes : Bool) (m : Int) : askR (decR r n yes) m = if m ≤ r.done then ((false, 18) : Bool × Int) else match findS DecisionR.seq (putS DecisionR.seq r.l ⟨n, yes⟩) m with
  | none => (false, 6)
  | some d => (d.yes, 0) := rfl
theorem askR_for (r : RowR) (d m : Int) : askR (forR r d) m = if m ≤ max r.done d then ((false, 18) : Bool × Int) else match findS DecisionR.seq (r.l.filter fun x => !decide (x.seq ≤ max r.done d)) m with
  | none => (false, 6)
  | some d => (d.yes, 0) := rfl
theorem ask_of {l : List RowR} {c e n : Int} {r : RowR} (h1 : whyS l c e n = 0) (h2 : rowS l c e n = r) : askS l c e n = askR r n := by
  unfold askS askR
  simp only [h1, h2, ne_eq, not_true, if_false]
theorem ask_put_same {l : List RowR} (R : RightT l) {c e n : Int} {yes : Bool} (h6 : (askS l c e n).2 = 6) : askS (putS RowR.client l (decR (rowS l c e n) n yes)) c e n = (yes, 0) := by
  obtain ⟨hb, hn⟩ := ask_six h6
  obtain ⟨k1, k2⟩ := rowS_key l hb
  have hd := ask_done h6
  have hrise := (rowS_ok R hb).rise
  generalize rowS l c e n = r at *
  subst k1 k2
  obtain ⟨w1, w2⟩ := why_put R (x := decR r n yes) (n := n) hb
  rw [show (decR r n yes).client = r.client from rfl, show (decR r n yes).epoch = r.epoch from rfl] at w1 w2
  rw [ask_of w1 w2]
  rw [askR_dec, if_neg (by omega), findS_put DecisionR.seq hrise, if_pos rfl]
theorem decide_ask {l : List RowR} (R : RightT l) {c e n : Int} {yes : Bool} (h : (decideS l c e n yes).2.2 = 0) : askS (decideS l c e n yes).1 c e n = ((decideS l c e n yes).2.1, 0) := by
  rcases decide_cases l c e n yes with ⟨_, q⟩ | ⟨_, _, q⟩ | ⟨h6, hr, q⟩
  · rw [q] at h ⊢; exact Prod.ext rfl h
  · rw [q] at h; cases h
  · rw [q]; exact ask_put_same R h6
theorem decide_again {l : List RowR} {c e n : Int} {b : Bool} (yes : Bool) (h : askS l c e n = (b, 0)) : decideS l c e n yes = (l, b, 0) := by
  unfold decideS
  rw [h, if_pos (by simp)]
theorem ask_zero {l : List RowR} {c e n : Int} {b : Bool} (h : askS l c e n = (b, 0)) : whyS l c e n = 0 ∧ ¬ n ≤ (rowS l c e n).done := by
  unfold askS at h
  split at h
  · rename_i q; exact absurd (congrArg Prod.snd h) q
  · rename_i q
    refine ⟨by simpa using q, ?_⟩
    split at h
    · cases h
    · assumption
theorem why_zero {l : List RowR} {c e n : Int} (h : whyS l c e n = 0) : badS c e n = false ∧ ∃ r, findS RowR.client l c = some r ∧ r.epoch = e ∧ rowS l c e n = r := by
  have hb : badS c e n = false := whyS_bad (by rw [h]; decide)
  refine ⟨hb, ?_⟩
  unfold whyS at h
  rw [if_neg (by simp [hb])] at h
  cases hf : findS RowR.client l c with
  | none => rw [hf] at h; cases h
  | some r =>
    rw [hf] at h
    simp only at h
    have he : r.epoch = e := by
      by_cases h1 : r.epoch < e
      · rw [if_pos h1] at h; cases h
      · rw [if_neg h1] at h
        by_cases h2 : e < r.epoch
        · rw [if_pos h2] at h; cases h
        · omega
    refine ⟨r, rfl, he, ?_⟩
    unfold rowS
    rw [if_neg (by simp [hb]), hf]
    simp [he]
theorem forget_zero {l : List RowR} {c e n : Int} (h : whyS l c e n = 0) : forgetS l c e n = (putS RowR.client l (forR (rowS l c e n) n), 0) := by
  unfold forgetS
  rw [if_neg (by simp [h])]
theorem forget_bad {l : List RowR} {c e n : Int} (h : (forgetS l c e n).2 ≠ 0) : (forgetS l c e n).1 = l := by
  unfold forgetS at *
  split
  · rfl
  · rename_i q; rw [if_neg q] at h; exact absurd rfl h
theorem forget_why {l : List RowR} {c e n : Int} (h : (forgetS l c e n).2 = 0) : whyS l c e n = 0 := by
  unfold forgetS at h
  split at h
  · rename_i q; exact absurd h q
  · rename_i q; simpa using q
theorem forget_right {l : List RowR} (R : RightT l) (c e n : Int) : RightT (forgetS l c e n).1 := by
  by_cases h : whyS l c e n = 0
  · rw [forget_zero h]
    obtain ⟨hb, r, hf, he, hr⟩ := why_zero h
    refine R.put (forR_ok (rowS_ok R hb) n) ?_
    rw [putS_length RowR.client R.rise]
    have : (forR (rowS l c e n) n).client = c := (rowS_key l hb).1
    rw [this, hf]
    exact R.len
  · unfold forgetS
    rw [if_pos h]; exact R
/-- What is asked behind a forgetting. -/
theorem ask_forget {l : List RowR} (R : RightT l) {c e d : Int} (h : whyS l c e d = 0) {n : Int} (hn : 1 ≤ n) : askS (forgetS l c e d).1 c e n = if n ≤ d then (false, 18) else askS l c e n := by
  rw [forget_zero h]
  obtain ⟨hb, r, hf, he, hr⟩ := why_zero h
  obtain ⟨b1, b2, b3⟩ := badS_false hb
  have hb' : badS c e n = false := badS_of b1 b2 (by omega)
  have hrise := (rowS_ok R hb).rise
  have hrow : rowS l c e n = r := by
    unfold rowS
    rw [if_neg (by simp [hb']), hf]
    simp [he]
  have hwhy : whyS l c e n = 0 := by
    unfold whyS
    rw [if_neg (by simp [hb']), hf]
    simp [he]
  have hkc := (findS_mem _ hf).2
  rw [hr] at hrise ⊢
  subst hkc he
  obtain ⟨w1, w2⟩ := why_put R (x := forR r d) (n := n) hb'
  rw [show (forR r d).client = r.client from rfl, show (forR r d).epoch = r.epoch from rfl] at w1 w2
  rw [ask_of w1 w2, ask_of hwhy hrow]
  rw [askR_for, askR_eq]
  by_cases h1 : n ≤ d
  · rw [if_pos (by omega), if_pos h1]
  · rw [if_neg h1]
    by_cases h2 : n ≤ r.done
    · rw [if_pos (by omega), if_pos h2]
    · rw [if_neg (by omega), if_neg h2, findS_filter DecisionR.seq hrise]
      cases hd : findS DecisionR.seq r.l n with
      | none => rfl
      | some x =>
        have hx := (findS_mem _ hd).2
        have e1 : (some x).filter (fun x => !decide (x.seq ≤ max r.done d)) = some x := by
          have : (!decide (x.seq ≤ max r.done d)) = true := by simp; omega
          show (if (!decide (x.seq ≤ max r.done d)) = true then some x else none) = some x
          rw [if_pos this]
        rw [e1]
theorem forR_twice (r : RowR) (d : Int) : forR (forR r d) d = forR r d := by
  have e : max (max r.done d) d = max r.done d := by omega
  simp [forR, e, List.filter_filter]
theorem put_twice {l : List RowR} (h : rises RowR.client l = true) {x y : RowR} (hk : y.client = x.client) : putS RowR.client (putS RowR.client l x) y = putS RowR.client l y := by
  obtain ⟨h1, h2⟩ := putS_spec RowR.client h x
  obtain ⟨h3, h4⟩ := putS_spec RowR.client h1 y
  obtain ⟨h5, h6⟩ := putS_spec RowR.client h y
  refine rises_same RowR.client h3 h5 fun z => ?_
  rw [h4, h6, h2, hk]
  constructor
  · rintro (q | ⟨q | q, q2⟩)
    · exact .inl q
    · exact absurd (congrArg RowR.client q) q2
    · exact .inr ⟨q.1, q2⟩
  · rintro (q | ⟨q, q2⟩)
    · exact .inl q
    · exact .inr ⟨.inr ⟨q, q2⟩, q2⟩
theorem forget_twice {l : List RowR} (R : RightT l) {c e d : Int} (h : whyS l c e d = 0) : forgetS (forgetS l c e d).1 c e d = ((forgetS l c e d).1, 0) := by
  rw [forget_zero h]
  obtain ⟨hb, r, hf, he, hr⟩ := why_zero h
  have hkc := (findS_mem _ hf).2
  rw [hr]
  subst hkc he
  obtain ⟨w1, w2⟩ := why_put R (x := forR r d) (n := d) hb
  simp only [show (forR r d).client = r.client from rfl, show (forR r d).epoch = r.epoch from rfl] at w1 w2
  rw [forget_zero w1, w2, forR_twice, put_twice R.rise rfl]
theorem decide_row {l : List RowR} (R : RightT l) {c e n : Int} {yes : Bool} (h : (decideS l c e n yes).2.2 = 0) : badS c e n = false ∧ ∃ x, findS RowR.client (decideS l c e n yes).1 c = some x ∧ x.epoch = e := by
  have h1 := decide_ask R h
  obtain ⟨h2, _⟩ := ask_zero h1
  obtain ⟨hb, x, hf, he, _⟩ := why_zero h2
  exact ⟨hb, x, hf, he⟩
theorem ask_others {l : List RowR} (R : RightT l) {c e n : Int} {yes : Bool} {c' n' : Int} (hne : ¬ (c = c' ∧ n' = n)) (h : (decideS l c e n yes).2.2 = 0) : askS (decideS l c e n yes).1 c' e n' = askS l c' e n' := by
  rcases decide_cases l c e n yes with ⟨_, q⟩ | ⟨_, _, q⟩ | ⟨h6, hr, q⟩
  · rw [q]
  · rw [q]
  rw [q]
  obtain ⟨hb, hnone⟩ := ask_six h6
  obtain ⟨k1, k2⟩ := rowS_key l hb
  by_cases hc : c' = c
  case neg => exact ask_put_other R (x := decR _ _ _) (by show c' ≠ (rowS l c e n).client; rw [k1]; exact hc)
  subst hc
  have hnn : n' ≠ n := fun e => hne ⟨rfl, e⟩
  obtain ⟨b1, b2, b3⟩ := badS_false hb
  by_cases hn1 : n' < 1
  · have hb' : badS c' e n' = true := by simp [badS, hn1]
    unfold askS whyS
    rw [if_pos hb', if_pos hb']
    simp
  have hb' : badS c' e n' = false := badS_of b1 b2 hn1
  have hrow : rowS l c' e n' = rowS l c' e n := by unfold rowS; rw [hb, hb']
  have hwhy : whyS l c' e n' = whyS l c' e n := by unfold whyS; rw [hb, hb']
  have hrise := (rowS_ok R hb).rise
  have hd := ask_done h6
  have hL : askS l c' e n' = askR (rowS l c' e n) n' := by
    by_cases hw : whyS l c' e n = 0
    · exact ask_of (by rw [hwhy]; exact hw) hrow
    · have h66 : whyS l c' e n = 6 := by
        unfold askS at h6; rw [if_pos hw] at h6; exact h6
      have hz : rowS l c' e n = ⟨c', e, 0, []⟩ := by
        have hx := h66
        unfold whyS at hx
        rw [if_neg (by simp [hb])] at hx
        unfold rowS
        rw [if_neg (by simp [hb])]
        cases hf : findS RowR.client l c' with
        | none => rfl
        | some r =>
          rw [hf] at hx
          simp only at hx ⊢
          rw [if_neg]
          intro he
          rw [if_neg (by omega), if_neg (by omega)] at hx
          cases hx
      rw [hz]
      have h0 : whyS l c' e n' ≠ 0 := by rw [hwhy, h66]; decide
      unfold askS
      rw [if_pos h0, hwhy, h66]
      have hn0 : ¬ n' ≤ 0 := by omega
      simp [hn0, findS, askR]
  rw [hL]
  generalize rowS l c' e n = r at *
  subst k1 k2
  obtain ⟨w1, w2⟩ := why_put R (x := decR r n yes) (n := n') hb'
  rw [show (decR r n yes).client = r.client from rfl, show (decR r n yes).epoch = r.epoch from rfl] at w1 w2
  rw [ask_of w1 w2]
  rw [askR_dec, askR_eq, findS_put DecisionR.seq hrise, if_neg (show ¬ n' = (⟨n, yes⟩ : DecisionR).seq from hnn)]
theorem ask_why {l : List RowR} {c e n : Int} (h : whyS l c e n ≠ 0) : askS l c e n = (false, whyS l c e n) := by
  unfold askS; rw [if_pos h]
theorem why_epochs {l : List RowR} {c e n : Int} {x : RowR} (hc : ¬ c < 0) (he : ¬ e < 1) (hn : ¬ n < 1) (hf : findS RowR.client l c = some x) : whyS l c e n = if x.epoch < e then 6 else if e < x.epoch then 17 else 0 := by
  unfold whyS
  rw [if_neg (by simp [badS_of hc he hn]), hf]
end Go.Cx
