import Derived.Test.YtdnfnddlciafmaaGreatXBk
import Derived.Lib.SlicesCompact
set_option linter.unusedVariables false
set_option linter.unusedSimpArgs false
namespace Go.Cx
def firstS : List Int → Int
  | [] => 0
  | a :: l => if a ≠ 0 then a else firstS l
def unlessS (b : Bool) (e : Int) : Int := if b = true then e else 0
theorem insE_mem (l : List EntryR) (s : ByteArray) (ino : Int) (y : EntryR) : y ∈ insE l s ino ↔ y = ⟨s, ino⟩ ∨ y ∈ l := by
  rw [insE_eq, insL_mem]
theorem insE_length (l : List EntryR) (s : ByteArray) (ino : Int) : (insE l s ino).length = l.length + 1 := by
  rw [insE_eq]; simp
theorem insE_rises {l : List EntryR} (h : risesE l = true) {s : ByteArray} (hn : ∀ x ∈ l, x.name ≠ s) (ino : Int) : risesE (insE l s ino) = true := by
  rw [risesE_pair] at h ⊢
  unfold insE
  have hsp : l.takeWhile (fun x => strLt x.name s) ++ l.dropWhile (fun x => strLt x.name s) = l := List.takeWhile_append_dropWhile
  have h' := h
  rw [← hsp, List.pairwise_append] at h'
  obtain ⟨h1, h2, h3⟩ := h'
  have hd : ∀ y ∈ l.dropWhile (fun x => strLt x.name s), strLt s y.name = true := by
    intro y hy
    have hyl : y ∈ l := (List.dropWhile_sublist _).subset hy
    cases hdw : l.dropWhile (fun x => strLt x.name s) with
    | nil => rw [hdw] at hy; cases hy
    | cons z r =>
      have hz : strLt z.name s = false := by
        have := List.head?_dropWhile_not (fun x : EntryR => strLt x.name s) l
        rw [hdw] at this
        simpa using this
      have hzl : z ∈ l := (List.dropWhile_sublist _).subset (by rw [hdw]; simp)
      have hsz : strLt s z.name = true := (strLt_total (hn z hzl)).resolve_left (by rw [hz]; simp)
      rw [hdw] at hy h2
      rcases List.mem_cons.1 hy with rfl | hy
      · exact hsz
      · exact strLt_trans hsz ((List.pairwise_cons.1 h2).1 y hy)
  have ht : ∀ y ∈ l.takeWhile (fun x => strLt x.name s), strLt y.name s = true := fun y hy => by
    have := List.all_takeWhile (p := fun x : EntryR => strLt x.name s) (l := l)
    exact List.all_eq_true.1 this y hy
  rw [List.pairwise_append, List.pairwise_cons]
  exact ⟨h1, ⟨hd, h2⟩, fun a ha b hb => by
    rcases List.mem_cons.1 hb with rfl | hb
    · exact ht a ha
    · exact h3 a ha b hb⟩
theorem enterE_row {l : List EntryR} (h : RowE l) (s : ByteArray) (ino : Int) : RowE (enterE l s ino).1 := by
  unfold enterE
  split
  · exact h
  · rename_i h1
    split
    · exact h
    · rename_i h2
      split
      · exact h
      · rename_i h3
        split
        · exact h
        · rename_i h4
          have hn : ∀ x ∈ l, x.name ≠ s := findE_false.1 (by simpa using h3)
          refine ⟨by rw [insE_length]; omega, insE_rises h.rise hn ino, fun x hx => ?_⟩
          rcases (insE_mem l s ino x).1 hx with rfl | hx
          · refine ⟨?_, by simp only; omega⟩
            unfold checkS at h1
            split at h1
            · assumption
            · simp at h1
          · exact h.ok x hx
theorem outE_row {l : List EntryR} (h : RowE l) (s : ByteArray) : RowE (outE l s) :=
  ⟨Nat.le_trans (List.length_filter_le _ _) h.len, risesE_filter h.rise _, fun x hx => h.ok x (List.mem_filter.1 hx).1⟩
theorem leaveE_row {l : List EntryR} (h : RowE l) (s : ByteArray) : RowE (leaveE l s).1 := by
  unfold leaveE
  split
  · exact outE_row h s
  · exact h
theorem RowE.nil : RowE [] := ⟨by simp, rfl, by simp⟩
theorem RowsF.row {f : FSR} (h : RowsF f) (k : Int) : RowE (findB f.l k).1.l := by
  rcases findB_cases f.l k with ⟨n, hn, hk, e⟩ | e
  · rw [e]; exact (rowOk_iff _).1 ((nodeOk_iff n).1 (h.ok n hn)).row
  · rw [e]; exact .nil
theorem RowsF.num {f : FSR} (h : RowsF f) (k : Int) : 0 ≤ (findB f.l k).1.ino ∧ (findB f.l k).1.ino < f.next := by
  rcases findB_cases f.l k with ⟨n, hn, hk, e⟩ | e
  · rw [e]; exact ⟨by have := ((nodeOk_iff n).1 (h.ok n hn)).ino; show 0 ≤ n.ino; omega, h.lt n hn⟩
  · rw [e]; have := h.next; exact ⟨by decide, by show (0 : Int) < _; omega⟩
theorem RowsF.links {f : FSR} (h : RowsF f) (k : Int) : 0 ≤ (findB f.l k).1.links ∧ (findB f.l k).1.links ≤ 64 := by
  rcases findB_cases f.l k with ⟨n, hn, hk, e⟩ | e
  · rw [e]; exact ⟨((nodeOk_iff n).1 (h.ok n hn)).l0, ((nodeOk_iff n).1 (h.ok n hn)).l64⟩
  · rw [e]; exact ⟨by decide, by decide⟩
theorem RowsF.text {f : FSR} (h : RowsF f) (k : Int) : (findB f.l k).1.text.size ≤ 4096 := by
  rcases findB_cases f.l k with ⟨n, hn, hk, e⟩ | e
  · rw [e]; exact ((nodeOk_iff n).1 (h.ok n hn)).size
  · rw [e]; decide
theorem RowsF.dirRow {f : FSR} (h : RowsF f) (k : Int) : RowE (dirD f k).1.l := by
  unfold dirD
  split
  · exact .nil
  · split
    · exact .nil
    · exact h.row k
theorem dirD_ok {f : FSR} {d : Int} (h : (dirD f d).2 = 0) : (findB f.l d).2 = true ∧ (findB f.l d).1.kind = 2 ∧ (dirD f d).1 = (findB f.l d).1 := by
  unfold dirD at h ⊢
  split at h
  · simp at h
  · split at h
    · simp at h
    · rename_i h1 h2
      rw [if_neg h1, if_neg h2]
      exact ⟨by simpa using h1, by simpa using h2, rfl⟩
theorem lookD_ok {f : FSR} {d : Int} {s : ByteArray} (h : (lookD f d s).2 = 0) : (dirD f d).2 = 0 ∧ checkS s = 0 ∧ (findE (dirD f d).1.l s).2 = true ∧ (findB f.l (findE (dirD f d).1.l s).1).2 = true ∧ (lookD f d s).1 = (findB f.l (findE (dirD f d).1.l s).1).1 := by
  unfold lookD at h ⊢
  by_cases h1 : (dirD f d).2 ≠ 0
  · rw [if_pos h1] at h; exact absurd h h1
  rw [if_neg h1] at h ⊢
  by_cases h2 : checkS s ≠ 0
  · rw [if_pos h2] at h; exact absurd h h2
  rw [if_neg h2] at h ⊢
  by_cases h3 : (findE (dirD f d).1.l s).2 = false
  · rw [if_pos h3] at h; simp at h
  rw [if_neg h3] at h ⊢
  by_cases h4 : (findB f.l (findE (dirD f d).1.l s).1).2 = false
  · rw [if_pos h4] at h; simp at h
  rw [if_neg h4]
  exact ⟨by simpa using h1, by simpa using h2, by simpa using h3, by simpa using h4, rfl⟩
theorem lookD_mem {f : FSR} {d : Int} {s : ByteArray} (h : (lookD f d s).2 = 0) : (lookD f d s).1 ∈ f.l := by
  obtain ⟨_, _, _, h4, h5⟩ := lookD_ok h
  rw [h5]; exact (findB_true h4).1
theorem put_len {f : FSR} (h : rises NodeR.ino f.l = true) {n : NodeR} (hf : (findB f.l n.ino).2 = true) : (putB f n).l.length = f.l.length := by
  unfold putB
  have : plc f.l n.ino < f.l.length ∧ inoAt f.l (plc f.l n.ino) = n.ino := by
    unfold findB at hf
    split at hf
    · assumption
    · simp at hf
  rw [if_pos this]; simp
theorem put_next {f : FSR} {n : NodeR} (hn : n.ino < f.next) : (putB f n).next = f.next := by
  show max f.next (n.ino + 1) = f.next; omega
theorem RowsF.again {f : FSR} (h : RowsF f) {n : NodeR} (hn : nodeOk n = true) (hf : (findB f.l n.ino).2 = true) : RowsF (putB f n) ∧ (putB f n).next = f.next ∧ (putB f n).l.length = f.l.length := by
  have hl := put_len h.rise hf
  have hlt : n.ino < f.next := by
    have := h.lt _ (findB_true hf).1
    rwa [(findB_true hf).2] at this
  exact ⟨h.put hn (by rw [hl]; exact h.len), put_next hlt, hl⟩
theorem nodeOk_row {n : NodeR} (h : nodeOk n = true) (hk : n.kind = 2) {l : List EntryR} (hl : RowE l) : nodeOk { n with l := l } = true := by
  have g := (nodeOk_iff n).1 h
  exact (nodeOk_iff _).2 ⟨g.ino, g.k1, g.k3, g.l0, g.l64, g.size, (rowOk_iff l).2 hl, g.dir, fun q => absurd hk q⟩
theorem nodeOk_row' {n : NodeR} (h : nodeOk n = true) {l : List EntryR} (hl : RowE l) (hn : n.l.length = 0 → l.length = 0) : nodeOk { n with l := l } = true := by
  have g := (nodeOk_iff n).1 h
  exact (nodeOk_iff _).2 ⟨g.ino, g.k1, g.k3, g.l0, g.l64, g.size, (rowOk_iff l).2 hl, g.dir, fun q => hn (g.els q)⟩
theorem nodeOk_links {n : NodeR} (h : nodeOk n = true) {k : Int} (h0 : 0 ≤ k) (h1 : k ≤ 64) : nodeOk { n with links := k } = true := by
  have g := (nodeOk_iff n).1 h
  exact (nodeOk_iff _).2 ⟨g.ino, g.k1, g.k3, h0, h1, g.size, g.row, g.dir, g.els⟩
theorem nodeOk_text {n : NodeR} (h : nodeOk n = true) (hk : n.kind ≠ 2) {t : ByteArray} (ht : t.size ≤ 4096) : nodeOk { n with text := t } = true := by
  have g := (nodeOk_iff n).1 h
  exact (nodeOk_iff _).2 ⟨g.ino, g.k1, g.k3, g.l0, g.l64, ht, g.row, fun q => absurd q hk, g.els⟩
structure Same3 (f g : FSR) : Prop where
  rows : RowsF g
  next : g.next = f.next
  len : g.l.length ≤ f.l.length
theorem Same3.refl {f : FSR} (h : RowsF f) : Same3 f f := ⟨h, rfl, Nat.le_refl _⟩
theorem Same3.trans {f g k : FSR} (h1 : Same3 f g) (h2 : Same3 g k) : Same3 f k := ⟨h2.rows, h2.next.trans h1.next, Nat.le_trans h2.len h1.len⟩
theorem RowsF.find_ok {f : FSR} (h : RowsF f) {d : Int} (hd : (findB f.l d).2 = true) : nodeOk (findB f.l d).1 = true ∧ (findB f.l d).1.ino = d := ⟨h.ok _ (findB_true hd).1, (findB_true hd).2⟩
theorem entered_same {f : FSR} (h : RowsF f) {dir : Int} (hd : (findB f.l dir).2 = true) (hk : (findB f.l dir).1.kind = 2) (s : ByteArray) (ino : Int) : Same3 f (enteredD f dir s ino) := by
  obtain ⟨h1, h2⟩ := h.find_ok hd
  obtain ⟨a, b, c⟩ := h.again (n := { (findB f.l dir).1 with l := (enterE (findB f.l dir).1.l s ino).1 }) (nodeOk_row h1 hk (enterE_row (h.row dir) s ino)) (by simp only [h2]; exact hd)
  exact ⟨a, b, Nat.le_of_eq c⟩
theorem leaveE_nil {l : List EntryR} (s : ByteArray) (h : l.length = 0) : (leaveE l s).1.length = 0 := by
  have : l = [] := List.eq_nil_of_length_eq_zero h
  subst this; rfl
theorem left_same {f : FSR} (h : RowsF f) {dir : Int} (hd : (findB f.l dir).2 = true) (s : ByteArray) : Same3 f (leftD f dir s) := by
  obtain ⟨h1, h2⟩ := h.find_ok hd
  obtain ⟨a, b, c⟩ := h.again (n := { (findB f.l dir).1 with l := (leaveE (findB f.l dir).1.l s).1 }) (nodeOk_row' h1 (leaveE_row (h.row dir) s) (leaveE_nil s)) (by simp only [h2]; exact hd)
  exact ⟨a, b, Nat.le_of_eq c⟩
theorem less_same {f : FSR} (h : RowsF f) {ino : Int} (hd : (findB f.l ino).2 = true) : Same3 f (lessD f ino) := by
  unfold lessD
  split
  · exact ⟨h.out ino, rfl, List.length_filter_le _ _⟩
  · rename_i hl
    obtain ⟨h1, h2⟩ := h.find_ok hd
    have g := h.links ino
    obtain ⟨a, b, c⟩ := h.again (n := { (findB f.l ino).1 with links := (findB f.l ino).1.links - 1 }) (nodeOk_links h1 (by omega) (by omega)) (by simp only [h2]; exact hd)
    exact ⟨a, b, Nat.le_of_eq c⟩
theorem find_left {f : FSR} (h : RowsF f) {dir : Int} (hd : (findB f.l dir).2 = true) (s : ByteArray) (q : Int) : findB (leftD f dir s).l q = if q = dir then ({ (findB f.l dir).1 with l := (leaveE (findB f.l dir).1.l s).1 }, true) else findB f.l q := by
  unfold leftD
  rw [find_put h.rise]
  simp only [(h.find_ok hd).2]
theorem find_entered {f : FSR} (h : RowsF f) {dir : Int} (hd : (findB f.l dir).2 = true) (s : ByteArray) (ino : Int) (q : Int) : findB (enteredD f dir s ino).l q = if q = dir then ({ (findB f.l dir).1 with l := (enterE (findB f.l dir).1.l s ino).1 }, true) else findB f.l q := by
  unfold enteredD
  rw [find_put h.rise]
  simp only [(h.find_ok hd).2]
theorem find_less {f : FSR} (h : RowsF f) {ino : Int} (hd : (findB f.l ino).2 = true) (q : Int) : findB (lessD f ino).l q = if q = ino then (if (findB f.l ino).1.links ≤ 1 then (.zero, false) else ({ (findB f.l ino).1 with links := (findB f.l ino).1.links - 1 }, true)) else findB f.l q := by
  unfold lessD
  split
  · rename_i hl
    rw [find_out h.rise]
  · rw [find_put h.rise]
    simp only [(h.find_ok hd).2]
theorem without_eq {f : FSR} (h : RowsF f) {dir : Int} (hd : (findB f.l dir).2 = true) (s : ByteArray) {ino : Int} (hne : ino ≠ dir) :
    withoutD f dir s ino = if (findB f.l ino).1.links ≤ 1 then outF (leftD f dir s) ino else putB (leftD f dir s) { (findB f.l ino).1 with links := (findB f.l ino).1.links - 1 } := by
  unfold withoutD lessD
  rw [find_left h hd, if_neg hne]
theorem without_same {f : FSR} (h : RowsF f) {dir : Int} (hd : (findB f.l dir).2 = true) (s : ByteArray) {ino : Int} (hi : (findB f.l ino).2 = true) : Same3 f (withoutD f dir s ino) := by
  have h1 := left_same h hd s
  refine h1.trans (less_same h1.rows ?_)
  rw [find_left h hd]
  split
  · rfl
  · exact hi
theorem look_same {f : FSR} (h : RowsF f) {dir : Int} {s : ByteArray} (hl : (lookD f dir s).2 = 0) : Same3 f (withoutD f dir s (lookD f dir s).1.ino) := by
  obtain ⟨h1, h2, h3, h4, h5⟩ := lookD_ok hl
  refine without_same h (dirD_ok h1).1 s ?_
  rw [h5, (h.find_ok h4).2]; exact h4
theorem clear_same {f : FSR} (h : RowsF f) (to : Int) (t : ByteArray) : Same3 f (clearD f to t) := by
  unfold clearD
  split
  · rename_i hl; exact look_same h hl
  · exact .refl h
def mayD (f : FSR) (d : NodeR) (s : ByteArray) (n : NodeR) : Int :=
  firstS [checkS s, unlessS (findE d.l s).2 7, unlessS (decide (256 ≤ f.l.length) || decide (256 ≤ d.l.length)) 12, unlessS (!nodeOk n || decide (0 < n.l.length)) 1]
theorem addD_eq (f : FSR) (dir : Int) (s : ByteArray) (n : NodeR) :
    addD f dir s n = if firstS [(dirD f dir).2, mayD f (dirD f dir).1 s (newN f n)] = 0 then (putB (enteredD f dir s f.next) (newN f n), 0) else (f, firstS [(dirD f dir).2, mayD f (dirD f dir).1 s (newN f n)]) := by
  unfold addD mayD
  generalize dirD f dir = D
  obtain ⟨d, e⟩ := D
  simp only
  have hl : (newN f n).l = n.l := rfl
  rw [hl]
  generalize newN f n = m
  by_cases q1 : e = 0
  case neg => simp [q1, firstS]
  by_cases q2 : checkS s = 0
  case neg => simp [q1, q2, firstS]
  cases q3 : (findE d.l s).2
  case true => simp [q1, q2, firstS, unlessS]
  by_cases q4 : 256 ≤ f.l.length ∨ 256 ≤ d.l.length
  · have q4' : (decide (256 ≤ f.l.length) || decide (256 ≤ d.l.length)) = true := by simpa using q4
    simp [q1, q2, firstS, unlessS, q4, q4']
  · have q4' : (decide (256 ≤ f.l.length) || decide (256 ≤ d.l.length)) = false := by simpa using q4
    rw [q4']
    by_cases q5 : nodeOk m = false ∨ 0 < n.l.length
    · have q5' : (!nodeOk m || decide (0 < n.l.length)) = true := by simpa using q5
      rw [q5']
      simp [q1, q2, firstS, unlessS, q4, q5]
    · have q5' : (!nodeOk m || decide (0 < n.l.length)) = false := by simpa using q5
      rw [q5']
      simp [q1, q2, firstS, unlessS, q4, q5]
def giveE (f : FSR) (dir : Int) (s : ByteArray) (ino : Int) : Int :=
  firstS [(dirD f dir).2, unlessS (!(findB f.l ino).2) 6, unlessS (decide ((findB f.l ino).1.kind = 2)) 9, checkS s, unlessS (findE (dirD f dir).1.l s).2 7, unlessS (decide (256 ≤ (dirD f dir).1.l.length) || decide (64 ≤ (findB f.l ino).1.links)) 12]
theorem giveD_eq (f : FSR) (dir : Int) (s : ByteArray) (ino : Int) :
    giveD f dir s ino = if giveE f dir s ino = 0 then (putB (enteredD f dir s ino) { (findB f.l ino).1 with links := (findB f.l ino).1.links + 1 }, 0) else (f, giveE f dir s ino) := by
  unfold giveD giveE
  generalize dirD f dir = D
  obtain ⟨d, e⟩ := D
  generalize findB f.l ino = N
  obtain ⟨n, is⟩ := N
  simp only
  by_cases q1 : e = 0
  case neg => simp [q1, firstS]
  cases is with
  | false => simp [q1, firstS, unlessS]
  | true =>
  by_cases q0 : n.kind = 2
  · simp [q1, q0, firstS, unlessS]
  by_cases q2 : checkS s = 0
  case neg => simp [q1, q0, q2, firstS, unlessS]
  cases q3 : (findE d.l s).2
  case true => simp [q1, q0, q2, firstS, unlessS]
  by_cases q4 : 256 ≤ d.l.length ∨ 64 ≤ n.links
  · have q4' : (decide (256 ≤ d.l.length) || decide (64 ≤ n.links)) = true := by simpa using q4
    simp [q1, q0, q2, firstS, unlessS, q4, q4']
  · have q4' : (decide (256 ≤ d.l.length) || decide (64 ≤ n.links)) = false := by simpa using q4
    rw [q4']
    simp [q1, q0, q2, firstS, unlessS, q4]
theorem give_ok {f : FSR} {dir : Int} {s : ByteArray} {ino : Int} (h : giveE f dir s ino = 0) : (dirD f dir).2 = 0 ∧ (findB f.l ino).2 = true ∧ (findB f.l ino).1.kind ≠ 2 ∧ checkS s = 0 ∧ (findE (dirD f dir).1.l s).2 = false ∧ (dirD f dir).1.l.length < 256 ∧ (findB f.l ino).1.links < 64 := by
  unfold giveE at h
  generalize dirD f dir = D at *
  obtain ⟨d, e⟩ := D
  generalize findB f.l ino = N at *
  obtain ⟨n, is⟩ := N
  simp only at *
  by_cases q1 : e = 0
  case neg => simp [q1, firstS] at h
  cases is with
  | false => simp [q1, firstS, unlessS] at h
  | true =>
  by_cases q0 : n.kind = 2
  · simp [q1, q0, firstS, unlessS] at h
  by_cases q2 : checkS s = 0
  case neg => simp [q1, q0, q2, firstS, unlessS] at h
  cases q3 : (findE d.l s).2
  case true => simp [q1, q0, q2, q3, firstS, unlessS] at h
  by_cases q4 : 256 ≤ d.l.length ∨ 64 ≤ n.links
  · have q4' : (decide (256 ≤ d.l.length) || decide (64 ≤ n.links)) = true := by simpa using q4
    rw [q4'] at h
    simp [q1, q0, q2, q3, firstS, unlessS] at h
  · exact ⟨q1, rfl, q0, q2, rfl, by omega, by omega⟩
theorem may_ok {f : FSR} {d : NodeR} {s : ByteArray} {n : NodeR} (h : mayD f d s n = 0) : checkS s = 0 ∧ (findE d.l s).2 = false ∧ f.l.length < 256 ∧ d.l.length < 256 ∧ nodeOk n = true ∧ n.l.length = 0 := by
  unfold mayD at h
  by_cases q2 : checkS s = 0
  case neg => simp [q2, firstS, unlessS] at h
  cases q3 : (findE d.l s).2
  case true => simp [q2, q3, firstS, unlessS] at h
  by_cases q4 : 256 ≤ f.l.length ∨ 256 ≤ d.l.length
  · have q4' : (decide (256 ≤ f.l.length) || decide (256 ≤ d.l.length)) = true := by simpa using q4
    rw [q4'] at h
    simp [q2, q3, firstS, unlessS] at h
  · have q4' : (decide (256 ≤ f.l.length) || decide (256 ≤ d.l.length)) = false := by simpa using q4
    rw [q4'] at h
    by_cases q5 : nodeOk n = false ∨ 0 < n.l.length
    · have q5' : (!nodeOk n || decide (0 < n.l.length)) = true := by simpa using q5
      rw [q5'] at h
      simp [q2, q3, firstS, unlessS] at h
    · simp only [not_or, Bool.not_eq_false] at q5
      exact ⟨q2, rfl, by omega, by omega, q5.1, by omega⟩
theorem first_two {a b : Int} (h : firstS [a, b] = 0) : a = 0 ∧ b = 0 := by
  simp only [firstS] at h
  split at h
  · exact absurd h (by assumption)
  · rename_i q
    simp only [ne_eq, Decidable.not_not] at q
    split at h
    · exact absurd h (by assumption)
    · rename_i q2
      exact ⟨q, by simpa using q2⟩
theorem clear_find {f : FSR} (h : RowsF f) (to : Int) (t : ByteArray) (q : Int) (hq : (lookD f to t).2 = 0 → q ≠ (lookD f to t).1.ino) (hto : (lookD f to t).2 = 0 → (lookD f to t).1.ino ≠ to) :
    findB (clearD f to t).l q = if q = to ∧ (lookD f to t).2 = 0 then ({ (findB f.l to).1 with l := (leaveE (findB f.l to).1.l t).1 }, true) else findB f.l q := by
  unfold clearD
  by_cases hl : (lookD f to t).2 = 0
  · rw [if_pos hl]
    obtain ⟨h1, h2, h3, h4, h5⟩ := lookD_ok hl
    have hd := (dirD_ok h1).1
    have hs := left_same h hd t
    have hi := findB_of h.rise (lookD_mem hl)
    unfold withoutD
    rw [find_less hs.rows (by rw [find_left h hd, if_neg (hto hl), hi]), if_neg (hq hl), find_left h hd]
    by_cases e : q = to
    · rw [if_pos e, if_pos ⟨e, hl⟩]
    · rw [if_neg e, if_neg (fun g => e g.1)]
  · rw [if_neg hl, if_neg (fun g => hl g.2)]
end Go.Cx
set_option linter.unusedVariables false
set_option linter.unusedSimpArgs false
namespace Go.Cx
abbrev w64 (n : Int) : Int := IntKind.i64.wrap n
def smallGo : List CallR → Int → Int
  | [], n => n
  | c :: l, n => if n ≤ 2000 then smallGo l (w64 (w64 (w64 (n + c.name.size) + c.name2.size) + c.text.size)) else n
def smallS (l : List CallR) : Bool := decide (smallGo l l.length ≤ 2000) && decide (l.length ≤ 30)
theorem smallGo_step {l : List CallR} {i : Nat} (h : i < l.length) (n : Int) (hn : n ≤ 2000) : smallGo (l.drop i) n = smallGo (l.drop (i + 1)) (w64 (w64 (w64 (n + (l[i]).name.size) + (l[i]).name2.size) + (l[i]).text.size)) := by
  rw [List.drop_eq_getElem_cons h, smallGo, if_pos hn]
theorem smallGo_big (l : List CallR) (n : Int) (hn : ¬ n ≤ 2000) : smallGo l n = n := by
  cases l with
  | nil => rfl
  | cons c l => rw [smallGo, if_neg hn]
theorem smallS_len {l : List CallR} (h : smallS l = true) : l.length ≤ 30 := by
  simp only [smallS, Bool.and_eq_true, decide_eq_true_eq] at h; exact h.2
end Go.Cx
set_option linter.unusedVariables false
namespace Go.Cx
open Go.Lib
theorem rises_snoc {l : List Int} {a : Int} (h : risesI l = true) (hl : ∀ x ∈ l, x < a) : risesI (l ++ [a]) = true := by
  rw [rises_pair] at h ⊢
  rw [List.pairwise_append]
  exact ⟨h, by simp, fun x hx y hy => by simp at hy; subst hy; exact hl x hx⟩
theorem compact_up (d : List Int) (hd : d.Pairwise (· ≤ ·)) : ∀ m, m ≤ d.length → risesI (compactUpTo d.toArray m) = true ∧ (∀ y, y ∈ compactUpTo d.toArray m ↔ y ∈ d.take m)
  | 0, _ => ⟨rfl, by simp [compactUpTo]⟩
  | m + 1, h => by
    obtain ⟨h1, h2⟩ := compact_up d hd m (by omega)
    have hm : m < d.length := by omega
    have e : d.toArray[m]! = d[m] := by simp [getElem!_pos, hm]
    rw [compactUpTo_succ, e]
    have htk : d.take (m + 1) = d.take m ++ [d[m]] := List.take_succ_eq_append_getElem hm
    by_cases hk : keeps d.toArray m = true
    · rw [if_pos hk]
      refine ⟨rises_snoc h1 fun x hx => ?_, fun y => by rw [htk, List.mem_append, List.mem_append, h2]⟩
      have hx := (h2 x).1 hx
      obtain ⟨j, hj, rfl⟩ := List.getElem_of_mem hx
      simp only [List.length_take] at hj
      simp only [List.getElem_take]
      simp only [keeps, decide_eq_true_eq] at hk
      have hjm : j < m := by omega
      have hne : d[m] ≠ d[m - 1]'(by omega) := by
        rcases hk with hk | hk
        · omega
        · simpa [getElem!_pos, hm, show m - 1 < d.length by omega] using hk
      have h3 := List.pairwise_iff_getElem.1 hd (m - 1) m (by omega) hm (by omega)
      have h4 : d[j] ≤ d[m - 1]'(by omega) := by
        rcases Nat.lt_or_ge j (m - 1) with q | q
        · exact List.pairwise_iff_getElem.1 hd j (m - 1) (by omega) (by omega) q
        · have : j = m - 1 := by omega
          subst this; exact Int.le_refl _
      omega
    · rw [if_neg hk, List.append_nil]
      refine ⟨h1, fun y => ?_⟩
      simp only [keeps, decide_eq_true_eq, not_or, ne_eq, Decidable.not_not] at hk
      obtain ⟨hk0, hk1⟩ := hk
      have e2 : d[m] = d[m - 1]'(by omega) := by simpa [getElem!_pos, hm, show m - 1 < d.length by omega] using hk1
      rw [h2, htk, List.mem_append]
      refine ⟨.inl, fun h => h.elim id fun h => ?_⟩
      simp at h
      subst h
      rw [e2]
      exact List.mem_of_getElem (i := m - 1) (h := by simp; omega) (by simp)
theorem compact_sort (l : List Int) : compact (l.mergeSort fun x y => decide (x ≤ y)) = numsS l := by
  have hs := sorted_pair l
  generalize hz : (l.mergeSort fun x y => decide (x ≤ y)) = z at *
  obtain ⟨h1, h2⟩ := compact_up z hs z.length (Nat.le_refl _)
  obtain ⟨h3, h4⟩ := numsS_spec l
  refine rises_same idI h1 h3 fun x => ?_
  show x ∈ compactUpTo z.toArray z.length ↔ _
  rw [h2, h4, List.take_length, ← hz]; exact List.mem_mergeSort
theorem compact_len (l : List Int) : (compact l).length ≤ l.length := by
  unfold compact compactUpTo
  rw [List.length_map]
  exact Nat.le_trans (List.length_filter_le _ _) (by simp)
theorem compact_nil {l : List Int} (h : l ≠ []) : compact l ≠ [] := by
  unfold compact
  cases l with
  | nil => exact absurd rfl h
  | cons a l =>
    intro e
    have : (0 : Nat) ∈ (List.range (a :: l).length).filter (keeps (a :: l).toArray) := by
      rw [List.mem_filter]
      exact ⟨by simp, by simp [keeps]⟩
    unfold compactUpTo at e
    rw [List.map_eq_nil_iff] at e
    rw [e] at this
    cases this
end Go.Cx
set_option linter.unusedVariables false
namespace Go.Cx
structure CalmF (f : FSR) (c : CallR) : Prop where
  here : (c.kind = 9 ∨ c.kind = 10) → (lookD f c.ino c.name).2 = 0 → (lookD f c.ino c.name).1.ino ≠ c.ino
  there : c.kind = 12 → (lookD f c.to_ c.name2).2 = 0 → (lookD f c.to_ c.name2).1.ino ≠ c.to_
def PlayOk : FSR → List CallR → Prop
  | _, [] => True
  | f, c :: l => (RowsF f ∧ f.next < 4611686018427387904 ∧ CalmF f c ∧ c.wf) ∧ PlayOk (doS f c).1 l
theorem playS_len : ∀ (f : FSR) (l : List CallR), (playS f l).2.length = l.length
  | _, [] => rfl
  | f, c :: l => by simp [playS, playS_len (doS f c).1 l]
theorem playS_app : ∀ (f : FSR) (a b : List CallR), playS f (a ++ b) = ((playS (playS f a).1 b).1, (playS f a).2 ++ (playS (playS f a).1 b).2)
  | f, [], b => rfl
  | f, c :: a, b => by
    simp only [List.cons_append, playS, playS_app (doS f c).1 a b]
end Go.Cx
