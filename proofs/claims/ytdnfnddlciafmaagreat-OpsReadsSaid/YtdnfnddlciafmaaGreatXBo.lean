import Derived.Test.YtdnfnddlciafmaaGreatXBn
set_option linter.unusedVariables false
set_option linter.unusedSimpArgs false
namespace Go.Cx
structure Added (f : FSR) (dir : Int) (s : ByteArray) (n : NodeR) (k : FSR) : Prop where
  rows : RowsF k
  next : k.next = f.next + 1
  find : ∀ q, findB k.l q = if q = f.next then (newN f n, true) else if q = dir then ({ (findB f.l dir).1 with l := (enterE (findB f.l dir).1.l s f.next).1 }, true) else findB f.l q
  isdir : (findB f.l dir).2 = true ∧ (findB f.l dir).1.kind = 2
  name : checkS s = 0
  free : (findE (findB f.l dir).1.l s).2 = false
  room : (findB f.l dir).1.l.length < 256
  ok : nodeOk (newN f n) = true ∧ n.l.length = 0
  len : k.l.length = f.l.length + 1 ∨ k.l.length ≤ f.l.length + 1
theorem added {f : FSR} {dir : Int} {s : ByteArray} {n : NodeR} (h : RowsF f) (he : (addD f dir s n).2 = 0) : Added f dir s n (addD f dir s n).1 := by
  rw [addD_eq] at he ⊢
  split at he
  case isFalse hq => exact absurd he hq
  case isTrue hq =>
    rw [if_pos hq]
    obtain ⟨q1, q2⟩ := first_two hq
    obtain ⟨d1, d2, d3⟩ := dirD_ok q1
    obtain ⟨m1, m2, m3, m4, m5, m6⟩ := may_ok q2
    rw [d3] at m2 m4
    have hs := entered_same h d1 d2 s f.next
    have hp := put_spec hs.rows.rise (newN f n)
    have hl := hs.len
    have hp3 := hp.2.2
    have hi : (newN f n).ino = f.next := rfl
    refine ⟨hs.rows.put m5 (by omega), ?_, fun q => ?_, ⟨d1, d2⟩, m1, m2, m4, ⟨m5, m6⟩, .inr (by simp only at hp3 ⊢; omega)⟩
    · show max (enteredD f dir s f.next).next ((newN f n).ino + 1) = f.next + 1
      rw [hs.next, hi]; omega
    · rw [find_put hs.rows.rise, hi]
      by_cases e : q = f.next
      · rw [if_pos e, if_pos e]
      · rw [if_neg e, if_neg e, find_entered h d1]
theorem over_read (s : List UInt8) (k : Nat) (t : List UInt8) : ((overL s k t).drop k).take t.length = t := by
  have hl : ((s ++ List.replicate (k - s.length) 0).take k).length = k := by simp; omega
  unfold overL
  rw [List.append_assoc, List.drop_append_of_le_length (by omega), List.drop_eq_nil_of_le (by omega), List.nil_append]
  simp
theorem over_len (s : List UInt8) (k : Nat) (t : List UInt8) : (overL s k t).length = max s.length (k + t.length) := by
  simp only [overL, List.length_append, List.length_take, List.length_replicate, List.length_drop]; omega
theorem write_read {s : List UInt8} {a : Int} {t : List UInt8} (h : (writeT s a t).2 = 0) : readT (writeT s a t).1 a t.length = (t, 0) := by
  unfold writeT at h ⊢
  split at h
  · simp at h
  rename_i h1
  rw [if_neg h1]
  split at h
  · simp at h
  rename_i h2
  rw [if_neg h2]
  have h3 : ¬ (a < 0 ∨ 1099511627776 < a ∨ (t.length : Int) < 0 ∨ 1099511627776 - a < t.length) := by omega
  unfold readT
  rw [if_neg h3]
  by_cases ht : t = []
  · rw [if_pos ht]; subst ht; simp
  · rw [if_neg ht]
    have := over_read s a.toNat t
    simp only [Int.toNat_natCast]
    rw [this]
def cMake (dir : Int) (s : ByteArray) : CallR := ⟨6, dir, 0, 0, 0, s, .empty, .empty⟩
def cRead (ino at_ many : Int) : CallR := ⟨3, ino, 0, at_, many, .empty, .empty, .empty⟩
def cLook (dir : Int) (s : ByteArray) : CallR := ⟨1, dir, 0, 0, 0, s, .empty, .empty⟩
def cWrite (ino at_ : Int) (t : ByteArray) : CallR := ⟨4, ino, 0, at_, 0, .empty, .empty, t⟩
def n0 : NodeR := ⟨0, 1, 0, .empty, []⟩
theorem doMake (f : FSR) (dir : Int) (s : ByteArray) : doS f (cMake dir s) = if (addD f dir s n0).2 ≠ 0 then (f, errR (addD f dir s n0).2) else ((addD f dir s n0).1, ⟨0, f.next, 0, 0, .empty, []⟩) := rfl
theorem doRead (f : FSR) (ino a m : Int) : doS f (cRead ino a m) = (f, if (ofD f ino 1).2 ≠ 0 then errR (ofD f ino 1).2 else toldR ⟨0, 0, 0, 0, T (readT (bs (ofD f ino 1).1.text) a m).1, []⟩ (readT (bs (ofD f ino 1).1.text) a m).2) := rfl
theorem doLook (f : FSR) (dir : Int) (s : ByteArray) : doS f (cLook dir s) = (f, toldR ⟨0, (lookD f dir s).1.ino, 0, 0, .empty, []⟩ (lookD f dir s).2) := rfl
theorem doWrite (f : FSR) (ino a : Int) (t : ByteArray) : doS f (cWrite ino a t) = ((textD f ino fun s => writeT s a (bs t)).1, toldR ⟨0, t.size, 0, 0, .empty, []⟩ (textD f ino fun s => writeT s a (bs t)).2) := rfl
theorem ofD_of {f : FSR} {ino k : Int} {n : NodeR} (h : findB f.l ino = (n, true)) (hk : n.kind = k) : ofD f ino k = (n, 0) := by
  unfold ofD
  rw [h]
  simp [hk]
theorem added_look {f : FSR} {dir : Int} {s : ByteArray} {n : NodeR} {k : FSR} (h : RowsF f) (A : Added f dir s n k) : lookD k dir s = (newN f n, 0) := by
  obtain ⟨d1, d2⟩ := A.isdir
  have hne : dir ≠ f.next := fun e => by
    have h1 := h.lt _ (findB_true d1).1
    rw [(findB_true d1).2] at h1; omega
  have hd : findB k.l dir = ({ (findB f.l dir).1 with l := (enterE (findB f.l dir).1.l s f.next).1 }, true) := by rw [A.find, if_neg hne, if_pos rfl]
  have hn : findB k.l f.next = (newN f n, true) := by rw [A.find, if_pos rfl]
  have hdd : dirD k dir = ({ (findB f.l dir).1 with l := (enterE (findB f.l dir).1.l s f.next).1 }, 0) := by
    unfold dirD
    rw [hd]
    simp [d2]
  have hnx := h.next
  have hen : (enterE (findB f.l dir).1.l s f.next).1 = insE (findB f.l dir).1.l s f.next := by
    have hr := A.room
    unfold enterE
    rw [if_neg (by simpa using A.name), if_neg (by omega), if_neg (by rw [A.free]; simp), if_neg (by omega)]
  have hrow := h.row dir
  have hfe : findE (insE (findB f.l dir).1.l s f.next) s = (f.next, true) :=
    findE_some (insE_rises hrow.rise (findE_false.1 A.free) f.next) (x := ⟨s, f.next⟩) ((insE_mem _ _ _ _).2 (.inl rfl))
  unfold lookD
  rw [hdd]
  simp only [hen, hfe, hn]
  simp [A.name]
theorem write_made {k : FSR} {ino : Int} {m : NodeR} (h : RowsF k) (hm : findB k.l ino = (m, true)) (hk : m.kind = 1) (a : Int) (t : ByteArray) :
    ((doS k (cWrite ino a t)).2.e ≠ 0 ∧ (doS k (cWrite ino a t)).1 = k) ∨
    ((doS k (cWrite ino a t)).2 = ⟨0, t.size, 0, 0, .empty, []⟩ ∧ (writeT (bs m.text) a (bs t)).2 = 0 ∧ (doS k (cWrite ino a t)).1 = putB k { m with text := T (writeT (bs m.text) a (bs t)).1 }) := by
  rw [doWrite]
  unfold textD
  rw [ofD_of hm hk]
  simp only [ne_eq, not_true_eq_false, if_false]
  by_cases q : (writeT (bs m.text) a (bs t)).2 = 0
  · right
    rw [if_neg (by simpa using q)]
    exact ⟨rfl, q, rfl⟩
  · left
    rw [if_pos q]
    exact ⟨by simp only [toldR, ne_eq, q, not_false_eq_true, if_true, errR], rfl⟩
theorem write_len {s : List UInt8} {a : Int} {t : List UInt8} (h : (writeT s a t).2 = 0) (hs : s.length ≤ 4096) : (writeT s a t).1.length ≤ 4096 := by
  unfold writeT at h ⊢
  split at h
  · simp at h
  rename_i h1
  rw [if_neg h1]
  split at h
  · simp at h
  rename_i h2
  rw [if_neg h2]
  split
  · exact hs
  · simp only [over_len]; omega
theorem text_same {f : FSR} (h : RowsF f) {ino : Int} {m : NodeR} (hm : findB f.l ino = (m, true)) (hk : m.kind ≠ 2) {x : List UInt8} (hx : x.length ≤ 4096) : Same3 f (putB f { m with text := T x }) ∧ ∀ q, findB (putB f { m with text := T x }).l q = if q = ino then ({ m with text := T x }, true) else findB f.l q := by
  obtain ⟨h1, h2⟩ := (findB_iff h.rise ino m).1 hm
  obtain ⟨a, b, c⟩ := h.again (n := { m with text := T x }) (nodeOk_text (h.ok m h1) hk hx) (by simp only [h2]; rw [hm])
  exact ⟨⟨a, b, Nat.le_of_eq c⟩, fun q => by rw [find_put h.rise]; simp only [h2]⟩
end Go.Cx
