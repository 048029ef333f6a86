import Derived.Test.YtdnfnddlciafmaaGreatXBn
set_option linter.unusedVariables false
set_option linter.unusedSimpArgs false
namespace Go.Cx
structure Added (f : FSR) (dir : Int) (s : ByteArray) (n : NodeR) (k : FSR) : Prop where
  rows : RowsF k
  next : k.next = f.next + 1
  find : ∀ q, findB k.l q = if q = f.next then (newN f n, true) else if q = dir then ({ (findB f.l dir).1 with l := (enterE (findB f.l dir).1.l s f.next).1 }, true) else findB f.l q
  isdir : (findB f.l dir).2 = true ∧ (findB f.l dir).1.kind = 2
  name : checkS s = 0
  free : (findE (findB f.l dir).1.l s).2 = false
  room : (findB f.l dir).1.l.length < 256
  ok : nodeOk (newN f n) = true ∧ n.l.length = 0
  len : k.l.length = f.l.length + 1 ∨ k.l.length ≤ f.l.length + 1
theorem added {f : FSR} {dir : Int} {s : ByteArray} {n : NodeR} (h : RowsF f) (he : (addD f dir s n).2 = 0) : Added f dir s n (addD f dir s n).1 := by
  rw [addD_eq] at he ⊢
  split at he
  case isFalse hq => exact absurd he hq
  case isTrue hq =>
    rw [if_pos hq]
    obtain ⟨q1, q2⟩ := first_two hq
    obtain ⟨d1, d2, d3⟩ := dirD_ok q1
    obtain ⟨m1, m2, m3, m4, m5, m6⟩ := may_ok q2
    rw [d3] at m2 m4
    have hs := entered_same h d1 d2 s f.next
    have hp := put_spec hs.rows.rise (newN f n)
    have hl := hs.len
    have hp3 := hp.2.2
    have hi : (newN f n).ino = f.next := rfl
    refine ⟨hs.rows.put m5 (by omega), ?_, fun q => ?_, ⟨d1, d2⟩, m1, m2, m4, ⟨m5, m6⟩, .inr (by simp only at hp3 ⊢; omega)⟩
    · show max (enteredD f dir s f.next).next ((newN f n).ino + 1) = f.next + 1
      rw [hs.next, hi]; omega
    · rw [find_put hs.rows.rise, hi]
      by_cases e : q = f.next
      · rw [if_pos e, if_pos e]
      · rw [if_neg e, if_neg e, find_entered h d1]
theorem over_len (s : List UInt8) (k : Nat) (t : List UInt8) : (overL s k t).length = max s.length (k + t.length) := by
  simp only [overL, List.length_append, List.length_take, List.length_replicate, List.length_drop]; omega
theorem write_len {s : List UInt8} {a : Int} {t : List UInt8} (h : (writeT s a t).2 = 0) (hs : s.length ≤ 4096) : (writeT s a t).1.length ≤ 4096 := by
  unfold writeT at h ⊢
  split at h
  · simp at h
  rename_i h1
  rw [if_neg h1]
  split at h
  · simp at h
  rename_i h2
  rw [if_neg h2]
  split
  · exact hs
  · simp only [over_len]; omega
theorem cut_len {s : List UInt8} {m : Int} (h : (cutT s m).2 = 0) : (cutT s m).1.length ≤ 4096 := by
  unfold cutT at h ⊢
  split at h
  · simp at h
  rename_i h1
  rw [if_neg h1]
  split at h
  · simp at h
  rename_i h2
  rw [if_neg h2]
  simp only [List.length_append, List.length_take, List.length_replicate]; omega
theorem text_same {f : FSR} (h : RowsF f) {ino : Int} {m : NodeR} (hm : findB f.l ino = (m, true)) (hk : m.kind ≠ 2) {x : List UInt8} (hx : x.length ≤ 4096) : Same3 f (putB f { m with text := T x }) ∧ ∀ q, findB (putB f { m with text := T x }).l q = if q = ino then ({ m with text := T x }, true) else findB f.l q := by
  obtain ⟨h1, h2⟩ := (findB_iff h.rise ino m).1 hm
  obtain ⟨a, b, c⟩ := h.again (n := { m with text := T x }) (nodeOk_text (h.ok m h1) hk hx) (by simp only [h2]; rw [hm])
  exact ⟨⟨a, b, Nat.le_of_eq c⟩, fun q => by rw [find_put h.rise]; simp only [h2]⟩
end Go.Cx
