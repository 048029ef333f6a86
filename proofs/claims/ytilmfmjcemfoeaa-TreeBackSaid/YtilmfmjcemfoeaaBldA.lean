/- Texts that are built up: strings.Builder's own, for a builder whose row is told. -/
import Derived.Test.YtilmfmjcemfoeaaOctW
import Derived.Test.YtilmfmjcemfoeaaBq
set_option linter.unusedVariables false
set_option linter.unusedSimpArgs false
namespace Go.Proofs.Ytilmfmjcemfoeaa
open Go.Cx Tab
set_option maxHeartbeats 400000
set_option maxRecDepth 40000

abbrev bld (a : AV) (v n : Nat) : ABlk := .typed 49 0 [a, .own 1 v 0 n 1]
abbrev byt (v : Nat) (s : ByteArray) : ABlk := .typed 5 v (bytesA s)
theorem check1_ok (v : Nat) (s : ByteArray) : HCall Try.prog 33 [.ptr 0 0 0] [bld (.val (.pointer none)) v s.size, byt v s] (.tup []) [bld (.ptr 0 0 0) v s.size, byt v s] := by
  refine HCall.mk' (fun _ => false) Try.func33 rfl rfl rfl (Ent.mk Try.func33 (by kernel_rfl) rfl) (by simp) (by simp) (by simp) (by simp) (by simp) fun hfit => ?_
  simp [Try.f33]
  refine AInv.noEscape Try.func43 rfl rfl rfl rfl ?_
  simp [PostA_n, putAt]
theorem check2_ok (v : Nat) (s : ByteArray) : HCall Try.prog 33 [.ptr 0 0 0] [bld (.ptr 0 0 0) v s.size, byt v s] (.tup []) [bld (.ptr 0 0 0) v s.size, byt v s] := by
  refine HCall.mk' (fun _ => false) Try.func33 rfl rfl rfl (Ent.mk Try.func33 (by kernel_rfl) rfl) (by simp) (by simp) (by simp) (by simp) (by simp) fun hfit => ?_
  simp [Try.f33]
theorem wstr_ok (a : AV) (ha : a = .val (.pointer none) ∨ a = .ptr 0 0 0) (v : Nat) (s t : ByteArray) (h0 : 0 < t.size) (h1 : s.size + t.size ≤ 140737488355328) : HCall Try.prog 19 [.ptr 0 0 0, S t] [bld a v s.size, byt v s] (.tup [I t.size, .val .nilIface]) [bld (.ptr 0 0 0) (v + 1) (s.size + t.size), byt (v + 1) (s ++ t)] := by
  rcases ha with rfl | rfl
  · refine HCall.mk' (fun _ => false) Try.func19 rfl rfl rfl (Ent.mk Try.func19 (by kernel_rfl) rfl) (by simp) (by simp) (by simp) (by simp) (by simp) fun hfit => ?_
    simp [Try.f19]
    refine AInv.heap [0, 1] (check1_ok v s) ?_ ?_ ?_
    · simp
    · simp
    simp [h0, h1, bytesA_append, PostA_n, putAt, show ofV Value.nilIface = AV.val Value.nilIface from rfl]
  · refine HCall.mk' (fun _ => false) Try.func19 rfl rfl rfl (Ent.mk Try.func19 (by kernel_rfl) rfl) (by simp) (by simp) (by simp) (by simp) (by simp) fun hfit => ?_
    simp [Try.f19]
    refine AInv.heap [0, 1] (check2_ok v s) ?_ ?_ ?_
    · simp
    · simp
    simp [h0, h1, bytesA_append, PostA_n, putAt, show ofV Value.nilIface = AV.val Value.nilIface from rfl]
theorem bstr_ok (v : Nat) (s : ByteArray) (h0 : 0 < s.size) (h1 : s.size ≤ 140737488355328) : HCall Try.prog 23 [.ptr 0 0 0] [bld (.ptr 0 0 0) v s.size, byt v s] (S s) [bld (.ptr 0 0 0) v s.size, .dead] := by
  refine HCall.mk' (fun _ => false) Try.func23 rfl rfl rfl (Ent.mk Try.func23 (by kernel_rfl) rfl) (by simp) (by simp) (by simp) (by simp) (by simp) fun hfit => ?_
  obtain ⟨m, hm⟩ : ∃ m, s.size = m + 1 := ⟨s.size - 1, by omega⟩
  simp [Try.f23]
  refine AW.draw (id := 1) Try.checked.mixed (fun _ => false) [1] [(4, .r 1)] 10 (by kernel_rfl) ?_
  have hm2 : m ≤ 9223372036854775806 := by omega
  simp [hm, hm2, PostA_n]
end Go.Proofs.Ytilmfmjcemfoeaa
