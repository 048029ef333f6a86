import Derived.Test.YtdnfnddlciafmaaGreatXLaw11b
import Derived.Test.YtdnfnddlciafmaaGreatXBo
set_option linter.unusedVariables false
set_option linter.unusedSimpArgs false
namespace Go.Proofs.YtdnfnddlciafmaaGreat
open Go.Cx Tab
set_option maxHeartbeats 400000
set_option maxRecDepth 40000
theorem law_reads (w : OpsReadsInR) (hwf : w.wf) : PCall Tryz.prog 4 [.agg w.enc] (B true) := by
  have h0 := shown11_ok
  have h1 := few11_ok w.f
  obtain ⟨f, dir, s, at_, t⟩ := w
  simp only at h1
  cases q1 : fewOk f with
  | false =>
    rw [q1] at h1
    refine PCall.mk (fun _ => false) Tryz.func4 rfl rfl rfl (Ent.mk Tryz.func4 (by kernel_rfl) rfl) (by simp) (by simp) fun hfit => ?_
    simp [Tryz.f4]
    try simp
    repeat' (first
      | ((first | refine Tst.go (fun hw_ ew_ => ?_) (fun hw_ ew_ => ?_)) <;> first | (exfalso; first | omega | with_reducible exact hw_ (by assumption) | with_reducible exact absurd hw_ (by assumption)) | (have nw_ := Nw.nw hw_; simp [ew_, nw_]) | simp [ew_])
      | ((first | (refine Pc.go (h0) ?_ ?_; focus (first | rfl | (simp; done))) | (refine Pc.go (h1) ?_ ?_; focus (first | rfl | (simp; done))) | rw [if_pos (by first | omega | (simp only [maxLen]; omega))] | rw [if_neg (by first | omega | (simp only [maxLen]; omega))] | rw [frzOwn_neat (by simp) (by simp <;> omega)] | rw [fzOwn_neat (by simp) (by simp <;> omega)]); try simp)
      | ((first | refine TstB.go (fun hw_ ew_ => ?_) (fun hw_ ew_ => ?_)) <;> first | (exfalso; first | omega | with_reducible exact hw_ (by assumption) | with_reducible exact absurd hw_ (by assumption)) | simp [ew_])
      | fail)
  | true =>
  rw [q1] at h1
  by_cases z1 : 500 < s.size
  · refine PCall.mk (fun _ => false) Tryz.func4 rfl rfl rfl (Ent.mk Tryz.func4 (by kernel_rfl) rfl) (by simp) (by simp) fun hfit => ?_
    simp [Tryz.f4]
    try simp [z1]
    repeat' (first
      | ((first | refine Tst.go (fun hw_ ew_ => ?_) (fun hw_ ew_ => ?_)) <;> first | (exfalso; first | omega | with_reducible exact hw_ (by assumption) | with_reducible exact absurd hw_ (by assumption)) | (have nw_ := Nw.nw hw_; simp [ew_, nw_, z1]) | simp [ew_, z1])
      | ((first | (refine Pc.go (h0) ?_ ?_; focus (first | rfl | (simp [z1]; done))) | (refine Pc.go (h1) ?_ ?_; focus (first | rfl | (simp [z1]; done))) | rw [if_pos (by first | omega | (simp only [maxLen]; omega))] | rw [if_neg (by first | omega | (simp only [maxLen]; omega))] | rw [frzOwn_neat (by simp) (by simp <;> omega)] | rw [fzOwn_neat (by simp) (by simp <;> omega)]); try simp [z1])
      | ((first | refine TstB.go (fun hw_ ew_ => ?_) (fun hw_ ew_ => ?_)) <;> first | (exfalso; first | omega | with_reducible exact hw_ (by assumption) | with_reducible exact absurd hw_ (by assumption)) | simp [ew_, z1])
      | fail)
  by_cases z2 : 1000 < t.size
  · refine PCall.mk (fun _ => false) Tryz.func4 rfl rfl rfl (Ent.mk Tryz.func4 (by kernel_rfl) rfl) (by simp) (by simp) fun hfit => ?_
    simp [Tryz.f4]
    try simp [z1, z2]
    repeat' (first
      | ((first | refine Tst.go (fun hw_ ew_ => ?_) (fun hw_ ew_ => ?_)) <;> first | (exfalso; first | omega | with_reducible exact hw_ (by assumption) | with_reducible exact absurd hw_ (by assumption)) | (have nw_ := Nw.nw hw_; simp [ew_, nw_, z1, z2]) | simp [ew_, z1, z2])
      | ((first | (refine Pc.go (h0) ?_ ?_; focus (first | rfl | (simp [z1, z2]; done))) | (refine Pc.go (h1) ?_ ?_; focus (first | rfl | (simp [z1, z2]; done))) | rw [if_pos (by first | omega | (simp only [maxLen]; omega))] | rw [if_neg (by first | omega | (simp only [maxLen]; omega))] | rw [frzOwn_neat (by simp) (by simp <;> omega)] | rw [fzOwn_neat (by simp) (by simp <;> omega)]); try simp [z1, z2])
      | ((first | refine TstB.go (fun hw_ ew_ => ?_) (fun hw_ ew_ => ?_)) <;> first | (exfalso; first | omega | with_reducible exact hw_ (by assumption) | with_reducible exact absurd hw_ (by assumption)) | simp [ew_, z1, z2])
      | fail)
  obtain ⟨_, w1, w2, w3, w4⟩ := hwf
  simp only at w1 w2 w3 w4
  simp only [fewOk, Bool.and_eq_true, decide_eq_true_eq] at q1
  obtain ⟨⟨_, q2⟩, q3⟩ := q1
  have hrow : rowsOk f = true := by simp only [rightF, Bool.and_eq_true] at q2; exact q2.1.1.1
  have R := (rows_iff f).1 hrow
  have hR := right_of q2
  have m0 : (0 : Nat) ≤ maxLen := Nat.zero_le _
  have i0 : ∀ n : Int, 0 ≤ n → n < 100000 → inI n := fun n h h' => ⟨by omega, by omega⟩
  have d1 := do_ok f (cMake dir s) R (by omega) ⟨i0 6 (by omega) (by omega), w1, i0 0 (by omega) (by omega), i0 0 (by omega) (by omega), i0 0 (by omega) (by omega), w2, m0, m0⟩ ⟨fun e => absurd e (by simp [cMake]), fun e => absurd e (by simp [cMake])⟩
  have e1 : encC (cMake dir s) = .agg [I 6, I dir, I 0, I 0, I 0, S s, S .empty, S .empty] := rfl
  rw [e1, doMake] at d1
  by_cases z3 : (addD f dir s n0).2 = 0
  case neg =>
    rw [if_pos z3] at d1
    generalize addD f dir s n0 = X at *
    refine PCall.mk (fun _ => false) Tryz.func4 rfl rfl rfl (Ent.mk Tryz.func4 (by kernel_rfl) rfl) (by simp) (by simp) fun hfit => ?_
    simp [Tryz.f4]
    try simp [z1, z2, z3, errR, ReplyR.enc]
    repeat' (first
      | ((first | refine Tst.go (fun hw_ ew_ => ?_) (fun hw_ ew_ => ?_)) <;> first | (exfalso; first | omega | with_reducible exact hw_ (by assumption) | with_reducible exact absurd hw_ (by assumption)) | (have nw_ := Nw.nw hw_; simp [ew_, nw_, z1, z2, z3, errR, ReplyR.enc]) | simp [ew_, z1, z2, z3, errR, ReplyR.enc])
      | ((first | (refine Pc.go (h0) ?_ ?_; focus (first | rfl | (simp [z1, z2, z3, errR, ReplyR.enc]; done))) | (refine Pc.go (h1) ?_ ?_; focus (first | rfl | (simp [z1, z2, z3, errR, ReplyR.enc]; done))) | (refine Pc.go (d1) ?_ ?_; focus (first | rfl | (simp [z1, z2, z3, errR, ReplyR.enc]; done))) | rw [if_pos (by first | omega | (simp only [maxLen]; omega))] | rw [if_neg (by first | omega | (simp only [maxLen]; omega))] | rw [frzOwn_neat (by simp) (by simp <;> omega)] | rw [fzOwn_neat (by simp) (by simp <;> omega)]); try simp [z1, z2, z3, errR, ReplyR.enc])
      | ((first | refine TstB.go (fun hw_ ew_ => ?_) (fun hw_ ew_ => ?_)) <;> first | (exfalso; first | omega | with_reducible exact hw_ (by assumption) | with_reducible exact absurd hw_ (by assumption)) | simp [ew_, z1, z2, z3, errR, ReplyR.enc])
      | fail)
  rw [if_neg (by simpa using z3)] at d1
  have A := added R z3
  have hlk := added_look R A
  generalize (addD f dir s n0).1 = a at *
  have hnx := R.next
  have hfa : findB a.l f.next = (newN f n0, true) := by rw [A.find, if_pos rfl]
  have d2 := do_ok a (cRead f.next 0 9) A.rows (by rw [A.next]; omega) ⟨i0 3 (by omega) (by omega), ⟨by simp only [cRead]; omega, by simp only [cRead]; omega⟩, i0 0 (by omega) (by omega), i0 0 (by omega) (by omega), i0 9 (by omega) (by omega), m0, m0, m0⟩ ⟨fun e => absurd e (by simp [cRead]), fun e => absurd e (by simp [cRead])⟩
  rw [doRead, ofD_of (k := 1) hfa rfl] at d2
  have D2 : PCall Tryz.prog 22 [encF a, .agg [I 3, I f.next, I 0, I 0, I 9, S .empty, S .empty, S .empty]] (rTup (a, ⟨0, 0, 0, 0, T [], []⟩)) := d2
  clear d2
  have d3 := do_ok a (cLook dir s) A.rows (by rw [A.next]; omega) ⟨i0 1 (by omega) (by omega), w1, i0 0 (by omega) (by omega), i0 0 (by omega) (by omega), i0 0 (by omega) (by omega), w2, m0, m0⟩ ⟨fun e => absurd e (by simp [cLook]), fun e => absurd e (by simp [cLook])⟩
  rw [doLook, hlk] at d3
  have D3 : PCall Tryz.prog 22 [encF a, .agg [I 1, I dir, I 0, I 0, I 0, S s, S .empty, S .empty]] (rTup (a, ⟨0, f.next, 0, 0, .empty, []⟩)) := d3
  clear d3
  have d4 := do_ok a (cWrite f.next at_ t) A.rows (by rw [A.next]; omega) ⟨i0 4 (by omega) (by omega), ⟨by simp only [cWrite]; omega, by simp only [cWrite]; omega⟩, i0 0 (by omega) (by omega), w3, i0 0 (by omega) (by omega), m0, m0, w4⟩ ⟨fun e => absurd e (by simp [cWrite]), fun e => absurd e (by simp [cWrite])⟩
  have e4 : encC (cWrite f.next at_ t) = .agg [I 4, I f.next, I 0, I at_, I 0, S .empty, S .empty, S t] := rfl
  rw [e4] at d4
  have W := write_made A.rows hfa rfl at_ t
  generalize doS a (cWrite f.next at_ t) = X at *
  obtain ⟨k, r⟩ := X
  simp only at W
  have e0 : (⟨#[]⟩ : ByteArray) = T [] := rfl
  rcases W with ⟨W1, W2⟩ | ⟨W1, W2, W3⟩
  · subst W2
    have d5 := do_ok k (cRead f.next at_ t.size) A.rows (by rw [A.next]; omega) ⟨i0 3 (by omega) (by omega), ⟨by simp only [cRead]; omega, by simp only [cRead]; omega⟩, i0 0 (by omega) (by omega), w3, i0 t.size (by omega) (by omega), m0, m0, m0⟩ ⟨fun e => absurd e (by simp [cRead]), fun e => absurd e (by simp [cRead])⟩
    rw [doRead] at d5
    generalize (if (ofD k f.next 1).2 ≠ 0 then errR (ofD k f.next 1).2 else toldR ⟨0, 0, 0, 0, T (readT (bs (ofD k f.next 1).1.text) at_ t.size).1, []⟩ (readT (bs (ofD k f.next 1).1.text) at_ t.size).2) = Z at d5
    have e5 : encC (cRead f.next at_ t.size) = .agg [I 3, I f.next, I 0, I at_, I t.size, S .empty, S .empty, S .empty] := rfl
    rw [e5] at d5
    have d6 := rfind08_ok k f.next A.rows.rise (by have := A.rows.len; omega)
    rw [hfa] at d6
    have d7 := rnright_ok (newN f n0)
    rw [A.ok.1] at d7
    have hkd : (newN f n0).kind = 1 := rfl
    generalize newN f n0 = nn at *
    clear hfa hlk A
    refine PCall.mk (fun _ => false) Tryz.func4 rfl rfl rfl (Ent.mk Tryz.func4 (by kernel_rfl) rfl) (by simp) (by simp) fun hfit => ?_
    simp [Tryz.f4]
    try simp [z1, z2, W1, hkd, e0, ReplyR.enc]
    repeat' (first
      | ((first | refine Tst.go (fun hw_ ew_ => ?_) (fun hw_ ew_ => ?_)) <;> first | (exfalso; first | omega | with_reducible exact hw_ (by assumption) | with_reducible exact absurd hw_ (by assumption)) | (have nw_ := Nw.nw hw_; simp [ew_, nw_, z1, z2, W1, hkd, e0, ReplyR.enc]) | simp [ew_, z1, z2, W1, hkd, e0, ReplyR.enc])
      | ((first | (refine Pc.go (h0) ?_ ?_; focus (first | rfl | (simp [z1, z2, W1, hkd, e0, ReplyR.enc]; done))) | (refine Pc.go (h1) ?_ ?_; focus (first | rfl | (simp [z1, z2, W1, hkd, e0, ReplyR.enc]; done))) | (refine Pc.go (d1) ?_ ?_; focus (first | rfl | (simp [z1, z2, W1, hkd, e0, ReplyR.enc]; done))) | (refine Pc.go (D2) ?_ ?_; focus (first | rfl | (simp [z1, z2, W1, hkd, e0, ReplyR.enc]; done))) | (refine Pc.go (D3) ?_ ?_; focus (first | rfl | (simp [z1, z2, W1, hkd, e0, ReplyR.enc]; done))) | (refine Pc.go (d4) ?_ ?_; focus (first | rfl | (simp [z1, z2, W1, hkd, e0, ReplyR.enc]; done))) | (refine Pc.go (d5) ?_ ?_; focus (first | rfl | (simp [z1, z2, W1, hkd, e0, ReplyR.enc]; done))) | (refine Pc.go (d6) ?_ ?_; focus (first | rfl | (simp [z1, z2, W1, hkd, e0, ReplyR.enc]; done))) | (refine Pc.go (d7) ?_ ?_; focus (first | rfl | (simp [z1, z2, W1, hkd, e0, ReplyR.enc]; done))) | rw [if_pos (by first | omega | (simp only [maxLen]; omega))] | rw [if_neg (by first | omega | (simp only [maxLen]; omega))] | rw [frzOwn_neat (by simp) (by simp <;> omega)] | rw [fzOwn_neat (by simp) (by simp <;> omega)]); try simp [z1, z2, W1, hkd, e0, ReplyR.enc])
      | ((first | refine TstB.go (fun hw_ ew_ => ?_) (fun hw_ ew_ => ?_)) <;> first | (exfalso; first | omega | with_reducible exact hw_ (by assumption) | with_reducible exact absurd hw_ (by assumption)) | simp [ew_, z1, z2, W1, hkd, e0, ReplyR.enc])
      | fail)
  · subst W1
    have hml : (writeT (bs (newN f n0).text) at_ (bs t)).1.length ≤ 4096 := write_len W2 (Nat.zero_le _)
    obtain ⟨S3, Fk⟩ := text_same A.rows hfa (show (1 : Int) ≠ 2 by decide) hml
    rw [← W3] at S3 Fk
    have hfk := Fk f.next
    rw [if_pos rfl] at hfk
    have hkn := S3.next
    have hrd := write_read W2
    generalize hX : (writeT (bs (newN f n0).text) at_ (bs t)).1 = X at *
    have d5 := do_ok k (cRead f.next at_ t.size) S3.rows (by rw [hkn, A.next]; omega) ⟨i0 3 (by omega) (by omega), ⟨by simp only [cRead]; omega, by simp only [cRead]; omega⟩, i0 0 (by omega) (by omega), w3, i0 t.size (by omega) (by omega), m0, m0, m0⟩ ⟨fun e => absurd e (by simp [cRead]), fun e => absurd e (by simp [cRead])⟩
    rw [doRead, ofD_of (k := 1) hfk rfl] at d5
    have eX : bs (T X) = X := by simp [T]
    have et : ((bs t).length : Int) = t.size := by rw [bs_len]
    rw [et] at hrd
    simp only [eX, hrd, T_bs] at d5
    have D5 : PCall Tryz.prog 22 [encF k, .agg [I 3, I f.next, I 0, I at_, I t.size, S .empty, S .empty, S .empty]] (rTup (k, ⟨0, 0, 0, 0, t, []⟩)) := d5
    clear d5
    have d6 := rfind08_ok k f.next S3.rows.rise (by have := S3.rows.len; omega)
    rw [hfk] at d6
    have hok := S3.rows.ok _ (findB_true (show (findB k.l f.next).2 = true by rw [hfk])).1
    rw [hfk] at hok
    have d7 := rnright_ok { newN f n0 with text := T X }
    rw [show nodeOk { newN f n0 with text := T X } = true from hok] at d7
    have hkd : ({ newN f n0 with text := T X } : NodeR).kind = 1 := rfl
    generalize ({ newN f n0 with text := T X } : NodeR) = nn at *
    clear hfa hlk A hok hfk Fk
    refine PCall.mk (fun _ => false) Tryz.func4 rfl rfl rfl (Ent.mk Tryz.func4 (by kernel_rfl) rfl) (by simp) (by simp) fun hfit => ?_
    simp [Tryz.f4]
    try simp [z1, z2, hkd, e0, ReplyR.enc]
    repeat' (first
      | ((first | refine Tst.go (fun hw_ ew_ => ?_) (fun hw_ ew_ => ?_)) <;> first | (exfalso; first | omega | with_reducible exact hw_ (by assumption) | with_reducible exact absurd hw_ (by assumption)) | (have nw_ := Nw.nw hw_; simp [ew_, nw_, z1, z2, hkd, e0, ReplyR.enc]) | simp [ew_, z1, z2, hkd, e0, ReplyR.enc])
      | ((first | (refine Pc.go (h0) ?_ ?_; focus (first | rfl | (simp [z1, z2, hkd, e0, ReplyR.enc]; done))) | (refine Pc.go (h1) ?_ ?_; focus (first | rfl | (simp [z1, z2, hkd, e0, ReplyR.enc]; done))) | (refine Pc.go (d1) ?_ ?_; focus (first | rfl | (simp [z1, z2, hkd, e0, ReplyR.enc]; done))) | (refine Pc.go (D2) ?_ ?_; focus (first | rfl | (simp [z1, z2, hkd, e0, ReplyR.enc]; done))) | (refine Pc.go (D3) ?_ ?_; focus (first | rfl | (simp [z1, z2, hkd, e0, ReplyR.enc]; done))) | (refine Pc.go (d4) ?_ ?_; focus (first | rfl | (simp [z1, z2, hkd, e0, ReplyR.enc]; done))) | (refine Pc.go (D5) ?_ ?_; focus (first | rfl | (simp [z1, z2, hkd, e0, ReplyR.enc]; done))) | (refine Pc.go (d6) ?_ ?_; focus (first | rfl | (simp [z1, z2, hkd, e0, ReplyR.enc]; done))) | (refine Pc.go (d7) ?_ ?_; focus (first | rfl | (simp [z1, z2, hkd, e0, ReplyR.enc]; done))) | rw [if_pos (by first | omega | (simp only [maxLen]; omega))] | rw [if_neg (by first | omega | (simp only [maxLen]; omega))] | rw [frzOwn_neat (by simp) (by simp <;> omega)] | rw [fzOwn_neat (by simp) (by simp <;> omega)]); try simp [z1, z2, hkd, e0, ReplyR.enc])
      | ((first | refine TstB.go (fun hw_ ew_ => ?_) (fun hw_ ew_ => ?_)) <;> first | (exfalso; first | omega | with_reducible exact hw_ (by assumption) | with_reducible exact absurd hw_ (by assumption)) | simp [ew_, z1, z2, hkd, e0, ReplyR.enc])
      | fail)
end Go.Proofs.YtdnfnddlciafmaaGreat
