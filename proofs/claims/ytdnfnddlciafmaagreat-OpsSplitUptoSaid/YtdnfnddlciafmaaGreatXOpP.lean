import Derived.Test.YtdnfnddlciafmaaGreatXOpO
import Derived.Test.YtdnfnddlciafmaaGreatXBl
set_option linter.unusedVariables false
set_option linter.unusedSimpArgs false
namespace Go.Proofs.YtdnfnddlciafmaaGreat
open Go.Cx Tab
set_option maxHeartbeats 400000
set_option maxRecDepth 40000
abbrev turnsM (f : FSR) (c : CallR) : AV := .fmap [I 4, I 5, I 6, I 7, I 8, I 9, I 10, I 11, I 12] [.fn 132 (aCap f c), .fn 136 (aCap f c), .fn 139 (aCap f c), .fn 141 (aCap f c), .fn 142 (aCap f c), .fn 143 (aCap f c), .fn 145 (aCap f c), .fn 146 (aCap f c), .fn 148 (aCap f c)]
theorem turns_ok (f : FSR) (c : CallR) : PCall Tryz.prog 70 [encF f, encC c] (turnsM f c) := by
  refine Pm Tryz.func70 fun hfit => ?_
  simp [Tryz.f70]
  try simp
  repeat' ((first | ((first | refine Tp ?_ | refine Tn ?_ | refine T2 ?_ ?_) <;> intro hw_ ew_ nw_) | rw [Ip] | rw [In] | rw [Fz] | rw [Gz] | fail) <;> first | simp [ew_, nw_] | simp | skip)
theorem do_ok (f : FSR) (c : CallR) (h : RowsF f) (hb : f.next < 4611686018427387904) (hc : c.wf) (hk : CalmF f c) : PCall Tryz.prog 22 [encF f, encC c] (rTup (doS f c)) := by
  have ha := asks_ok f c
  have hu := turns_ok f c
  by_cases k1 : c.kind = 1
  · have h1 := asks1_ok f c h
    have e : doS f c = (f, toldR ⟨0, (lookD f c.ino c.name).1.ino, 0, 0, .empty, []⟩ (lookD f c.ino c.name).2) := by unfold doS; rw [k1]; rfl
    rw [e]
    generalize toldR ⟨0, (lookD f c.ino c.name).1.ino, 0, 0, .empty, []⟩ (lookD f c.ino c.name).2 = R at *
    refine Pm Tryz.func22 fun hfit => ?_
    simp [Tryz.f22]
    have s_ := k1
    try simp [s_]
    repeat' ((first | ((first | refine Tp ?_ | refine Tn ?_ | refine T2 ?_ ?_) <;> intro hw_ ew_ nw_) | refine Pg ha ?_ | refine Pg h1 ?_ | refine Dg 1 11 [] [] ?_ | refine Dg 3 3 [] [] ?_ | refine Dg 4 11 [] [] ?_ | rw [Ip] | rw [In] | rw [Fz] | rw [Gz] | fail) <;> first | simp [ew_, nw_, s_] | simp [s_] | skip)
  by_cases k2 : c.kind = 2
  · have h1 := asks2_ok f c h
    have e : doS f c = (f, toldR ⟨0, (ofD f c.ino 0).1.kind, (ofD f c.ino 0).1.links, sizeS (ofD f c.ino 0).1, .empty, []⟩ (ofD f c.ino 0).2) := by unfold doS; rw [k2]; rfl
    rw [e]
    generalize toldR ⟨0, (ofD f c.ino 0).1.kind, (ofD f c.ino 0).1.links, sizeS (ofD f c.ino 0).1, .empty, []⟩ (ofD f c.ino 0).2 = R at *
    refine Pm Tryz.func22 fun hfit => ?_
    simp [Tryz.f22]
    have s_ := k2
    try simp [s_]
    repeat' ((first | ((first | refine Tp ?_ | refine Tn ?_ | refine T2 ?_ ?_) <;> intro hw_ ew_ nw_) | refine Pg ha ?_ | refine Pg h1 ?_ | refine Dg 1 11 [] [] ?_ | refine Dg 3 3 [] [] ?_ | refine Dg 4 11 [] [] ?_ | rw [Ip] | rw [In] | rw [Fz] | rw [Gz] | fail) <;> first | simp [ew_, nw_, s_] | simp [s_] | skip)
  by_cases k3 : c.kind = 3
  · have h1 := asks3_ok f c h hc
    have e : doS f c = (f, if (ofD f c.ino 1).2 ≠ 0 then errR (ofD f c.ino 1).2 else toldR ⟨0, 0, 0, 0, T (readT (bs (ofD f c.ino 1).1.text) c.at_ c.many).1, []⟩ (readT (bs (ofD f c.ino 1).1.text) c.at_ c.many).2) := by unfold doS; rw [k3]; rfl
    rw [e]
    generalize (if (ofD f c.ino 1).2 ≠ 0 then errR (ofD f c.ino 1).2 else toldR ⟨0, 0, 0, 0, T (readT (bs (ofD f c.ino 1).1.text) c.at_ c.many).1, []⟩ (readT (bs (ofD f c.ino 1).1.text) c.at_ c.many).2) = R at *
    refine Pm Tryz.func22 fun hfit => ?_
    simp [Tryz.f22]
    have s_ := k3
    try simp [s_]
    repeat' ((first | ((first | refine Tp ?_ | refine Tn ?_ | refine T2 ?_ ?_) <;> intro hw_ ew_ nw_) | refine Pg ha ?_ | refine Pg h1 ?_ | refine Dg 1 11 [] [] ?_ | refine Dg 3 3 [] [] ?_ | refine Dg 4 11 [] [] ?_ | rw [Ip] | rw [In] | rw [Fz] | rw [Gz] | fail) <;> first | simp [ew_, nw_, s_] | simp [s_] | skip)
  by_cases k4 : c.kind = 4
  · have h1 := turns1_ok f c h hb hc
    have e : doS f c = ((textD f c.ino fun s => writeT s c.at_ (bs c.text)).1, toldR ⟨0, c.text.size, 0, 0, .empty, []⟩ (textD f c.ino fun s => writeT s c.at_ (bs c.text)).2) := by unfold doS; rw [k4]; rfl
    rw [e]
    generalize ((textD f c.ino fun s => writeT s c.at_ (bs c.text)).1, toldR ⟨0, c.text.size, 0, 0, .empty, []⟩ (textD f c.ino fun s => writeT s c.at_ (bs c.text)).2) = X at *
    refine Pm Tryz.func22 fun hfit => ?_
    simp [Tryz.f22]
    have s_ := k4
    try simp [s_]
    repeat' ((first | ((first | refine Tp ?_ | refine Tn ?_ | refine T2 ?_ ?_) <;> intro hw_ ew_ nw_) | refine Pg ha ?_ | refine Pg hu ?_ | refine Pg h1 ?_ | refine Dg 1 11 [] [] ?_ | refine Dg 3 3 [] [] ?_ | refine Dg 4 11 [] [] ?_ | rw [Ip] | rw [In] | rw [Fz] | rw [Gz] | fail) <;> first | simp [ew_, nw_, s_] | simp [s_] | skip)
  by_cases k5 : c.kind = 5
  · have h1 := turns2_ok f c h hb hc
    have e : doS f c = ((textD f c.ino fun s => cutT s c.many).1, errR (textD f c.ino fun s => cutT s c.many).2) := by unfold doS; rw [k5]; rfl
    rw [e]
    generalize ((textD f c.ino fun s => cutT s c.many).1, errR (textD f c.ino fun s => cutT s c.many).2) = X at *
    refine Pm Tryz.func22 fun hfit => ?_
    simp [Tryz.f22]
    have s_ := k5
    try simp [s_]
    repeat' ((first | ((first | refine Tp ?_ | refine Tn ?_ | refine T2 ?_ ?_) <;> intro hw_ ew_ nw_) | refine Pg ha ?_ | refine Pg hu ?_ | refine Pg h1 ?_ | refine Dg 1 11 [] [] ?_ | refine Dg 3 3 [] [] ?_ | refine Dg 4 11 [] [] ?_ | rw [Ip] | rw [In] | rw [Fz] | rw [Gz] | fail) <;> first | simp [ew_, nw_, s_] | simp [s_] | skip)
  by_cases k6 : c.kind = 6
  · have h1 := turns3_ok f c h hb
    have e : doS f c = addO f c ⟨0, 1, 0, .empty, []⟩ := by unfold doS; rw [k6]; rfl
    rw [e]
    generalize addO f c ⟨0, 1, 0, .empty, []⟩ = X at *
    refine Pm Tryz.func22 fun hfit => ?_
    simp [Tryz.f22]
    have s_ := k6
    try simp [s_]
    repeat' ((first | ((first | refine Tp ?_ | refine Tn ?_ | refine T2 ?_ ?_) <;> intro hw_ ew_ nw_) | refine Pg ha ?_ | refine Pg hu ?_ | refine Pg h1 ?_ | refine Dg 1 11 [] [] ?_ | refine Dg 3 3 [] [] ?_ | refine Dg 4 11 [] [] ?_ | rw [Ip] | rw [In] | rw [Fz] | rw [Gz] | fail) <;> first | simp [ew_, nw_, s_] | simp [s_] | skip)
  by_cases k7 : c.kind = 7
  · have h1 := turns4_ok f c h hb
    have e : doS f c = addO f c ⟨0, 2, 0, .empty, []⟩ := by unfold doS; rw [k7]; rfl
    rw [e]
    generalize addO f c ⟨0, 2, 0, .empty, []⟩ = X at *
    refine Pm Tryz.func22 fun hfit => ?_
    simp [Tryz.f22]
    have s_ := k7
    try simp [s_]
    repeat' ((first | ((first | refine Tp ?_ | refine Tn ?_ | refine T2 ?_ ?_) <;> intro hw_ ew_ nw_) | refine Pg ha ?_ | refine Pg hu ?_ | refine Pg h1 ?_ | refine Dg 1 11 [] [] ?_ | refine Dg 3 3 [] [] ?_ | refine Dg 4 11 [] [] ?_ | rw [Ip] | rw [In] | rw [Fz] | rw [Gz] | fail) <;> first | simp [ew_, nw_, s_] | simp [s_] | skip)
  by_cases k8 : c.kind = 8
  · have h1 := turns5_ok f c h hb
    have e : doS f c = addO f c ⟨0, 3, 0, c.text, []⟩ := by unfold doS; rw [k8]; rfl
    rw [e]
    generalize addO f c ⟨0, 3, 0, c.text, []⟩ = X at *
    refine Pm Tryz.func22 fun hfit => ?_
    simp [Tryz.f22]
    have s_ := k8
    try simp [s_]
    repeat' ((first | ((first | refine Tp ?_ | refine Tn ?_ | refine T2 ?_ ?_) <;> intro hw_ ew_ nw_) | refine Pg ha ?_ | refine Pg hu ?_ | refine Pg h1 ?_ | refine Dg 1 11 [] [] ?_ | refine Dg 3 3 [] [] ?_ | refine Dg 4 11 [] [] ?_ | rw [Ip] | rw [In] | rw [Fz] | rw [Gz] | fail) <;> first | simp [ew_, nw_, s_] | simp [s_] | skip)
  by_cases k9 : c.kind = 9
  · have h1 := turns6_ok f c h hb (hk.here (.inl k9))
    have e : doS f c = removeO f c false := by unfold doS; rw [k9]; rfl
    rw [e]
    generalize removeO f c false = X at *
    refine Pm Tryz.func22 fun hfit => ?_
    simp [Tryz.f22]
    have s_ := k9
    try simp [s_]
    repeat' ((first | ((first | refine Tp ?_ | refine Tn ?_ | refine T2 ?_ ?_) <;> intro hw_ ew_ nw_) | refine Pg ha ?_ | refine Pg hu ?_ | refine Pg h1 ?_ | refine Dg 1 11 [] [] ?_ | refine Dg 3 3 [] [] ?_ | refine Dg 4 11 [] [] ?_ | rw [Ip] | rw [In] | rw [Fz] | rw [Gz] | fail) <;> first | simp [ew_, nw_, s_] | simp [s_] | skip)
  by_cases k10 : c.kind = 10
  · have h1 := turns7_ok f c h hb (hk.here (.inr k10))
    have e : doS f c = removeO f c true := by unfold doS; rw [k10]; rfl
    rw [e]
    generalize removeO f c true = X at *
    refine Pm Tryz.func22 fun hfit => ?_
    simp [Tryz.f22]
    have s_ := k10
    try simp [s_]
    repeat' ((first | ((first | refine Tp ?_ | refine Tn ?_ | refine T2 ?_ ?_) <;> intro hw_ ew_ nw_) | refine Pg ha ?_ | refine Pg hu ?_ | refine Pg h1 ?_ | refine Dg 1 11 [] [] ?_ | refine Dg 3 3 [] [] ?_ | refine Dg 4 11 [] [] ?_ | rw [Ip] | rw [In] | rw [Fz] | rw [Gz] | fail) <;> first | simp [ew_, nw_, s_] | simp [s_] | skip)
  by_cases k11 : c.kind = 11
  · have h1 := turns8_ok f c h hb
    have e : doS f c = ((giveD f c.ino c.name c.to_).1, errR (giveD f c.ino c.name c.to_).2) := by unfold doS; rw [k11]; rfl
    rw [e]
    generalize ((giveD f c.ino c.name c.to_).1, errR (giveD f c.ino c.name c.to_).2) = X at *
    refine Pm Tryz.func22 fun hfit => ?_
    simp [Tryz.f22]
    have s_ := k11
    try simp [s_]
    repeat' ((first | ((first | refine Tp ?_ | refine Tn ?_ | refine T2 ?_ ?_) <;> intro hw_ ew_ nw_) | refine Pg ha ?_ | refine Pg hu ?_ | refine Pg h1 ?_ | refine Dg 1 11 [] [] ?_ | refine Dg 3 3 [] [] ?_ | refine Dg 4 11 [] [] ?_ | rw [Ip] | rw [In] | rw [Fz] | rw [Gz] | fail) <;> first | simp [ew_, nw_, s_] | simp [s_] | skip)
  by_cases k12 : c.kind = 12
  · have h1 := turns9_ok f c h hb (hk.there k12)
    have e : doS f c = ((moveD f c.ino c.name c.to_ c.name2).1, errR (moveD f c.ino c.name c.to_ c.name2).2) := by unfold doS; rw [k12]; rfl
    rw [e]
    generalize ((moveD f c.ino c.name c.to_ c.name2).1, errR (moveD f c.ino c.name c.to_ c.name2).2) = X at *
    refine Pm Tryz.func22 fun hfit => ?_
    simp [Tryz.f22]
    have s_ := k12
    try simp [s_]
    repeat' ((first | ((first | refine Tp ?_ | refine Tn ?_ | refine T2 ?_ ?_) <;> intro hw_ ew_ nw_) | refine Pg ha ?_ | refine Pg hu ?_ | refine Pg h1 ?_ | refine Dg 1 11 [] [] ?_ | refine Dg 3 3 [] [] ?_ | refine Dg 4 11 [] [] ?_ | rw [Ip] | rw [In] | rw [Fz] | rw [Gz] | fail) <;> first | simp [ew_, nw_, s_] | simp [s_] | skip)
  by_cases k13 : c.kind = 13
  · have h1 := asks4_ok f c h
    have e : doS f c = (f, toldR ⟨0, 0, 0, 0, (ofD f c.ino 3).1.text, []⟩ (ofD f c.ino 3).2) := by unfold doS; rw [k13]; rfl
    rw [e]
    generalize toldR ⟨0, 0, 0, 0, (ofD f c.ino 3).1.text, []⟩ (ofD f c.ino 3).2 = R at *
    refine Pm Tryz.func22 fun hfit => ?_
    simp [Tryz.f22]
    have s_ := k13
    try simp [s_]
    repeat' ((first | ((first | refine Tp ?_ | refine Tn ?_ | refine T2 ?_ ?_) <;> intro hw_ ew_ nw_) | refine Pg ha ?_ | refine Pg h1 ?_ | refine Dg 1 11 [] [] ?_ | refine Dg 3 3 [] [] ?_ | refine Dg 4 11 [] [] ?_ | rw [Ip] | rw [In] | rw [Fz] | rw [Gz] | fail) <;> first | simp [ew_, nw_, s_] | simp [s_] | skip)
  by_cases k14 : c.kind = 14
  · have h1 := asks5_ok f c h
    have e : doS f c = (f, toldR ⟨0, 0, 0, 0, .empty, (dirD f c.ino).1.l.map (·.name)⟩ (dirD f c.ino).2) := by unfold doS; rw [k14]; rfl
    rw [e]
    generalize toldR ⟨0, 0, 0, 0, .empty, (dirD f c.ino).1.l.map (·.name)⟩ (dirD f c.ino).2 = R at *
    refine Pm Tryz.func22 fun hfit => ?_
    simp [Tryz.f22]
    have s_ := k14
    try simp [s_]
    repeat' ((first | ((first | refine Tp ?_ | refine Tn ?_ | refine T2 ?_ ?_) <;> intro hw_ ew_ nw_) | refine Pg ha ?_ | refine Pg h1 ?_ | refine Dg 1 11 [] [] ?_ | refine Dg 3 3 [] [] ?_ | refine Dg 4 11 [] [] ?_ | rw [Ip] | rw [In] | rw [Fz] | rw [Gz] | fail) <;> first | simp [ew_, nw_, s_] | simp [s_] | skip)
  by_cases k15 : c.kind = 15
  · have h1 := asks6_ok f h
    have e : doS f c = (f, (⟨0, f.l.length, sizesF f.l, 0, .empty, []⟩ : ReplyR)) := by unfold doS; rw [k15]; rfl
    rw [e]
    generalize (⟨0, f.l.length, sizesF f.l, 0, .empty, []⟩ : ReplyR) = R at *
    refine Pm Tryz.func22 fun hfit => ?_
    simp [Tryz.f22]
    have s_ := k15
    try simp [s_]
    repeat' ((first | ((first | refine Tp ?_ | refine Tn ?_ | refine T2 ?_ ?_) <;> intro hw_ ew_ nw_) | refine Pg ha ?_ | refine Pg h1 ?_ | refine Dg 1 11 [] [] ?_ | refine Dg 3 3 [] [] ?_ | refine Dg 4 11 [] [] ?_ | rw [Ip] | rw [In] | rw [Fz] | rw [Gz] | fail) <;> first | simp [ew_, nw_, s_] | simp [s_] | skip)
  have e : doS f c = (f, errR 1) := by unfold doS; rw [if_neg k1, if_neg k2, if_neg k3, if_neg k4, if_neg k5, if_neg k6, if_neg k7, if_neg k8, if_neg k9, if_neg k10, if_neg k11, if_neg k12, if_neg k13, if_neg k14, if_neg k15]
  rw [e]
  have b1 : (c.kind == 1) = false := by simpa using k1
  have b2 : (c.kind == 2) = false := by simpa using k2
  have b3 : (c.kind == 3) = false := by simpa using k3
  have b4 : (c.kind == 4) = false := by simpa using k4
  have b5 : (c.kind == 5) = false := by simpa using k5
  have b6 : (c.kind == 6) = false := by simpa using k6
  have b7 : (c.kind == 7) = false := by simpa using k7
  have b8 : (c.kind == 8) = false := by simpa using k8
  have b9 : (c.kind == 9) = false := by simpa using k9
  have b10 : (c.kind == 10) = false := by simpa using k10
  have b11 : (c.kind == 11) = false := by simpa using k11
  have b12 : (c.kind == 12) = false := by simpa using k12
  have b13 : (c.kind == 13) = false := by simpa using k13
  have b14 : (c.kind == 14) = false := by simpa using k14
  have b15 : (c.kind == 15) = false := by simpa using k15
  refine Pm Tryz.func22 fun hfit => ?_
  simp [Tryz.f22]
  have s_ := And.intro @b1 (And.intro @b2 (And.intro @b3 (And.intro @b4 (And.intro @b5 (And.intro @b6 (And.intro @b7 (And.intro @b8 (And.intro @b9 (And.intro @b10 (And.intro @b11 (And.intro @b12 (And.intro @b13 (And.intro @b14 (And.intro @b15 (And.intro @errR.eq_1 (@ReplyR.enc.eq_1))))))))))))))))
  try simp [s_]
  repeat' ((first | ((first | refine Tp ?_ | refine Tn ?_ | refine T2 ?_ ?_) <;> intro hw_ ew_ nw_) | refine Pg ha ?_ | refine Pg hu ?_ | refine Dg 1 11 [] [] ?_ | refine Dg 3 3 [] [] ?_ | refine Dg 4 11 [] [] ?_ | rw [Ip] | rw [In] | rw [Fz] | rw [Gz] | fail) <;> first | simp [ew_, nw_, s_] | simp [s_] | skip)
end Go.Proofs.YtdnfnddlciafmaaGreat
