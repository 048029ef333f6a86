import Derived.Test.YtdnfnddlciafmaaGreatXOpN
set_option linter.unusedVariables false
set_option linter.unusedSimpArgs false
namespace Go.Proofs.YtdnfnddlciafmaaGreat
open Go.Cx Tab
set_option maxHeartbeats 400000
set_option maxRecDepth 40000
theorem turns11_ok (c : CallR) (hc : c.wf) (b : ByteArray) (hb : b.size ≤ 4096) : PCall Tryz.prog 134 [S b, .fp c.enc] (.tup [S (T (writeT (bs b) c.at_ (bs c.text)).1), I (writeT (bs b) c.at_ (bs c.text)).2]) := by
  have h1 := write_ok (bs b) c.at_ (bs c.text) hc.2.2.2.1 (by rw [bs_len]; omega) (by rw [bs_len]; have := hc.2.2.2.2.2.2.2; simp only [maxLen] at this; omega)
  rw [T_bs, T_bs] at h1
  generalize writeT (bs b) c.at_ (bs c.text) = W at *
  refine Pm Tryz.func134 fun hfit => ?_
  simp [Tryz.f134]
  try simp
  repeat' ((first | ((first | refine Tp ?_ | refine Tn ?_ | refine T2 ?_ ?_) <;> intro hw_ ew_ nw_) | refine Pg h1 ?_ | rw [Ip] | rw [In] | rw [Fz] | rw [Gz] | fail) <;> first | simp [ew_, nw_] | simp | skip)
theorem turns21_ok (c : CallR) (hc : c.wf) (b : ByteArray) (hb : b.size ≤ 4096) : PCall Tryz.prog 137 [S b, .fp c.enc] (.tup [S (T (cutT (bs b) c.many).1), I (cutT (bs b) c.many).2]) := by
  have h1 := cut_ok (bs b) c.many hc.2.2.2.2.1 (by rw [bs_len]; omega)
  rw [T_bs] at h1
  generalize cutT (bs b) c.many = W at *
  refine Pm Tryz.func137 fun hfit => ?_
  simp [Tryz.f137]
  try simp
  repeat' ((first | ((first | refine Tp ?_ | refine Tn ?_ | refine T2 ?_ ?_) <;> intro hw_ ew_ nw_) | refine Pg h1 ?_ | rw [Ip] | rw [In] | rw [Fz] | rw [Gz] | fail) <;> first | simp [ew_, nw_] | simp | skip)
abbrev rTup (x : FSR × ReplyR) : AV := .tup [encF x.1, encR x.2]
theorem turns1_ok (f : FSR) (c : CallR) (h : RowsF f) (hb : f.next < 4611686018427387904) (hc : c.wf) :
    PCall Tryz.prog 132 (aCap f c) (rTup ((textD f c.ino fun s => writeT s c.at_ (bs c.text)).1, toldR ⟨0, c.text.size, 0, 0, .empty, []⟩ (textD f c.ino fun s => writeT s c.at_ (bs c.text)).2)) := by
  have h1 := textN_ok f c.ino (fun s => writeT s c.at_ (bs c.text)) 134 c (fun b hb => turns11_ok c hc b hb) h hb
  generalize (textD f c.ino fun s => writeT s c.at_ (bs c.text)) = X at *
  have h2 := told5_ok c.text.size 0 0 .empty X.2
  generalize toldR ⟨0, c.text.size, 0, 0, .empty, []⟩ X.2 = R at *
  refine Pm Tryz.func132 fun hfit => ?_
  simp [Tryz.f132]
  try simp
  repeat' ((first | ((first | refine Tp ?_ | refine Tn ?_ | refine T2 ?_ ?_) <;> intro hw_ ew_ nw_) | refine Pg h1 ?_ | refine Sg h2 ?_ | refine Dg 2 7 [] [] ?_ | rw [Ip] | rw [In] | rw [Fz] | rw [Gz] | fail) <;> first | simp [ew_, nw_] | simp | skip)
theorem turns2_ok (f : FSR) (c : CallR) (h : RowsF f) (hb : f.next < 4611686018427387904) (hc : c.wf) :
    PCall Tryz.prog 136 (aCap f c) (rTup ((textD f c.ino fun s => cutT s c.many).1, errR (textD f c.ino fun s => cutT s c.many).2)) := by
  have h1 := textN_ok f c.ino (fun s => cutT s c.many) 137 c (fun b hb => turns21_ok c hc b hb) h hb
  generalize (textD f c.ino fun s => cutT s c.many) = X at *
  refine Pm Tryz.func136 fun hfit => ?_
  simp [Tryz.f136]
  have s_ := And.intro @errR.eq_1 (@ReplyR.enc.eq_1)
  try simp [s_]
  repeat' ((first | ((first | refine Tp ?_ | refine Tn ?_ | refine T2 ?_ ?_) <;> intro hw_ ew_ nw_) | refine Pg h1 ?_ | rw [Ip] | rw [In] | rw [Fz] | rw [Gz] | fail) <;> first | simp [ew_, nw_, s_] | simp [s_] | skip)
theorem turns3_ok (f : FSR) (c : CallR) (h : RowsF f) (hb : f.next < 4611686018427387904) : PCall Tryz.prog 139 (aCap f c) (rTup (addO f c ⟨0, 1, 0, .empty, []⟩)) := by
  have h1 := addN_ok f c ⟨0, 1, 0, .empty, []⟩ h hb
  generalize addO f c ⟨0, 1, 0, .empty, []⟩ = X at *
  have h1 : PCall Tryz.prog 140 [encF f, encC c, .agg [I 0, I 1, I 0, S .empty, .sl false 0 []]] (rTup X) := h1
  refine Pm Tryz.func139 fun hfit => ?_
  simp [Tryz.f139]
  try simp
  repeat' ((first | ((first | refine Tp ?_ | refine Tn ?_ | refine T2 ?_ ?_) <;> intro hw_ ew_ nw_) | refine Sg h1 ?_ | rw [Ip] | rw [In] | rw [Fz] | rw [Gz] | fail) <;> first | simp [ew_, nw_] | simp | skip)
theorem turns4_ok (f : FSR) (c : CallR) (h : RowsF f) (hb : f.next < 4611686018427387904) : PCall Tryz.prog 141 (aCap f c) (rTup (addO f c ⟨0, 2, 0, .empty, []⟩)) := by
  have h1 := addN_ok f c ⟨0, 2, 0, .empty, []⟩ h hb
  generalize addO f c ⟨0, 2, 0, .empty, []⟩ = X at *
  have h1 : PCall Tryz.prog 140 [encF f, encC c, .agg [I 0, I 2, I 0, S .empty, .sl false 0 []]] (rTup X) := h1
  refine Pm Tryz.func141 fun hfit => ?_
  simp [Tryz.f141]
  try simp
  repeat' ((first | ((first | refine Tp ?_ | refine Tn ?_ | refine T2 ?_ ?_) <;> intro hw_ ew_ nw_) | refine Sg h1 ?_ | rw [Ip] | rw [In] | rw [Fz] | rw [Gz] | fail) <;> first | simp [ew_, nw_] | simp | skip)
theorem turns5_ok (f : FSR) (c : CallR) (h : RowsF f) (hb : f.next < 4611686018427387904) : PCall Tryz.prog 142 (aCap f c) (rTup (addO f c ⟨0, 3, 0, c.text, []⟩)) := by
  have h1 := addN_ok f c ⟨0, 3, 0, c.text, []⟩ h hb
  generalize addO f c ⟨0, 3, 0, c.text, []⟩ = X at *
  have h1 : PCall Tryz.prog 140 [encF f, encC c, .agg [I 0, I 3, I 0, S c.text, .sl false 0 []]] (rTup X) := h1
  refine Pm Tryz.func142 fun hfit => ?_
  simp [Tryz.f142]
  try simp
  repeat' ((first | ((first | refine Tp ?_ | refine Tn ?_ | refine T2 ?_ ?_) <;> intro hw_ ew_ nw_) | refine Sg h1 ?_ | rw [Ip] | rw [In] | rw [Fz] | rw [Gz] | fail) <;> first | simp [ew_, nw_] | simp | skip)
theorem turns6_ok (f : FSR) (c : CallR) (h : RowsF f) (hb : f.next < 4611686018427387904) (hne : (lookD f c.ino c.name).2 = 0 → (lookD f c.ino c.name).1.ino ≠ c.ino) : PCall Tryz.prog 143 (aCap f c) (rTup (removeO f c false)) := by
  have h1 := removeN_ok f c false h hb hne
  generalize removeO f c false = X at *
  refine Pm Tryz.func143 fun hfit => ?_
  simp [Tryz.f143]
  try simp
  repeat' ((first | ((first | refine Tp ?_ | refine Tn ?_ | refine T2 ?_ ?_) <;> intro hw_ ew_ nw_) | refine Pg h1 ?_ | rw [Ip] | rw [In] | rw [Fz] | rw [Gz] | fail) <;> first | simp [ew_, nw_] | simp | skip)
theorem turns7_ok (f : FSR) (c : CallR) (h : RowsF f) (hb : f.next < 4611686018427387904) (hne : (lookD f c.ino c.name).2 = 0 → (lookD f c.ino c.name).1.ino ≠ c.ino) : PCall Tryz.prog 145 (aCap f c) (rTup (removeO f c true)) := by
  have h1 := removeN_ok f c true h hb hne
  generalize removeO f c true = X at *
  refine Pm Tryz.func145 fun hfit => ?_
  simp [Tryz.f145]
  try simp
  repeat' ((first | ((first | refine Tp ?_ | refine Tn ?_ | refine T2 ?_ ?_) <;> intro hw_ ew_ nw_) | refine Pg h1 ?_ | rw [Ip] | rw [In] | rw [Fz] | rw [Gz] | fail) <;> first | simp [ew_, nw_] | simp | skip)
theorem turns8_ok (f : FSR) (c : CallR) (h : RowsF f) (hb : f.next < 4611686018427387904) : PCall Tryz.prog 146 (aCap f c) (rTup ((giveD f c.ino c.name c.to_).1, errR (giveD f c.ino c.name c.to_).2)) := by
  have h1 := giveN_ok f c.ino c.name c.to_ h hb
  generalize giveD f c.ino c.name c.to_ = X at *
  refine Pm Tryz.func146 fun hfit => ?_
  simp [Tryz.f146]
  have s_ := And.intro @errR.eq_1 (@ReplyR.enc.eq_1)
  try simp [s_]
  repeat' ((first | ((first | refine Tp ?_ | refine Tn ?_ | refine T2 ?_ ?_) <;> intro hw_ ew_ nw_) | refine Pg h1 ?_ | rw [Ip] | rw [In] | rw [Fz] | rw [Gz] | fail) <;> first | simp [ew_, nw_, s_] | simp [s_] | skip)
theorem turns9_ok (f : FSR) (c : CallR) (h : RowsF f) (hb : f.next < 4611686018427387904) (hT : (lookD f c.to_ c.name2).2 = 0 → (lookD f c.to_ c.name2).1.ino ≠ c.to_) : PCall Tryz.prog 148 (aCap f c) (rTup ((moveD f c.ino c.name c.to_ c.name2).1, errR (moveD f c.ino c.name c.to_ c.name2).2)) := by
  have h1 := move_ok f c.ino c.name c.to_ c.name2 h hb hT
  generalize moveD f c.ino c.name c.to_ c.name2 = X at *
  refine Pm Tryz.func148 fun hfit => ?_
  simp [Tryz.f148]
  have s_ := And.intro @errR.eq_1 (@ReplyR.enc.eq_1)
  try simp [s_]
  repeat' ((first | ((first | refine Tp ?_ | refine Tn ?_ | refine T2 ?_ ?_) <;> intro hw_ ew_ nw_) | refine Pg h1 ?_ | rw [Ip] | rw [In] | rw [Fz] | rw [Gz] | fail) <;> first | simp [ew_, nw_, s_] | simp [s_] | skip)
abbrev asksM (f : FSR) (c : CallR) : AV := .fmap [I 1, I 2, I 3, I 13, I 14, I 15] [.fn 119 (aCap f c), .fn 122 (aCap f c), .fn 125 (aCap f c), .fn 127 (aCap f c), .fn 128 (aCap f c), .fn 131 [.fp f.enc]]
theorem asks_ok (f : FSR) (c : CallR) : PCall Tryz.prog 69 [encF f, encC c] (asksM f c) := by
  refine Pm Tryz.func69 fun hfit => ?_
  simp [Tryz.f69]
  try simp
  repeat' ((first | ((first | refine Tp ?_ | refine Tn ?_ | refine T2 ?_ ?_) <;> intro hw_ ew_ nw_) | rw [Ip] | rw [In] | rw [Fz] | rw [Gz] | fail) <;> first | simp [ew_, nw_] | simp | skip)
end Go.Proofs.YtdnfnddlciafmaaGreat
