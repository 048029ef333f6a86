import Derived.Test.YtdnfnddlciafmaaGreatXOpM
set_option linter.unusedVariables false
set_option linter.unusedSimpArgs false
namespace Go.Proofs.YtdnfnddlciafmaaGreat
open Go.Cx Tab
set_option maxHeartbeats 400000
set_option maxRecDepth 40000
abbrev encR (r : ReplyR) : AV := .agg r.enc
abbrev encC (c : CallR) : AV := .agg c.enc
theorem ofN_ok (f : FSR) (ino kind : Int) (h : f.l.length ≤ 1000000) : PCall Tryz.prog 123 [encF f, I ino, I kind] (.tup [encN (ofD f ino kind).1, I (ofD f ino kind).2]) := by
  have h1 := find_ok f ino h
  unfold ofD
  generalize findB f.l ino = N at *
  obtain ⟨n, is⟩ := N
  simp only at *
  cases is with
  | false =>
    refine Pm Tryz.func123 fun hfit => ?_
    simp [Tryz.f123]
    try simp
    repeat' ((first | ((first | refine Tp ?_ | refine Tn ?_ | refine T2 ?_ ?_) <;> intro hw_ ew_ nw_) | refine Pg h1 ?_ | rw [Ip] | rw [In] | rw [Fz] | rw [Gz] | fail) <;> first | simp [ew_, nw_] | simp | skip)
  | true =>
    by_cases q1 : kind = 0
    · refine Pm Tryz.func123 fun hfit => ?_
      simp [Tryz.f123, q1]
      have s_ := q1
      try simp [s_]
      repeat' ((first | ((first | refine Tp ?_ | refine Tn ?_ | refine T2 ?_ ?_) <;> intro hw_ ew_ nw_) | refine Pg h1 ?_ | rw [Ip] | rw [In] | rw [Fz] | rw [Gz] | fail) <;> first | simp [ew_, nw_, s_] | simp [s_] | skip)
    · by_cases q2 : n.kind = kind
      · refine Pm Tryz.func123 fun hfit => ?_
        simp [Tryz.f123, q1, q2]
        have s_ := And.intro @q1 (@q2)
        try simp [s_]
        repeat' ((first | ((first | refine Tp ?_ | refine Tn ?_ | refine T2 ?_ ?_) <;> intro hw_ ew_ nw_) | refine Pg h1 ?_ | rw [Ip] | rw [In] | rw [Fz] | rw [Gz] | fail) <;> first | simp [ew_, nw_, s_] | simp [s_] | skip)
      · refine Pm Tryz.func123 fun hfit => ?_
        simp [Tryz.f123, q1, q2]
        have s_ := And.intro @q1 (@q2)
        try simp [s_]
        repeat' ((first | ((first | refine Tp ?_ | refine Tn ?_ | refine T2 ?_ ?_) <;> intro hw_ ew_ nw_) | refine Pg h1 ?_ | rw [Ip] | rw [In] | rw [Fz] | rw [Gz] | fail) <;> first | simp [ew_, nw_, s_] | simp [s_] | skip)
theorem told_ok (r : ReplyR) (e : Int) : PCall Tryz.prog 121 [encR r, I e] (encR (toldR r e)) := by
  unfold toldR errR
  by_cases q : e = 0
  · refine Pm Tryz.func121 fun hfit => ?_
    simp [Tryz.f121, q]
  · refine Pm Tryz.func121 fun hfit => ?_
    simp [Tryz.f121, q]
    have s_ := And.intro @q (@ReplyR.enc.eq_1)
    try simp [s_]
    repeat' ((first | ((first | refine Tp ?_ | refine Tn ?_ | refine T2 ?_ ?_) <;> intro hw_ ew_ nw_) | rw [Ip] | rw [In] | rw [Fz] | rw [Gz] | fail) <;> first | simp [ew_, nw_, s_] | simp [s_] | skip)
theorem told5_ok (a b n : Int) (t : ByteArray) (e : Int) : PCall Tryz.prog 121 [.agg [I 0, I a, I b, I n, S t, .sl false 0 []], I e] (encR (toldR ⟨0, a, b, n, t, []⟩ e)) := told_ok ⟨0, a, b, n, t, []⟩ e
theorem bs_len (b : ByteArray) : (bs b).length = b.size := rfl
theorem ofD_fst (f : FSR) (ino k : Int) : (ofD f ino k).1 = (findB f.l ino).1 := by
  unfold ofD
  split
  · rfl
  · split <;> rfl
theorem textN_ok (f : FSR) (ino : Int) (g : List UInt8 → List UInt8 × Int) (fid : FuncId) (c : CallR) (hg : ∀ b : ByteArray, b.size ≤ 4096 → PCall Tryz.prog fid [S b, .fp c.enc] (.tup [S (T (g (bs b)).1), I (g (bs b)).2])) (h : RowsF f) (hb : f.next < 4611686018427387904) :
    PCall Tryz.prog 133 [encF f, I ino, .fn fid [.fp c.enc]] (.tup [encF (textD f ino g).1, I (textD f ino g).2]) := by
  have hlen := h.len
  have h1 := ofN_ok f ino 1 (by omega)
  have hnum := h.num ino
  have htx := h.text ino
  have h2 := hg (findB f.l ino).1.text htx
  have h3 := tput_ok f { (findB f.l ino).1 with text := T (g (bs (findB f.l ino).1.text)).1 } (by omega) ⟨by simp only; omega, by simp only; omega⟩ (by simp only; omega)
  unfold textD
  rw [ofD_fst] at h1
  simp only [ofD_fst]
  generalize (ofD f ino 1).2 = oe at *
  generalize findB f.l ino = N at *
  generalize g (bs N.1.text) = G at *
  by_cases q1 : oe = 0
  case neg =>
    rw [if_pos q1]
    refine Pm Tryz.func133 fun hfit => ?_
    simp [Tryz.f133]
    have s_ := q1
    try simp [s_]
    repeat' ((first | ((first | refine Tp ?_ | refine Tn ?_ | refine T2 ?_ ?_) <;> intro hw_ ew_ nw_) | refine Pg h1 ?_ | rw [Ip] | rw [In] | rw [Fz] | rw [Gz] | fail) <;> first | simp [ew_, nw_, s_] | simp [s_] | skip)
  rw [if_neg (by simpa using q1)]
  by_cases q2 : G.2 = 0
  case neg =>
    rw [if_pos q2]
    refine Pm Tryz.func133 fun hfit => ?_
    simp [Tryz.f133]
    have s_ := And.intro @q1 (@q2)
    try simp [s_]
    repeat' ((first | ((first | refine Tp ?_ | refine Tn ?_ | refine T2 ?_ ?_) <;> intro hw_ ew_ nw_) | refine Pg h1 ?_ | refine Pg h2 ?_ | rw [Ip] | rw [In] | rw [Fz] | rw [Gz] | fail) <;> first | simp [ew_, nw_, s_] | simp [s_] | skip)
  rw [if_neg (by simpa using q2)]
  refine Pm Tryz.func133 fun hfit => ?_
  simp [Tryz.f133]
  have s_ := And.intro @q1 (@q2)
  try simp [s_]
  repeat' ((first | ((first | refine Tp ?_ | refine Tn ?_ | refine T2 ?_ ?_) <;> intro hw_ ew_ nw_) | refine Pg h1 ?_ | refine Pg h2 ?_ | refine Pg h3 ?_ | rw [Ip] | rw [In] | rw [Fz] | rw [Gz] | fail) <;> first | simp [ew_, nw_, s_] | simp [s_] | skip)
theorem addN_ok (f : FSR) (c : CallR) (n : NodeR) (h : RowsF f) (hb : f.next < 4611686018427387904) : PCall Tryz.prog 140 [encF f, encC c, encN n] (.tup [encF (addO f c n).1, encR (addO f c n).2]) := by
  have h1 := add_ok f c.ino c.name n h hb
  unfold addO
  generalize addD f c.ino c.name n = A at *
  by_cases q1 : 4096 < n.text.size
  · rw [if_pos q1]
    refine Pm Tryz.func140 fun hfit => ?_
    simp [Tryz.f140]
    have s_ := And.intro @q1 (And.intro @errR.eq_1 (@ReplyR.enc.eq_1))
    try simp [s_]
    repeat' ((first | ((first | refine Tp ?_ | refine Tn ?_ | refine T2 ?_ ?_) <;> intro hw_ ew_ nw_) | refine Dg 6 6 [] [] ?_ | rw [Ip] | rw [In] | rw [Fz] | rw [Gz] | fail) <;> first | simp [ew_, nw_, s_] | simp [s_] | skip)
  rw [if_neg q1]
  by_cases q2 : A.2 = 0
  case neg =>
    rw [if_pos q2]
    refine Pm Tryz.func140 fun hfit => ?_
    simp [Tryz.f140]
    have s_ := And.intro @q1 (And.intro @q2 (And.intro @errR.eq_1 (@ReplyR.enc.eq_1)))
    try simp [s_]
    repeat' ((first | ((first | refine Tp ?_ | refine Tn ?_ | refine T2 ?_ ?_) <;> intro hw_ ew_ nw_) | refine Pg h1 ?_ | refine Dg 6 6 [] [] ?_ | rw [Ip] | rw [In] | rw [Fz] | rw [Gz] | fail) <;> first | simp [ew_, nw_, s_] | simp [s_] | skip)
  rw [if_neg (by simpa using q2)]
  refine Pm Tryz.func140 fun hfit => ?_
  simp [Tryz.f140]
  have s_ := And.intro @q1 (And.intro @q2 (And.intro @errR.eq_1 (@ReplyR.enc.eq_1)))
  try simp [s_]
  repeat' ((first | ((first | refine Tp ?_ | refine Tn ?_ | refine T2 ?_ ?_) <;> intro hw_ ew_ nw_) | refine Pg h1 ?_ | refine Dg 6 5 [3] [] ?_ | rw [Ip] | rw [In] | rw [Fz] | rw [Gz] | fail) <;> first | simp [ew_, nw_, s_] | simp [s_] | skip)
theorem removeN_ok (f : FSR) (c : CallR) (b : Bool) (h : RowsF f) (hb : f.next < 4611686018427387904) (hne : (lookD f c.ino c.name).2 = 0 → (lookD f c.ino c.name).1.ino ≠ c.ino) :
    PCall Tryz.prog 144 [encF f, encC c, B b] (.tup [encF (removeO f c b).1, encR (removeO f c b).2]) := by
  have h1 := look_ok f c.ino c.name h
  have h2 := take_ok f c.ino c.name h (by omega) hne
  unfold removeO
  generalize lookD f c.ino c.name = L at *
  generalize takeD f c.ino c.name = A at *
  by_cases q1 : L.2 = 0
  case neg =>
    rw [if_pos q1]
    refine Pm Tryz.func144 fun hfit => ?_
    simp [Tryz.f144]
    have s_ := And.intro @q1 (And.intro @errR.eq_1 (@ReplyR.enc.eq_1))
    try simp [s_]
    repeat' ((first | ((first | refine Tp ?_ | refine Tn ?_ | refine T2 ?_ ?_) <;> intro hw_ ew_ nw_) | refine Pg h1 ?_ | rw [Ip] | rw [In] | rw [Fz] | rw [Gz] | fail) <;> first | simp [ew_, nw_, s_] | simp [s_] | skip)
  rw [if_neg (by simpa using q1)]
  by_cases q2 : L.1.kind = 2 <;> cases b
  all_goals
    refine Pm Tryz.func144 fun hfit => ?_
    simp [Tryz.f144, q2]
    have s_ := And.intro @q1 (And.intro @q2 (And.intro @errR.eq_1 (@ReplyR.enc.eq_1)))
    try simp [s_]
    repeat' ((first | ((first | refine Tp ?_ | refine Tn ?_ | refine T2 ?_ ?_) <;> intro hw_ ew_ nw_) | refine Pg h1 ?_ | refine Pg h2 ?_ | rw [Ip] | rw [In] | rw [Fz] | rw [Gz] | fail) <;> first | simp [ew_, nw_, s_] | simp [s_] | skip)
abbrev aCap (f : FSR) (c : CallR) : List AV := [.fp f.enc, .fp c.enc]
theorem asks1_ok (f : FSR) (c : CallR) (h : RowsF f) : PCall Tryz.prog 119 (aCap f c) (encR (toldR ⟨0, (lookD f c.ino c.name).1.ino, 0, 0, .empty, []⟩ (lookD f c.ino c.name).2)) := by
  have h1 := look_ok f c.ino c.name h
  generalize lookD f c.ino c.name = L at *
  have h2 := told5_ok L.1.ino 0 0 .empty L.2
  generalize toldR ⟨0, L.1.ino, 0, 0, .empty, []⟩ L.2 = R at *
  refine Pm Tryz.func119 fun hfit => ?_
  simp [Tryz.f119]
  try simp
  repeat' ((first | ((first | refine Tp ?_ | refine Tn ?_ | refine T2 ?_ ?_) <;> intro hw_ ew_ nw_) | refine Pg h1 ?_ | refine Sg h2 ?_ | rw [Ip] | rw [In] | rw [Fz] | rw [Gz] | fail) <;> first | simp [ew_, nw_] | simp | skip)
theorem asks2_ok (f : FSR) (c : CallR) (h : RowsF f) : PCall Tryz.prog 122 (aCap f c) (encR (toldR ⟨0, (ofD f c.ino 0).1.kind, (ofD f c.ino 0).1.links, sizeS (ofD f c.ino 0).1, .empty, []⟩ (ofD f c.ino 0).2)) := by
  have h1 := ofN_ok f c.ino 0 (by have := h.len; omega)
  generalize ofD f c.ino 0 = L at *
  have h2 := told5_ok L.1.kind L.1.links (sizeS L.1) .empty L.2
  have h3 := nsize_ok L.1
  generalize toldR ⟨0, L.1.kind, L.1.links, sizeS L.1, .empty, []⟩ L.2 = R at *
  refine Pm Tryz.func122 fun hfit => ?_
  simp [Tryz.f122]
  try simp
  repeat' ((first | ((first | refine Tp ?_ | refine Tn ?_ | refine T2 ?_ ?_) <;> intro hw_ ew_ nw_) | refine Pg h1 ?_ | refine Sg h2 ?_ | refine Pg h3 ?_ | refine Dg 2 9 [] [] ?_ | rw [Ip] | rw [In] | rw [Fz] | rw [Gz] | fail) <;> first | simp [ew_, nw_] | simp | skip)
theorem asks3_ok (f : FSR) (c : CallR) (h : RowsF f) (hc : c.wf) : PCall Tryz.prog 125 (aCap f c) (encR (if (ofD f c.ino 1).2 ≠ 0 then errR (ofD f c.ino 1).2 else toldR ⟨0, 0, 0, 0, T (readT (bs (ofD f c.ino 1).1.text) c.at_ c.many).1, []⟩ (readT (bs (ofD f c.ino 1).1.text) c.at_ c.many).2)) := by
  have h1 := ofN_ok f c.ino 1 (by have := h.len; omega)
  have htx := h.text c.ino
  rw [← ofD_fst f c.ino 1] at htx
  generalize ofD f c.ino 1 = L at *
  have h3 := read_ok (bs L.1.text) c.at_ c.many hc.2.2.2.1 hc.2.2.2.2.1 (by rw [bs_len]; omega)
  rw [T_bs] at h3
  generalize readT (bs L.1.text) c.at_ c.many = Q at *
  have h2 := told5_ok 0 0 0 (T Q.1) Q.2
  generalize toldR ⟨0, 0, 0, 0, T Q.1, []⟩ Q.2 = R at *
  by_cases q : L.2 = 0
  case neg =>
    rw [if_pos q]
    refine Pm Tryz.func125 fun hfit => ?_
    simp [Tryz.f125]
    have s_ := And.intro @q (And.intro @errR.eq_1 (@ReplyR.enc.eq_1))
    try simp [s_]
    repeat' ((first | ((first | refine Tp ?_ | refine Tn ?_ | refine T2 ?_ ?_) <;> intro hw_ ew_ nw_) | refine Pg h1 ?_ | rw [Ip] | rw [In] | rw [Fz] | rw [Gz] | fail) <;> first | simp [ew_, nw_, s_] | simp [s_] | skip)
  rw [if_neg (by simpa using q)]
  refine Pm Tryz.func125 fun hfit => ?_
  simp [Tryz.f125]
  have s_ := q
  try simp [s_]
  repeat' ((first | ((first | refine Tp ?_ | refine Tn ?_ | refine T2 ?_ ?_) <;> intro hw_ ew_ nw_) | refine Pg h1 ?_ | refine Sg h2 ?_ | refine Pg h3 ?_ | rw [Ip] | rw [In] | rw [Fz] | rw [Gz] | fail) <;> first | simp [ew_, nw_, s_] | simp [s_] | skip)
theorem asks4_ok (f : FSR) (c : CallR) (h : RowsF f) : PCall Tryz.prog 127 (aCap f c) (encR (toldR ⟨0, 0, 0, 0, (ofD f c.ino 3).1.text, []⟩ (ofD f c.ino 3).2)) := by
  have h1 := ofN_ok f c.ino 3 (by have := h.len; omega)
  generalize ofD f c.ino 3 = L at *
  have h2 := told5_ok 0 0 0 L.1.text L.2
  generalize toldR ⟨0, 0, 0, 0, L.1.text, []⟩ L.2 = R at *
  refine Pm Tryz.func127 fun hfit => ?_
  simp [Tryz.f127]
  try simp
  repeat' ((first | ((first | refine Tp ?_ | refine Tn ?_ | refine T2 ?_ ?_) <;> intro hw_ ew_ nw_) | refine Pg h1 ?_ | refine Sg h2 ?_ | rw [Ip] | rw [In] | rw [Fz] | rw [Gz] | fail) <;> first | simp [ew_, nw_] | simp | skip)
theorem asks5_ok (f : FSR) (c : CallR) (h : RowsF f) : PCall Tryz.prog 128 (aCap f c) (encR (toldR ⟨0, 0, 0, 0, .empty, (dirD f c.ino).1.l.map (·.name)⟩ (dirD f c.ino).2)) := by
  have h1 := dir_ok f c.ino (by have := h.len; omega)
  have hrow := h.dirRow c.ino
  generalize dirD f c.ino = L at *
  have h3 := names_ok L.1.l (by have := hrow.len; omega)
  generalize L.1.l.map (·.name) = M at *
  have h2 := told_ok ⟨0, 0, 0, 0, .empty, M⟩ L.2
  generalize toldR ⟨0, 0, 0, 0, .empty, M⟩ L.2 = R at *
  refine Pm Tryz.func128 fun hfit => ?_
  simp [Tryz.f128]
  try simp
  repeat' ((first | ((first | refine Tp ?_ | refine Tn ?_ | refine T2 ?_ ?_) <;> intro hw_ ew_ nw_) | refine Pg h1 ?_ | refine Pg h2 ?_ | refine Pg h3 ?_ | rw [Ip] | rw [In] | rw [Fz] | rw [Gz] | fail) <;> first | simp [ew_, nw_] | simp | skip)
theorem sizesF_take (l : List NodeR) (hl : ∀ n ∈ l, n.text.size ≤ 4096) : 0 ≤ sizesF l ∧ sizesF l ≤ l.length * 4096 := by
  induction l with
  | nil => simp [sizesF]
  | cons a l ih =>
    have h1 := hl a (by simp)
    have h2 := ih fun n hn => hl n (by simp [hn])
    simp only [sizesF, List.map_cons, List.sum_cons, List.length_cons] at *
    omega
theorem asks6_ok (f : FSR) (h : RowsF f) : PCall Tryz.prog 131 [.fp f.enc] (encR ⟨0, f.l.length, sizesF f.l, 0, .empty, []⟩) := by
  have hlen := h.len
  have htx : ∀ n ∈ f.l, n.text.size ≤ 4096 := fun n hn => ((nodeOk_iff n).1 (h.ok n hn)).size
  clear h
  obtain ⟨l, next⟩ := f
  simp only at *
  refine Pm Tryz.func131 fun hfit => ?_
  simp [Tryz.f131, FSR.enc]
  refine AW.loopG (lit := fun _ => false) (fun i : Nat => ⟨25, pat [(1, .ptr 0 0 0), (2, .ptr 1 0 0), (10, encL NodeR.enc l), (11, I l.length), (12, I i)], [.cells 0 [I 0, I 0, I 0, I 0, S .empty, .sl true 0 []], .cells 0 [I 0, I l.length, I (sizesF (l.take i)), I 0, S .empty, .sl true 0 []]]⟩) (fun i => l.length - i) (fun i => i ≤ l.length) 0 ?_ ?_ ?_
  · exact Wk.at _ rfl (by simp [sizesF]) (by simp)
  · simp
  rintro i g1 A hA
  by_cases hi : i < l.length
  case neg =>
    have e : List.take i l = l := List.take_of_length_le (by omega)
    have s_ := And.intro @hi (And.intro @ReplyR.enc.eq_1 (@e))
    try simp [s_]
    repeat' ((first | ((first | refine Tp ?_ | refine Tn ?_ | refine T2 ?_ ?_) <;> intro hw_ ew_ nw_) | rw [Ip] | rw [In] | rw [Fz] | rw [Gz] | fail) <;> first | simp [ew_, nw_, s_] | simp [s_] | skip)
  have hwi := wrap_nat hi (by simp only [maxLen]; omega)
  have g2 := sizesF_take (l.take (i + 1)) fun n hn => htx n (List.mem_of_mem_take hn)
  have g3 : sizesF (l.take (i + 1)) = sizesF (l.take i) + l[i].text.size := by
    rw [List.take_succ_eq_append_getElem hi]
    simp only [sizesF, List.map_append, List.sum_append, List.map_cons, List.map_nil, List.sum_cons, List.sum_nil]
    omega
  have hw2 : IntKind.i64.wrap (sizesF (l.take i) + (l[i].text.size : Int)) = sizesF (l.take (i + 1)) := by
    rw [← g3, wrap_id (by omega) (by simp at g2; omega)]
  have s_ := And.intro @hi (And.intro @hwi (@hw2))
  try simp [s_]
  repeat' ((first | ((first | refine Tp ?_ | refine Tn ?_ | refine T2 ?_ ?_) <;> intro hw_ ew_ nw_) | (exact hA (i + 1) _ Wc hi (by omega)) | rw [Ip] | rw [In] | rw [Fz] | rw [Gz] | fail) <;> first | simp [ew_, nw_, s_] | simp [s_] | skip)
end Go.Proofs.YtdnfnddlciafmaaGreat
