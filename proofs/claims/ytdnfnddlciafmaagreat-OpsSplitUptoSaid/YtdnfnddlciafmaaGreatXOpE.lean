import Derived.Test.YtdnfnddlciafmaaGreatXOpD
set_option linter.unusedVariables false
set_option linter.unusedSimpArgs false
namespace Go.Proofs.YtdnfnddlciafmaaGreat
open Go.Cx Tab
set_option maxHeartbeats 400000
set_option maxRecDepth 40000
theorem cloneE_ok (l : List EntryR) (hl : l.length ≤ 1000000) : XCall Tryz.prog 225 [encL EntryR.enc l] [] (.own 0 0 0 l.length 2) [.cells 0 (l.flatMap EntryR.enc)] := by
  refine XCall.mkE 2 (fun _ => false) Tryz.func225 rfl rfl rfl (Ent.mk Tryz.func225 (by kernel_rfl) rfl) (by simp) (by simp) (by simp) (by simp) (by simp) fun hfit => ?_
  simp at hfit
  simp [Tryz.f225]
  rw [if_pos (by simp only [maxLen]; omega)]
  simp
  intro h0
  subst h0
  simp
theorem erase_plE {l : List EntryR} (hr : risesE l = true) {s : ByteArray} (hf : (findE l s).2 = true) : l.eraseIdx (plE l s) = outE l s := by
  obtain ⟨hp, e1, _⟩ := (find_plE hr s).2 hf
  generalize plE l s = q at *
  have hpw := List.pairwise_iff_getElem.1 ((risesE_pair _).1 hr)
  have ha : (l.take q).filter (fun x => !decide (x.name = s)) = l.take q := List.filter_eq_self.2 fun x hx => by
    obtain ⟨j, hj, rfl⟩ := List.getElem_of_mem hx
    rw [List.length_take] at hj
    have := strLt_ne (hpw j q (by omega) hp (by omega))
    rw [e1] at this
    simpa using this
  have hb : (l.drop (q + 1)).filter (fun x => !decide (x.name = s)) = l.drop (q + 1) := List.filter_eq_self.2 fun x hx => by
    obtain ⟨j, hj, rfl⟩ := List.getElem_of_mem hx
    rw [List.length_drop] at hj
    have := strLt_ne (hpw q (q + 1 + j) hp (by omega) (by omega))
    rw [e1] at this
    simpa using fun e => this e.symm
  have e : l = l.take q ++ l[q] :: l.drop (q + 1) := by rw [← List.drop_eq_getElem_cons hp, List.take_append_drop]
  rw [List.eraseIdx_eq_take_drop_succ, outE]
  conv => rhs; rw [e]
  rw [List.filter_append, List.filter_cons, ha, hb]
  simp [e1]
theorem enter_ok (l : List EntryR) (s : ByteArray) (ino : Int) (hr : risesE l = true) (hl : l.length ≤ 100000) : PCall Tryz.prog 223 [encL EntryR.enc l, S s, I ino] (.tup [encL EntryR.enc (enterE l s ino).1, I (enterE l s ino).2]) := by
  have h1 := place_ok l s hr (by omega)
  have h2 := check_ok s
  simp only [enterE, insE_eq]
  have hple := plE_le l s
  generalize plE l s = q at *
  generalize (findE l s).2 = is at *
  refine Pm Tryz.func223 fun hfit => ?_
  simp [Tryz.f223]
  cases hn : nameOk s with
  | false =>
    have hc : checkS s = 10 := by simp [checkS, hn]
    rw [hc] at h2
    have s_ := And.intro @hn (@hc)
    try simp [s_]
    repeat' ((first | ((first | refine Tp ?_ | refine Tn ?_ | refine T2 ?_ ?_) <;> intro hw_ ew_ nw_) | refine Pg h1 ?_ | refine Pg h2 ?_ | rw [Ip] | rw [In] | rw [Fz] | rw [Gz] | fail) <;> first | simp [ew_, nw_, s_] | simp [s_] | skip)
  | true =>
    have hc : checkS s = 0 := by simp [checkS, hn]
    rw [hc] at h2
    by_cases hi : ino < 1
    · have s_ := And.intro @hn (And.intro @hc (@hi))
      try simp [s_]
      repeat' ((first | ((first | refine Tp ?_ | refine Tn ?_ | refine T2 ?_ ?_) <;> intro hw_ ew_ nw_) | refine Pg h1 ?_ | refine Pg h2 ?_ | rw [Ip] | rw [In] | rw [Fz] | rw [Gz] | fail) <;> first | simp [ew_, nw_, s_] | simp [s_] | skip)
    cases is with
    | true =>
      have s_ := And.intro @hn (And.intro @hc (@hi))
      try simp [s_]
      repeat' ((first | ((first | refine Tp ?_ | refine Tn ?_ | refine T2 ?_ ?_) <;> intro hw_ ew_ nw_) | refine Pg h1 ?_ | refine Pg h2 ?_ | rw [Ip] | rw [In] | rw [Fz] | rw [Gz] | fail) <;> first | simp [ew_, nw_, s_] | simp [s_] | skip)
    | false =>
      by_cases h6 : 256 ≤ l.length
      · have h6' : (256 : Int) ≤ l.length := by omega
        have s_ := And.intro @hn (And.intro @hc (And.intro @hi (And.intro @h6 (@h6'))))
        try simp [s_]
        repeat' ((first | ((first | refine Tp ?_ | refine Tn ?_ | refine T2 ?_ ?_) <;> intro hw_ ew_ nw_) | refine Pg h1 ?_ | refine Pg h2 ?_ | rw [Ip] | rw [In] | rw [Fz] | rw [Gz] | fail) <;> first | simp [ew_, nw_, s_] | simp [s_] | skip)
      · have h6' : ¬ (256 : Int) ≤ l.length := by omega
        have hins := insertE_ok l q ⟨s, ino⟩ hple (by omega)
        simp only [EntryR.enc] at hins
        have s_ := And.intro @hn (And.intro @hc (And.intro @hi (And.intro @h6 (And.intro @h6' (@EntryR.enc.eq_1)))))
        try simp [s_]
        repeat' ((first | ((first | refine Tp ?_ | refine Tn ?_ | refine T2 ?_ ?_) <;> intro hw_ ew_ nw_) | (refine AInv.fresh [] (cloneE_ok l (by omega)) (by simp) (by simp) ?_; simp) | (refine AInv.fresh [0] hins (by simp) (by simp) ?_; simp) | refine Pg h1 ?_ | refine Pg h2 ?_ | rw [Ip] | rw [In] | rw [Fz] | rw [Gz] | fail) <;> first | simp [ew_, nw_, s_] | simp [s_] | skip)
theorem leave_ok (l : List EntryR) (s : ByteArray) (hr : risesE l = true) (hl : l.length ≤ 100000) : PCall Tryz.prog 200 [encL EntryR.enc l, S s] (.tup [encL EntryR.enc (leaveE l s).1, I (leaveE l s).2.1, I (leaveE l s).2.2]) := by
  have h1 := place_ok l s hr (by omega)
  have h2 := (find_plE hr s).2
  have h3 := @erase_plE l hr s
  simp only [leaveE]
  cases hf : (findE l s).2 with
  | false =>
    rw [hf] at h1
    refine Pm Tryz.func200 fun hfit => ?_
    simp [Tryz.f200]
    try simp
    repeat' ((first | ((first | refine Tp ?_ | refine Tn ?_ | refine T2 ?_ ?_) <;> intro hw_ ew_ nw_) | refine Pg h1 ?_ | refine Dg 4 14 [] [] ?_ | rw [Ip] | rw [In] | rw [Fz] | rw [Gz] | fail) <;> first | simp [ew_, nw_] | simp | skip)
  | true =>
    rw [hf] at h1
    obtain ⟨hp, e1, e2⟩ := h2 hf
    have h3 := h3 hf
    rw [e2, ← h3]
    generalize plE l s = q at *
    have hcut := cutoneE_ok l q hp (by omega)
    have hw : IntKind.i64.wrap ((q : Int) + 1) = ((q + 1 : Nat) : Int) := by rw [wrap_id (by omega) (by omega)]; omega
    refine Pm Tryz.func200 fun hfit => ?_
    simp [Tryz.f200]
    have s_ := And.intro @hp (And.intro @hw (@EntryR.enc.eq_1))
    try simp [s_]
    repeat' ((first | ((first | refine Tp ?_ | refine Tn ?_ | refine T2 ?_ ?_) <;> intro hw_ ew_ nw_) | refine Pg h1 ?_ | refine Dg 4 14 [] [(1, .e), (5, .e), (10, .t)] ?_ | rw [Ip] | rw [In] | rw [Fz] | rw [Gz] | fail) <;> first | simp [ew_, nw_, s_] | simp [s_] | skip)
    refine ADcall.fresh [] (cloneE_ok l (by omega)) (by simp) (by simp) ?_
    simp [hw]
    refine ADcall.fresh [0] hcut (by simp) (by simp) ?_
    simp [hp, EntryR.enc]
    rw [frzOwn_neat (by simp) (by simp [List.length_eraseIdx, hp])]
    simp [List.length_eraseIdx, hp]
end Go.Proofs.YtdnfnddlciafmaaGreat
