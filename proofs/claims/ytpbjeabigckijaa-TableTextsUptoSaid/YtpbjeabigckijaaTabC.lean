/- Decided and forgotten. -/
import Derived.Test.YtpbjeabigckijaaTabB
set_option linter.unusedVariables false
set_option linter.unusedSimpArgs false
namespace Go.Proofs.Ytpbjeabigckijaa
open Go.Cx Tab
set_option maxHeartbeats 400000
set_option maxRecDepth 40000

theorem cli_at {l : List RowR} {i : Nat} (hi : i < l.length) (h : i * 4 < (l.flatMap RowR.enc).length) : (l.flatMap RowR.enc)[i * 4] = I l[i].client := by
  have h1 := congrArg (fun x => x[0]?) (at_RowR hi)
  simp only [List.getElem?_take, List.getElem?_drop] at h1
  rw [List.getElem_eq_iff]
  simpa [RowR.enc] using h1
theorem with_set (l : List RowR) (i : Nat) (r r' : RowR) (g : FuncId) (cap : List AV) (hcap : cap.all neat = true) (hp : PCall Try.prog g (.agg r.enc :: cap) (.agg r'.enc)) (hi : i < l.length) (hk : l[i].client = r.client) (hl : l.length ≤ 100000) : PCall Try.prog 27 [encL RowR.enc l, I i, .agg r.enc, .fn g cap] (encL RowR.enc (l.set i r')) := by
  refine PCall.mk (fun _ => false) Try.func27 rfl rfl rfl (Ent.mk Try.func27 (by kernel_rfl) rfl) (by simp [hcap]) (by simp) fun hfit => ?_
  have hc := cli_at hi
  simp [Try.f27]
  try simp [hi, hk, hc]
  repeat' (first
    | ((first | refine Tst.go (fun hw_ ew_ => ?_) (fun hw_ ew_ => ?_)) <;> first | (exfalso; first | omega | with_reducible exact hw_ (by assumption) | with_reducible exact absurd hw_ (by assumption)) | (have nw_ := Nw.nw hw_; simp [ew_, nw_, hi, hk, hc]) | simp [ew_, hi, hk, hc])
    | (refine AInv.fresh [] (cloneR_ok l (by omega)) (by simp) (by simp) ?_; simp [hi, hk])
    | ((first | (refine Pc.go (hp) ?_ ?_; focus (first | rfl | (simp [hi, hk, hc]; done))) | refine AW.draw (id := 2) Try.checked.mixed (fun _ => false) [] [] 14 (by kernel_rfl) ?_ | rw [if_pos (by first | omega | (simp only [maxLen]; omega))] | rw [if_neg (by first | omega | (simp only [maxLen]; omega))] | rw [frzOwn_neat (by simp) (by simp <;> omega)] | rw [fzOwn_neat (by simp) (by simp <;> omega)]); try simp [hi, hk, hc])
    | ((first | refine TstB.go (fun hw_ ew_ => ?_) (fun hw_ ew_ => ?_)) <;> first | (exfalso; first | omega | with_reducible exact hw_ (by assumption) | with_reducible exact absurd hw_ (by assumption)) | simp [ew_, hi, hk, hc])
    | fail)
theorem with_ins (l : List RowR) (i : Nat) (r r' : RowR) (g : FuncId) (cap : List AV) (hcap : cap.all neat = true) (hp : PCall Try.prog g (.agg r.enc :: cap) (.agg r'.enc)) (hi : i ≤ l.length) (hk : ∀ h : i < l.length, l[i].client ≠ r.client) (hl : l.length ≤ 100000) : PCall Try.prog 27 [encL RowR.enc l, I i, .agg r.enc, .fn g cap] (encL RowR.enc (insL l i r')) := by
  refine PCall.mk (fun _ => false) Try.func27 rfl rfl rfl (Ent.mk Try.func27 (by kernel_rfl) rfl) (by simp [hcap]) (by simp) fun hfit => ?_
  have hins := insertR_ok l i r' hi (by omega)
  simp [Try.f27]
  by_cases h : i < l.length
  · have hc := cli_at h
    have hk := hk h
    try simp [h, hk, hc]
    repeat' (first
      | ((first | refine Tst.go (fun hw_ ew_ => ?_) (fun hw_ ew_ => ?_)) <;> first | (exfalso; first | omega | with_reducible exact hw_ (by assumption) | with_reducible exact absurd hw_ (by assumption)) | (have nw_ := Nw.nw hw_; simp [ew_, nw_, h, hk, hc]) | simp [ew_, h, hk, hc])
      | (refine AInv.fresh [] (cloneR_ok l (by omega)) (by simp) (by simp) ?_; simp [h, hk])
      | (refine AInv.fresh [1] hins (by simp) (by simp) ?_; simp [h, hk])
      | ((first | (refine Pc.go (hp) ?_ ?_; focus (first | rfl | (simp [h, hk, hc]; done))) | refine AW.draw (id := 2) Try.checked.mixed (fun _ => false) [] [] 14 (by kernel_rfl) ?_ | rw [if_pos (by first | omega | (simp only [maxLen]; omega))] | rw [if_neg (by first | omega | (simp only [maxLen]; omega))] | rw [frzOwn_neat (by simp) (by simp <;> omega)] | rw [fzOwn_neat (by simp) (by simp <;> omega)]); try simp [h, hk, hc])
      | ((first | refine TstB.go (fun hw_ ew_ => ?_) (fun hw_ ew_ => ?_)) <;> first | (exfalso; first | omega | with_reducible exact hw_ (by assumption) | with_reducible exact absurd hw_ (by assumption)) | simp [ew_, h, hk, hc])
      | fail)
  · try simp [h]
    repeat' (first
      | ((first | refine Tst.go (fun hw_ ew_ => ?_) (fun hw_ ew_ => ?_)) <;> first | (exfalso; first | omega | with_reducible exact hw_ (by assumption) | with_reducible exact absurd hw_ (by assumption)) | (have nw_ := Nw.nw hw_; simp [ew_, nw_, h]) | simp [ew_, h])
      | (refine AInv.fresh [] (cloneR_ok l (by omega)) (by simp) (by simp) ?_; simp [h])
      | (refine AInv.fresh [1] hins (by simp) (by simp) ?_; simp [h])
      | ((first | (refine Pc.go (hp) ?_ ?_; focus (first | rfl | (simp [h]; done))) | refine AW.draw (id := 2) Try.checked.mixed (fun _ => false) [] [] 14 (by kernel_rfl) ?_ | rw [if_pos (by first | omega | (simp only [maxLen]; omega))] | rw [if_neg (by first | omega | (simp only [maxLen]; omega))] | rw [frzOwn_neat (by simp) (by simp <;> omega)] | rw [fzOwn_neat (by simp) (by simp <;> omega)]); try simp [h])
      | ((first | refine TstB.go (fun hw_ ew_ => ?_) (fun hw_ ew_ => ?_)) <;> first | (exfalso; first | omega | with_reducible exact hw_ (by assumption) | with_reducible exact absurd hw_ (by assumption)) | simp [ew_, h])
      | fail)
theorem decide1_ok (r : RowR) (n : Int) (yes : Bool) (hr : rises DecisionR.seq r.l = true) (hx : findS DecisionR.seq r.l n = none) (hl : r.l.length ≤ 100000) : PCall Try.prog 28 [.agg r.enc, .fp [I n], .fp [B yes]] (.agg (decR r n yes).enc) := by
  have hf := findD_ok r.l n hr (by omega)
  have hpl := placeS_le DecisionR.seq r.l n
  have hpi := put_ins DecisionR.seq hr (x := ⟨n, yes⟩) ((findS_none _).1 hx)
  have hins := insertD_ok r.l (placeS DecisionR.seq r.l n) ⟨n, yes⟩ hpl (by omega)
  rw [show DecisionR.enc ⟨n, yes⟩ = [I n, B yes] from rfl] at hins
  simp only at hpi
  unfold decR
  rw [← hpi]
  generalize placeS DecisionR.seq r.l n = q at *
  refine PCall.mk (fun _ => false) Try.func28 rfl rfl rfl (Ent.mk Try.func28 (by kernel_rfl) rfl) (by simp) (by simp) fun hfit => ?_
  simp [Try.f28]
  try simp [RowR.enc, DecisionR.enc]
  repeat' (first
    | ((first | refine Tst.go (fun hw_ ew_ => ?_) (fun hw_ ew_ => ?_)) <;> first | (exfalso; first | omega | with_reducible exact hw_ (by assumption) | with_reducible exact absurd hw_ (by assumption)) | (have nw_ := Nw.nw hw_; simp [ew_, nw_, RowR.enc, DecisionR.enc]) | simp [ew_, RowR.enc, DecisionR.enc])
    | (refine ADcall.fresh [] (cloneD_ok r.l (by omega)) (by simp) (by simp) ?_; simp)
    | (refine ADcall.fresh [2] hins (by simp) (by simp) ?_; simp)
    | ((first | (refine Pc.go (hf) ?_ ?_; focus (first | rfl | (simp [RowR.enc, DecisionR.enc]; done))) | refine AW.draw (id := 2) Try.checked.mixed (fun _ => false) [] [(1, .e), (2, .e), (4, .t), (5, .t), (8, .e)] 10 (by kernel_rfl) ?_ | rw [if_pos (by first | omega | (simp only [maxLen]; omega))] | rw [if_neg (by first | omega | (simp only [maxLen]; omega))] | rw [frzOwn_neat (by simp) (by simp <;> omega)] | rw [fzOwn_neat (by simp) (by simp <;> omega)]); try simp [RowR.enc, DecisionR.enc])
    | ((first | refine TstB.go (fun hw_ ew_ => ?_) (fun hw_ ew_ => ?_)) <;> first | (exfalso; first | omega | with_reducible exact hw_ (by assumption) | with_reducible exact absurd hw_ (by assumption)) | simp [ew_, RowR.enc, DecisionR.enc])
    | fail)
theorem decide_ok (l : List RowR) (c e n : Int) (yes : Bool) (R : RightT l) : PCall Try.prog 13 [encL RowR.enc l, I c, I e, I n, B yes] (.tup [encL RowR.enc (decideS l c e n yes).1, B (decideS l c e n yes).2.1, I (decideS l c e n yes).2.2]) := by
  have hl := R.len
  have h1 := ask_ok l c e n R
  by_cases h6 : (askS l c e n).2 = 6
  case neg =>
    have hs : decideS l c e n yes = (l, (askS l c e n).1, (askS l c e n).2) := by simp [decideS, h6]
    refine PCall.mk (fun _ => false) Try.func13 rfl rfl rfl (Ent.mk Try.func13 (by kernel_rfl) rfl) (by simp) (by simp) fun hfit => ?_
    simp [Try.f13, hs]
    try simp [h6]
    repeat' (first
      | ((first | refine Tst.go (fun hw_ ew_ => ?_) (fun hw_ ew_ => ?_)) <;> first | (exfalso; first | omega | with_reducible exact hw_ (by assumption) | with_reducible exact absurd hw_ (by assumption)) | (have nw_ := Nw.nw hw_; simp [ew_, nw_, h6]) | simp [ew_, h6])
      | ((first | (refine Pc.go (h1) ?_ ?_; focus (first | rfl | (simp [h6]; done))) | refine AW.draw (id := 8) Try.checked.mixed (fun _ => false) [] [] 9 (by kernel_rfl) ?_ | rw [if_pos (by first | omega | (simp only [maxLen]; omega))] | rw [if_neg (by first | omega | (simp only [maxLen]; omega))] | rw [frzOwn_neat (by simp) (by simp <;> omega)] | rw [fzOwn_neat (by simp) (by simp <;> omega)]); try simp [h6])
      | ((first | refine TstB.go (fun hw_ ew_ => ?_) (fun hw_ ew_ => ?_)) <;> first | (exfalso; first | omega | with_reducible exact hw_ (by assumption) | with_reducible exact absurd hw_ (by assumption)) | simp [ew_, h6])
      | fail)
  rw [h6] at h1
  obtain ⟨hb, hn⟩ := ask_six h6
  have h2 := row_ok l c e n hb R.rise (by omega)
  obtain ⟨r1, r2⟩ := rowS_rise R c e n
  obtain ⟨k1, k2⟩ := rowS_key l hb
  have h3 := decide1_ok (rowS l c e n) n yes r1 hn (by omega)
  have hkey : RowR.client (decR (rowS l c e n) n yes) = c := k1
  have hgive : ∀ v : AV, neat v = true → True := fun _ _ => trivial
  cases hx : findS RowR.client l c with
  | none =>
    have hpl := placeS_le RowR.client l c
    have hpn : ∀ h : placeS RowR.client l c < l.length, l[placeS RowR.client l c].client ≠ c := fun h => place_none RowR.client R.rise hx h
    have hpi := put_ins RowR.client R.rise (x := decR (rowS l c e n) n yes) (by rw [hkey]; exact (findS_none _).1 hx)
    rw [hkey] at hpi
    by_cases hrm : roomless l c e n = true
    · have hs : decideS l c e n yes = (l, false, 12) := by simp [decideS, h6, hrm]
      simp only [roomless, hx, Bool.or_eq_true, Bool.and_eq_true, decide_eq_true_eq, true_and] at hrm
      generalize rowS l c e n = r at *
      generalize placeS RowR.client l c = q at *
      by_cases hq : q < l.length
      · have hq2 := hpn hq
        by_cases hr1 : 64 ≤ l.length
        · refine PCall.mk (fun _ => false) Try.func13 rfl rfl rfl (Ent.mk Try.func13 (by kernel_rfl) rfl) (by simp) (by simp) fun hfit => ?_
          simp [Try.f13, hs]
          try simp [hq, hq2, hr1]
          repeat' (first
            | ((first | refine Tst.go (fun hw_ ew_ => ?_) (fun hw_ ew_ => ?_)) <;> first | (exfalso; first | omega | with_reducible exact hw_ (by assumption) | with_reducible exact absurd hw_ (by assumption)) | (have nw_ := Nw.nw hw_; simp [ew_, nw_, hq, hq2, hr1]) | simp [ew_, hq, hq2, hr1])
            | ((first | (refine Pc.go (h1) ?_ ?_; focus (first | rfl | (simp [hq, hq2, hr1]; done))) | (refine Pc.go (h2) ?_ ?_; focus (first | rfl | (simp [hq, hq2, hr1]; done))) | refine AW.draw (id := 8) Try.checked.mixed (fun _ => false) [] [] 9 (by kernel_rfl) ?_ | rw [if_pos (by first | omega | (simp only [maxLen]; omega))] | rw [if_neg (by first | omega | (simp only [maxLen]; omega))] | rw [frzOwn_neat (by simp) (by simp <;> omega)] | rw [fzOwn_neat (by simp) (by simp <;> omega)]); try simp [hq, hq2, hr1])
            | ((first | refine TstB.go (fun hw_ ew_ => ?_) (fun hw_ ew_ => ?_)) <;> first | (exfalso; first | omega | with_reducible exact hw_ (by assumption) | with_reducible exact absurd hw_ (by assumption)) | simp [ew_, hq, hq2, hr1])
            | fail)
        · have hr2 : 256 ≤ r.l.length := by omega
          refine PCall.mk (fun _ => false) Try.func13 rfl rfl rfl (Ent.mk Try.func13 (by kernel_rfl) rfl) (by simp) (by simp) fun hfit => ?_
          simp [Try.f13, hs]
          try simp [hq, hq2, hr1, hr2]
          repeat' (first
            | ((first | refine Tst.go (fun hw_ ew_ => ?_) (fun hw_ ew_ => ?_)) <;> first | (exfalso; first | omega | with_reducible exact hw_ (by assumption) | with_reducible exact absurd hw_ (by assumption)) | (have nw_ := Nw.nw hw_; simp [ew_, nw_, hq, hq2, hr1, hr2]) | simp [ew_, hq, hq2, hr1, hr2])
            | ((first | (refine Pc.go (h1) ?_ ?_; focus (first | rfl | (simp [hq, hq2, hr1, hr2]; done))) | (refine Pc.go (h2) ?_ ?_; focus (first | rfl | (simp [hq, hq2, hr1, hr2]; done))) | refine AW.draw (id := 8) Try.checked.mixed (fun _ => false) [] [] 9 (by kernel_rfl) ?_ | rw [if_pos (by first | omega | (simp only [maxLen]; omega))] | rw [if_neg (by first | omega | (simp only [maxLen]; omega))] | rw [frzOwn_neat (by simp) (by simp <;> omega)] | rw [fzOwn_neat (by simp) (by simp <;> omega)]); try simp [hq, hq2, hr1, hr2])
            | ((first | refine TstB.go (fun hw_ ew_ => ?_) (fun hw_ ew_ => ?_)) <;> first | (exfalso; first | omega | with_reducible exact hw_ (by assumption) | with_reducible exact absurd hw_ (by assumption)) | simp [ew_, hq, hq2, hr1, hr2])
            | fail)
      · by_cases hr1 : 64 ≤ l.length
        · refine PCall.mk (fun _ => false) Try.func13 rfl rfl rfl (Ent.mk Try.func13 (by kernel_rfl) rfl) (by simp) (by simp) fun hfit => ?_
          simp [Try.f13, hs]
          try simp [hq, hr1]
          repeat' (first
            | ((first | refine Tst.go (fun hw_ ew_ => ?_) (fun hw_ ew_ => ?_)) <;> first | (exfalso; first | omega | with_reducible exact hw_ (by assumption) | with_reducible exact absurd hw_ (by assumption)) | (have nw_ := Nw.nw hw_; simp [ew_, nw_, hq, hr1]) | simp [ew_, hq, hr1])
            | ((first | (refine Pc.go (h1) ?_ ?_; focus (first | rfl | (simp [hq, hr1]; done))) | (refine Pc.go (h2) ?_ ?_; focus (first | rfl | (simp [hq, hr1]; done))) | refine AW.draw (id := 8) Try.checked.mixed (fun _ => false) [] [] 9 (by kernel_rfl) ?_ | rw [if_pos (by first | omega | (simp only [maxLen]; omega))] | rw [if_neg (by first | omega | (simp only [maxLen]; omega))] | rw [frzOwn_neat (by simp) (by simp <;> omega)] | rw [fzOwn_neat (by simp) (by simp <;> omega)]); try simp [hq, hr1])
            | ((first | refine TstB.go (fun hw_ ew_ => ?_) (fun hw_ ew_ => ?_)) <;> first | (exfalso; first | omega | with_reducible exact hw_ (by assumption) | with_reducible exact absurd hw_ (by assumption)) | simp [ew_, hq, hr1])
            | fail)
        · have hr2 : 256 ≤ r.l.length := by omega
          refine PCall.mk (fun _ => false) Try.func13 rfl rfl rfl (Ent.mk Try.func13 (by kernel_rfl) rfl) (by simp) (by simp) fun hfit => ?_
          simp [Try.f13, hs]
          try simp [hq, hr1, hr2]
          repeat' (first
            | ((first | refine Tst.go (fun hw_ ew_ => ?_) (fun hw_ ew_ => ?_)) <;> first | (exfalso; first | omega | with_reducible exact hw_ (by assumption) | with_reducible exact absurd hw_ (by assumption)) | (have nw_ := Nw.nw hw_; simp [ew_, nw_, hq, hr1, hr2]) | simp [ew_, hq, hr1, hr2])
            | ((first | (refine Pc.go (h1) ?_ ?_; focus (first | rfl | (simp [hq, hr1, hr2]; done))) | (refine Pc.go (h2) ?_ ?_; focus (first | rfl | (simp [hq, hr1, hr2]; done))) | refine AW.draw (id := 8) Try.checked.mixed (fun _ => false) [] [] 9 (by kernel_rfl) ?_ | rw [if_pos (by first | omega | (simp only [maxLen]; omega))] | rw [if_neg (by first | omega | (simp only [maxLen]; omega))] | rw [frzOwn_neat (by simp) (by simp <;> omega)] | rw [fzOwn_neat (by simp) (by simp <;> omega)]); try simp [hq, hr1, hr2])
            | ((first | refine TstB.go (fun hw_ ew_ => ?_) (fun hw_ ew_ => ?_)) <;> first | (exfalso; first | omega | with_reducible exact hw_ (by assumption) | with_reducible exact absurd hw_ (by assumption)) | simp [ew_, hq, hr1, hr2])
            | fail)
    · have hs : decideS l c e n yes = (insL l (placeS RowR.client l c) (decR (rowS l c e n) n yes), yes, 0) := by rw [hpi]; simp [decideS, h6, hrm]
      simp only [roomless, hx, Bool.or_eq_true, Bool.and_eq_true, decide_eq_true_eq, true_and, not_or] at hrm
      obtain ⟨hr1, hr2⟩ := hrm
      have h4 := with_ins l (placeS RowR.client l c) (rowS l c e n) (decR (rowS l c e n) n yes) 28 [.fp [I n], .fp [B yes]] (by simp) h3 hpl (by rw [k1]; exact hpn) (by omega)
      generalize decR (rowS l c e n) n yes = r' at *
      generalize rowS l c e n = r at *
      generalize placeS RowR.client l c = q at *
      by_cases hq : q < l.length
      · have hq2 := hpn hq
        refine PCall.mk (fun _ => false) Try.func13 rfl rfl rfl (Ent.mk Try.func13 (by kernel_rfl) rfl) (by simp) (by simp) fun hfit => ?_
        simp [Try.f13, hs]
        try simp [hq, hq2, hr1, hr2]
        repeat' (first
          | ((first | refine Tst.go (fun hw_ ew_ => ?_) (fun hw_ ew_ => ?_)) <;> first | (exfalso; first | omega | with_reducible exact hw_ (by assumption) | with_reducible exact absurd hw_ (by assumption)) | (have nw_ := Nw.nw hw_; simp [ew_, nw_, hq, hq2, hr1, hr2]) | simp [ew_, hq, hq2, hr1, hr2])
          | (refine AW.wkZ (WkZ.freeze [0] 8 (.fp [I n]) (by simp)) ?_; refine AW.wkZ (WkZ.freeze [1] 9 (.fp [B yes]) (by simp)) ?_; simp; refine AW.draw (id := 8) Try.checked.mixed (fun _ => false) [] [(5, .t)] 9 (by kernel_rfl) ?_; simp)
          | ((first | (refine Pc.go (h1) ?_ ?_; focus (first | rfl | (simp [hq, hq2, hr1, hr2]; done))) | (refine Pc.go (h2) ?_ ?_; focus (first | rfl | (simp [hq, hq2, hr1, hr2]; done))) | (refine Pc.go (h4) ?_ ?_; focus (first | rfl | (simp [hq, hq2, hr1, hr2]; done))) | refine AW.draw (id := 8) Try.checked.mixed (fun _ => false) [] [] 9 (by kernel_rfl) ?_ | rw [if_pos (by first | omega | (simp only [maxLen]; omega))] | rw [if_neg (by first | omega | (simp only [maxLen]; omega))] | rw [frzOwn_neat (by simp) (by simp <;> omega)] | rw [fzOwn_neat (by simp) (by simp <;> omega)]); try simp [hq, hq2, hr1, hr2])
          | ((first | refine TstB.go (fun hw_ ew_ => ?_) (fun hw_ ew_ => ?_)) <;> first | (exfalso; first | omega | with_reducible exact hw_ (by assumption) | with_reducible exact absurd hw_ (by assumption)) | simp [ew_, hq, hq2, hr1, hr2])
          | fail)
      · refine PCall.mk (fun _ => false) Try.func13 rfl rfl rfl (Ent.mk Try.func13 (by kernel_rfl) rfl) (by simp) (by simp) fun hfit => ?_
        simp [Try.f13, hs]
        try simp [hq, hr1, hr2]
        repeat' (first
          | ((first | refine Tst.go (fun hw_ ew_ => ?_) (fun hw_ ew_ => ?_)) <;> first | (exfalso; first | omega | with_reducible exact hw_ (by assumption) | with_reducible exact absurd hw_ (by assumption)) | (have nw_ := Nw.nw hw_; simp [ew_, nw_, hq, hr1, hr2]) | simp [ew_, hq, hr1, hr2])
          | (refine AW.wkZ (WkZ.freeze [0] 8 (.fp [I n]) (by simp)) ?_; refine AW.wkZ (WkZ.freeze [1] 9 (.fp [B yes]) (by simp)) ?_; simp; refine AW.draw (id := 8) Try.checked.mixed (fun _ => false) [] [(5, .t)] 9 (by kernel_rfl) ?_; simp)
          | ((first | (refine Pc.go (h1) ?_ ?_; focus (first | rfl | (simp [hq, hr1, hr2]; done))) | (refine Pc.go (h2) ?_ ?_; focus (first | rfl | (simp [hq, hr1, hr2]; done))) | (refine Pc.go (h4) ?_ ?_; focus (first | rfl | (simp [hq, hr1, hr2]; done))) | refine AW.draw (id := 8) Try.checked.mixed (fun _ => false) [] [] 9 (by kernel_rfl) ?_ | rw [if_pos (by first | omega | (simp only [maxLen]; omega))] | rw [if_neg (by first | omega | (simp only [maxLen]; omega))] | rw [frzOwn_neat (by simp) (by simp <;> omega)] | rw [fzOwn_neat (by simp) (by simp <;> omega)]); try simp [hq, hr1, hr2])
          | ((first | refine TstB.go (fun hw_ ew_ => ?_) (fun hw_ ew_ => ?_)) <;> first | (exfalso; first | omega | with_reducible exact hw_ (by assumption) | with_reducible exact absurd hw_ (by assumption)) | simp [ew_, hq, hr1, hr2])
          | fail)
  | some r0 =>
    obtain ⟨hq, hqx⟩ := find_place RowR.client R.rise hx
    have hq2 : l[placeS RowR.client l c].client = c := by rw [hqx]; exact (findS_mem _ hx).2
    have hpi := put_set RowR.client R.rise (x := decR (rowS l c e n) n yes) hq (by rw [hkey]; exact hq2)
    by_cases hrm : roomless l c e n = true
    · have hs : decideS l c e n yes = (l, false, 12) := by simp [decideS, h6, hrm]
      simp only [roomless, hx, Bool.or_eq_true, Bool.and_eq_true, decide_eq_true_eq, reduceCtorEq, false_and, false_or] at hrm
      generalize rowS l c e n = r at *
      generalize placeS RowR.client l c = q at *
      refine PCall.mk (fun _ => false) Try.func13 rfl rfl rfl (Ent.mk Try.func13 (by kernel_rfl) rfl) (by simp) (by simp) fun hfit => ?_
      simp [Try.f13, hs]
      try simp [hq, hq2, hrm]
      repeat' (first
        | ((first | refine Tst.go (fun hw_ ew_ => ?_) (fun hw_ ew_ => ?_)) <;> first | (exfalso; first | omega | with_reducible exact hw_ (by assumption) | with_reducible exact absurd hw_ (by assumption)) | (have nw_ := Nw.nw hw_; simp [ew_, nw_, hq, hq2, hrm]) | simp [ew_, hq, hq2, hrm])
        | ((first | (refine Pc.go (h1) ?_ ?_; focus (first | rfl | (simp [hq, hq2, hrm]; done))) | (refine Pc.go (h2) ?_ ?_; focus (first | rfl | (simp [hq, hq2, hrm]; done))) | refine AW.draw (id := 8) Try.checked.mixed (fun _ => false) [] [] 9 (by kernel_rfl) ?_ | rw [if_pos (by first | omega | (simp only [maxLen]; omega))] | rw [if_neg (by first | omega | (simp only [maxLen]; omega))] | rw [frzOwn_neat (by simp) (by simp <;> omega)] | rw [fzOwn_neat (by simp) (by simp <;> omega)]); try simp [hq, hq2, hrm])
        | ((first | refine TstB.go (fun hw_ ew_ => ?_) (fun hw_ ew_ => ?_)) <;> first | (exfalso; first | omega | with_reducible exact hw_ (by assumption) | with_reducible exact absurd hw_ (by assumption)) | simp [ew_, hq, hq2, hrm])
        | fail)
    · have hs : decideS l c e n yes = (l.set (placeS RowR.client l c) (decR (rowS l c e n) n yes), yes, 0) := by rw [hpi]; simp [decideS, h6, hrm]
      simp only [roomless, hx, Bool.or_eq_true, Bool.and_eq_true, decide_eq_true_eq, reduceCtorEq, false_and, false_or] at hrm
      have h4 := with_set l (placeS RowR.client l c) (rowS l c e n) (decR (rowS l c e n) n yes) 28 [.fp [I n], .fp [B yes]] (by simp) h3 hq (by rw [k1]; exact hq2) (by omega)
      generalize decR (rowS l c e n) n yes = r' at *
      generalize rowS l c e n = r at *
      generalize placeS RowR.client l c = q at *
      refine PCall.mk (fun _ => false) Try.func13 rfl rfl rfl (Ent.mk Try.func13 (by kernel_rfl) rfl) (by simp) (by simp) fun hfit => ?_
      simp [Try.f13, hs]
      try simp [hq, hq2, hrm]
      repeat' (first
        | ((first | refine Tst.go (fun hw_ ew_ => ?_) (fun hw_ ew_ => ?_)) <;> first | (exfalso; first | omega | with_reducible exact hw_ (by assumption) | with_reducible exact absurd hw_ (by assumption)) | (have nw_ := Nw.nw hw_; simp [ew_, nw_, hq, hq2, hrm]) | simp [ew_, hq, hq2, hrm])
        | (refine AW.wkZ (WkZ.freeze [0] 8 (.fp [I n]) (by simp)) ?_; refine AW.wkZ (WkZ.freeze [1] 9 (.fp [B yes]) (by simp)) ?_; simp; refine AW.draw (id := 8) Try.checked.mixed (fun _ => false) [] [(5, .t)] 9 (by kernel_rfl) ?_; simp)
        | ((first | (refine Pc.go (h1) ?_ ?_; focus (first | rfl | (simp [hq, hq2, hrm]; done))) | (refine Pc.go (h2) ?_ ?_; focus (first | rfl | (simp [hq, hq2, hrm]; done))) | (refine Pc.go (h4) ?_ ?_; focus (first | rfl | (simp [hq, hq2, hrm]; done))) | refine AW.draw (id := 8) Try.checked.mixed (fun _ => false) [] [] 9 (by kernel_rfl) ?_ | rw [if_pos (by first | omega | (simp only [maxLen]; omega))] | rw [if_neg (by first | omega | (simp only [maxLen]; omega))] | rw [frzOwn_neat (by simp) (by simp <;> omega)] | rw [fzOwn_neat (by simp) (by simp <;> omega)]); try simp [hq, hq2, hrm])
        | ((first | refine TstB.go (fun hw_ ew_ => ?_) (fun hw_ ew_ => ?_)) <;> first | (exfalso; first | omega | with_reducible exact hw_ (by assumption) | with_reducible exact absurd hw_ (by assumption)) | simp [ew_, hq, hq2, hrm])
        | fail)
end Go.Proofs.Ytpbjeabigckijaa
