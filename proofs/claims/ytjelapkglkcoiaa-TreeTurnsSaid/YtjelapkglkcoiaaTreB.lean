/- slices.Insert and its like at the rows of layer 8. -/
import Derived.Test.YtjelapkglkcoiaaTreA
import Derived.Test.YtjelapkglkcoiaaBe
set_option linter.unusedVariables false
set_option linter.unusedSimpArgs false
namespace Go.Proofs.Ytjelapkglkcoiaa
open Go.Cx Tab
set_option maxHeartbeats 400000
set_option maxRecDepth 40000

theorem insertN_ok (l : List NodeR) (i : Nat) (x : NodeR) (hi : i ≤ l.length) (hl : l.length ≤ 1000000) : XCall Try.prog 68 [.own 0 0 0 l.length 5, I i, .sl true 1 x.enc] [.cells 0 (l.flatMap NodeR.enc)] (.own 0 1 0 (l.length + 1) 5) [.cells 1 ((insL l i x).flatMap NodeR.enc)] := by
  by_cases hi2 : i = l.length
  case pos =>
    subst hi2
    refine XCall.mkG (fun s (_ : Unit) => s) (fun _ => false) Try.func68 rfl rfl rfl (Ent.mk Try.func68 (by kernel_rfl) rfl) (by simp) (by simp) (by simp) (by simp) (by simp) fun hfit => ?_
    refine ⟨WkE.one _ _, fun _ => ?_⟩
    simp [Try.f68]
    rw [if_pos (by simp only [maxLen]; omega)]
    simp
    exact ⟨_, Wk.refl _ _, by simp [insL_end]⟩
  have hi3 : i < l.length := by omega
  have hcp : ∀ cap, l.length ≤ cap → (l.length * 5 + (cap * 5 - l.length * 5)) / 5 = cap := fun cap h => by omega
  have hw1 : IntKind.i64.wrap ((l.length : Int) + 1) = ((l.length + 1 : Nat) : Int) := by rw [wrap_id (by omega) (by omega)]; omega
  have hw2 : IntKind.i64.wrap ((i : Int) + 1) = ((i + 1 : Nat) : Int) := by rw [wrap_id (by omega) (by omega)]; omega
  have hw3 : IntKind.i64.wrap ((l.length : Int) + 1 - i) = ((l.length + 1 - i : Nat) : Int) := by rw [wrap_id (by omega) (by omega)]; omega
  have hw4 : ((i : Int) + ((l.length + 1 - i : Nat) : Int)).toNat = l.length + 1 := by omega
  have hm1 : min 1 (l.length + 1 - i) = 1 := by omega
  have hm2 : ∀ cap, l.length ≤ cap → min (i * 5) (l.length * 5 + (cap * 5 - l.length * 5)) = i * 5 := fun cap h => by omega
  have hov : ∀ (lb : Nat) (h : AHeap) (y : ABlk) (Q : AV → AHeap → Prop), h[0]? = some y → (blkCells y).map (·.1) = some 0 → Q (B false) h → AInv Try.prog (.fn 84 []) [.sl true 1 x.enc, .own 0 0 (i + 1) lb 5] h Q := fun lb h y Q hy hv hq =>
    overlaps_ok Try.func84 (by kernel_rfl) rfl (by kernel_rfl) rfl rfl (by kernel_rfl) (k := 5) (by kernel_rfl) true 1 _ _ 0 0 (i + 1) lb hy hv (by omega) Q hq
  refine XCall.mkG (fun s (cap : { cap : Nat // l.length ≤ cap ∧ cap ≤ maxLen }) => roomS s 0 0 5 (l.flatMap NodeR.enc) cap.1) (fun _ => false) Try.func68 rfl rfl rfl (Ent.mk Try.func68 (by kernel_rfl) rfl) (by simp) (by simp) (by simp) (by simp) (by simp) fun hfit => ?_
  refine ⟨WkE.full (t := 0) (by simp) (by simp) (by omega) (by simp), ?_⟩
  rintro ⟨cap, hc1, hc2⟩
  have hcp1 := hcp cap hc1
  have hm3 := hm2 cap hc1
  have hi4 : ¬ i = l.length := by omega
  have hle : i ≤ l.length := by omega
  generalize hA : List.replicate (cap * 5 - l.length * 5) AV.any = A
  have hAl : A.length = cap * 5 - l.length * 5 := by rw [← hA]; simp
  have hLl : (l.flatMap NodeR.enc).length = l.length * 5 := len_NodeR l
  have hta : (l.flatMap NodeR.enc ++ A).take (i * 5) = (l.flatMap NodeR.enc).take (i * 5) := List.take_append_of_le_length (by rw [hLl]; omega)
  have hdr : (l.flatMap NodeR.enc).drop (i * 5) = (l.drop i).flatMap NodeR.enc := drops_NodeR l i
  have hq0 : (l.flatMap NodeR.enc ++ A).drop (i * 5) = (l.drop i).flatMap NodeR.enc ++ A := by rw [List.drop_append_of_le_length (by rw [hLl]; omega), hdr]
  have hdl : ((l.drop i).flatMap NodeR.enc).length = l.length * 5 - i * 5 := by rw [len_NodeR, List.length_drop]; omega
  by_cases hr : l.length + 1 ≤ cap
  · have hm4 : min (l.length + 1 - i) (l.length - i) = l.length - i := by omega
    have hm5 : min ((l.length + 1 - i) * 5) ((l.length - i) * 5 + (cap * 5 - l.length * 5)) = (l.length + 1 - i) * 5 := by omega
    have hm6 : min ((l.length + 1 - i) * 5) (l.length * 5 + (cap * 5 - l.length * 5) - i * 5) = (l.length + 1 - i) * 5 := by omega
    have hq1 : List.take ((l.length - i) * 5) (List.take ((l.length + 1 - i) * 5) ((l.drop i).flatMap NodeR.enc ++ A)) = (l.drop i).flatMap NodeR.enc := by
      rw [List.take_take, Nat.min_eq_left (by omega), List.take_left' (by rw [hdl]; omega)]
    have hq2 : (putAt (l.flatMap NodeR.enc ++ A) ((i + 1) * 5) ((l.drop i).flatMap NodeR.enc)).length = cap * 5 := by
      rw [putAt_length (by rw [List.length_append, hLl, hAl, hdl]; omega), List.length_append, hLl, hAl]; omega
    have hq3 : (putAt (putAt (l.flatMap NodeR.enc ++ A) ((i + 1) * 5) ((l.drop i).flatMap NodeR.enc)) (i * 5) x.enc).take ((l.length + 1) * 5) = (insL l i x).flatMap NodeR.enc := by
      have := ins_room (L := l.flatMap NodeR.enc) (A := A) (X := x.enc) (a := i * 5) (k := 5) hLl (by omega) rfl (by rw [hAl]; omega)
      rw [ins_NodeR, hq0, List.take_left' (by rw [hdl])] at this
      rw [show (i + 1) * 5 = i * 5 + 5 by omega, show (l.length + 1) * 5 = l.length * 5 + 5 by omega]
      exact this
    have hone : ∀ y ∈ (l.drop i).flatMap NodeR.enc, isOne y = true := List.all_eq_true.1 (one_NodeR _)
    simp [Try.f68, roomS, hA]
    try simp [hcp1, hw1, hw2, hw3, hw4, hm1, hm3, hm4, hq0, hq1, hq2, hi3, hi4, hle, hr]
    repeat' (first
      | ((first | refine Tst.go (fun hw_ ew_ => ?_) (fun hw_ ew_ => ?_)) <;> first | (exfalso; first | omega | with_reducible exact hw_ (by assumption) | with_reducible exact absurd hw_ (by assumption)) | (have nw_ := Nw.nw hw_; simp [ew_, nw_, hcp1, hw1, hw2, hw3, hw4, hm1, hm3, hm4, hq0, hq1, hq2, hi3, hi4, hle, hr]) | simp [ew_, hcp1, hw1, hw2, hw3, hw4, hm1, hm3, hm4, hq0, hq1, hq2, hi3, hi4, hle, hr])
      | (refine hov _ _ _ _ rfl rfl ?_; simp)
      | (refine optBif ⟨rfl, by rw [List.length_append, hLl, hAl]; omega, by rw [List.length_take, List.length_append, hdl, hAl]; omega, by rw [hm4, hq1]; exact hone⟩ ?_; simp)
      | ((first | refine AW.draw (id := 11) Try.checked.mixed (fun _ => false) [] [] 9 (by kernel_rfl) ?_ | refine AW.draw (id := 15) Try.checked.mixed (fun _ => false) [] [] 9 (by kernel_rfl) ?_ | rw [if_pos (by first | omega | (simp only [maxLen]; omega))] | rw [if_neg (by first | omega | (simp only [maxLen]; omega))] | rw [frzOwn_neat (by simp) (by simp <;> omega)] | rw [fzOwn_neat (by simp) (by simp <;> omega)]); try simp [hcp1, hw1, hw2, hw3, hw4, hm1, hm3, hm4, hq0, hq1, hq2, hi3, hi4, hle, hr])
      | ((first | refine TstB.go (fun hw_ ew_ => ?_) (fun hw_ ew_ => ?_)) <;> first | (exfalso; first | omega | with_reducible exact hw_ (by assumption) | with_reducible exact absurd hw_ (by assumption)) | simp [ew_, hcp1, hw1, hw2, hw3, hw4, hm1, hm3, hm4, hq0, hq1, hq2, hi3, hi4, hle, hr])
      | fail)
    exact ⟨_, Wk.trans (Wk.prefix 0 0 ((l.length + 1) * 5) rfl rfl) (Wk.bump 6 0 0 0 (l.length + 1) 5 (by simp) rfl), by simp [hq3]⟩
  · have hm5 : min ((l.length - i) * 5) ((l.length - i) * 5 + (cap * 5 - l.length * 5)) = (l.length - i) * 5 := by omega
    have hq1 : List.take ((l.length - i) * 5) (List.take ((l.length - i) * 5) ((l.drop i).flatMap NodeR.enc ++ A)) = (l.drop i).flatMap NodeR.enc := by
      rw [List.take_take, Nat.min_self, List.take_left' (by rw [hdl]; omega)]
    have hq4 : List.take ((l.length - i) * 5) ((l.drop i).flatMap NodeR.enc) = (l.drop i).flatMap NodeR.enc := List.take_of_length_le (by rw [hdl]; omega)
    have hone : ∀ y ∈ (l.drop i).flatMap NodeR.enc, isOne y = true := List.all_eq_true.1 (one_NodeR _)
    simp [Try.f68, roomS, hA]
    generalize hZ : (List.replicate (l.length + 1 - i) [AV.val (Value.int IntKind.i64 0), AV.val (Value.int IntKind.i64 0), AV.val (Value.int IntKind.i64 0), AV.val (Value.string ByteArray.empty), AV.sl true 0 []]).flatten = Z
    have hZl : Z.length = (l.length + 1 - i) * 5 := by rw [← hZ]; simp
    have hta' : ((l.flatMap NodeR.enc).take (i * 5)).length = i * 5 := by rw [List.length_take, hLl]; omega
    have hq2 : (putAt ((l.flatMap NodeR.enc).take (i * 5) ++ Z) (i * 5) x.enc).length = (l.length + 1) * 5 := by
      rw [putAt_length (by rw [List.length_append, hta', hZl, lenc_NodeR]; omega), List.length_append, hta', hZl]; omega
    have hq3 : putAt (putAt ((l.flatMap NodeR.enc).take (i * 5) ++ Z) (i * 5) x.enc) ((i + 1) * 5) ((l.drop i).flatMap NodeR.enc) = (insL l i x).flatMap NodeR.enc := by
      have := ins_grow (L := l.flatMap NodeR.enc) (A := A) (X := x.enc) (Z := Z) (a := i * 5) (k := 5) hLl (by omega) rfl (by rw [hZl]; omega)
      rw [ins_NodeR, hta, hq0, List.take_left' (by rw [hdl])] at this
      rw [show (i + 1) * 5 = i * 5 + 5 by omega]
      exact this
    try simp [hcp1, hw1, hw2, hw3, hw4, hm1, hm3, hq0, hq1, hq4, hta, hZ, hi3, hi4, hle, hr]
    repeat' (first
      | ((first | refine Tst.go (fun hw_ ew_ => ?_) (fun hw_ ew_ => ?_)) <;> first | (exfalso; first | omega | with_reducible exact hw_ (by assumption) | with_reducible exact absurd hw_ (by assumption)) | (have nw_ := Nw.nw hw_; simp [ew_, nw_, hcp1, hw1, hw2, hw3, hw4, hm1, hm3, hq0, hq1, hq4, hta, hZ, hi3, hi4, hle, hr]) | simp [ew_, hcp1, hw1, hw2, hw3, hw4, hm1, hm3, hq0, hq1, hq4, hta, hZ, hi3, hi4, hle, hr])
      | (refine optBif ⟨by rw [hq2]; omega, hone⟩ ?_; simp)
      | ((first | refine AW.draw (id := 11) Try.checked.mixed (fun _ => false) [] [] 9 (by kernel_rfl) ?_ | refine AW.draw (id := 15) Try.checked.mixed (fun _ => false) [] [] 9 (by kernel_rfl) ?_ | rw [if_pos (by first | omega | (simp only [maxLen]; omega))] | rw [if_neg (by first | omega | (simp only [maxLen]; omega))] | rw [frzOwn_neat (by simp) (by simp <;> omega)] | rw [fzOwn_neat (by simp) (by simp <;> omega)]); try simp [hcp1, hw1, hw2, hw3, hw4, hm1, hm3, hq0, hq1, hq4, hta, hZ, hi3, hi4, hle, hr])
      | ((first | refine TstB.go (fun hw_ ew_ => ?_) (fun hw_ ew_ => ?_)) <;> first | (exfalso; first | omega | with_reducible exact hw_ (by assumption) | with_reducible exact absurd hw_ (by assumption)) | simp [ew_, hcp1, hw1, hw2, hw3, hw4, hm1, hm3, hq0, hq1, hq4, hta, hZ, hi3, hi4, hle, hr])
      | fail)
    exact ⟨_, Wk.move 6 0 1 0 0 (l.length + 1) 5 (by decide) (by simp; omega) rfl rfl rfl, by simp [hq3]⟩

theorem indexfN_ok (l : List NodeR) (g : FuncId) (cap : List AV) (p : NodeR → Bool) (hcap : cap.all neat = true) (hp : ∀ x ∈ l, PCall Try.prog g (.agg x.enc :: cap) (B (p x))) (hl : l.length ≤ 1000000) : PCall Try.prog 80 [encL NodeR.enc l, .fn g cap] (I (idxS p l)) := by
  refine PCall.mk (fun _ => false) Try.func80 rfl rfl rfl (Ent.mk Try.func80 (by kernel_rfl) rfl) (by simp [hcap]) (by simp) fun hfit => ?_
  simp at hfit
  simp [Try.f80]
  refine AW.loopG (lit := fun _ => false) (fun i : Nat => ⟨19, pat [(0, encL NodeR.enc l), (1, .fn g cap), (7, I l.length), (8, I i)], []⟩) (fun i => l.length - i) (fun i => i ≤ l.length ∧ idxFrom p i (l.drop i) = idxS p l) 0 ?_ ?_ ?_
  · exact Wk.at _ rfl rfl (by simp)
  · simp [idxS]
  rintro i ⟨h1, h2⟩ A hA
  by_cases hi : i < l.length
  case neg =>
    rw [idxFrom_end hi] at h2
    try simp [hi, ← h2]
    repeat' (first
      | ((first | refine Tst.go (fun hw_ ew_ => ?_) (fun hw_ ew_ => ?_)) <;> first | (exfalso; first | omega | with_reducible exact hw_ (by assumption) | with_reducible exact absurd hw_ (by assumption)) | (have nw_ := Nw.nw hw_; simp [ew_, nw_, hi, ← h2]) | simp [ew_, hi, ← h2])
      | ((first | refine AW.draw (id := 11) Try.checked.mixed (fun _ => false) [] [] 9 (by kernel_rfl) ?_ | refine AW.draw (id := 15) Try.checked.mixed (fun _ => false) [] [] 9 (by kernel_rfl) ?_ | rw [if_pos (by first | omega | (simp only [maxLen]; omega))] | rw [if_neg (by first | omega | (simp only [maxLen]; omega))] | rw [frzOwn_neat (by simp) (by simp <;> omega)] | rw [fzOwn_neat (by simp) (by simp <;> omega)]); try simp [hi, ← h2])
      | ((first | refine TstB.go (fun hw_ ew_ => ?_) (fun hw_ ew_ => ?_)) <;> first | (exfalso; first | omega | with_reducible exact hw_ (by assumption) | with_reducible exact absurd hw_ (by assumption)) | simp [ew_, hi, ← h2])
      | fail)
  rw [idxFrom_at hi] at h2
  have hw := wrap_nat hi hfit.1.1
  have hpi := hp l[i] (List.getElem_mem hi)
  cases hpp : p l[i] with
  | true =>
    rw [hpp] at hpi
    simp only [hpp, if_true] at h2
    try simp [hi, ← h2, hpp]
    repeat' (first
      | ((first | refine Tst.go (fun hw_ ew_ => ?_) (fun hw_ ew_ => ?_)) <;> first | (exfalso; first | omega | with_reducible exact hw_ (by assumption) | with_reducible exact absurd hw_ (by assumption)) | (have nw_ := Nw.nw hw_; simp [ew_, nw_, hi, ← h2, hpp]) | simp [ew_, hi, ← h2, hpp])
      | ((first | (refine Pc.go (hpi) ?_ ?_; focus (first | rfl | (simp [hi, ← h2, hpp]; done))) | refine AW.draw (id := 11) Try.checked.mixed (fun _ => false) [] [] 9 (by kernel_rfl) ?_ | refine AW.draw (id := 15) Try.checked.mixed (fun _ => false) [] [] 9 (by kernel_rfl) ?_ | rw [if_pos (by first | omega | (simp only [maxLen]; omega))] | rw [if_neg (by first | omega | (simp only [maxLen]; omega))] | rw [frzOwn_neat (by simp) (by simp <;> omega)] | rw [fzOwn_neat (by simp) (by simp <;> omega)]); try simp [hi, ← h2, hpp])
      | ((first | refine TstB.go (fun hw_ ew_ => ?_) (fun hw_ ew_ => ?_)) <;> first | (exfalso; first | omega | with_reducible exact hw_ (by assumption) | with_reducible exact absurd hw_ (by assumption)) | simp [ew_, hi, ← h2, hpp])
      | fail)
  | false =>
    rw [hpp] at hpi
    simp only [hpp, Bool.false_eq_true, if_false] at h2
    try simp [hi, hw, hpp]
    repeat' (first
      | ((first | refine Tst.go (fun hw_ ew_ => ?_) (fun hw_ ew_ => ?_)) <;> first | (exfalso; first | omega | with_reducible exact hw_ (by assumption) | with_reducible exact absurd hw_ (by assumption)) | (have nw_ := Nw.nw hw_; simp [ew_, nw_, hi, hw, hpp]) | simp [ew_, hi, hw, hpp])
      | (exact hA (i + 1) _ (Wk.at _ rfl (by simp) (by simp)) ⟨by omega, h2⟩ (by omega))
      | ((first | (refine Pc.go (hpi) ?_ ?_; focus (first | rfl | (simp [hi, hw, hpp]; done))) | refine AW.draw (id := 11) Try.checked.mixed (fun _ => false) [] [] 9 (by kernel_rfl) ?_ | refine AW.draw (id := 15) Try.checked.mixed (fun _ => false) [] [] 9 (by kernel_rfl) ?_ | rw [if_pos (by first | omega | (simp only [maxLen]; omega))] | rw [if_neg (by first | omega | (simp only [maxLen]; omega))] | rw [frzOwn_neat (by simp) (by simp <;> omega)] | rw [fzOwn_neat (by simp) (by simp <;> omega)]); try simp [hi, hw, hpp])
      | ((first | refine TstB.go (fun hw_ ew_ => ?_) (fun hw_ ew_ => ?_)) <;> first | (exfalso; first | omega | with_reducible exact hw_ (by assumption) | with_reducible exact absurd hw_ (by assumption)) | simp [ew_, hi, hw, hpp])
      | fail)
theorem deletefN_ok (l : List NodeR) (g : FuncId) (cap cap' : List AV) (hc : AHeap) (p : NodeR → Bool) (hcap : cap'.all neat = true) (hcr : cap.all (refsLt (hc.length + 1)) = true) (hhc : hc.all (ABlk.refsLt (hc.length + 1)) = true) (hfr : ∀ (f : Nat) (b0 : ABlk) (tl : AHeap), frzs (b0 :: (hc ++ tl)) 0 (f + 3) cap = some cap')
    (hp : ∀ x ∈ l, PCall Try.prog g (.agg x.enc :: cap') (B (p x))) (hl : l.length ≤ 1000000) : XCall Try.prog 55 [.own 0 0 0 l.length 5, .fn g cap] (.cells 0 (l.flatMap NodeR.enc) :: hc) (.own 0 0 0 (l.filter fun x => !p x).length 5) (.cells 0 ((l.filter fun x => !p x).flatMap NodeR.enc) :: hc) := by
  refine XCall.mkG (fun s (_ : Unit) => s) (fun _ => false) Try.func55 rfl rfl rfl (Ent.mk Try.func55 (by kernel_rfl) rfl) (by simp; simpa using hcr) (by simp; simpa using hhc) (by simp) (by simp) (by simp; simpa using hhc) fun hfit => ?_
  refine ⟨WkE.one _ _, fun _ => ?_⟩
  have hix := indexfN_ok l g cap' p hcap hp hl
  have hfz : ∀ (v : AV) (b0 : ABlk) (tl : AHeap), neat v = true → (([v] ++ cap).mapM (frz (b0 :: (hc ++ tl)) 0 12)) = some (v :: cap') := fun v b0 tl hv => by
    have h2 : cap.mapM (frz (b0 :: (hc ++ tl)) 0 12) = some cap' := hfr 9 b0 tl
    rw [List.singleton_append, List.mapM_cons, frz_neat _ _ _ hv, h2]; rfl
  have hlend : ∀ {Q : AV → AHeap → Prop}, Q (I (idxS p l)) (.cells 0 (l.flatMap NodeR.enc) :: hc) → AInv Try.prog (.fn 80 []) [.own 0 0 0 l.length 5, .fn g cap] (.cells 0 (l.flatMap NodeR.enc) :: hc) Q := fun hq =>
    AInv.lend hix rfl (by
      have := hfr 8 (.cells 0 (l.flatMap NodeR.enc)) []
      rw [List.append_nil] at this
      rw [List.append_nil, List.mapM_cons, List.mapM_cons, List.mapM_nil, frz_own, List.getElem?_cons_zero, frzOwn_neat (by simp) (by simp), frz_fn, this]
      rfl) hq
  have hzs : ∀ x : NodeR, setMany [AV.val (Value.int IntKind.i64 0), AV.val (Value.int IntKind.i64 0), AV.val (Value.int IntKind.i64 0), AV.val (Value.string ByteArray.empty), AV.sl true 0 []] 0 x.enc = x.enc := fun _ => rfl
  by_cases h0 : idxS p l = -1
  · obtain ⟨e1, _⟩ := idxS_none h0
    simp [Try.f55]
    try simp [h0]
    repeat' (first
      | ((first | refine Tst.go (fun hw_ ew_ => ?_) (fun hw_ ew_ => ?_)) <;> first | (exfalso; first | omega | with_reducible exact hw_ (by assumption) | with_reducible exact absurd hw_ (by assumption)) | (have nw_ := Nw.nw hw_; simp [ew_, nw_, h0]) | simp [ew_, h0])
      | (refine hlend ?_; simp [h0])
      | ((first | refine AW.draw (id := 11) Try.checked.mixed (fun _ => false) [] [] 9 (by kernel_rfl) ?_ | refine AW.draw (id := 15) Try.checked.mixed (fun _ => false) [] [] 9 (by kernel_rfl) ?_ | rw [if_pos (by first | omega | (simp only [maxLen]; omega))] | rw [if_neg (by first | omega | (simp only [maxLen]; omega))] | rw [frzOwn_neat (by simp) (by simp <;> omega)] | rw [fzOwn_neat (by simp) (by simp <;> omega)]); try simp [h0])
      | ((first | refine TstB.go (fun hw_ ew_ => ?_) (fun hw_ ew_ => ?_)) <;> first | (exfalso; first | omega | with_reducible exact hw_ (by assumption) | with_reducible exact absurd hw_ (by assumption)) | simp [ew_, h0])
      | fail)
    exact ⟨_, Wk.refl _ _, by simp [e1]⟩
  obtain ⟨j0, hj0, e1, e2, e3⟩ := idxS_some h0
  have hw0 : IntKind.i64.wrap ((j0 : Int) + 1) = (j0 : Int) + 1 := wrap_id (by omega) (by omega)
  have hn0 : ¬ ((j0 : Int) = -1) := by omega
  simp [Try.f55]
  try simp [e1, hw0, hn0]
  repeat' (first
    | ((first | refine Tst.go (fun hw_ ew_ => ?_) (fun hw_ ew_ => ?_)) <;> first | (exfalso; first | omega | with_reducible exact hw_ (by assumption) | with_reducible exact absurd hw_ (by assumption)) | (have nw_ := Nw.nw hw_; simp [ew_, nw_, e1, hw0, hn0]) | simp [ew_, e1, hw0, hn0])
    | (refine hlend ?_; simp [e1, hw0, hn0])
    | ((first | refine AW.draw (id := 11) Try.checked.mixed (fun _ => false) [] [] 9 (by kernel_rfl) ?_ | refine AW.draw (id := 15) Try.checked.mixed (fun _ => false) [] [] 9 (by kernel_rfl) ?_ | rw [if_pos (by first | omega | (simp only [maxLen]; omega))] | rw [if_neg (by first | omega | (simp only [maxLen]; omega))] | rw [frzOwn_neat (by simp) (by simp <;> omega)] | rw [fzOwn_neat (by simp) (by simp <;> omega)]); try simp [e1, hw0, hn0])
    | ((first | refine TstB.go (fun hw_ ew_ => ?_) (fun hw_ ew_ => ?_)) <;> first | (exfalso; first | omega | with_reducible exact hw_ (by assumption) | with_reducible exact absurd hw_ (by assumption)) | simp [ew_, e1, hw0, hn0])
    | fail)
  refine AW.loopG (lit := fun _ => false) (fun x : Nat × Nat × List NodeR => ⟨42, pat [(0, .own 0 0 0 l.length 5), (1, .fn g cap), (5, I x.1), (6, I x.2.1)], .cells 0 (x.2.2.flatMap NodeR.enc) :: hc⟩) (fun x => l.length - x.2.1) (fun x => DelAt p l x.2.2 x.1 x.2.1) (j0, j0 + 1, l) ?_ ?_ ?_
  · exact Wk.at _ rfl rfl (by simp)
  · exact .start hj0 e2 e3
  rintro ⟨i, j, m⟩ hd A hA
  simp only at hd hA
  have hml := hd.len
  by_cases hj : j < l.length
  case neg =>
    obtain ⟨d1, d2, d3⟩ := hd.done hj
    try simp [hj, hml]
    repeat' (first
      | ((first | refine Tst.go (fun hw_ ew_ => ?_) (fun hw_ ew_ => ?_)) <;> first | (exfalso; first | omega | with_reducible exact hw_ (by assumption) | with_reducible exact absurd hw_ (by assumption)) | (have nw_ := Nw.nw hw_; simp [ew_, nw_, hj, hml]) | simp [ew_, hj, hml])
      | ((first | refine AW.draw (id := 11) Try.checked.mixed (fun _ => false) [] [] 9 (by kernel_rfl) ?_ | refine AW.draw (id := 15) Try.checked.mixed (fun _ => false) [] [] 9 (by kernel_rfl) ?_ | rw [if_pos (by first | omega | (simp only [maxLen]; omega))] | rw [if_neg (by first | omega | (simp only [maxLen]; omega))] | rw [frzOwn_neat (by simp) (by simp <;> omega)] | rw [fzOwn_neat (by simp) (by simp <;> omega)]); try simp [hj, hml])
      | ((first | refine TstB.go (fun hw_ ew_ => ?_) (fun hw_ ew_ => ?_)) <;> first | (exfalso; first | omega | with_reducible exact hw_ (by assumption) | with_reducible exact absurd hw_ (by assumption)) | simp [ew_, hj, hml])
      | fail)
    exact ⟨_, Wk.prefix 0 0 (i * 5) rfl rfl, by simp [d2], by
      have : (putAt (m.flatMap NodeR.enc) (i * 5) (zeros [AV.val (Value.int IntKind.i64 0), AV.val (Value.int IntKind.i64 0), AV.val (Value.int IntKind.i64 0), AV.val (Value.string ByteArray.empty), AV.sl true 0 []] (l.length - i))).take (i * 5) = (m.take i).flatMap NodeR.enc := by
        rw [← takes_NodeR]
        unfold putAt
        rw [List.append_assoc, List.take_left' (by simp; omega)]
      simp only [zeros] at this
      simp [this, d1]⟩
  have hmj := hd.get hj
  have hx := hp l[j] (List.getElem_mem hj)
  have hw : IntKind.i64.wrap ((j : Int) + 1) = ((j + 1 : Nat) : Int) := by rw [wrap_id (by omega) (by omega)]; omega
  have hi := hd.lt
  have hwi : IntKind.i64.wrap ((i : Int) + 1) = ((i + 1 : Nat) : Int) := by rw [wrap_id (by omega) (by omega)]; omega
  cases hpp : p l[j] with
  | true =>
    rw [hpp] at hx
    have hlx : ∀ (b0 : ABlk) (tl : AHeap) {Q : AV → AHeap → Prop}, Q (B true) (b0 :: (hc ++ tl)) → AInv Try.prog (.fn g cap) [.agg l[j].enc] (b0 :: (hc ++ tl)) Q := fun b0 tl Q hq => AInv.lend hx rfl (hfz _ b0 tl (by simp)) hq
    try simp [hj, hml, hzs, hw, hmj]
    repeat' (first
      | ((first | refine Tst.go (fun hw_ ew_ => ?_) (fun hw_ ew_ => ?_)) <;> first | (exfalso; first | omega | with_reducible exact hw_ (by assumption) | with_reducible exact absurd hw_ (by assumption)) | (have nw_ := Nw.nw hw_; simp [ew_, nw_, hj, hml, hzs, hw, hmj]) | simp [ew_, hj, hml, hzs, hw, hmj])
      | (refine hlx _ _ ?_; simp [hw])
      | (exact hA (i, j + 1, m) _ (Wk.cutAt _ rfl (by simp) (by simp) (by simp; simpa using hhc) (by simp; simpa using hcr)) (hd.skip hj hpp) (by simp only; omega))
      | ((first | refine AW.draw (id := 11) Try.checked.mixed (fun _ => false) [] [] 9 (by kernel_rfl) ?_ | refine AW.draw (id := 15) Try.checked.mixed (fun _ => false) [] [] 9 (by kernel_rfl) ?_ | rw [if_pos (by first | omega | (simp only [maxLen]; omega))] | rw [if_neg (by first | omega | (simp only [maxLen]; omega))] | rw [frzOwn_neat (by simp) (by simp <;> omega)] | rw [fzOwn_neat (by simp) (by simp <;> omega)]); try simp [hj, hml, hzs, hw, hmj])
      | ((first | refine TstB.go (fun hw_ ew_ => ?_) (fun hw_ ew_ => ?_)) <;> first | (exfalso; first | omega | with_reducible exact hw_ (by assumption) | with_reducible exact absurd hw_ (by assumption)) | simp [ew_, hj, hml, hzs, hw, hmj])
      | fail)
  | false =>
    rw [hpp] at hx
    have hlx : ∀ (b0 : ABlk) (tl : AHeap) {Q : AV → AHeap → Prop}, Q (B false) (b0 :: (hc ++ tl)) → AInv Try.prog (.fn g cap) [.agg l[j].enc] (b0 :: (hc ++ tl)) Q := fun b0 tl Q hq => AInv.lend hx rfl (hfz _ b0 tl (by simp)) hq
    have him : i < m.length := by omega
    have hil : i < l.length := by omega
    try simp [hj, hml, hzs, hw, hwi, hmj, him, hil]
    repeat' (first
      | ((first | refine Tst.go (fun hw_ ew_ => ?_) (fun hw_ ew_ => ?_)) <;> first | (exfalso; first | omega | with_reducible exact hw_ (by assumption) | with_reducible exact absurd hw_ (by assumption)) | (have nw_ := Nw.nw hw_; simp [ew_, nw_, hj, hml, hzs, hw, hwi, hmj, him, hil]) | simp [ew_, hj, hml, hzs, hw, hwi, hmj, him, hil])
      | (refine hlx _ _ ?_; simp [hw, hwi, hmj, him, hil])
      | (exact hA (i + 1, j + 1, m.set i l[j]) _ (Wk.cutAt _ rfl (by simp) (by simp) (by simp; simpa using hhc) (by simp; simpa using hcr)) (hd.keep hj hpp) (by simp only; omega))
      | ((first | refine AW.draw (id := 11) Try.checked.mixed (fun _ => false) [] [] 9 (by kernel_rfl) ?_ | refine AW.draw (id := 15) Try.checked.mixed (fun _ => false) [] [] 9 (by kernel_rfl) ?_ | rw [if_pos (by first | omega | (simp only [maxLen]; omega))] | rw [if_neg (by first | omega | (simp only [maxLen]; omega))] | rw [frzOwn_neat (by simp) (by simp <;> omega)] | rw [fzOwn_neat (by simp) (by simp <;> omega)]); try simp [hj, hml, hzs, hw, hwi, hmj, him, hil])
      | ((first | refine TstB.go (fun hw_ ew_ => ?_) (fun hw_ ew_ => ?_)) <;> first | (exfalso; first | omega | with_reducible exact hw_ (by assumption) | with_reducible exact absurd hw_ (by assumption)) | simp [ew_, hj, hml, hzs, hw, hwi, hmj, him, hil])
      | fail)

end Go.Proofs.Ytjelapkglkcoiaa
