import Derived.Test.YtdnfnddlciafmaaGreatXBo
set_option linter.unusedVariables false
set_option linter.unusedSimpArgs false
namespace Go.Cx
def cntF (f : FSR) (k : Int) : Nat := (allKids f.l).count k
theorem rises_nodup {l : List NodeR} (h : rises NodeR.ino l = true) : l.Nodup :=
  ((rises_pair NodeR.ino l).1 h).imp fun h e => by subst e; exact absurd h (Int.lt_irrefl _)
theorem cnt_split {f : FSR} (h : rises NodeR.ino f.l = true) (j k : Int) : cntF f k = ((findB f.l j).1.l.map (·.ino)).count k + (allKids (f.l.filter fun x => !decide (x.ino = j))).count k := by
  rcases findB_cases f.l j with ⟨o, ho, hk, e⟩ | e
  · have p : f.l.Perm (o :: f.l.filter fun x => !decide (x.ino = j)) :=
      (List.perm_ext_iff_of_nodup (rises_nodup h) (List.nodup_cons.2 ⟨by simp [hk], (rises_nodup h).filter _⟩)).2 fun x => by
        simp only [List.mem_cons, List.mem_filter, Bool.not_eq_true', decide_eq_false_iff_not]
        refine ⟨fun hx => ?_, fun hx => hx.elim (fun e => e ▸ ho) (·.1)⟩
        by_cases q : x.ino = j
        · exact .inl (rises_inj NodeR.ino h hx ho (by rw [q, hk]))
        · exact .inr ⟨hx, q⟩
    rw [e]
    unfold cntF allKids
    rw [(p.flatMap_right _).count_eq]
    simp only [List.flatMap_cons, List.count_append]
  · have hn : ∀ x ∈ f.l, x.ino ≠ j := fun x hx q => by
      have := findB_of h hx
      rw [q, e] at this; cases this
    have : (f.l.filter fun x => !decide (x.ino = j)) = f.l := List.filter_eq_self.2 fun x hx => by simpa using hn x hx
    rw [e, this]
    simp [cntF, NodeR.zero]
theorem put_cnt {f : FSR} (h : rises NodeR.ino f.l = true) (n : NodeR) (k : Int) : cntF (putB f n) k + ((findB f.l n.ino).1.l.map (·.ino)).count k = cntF f k + (n.l.map (·.ino)).count k := by
  obtain ⟨h1, h2, _⟩ := put_spec h n
  have e1 := cnt_split h n.ino k
  have e2 := cnt_split h1 n.ino k
  have p : ((putB f n).l.filter fun x => !decide (x.ino = n.ino)).Perm (f.l.filter fun x => !decide (x.ino = n.ino)) :=
    (List.perm_ext_iff_of_nodup ((rises_nodup h1).filter _) ((rises_nodup h).filter _)).2 fun x => by
      simp only [List.mem_filter, Bool.not_eq_true', decide_eq_false_iff_not, h2]
      exact ⟨fun ⟨a, b⟩ => ⟨a.elim (fun e => absurd (by rw [e]) b) (·.1), b⟩, fun ⟨a, b⟩ => ⟨.inr ⟨a, b⟩, b⟩⟩
  rw [find_put h, if_pos rfl] at e2
  simp only at e2
  have e3 : (allKids ((putB f n).l.filter fun x => !decide (x.ino = n.ino))).count k = (allKids (f.l.filter fun x => !decide (x.ino = n.ino))).count k := (p.flatMap_right _).count_eq k
  omega
theorem put_cnt' {f : FSR} (h : rises NodeR.ino f.l = true) {n : NodeR} {d : Int} (hi : n.ino = d) (k : Int) : cntF (putB f n) k + ((findB f.l d).1.l.map (·.ino)).count k = cntF f k + (n.l.map (·.ino)).count k := by
  subst hi; exact put_cnt h n k
theorem out_cnt {f : FSR} (h : rises NodeR.ino f.l = true) (j k : Int) : cntF (outF f j) k + ((findB f.l j).1.l.map (·.ino)).count k = cntF f k := by
  have e1 := cnt_split h j k
  have : cntF (outF f j) k = (allKids (f.l.filter fun x => !decide (x.ino = j))).count k := rfl
  omega
theorem put_kids {f : FSR} (h : rises NodeR.ino f.l = true) (n : NodeR) (i : Int) : kidsF (putB f n).l i = if i = n.ino then n.l.map (·.ino) else kidsF f.l i := by
  unfold kidsF
  rw [find_put h]
  split <;> rfl
theorem insE_count (l : List EntryR) (s : ByteArray) (ino k : Int) : ((insE l s ino).map (·.ino)).count k = (l.map (·.ino)).count k + if k = ino then 1 else 0 := by
  have e : l.takeWhile (fun x => strLt x.name s) ++ l.dropWhile (fun x => strLt x.name s) = l := List.takeWhile_append_dropWhile
  have e2 : (l.map (·.ino)).count k = ((l.takeWhile (fun x => strLt x.name s)).map (·.ino)).count k + ((l.dropWhile (fun x => strLt x.name s)).map (·.ino)).count k := by
    rw [← List.count_append, ← List.map_append, e]
  unfold insE
  rw [e2, List.map_append, List.count_append, List.map_cons, List.count_cons]
  by_cases q : k = ino
  · subst q; simp; omega
  · have : ¬ ino = k := fun e => q e.symm
    simp [q, this]
theorem outE_none {l : List EntryR} {s : ByteArray} (h : ∀ x ∈ l, x.name ≠ s) : outE l s = l := List.filter_eq_self.2 fun x hx => by simpa using h x hx
theorem outE_count {s : ByteArray} {e : Int} : ∀ {l : List EntryR}, risesE l = true → findE l s = (e, true) → ∀ k, ((outE l s).map (·.ino)).count k + (if k = e then 1 else 0) = (l.map (·.ino)).count k
  | [], _, h, k => by simp [findE] at h
  | a :: l, hr, h, k => by
    have hp := (risesE_pair _).1 hr
    rw [findE_cons] at h
    by_cases q : a.name = s
    · rw [if_pos q] at h
      injection h with h _
      subst h
      have e1 : outE (a :: l) s = l := by
        have : outE (a :: l) s = outE l s := by simp [outE, q]
        rw [this]
        exact outE_none fun x hx => by
          have := List.rel_of_pairwise_cons hp hx
          rw [q] at this
          exact (strLt_ne this).symm
      rw [e1, List.map_cons, List.count_cons]
      by_cases q2 : k = a.ino
      · subst q2; simp
      · have : ¬ a.ino = k := fun e => q2 e.symm
        simp [q2, this]
    · rw [if_neg q] at h
      have ih := outE_count ((risesE_pair _).2 hp.of_cons) h k
      have e1 : outE (a :: l) s = a :: outE l s := by simp [outE, q]
      rw [e1, List.map_cons, List.count_cons, List.map_cons, List.count_cons]
      omega
theorem enterE_ok {l : List EntryR} {s : ByteArray} {ino : Int} (h1 : checkS s = 0) (h2 : 1 ≤ ino) (h3 : (findE l s).2 = false) (h4 : l.length < 256) : (enterE l s ino).1 = insE l s ino := by
  unfold enterE
  rw [if_neg (by simpa using h1), if_neg (by omega), if_neg (by rw [h3]; simp), if_neg (by omega)]
theorem leaveE_ok {l : List EntryR} {s : ByteArray} {e : Int} (h : findE l s = (e, true)) : (leaveE l s).1 = outE l s := by
  unfold leaveE
  rw [if_pos (by rw [h])]
theorem entered_cnt {f : FSR} (R : RowsF f) {dir : Int} (hd : (findB f.l dir).2 = true) {s : ByteArray} {ino : Int} (h1 : checkS s = 0) (h2 : 1 ≤ ino) (h3 : (findE (findB f.l dir).1.l s).2 = false) (h4 : (findB f.l dir).1.l.length < 256) (k : Int) :
    cntF (enteredD f dir s ino) k = cntF f k + if k = ino then 1 else 0 := by
  have h5 := (R.find_ok hd).2
  have e : cntF (enteredD f dir s ino) k + ((findB f.l dir).1.l.map (·.ino)).count k = cntF f k + ((enterE (findB f.l dir).1.l s ino).1.map (·.ino)).count k := put_cnt' R.rise (n := { (findB f.l dir).1 with l := (enterE (findB f.l dir).1.l s ino).1 }) h5 k
  rw [enterE_ok h1 h2 h3 h4, insE_count] at e
  omega
theorem entered_kids {f : FSR} (R : RowsF f) {dir : Int} (hd : (findB f.l dir).2 = true) {s : ByteArray} {ino : Int} (h1 : checkS s = 0) (h2 : 1 ≤ ino) (h3 : (findE (findB f.l dir).1.l s).2 = false) (h4 : (findB f.l dir).1.l.length < 256) (i y : Int) :
    y ∈ kidsF (enteredD f dir s ino).l i ↔ y ∈ kidsF f.l i ∨ (i = dir ∧ y = ino) := by
  unfold kidsF
  rw [find_entered R hd, enterE_ok h1 h2 h3 h4]
  by_cases q : i = dir
  · subst q
    simp only [if_true, List.mem_map, insE_mem, true_and]
    constructor
    · rintro ⟨x, rfl | hx, rfl⟩
      · exact .inr rfl
      · exact .inl ⟨x, hx, rfl⟩
    · rintro (⟨x, hx, rfl⟩ | rfl)
      · exact ⟨x, .inr hx, rfl⟩
      · exact ⟨_, .inl rfl, rfl⟩
  · rw [if_neg q]; simp [q]
theorem left_cnt {f : FSR} (R : RowsF f) {dir : Int} (hd : (findB f.l dir).2 = true) {s : ByteArray} {e : Int} (h : findE (findB f.l dir).1.l s = (e, true)) (k : Int) :
    cntF (leftD f dir s) k + (if k = e then 1 else 0) = cntF f k := by
  have h5 := (R.find_ok hd).2
  have e1 : cntF (leftD f dir s) k + ((findB f.l dir).1.l.map (·.ino)).count k = cntF f k + ((leaveE (findB f.l dir).1.l s).1.map (·.ino)).count k := put_cnt' R.rise (n := { (findB f.l dir).1 with l := (leaveE (findB f.l dir).1.l s).1 }) h5 k
  rw [leaveE_ok h] at e1
  have e2 := outE_count (R.row dir).rise h k
  omega
theorem left_kids {f : FSR} (R : RowsF f) {dir : Int} (hd : (findB f.l dir).2 = true) {s : ByteArray} {e : Int} (h : findE (findB f.l dir).1.l s = (e, true)) (i y : Int) :
    (y ∈ kidsF (leftD f dir s).l i → y ∈ kidsF f.l i) ∧ (y ∈ kidsF f.l i → y ≠ e → y ∈ kidsF (leftD f dir s).l i) := by
  unfold kidsF
  rw [find_left R hd, leaveE_ok h]
  by_cases q : i = dir
  · subst q
    simp only [if_true, List.mem_map, outE, List.mem_filter]
    refine ⟨fun ⟨x, ⟨hx, _⟩, e1⟩ => ⟨x, hx, e1⟩, fun ⟨x, hx, e1⟩ hy => ⟨x, ⟨hx, ?_⟩, e1⟩⟩
    have : x.name ≠ s := fun e2 => hy (by
      have e3 := findE_some (R.row i).rise hx
      rw [e2, h] at e3
      injection e3 with e3 _
      rw [← e1, e3])
    simpa using this
  · rw [if_neg q]; exact ⟨id, fun h _ => h⟩
theorem less_cnt {f : FSR} (R : RowsF f) {ino : Int} (hd : (findB f.l ino).2 = true) (hl : (findB f.l ino).1.l = []) (k : Int) : cntF (lessD f ino) k = cntF f k := by
  unfold lessD
  split
  · have := out_cnt R.rise ino k
    rw [hl] at this
    simpa using this
  · have : cntF (putB f { (findB f.l ino).1 with links := (findB f.l ino).1.links - 1 }) k + ((findB f.l ino).1.l.map (·.ino)).count k = cntF f k + ((findB f.l ino).1.l.map (·.ino)).count k := put_cnt' R.rise (n := { (findB f.l ino).1 with links := (findB f.l ino).1.links - 1 }) (R.find_ok hd).2 k
    omega
theorem less_kids {f : FSR} (R : RowsF f) {ino : Int} (hd : (findB f.l ino).2 = true) (hl : (findB f.l ino).1.l = []) (i : Int) : kidsF (lessD f ino).l i = kidsF f.l i := by
  unfold kidsF
  rw [find_less R hd]
  by_cases q : i = ino
  · subst q
    rw [if_pos rfl]
    split
    · rw [hl]; rfl
    · rfl
  · rw [if_neg q]
structure TreeP (f : FSR) : Prop where
  root : (findB f.l 1).2 = true ∧ (findB f.l 1).1.kind = 2 ∧ (findB f.l 1).1.links = 0
  here : ∀ k, 0 < cntF f k → (findB f.l k).2 = true
  links : ∀ k, (findB f.l k).2 = true → (findB f.l k).1.links = cntF f k
  some : ∀ k, (findB f.l k).2 = true → k ≠ 1 → 1 ≤ (findB f.l k).1.links
  dir : ∀ k, (findB f.l k).2 = true → k ≠ 1 → (findB f.l k).1.kind = 2 → (findB f.l k).1.links = 1 ∧ Reach (kidsF f.l) 1 k
theorem RowsF.pos {f : FSR} (R : RowsF f) {k : Int} (h : (findB f.l k).2 = true) : 1 ≤ k := by
  obtain ⟨h1, h2⟩ := R.find_ok h
  have := ((nodeOk_iff _).1 h1).ino
  omega
theorem RightF.tree {f : FSR} (R : RowsF f) (T : RightF f) : TreeP f := by
  have hf : ∀ k, (findB f.l k).2 = true → (findB f.l k).1 ∈ f.l ∧ (findB f.l k).1.ino = k := fun k h => findB_true h
  obtain ⟨r, hr, r1, r2, r3⟩ := T.root
  have hr' := findB_of R.rise hr
  rw [r1] at hr'
  refine ⟨by rw [hr']; exact ⟨rfl, r2, r3⟩, fun k hk => ?_, fun k hk => ?_, fun k hk h1 => ?_, fun k hk h1 h2 => ?_⟩
  · obtain ⟨n, hn, e⟩ := T.here k (List.count_pos_iff.1 hk)
    rw [← e, findB_of R.rise hn]
  · obtain ⟨h1, h2⟩ := hf k hk
    have := T.names _ h1
    rw [h2] at this; exact this
  · obtain ⟨h2, h3⟩ := hf k hk
    have := R.pos hk
    exact T.file _ h2 (by omega)
  · obtain ⟨h3, h4⟩ := hf k hk
    have := R.pos hk
    have := T.dir _ h3 (by omega) h2
    rw [h4] at this; exact this
theorem TreeP.right {f : FSR} (R : RowsF f) (T : TreeP f) : RightF f := by
  have hf : ∀ n ∈ f.l, findB f.l n.ino = (n, true) := fun n hn => findB_of R.rise hn
  refine ⟨R.rise, R.ok, R.len, fun n hn => ((rowOk_iff _).1 ((nodeOk_iff n).1 (R.ok n hn)).row).len, ?_, fun k hk => ?_, fun n hn => ?_, fun n hn h1 => ?_, fun n hn h1 h2 => ?_⟩
  · exact ⟨_, (findB_true T.root.1).1, (findB_true T.root.1).2, T.root.2⟩
  · have := T.here k (List.count_pos_iff.2 hk)
    exact ⟨_, (findB_true this).1, (findB_true this).2⟩
  · have := T.links n.ino (by rw [hf n hn])
    rw [hf n hn] at this; exact this
  · have := T.some n.ino (by rw [hf n hn]) (by omega)
    rw [hf n hn] at this; exact this
  · have := T.dir n.ino (by rw [hf n hn]) (by omega) (by rw [hf n hn]; exact h2)
    rw [hf n hn] at this; exact this
theorem right_iff (f : FSR) : rightF f = true ↔ RowsF f ∧ RightF f := by
  constructor
  · intro h
    refine ⟨(rows_iff f).1 ?_, right_of h⟩
    simp only [rightF, Bool.and_eq_true] at h; exact h.1.1.1
  · rintro ⟨R, T⟩
    have hh : headF f.l = true := by
      obtain ⟨r, hr, r1, r2, r3⟩ := T.root
      cases hl : f.l with
      | nil => rw [hl] at hr; cases hr
      | cons a l =>
        have hp := R.rise
        rw [hl] at hp hr
        have hp := (rises_pair NodeR.ino _).1 hp
        have ha : a.ino = 1 := by
          have h1 := ((nodeOk_iff a).1 (R.ok a (by rw [hl]; simp))).ino
          rcases List.mem_cons.1 hr with e | hr
          · rw [← e]; exact r1
          · have := List.rel_of_pairwise_cons hp hr
            omega
        have e : r = a := rises_inj NodeR.ino (by rw [← hl]; exact R.rise) hr (by simp) (by rw [r1, ha])
        subst e
        simp [r1, r2, r3]
    refine (rightF_iff f R hh).2 fun i hi => ?_
    have hm := List.getElem_mem hi
    have hp := first_ino R hh hi
    refine ⟨T.names _ hm, ?_, fun x hx => ?_⟩
    · rintro ⟨b1, b2⟩
      have h1 := hp.1 b1
      have h2 := T.file _ hm h1
      rcases b2 with b2 | ⟨b2, b3⟩
      · omega
      · obtain ⟨h3, h4⟩ := T.dir _ hm h1 b2
        rcases b3 with b3 | b3
        · omega
        · exact b3 ((belowL_iff _ _ _).2 h4)
    · obtain ⟨n, hn, e⟩ := T.here x.ino (List.mem_flatMap.2 ⟨_, hm, List.mem_map.2 ⟨x, hx, rfl⟩⟩)
      rw [← e, findB_of R.rise hn]
theorem reach_keep {K K' : Int → List Int} {top : Int} {X : Int → Prop} (hk : ∀ i y, y ∈ K i → ¬ X y → y ∈ K' i) (hx : ∀ x, X x → (∃ y, y ∈ K x) → Reach K' top x) {q : Int} (h : Reach K top q) (hq : ¬ X q) : Reach K' top q := by
  induction h with
  | one h => exact .one (hk _ _ h hq)
  | @step j k h1 h2 ih =>
    by_cases hj : X j
    · exact .step (hx j hj ⟨_, h2⟩) (hk _ _ h2 hq)
    · exact .step (ih hj) (hk _ _ h2 hq)
theorem reach_away {K K' : Int → List Int} {top n : Int} (hk : ∀ i y, y ∈ K i → y ≠ n → y ∈ K' i) {q : Int} (h : Reach K top q) (hq : q ≠ n) (hn : ¬ Reach K n q) : Reach K' top q := by
  induction h with
  | one h => exact .one (hk _ _ h hq)
  | @step j k h1 h2 ih =>
    by_cases hj : j = n
    · subst hj; exact absurd (.one h2) hn
    · exact .step (ih hj fun g => hn (.step g h2)) (hk _ _ h2 hq)
theorem reach_sub {K K' : Int → List Int} {top : Int} (hk : ∀ i y, y ∈ K i → y ∈ K' i) {q : Int} (h : Reach K top q) : Reach K' top q := by
  induction h with
  | one h => exact .one (hk _ _ h)
  | step _ h2 ih => exact .step ih (hk _ _ h2)
theorem looked {f : FSR} (R : RowsF f) {d : Int} {s : ByteArray} (h : (lookD f d s).2 = 0) :
    (findB f.l d).2 = true ∧ (findB f.l d).1.kind = 2 ∧ checkS s = 0 ∧ findE (findB f.l d).1.l s = ((lookD f d s).1.ino, true) ∧ findB f.l (lookD f d s).1.ino = ((lookD f d s).1, true) := by
  obtain ⟨h1, h2, h3, h4, h5⟩ := lookD_ok h
  obtain ⟨d1, d2, d3⟩ := dirD_ok h1
  rw [d3] at h3 h4 h5
  have e : (lookD f d s).1.ino = (findE (findB f.l d).1.l s).1 := by rw [h5]; exact (findB_true h4).2
  refine ⟨d1, d2, h2, ?_, ?_⟩
  · rw [e]; exact Prod.ext rfl h3
  · rw [e, h5]; exact Prod.ext rfl h4
theorem kid_of {f : FSR} (R : RowsF f) {d : Int} {s : ByteArray} {e : Int} (h : findE (findB f.l d).1.l s = (e, true)) : e ∈ kidsF f.l d := by
  obtain ⟨x, hx, _, e2⟩ := (findE_iff (R.row d).rise s e).1 h
  exact List.mem_map.2 ⟨x, hx, e2⟩
theorem kid_found {f : FSR} (T : TreeP f) {i y : Int} (h : y ∈ kidsF f.l i) : (findB f.l y).2 = true :=
  T.here y (List.count_pos_iff.2 (kids_all f.l i y h))
theorem TreeP.up {f : FSR} (T : TreeP f) {d : Int} (h1 : (findB f.l d).2 = true) (h2 : (findB f.l d).1.kind = 2) : d = 1 ∨ Reach (kidsF f.l) 1 d := by
  by_cases q : d = 1
  · exact .inl q
  · exact .inr (T.dir d h1 q h2).2
theorem kid_ne {f : FSR} (R : RowsF f) (T : TreeP f) {d y : Int} (h1 : (findB f.l d).2 = true) (h2 : (findB f.l d).1.kind = 2) (h : y ∈ kidsF f.l d) : y ≠ d ∧ y ≠ 1 := by
  have F := T.right R
  have hy1 : y ≠ 1 := fun e => F.no_root (by rw [← e]; exact kids_all f.l d y h)
  refine ⟨fun e => ?_, hy1⟩
  subst e
  rcases T.up h1 h2 with e | e
  · exact hy1 e
  · exact F.acyclic e (.one h)
theorem leaf_of {f : FSR} (R : RowsF f) {k : Int} (h : (findB f.l k).2 = true) (hk : (findB f.l k).1.kind ≠ 2) : (findB f.l k).1.l = [] :=
  List.eq_nil_of_length_eq_zero (((nodeOk_iff _).1 (R.find_ok h).1).els hk)
theorem look_ne {f : FSR} (R : RowsF f) (T : TreeP f) {d : Int} {s : ByteArray} (h : (lookD f d s).2 = 0) : (lookD f d s).1.ino ≠ d := by
  obtain ⟨h1, h2, _, h4, _⟩ := looked R h
  exact (kid_ne R T h1 h2 (kid_of R h4)).1
theorem look_free {f : FSR} (R : RowsF f) (T : TreeP f) {d : Int} {s : ByteArray} (hd : (dirD f d).2 = 0) (hs : checkS s = 0) (h : (lookD f d s).2 ≠ 0) : (findE (findB f.l d).1.l s).2 = false := by
  obtain ⟨d1, d2, d3⟩ := dirD_ok hd
  cases hq : (findE (findB f.l d).1.l s).2 with
  | false => rfl
  | true =>
    exfalso; apply h
    have h1 := kid_found T (kid_of R (e := (findE (findB f.l d).1.l s).1) (Prod.ext rfl hq))
    unfold lookD
    rw [if_neg (by simpa using hd), if_neg (by simpa using hs), d3, if_neg (by rw [hq]; simp), if_neg (by rw [h1]; simp)]
theorem addD_put {f : FSR} {dir : Int} {s : ByteArray} {n : NodeR} (he : (addD f dir s n).2 = 0) : (addD f dir s n).1 = putB (enteredD f dir s f.next) (newN f n) := by
  rw [addD_eq] at he ⊢
  split at he
  case isFalse hq => exact absurd he hq
  case isTrue hq => rw [if_pos hq]
theorem new_none {f : FSR} (R : RowsF f) : findB f.l f.next = (.zero, false) := findB_none fun n hn e => by have := R.lt n hn; omega
theorem add_tree {f : FSR} {dir : Int} {s : ByteArray} {n : NodeR} (R : RowsF f) (T : TreeP f) (he : (addD f dir s n).2 = 0) : TreeP (addD f dir s n).1 := by
  have A := added R he
  have hp := addD_put he
  obtain ⟨d1, d2⟩ := A.isdir
  have hnx := R.next
  have h0 := new_none R
  have hne : dir ≠ f.next := fun e => by rw [e, h0] at d1; cases d1
  have hs := entered_same R d1 d2 s f.next
  have hnl : (newN f n).l = [] := List.eq_nil_of_length_eq_zero A.ok.2
  have he0 : findB (enteredD f dir s f.next).l f.next = (.zero, false) := by rw [find_entered R d1, if_neg (fun e => hne e.symm), h0]
  have hc : ∀ k, cntF (addD f dir s n).1 k = cntF f k + if k = f.next then 1 else 0 := fun k => by
    have e1 := put_cnt hs.rows.rise (newN f n) k
    have e2 := entered_cnt R d1 A.name hnx A.free A.room k
    have e3 : (newN f n).ino = f.next := rfl
    rw [e3, he0, hnl] at e1
    rw [hp]
    simp only [NodeR.zero, List.map_nil, List.count_nil, Nat.add_zero] at e1
    omega
  have hk : ∀ i y, y ∈ kidsF f.l i ∨ (i = dir ∧ y = f.next) → y ∈ kidsF (addD f dir s n).1.l i := fun i y h => by
    rw [hp, put_kids hs.rows.rise]
    have e3 : (newN f n).ino = f.next := rfl
    rw [e3]
    have h' := (entered_kids R d1 A.name hnx A.free A.room i y).2 h
    split
    · rename_i q
      rw [q] at h'
      unfold kidsF at h'
      rw [he0] at h'
      simp [NodeR.zero] at h'
    · exact h'
  have hz : cntF f f.next = 0 := by
    rcases Nat.eq_zero_or_pos (cntF f f.next) with h | h
    · exact h
    · have := T.here _ h; rw [h0] at this; cases this
  have hr : ∀ q, Reach (kidsF f.l) 1 q → Reach (kidsF (addD f dir s n).1.l) 1 q := fun q h => reach_sub (fun i y h => hk i y (.inl h)) h
  generalize (addD f dir s n).1 = g at *
  have hb : ∀ q, q ≠ f.next → (findB g.l q).2 = (findB f.l q).2 ∧ (findB g.l q).1.kind = (findB f.l q).1.kind ∧ (findB g.l q).1.links = (findB f.l q).1.links := fun q hq => by
    rw [A.find, if_neg hq]
    split
    · rename_i e; rw [e]; exact ⟨d1.symm, rfl, rfl⟩
    · exact ⟨rfl, rfl, rfl⟩
  have hn : findB g.l f.next = (newN f n, true) := by rw [A.find, if_pos rfl]
  have h1n : (1 : Int) ≠ f.next := fun e => by have := T.root.1; rw [e, h0] at this; cases this
  refine ⟨?_, fun k hk' => ?_, fun k hk' => ?_, fun k hk' h1 => ?_, fun k hk' h1 h2 => ?_⟩
  · obtain ⟨a, b, c⟩ := hb 1 h1n
    rw [a, b, c]; exact T.root
  · by_cases q : k = f.next
    · rw [q, hn]
    · rw [(hb k q).1]
      refine T.here k ?_
      have := hc k
      rw [if_neg q] at this; omega
  · by_cases q : k = f.next
    · have := hc k
      rw [if_pos q, q, hz] at this
      rw [q, hn, this]; rfl
    · obtain ⟨a, b, c⟩ := hb k q
      have := hc k
      rw [if_neg q] at this
      rw [a] at hk'
      rw [c, this]; exact T.links k hk'
  · by_cases q : k = f.next
    · rw [q, hn]; show (1 : Int) ≤ 1; decide
    · obtain ⟨a, b, c⟩ := hb k q
      rw [a] at hk'
      rw [c]; exact T.some k hk' h1
  · by_cases q : k = f.next
    · refine ⟨by rw [q, hn]; rfl, ?_⟩
      have hkid := hk dir f.next (.inr ⟨rfl, rfl⟩)
      rw [q]
      rcases T.up d1 d2 with e | e
      · rw [e] at hkid; exact .one hkid
      · exact .step (hr _ e) hkid
    · obtain ⟨a, b, c⟩ := hb k q
      rw [a] at hk'
      rw [b] at h2
      rw [c]
      obtain ⟨e1, e2⟩ := T.dir k hk' h1 h2
      exact ⟨e1, hr _ e2⟩
theorem dir_ne {f : FSR} {d i : Int} (h1 : (findB f.l d).1.kind = 2) (h2 : (findB f.l i).1.kind ≠ 2) : i ≠ d := fun e => h2 (by rw [e]; exact h1)
theorem give_tree {f : FSR} {dir : Int} {s : ByteArray} {ino : Int} (R : RowsF f) (T : TreeP f) (he : giveE f dir s ino = 0) : RowsF (giveD f dir s ino).1 ∧ (giveD f dir s ino).1.next = f.next ∧ TreeP (giveD f dir s ino).1 := by
  obtain ⟨g1, g2, g3, g4, g5, g6, g7⟩ := give_ok he
  obtain ⟨d1, d2, d3⟩ := dirD_ok g1
  rw [d3] at g5 g6
  have hpos := R.pos g2
  have hne := dir_ne d2 g3
  rw [giveD_eq, if_pos he]
  have hs := entered_same R d1 d2 s ino
  have hfi : findB (enteredD f dir s ino).l ino = findB f.l ino := by rw [find_entered R d1, if_neg hne]
  have hino := (R.find_ok g2).2
  obtain ⟨a1, a2, a3⟩ := hs.rows.again (n := { (findB f.l ino).1 with links := (findB f.l ino).1.links + 1 }) (nodeOk_links (R.find_ok g2).1 (by have := (R.links ino).1; omega) (by omega)) (by simp only [hino]; rw [hfi]; exact g2)
  refine ⟨a1, by rw [a2, hs.next], ?_⟩
  show TreeP (putB (enteredD f dir s ino) { (findB f.l ino).1 with links := (findB f.l ino).1.links + 1 })
  have hc : ∀ k, cntF (putB (enteredD f dir s ino) { (findB f.l ino).1 with links := (findB f.l ino).1.links + 1 }) k = cntF f k + if k = ino then 1 else 0 := fun k => by
    have e1 : cntF (putB (enteredD f dir s ino) { (findB f.l ino).1 with links := (findB f.l ino).1.links + 1 }) k + ((findB (enteredD f dir s ino).l ino).1.l.map (·.ino)).count k = cntF (enteredD f dir s ino) k + ((findB f.l ino).1.l.map (·.ino)).count k := put_cnt' hs.rows.rise (n := { (findB f.l ino).1 with links := (findB f.l ino).1.links + 1 }) hino k
    have e2 := entered_cnt R d1 g4 hpos g5 g6 k
    rw [hfi] at e1
    omega
  have hk : ∀ i y, y ∈ kidsF f.l i → y ∈ kidsF (putB (enteredD f dir s ino) { (findB f.l ino).1 with links := (findB f.l ino).1.links + 1 }).l i := fun i y h => by
    rw [put_kids hs.rows.rise]
    have h' := (entered_kids R d1 g4 hpos g5 g6 i y).2 (.inl h)
    simp only [hino]
    split
    · rename_i q
      rw [q] at h
      exact h
    · exact h'
  have hb : ∀ q, findB (putB (enteredD f dir s ino) { (findB f.l ino).1 with links := (findB f.l ino).1.links + 1 }).l q = if q = ino then ({ (findB f.l ino).1 with links := (findB f.l ino).1.links + 1 }, true) else if q = dir then ({ (findB f.l dir).1 with l := (enterE (findB f.l dir).1.l s ino).1 }, true) else findB f.l q := fun q => by
    rw [find_put hs.rows.rise]
    simp only [hino]
    split
    · rfl
    · rw [find_entered R d1]
  have hr : ∀ q, Reach (kidsF f.l) 1 q → Reach (kidsF (putB (enteredD f dir s ino) { (findB f.l ino).1 with links := (findB f.l ino).1.links + 1 }).l) 1 q := fun q h => reach_sub hk h
  generalize putB (enteredD f dir s ino) { (findB f.l ino).1 with links := (findB f.l ino).1.links + 1 } = g at *
  have hb' : ∀ q, q ≠ ino → (findB g.l q).2 = (findB f.l q).2 ∧ (findB g.l q).1.kind = (findB f.l q).1.kind ∧ (findB g.l q).1.links = (findB f.l q).1.links := fun q hq => by
    rw [hb, if_neg hq]
    split
    · rename_i e; rw [e]; exact ⟨d1.symm, rfl, rfl⟩
    · exact ⟨rfl, rfl, rfl⟩
  have h1n : (1 : Int) ≠ ino := fun e => g3 (by rw [← e]; exact T.root.2.1)
  have hn : findB g.l ino = ({ (findB f.l ino).1 with links := (findB f.l ino).1.links + 1 }, true) := by rw [hb, if_pos rfl]
  refine ⟨?_, fun k hk' => ?_, fun k hk' => ?_, fun k hk' h1 => ?_, fun k hk' h1 h2 => ?_⟩
  · obtain ⟨a, b, c⟩ := hb' 1 h1n
    rw [a, b, c]; exact T.root
  · by_cases q : k = ino
    · rw [q, hn]
    · rw [(hb' k q).1]
      refine T.here k ?_
      have := hc k
      rw [if_neg q] at this; omega
  · have := hc k
    by_cases q : k = ino
    · rw [if_pos q] at this
      rw [q] at this ⊢
      have h3 := T.links ino g2
      have h4 : (findB g.l ino).1.links = (findB f.l ino).1.links + 1 := by rw [hn]
      show (findB g.l ino).1.links = _
      rw [h4]
      have h5 : cntF g ino = cntF f ino + 1 := this
      rw [h5, h3]; omega
    · obtain ⟨a, b, c⟩ := hb' k q
      rw [if_neg q] at this
      rw [a] at hk'
      rw [c, this]; exact T.links k hk'
  · by_cases q : k = ino
    · rw [q, hn]
      have := (R.links ino).1
      simp only; omega
    · obtain ⟨a, b, c⟩ := hb' k q
      rw [a] at hk'
      rw [c]; exact T.some k hk' h1
  · by_cases q : k = ino
    · rw [q, hn] at h2
      exact absurd h2 g3
    · obtain ⟨a, b, c⟩ := hb' k q
      rw [a] at hk'
      rw [b] at h2
      rw [c]
      obtain ⟨e1, e2⟩ := T.dir k hk' h1 h2
      exact ⟨e1, hr _ e2⟩
structure Taken (f : FSR) (dir : Int) (s : ByteArray) (n : NodeR) (g : FSR) : Prop where
  rows : RowsF g
  next : g.next = f.next
  find : ∀ q, findB g.l q = if q = n.ino then (if n.links ≤ 1 then (.zero, false) else ({ n with links := n.links - 1 }, true)) else if q = dir then ({ (findB f.l dir).1 with l := outE (findB f.l dir).1.l s }, true) else findB f.l q
  kids : ∀ i y, (y ∈ kidsF g.l i → y ∈ kidsF f.l i) ∧ (y ∈ kidsF f.l i → y ≠ n.ino → y ∈ kidsF g.l i)
  cnt : ∀ k, cntF g k + (if k = n.ino then 1 else 0) = cntF f k
theorem taken_all {f : FSR} (R : RowsF f) (T : TreeP f) {dir : Int} {s : ByteArray} (h : (lookD f dir s).2 = 0) (hl : (lookD f dir s).1.l = []) : Taken f dir s (lookD f dir s).1 (withoutD f dir s (lookD f dir s).1.ino) := by
  have hne := look_ne R T h
  have hsm := look_same R h
  obtain ⟨h1, h2, h3, h4, h5⟩ := looked R h
  generalize lookD f dir s = L at *
  obtain ⟨n, e⟩ := L
  simp only at *
  have hs := left_same R h1 s
  have hfi : findB (leftD f dir s).l n.ino = (n, true) := by rw [find_left R h1, if_neg hne, h5]
  have hd2 : (findB (leftD f dir s).l n.ino).2 = true := by rw [hfi]
  have hl2 : (findB (leftD f dir s).l n.ino).1.l = [] := by rw [hfi]; exact hl
  refine ⟨hsm.rows, hsm.next, fun q => ?_, fun i y => ?_, fun k => ?_⟩
  · unfold withoutD
    rw [find_less hs.rows hd2, hfi, find_left R h1, leaveE_ok h4]
  · unfold withoutD
    rw [less_kids hs.rows hd2 hl2]
    exact left_kids R h1 h4 i y
  · unfold withoutD
    rw [less_cnt hs.rows hd2 hl2]
    exact left_cnt R h1 h4 k
theorem take_tree {f : FSR} (R : RowsF f) (T : TreeP f) {dir : Int} {s : ByteArray} {n : NodeR} {g : FSR} (h1 : (findB f.l dir).2 = true) (h2 : (findB f.l dir).1.kind = 2) (h4 : findE (findB f.l dir).1.l s = (n.ino, true)) (h5 : findB f.l n.ino = (n, true)) (hl : n.l = []) (A : Taken f dir s n g) : TreeP g := by
  have hkid := kid_of R h4
  obtain ⟨hne, hn1⟩ := kid_ne R T h1 h2 hkid
  have hlk : n.links = cntF f n.ino := by have := T.links n.ino (by rw [h5]); rw [h5] at this; exact this
  have hb : ∀ q, q ≠ n.ino → (findB g.l q).2 = (findB f.l q).2 ∧ (findB g.l q).1.kind = (findB f.l q).1.kind ∧ (findB g.l q).1.links = (findB f.l q).1.links := fun q hq => by
    rw [A.find, if_neg hq]
    split
    · rename_i e; rw [e]; exact ⟨h1.symm, rfl, rfl⟩
    · exact ⟨rfl, rfl, rfl⟩
  refine ⟨?_, fun k hk' => ?_, fun k hk' => ?_, fun k hk' q1 => ?_, fun k hk' q1 q2 => ?_⟩
  · obtain ⟨a, b, c⟩ := hb 1 (fun e => hn1 e.symm)
    rw [a, b, c]; exact T.root
  · have hc := A.cnt k
    by_cases q : k = n.ino
    · rw [if_pos q, q] at hc
      rw [q] at hk'
      rw [q, A.find, if_pos rfl, if_neg (by omega)]
    · rw [if_neg q] at hc
      rw [(hb k q).1]
      exact T.here k (by omega)
  · have hc := A.cnt k
    by_cases q : k = n.ino
    · rw [if_pos q, q] at hc
      rw [q] at hk' ⊢
      rw [A.find, if_pos rfl] at hk' ⊢
      split at hk'
      · cases hk'
      · rename_i q3
        rw [if_neg q3]
        simp only; omega
    · rw [if_neg q] at hc
      obtain ⟨a, b, c⟩ := hb k q
      rw [a] at hk'
      rw [c, show cntF g k = cntF f k by omega]; exact T.links k hk'
  · by_cases q : k = n.ino
    · rw [q] at hk' ⊢
      rw [A.find, if_pos rfl] at hk' ⊢
      split at hk'
      · cases hk'
      · rename_i q3
        rw [if_neg q3]
        simp only; omega
    · obtain ⟨a, b, c⟩ := hb k q
      rw [a] at hk'
      rw [c]; exact T.some k hk' q1
  · by_cases q : k = n.ino
    · exfalso
      rw [q] at hk' q2
      rw [A.find, if_pos rfl] at hk' q2
      split at hk'
      · cases hk'
      · rename_i q3
        rw [if_neg q3] at q2
        have := (T.dir n.ino (by rw [h5]) hn1 (by rw [h5]; exact q2)).1
        rw [h5] at this
        simp only at this
        omega
    · obtain ⟨a, b, c⟩ := hb k q
      rw [a] at hk'
      rw [b] at q2
      rw [c]
      obtain ⟨e1, e2⟩ := T.dir k hk' q1 q2
      refine ⟨e1, reach_keep (X := fun x => x = n.ino) (fun i y hy hx => (A.kids i y).2 hy hx) (fun x hx hy => ?_) e2 q⟩
      obtain ⟨y, hy⟩ := hy
      rw [hx] at hy
      unfold kidsF at hy
      rw [h5, hl] at hy
      cases hy
theorem move_free {f : FSR} (R : RowsF f) (T : TreeP f) {dir to : Int} {s t : ByteArray} {n : NodeR} (h1 : (findB f.l dir).2 = true) (h2 : (findB f.l dir).1.kind = 2) (h4 : findE (findB f.l dir).1.l s = (n.ino, true)) (h5 : findB f.l n.ino = (n, true))
    (t1 : (findB f.l to).2 = true) (t2 : (findB f.l to).1.kind = 2) (t3 : checkS t = 0) (t4 : (findE (findB f.l to).1.l t).2 = false) (hw : n.kind = 2 → to ≠ n.ino ∧ ¬ Reach (kidsF f.l) n.ino to) (hroom : dir ≠ to → (findB f.l to).1.l.length < 256) :
    RowsF (enteredD (leftD f dir s) to t n.ino) ∧ (enteredD (leftD f dir s) to t n.ino).next = f.next ∧ TreeP (enteredD (leftD f dir s) to t n.ino) := by
  have hkid := kid_of R h4
  obtain ⟨hne, hn1⟩ := kid_ne R T h1 h2 hkid
  have hs := left_same R h1 s
  have hto : (findB (leftD f dir s).l to).2 = true ∧ (findB (leftD f dir s).l to).1.kind = 2 := by
    rw [find_left R h1]
    split
    · exact ⟨rfl, h2⟩
    · exact ⟨t1, t2⟩
  have hrow := R.row dir
  have hfree : (findE (findB (leftD f dir s).l to).1.l t).2 = false := by
    rw [find_left R h1, leaveE_ok h4]
    split
    · rename_i e
      rw [e] at t4
      exact findE_false.2 fun x hx => findE_false.1 t4 x (List.mem_filter.1 hx).1
    · exact t4
  have hlen : (findB (leftD f dir s).l to).1.l.length < 256 := by
    rw [find_left R h1, leaveE_ok h4]
    split
    · rename_i e
      obtain ⟨x, hx, e1, e2⟩ := (findE_iff hrow.rise s n.ino).1 h4
      have h6 : (outE (findB f.l dir).1.l s).length < (findB f.l dir).1.l.length := List.length_filter_lt_length_iff_exists.2 ⟨x, hx, by simp [e1]⟩
      have := hrow.len
      simp only; omega
    · rename_i e
      exact hroom fun q => e q.symm
  have hpos : 1 ≤ n.ino := R.pos (k := n.ino) (by rw [h5])
  have hs2 := entered_same hs.rows hto.1 hto.2 t n.ino
  refine ⟨hs2.rows, hs2.next.trans hs.next, ?_⟩
  have hc : ∀ k, cntF (enteredD (leftD f dir s) to t n.ino) k = cntF f k := fun k => by
    have e1 := entered_cnt hs.rows hto.1 t3 hpos hfree hlen k
    have e2 := left_cnt R h1 h4 k
    omega
  have hk : ∀ i y, y ∈ kidsF f.l i → y ≠ n.ino → y ∈ kidsF (enteredD (leftD f dir s) to t n.ino).l i := fun i y h hy =>
    (entered_kids hs.rows hto.1 t3 hpos hfree hlen i y).2 (.inl ((left_kids R h1 h4 i y).2 h hy))
  have hk2 : n.ino ∈ kidsF (enteredD (leftD f dir s) to t n.ino).l to := (entered_kids hs.rows hto.1 t3 hpos hfree hlen to n.ino).2 (.inr ⟨rfl, rfl⟩)
  have hb : ∀ q, (findB (enteredD (leftD f dir s) to t n.ino).l q).2 = (findB f.l q).2 ∧ (findB (enteredD (leftD f dir s) to t n.ino).l q).1.kind = (findB f.l q).1.kind ∧ (findB (enteredD (leftD f dir s) to t n.ino).l q).1.links = (findB f.l q).1.links := fun q => by
    have e0 : ∀ q, (findB (leftD f dir s).l q).2 = (findB f.l q).2 ∧ (findB (leftD f dir s).l q).1.kind = (findB f.l q).1.kind ∧ (findB (leftD f dir s).l q).1.links = (findB f.l q).1.links := fun q => by
      rw [find_left R h1]
      split
      · rename_i e; rw [e]; exact ⟨h1.symm, rfl, rfl⟩
      · exact ⟨rfl, rfl, rfl⟩
    rw [find_entered hs.rows hto.1]
    split
    · rename_i e; subst e; exact ⟨t1.symm, (e0 q).2.1, (e0 q).2.2⟩
    · exact e0 q
  generalize enteredD (leftD f dir s) to t n.ino = g at *
  have hrn : n.kind = 2 → Reach (kidsF g.l) 1 n.ino := fun q => by
    obtain ⟨w1, w2⟩ := hw q
    rcases T.up t1 t2 with e | e
    · rw [e] at hk2; exact .one hk2
    · exact .step (reach_away hk e w1 w2) hk2
  refine ⟨?_, fun k hk' => ?_, fun k hk' => ?_, fun k hk' q1 => ?_, fun k hk' q1 q2 => ?_⟩
  · obtain ⟨a, b, c⟩ := hb 1
    rw [a, b, c]; exact T.root
  · rw [(hb k).1]; rw [hc] at hk'; exact T.here k hk'
  · obtain ⟨a, b, c⟩ := hb k
    rw [a] at hk'
    rw [c, hc]; exact T.links k hk'
  · obtain ⟨a, b, c⟩ := hb k
    rw [a] at hk'
    rw [c]; exact T.some k hk' q1
  · obtain ⟨a, b, c⟩ := hb k
    rw [a] at hk'
    rw [b] at q2
    obtain ⟨e1, e2⟩ := T.dir k hk' q1 q2
    rw [c]
    refine ⟨e1, ?_⟩
    by_cases q : k = n.ino
    · rw [q] at q2 ⊢
      rw [h5] at q2
      exact hrn q2
    · refine reach_keep (X := fun x => x = n.ino) hk (fun x hx hy => ?_) e2 q
      rw [hx] at hy ⊢
      obtain ⟨y, hy⟩ := hy
      by_cases q3 : n.kind = 2
      · exact hrn q3
      · have := leaf_of R (k := n.ino) (by rw [h5]) (by rw [h5]; exact q3)
        unfold kidsF at hy
        rw [this] at hy
        cases hy
structure Kept (f g : FSR) : Prop where
  rows : RowsF g
  tree : TreeP g
  next : f.next ≤ g.next ∧ g.next ≤ f.next + 1
theorem Kept.refl {f : FSR} (R : RowsF f) (T : TreeP f) : Kept f f := ⟨R, T, Int.le_refl _, by omega⟩
theorem below_iff {f : FSR} (R : RowsF f) (to top : Int) : belowD f to top = true ↔ Reach (kidsF f.l) top to := by
  unfold belowD
  rw [decide_eq_true_eq]
  exact below_eq (fun n hn => ((rowOk_iff _).1 ((nodeOk_iff n).1 (R.ok n hn)).row).len) top to
theorem add_kept {f : FSR} (R : RowsF f) (T : TreeP f) (dir : Int) (s : ByteArray) (n : NodeR) (he : (addD f dir s n).2 = 0) : Kept f (addD f dir s n).1 := by
  have A := added R he
  exact ⟨A.rows, add_tree R T he, by rw [A.next]; omega, by rw [A.next]; omega⟩
theorem give_kept {f : FSR} (R : RowsF f) (T : TreeP f) (dir : Int) (s : ByteArray) (ino : Int) : Kept f (giveD f dir s ino).1 := by
  by_cases he : giveE f dir s ino = 0
  · obtain ⟨a, b, c⟩ := give_tree R T he
    exact ⟨a, c, by omega, by omega⟩
  · rw [giveD_eq, if_neg he]; exact .refl R T
theorem take_kept {f : FSR} (R : RowsF f) (T : TreeP f) (dir : Int) (s : ByteArray) : Kept f (takeD f dir s).1 := by
  unfold takeD
  split
  · exact .refl R T
  · rename_i q
    have q : (lookD f dir s).2 = 0 := by simpa using q
    split
    · exact .refl R T
    · rename_i q2
      have hl : (lookD f dir s).1.l = [] := List.eq_nil_of_length_eq_zero (by omega)
      have A := taken_all R T q hl
      obtain ⟨h1, h2, h3, h4, h5⟩ := looked R q
      exact ⟨A.rows, take_tree R T h1 h2 h4 h5 hl A, by rw [A.next]; omega, by rw [A.next]; omega⟩
theorem overD_ok {n old : NodeR} (h : overD n old = 0) : (n.kind = 2 → old.kind = 2) ∧ (n.kind ≠ 2 → old.kind ≠ 2) ∧ old.l = [] := by
  unfold overD at h
  split at h
  · simp at h
  · rename_i h1
    split at h
    · simp at h
    · rename_i h2
      split at h
      · simp at h
      · exact ⟨fun a => Decidable.byContradiction fun b => h1 ⟨a, b⟩, fun a b => h2 ⟨a, b⟩, List.eq_nil_of_length_eq_zero (by omega)⟩
theorem outE_find {l : List EntryR} (h : risesE l = true) {s t : ByteArray} (hst : s ≠ t) : findE (outE l t) s = findE l s :=
  findE_same (risesE_filter h _) h fun x hx => by
    simp only [outE, List.mem_filter, Bool.not_eq_true', decide_eq_false_iff_not]
    exact ⟨(·.1), fun q => ⟨q, by rw [hx]; exact hst⟩⟩
theorem move_kept {f : FSR} (R : RowsF f) (T : TreeP f) (dir : Int) (s : ByteArray) (to : Int) (t : ByteArray) : Kept f (moveD f dir s to t).1 := by
  unfold moveD
  split
  · exact .refl R T
  rename_i q1
  have q1 : (lookD f dir s).2 = 0 := by simpa using q1
  split
  · exact .refl R T
  rename_i q2
  have q2 : (dirD f to).2 = 0 := by simpa using q2
  split
  · exact .refl R T
  rename_i q3
  have q3 : checkS t = 0 := by simpa using q3
  split
  · exact .refl R T
  rename_i q4
  split
  · exact .refl R T
  rename_i q5
  split
  · exact .refl R T
  rename_i q6
  split
  · exact .refl R T
  rename_i q7
  simp only
  obtain ⟨h1, h2, h3, h4, h5⟩ := looked R q1
  obtain ⟨t1, t2, _⟩ := dirD_ok q2
  have hnn := look_ne R T q1
  generalize hL : lookD f dir s = L at *
  obtain ⟨n, en⟩ := L
  simp only at *
  subst q1
  rw [below_iff R] at q4
  have hw : n.kind = 2 → to ≠ n.ino ∧ ¬ Reach (kidsF f.l) n.ino to := fun k => ⟨fun e => q4 ⟨k, .inl e.symm⟩, fun e => q4 ⟨k, .inr e⟩⟩
  by_cases hold : (lookD f to t).2 = 0
  case neg =>
    have ec : clearD f to t = f := by unfold clearD; rw [if_neg hold]
    rw [ec] at q7 ⊢
    obtain ⟨a, b, c⟩ := move_free R T h1 h2 h4 h5 t1 t2 q3 (look_free R T q2 q3 hold) hw (fun e => by
      have : ¬ 256 ≤ (findB f.l to).1.l.length := fun g => q7 ⟨e, g⟩
      omega)
    exact ⟨a, c, by omega, by omega⟩
  have q6' : overD n (lookD f to t).1 = 0 := by
    rcases Decidable.em (overD n (lookD f to t).1 = 0) with h | h
    · exact h
    · exact absurd ⟨hold, h⟩ q6
  obtain ⟨o1, o2, o3⟩ := overD_ok q6'
  have ec : clearD f to t = withoutD f to t (lookD f to t).1.ino := by unfold clearD; rw [if_pos hold]
  rw [ec] at q7 ⊢
  have A := taken_all R T hold o3
  obtain ⟨u1, u2, u3, u4, u5⟩ := looked R hold
  have hne2 : (lookD f to t).1.ino ≠ n.ino := fun e => q5 ⟨hold, e⟩
  have hst : dir = to → s ≠ t := fun e1 e2 => by subst e1 e2; rw [hL] at hne2; exact hne2 rfl
  have hot := look_ne R T hold
  generalize hO : lookD f to t = O at *
  obtain ⟨old, eo⟩ := O
  simp only at *
  subst hold
  have TA := take_tree R T u1 u2 u4 u5 o3 A
  generalize withoutD f to t old.ino = g at *
  have hdo : dir ≠ old.ino := fun e => by
    rw [e, u5] at h4
    simp only [o3] at h4
    exact absurd (congrArg Prod.snd h4) (by simp [findE])
  have hnt : n.ino ≠ to := fun e => by
    by_cases k : n.kind = 2
    · exact (hw k).1 e.symm
    · rw [← e, h5] at t2; exact k t2
  have gt : findB g.l to = ({ (findB f.l to).1 with l := outE (findB f.l to).1.l t }, true) := by rw [A.find, if_neg (fun e => hot e.symm), if_pos rfl]
  have gn : findB g.l n.ino = (n, true) := by rw [A.find, if_neg (fun e => hne2 e.symm), if_neg hnt, h5]
  have gd : (findB g.l dir).2 = true ∧ (findB g.l dir).1.kind = 2 ∧ findE (findB g.l dir).1.l s = (n.ino, true) := by
    rw [A.find, if_neg hdo]
    split
    · rename_i e
      refine ⟨rfl, u2, ?_⟩
      simp only
      rw [outE_find (R.row to).rise (hst e), ← e]; exact h4
    · exact ⟨h1, h2, h4⟩
  obtain ⟨a, b, c⟩ := move_free A.rows TA gd.1 gd.2.1 gd.2.2 gn (to := to) (t := t) (by rw [gt]) (by rw [gt]; exact u2) q3 (by
      rw [gt]
      exact findE_false.2 fun x hx => by simpa [outE] using (List.mem_filter.1 hx).2) (fun k => ⟨(hw k).1, fun e => (hw k).2 (reach_sub (fun i y h => (A.kids i y).1 h) e)⟩) (fun e => by
      have : ¬ 256 ≤ (findB g.l to).1.l.length := fun g => q7 ⟨e, g⟩
      omega)
  have := A.next
  exact ⟨a, c, by omega, by omega⟩
theorem text_kept {f : FSR} (R : RowsF f) (P : TreeP f) {ino : Int} {turn : List UInt8 → List UInt8 × Int} (ht : ∀ s, s.length ≤ 4096 → (turn s).2 = 0 → (turn s).1.length ≤ 4096) : Kept f (textD f ino turn).1 := by
  unfold textD
  split
  · exact .refl R P
  rename_i q1
  have q1 : (ofD f ino 1).2 = 0 := by simpa using q1
  split
  · exact .refl R P
  rename_i q2
  have q2 : (turn (bs (ofD f ino 1).1.text)).2 = 0 := by simpa using q2
  simp only
  have hof : ∃ m, findB f.l ino = (m, true) ∧ m.kind = 1 ∧ (ofD f ino 1).1 = m := by
    unfold ofD at q1 ⊢
    split at q1
    · simp at q1
    · rename_i h1
      split at q1
      · simp at q1
      · rename_i h2
        rw [if_neg h1, if_neg h2]
        refine ⟨_, Prod.ext rfl (by simpa using h1), ?_, rfl⟩
        simp only [not_and, ne_eq, Decidable.not_not] at h2
        exact h2 (by decide)
  obtain ⟨m, hm, hk, e⟩ := hof
  rw [e] at q2 ⊢
  have hm2 := R.text ino
  rw [hm] at hm2
  have hx := ht (bs m.text) (show m.text.size ≤ 4096 from hm2) q2
  obtain ⟨hs, hb⟩ := text_same R hm (show m.kind ≠ 2 by omega) hx
  have hino : m.ino = ino := by have := (R.find_ok (d := ino) (by rw [hm])).2; rw [hm] at this; exact this
  have hc : ∀ k, cntF (putB f { m with text := T (turn (bs m.text)).1 }) k = cntF f k := fun k => by
    have : cntF (putB f { m with text := T (turn (bs m.text)).1 }) k + ((findB f.l ino).1.l.map (·.ino)).count k = cntF f k + (m.l.map (·.ino)).count k := put_cnt' R.rise (n := { m with text := T (turn (bs m.text)).1 }) hino k
    rw [hm] at this
    simp only at this
    omega
  have hk : ∀ i, kidsF (putB f { m with text := T (turn (bs m.text)).1 }).l i = kidsF f.l i := fun i => by
    unfold kidsF
    rw [hb]
    split
    · rename_i e; rw [e, hm]
    · rfl
  generalize putB f { m with text := T (turn (bs m.text)).1 } = g at *
  have hkk : kidsF g.l = kidsF f.l := funext hk
  have hb' : ∀ q, (findB g.l q).2 = (findB f.l q).2 ∧ (findB g.l q).1.kind = (findB f.l q).1.kind ∧ (findB g.l q).1.links = (findB f.l q).1.links := fun q => by
    rw [hb]
    split
    · rename_i e; rw [e, hm]; exact ⟨rfl, rfl, rfl⟩
    · exact ⟨rfl, rfl, rfl⟩
  have hnx := hs.next
  refine ⟨hs.rows, ⟨?_, fun k hk' => ?_, fun k hk' => ?_, fun k hk' q1 => ?_, fun k hk' q1 q2 => ?_⟩, by omega, by omega⟩
  · obtain ⟨a, b, c⟩ := hb' 1
    rw [a, b, c]; exact P.root
  · rw [(hb' k).1]; rw [hc] at hk'; exact P.here k hk'
  · obtain ⟨a, b, c⟩ := hb' k
    rw [a] at hk'
    rw [c, hc]; exact P.links k hk'
  · obtain ⟨a, b, c⟩ := hb' k
    rw [a] at hk'
    rw [c]; exact P.some k hk' q1
  · obtain ⟨a, b, c⟩ := hb' k
    rw [a] at hk'
    rw [b] at q2
    rw [c, hkk]; exact P.dir k hk' q1 q2
theorem doS_1 {f : FSR} {c : CallR} (h : c.kind = 1) : doS f c = (f, toldR ⟨0, (lookD f c.ino c.name).1.ino, 0, 0, .empty, []⟩ (lookD f c.ino c.name).2) := by
  unfold doS; rw [if_pos h]
theorem doS_2 {f : FSR} {c : CallR} (h : c.kind = 2) : doS f c = (f, toldR ⟨0, (ofD f c.ino 0).1.kind, (ofD f c.ino 0).1.links, sizeS (ofD f c.ino 0).1, .empty, []⟩ (ofD f c.ino 0).2) := by
  unfold doS; rw [if_neg (show ¬ c.kind = 1 by omega), if_pos h]
theorem doS_3 {f : FSR} {c : CallR} (h : c.kind = 3) : doS f c = (f, if (ofD f c.ino 1).2 ≠ 0 then errR (ofD f c.ino 1).2 else toldR ⟨0, 0, 0, 0, T (readT (bs (ofD f c.ino 1).1.text) c.at_ c.many).1, []⟩ (readT (bs (ofD f c.ino 1).1.text) c.at_ c.many).2) := by
  unfold doS; rw [if_neg (show ¬ c.kind = 1 by omega), if_neg (show ¬ c.kind = 2 by omega), if_pos h]
theorem doS_4 {f : FSR} {c : CallR} (h : c.kind = 4) : doS f c = ((textD f c.ino fun s => writeT s c.at_ (bs c.text)).1, toldR ⟨0, c.text.size, 0, 0, .empty, []⟩ (textD f c.ino fun s => writeT s c.at_ (bs c.text)).2) := by
  unfold doS; rw [if_neg (show ¬ c.kind = 1 by omega), if_neg (show ¬ c.kind = 2 by omega), if_neg (show ¬ c.kind = 3 by omega), if_pos h]
theorem doS_5 {f : FSR} {c : CallR} (h : c.kind = 5) : doS f c = ((textD f c.ino fun s => cutT s c.many).1, errR (textD f c.ino fun s => cutT s c.many).2) := by
  unfold doS; rw [if_neg (show ¬ c.kind = 1 by omega), if_neg (show ¬ c.kind = 2 by omega), if_neg (show ¬ c.kind = 3 by omega), if_neg (show ¬ c.kind = 4 by omega), if_pos h]
theorem doS_6 {f : FSR} {c : CallR} (h : c.kind = 6) : doS f c = addO f c ⟨0, 1, 0, .empty, []⟩ := by
  unfold doS; rw [if_neg (show ¬ c.kind = 1 by omega), if_neg (show ¬ c.kind = 2 by omega), if_neg (show ¬ c.kind = 3 by omega), if_neg (show ¬ c.kind = 4 by omega), if_neg (show ¬ c.kind = 5 by omega), if_pos h]
theorem doS_7 {f : FSR} {c : CallR} (h : c.kind = 7) : doS f c = addO f c ⟨0, 2, 0, .empty, []⟩ := by
  unfold doS; rw [if_neg (show ¬ c.kind = 1 by omega), if_neg (show ¬ c.kind = 2 by omega), if_neg (show ¬ c.kind = 3 by omega), if_neg (show ¬ c.kind = 4 by omega), if_neg (show ¬ c.kind = 5 by omega), if_neg (show ¬ c.kind = 6 by omega), if_pos h]
theorem doS_8 {f : FSR} {c : CallR} (h : c.kind = 8) : doS f c = addO f c ⟨0, 3, 0, c.text, []⟩ := by
  unfold doS; rw [if_neg (show ¬ c.kind = 1 by omega), if_neg (show ¬ c.kind = 2 by omega), if_neg (show ¬ c.kind = 3 by omega), if_neg (show ¬ c.kind = 4 by omega), if_neg (show ¬ c.kind = 5 by omega), if_neg (show ¬ c.kind = 6 by omega), if_neg (show ¬ c.kind = 7 by omega), if_pos h]
theorem doS_9 {f : FSR} {c : CallR} (h : c.kind = 9) : doS f c = removeO f c false := by
  unfold doS; rw [if_neg (show ¬ c.kind = 1 by omega), if_neg (show ¬ c.kind = 2 by omega), if_neg (show ¬ c.kind = 3 by omega), if_neg (show ¬ c.kind = 4 by omega), if_neg (show ¬ c.kind = 5 by omega), if_neg (show ¬ c.kind = 6 by omega), if_neg (show ¬ c.kind = 7 by omega), if_neg (show ¬ c.kind = 8 by omega), if_pos h]
theorem doS_10 {f : FSR} {c : CallR} (h : c.kind = 10) : doS f c = removeO f c true := by
  unfold doS; rw [if_neg (show ¬ c.kind = 1 by omega), if_neg (show ¬ c.kind = 2 by omega), if_neg (show ¬ c.kind = 3 by omega), if_neg (show ¬ c.kind = 4 by omega), if_neg (show ¬ c.kind = 5 by omega), if_neg (show ¬ c.kind = 6 by omega), if_neg (show ¬ c.kind = 7 by omega), if_neg (show ¬ c.kind = 8 by omega), if_neg (show ¬ c.kind = 9 by omega), if_pos h]
theorem doS_11 {f : FSR} {c : CallR} (h : c.kind = 11) : doS f c = ((giveD f c.ino c.name c.to_).1, errR (giveD f c.ino c.name c.to_).2) := by
  unfold doS; rw [if_neg (show ¬ c.kind = 1 by omega), if_neg (show ¬ c.kind = 2 by omega), if_neg (show ¬ c.kind = 3 by omega), if_neg (show ¬ c.kind = 4 by omega), if_neg (show ¬ c.kind = 5 by omega), if_neg (show ¬ c.kind = 6 by omega), if_neg (show ¬ c.kind = 7 by omega), if_neg (show ¬ c.kind = 8 by omega), if_neg (show ¬ c.kind = 9 by omega), if_neg (show ¬ c.kind = 10 by omega), if_pos h]
theorem doS_12 {f : FSR} {c : CallR} (h : c.kind = 12) : doS f c = ((moveD f c.ino c.name c.to_ c.name2).1, errR (moveD f c.ino c.name c.to_ c.name2).2) := by
  unfold doS; rw [if_neg (show ¬ c.kind = 1 by omega), if_neg (show ¬ c.kind = 2 by omega), if_neg (show ¬ c.kind = 3 by omega), if_neg (show ¬ c.kind = 4 by omega), if_neg (show ¬ c.kind = 5 by omega), if_neg (show ¬ c.kind = 6 by omega), if_neg (show ¬ c.kind = 7 by omega), if_neg (show ¬ c.kind = 8 by omega), if_neg (show ¬ c.kind = 9 by omega), if_neg (show ¬ c.kind = 10 by omega), if_neg (show ¬ c.kind = 11 by omega), if_pos h]
theorem doS_13 {f : FSR} {c : CallR} (h : c.kind = 13) : doS f c = (f, toldR ⟨0, 0, 0, 0, (ofD f c.ino 3).1.text, []⟩ (ofD f c.ino 3).2) := by
  unfold doS; rw [if_neg (show ¬ c.kind = 1 by omega), if_neg (show ¬ c.kind = 2 by omega), if_neg (show ¬ c.kind = 3 by omega), if_neg (show ¬ c.kind = 4 by omega), if_neg (show ¬ c.kind = 5 by omega), if_neg (show ¬ c.kind = 6 by omega), if_neg (show ¬ c.kind = 7 by omega), if_neg (show ¬ c.kind = 8 by omega), if_neg (show ¬ c.kind = 9 by omega), if_neg (show ¬ c.kind = 10 by omega), if_neg (show ¬ c.kind = 11 by omega), if_neg (show ¬ c.kind = 12 by omega), if_pos h]
theorem doS_14 {f : FSR} {c : CallR} (h : c.kind = 14) : doS f c = (f, toldR ⟨0, 0, 0, 0, .empty, (dirD f c.ino).1.l.map (·.name)⟩ (dirD f c.ino).2) := by
  unfold doS; rw [if_neg (show ¬ c.kind = 1 by omega), if_neg (show ¬ c.kind = 2 by omega), if_neg (show ¬ c.kind = 3 by omega), if_neg (show ¬ c.kind = 4 by omega), if_neg (show ¬ c.kind = 5 by omega), if_neg (show ¬ c.kind = 6 by omega), if_neg (show ¬ c.kind = 7 by omega), if_neg (show ¬ c.kind = 8 by omega), if_neg (show ¬ c.kind = 9 by omega), if_neg (show ¬ c.kind = 10 by omega), if_neg (show ¬ c.kind = 11 by omega), if_neg (show ¬ c.kind = 12 by omega), if_neg (show ¬ c.kind = 13 by omega), if_pos h]
theorem doS_15 {f : FSR} {c : CallR} (h : c.kind = 15) : doS f c = (f, ⟨0, f.l.length, sizesF f.l, 0, .empty, []⟩) := by
  unfold doS; rw [if_neg (show ¬ c.kind = 1 by omega), if_neg (show ¬ c.kind = 2 by omega), if_neg (show ¬ c.kind = 3 by omega), if_neg (show ¬ c.kind = 4 by omega), if_neg (show ¬ c.kind = 5 by omega), if_neg (show ¬ c.kind = 6 by omega), if_neg (show ¬ c.kind = 7 by omega), if_neg (show ¬ c.kind = 8 by omega), if_neg (show ¬ c.kind = 9 by omega), if_neg (show ¬ c.kind = 10 by omega), if_neg (show ¬ c.kind = 11 by omega), if_neg (show ¬ c.kind = 12 by omega), if_neg (show ¬ c.kind = 13 by omega), if_neg (show ¬ c.kind = 14 by omega), if_pos h]
theorem doS_else {f : FSR} {c : CallR} (h : c.kind < 1 ∨ 15 < c.kind) : doS f c = (f, errR 1) := by
  unfold doS; rw [if_neg (show ¬ c.kind = 1 by omega), if_neg (show ¬ c.kind = 2 by omega), if_neg (show ¬ c.kind = 3 by omega), if_neg (show ¬ c.kind = 4 by omega), if_neg (show ¬ c.kind = 5 by omega), if_neg (show ¬ c.kind = 6 by omega), if_neg (show ¬ c.kind = 7 by omega), if_neg (show ¬ c.kind = 8 by omega), if_neg (show ¬ c.kind = 9 by omega), if_neg (show ¬ c.kind = 10 by omega), if_neg (show ¬ c.kind = 11 by omega), if_neg (show ¬ c.kind = 12 by omega), if_neg (show ¬ c.kind = 13 by omega), if_neg (show ¬ c.kind = 14 by omega), if_neg (show ¬ c.kind = 15 by omega)]
theorem kind_cases (k : Int) : (k < 1 ∨ 15 < k) ∨ k = 1 ∨ k = 2 ∨ k = 3 ∨ k = 4 ∨ k = 5 ∨ k = 6 ∨ k = 7 ∨ k = 8 ∨ k = 9 ∨ k = 10 ∨ k = 11 ∨ k = 12 ∨ k = 13 ∨ k = 14 ∨ k = 15 := by omega
theorem calm_of {f : FSR} (R : RowsF f) (T : TreeP f) (c : CallR) : CalmF f c := ⟨fun _ h => look_ne R T h, fun _ h => look_ne R T h⟩
theorem addO_kept {f : FSR} (R : RowsF f) (T : TreeP f) (c : CallR) (n : NodeR) : Kept f (addO f c n).1 := by
  unfold addO
  split
  · exact .refl R T
  split
  · exact .refl R T
  · rename_i q; exact add_kept R T _ _ _ (by simpa using q)
theorem removeO_kept {f : FSR} (R : RowsF f) (T : TreeP f) (c : CallR) (b : Bool) : Kept f (removeO f c b).1 := by
  unfold removeO
  split
  · exact .refl R T
  split
  · exact .refl R T
  split
  · exact .refl R T
  · exact take_kept R T _ _
theorem doS_kept {f : FSR} (R : RowsF f) (T : TreeP f) (c : CallR) : Kept f (doS f c).1 := by
  rcases kind_cases c.kind with h | h | h | h | h | h | h | h | h | h | h | h | h | h | h | h
  · rw [doS_else h]; exact .refl R T
  · rw [doS_1 h]; exact .refl R T
  · rw [doS_2 h]; exact .refl R T
  · rw [doS_3 h]; exact .refl R T
  · rw [doS_4 h]; exact text_kept R T fun s hs h => write_len h hs
  · rw [doS_5 h]; exact text_kept R T fun s hs h => cut_len h
  · rw [doS_6 h]; exact addO_kept R T c _
  · rw [doS_7 h]; exact addO_kept R T c _
  · rw [doS_8 h]; exact addO_kept R T c _
  · rw [doS_9 h]; exact removeO_kept R T c _
  · rw [doS_10 h]; exact removeO_kept R T c _
  · rw [doS_11 h]; exact give_kept R T _ _ _
  · rw [doS_12 h]; exact move_kept R T _ _ _ _
  · rw [doS_13 h]; exact .refl R T
  · rw [doS_14 h]; exact .refl R T
  · rw [doS_15 h]; exact .refl R T
theorem playOk_of : ∀ (l : List CallR) (f : FSR), RowsF f → TreeP f → f.next + l.length < 4611686018427387904 → (∀ c ∈ l, c.wf) → PlayOk f l
  | [], _, _, _, _, _ => trivial
  | c :: l, f, R, T, hn, hw => by
    have K := doS_kept R T c
    simp only [List.length_cons] at hn
    exact ⟨⟨R, by omega, calm_of R T c, hw c (by simp)⟩, playOk_of l _ K.rows K.tree (by have := K.next; omega) fun c hc => hw c (by simp [hc])⟩
theorem play_kept : ∀ (l : List CallR) (f : FSR), RowsF f → TreeP f → RowsF (playS f l).1 ∧ TreeP (playS f l).1 ∧ f.next ≤ (playS f l).1.next ∧ (playS f l).1.next ≤ f.next + l.length
  | [], f, R, T => ⟨R, T, Int.le_refl _, by simp [playS]⟩
  | c :: l, f, R, T => by
    have K := doS_kept R T c
    obtain ⟨a, b, d, e⟩ := play_kept l _ K.rows K.tree
    have := K.next
    simp only [playS, List.length_cons]
    exact ⟨a, b, by omega, by omega⟩
end Go.Cx
set_option linter.unusedVariables false
set_option linter.unusedSimpArgs false
namespace Go.Cx
section
variable {f : FSR} {dir : Int} {s : ByteArray} {n : NodeR} {c : CallR} (R : RowsF f) (T : TreeP f) (he : (addD f dir s n).2 = 0) (hk : c.kind ≠ 15) (hl : ∀ y ∈ looksS f c, y ≠ dir ∧ y ≠ f.next)
include R he hl
include hk
include T
end
end Go.Cx
