import Derived.Test.YtdnfnddlciafmaaGreatXBo
set_option linter.unusedVariables false
set_option linter.unusedSimpArgs false
namespace Go.Cx
def cntF (f : FSR) (k : Int) : Nat := (allKids f.l).count k
structure TreeP (f : FSR) : Prop where
  root : (findB f.l 1).2 = true ∧ (findB f.l 1).1.kind = 2 ∧ (findB f.l 1).1.links = 0
  here : ∀ k, 0 < cntF f k → (findB f.l k).2 = true
  links : ∀ k, (findB f.l k).2 = true → (findB f.l k).1.links = cntF f k
  some : ∀ k, (findB f.l k).2 = true → k ≠ 1 → 1 ≤ (findB f.l k).1.links
  dir : ∀ k, (findB f.l k).2 = true → k ≠ 1 → (findB f.l k).1.kind = 2 → (findB f.l k).1.links = 1 ∧ Reach (kidsF f.l) 1 k
theorem RowsF.pos {f : FSR} (R : RowsF f) {k : Int} (h : (findB f.l k).2 = true) : 1 ≤ k := by
  obtain ⟨h1, h2⟩ := R.find_ok h
  have := ((nodeOk_iff _).1 h1).ino
  omega
theorem RightF.tree {f : FSR} (R : RowsF f) (T : RightF f) : TreeP f := by
  have hf : ∀ k, (findB f.l k).2 = true → (findB f.l k).1 ∈ f.l ∧ (findB f.l k).1.ino = k := fun k h => findB_true h
  obtain ⟨r, hr, r1, r2, r3⟩ := T.root
  have hr' := findB_of R.rise hr
  rw [r1] at hr'
  refine ⟨by rw [hr']; exact ⟨rfl, r2, r3⟩, fun k hk => ?_, fun k hk => ?_, fun k hk h1 => ?_, fun k hk h1 h2 => ?_⟩
  · obtain ⟨n, hn, e⟩ := T.here k (List.count_pos_iff.1 hk)
    rw [← e, findB_of R.rise hn]
  · obtain ⟨h1, h2⟩ := hf k hk
    have := T.names _ h1
    rw [h2] at this; exact this
  · obtain ⟨h2, h3⟩ := hf k hk
    have := R.pos hk
    exact T.file _ h2 (by omega)
  · obtain ⟨h3, h4⟩ := hf k hk
    have := R.pos hk
    have := T.dir _ h3 (by omega) h2
    rw [h4] at this; exact this
theorem TreeP.right {f : FSR} (R : RowsF f) (T : TreeP f) : RightF f := by
  have hf : ∀ n ∈ f.l, findB f.l n.ino = (n, true) := fun n hn => findB_of R.rise hn
  refine ⟨R.rise, R.ok, R.len, fun n hn => ((rowOk_iff _).1 ((nodeOk_iff n).1 (R.ok n hn)).row).len, ?_, fun k hk => ?_, fun n hn => ?_, fun n hn h1 => ?_, fun n hn h1 h2 => ?_⟩
  · exact ⟨_, (findB_true T.root.1).1, (findB_true T.root.1).2, T.root.2⟩
  · have := T.here k (List.count_pos_iff.2 hk)
    exact ⟨_, (findB_true this).1, (findB_true this).2⟩
  · have := T.links n.ino (by rw [hf n hn])
    rw [hf n hn] at this; exact this
  · have := T.some n.ino (by rw [hf n hn]) (by omega)
    rw [hf n hn] at this; exact this
  · have := T.dir n.ino (by rw [hf n hn]) (by omega) (by rw [hf n hn]; exact h2)
    rw [hf n hn] at this; exact this
theorem right_iff (f : FSR) : rightF f = true ↔ RowsF f ∧ RightF f := by
  constructor
  · intro h
    refine ⟨(rows_iff f).1 ?_, right_of h⟩
    simp only [rightF, Bool.and_eq_true] at h; exact h.1.1.1
  · rintro ⟨R, T⟩
    have hh : headF f.l = true := by
      obtain ⟨r, hr, r1, r2, r3⟩ := T.root
      cases hl : f.l with
      | nil => rw [hl] at hr; cases hr
      | cons a l =>
        have hp := R.rise
        rw [hl] at hp hr
        have hp := (rises_pair NodeR.ino _).1 hp
        have ha : a.ino = 1 := by
          have h1 := ((nodeOk_iff a).1 (R.ok a (by rw [hl]; simp))).ino
          rcases List.mem_cons.1 hr with e | hr
          · rw [← e]; exact r1
          · have := List.rel_of_pairwise_cons hp hr
            omega
        have e : r = a := rises_inj NodeR.ino (by rw [← hl]; exact R.rise) hr (by simp) (by rw [r1, ha])
        subst e
        simp [r1, r2, r3]
    refine (rightF_iff f R hh).2 fun i hi => ?_
    have hm := List.getElem_mem hi
    have hp := first_ino R hh hi
    refine ⟨T.names _ hm, ?_, fun x hx => ?_⟩
    · rintro ⟨b1, b2⟩
      have h1 := hp.1 b1
      have h2 := T.file _ hm h1
      rcases b2 with b2 | ⟨b2, b3⟩
      · omega
      · obtain ⟨h3, h4⟩ := T.dir _ hm h1 b2
        rcases b3 with b3 | b3
        · omega
        · exact b3 ((belowL_iff _ _ _).2 h4)
    · obtain ⟨n, hn, e⟩ := T.here x.ino (List.mem_flatMap.2 ⟨_, hm, List.mem_map.2 ⟨x, hx, rfl⟩⟩)
      rw [← e, findB_of R.rise hn]
theorem looked {f : FSR} (R : RowsF f) {d : Int} {s : ByteArray} (h : (lookD f d s).2 = 0) :
    (findB f.l d).2 = true ∧ (findB f.l d).1.kind = 2 ∧ checkS s = 0 ∧ findE (findB f.l d).1.l s = ((lookD f d s).1.ino, true) ∧ findB f.l (lookD f d s).1.ino = ((lookD f d s).1, true) := by
  obtain ⟨h1, h2, h3, h4, h5⟩ := lookD_ok h
  obtain ⟨d1, d2, d3⟩ := dirD_ok h1
  rw [d3] at h3 h4 h5
  have e : (lookD f d s).1.ino = (findE (findB f.l d).1.l s).1 := by rw [h5]; exact (findB_true h4).2
  refine ⟨d1, d2, h2, ?_, ?_⟩
  · rw [e]; exact Prod.ext rfl h3
  · rw [e, h5]; exact Prod.ext rfl h4
theorem kid_of {f : FSR} (R : RowsF f) {d : Int} {s : ByteArray} {e : Int} (h : findE (findB f.l d).1.l s = (e, true)) : e ∈ kidsF f.l d := by
  obtain ⟨x, hx, _, e2⟩ := (findE_iff (R.row d).rise s e).1 h
  exact List.mem_map.2 ⟨x, hx, e2⟩
theorem TreeP.up {f : FSR} (T : TreeP f) {d : Int} (h1 : (findB f.l d).2 = true) (h2 : (findB f.l d).1.kind = 2) : d = 1 ∨ Reach (kidsF f.l) 1 d := by
  by_cases q : d = 1
  · exact .inl q
  · exact .inr (T.dir d h1 q h2).2
theorem kid_ne {f : FSR} (R : RowsF f) (T : TreeP f) {d y : Int} (h1 : (findB f.l d).2 = true) (h2 : (findB f.l d).1.kind = 2) (h : y ∈ kidsF f.l d) : y ≠ d ∧ y ≠ 1 := by
  have F := T.right R
  have hy1 : y ≠ 1 := fun e => F.no_root (by rw [← e]; exact kids_all f.l d y h)
  refine ⟨fun e => ?_, hy1⟩
  subst e
  rcases T.up h1 h2 with e | e
  · exact hy1 e
  · exact F.acyclic e (.one h)
theorem look_ne {f : FSR} (R : RowsF f) (T : TreeP f) {d : Int} {s : ByteArray} (h : (lookD f d s).2 = 0) : (lookD f d s).1.ino ≠ d := by
  obtain ⟨h1, h2, _, h4, _⟩ := looked R h
  exact (kid_ne R T h1 h2 (kid_of R h4)).1
theorem below_iff {f : FSR} (R : RowsF f) (to top : Int) : belowD f to top = true ↔ Reach (kidsF f.l) top to := by
  unfold belowD
  rw [decide_eq_true_eq]
  exact below_eq (fun n hn => ((rowOk_iff _).1 ((nodeOk_iff n).1 (R.ok n hn)).row).len) top to
theorem overD_ok {n old : NodeR} (h : overD n old = 0) : (n.kind = 2 → old.kind = 2) ∧ (n.kind ≠ 2 → old.kind ≠ 2) ∧ old.l = [] := by
  unfold overD at h
  split at h
  · simp at h
  · rename_i h1
    split at h
    · simp at h
    · rename_i h2
      split at h
      · simp at h
      · exact ⟨fun a => Decidable.byContradiction fun b => h1 ⟨a, b⟩, fun a b => h2 ⟨a, b⟩, List.eq_nil_of_length_eq_zero (by omega)⟩
theorem doS_1 {f : FSR} {c : CallR} (h : c.kind = 1) : doS f c = (f, toldR ⟨0, (lookD f c.ino c.name).1.ino, 0, 0, .empty, []⟩ (lookD f c.ino c.name).2) := by
  unfold doS; rw [if_pos h]
theorem doS_2 {f : FSR} {c : CallR} (h : c.kind = 2) : doS f c = (f, toldR ⟨0, (ofD f c.ino 0).1.kind, (ofD f c.ino 0).1.links, sizeS (ofD f c.ino 0).1, .empty, []⟩ (ofD f c.ino 0).2) := by
  unfold doS; rw [if_neg (show ¬ c.kind = 1 by omega), if_pos h]
theorem doS_3 {f : FSR} {c : CallR} (h : c.kind = 3) : doS f c = (f, if (ofD f c.ino 1).2 ≠ 0 then errR (ofD f c.ino 1).2 else toldR ⟨0, 0, 0, 0, T (readT (bs (ofD f c.ino 1).1.text) c.at_ c.many).1, []⟩ (readT (bs (ofD f c.ino 1).1.text) c.at_ c.many).2) := by
  unfold doS; rw [if_neg (show ¬ c.kind = 1 by omega), if_neg (show ¬ c.kind = 2 by omega), if_pos h]
theorem doS_4 {f : FSR} {c : CallR} (h : c.kind = 4) : doS f c = ((textD f c.ino fun s => writeT s c.at_ (bs c.text)).1, toldR ⟨0, c.text.size, 0, 0, .empty, []⟩ (textD f c.ino fun s => writeT s c.at_ (bs c.text)).2) := by
  unfold doS; rw [if_neg (show ¬ c.kind = 1 by omega), if_neg (show ¬ c.kind = 2 by omega), if_neg (show ¬ c.kind = 3 by omega), if_pos h]
theorem doS_5 {f : FSR} {c : CallR} (h : c.kind = 5) : doS f c = ((textD f c.ino fun s => cutT s c.many).1, errR (textD f c.ino fun s => cutT s c.many).2) := by
  unfold doS; rw [if_neg (show ¬ c.kind = 1 by omega), if_neg (show ¬ c.kind = 2 by omega), if_neg (show ¬ c.kind = 3 by omega), if_neg (show ¬ c.kind = 4 by omega), if_pos h]
theorem doS_6 {f : FSR} {c : CallR} (h : c.kind = 6) : doS f c = addO f c ⟨0, 1, 0, .empty, []⟩ := by
  unfold doS; rw [if_neg (show ¬ c.kind = 1 by omega), if_neg (show ¬ c.kind = 2 by omega), if_neg (show ¬ c.kind = 3 by omega), if_neg (show ¬ c.kind = 4 by omega), if_neg (show ¬ c.kind = 5 by omega), if_pos h]
theorem doS_7 {f : FSR} {c : CallR} (h : c.kind = 7) : doS f c = addO f c ⟨0, 2, 0, .empty, []⟩ := by
  unfold doS; rw [if_neg (show ¬ c.kind = 1 by omega), if_neg (show ¬ c.kind = 2 by omega), if_neg (show ¬ c.kind = 3 by omega), if_neg (show ¬ c.kind = 4 by omega), if_neg (show ¬ c.kind = 5 by omega), if_neg (show ¬ c.kind = 6 by omega), if_pos h]
theorem doS_8 {f : FSR} {c : CallR} (h : c.kind = 8) : doS f c = addO f c ⟨0, 3, 0, c.text, []⟩ := by
  unfold doS; rw [if_neg (show ¬ c.kind = 1 by omega), if_neg (show ¬ c.kind = 2 by omega), if_neg (show ¬ c.kind = 3 by omega), if_neg (show ¬ c.kind = 4 by omega), if_neg (show ¬ c.kind = 5 by omega), if_neg (show ¬ c.kind = 6 by omega), if_neg (show ¬ c.kind = 7 by omega), if_pos h]
theorem doS_9 {f : FSR} {c : CallR} (h : c.kind = 9) : doS f c = removeO f c false := by
  unfold doS; rw [if_neg (show ¬ c.kind = 1 by omega), if_neg (show ¬ c.kind = 2 by omega), if_neg (show ¬ c.kind = 3 by omega), if_neg (show ¬ c.kind = 4 by omega), if_neg (show ¬ c.kind = 5 by omega), if_neg (show ¬ c.kind = 6 by omega), if_neg (show ¬ c.kind = 7 by omega), if_neg (show ¬ c.kind = 8 by omega), if_pos h]
theorem doS_10 {f : FSR} {c : CallR} (h : c.kind = 10) : doS f c = removeO f c true := by
  unfold doS; rw [if_neg (show ¬ c.kind = 1 by omega), if_neg (show ¬ c.kind = 2 by omega), if_neg (show ¬ c.kind = 3 by omega), if_neg (show ¬ c.kind = 4 by omega), if_neg (show ¬ c.kind = 5 by omega), if_neg (show ¬ c.kind = 6 by omega), if_neg (show ¬ c.kind = 7 by omega), if_neg (show ¬ c.kind = 8 by omega), if_neg (show ¬ c.kind = 9 by omega), if_pos h]
theorem doS_11 {f : FSR} {c : CallR} (h : c.kind = 11) : doS f c = ((giveD f c.ino c.name c.to_).1, errR (giveD f c.ino c.name c.to_).2) := by
  unfold doS; rw [if_neg (show ¬ c.kind = 1 by omega), if_neg (show ¬ c.kind = 2 by omega), if_neg (show ¬ c.kind = 3 by omega), if_neg (show ¬ c.kind = 4 by omega), if_neg (show ¬ c.kind = 5 by omega), if_neg (show ¬ c.kind = 6 by omega), if_neg (show ¬ c.kind = 7 by omega), if_neg (show ¬ c.kind = 8 by omega), if_neg (show ¬ c.kind = 9 by omega), if_neg (show ¬ c.kind = 10 by omega), if_pos h]
theorem doS_12 {f : FSR} {c : CallR} (h : c.kind = 12) : doS f c = ((moveD f c.ino c.name c.to_ c.name2).1, errR (moveD f c.ino c.name c.to_ c.name2).2) := by
  unfold doS; rw [if_neg (show ¬ c.kind = 1 by omega), if_neg (show ¬ c.kind = 2 by omega), if_neg (show ¬ c.kind = 3 by omega), if_neg (show ¬ c.kind = 4 by omega), if_neg (show ¬ c.kind = 5 by omega), if_neg (show ¬ c.kind = 6 by omega), if_neg (show ¬ c.kind = 7 by omega), if_neg (show ¬ c.kind = 8 by omega), if_neg (show ¬ c.kind = 9 by omega), if_neg (show ¬ c.kind = 10 by omega), if_neg (show ¬ c.kind = 11 by omega), if_pos h]
theorem doS_13 {f : FSR} {c : CallR} (h : c.kind = 13) : doS f c = (f, toldR ⟨0, 0, 0, 0, (ofD f c.ino 3).1.text, []⟩ (ofD f c.ino 3).2) := by
  unfold doS; rw [if_neg (show ¬ c.kind = 1 by omega), if_neg (show ¬ c.kind = 2 by omega), if_neg (show ¬ c.kind = 3 by omega), if_neg (show ¬ c.kind = 4 by omega), if_neg (show ¬ c.kind = 5 by omega), if_neg (show ¬ c.kind = 6 by omega), if_neg (show ¬ c.kind = 7 by omega), if_neg (show ¬ c.kind = 8 by omega), if_neg (show ¬ c.kind = 9 by omega), if_neg (show ¬ c.kind = 10 by omega), if_neg (show ¬ c.kind = 11 by omega), if_neg (show ¬ c.kind = 12 by omega), if_pos h]
theorem doS_14 {f : FSR} {c : CallR} (h : c.kind = 14) : doS f c = (f, toldR ⟨0, 0, 0, 0, .empty, (dirD f c.ino).1.l.map (·.name)⟩ (dirD f c.ino).2) := by
  unfold doS; rw [if_neg (show ¬ c.kind = 1 by omega), if_neg (show ¬ c.kind = 2 by omega), if_neg (show ¬ c.kind = 3 by omega), if_neg (show ¬ c.kind = 4 by omega), if_neg (show ¬ c.kind = 5 by omega), if_neg (show ¬ c.kind = 6 by omega), if_neg (show ¬ c.kind = 7 by omega), if_neg (show ¬ c.kind = 8 by omega), if_neg (show ¬ c.kind = 9 by omega), if_neg (show ¬ c.kind = 10 by omega), if_neg (show ¬ c.kind = 11 by omega), if_neg (show ¬ c.kind = 12 by omega), if_neg (show ¬ c.kind = 13 by omega), if_pos h]
theorem doS_15 {f : FSR} {c : CallR} (h : c.kind = 15) : doS f c = (f, ⟨0, f.l.length, sizesF f.l, 0, .empty, []⟩) := by
  unfold doS; rw [if_neg (show ¬ c.kind = 1 by omega), if_neg (show ¬ c.kind = 2 by omega), if_neg (show ¬ c.kind = 3 by omega), if_neg (show ¬ c.kind = 4 by omega), if_neg (show ¬ c.kind = 5 by omega), if_neg (show ¬ c.kind = 6 by omega), if_neg (show ¬ c.kind = 7 by omega), if_neg (show ¬ c.kind = 8 by omega), if_neg (show ¬ c.kind = 9 by omega), if_neg (show ¬ c.kind = 10 by omega), if_neg (show ¬ c.kind = 11 by omega), if_neg (show ¬ c.kind = 12 by omega), if_neg (show ¬ c.kind = 13 by omega), if_neg (show ¬ c.kind = 14 by omega), if_pos h]
theorem doS_else {f : FSR} {c : CallR} (h : c.kind < 1 ∨ 15 < c.kind) : doS f c = (f, errR 1) := by
  unfold doS; rw [if_neg (show ¬ c.kind = 1 by omega), if_neg (show ¬ c.kind = 2 by omega), if_neg (show ¬ c.kind = 3 by omega), if_neg (show ¬ c.kind = 4 by omega), if_neg (show ¬ c.kind = 5 by omega), if_neg (show ¬ c.kind = 6 by omega), if_neg (show ¬ c.kind = 7 by omega), if_neg (show ¬ c.kind = 8 by omega), if_neg (show ¬ c.kind = 9 by omega), if_neg (show ¬ c.kind = 10 by omega), if_neg (show ¬ c.kind = 11 by omega), if_neg (show ¬ c.kind = 12 by omega), if_neg (show ¬ c.kind = 13 by omega), if_neg (show ¬ c.kind = 14 by omega), if_neg (show ¬ c.kind = 15 by omega)]
theorem kind_cases (k : Int) : (k < 1 ∨ 15 < k) ∨ k = 1 ∨ k = 2 ∨ k = 3 ∨ k = 4 ∨ k = 5 ∨ k = 6 ∨ k = 7 ∨ k = 8 ∨ k = 9 ∨ k = 10 ∨ k = 11 ∨ k = 12 ∨ k = 13 ∨ k = 14 ∨ k = 15 := by omega
theorem calm_of {f : FSR} (R : RowsF f) (T : TreeP f) (c : CallR) : CalmF f c := ⟨fun _ h => look_ne R T h, fun _ h => look_ne R T h⟩
end Go.Cx
set_option linter.unusedVariables false
set_option linter.unusedSimpArgs false
namespace Go.Cx
theorem named_spec {l : List Int} (h : risesI l = true) (f : FSR) (d : Int) (s : ByteArray) : risesI (namedD l f d s) = true ∧ ∀ y, y ∈ namedD l f d s ↔ y ∈ l ∨ findE (findB f.l d).1.l s = (y, true) := by
  unfold namedD
  split
  · rename_i q
    obtain ⟨h1, h2⟩ := withI_spec h (findE (findB f.l d).1.l s).1
    refine ⟨h1, fun y => ?_⟩
    rw [h2]
    have : findE (findB f.l d).1.l s = (y, true) ↔ y = (findE (findB f.l d).1.l s).1 :=
      ⟨fun e => by rw [e], fun e => by rw [e]; exact Prod.ext rfl q⟩
    rw [this]; exact or_comm
  · rename_i q
    refine ⟨h, fun y => ⟨.inl, fun g => g.elim id fun e => absurd (by rw [e]) q⟩⟩
section
variable {f : FSR} {dir : Int} {s : ByteArray} {n : NodeR} {c : CallR} (R : RowsF f) (T : TreeP f) (he : (addD f dir s n).2 = 0) (hk : c.kind ≠ 15) (hl : ∀ y ∈ looksS f c, y ≠ dir ∧ y ≠ f.next)
include R he hl
include hk
include T
end
def withR : List Int → Int → List Int
  | [], n => [n]
  | a :: l, n => if a < n then a :: withR l n else n :: (a :: l).filter fun x => !decide (x = n)
theorem withR_eq : ∀ {l : List Int}, risesI l = true → ∀ n, withR l n = withI l n
  | [], _, n => by simp [withR, withI]
  | a :: l, h, n => by
    have hp := (rises_pair idI (a :: l)).1 h
    have hl : risesI l = true := (rises_pair idI l).2 hp.of_cons
    by_cases q : a < n
    · have q2 : a ≤ n := by omega
      rw [withR, if_pos q, withR_eq hl n]
      simp [withI, q, q2]
    · have hgt : ∀ x ∈ l, n < x := fun x hx => by
        have := List.rel_of_pairwise_cons hp hx
        have h2 : a < x := this
        omega
      have hf : l.filter (fun x => !decide (x = n)) = l := List.filter_eq_self.2 fun x hx => by have := hgt x hx; simp; omega
      have hd : l.dropWhile (fun x => decide (x ≤ n)) = l := by
        cases l with
        | nil => rfl
        | cons b l => have := hgt b (by simp); rw [List.dropWhile_cons_of_neg (by simp; omega)]
      rw [withR, if_neg q]
      unfold withI
      rw [List.takeWhile_cons_of_neg (by simpa using q), List.nil_append]
      by_cases q2 : a = n
      · subst q2
        rw [List.filter_cons_of_neg (by simp), hf, List.dropWhile_cons_of_pos (by simp), hd]
      · rw [List.filter_cons_of_pos (by simpa using q2), hf, List.dropWhile_cons_of_neg (by simp; omega)]
theorem withI_len (a : List Int) (n : Int) : (withI a n).length ≤ a.length + 1 := by
  have h : ∀ a : List Int, (a.dropWhile fun y => decide (y ≤ n)).length ≤ (a.dropWhile fun y => decide (y < n)).length := by
    intro a
    induction a with
    | nil => simp
    | cons y a iha =>
      simp only [List.dropWhile_cons]
      by_cases q1 : y < n
      · rw [if_pos (by simp; omega), if_pos (by simpa using q1)]; exact iha
      · rw [if_neg (c := (decide (y < n)) = true) (by simpa using q1)]
        split
        · exact Nat.le_trans (List.dropWhile_sublist _).length_le (by simp)
        · exact Nat.le_refl _
  have h4 := congrArg List.length (List.takeWhile_append_dropWhile (p := fun y => decide (y < n)) (l := a))
  have h5 := h a
  simp only [List.length_append] at h4
  simp only [withI, List.length_append, List.length_cons]
  omega
theorem named_len (l : List Int) (f : FSR) (d : Int) (s : ByteArray) : (namedD l f d s).length ≤ l.length + 1 := by
  unfold namedD
  split
  · exact withI_len _ _
  · omega
theorem lookD_zero {f : FSR} {d : Int} {s : ByteArray} (h : (lookD f d s).2 ≠ 0) : (lookD f d s).1 = .zero := by
  unfold lookD at h ⊢
  split
  · rfl
  rename_i q1; rw [if_neg q1] at h
  split
  · rfl
  rename_i q2; rw [if_neg q2] at h
  split
  · rfl
  rename_i q3; rw [if_neg q3] at h
  split
  · rfl
  rename_i q4; rw [if_neg q4] at h
  exact absurd rfl h
theorem dirD_zero {f : FSR} {d : Int} (h : (dirD f d).2 ≠ 0) : (dirD f d).1 = .zero := by
  unfold dirD at h ⊢
  split
  · rfl
  rename_i q1; rw [if_neg q1] at h
  split
  · rfl
  rename_i q2; rw [if_neg q2] at h
  exact absurd rfl h
theorem told_look (f : FSR) (d : Int) (s : ByteArray) : toldR ⟨0, (lookD f d s).1.ino, 0, 0, .empty, []⟩ (lookD f d s).2 = ⟨(lookD f d s).2, (lookD f d s).1.ino, 0, 0, .empty, []⟩ := by
  unfold toldR
  by_cases q : (lookD f d s).2 = 0
  · rw [if_neg (by simpa using q), q]
  · rw [if_pos q, lookD_zero q]; rfl
theorem told_dir (f : FSR) (d : Int) : toldR ⟨0, 0, 0, 0, .empty, (dirD f d).1.l.map (·.name)⟩ (dirD f d).2 = ⟨(dirD f d).2, 0, 0, 0, .empty, (dirD f d).1.l.map (·.name)⟩ := by
  unfold toldR
  by_cases q : (dirD f d).2 = 0
  · rw [if_neg (by simpa using q), q]
  · rw [if_pos q, dirD_zero q]; rfl
theorem told_read (t : List UInt8) (a m : Int) : toldR ⟨0, 0, 0, 0, T (readT t a m).1, []⟩ (readT t a m).2 = ⟨(readT t a m).2, 0, 0, 0, T (readT t a m).1, []⟩ := by
  unfold toldR readT
  split
  · rfl
  · rfl
end Go.Cx
