import Derived.Test.YtdnfnddlciafmaaGreatXOpQ
import Derived.Test.YtdnfnddlciafmaaGreatXBl
set_option linter.unusedVariables false
set_option linter.unusedSimpArgs false
namespace Go.Proofs.YtdnfnddlciafmaaGreat
open Go.Cx Tab
set_option maxHeartbeats 400000
set_option maxRecDepth 40000
theorem sortH_ok (ver : Nat) (l : List Int) (hl : l.length < 4611686018427387904) : HCall Tryz.prog 152 [.own 0 ver 0 l.length 1] [.cells ver (l.map I)] (.tup []) [.cells ver ((sortI l).map I)] :=
  sort_hcall (Ent.mk Tryz.func152 (by kernel_rfl) rfl) (fun blk off cap zs w h1 h2 h3 => Tryz.slices_Sort_int blk off cap zs w h1 h2 h3) (fun p cap w => Tryz.slices_Sort_int_none p cap w) ver l hl
theorem compactH_ok (ver : Nat) (l : List Int) (hl : l.length ≤ 9223372036854775807) : HCall Tryz.prog 153 [.own 0 ver 0 l.length 1] [.cells ver (l.map I)] (.own 0 ver 0 (Lib.compact l).length 1) [.cells ver ((Lib.compact l ++ List.replicate (l.length - (Lib.compact l).length) 0).map I)] :=
  compact_hcall (Ent.mk Tryz.func153 (by kernel_rfl) rfl) Lib.compact compact_len (fun zs h => compact_nil h) (fun blk off cap zs w h1 h2 h3 => Tryz.slices_Compact_int blk off cap zs w h1 h2 h3) (fun p cap w => Tryz.slices_Compact_int_empty p cap w) ver l hl
theorem numbersH_ok (ver : Nat) (l : List Int) (hl : l.length < 4611686018427387904) : HCall Tryz.prog 84 [.own 0 ver 0 l.length 1] [.cells ver (l.map I)] (.own 0 ver 0 (numsS l).length 1) [.cells ver ((numsS l ++ List.replicate (l.length - (numsS l).length) 0).map I)] := by
  have h1 := sortH_ok ver l hl
  have hsl : (sortI l).length = l.length := List.length_mergeSort _
  have h2 := compactH_ok ver (sortI l) (by omega)
  rw [show Lib.compact (sortI l) = numsS l from compact_sort l, hsl] at h2
  generalize sortI l = z at *
  generalize numsS l = q at *
  refine HCall.mk' (fun _ => false) Tryz.func84 rfl rfl rfl (Ent.mk Tryz.func84 (by kernel_rfl) rfl) (by simp) (by simp) (by simp) (by simp) (by simp) fun hfit => ?_
  simp [Tryz.f84]
  refine AInv.heap [0] h1 (by simp) (by simp) ?_
  simp
  refine AInv.heap [0] h2 (by simp) (by simp) ?_
  simp
theorem numbers_ok (ver : Nat) (l : List Int) (hl : l.length < 4611686018427387904) : HCall Tryz.prog 84 [.own 0 ver 0 l.length 1] [.cells ver (l.map I)] (.own 0 ver 0 (numsS l).length 1) [.cells ver ((numsS l).map I)] := by
  obtain ⟨h1, h2, h3, h4, h5, h6, h7⟩ := numbersH_ok ver l hl
  refine ⟨h1, h2, h3, rfl, by simp, h6, fun Z κ w cargs r hr => ?_⟩
  refine (h7 Z κ w cargs r hr).mono ?_
  rintro e w' ⟨v, h', Z', κ', c, ⟨rfl, rfl⟩, he, r', hv, ex, st⟩
  have hb := r'.blk 0 _ rfl
  have hp := blk_prefix (numsS l).length hb
  have e2 : ((numsS l ++ List.replicate (l.length - (numsS l).length) 0).map I).take (numsS l).length = (numsS l).map I := by simp
  rw [e2] at hp
  have r2 := r'.reblk (id := 0) (by simp) hp
  exact ⟨_, _, Z', κ', c, ⟨rfl, rfl⟩, he, r2, hv, ex, st⟩
abbrev foundL (f : FSR) (d : Int) (s : ByteArray) : List Int := if (findE (findB f.l d).1.l s).2 = true then [(findE (findB f.l d).1.l s).1] else []
abbrev foundD (f : FSR) (c : CallR) (d : Int) : List Int := [c.name, c.name2].flatMap (foundL f d)
def looksL (f : FSR) (c : CallR) : List Int := [c.ino, c.to_] ++ [c.ino, c.to_].flatMap (foundD f c)
theorem named_eq (l : List Int) (f : FSR) (d : Int) (s : ByteArray) : namedD l f d s = (foundL f d s).foldl withI l := by
  unfold namedD foundL
  split <;> rfl
theorem looks_eq (f : FSR) (c : CallR) (h : c.kind ≠ 15) : looksS f c = numsS (looksL f c) := by
  unfold looksS
  rw [if_neg h]
  simp only [named_eq, numsS, looksL, foundD, List.flatMap_cons, List.flatMap_nil, List.append_nil, List.foldl_append, List.foldl_cons, List.foldl_nil]
theorem looksL_len (f : FSR) (c : CallR) : (looksL f c).length ≤ 6 := by
  have h : ∀ d s, (foundL f d s).length ≤ 1 := fun d s => by unfold foundL; split <;> simp
  have h1 := h c.ino c.name
  have h2 := h c.ino c.name2
  have h3 := h c.to_ c.name
  have h4 := h c.to_ c.name2
  simp only [looksL, foundD, List.flatMap_cons, List.flatMap_nil, List.append_nil, List.length_append, List.length_cons, List.length_nil]
  omega
theorem looks_ok (f : FSR) (c : CallR) (h : RowsF f) : PCall Tryz.prog 31 [encF f, encC c] (enc1 I (looksS f c)) := by
  by_cases k : c.kind = 15
  · have h1 := numbers_ok 0 [0] (by decide)
    have e : numsS [0] = [0] := rfl
    rw [e] at h1
    have e2 : looksS f c = [0] := by unfold looksS; rw [if_pos k]
    rw [e2]
    refine PCall.mk (fun t => t == 52) Tryz.func31 rfl rfl rfl (Ent.mk Tryz.func31 (by kernel_rfl) rfl) (by simp) (by simp) fun hfit => ?_
    simp [Tryz.f31, k]
    refine AInv.heap [2] h1 (by simp) (by simp) ?_
    simp
    rw [frzOwn_neat (by simp) (by simp)]
    simp
  rw [looks_eq f c k]
  have hlen := h.len
  have htot := looksL_len f c
  refine PCall.mk (fun t => t == 52) Tryz.func31 rfl rfl rfl (Ent.mk Tryz.func31 (by kernel_rfl) rfl) (by simp) (by simp) fun hfit => ?_
  simp [Tryz.f31, k]
  refine AW.loopG (lit := fun t => t == 52) (fun x : Nat × List Int × Nat => ⟨66, pat [(2, .ptr 0 0 0), (3, .ptr 1 0 0), (5, .own 2 x.2.2 0 x.2.1.length 1), (28, .own 3 0 0 2 1), (29, I 2), (30, I x.1)], [.cells 0 f.enc, .cells 0 c.enc, .cells x.2.2 (x.2.1.map I), .cells 0 [I c.ino, I c.to_]]⟩) (fun x => 2 - x.1)
    (fun x => x.1 ≤ 2 ∧ x.2.1 ++ ([c.ino, c.to_].drop x.1).flatMap (foundD f c) = looksL f c) (0, [c.ino, c.to_], 0) ?_ ?_ ?_
  · exact Wa
  · exact ⟨by simp, by simp [looksL]⟩
  rintro ⟨i, acc, ver⟩ ⟨g1, g2⟩ A hA
  simp only at g1 g2 hA
  by_cases hi : i < 2
  case neg =>
    have : i = 2 := by omega
    subst this
    simp only [List.drop_succ_cons, List.drop_nil, List.flatMap_nil, List.append_nil, List.drop_zero] at g2
    rw [← g2] at htot
    have h1 := numbers_ok ver acc (by omega)
    rw [g2] at h1 ⊢
    generalize looksL f c = L at *
    simp [g2]
    refine AInv.heap [2] h1 (by simp) (by simp) ?_
    simp
    rw [frzOwn_neat (by simp) (by simp)]
    simp [Function.comp_def]
  have hi2 : i = 0 ∨ i = 1 := by omega
  rcases hi2 with rfl | rfl
  · have g3 : acc ++ [c.name, c.name2].flatMap (foundL f c.ino) ++ foundD f c c.to_ = looksL f c := by simpa [foundD] using g2
    have hrow := h.row c.ino
    have h1 := find_ok f c.ino (by omega)
    have hN : ∀ s, PCall Tryz.prog 86 [encL EntryR.enc (findB f.l c.ino).1.l, S s] (.tup [I (findE (findB f.l c.ino).1.l s).1, B (findE (findB f.l c.ino).1.l s).2]) := fun s => nfind_ok (findB f.l c.ino).1.l s hrow.rise (by have := hrow.len; omega)
    try simp
    repeat' ((first | ((first | refine Tp ?_ | refine Tn ?_ | refine T2 ?_ ?_) <;> intro hw_ ew_ nw_) | refine Pg h1 ?_ | rw [Ip] | rw [In] | rw [Fz] | rw [Gz] | fail) <;> first | simp [ew_, nw_] | simp | skip)
    refine AW.loopG (lit := fun t => t == 52) (fun x : Nat × List Int × Nat => ⟨66, pat [(2, .ptr 0 0 0), (3, .ptr 1 0 0), (5, .own 2 x.2.2 0 x.2.1.length 1), (8, .ptr 4 0 0), (28, .own 3 0 0 2 1), (29, I 2), (30, I 0), (44, .sl true 2 [S c.name, S c.name2]), (45, I 2), (46, I x.1)], [.cells 0 f.enc, .cells 0 c.enc, .cells x.2.2 (x.2.1.map I), .cells 0 [I c.ino, I c.to_], .cells 0 (findB f.l c.ino).1.enc]⟩) (fun x => 2 - x.1)
      (fun x => x.1 ≤ 2 ∧ x.2.1 ++ ([c.name, c.name2].drop x.1).flatMap (foundL f c.ino) ++ foundD f c c.to_ = looksL f c) (0, acc, ver) ?_ ?_ ?_
    · exact Wa
    · exact ⟨by simp, by simpa using g3⟩
    rintro ⟨j, acc2, ver2⟩ ⟨k1, k2⟩ A2 hA2
    simp only at k1 k2 hA2
    by_cases hj : j < 2
    case neg =>
      have : j = 2 := by omega
      subst this
      have k3 : acc2 ++ ([c.ino, c.to_].drop (0 + 1)).flatMap (foundD f c) = looksL f c := by simpa using k2
      try simp
      repeat' ((first | ((first | refine Tp ?_ | refine Tn ?_ | refine T2 ?_ ?_) <;> intro hw_ ew_ nw_) | (exact hA (0 + 1, acc2, ver2) _ Wc ⟨by simp, k3⟩ (by simp)) | rw [Ip] | rw [In] | rw [Fz] | rw [Gz] | fail) <;> first | simp [ew_, nw_] | simp | skip)
    have ha2 : acc2.length ≤ 6 := by
      rw [← k2] at htot
      simp only [List.length_append] at htot
      omega
    have hm : acc2.length + 1 ≤ maxLen := by simp only [maxLen]; omega
    have hj2 : j = 0 ∨ j = 1 := by omega
    rcases hj2 with rfl | rfl
    · have q := hN c.name
      simp only [List.drop_zero, List.drop_succ_cons, List.flatMap_cons, List.flatMap_nil, List.append_nil] at k2
      cases hf : (findE (findB f.l c.ino).1.l c.name).2 with
      | false =>
        rw [hf] at q
        have k3 : acc2 ++ ([c.name, c.name2].drop (0 + 1)).flatMap (foundL f c.ino) ++ foundD f c c.to_ = looksL f c := by
          have e : foundL f c.ino c.name = [] := by simp [foundL, hf]
          rw [e] at k2
          simpa using k2
        have s_ := hm
        try simp [s_]
        repeat' ((first | ((first | refine Tp ?_ | refine Tn ?_ | refine T2 ?_ ?_) <;> intro hw_ ew_ nw_) | (exact hA2 (0 + 1, acc2, ver2) _ Wc ⟨by simp, k3⟩ (by simp)) | refine Pg q ?_ | rw [Ip] | rw [In] | rw [Fz] | rw [Gz] | fail) <;> first | simp [ew_, nw_, s_] | simp [s_] | skip)
      | true =>
        rw [hf] at q
        have k3 : (acc2 ++ [(findE (findB f.l c.ino).1.l c.name).1]) ++ ([c.name, c.name2].drop (0 + 1)).flatMap (foundL f c.ino) ++ foundD f c c.to_ = looksL f c := by
          have e : foundL f c.ino c.name = [(findE (findB f.l c.ino).1.l c.name).1] := by simp [foundL, hf]
          rw [e] at k2
          simpa using k2
        generalize (findE (findB f.l c.ino).1.l c.name).1 = v at *
        have s_ := And.intro @hm ((show acc2.length + 1 ≤ 17592186044416 by omega))
        try simp [s_]
        repeat' ((first | ((first | refine Tp ?_ | refine Tn ?_ | refine T2 ?_ ?_) <;> intro hw_ ew_ nw_) | (exact hA2 (0 + 1, acc2 ++ [v], ver2 + 1) _ Wc ⟨by simp, k3⟩ (by simp)) | refine Pg q ?_ | rw [Ip] | rw [In] | rw [Fz] | rw [Gz] | fail) <;> first | simp [ew_, nw_, s_] | simp [s_] | skip)
    · have q := hN c.name2
      simp only [List.drop_zero, List.drop_succ_cons, List.flatMap_cons, List.flatMap_nil, List.append_nil] at k2
      cases hf : (findE (findB f.l c.ino).1.l c.name2).2 with
      | false =>
        rw [hf] at q
        have k3 : acc2 ++ ([c.name, c.name2].drop (1 + 1)).flatMap (foundL f c.ino) ++ foundD f c c.to_ = looksL f c := by
          have e : foundL f c.ino c.name2 = [] := by simp [foundL, hf]
          rw [e] at k2
          simpa using k2
        have s_ := hm
        try simp [s_]
        repeat' ((first | ((first | refine Tp ?_ | refine Tn ?_ | refine T2 ?_ ?_) <;> intro hw_ ew_ nw_) | (exact hA2 (1 + 1, acc2, ver2) _ Wc ⟨by simp, k3⟩ (by simp)) | refine Pg q ?_ | rw [Ip] | rw [In] | rw [Fz] | rw [Gz] | fail) <;> first | simp [ew_, nw_, s_] | simp [s_] | skip)
      | true =>
        rw [hf] at q
        have k3 : (acc2 ++ [(findE (findB f.l c.ino).1.l c.name2).1]) ++ ([c.name, c.name2].drop (1 + 1)).flatMap (foundL f c.ino) ++ foundD f c c.to_ = looksL f c := by
          have e : foundL f c.ino c.name2 = [(findE (findB f.l c.ino).1.l c.name2).1] := by simp [foundL, hf]
          rw [e] at k2
          simpa using k2
        generalize (findE (findB f.l c.ino).1.l c.name2).1 = v at *
        have s_ := And.intro @hm ((show acc2.length + 1 ≤ 17592186044416 by omega))
        try simp [s_]
        repeat' ((first | ((first | refine Tp ?_ | refine Tn ?_ | refine T2 ?_ ?_) <;> intro hw_ ew_ nw_) | (exact hA2 (1 + 1, acc2 ++ [v], ver2 + 1) _ Wc ⟨by simp, k3⟩ (by simp)) | refine Pg q ?_ | rw [Ip] | rw [In] | rw [Fz] | rw [Gz] | fail) <;> first | simp [ew_, nw_, s_] | simp [s_] | skip)
  · have g3 : acc ++ [c.name, c.name2].flatMap (foundL f c.to_) = looksL f c := by simpa [foundD] using g2
    have hrow := h.row c.to_
    have h1 := find_ok f c.to_ (by omega)
    have hN : ∀ s, PCall Tryz.prog 86 [encL EntryR.enc (findB f.l c.to_).1.l, S s] (.tup [I (findE (findB f.l c.to_).1.l s).1, B (findE (findB f.l c.to_).1.l s).2]) := fun s => nfind_ok (findB f.l c.to_).1.l s hrow.rise (by have := hrow.len; omega)
    try simp
    repeat' ((first | ((first | refine Tp ?_ | refine Tn ?_ | refine T2 ?_ ?_) <;> intro hw_ ew_ nw_) | refine Pg h1 ?_ | rw [Ip] | rw [In] | rw [Fz] | rw [Gz] | fail) <;> first | simp [ew_, nw_] | simp | skip)
    refine AW.loopG (lit := fun t => t == 52) (fun x : Nat × List Int × Nat => ⟨66, pat [(2, .ptr 0 0 0), (3, .ptr 1 0 0), (5, .own 2 x.2.2 0 x.2.1.length 1), (8, .ptr 4 0 0), (28, .own 3 0 0 2 1), (29, I 2), (30, I 1), (44, .sl true 2 [S c.name, S c.name2]), (45, I 2), (46, I x.1)], [.cells 0 f.enc, .cells 0 c.enc, .cells x.2.2 (x.2.1.map I), .cells 0 [I c.ino, I c.to_], .cells 0 (findB f.l c.to_).1.enc]⟩) (fun x => 2 - x.1)
      (fun x => x.1 ≤ 2 ∧ x.2.1 ++ ([c.name, c.name2].drop x.1).flatMap (foundL f c.to_) = looksL f c) (0, acc, ver) ?_ ?_ ?_
    · exact Wa
    · exact ⟨by simp, by simpa using g3⟩
    rintro ⟨j, acc2, ver2⟩ ⟨k1, k2⟩ A2 hA2
    simp only at k1 k2 hA2
    by_cases hj : j < 2
    case neg =>
      have : j = 2 := by omega
      subst this
      have k3 : acc2 ++ ([c.ino, c.to_].drop (1 + 1)).flatMap (foundD f c) = looksL f c := by simpa using k2
      try simp
      repeat' ((first | ((first | refine Tp ?_ | refine Tn ?_ | refine T2 ?_ ?_) <;> intro hw_ ew_ nw_) | (exact hA (1 + 1, acc2, ver2) _ Wc ⟨by simp, k3⟩ (by simp)) | rw [Ip] | rw [In] | rw [Fz] | rw [Gz] | fail) <;> first | simp [ew_, nw_] | simp | skip)
    have ha2 : acc2.length ≤ 6 := by
      rw [← k2] at htot
      simp only [List.length_append] at htot
      omega
    have hm : acc2.length + 1 ≤ maxLen := by simp only [maxLen]; omega
    have hj2 : j = 0 ∨ j = 1 := by omega
    rcases hj2 with rfl | rfl
    · have q := hN c.name
      simp only [List.drop_zero, List.drop_succ_cons, List.flatMap_cons, List.flatMap_nil, List.append_nil] at k2
      cases hf : (findE (findB f.l c.to_).1.l c.name).2 with
      | false =>
        rw [hf] at q
        have k3 : acc2 ++ ([c.name, c.name2].drop (0 + 1)).flatMap (foundL f c.to_) = looksL f c := by
          have e : foundL f c.to_ c.name = [] := by simp [foundL, hf]
          rw [e] at k2
          simpa using k2
        have s_ := hm
        try simp [s_]
        repeat' ((first | ((first | refine Tp ?_ | refine Tn ?_ | refine T2 ?_ ?_) <;> intro hw_ ew_ nw_) | (exact hA2 (0 + 1, acc2, ver2) _ Wc ⟨by simp, k3⟩ (by simp)) | refine Pg q ?_ | rw [Ip] | rw [In] | rw [Fz] | rw [Gz] | fail) <;> first | simp [ew_, nw_, s_] | simp [s_] | skip)
      | true =>
        rw [hf] at q
        have k3 : (acc2 ++ [(findE (findB f.l c.to_).1.l c.name).1]) ++ ([c.name, c.name2].drop (0 + 1)).flatMap (foundL f c.to_) = looksL f c := by
          have e : foundL f c.to_ c.name = [(findE (findB f.l c.to_).1.l c.name).1] := by simp [foundL, hf]
          rw [e] at k2
          simpa using k2
        generalize (findE (findB f.l c.to_).1.l c.name).1 = v at *
        have s_ := And.intro @hm ((show acc2.length + 1 ≤ 17592186044416 by omega))
        try simp [s_]
        repeat' ((first | ((first | refine Tp ?_ | refine Tn ?_ | refine T2 ?_ ?_) <;> intro hw_ ew_ nw_) | (exact hA2 (0 + 1, acc2 ++ [v], ver2 + 1) _ Wc ⟨by simp, k3⟩ (by simp)) | refine Pg q ?_ | rw [Ip] | rw [In] | rw [Fz] | rw [Gz] | fail) <;> first | simp [ew_, nw_, s_] | simp [s_] | skip)
    · have q := hN c.name2
      simp only [List.drop_zero, List.drop_succ_cons, List.flatMap_cons, List.flatMap_nil, List.append_nil] at k2
      cases hf : (findE (findB f.l c.to_).1.l c.name2).2 with
      | false =>
        rw [hf] at q
        have k3 : acc2 ++ ([c.name, c.name2].drop (1 + 1)).flatMap (foundL f c.to_) = looksL f c := by
          have e : foundL f c.to_ c.name2 = [] := by simp [foundL, hf]
          rw [e] at k2
          simpa using k2
        have s_ := hm
        try simp [s_]
        repeat' ((first | ((first | refine Tp ?_ | refine Tn ?_ | refine T2 ?_ ?_) <;> intro hw_ ew_ nw_) | (exact hA2 (1 + 1, acc2, ver2) _ Wc ⟨by simp, k3⟩ (by simp)) | refine Pg q ?_ | rw [Ip] | rw [In] | rw [Fz] | rw [Gz] | fail) <;> first | simp [ew_, nw_, s_] | simp [s_] | skip)
      | true =>
        rw [hf] at q
        have k3 : (acc2 ++ [(findE (findB f.l c.to_).1.l c.name2).1]) ++ ([c.name, c.name2].drop (1 + 1)).flatMap (foundL f c.to_) = looksL f c := by
          have e : foundL f c.to_ c.name2 = [(findE (findB f.l c.to_).1.l c.name2).1] := by simp [foundL, hf]
          rw [e] at k2
          simpa using k2
        generalize (findE (findB f.l c.to_).1.l c.name2).1 = v at *
        have s_ := And.intro @hm ((show acc2.length + 1 ≤ 17592186044416 by omega))
        try simp [s_]
        repeat' ((first | ((first | refine Tp ?_ | refine Tn ?_ | refine T2 ?_ ?_) <;> intro hw_ ew_ nw_) | (exact hA2 (1 + 1, acc2 ++ [v], ver2 + 1) _ Wc ⟨by simp, k3⟩ (by simp)) | refine Pg q ?_ | rw [Ip] | rw [In] | rw [Fz] | rw [Gz] | fail) <;> first | simp [ew_, nw_, s_] | simp [s_] | skip)
end Go.Proofs.YtdnfnddlciafmaaGreat
