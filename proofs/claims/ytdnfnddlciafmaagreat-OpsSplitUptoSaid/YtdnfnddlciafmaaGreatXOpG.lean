import Derived.Test.YtdnfnddlciafmaaGreatXOpF
import Derived.RangeFuncBox
import Derived.RangeFuncLeaves
import Derived.Shelf.Abstract
import Derived.WalkKit
import Derived.OwnWalkIn
import Derived.TacticsInMore
import Derived.LoopNIn
import Derived.LoopIn
import Derived.Maps.AppendAt
set_option linter.unusedVariables false
set_option linter.unusedSimpArgs false
namespace Go.Proofs.YtdnfnddlciafmaaGreat
open Go.RowKit Go.Shelf
attribute [local go_sem] Oper.semAt_some
abbrev PE : Type := ByteArray × Int
def uptoE (f : Nat → PE) (k : Nat) : List PE := (List.range k).map f
theorem uptoE_succ (f : Nat → PE) (k : Nat) : uptoE f (k + 1) = uptoE f k ++ [f k] := by simp [uptoE, List.range_succ]
theorem uptoE_length (f : Nat → PE) (k : Nat) : (uptoE f k).length = k := by simp [uptoE]
set_option maxRecDepth 100000 in
set_option maxHeartbeats 2000000 in
theorem told1_in (F : Fence) (n : Nat) (hf : F.fn 221) (hro : F.round = none) (hn : 1 ≤ n) (l Bs n₀ b off len cap : Nat) (zs : List PE) (hlen : len ≤ 1000000) (hb : b < n₀) (hW0 : n₀ ≤ 0 + n₀) (J Jx : List PE → World → Prop)
    (W : World) (hJ : AbidesFrom W.heap.size J) (hn₀ : n₀ ≤ W.heap.size)
    (hY : ∀ pre x W, J pre W → pre.length < len → YieldAt F (n - 1) Tryz.prog l #[.string x.1] W fun e W' =>
      (e = .returned (.bool true) ∧ J (pre ++ [x]) W' ∧ Below n₀ W W') ∨ (e = .returned (.bool false) ∧ Jx (pre ++ [x]) W'))
    (hBs : W.cell? ⟨Bs, 0, none⟩ = some (.slice (some ⟨b, off, none⟩) len cap)) (hc0 : ∀ j, j < len → W.cell? ⟨b, off + j * 2, none⟩ = some (.string (zs[j]?.getD (.empty, 0)).1)) (hc1 : ∀ j, j < len → W.cell? ⟨b, off + j * 2 + 1, none⟩ = some (.int .i64 (zs[j]?.getD (.empty, 0)).2)) (h0 : J [] W) :
    CallsIn F n Tryz.prog 221 #[.func (.yield l) #[] #[], .pointer (some ⟨Bs, 0, none⟩)] W fun e W' => (∃ v, e = .returned v) ∧
      ((∃ ys, ys = uptoE (fun j => zs[j]?.getD (.empty, 0)) len ∧ J ys W') ∨ (∃ pre, (∃ k, k ≤ len ∧ pre = uptoE (fun j => zs[j]?.getD (.empty, 0)) k) ∧ Jx pre W')) := by
  refine callsIn_of_wp Tryz.func221 rfl hf ?_ hro
  simp only [Tryz.ntmps221, List.size_toArray, List.length_cons, List.length_nil, Nat.reduceAdd, Nat.reduceSub, Array.replicate_succ, Array.replicate_zero, List.push_toArray, List.append_toArray, List.nil_append, List.cons_append]
  gi_wp2
  gi_loopw [7] (fun i wr => ∃ k : Nat, k ≤ len ∧ i = .int .i64 k ∧ J (uptoE (fun j => zs[j]?.getD (.empty, 0)) k) wr ∧ Below n₀ W wr)
    (fun i _ => len - (intOf i).toNat)
  case atStart => exact ⟨0, Nat.zero_le _, rfl, h0, Below.refl _ _⟩
  case round =>
    obtain ⟨k, hk, rfl, hJs, hnx⟩ := hrel
    by_cases hlt : k < len
    · have hcx0 : wr.cell? ⟨b, off + k * 2, none⟩ = some (.string (zs[k]?.getD (.empty, 0)).1) := (hnx.cell (p := ⟨b, off + k * 2, none⟩) hb).trans (hc0 k hlt)
      have hcx1 : wr.cell? ⟨b, off + k * 2 + 1, none⟩ = some (.int .i64 (zs[k]?.getD (.empty, 0)).2) := (hnx.cell (p := ⟨b, off + k * 2 + 1, none⟩) hb).trans (hc1 k hlt)
      have hJ2 := hJ _ wr (wr.alloc (.cells #[.string (zs[k]?.getD (.empty, 0)).1, .int .i64 (zs[k]?.getD (.empty, 0)).2] 121)) none hJs (World.grownBy_alloc wr _ none) (fun r e => by cases e)
      have hsz : n₀ ≤ wr.heap.size := Nat.le_trans hn₀ hnx.size
      have hB2 := (Below.refl n₀ wr).alloc hsz (.cells #[.string (zs[k]?.getD (.empty, 0)).1, .int .i64 (zs[k]?.getD (.empty, 0)).2] 121)
      obtain ⟨fn, tmps, assign, body, hy, hR⟩ := hY _ (zs[k]?.getD (.empty, 0)) _ hJ2 (by rw [uptoE_length]; exact hlt)
      gi_wp2
      refine hR.mono ?_
      rintro e W3 (⟨rfl, hJ3, hk3⟩ | ⟨rfl, hJx3⟩)
      · gi_wp2
        go_roundw
        case rel => exact ⟨k + 1, by omega, by simp, by rw [uptoE_succ]; exact hJ3, hnx.trans (hB2.trans hk3)⟩
        case measure => simp [intOf]; omega
      · gi_wp2
        refine bodyPost_ret (results_none rfl _ _ _) rfl ?_
        exact ⟨⟨_, rfl⟩, .inr ⟨_, ⟨k + 1, by omega, (uptoE_succ _ _).symm⟩, hJx3⟩⟩
    · obtain rfl : k = len := by omega
      gi_wp2
      go_end0
      exact ⟨⟨_, rfl⟩, .inl ⟨_, rfl, hJs⟩⟩
set_option maxRecDepth 100000 in
set_option maxHeartbeats 1000000 in
theorem told1_nil_in (F : Fence) (n : Nat) (hf : F.fn 221) (hro : F.round = none) (l Bs : Nat) (A : Option Addr) (cap : Nat) (J : List PE → World → Prop) (W : World) (hBs : W.cell? ⟨Bs, 0, none⟩ = some (.slice A 0 cap)) (h0 : J [] W) :
    CallsIn F n Tryz.prog 221 #[.func (.yield l) #[] #[], .pointer (some ⟨Bs, 0, none⟩)] W fun e W' => (∃ v, e = .returned v) ∧ J [] W' := by
  refine callsIn_of_wp Tryz.func221 rfl hf ?_ hro
  simp only [Tryz.ntmps221, List.size_toArray, List.length_cons, List.length_nil, Nat.reduceAdd, Nat.reduceSub, Array.replicate_succ, Array.replicate_zero, List.push_toArray, List.append_toArray, List.nil_append, List.cons_append]
  gi_wp2
  gi_loopw [7] (fun i wr => i = .int .i64 0 ∧ J [] wr) (fun _ _ => 0)
  case atStart => exact ⟨rfl, h0⟩
  case round =>
    obtain ⟨rfl, hJs⟩ := hrel
    gi_wp2
    go_end0
    exact ⟨⟨_, rfl⟩, hJs⟩
set_option maxHeartbeats 1000000 in
theorem told_in (F : Fence) (n : Nat) (hf : F.fn 191) (hro : F.round = none) (a : Option Addr) (len cap : Nat) (w : World) :
    CallsIn F n Tryz.prog 191 #[.slice a len cap] w fun e w' => e = .returned (.func (.func 221) #[] #[.pointer (some ⟨w.heap.size, 0, none⟩)]) ∧ w' = w.alloc (.cells #[.slice a len cap] 41) := by
  refine callsIn_of_wp Tryz.func191 rfl hf ?_ hro
  simp only [Tryz.ntmps191, List.size_toArray, List.length_cons, List.length_nil, Nat.reduceAdd, Nat.reduceSub, Array.replicate_succ, Array.replicate_zero, List.push_toArray, List.append_toArray, List.nil_append, List.cons_append]
  gi_wp2
  go_ret
  exact ⟨rfl, rfl⟩
theorem uptoE_all (zs : List PE) : uptoE (fun j => zs[j]?.getD (.empty, 0)) zs.length = zs := by
  apply List.ext_getElem
  · simp [uptoE]
  · intro i h1 h2
    simp [uptoE, h2]
theorem uptoE_take (zs : List PE) {k : Nat} (hk : k ≤ zs.length) : uptoE (fun j => zs[j]?.getD (.empty, 0)) k = zs.take k := by
  apply List.ext_getElem
  · simp [uptoE, hk]
  · intro i h1 h2
    have : i < zs.length := by simp [uptoE] at h1; omega
    simp [uptoE, this]
def EntsAt (n₀ : Nat) (W : World) (sv : Value) (zs : List PE) : Prop :=
  (∃ A cap, sv = .slice A 0 cap ∧ zs = []) ∨ ∃ b off cap, sv = .slice (some ⟨b, off, none⟩) zs.length cap ∧ b < n₀ ∧ (∀ j, j < zs.length → W.cell? ⟨b, off + j * 2, none⟩ = some (.string (zs[j]?.getD (.empty, 0)).1)) ∧ ∀ j, j < zs.length → W.cell? ⟨b, off + j * 2 + 1, none⟩ = some (.int .i64 (zs[j]?.getD (.empty, 0)).2)
theorem EntsAt.below {n₀ : Nat} {A B : World} (h : Below n₀ A B) {sv : Value} {zs : List PE} : EntsAt n₀ A sv zs → EntsAt n₀ B sv zs
  | .inl e => .inl e
  | .inr ⟨b, off, cap, e, hb, hc, hd⟩ => .inr ⟨b, off, cap, e, hb, fun j hj => (h.cell (p := ⟨b, off + j * 2, none⟩) hb).trans (hc j hj), fun j hj => (h.cell (p := ⟨b, off + j * 2 + 1, none⟩) hb).trans (hd j hj)⟩
theorem told_stops (F : Fence) (n : Nat) (hf : F.fn 221) (hro : F.round = none) (hn : 1 ≤ n) (Bs n₀ : Nat) (sv : Value) (zs : List PE) (hlen : zs.length ≤ 1000000) (w : World) (hBs : Bs < w.heap.size) (hn₀ : n₀ ≤ w.heap.size)
    (hc : w.cell? ⟨Bs, 0, none⟩ = some sv) (hI : EntsAt n₀ w sv zs) :
    SeqStopsK F n Tryz.prog 221 #[.pointer (some ⟨Bs, 0, none⟩)] (fun x : PE => #[Value.string x.1]) (Below n₀) (fun ys => ys = zs) (fun pre => pre <+: zs) zs.length w := fun l J Jx W hW hJ _ hY h0 => by
  have hc' := (hW.cell (p := ⟨Bs, 0, none⟩) hBs).trans hc
  rcases hI.below (hW.mono hn₀) with ⟨A, cap, rfl, rfl⟩ | ⟨b, off, cap, rfl, hb, hcs, hds⟩
  · exact (told1_nil_in F n hf hro l Bs A cap J W hc' h0).mono fun e W' ⟨he, hj⟩ => ⟨he, .inl ⟨_, rfl, hj⟩⟩
  · refine (told1_in F n hf hro hn l Bs n₀ b off zs.length cap zs hlen hb (by omega) J Jx W hJ (Nat.le_trans hn₀ hW.size) hY hc' hcs hds h0).mono ?_
    rintro e W' ⟨he, ⟨ys, rfl, hj⟩ | ⟨pre, ⟨k, hk, rfl⟩, hj⟩⟩
    · exact ⟨he, .inl ⟨_, uptoE_all zs, hj⟩⟩
    · exact ⟨he, .inr ⟨_, by rw [uptoE_take zs hk]; exact List.take_prefix _ _, hj⟩⟩
theorem infoS : (Tryz.prog.info? 9).map (fun i => (i.zero, i.size, i.bytes)) = some (some (.string .empty), 1, 16) := by kernel_rfl
set_option maxRecDepth 100000 in
set_option maxHeartbeats 2000000 in
theorem names_in (F : Fence) (n : Nat) (h3 : F.fn 130) (h4 : F.fn 191) (h5 : F.fn 221) (hro : F.round = none) (hn : 3 ≤ n) (A : Option Addr) (cap : Nat) (zs : List PE) (hlen : zs.length ≤ 1000000) (w : World) (hL : EntsAt w.heap.size w (.slice A zs.length cap) zs) :
    CallsIn F n Tryz.prog 130 #[.slice A zs.length cap] w fun e W' => ∃ v, e = .returned v ∧ W'.ownsRow w.heap.size 9 1 v zs.length (zs.map fun x => Value.string x.1) ∧ Below w.heap.size w W' := by
  have h1 : 1 ≤ n := by omega
  obtain ⟨i0, hi, hz0, hz1, hz2⟩ := info_parts infoS
  refine callsIn_of_wp_marks Tryz.func130 rfl h3 ?_ hro
  simp only [Tryz.ntmps130, List.size_toArray, List.length_cons, List.length_nil, Nat.reduceAdd, Nat.reduceSub, Array.replicate_succ, Array.replicate_zero, List.push_toArray, List.append_toArray, List.nil_append, List.cons_append]
  gi_wp2_with (gi_at_call 191; refine (told_in F (n - 1) h4 hro _ _ _ _).mono ?_; rintro e w' ⟨rfl, rfl⟩)
  have bO := Boxed.new w 32 (.slice none 0 0)
  have bN := Boxed.new (w.alloc (.cells #[.slice none 0 0] 32)) 41 (.slice A zs.length cap)
  rw [World.size_alloc] at bN
  have hB0 : Below w.heap.size w ((w.alloc (.cells #[.slice none 0 0] 32)).alloc (.cells #[.slice A zs.length cap] 41)) := ((Below.refl _ w).alloc (Nat.le_refl _) _).alloc (by simp) _
  refine wpIn_rangeFunc_ownG hro h1 (gf := 221) (lb := #[.pointer (some ⟨w.heap.size + 1, 0, none⟩)]) rfl h5 (enters_of Tryz.func221 (by kernel_rfl) rfl)
    (told_stops F (n - 1) h5 hro (by omega) (w.heap.size + 1) w.heap.size (.slice A zs.length cap) zs hlen _ (by simp) (by simp; omega) bN.cell (hL.below hB0)) belowK_t (belowK_b (by simp; omega)) (Below.refl _ _) (fun _ => rfl)
    (fun pre W => (∃ v, Boxed W w.heap.size 32 v ∧ W.ownsRow w.heap.size 9 1 v pre.length (pre.map fun x => Value.string x.1) ∧ True) ∧ Below w.heap.size w W)
    (fun _ _ _ => False)
    (OwnFrom.and (Own.from (holdsRow_own w.heap.size w.heap.size 32 9 1 (fun pre : List PE => pre.length) (fun pre => pre.map fun x => Value.string x.1) (fun pre v => True)) _) (ownFrom_below (Nat.le_refl _) (by simp; omega)))
    (fun _ _ _ _ _ hs _ _ => hs)
    ⟨⟨_, bO.alloc _, World.ownsRow_nil _ _ _ _, trivial⟩, hB0⟩
    (fun x => { tmps := #[.slice A zs.length cap, undef, .slice none 0 0, .pointer (some ⟨w.heap.size, 0, none⟩), .string x.1, .slice A zs.length cap, .func (.func 221) #[] #[.pointer (some ⟨w.heap.size + 1, 0, none⟩)], .string x.1, undef, undef, undef, undef, undef], defers := [] }) ?assign ?body ?done ?stop
  case assign =>
    intro l x W K hK
    gi_wp2
    exact hK
  case body =>
    rintro l pre x W ⟨⟨v, hv, hrow, _⟩, hB⟩ hlt
    have hc := hv.cell
    have hmx : zs.length ≤ maxLen := by simp only [maxLen]; omega
    gi_wp2_with (gi_at_builtin; refine wpListIn_append_own _ rfl _ _ 32 rfl w.heap.size 9 i0 (.string .empty) 1 16 Tryz.underlying32 hi hz0 hz1 hz2 rfl (by decide) _ _ _ rfl (hrow.alloc _) ⟨W.heap.size, 0, none⟩ 1 1 [.string x.1] rfl rfl (cell_one_new _ _ _) (by simp [Value.oneCell']) (by omega) (by omega) (by have := hB.size; simp; omega) ?_; intro v' w1 hown' hgrow _; obtain ⟨g', cap', rfl⟩ := ownsRow_succ hown'; obtain ⟨hv1, hv2, hr2, hk2, hb2⟩ := hv.appended (by decide) hrow hB.size (Nat.le_refl _) hown' hgrow; have hc1 := hv1.cell; have hf1 := hv1.frozen)
    exact ⟨hk2.from _, hb2, ⟨_, hv2, by simpa using hr2, trivial⟩, hB.trans hb2⟩
  case done =>
    rintro D ys W hD rfl ⟨⟨v, hv, hrow, _⟩, hB⟩ hK
    have hc := hv.cell
    gi_wp2
    refine ⟨by simp, .inl ⟨_, _, rfl, run_takeDeferred hK, ?_⟩⟩
    exact ⟨_, results_tmp rfl _ _ _, v, rfl, ownsRow_putObj hrow _ hK rfl, hB.trans (belowK_b (w := w) (Nat.le_refl _) W D _ _ (by simp at hD; omega) hK rfl rfl)⟩
  case stop =>
    rintro D c pre W _ _ h _
    exact h.elim
open Go.Cx in
theorem ents_cells {Z : Nat → Prop} {w : World} {κ : Nat → Slot} : ∀ {l : List EntryR} {us : List Value}, Rs Z w κ (l.flatMap EntryR.enc) us → us = l.flatMap fun x => [Value.string x.name, .int .i64 x.ino]
  | [], _, .nil => rfl
  | x :: l, _, h => by
    simp only [List.flatMap_cons, EntryR.enc, List.cons_append, List.nil_append] at h ⊢
    cases h with
    | cons h1 h2 =>
      cases h2 with
      | cons h2 h3 =>
        cases h1 with
        | val _ =>
          cases h2 with
          | val _ => rw [ents_cells h3]
open Go.Cx in
theorem strs_rs {Z : Nat → Prop} {w : World} {κ : Nat → Slot} : ∀ l : List EntryR, Rs Z w κ ((l.map (·.name)).map S) (l.map fun x => Value.string x.name)
  | [] => .nil
  | x :: l => .cons (.val rfl) (strs_rs l)
open Go.Cx in
theorem flat2 (l : List EntryR) : ∀ (j : Nat), (h : j < l.length) → (l.flatMap fun x => [Value.string x.name, .int .i64 x.ino])[j * 2]? = some (.string l[j].name) ∧ (l.flatMap fun x => [Value.string x.name, .int .i64 x.ino])[j * 2 + 1]? = some (.int .i64 l[j].ino) := by
  induction l with
  | nil => intro j h; simp at h
  | cons x l ih =>
    intro j h
    cases j with
    | zero => simp
    | succ j =>
      have := ih j (by simpa using h)
      simp only [List.flatMap_cons, List.getElem_cons_succ]
      rw [show (j + 1) * 2 = 2 + j * 2 by omega, show 2 + j * 2 + 1 = 2 + (j * 2 + 1) by omega]
      constructor
      · rw [List.getElem?_append_right (by simp)]; simpa using this.1
      · rw [List.getElem?_append_right (by simp)]; simpa using this.2
open Go.Cx in
theorem names_ok (l : List EntryR) (hl : l.length ≤ 1000000) : PCall Tryz.prog 130 [encL EntryR.enc l] (enc1 S (l.map (·.name))) := by
  refine ⟨by simp, by simp, Ent.mk Tryz.func130 (by kernel_rfl) rfl, fun Z κ w cargs r hr => ?_⟩
  cases hr with
  | cons h1 h2 =>
  cases h2
  have na : ∀ b, ¬ alive κ b := fun b ⟨id, ver, sz, hk⟩ => by rw [r.hole id (Nat.zero_le _)] at hk; cases hk
  let zs : List PE := l.map fun x => (x.name, x.ino)
  have hzl : zs.length = l.length := by simp [zs]
  have hzm : zs.map (fun x => Value.string x.1) = l.map fun x => Value.string x.name := by simp [zs, Function.comp_def]
  have main : ∀ (A : Option Addr) (cap : Nat) (c : Value), c = .slice A l.length cap → EntsAt w.heap.size w c zs → Calls Tryz.prog 130 [c].toArray w (fun e w' => ∃ v h' Z' κ' c, (v = enc1 S (l.map (·.name)) ∧ h' = []) ∧ e = .returned c ∧ Rel Z' κ' h' w' ∧ R Z' w' κ' v c ∧ Ext Z κ w Z' κ' w' ∧ StepLt 0 κ κ') := by
    rintro A cap c rfl hE
    rw [← hzl] at hE ⊢
    refine (callsIn_wide.1 (names_in Fence.wide 3 trivial trivial trivial rfl (by omega) A cap zs (by omega) w hE)).mono ?_
    rintro e w' ⟨v, rfl, ⟨hx1, hown⟩, b⟩
    have ex : ∀ Z', (∀ b, Z b → Z' b) → (∀ b, Z' b → Z b ∨ alive κ b ∨ w.heap.size ≤ b) → Ext Z κ w Z' κ w' := fun Z' h1 h2 => ⟨b.os, b.tape, b.output, b.size, fun k hk _ => b.block k hk, h1, h2, fun _ h => .inl h⟩
    rcases hown with ⟨rfl, h0⟩ | ⟨g, cap', cur, rfl, hg, hgb, hnc, hcm, hcs, htk⟩
    · have hl0 : l = [] := List.eq_nil_of_length_eq_zero (by omega)
      subst hl0
      exact ⟨_, _, Z, κ, _, ⟨rfl, rfl⟩, rfl, ⟨fun b' hb => Nat.lt_of_lt_of_le (r.zlt b' hb) b.size, r.za, r.hole, fun id x hx => by simp at hx, r.inj⟩, .sl0 (by simp) (by simp [maxLen]), ex Z (fun _ h => h) (fun _ h => .inl h), .refl _ _⟩
    · have hglt := (Array.getElem?_eq_some_iff.1 hgb).1
      rw [hzm] at htk hx1
      refine ⟨_, _, fun b => Z b ∨ b = g, κ, _, ⟨rfl, rfl⟩, rfl, ⟨fun b' hb => ?_, fun b' _ => na b', r.hole, fun id x hx => by simp at hx, r.inj⟩, ?_, ex _ (fun _ h => .inl h) (fun b' h => h.imp id fun e => .inr (by omega)), .refl _ _⟩
      · rcases hb with hb | rfl
        · exact Nat.lt_of_lt_of_le (r.zlt b' hb) b.size
        · exact hglt
      · have hlen1 : (l.map (·.name)).length = zs.length := by simp [hzl]
        simp only [enc1, hlen1]
        rcases Nat.eq_zero_or_pos zs.length with h0 | h0
        · have hl0 : l = [] := List.eq_nil_of_length_eq_zero (by omega)
          subst hl0
          exact .sl0 (by simp) hcm
        · refine .sl h0 hnc (by simp) hcm (.inr rfl) (fun j u hj => ?_) (strs_rs l)
          rw [addr_add, Nat.zero_add]
          have hjl : j < l.length := by have := (List.getElem?_eq_some_iff.1 hj).1; simpa using this
          rw [← htk] at hj
          rw [List.getElem?_take_of_lt (by omega)] at hj
          simp only [World.cell?, hgb]
          simpa using hj
  rcases R.sl_inv h1 with ⟨h0, hcs, A, cap, rfl⟩ | ⟨h0, a, cap, us, rfl, hnc, hcm, hz, hat, hus⟩
  · have hl0 : l = [] := List.eq_nil_of_length_eq_zero h0
    subst hl0
    exact main A cap _ rfl (.inl ⟨A, cap, rfl, rfl⟩)
  · have hus := ents_cells hus
    subst hus
    have hsp : a.spot = none := cell_spot (w := w) (v := .string l[0].name) (by
      have := hat 0 (.string l[0].name) (by have := (flat2 l 0 h0).1; simpa using this)
      have e0 : a.add 0 = a := by simp [Addr.add]
      rwa [e0] at this)
    obtain ⟨b, off, sp⟩ := a
    simp only at hsp
    subst hsp
    have hget : ∀ j (h : j < l.length), zs[j]?.getD (.empty, 0) = (l[j].name, l[j].ino) := fun j h => by simp [zs, h]
    refine main _ cap _ rfl (.inr ⟨b, off, cap, by rw [hzl], r.zlt b hz, fun j hj => ?_, fun j hj => ?_⟩)
    · have hj' : j < l.length := by omega
      have := hat (j * 2) (.string l[j].name) (flat2 l j hj').1
      rw [addr_add] at this
      rw [hget j hj']; exact this
    · have hj' : j < l.length := by omega
      have := hat (j * 2 + 1) (.int .i64 l[j].ino) (flat2 l j hj').2
      rw [addr_add] at this
      rw [hget j hj']; exact this
end Go.Proofs.YtdnfnddlciafmaaGreat
