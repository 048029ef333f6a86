/- File systems' texts, told. -/
import Derived.Test.YtilmfmjcemfoeaaTreF
import Derived.Test.YtilmfmjcemfoeaaNodB
import Derived.Test.YtilmfmjcemfoeaaBldA
import Derived.Test.YtilmfmjcemfoeaaBD
set_option linter.unusedVariables false
set_option linter.unusedSimpArgs false
namespace Go.Proofs.Ytilmfmjcemfoeaa
open Go.Cx Tab
set_option maxHeartbeats 400000
set_option maxRecDepth 40000

theorem ttext_ok (f : FSR) (hw : f.wf) (hl : (treeL f).length ≤ 1099511627776) (hn : f.l.length ≤ 1000000) : PCall Try.prog 8 [encF f] (S (T (treeL f))) := by
  refine PCall.mk (fun _ => false) Try.func8 rfl rfl rfl (Ent.mk Try.func8 (by kernel_rfl) rfl) (by simp) (by simp) fun hfit => ?_
  obtain ⟨w1, w2⟩ := hw
  have b1 := numL_10 (foldS_lt w2)
  have b2 := numL_10 (n := f.l.length) (by omega)
  obtain ⟨hd, hhd⟩ : ∃ hd, whl f.next ++ numL f.l.length = hd := ⟨_, rfl⟩
  have hhl : hd.length + (f.l.flatMap nodeL).length ≤ 1099511627776 := by rw [← hhd, ← List.length_append]; exact hl
  have hh0 : 0 < hd.length := by have := numL_pos f.l.length; rw [← hhd]; simp only [List.length_append]; omega
  have htl : treeL f = hd ++ f.l.flatMap nodeL := by rw [← hhd]; rfl
  have e : (f.l.length : Int) % 18446744073709551616 = (f.l.length : Int) := by omega
  simp [FSR.enc] at hfit
  simp [Try.f8, FSR.enc]
  refine AW.wk (Wk.ownNilTyped 1 0 1 1 49 5 rfl rfl) ?_
  simp
  refine AW.draw (id := 2) Try.checked.mixed (fun _ => false) [] [(10, .e)] 11 (by kernel_rfl) ?_
  simp
  refine ADcall.pure (fold_ok f.next w2) rfl ?_
  simp
  refine ADcall.pure (num_ok (foldS f.next) (foldS_lt w2)) rfl ?_
  simp [e]
  refine ADcall.pure (num_ok f.l.length (by omega)) rfl ?_
  simp [T_app, T_size]
  rw [if_pos (by omega)]
  simp
  refine ADcall.heap [1, 2] (wstr_ok (.val (.pointer none)) (.inl rfl) 0 ByteArray.empty (T hd) (by simp [T_size]; omega) (by simp [T_size]; omega)) ?_ ?_ ?_
  · simp [← hhd, whl]
  · simp
  simp
  refine AW.loopG (lit := fun _ => false) (fun i : Nat => ⟨29, pat [(1, .ptr 0 0 0), (3, .ptr 1 0 0), (18, encL NodeR.enc f.l), (19, I f.l.length), (20, I i)], [.cells 0 f.enc, .typed 49 0 [.ptr 1 0 0, .own 2 (i + 1) 0 (hd ++ (f.l.take i).flatMap nodeL).length 1], .typed 5 (i + 1) (bytesA (T (hd ++ (f.l.take i).flatMap nodeL)))]⟩) (fun i => f.l.length - i) (fun i => i ≤ f.l.length) 0 ?_ ?_ ?_
  · exact Wk.at _ rfl (by simp [FSR.enc, T_size]) (by simp [T_size])
  · simp
  intro i hi A hA
  by_cases h : i < f.l.length
  case neg =>
    have : f.l.take i = f.l := List.take_of_length_le (by omega)
    simp [h, this]
    refine AInv.heap [1, 2] (bstr_ok (i + 1) (T (hd ++ f.l.flatMap nodeL)) (by rw [T_size, List.length_append]; omega) (by rw [T_size, List.length_append]; omega)) ?_ ?_ ?_
    · simp
    · simp [T_size]
    simp [htl]
  have hx := w1 f.l[i] (List.getElem_mem h)
  have hpre : hd.length + ((f.l.take i).flatMap nodeL).length + (nodeL f.l[i]).length ≤ 1099511627776 := by
    have e1 : f.l = f.l.take i ++ f.l[i] :: f.l.drop (i + 1) := by rw [← List.drop_eq_getElem_cons h, List.take_append_drop]
    have e2 := congrArg (fun l => (l.flatMap nodeL).length) e1
    simp only [List.flatMap_append, List.flatMap_cons, List.length_append] at e2
    omega
  have he : (f.l.take (i + 1)).flatMap nodeL = (f.l.take i).flatMap nodeL ++ nodeL f.l[i] := by rw [List.take_succ_eq_append_getElem h, List.flatMap_append, List.flatMap_cons, List.flatMap_nil, List.append_nil]
  have hpos : 0 < (nodeL f.l[i]).length := by
    have := numL_pos (foldS f.l[i].ino)
    simp only [nodeL, headL, whl, List.length_append]; omega
  have hw2 : IntKind.i64.wrap ((i : Int) + 1) = ((i + 1 : Nat) : Int) := by rw [wrap_id (by omega) (by omega)]; omega
  generalize hp : (f.l.take i).flatMap nodeL = p at *
  simp [h]
  refine AInv.pure (ntext_ok f.l[i] hx (by omega)) rfl ?_
  simp
  refine AInv.heap [1, 2] (wstr_ok (.ptr 0 0 0) (.inr rfl) (i + 1) (T (hd ++ p)) (T (nodeL f.l[i])) (by simp [T_size]; omega) (by simp [T_size]; omega)) ?_ ?_ ?_
  · simp
  · simp [T_size]
  simp [hw2]
  refine hA (i + 1) _ (Wk.cutAt _ rfl (by simp) ?_ (by simp) (by simp)) (by omega) (by omega)
  simp [he, T_size, T_app, Nat.add_assoc]
end Go.Proofs.Ytilmfmjcemfoeaa
