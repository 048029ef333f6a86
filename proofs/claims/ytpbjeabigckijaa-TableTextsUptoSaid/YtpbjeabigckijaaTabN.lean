/- Numbers, taken one by one. -/
import Derived.Test.YtpbjeabigckijaaTabM
import Derived.Test.YtpbjeabigckijaaTabF
import Derived.Test.YtpbjeabigckijaaBi
set_option linter.unusedVariables false
set_option linter.unusedSimpArgs false
namespace Go.Proofs.Ytpbjeabigckijaa
open Go.Cx Tab
set_option maxHeartbeats 400000
set_option maxRecDepth 40000

theorem num_taker (ver : Nat) (s : List UInt8) (e : Int) (most : Nat) (hm : most < 18446744073709551616) (hx : AHeap) (hl : s.length ≤ 1099511627776) (hh : hx.all (ABlk.refsLt (hx.length + 1)) = true) :
    HCall Try.prog 47 [.ptr 0 ver 0, U most] (.cells ver [S (T s), I e] :: hx) (U (numM most (s, e)).1) (.cells ver [S (T (numM most (s, e)).2.1), I (numM most (s, e)).2.2] :: hx) := by
  refine HCall.mk' (fun _ => false) Try.func47 rfl rfl rfl (Ent.mk Try.func47 (by kernel_rfl) rfl) (by simp [hh]) (by simp [hh]) (by simp [hh]) (by simp [hh]) (by simp [hh]) fun hfit => ?_
  have h1 : e = 0 ∨ ¬ e = 0 := Classical.em _
  rcases h1 with rfl | h1
  · have q := takeNum_ok s hl
    simp only [numM, if_true]
    generalize takeS s = x at *
    obtain ⟨n, r, y⟩ := x
    simp only at q ⊢
    by_cases h2 : y = 0
    · subst h2
      by_cases h3 : most < n
      · have h4 : (most : Int) < n := by omega
        try simp [Try.f47, PostA_n, hh, h3, h4]
        repeat' (first
          | ((first | refine Tst.go (fun hw_ ew_ => ?_) (fun hw_ ew_ => ?_)) <;> first | (exfalso; first | omega | with_reducible exact hw_ (by assumption) | with_reducible exact absurd hw_ (by assumption)) | (have nw_ := Nw.nw hw_; simp [ew_, nw_, Try.f47, PostA_n, hh, h3, h4]) | simp [ew_, Try.f47, PostA_n, hh, h3, h4])
          | ((first | (refine Pc.go (q) ?_ ?_; focus (first | rfl | (simp [Try.f47, PostA_n, hh, h3, h4]; done))) | rw [if_pos (by first | omega | (simp only [maxLen]; omega))] | rw [if_neg (by first | omega | (simp only [maxLen]; omega))] | rw [frzOwn_neat (by simp) (by simp <;> omega)] | rw [fzOwn_neat (by simp) (by simp <;> omega)]); try simp [Try.f47, PostA_n, hh, h3, h4])
          | ((first | refine TstB.go (fun hw_ ew_ => ?_) (fun hw_ ew_ => ?_)) <;> first | (exfalso; first | omega | with_reducible exact hw_ (by assumption) | with_reducible exact absurd hw_ (by assumption)) | simp [ew_, Try.f47, PostA_n, hh, h3, h4])
          | fail)
      · have h4 : ¬ (most : Int) < n := by omega
        try simp [Try.f47, PostA_n, hh, h3, h4]
        repeat' (first
          | ((first | refine Tst.go (fun hw_ ew_ => ?_) (fun hw_ ew_ => ?_)) <;> first | (exfalso; first | omega | with_reducible exact hw_ (by assumption) | with_reducible exact absurd hw_ (by assumption)) | (have nw_ := Nw.nw hw_; simp [ew_, nw_, Try.f47, PostA_n, hh, h3, h4]) | simp [ew_, Try.f47, PostA_n, hh, h3, h4])
          | ((first | (refine Pc.go (q) ?_ ?_; focus (first | rfl | (simp [Try.f47, PostA_n, hh, h3, h4]; done))) | rw [if_pos (by first | omega | (simp only [maxLen]; omega))] | rw [if_neg (by first | omega | (simp only [maxLen]; omega))] | rw [frzOwn_neat (by simp) (by simp <;> omega)] | rw [fzOwn_neat (by simp) (by simp <;> omega)]); try simp [Try.f47, PostA_n, hh, h3, h4])
          | ((first | refine TstB.go (fun hw_ ew_ => ?_) (fun hw_ ew_ => ?_)) <;> first | (exfalso; first | omega | with_reducible exact hw_ (by assumption) | with_reducible exact absurd hw_ (by assumption)) | simp [ew_, Try.f47, PostA_n, hh, h3, h4])
          | fail)
    · try simp [Try.f47, PostA_n, hh, h2]
      repeat' (first
        | ((first | refine Tst.go (fun hw_ ew_ => ?_) (fun hw_ ew_ => ?_)) <;> first | (exfalso; first | omega | with_reducible exact hw_ (by assumption) | with_reducible exact absurd hw_ (by assumption)) | (have nw_ := Nw.nw hw_; simp [ew_, nw_, Try.f47, PostA_n, hh, h2]) | simp [ew_, Try.f47, PostA_n, hh, h2])
        | ((first | (refine Pc.go (q) ?_ ?_; focus (first | rfl | (simp [Try.f47, PostA_n, hh, h2]; done))) | rw [if_pos (by first | omega | (simp only [maxLen]; omega))] | rw [if_neg (by first | omega | (simp only [maxLen]; omega))] | rw [frzOwn_neat (by simp) (by simp <;> omega)] | rw [fzOwn_neat (by simp) (by simp <;> omega)]); try simp [Try.f47, PostA_n, hh, h2])
        | ((first | refine TstB.go (fun hw_ ew_ => ?_) (fun hw_ ew_ => ?_)) <;> first | (exfalso; first | omega | with_reducible exact hw_ (by assumption) | with_reducible exact absurd hw_ (by assumption)) | simp [ew_, Try.f47, PostA_n, hh, h2])
        | fail)
  · try simp [Try.f47, numM, h1, PostA_n, hh]
    repeat' (first
      | ((first | refine Tst.go (fun hw_ ew_ => ?_) (fun hw_ ew_ => ?_)) <;> first | (exfalso; first | omega | with_reducible exact hw_ (by assumption) | with_reducible exact absurd hw_ (by assumption)) | (have nw_ := Nw.nw hw_; simp [ew_, nw_, Try.f47, numM, h1, PostA_n, hh]) | simp [ew_, Try.f47, numM, h1, PostA_n, hh])
      | ((first | rw [if_pos (by first | omega | (simp only [maxLen]; omega))] | rw [if_neg (by first | omega | (simp only [maxLen]; omega))] | rw [frzOwn_neat (by simp) (by simp <;> omega)] | rw [fzOwn_neat (by simp) (by simp <;> omega)]); try simp [Try.f47, numM, h1, PostA_n, hh])
      | ((first | refine TstB.go (fun hw_ ew_ => ?_) (fun hw_ ew_ => ?_)) <;> first | (exfalso; first | omega | with_reducible exact hw_ (by assumption) | with_reducible exact absurd hw_ (by assumption)) | simp [ew_, Try.f47, numM, h1, PostA_n, hh])
      | fail)
theorem whole_taker (ver : Nat) (s : List UInt8) (e : Int) (hx : AHeap) (hl : s.length ≤ 1099511627776) (hh : hx.all (ABlk.refsLt (hx.length + 1)) = true) :
    HCall Try.prog 48 [.ptr 0 ver 0] (.cells ver [S (T s), I e] :: hx) (I (unfoldS (numR (s, e)).1)) (.cells ver [S (T (numR (s, e)).2.1), I (numR (s, e)).2.2] :: hx) := by
  have q := num_taker ver s e 18446744073709551615 (by omega) hx hl hh
  rw [numM_big (Nat.le_refl _)] at q
  refine HCall.mk' (fun _ => false) Try.func48 rfl rfl rfl (Ent.mk Try.func48 (by kernel_rfl) rfl) (by simp [hh]) (by simp [hh]) (by simp [hh]) (by simp [hh]) (by simp [hh]) fun hfit => ?_
  simp [Try.f48]
  refine AInv.same q rfl ?_
  try simp [PostA_n, hh]
  repeat' (first
    | ((first | refine Tst.go (fun hw_ ew_ => ?_) (fun hw_ ew_ => ?_)) <;> first | (exfalso; first | omega | with_reducible exact hw_ (by assumption) | with_reducible exact absurd hw_ (by assumption)) | (have nw_ := Nw.nw hw_; simp [ew_, nw_, PostA_n, hh]) | simp [ew_, PostA_n, hh])
    | ((first | (refine Pc.go (unfold_ok (numR (s, e)).1 (numR_lt (s, e))) ?_ ?_; focus (first | rfl | (simp [PostA_n, hh]; done))) | rw [if_pos (by first | omega | (simp only [maxLen]; omega))] | rw [if_neg (by first | omega | (simp only [maxLen]; omega))] | rw [frzOwn_neat (by simp) (by simp <;> omega)] | rw [fzOwn_neat (by simp) (by simp <;> omega)]); try simp [PostA_n, hh])
    | ((first | refine TstB.go (fun hw_ ew_ => ?_) (fun hw_ ew_ => ?_)) <;> first | (exfalso; first | omega | with_reducible exact hw_ (by assumption) | with_reducible exact absurd hw_ (by assumption)) | simp [ew_, PostA_n, hh])
    | fail)
end Go.Proofs.Ytpbjeabigckijaa
