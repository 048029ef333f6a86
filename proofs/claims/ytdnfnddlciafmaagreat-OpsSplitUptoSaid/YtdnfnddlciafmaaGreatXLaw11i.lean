import Derived.Test.YtdnfnddlciafmaaGreatXLaw11d
import Derived.Test.YtdnfnddlciafmaaGreatXOpZc
set_option linter.unusedVariables false
set_option linter.unusedSimpArgs false
namespace Go.Proofs.YtdnfnddlciafmaaGreat
open Go.Cx Tab
set_option maxHeartbeats 400000
set_option maxRecDepth 40000
theorem law_split (f : FSR) (a b : List CallR) (ha : ∀ c ∈ a, c.wf) (hb : ∀ c ∈ b, c.wf) (hl : a.length + b.length ≤ 1048576) : PCall Tryz.prog 6 [encF f, encCalls a, encCalls b] (B true) := by
  have h0 := shown11_ok
  have h1 := few11_ok f
  have h2 := small_ok (a ++ b)
  have h3 := all_ok ((playS f a).2 ++ (playS (playS f a).1 b).2) ((playS f a).2 ++ (playS (playS f a).1 b).2)
  simp only [decide_true] at h3
  have hal : (a ++ b).length = a.length + b.length := List.length_append
  have hfm : (a ++ b).flatMap CallR.enc = a.flatMap CallR.enc ++ b.flatMap CallR.enc := List.flatMap_append
  refine PCall.mkW Tryz.func6 rfl rfl rfl (Ent.mk Tryz.func6 (by kernel_rfl) rfl) (by simp) (by simp) fun hfit => ?_
  refine AW.splitA' (lit := fun _ => false) 3 _ ?_
  simp [Tryz.f6, splitN]
  try simp
  repeat' ((first | ((first | refine Tp ?_ | refine Tn ?_ | refine T2 ?_ ?_) <;> intro hw_ ew_ nw_) | refine Pg h0 ?_ | refine Pg h1 ?_ | rw [Ip] | rw [In] | rw [Fz] | rw [Gz] | fail) <;> first | simp [ew_, nw_] | simp | skip)
  refine AW.wkZ (WkZ.freeze [1] 9 (encCalls (a ++ b)) (by simp; rw [Gz]; simp [hal, hfm])) ?_
  refine AX_ok (lit := fun _ => false) _ _ _ ?_
  simp
  cases q1 : fewOk f with
  | false =>
    have s_ := q1
    try simp [s_]
    repeat' ((first | ((first | refine Tp ?_ | refine Tn ?_ | refine T2 ?_ ?_) <;> intro hw_ ew_ nw_) | rw [Ip] | rw [In] | rw [Fz] | rw [Gz] | fail) <;> first | simp [ew_, nw_, s_] | simp [s_] | skip)
  | true =>
  cases q2 : smallS (a ++ b) with
  | false =>
    rw [q2] at h2
    have s_ := q1
    try simp [s_]
    repeat' ((first | ((first | refine Tp ?_ | refine Tn ?_ | refine T2 ?_ ?_) <;> intro hw_ ew_ nw_) | refine Pg h2 ?_ | rw [Ip] | rw [In] | rw [Fz] | rw [Gz] | fail) <;> first | simp [ew_, nw_, s_] | simp [s_] | skip)
  | true =>
  rw [q2] at h2
  obtain ⟨R, P, hfn, _⟩ := few_right q1
  have hll := smallS_len q2
  rw [hal] at hll
  obtain ⟨kr, kp, kn, kn'⟩ := play_kept a f R P
  have d1 := play_ok f a (by omega) (playOk_of a f R P (by omega) ha)
  have d2 := play_ok (playS f a).1 b (by omega) (playOk_of b _ kr kp (by omega) hb)
  have d3 := play_ok f (a ++ b) (by omega) (playOk_of (a ++ b) f R P (by omega) (fun c hc => (List.mem_append.1 hc).elim (ha c) (hb c)))
  rw [playS_app] at d3
  have s1 := rsame08_ok (playS (playS f a).1 b).1 (playS (playS f a).1 b).1
  simp only [decide_true] at s1
  have n1 := playS_len f a
  have n2 := playS_len (playS f a).1 b
  generalize playS (playS f a).1 b = Y at *
  generalize playS f a = X at *
  have hrl : (X.2 ++ Y.2).length = X.2.length + Y.2.length := List.length_append
  have hrm : (X.2 ++ Y.2).flatMap ReplyR.enc = X.2.flatMap ReplyR.enc ++ Y.2.flatMap ReplyR.enc := List.flatMap_append
  have s_ := And.intro @q1 (And.intro @n1 (And.intro @n2 (And.intro @hrl (And.intro @hrm (@hal)))))
  try simp [s_]
  repeat' ((first | ((first | refine Tp ?_ | refine Tn ?_ | refine T2 ?_ ?_) <;> intro hw_ ew_ nw_) | refine Pg h2 ?_ | refine Pg d1 ?_ | refine Pg d2 ?_ | refine Pg d3 ?_ | refine Pg s1 ?_ | refine Lg h3 ?_ | refine Sg h3 ?_ | rw [Ip] | rw [In] | rw [Fz] | rw [Gz] | fail) <;> first | simp [ew_, nw_, s_] | simp [s_] | skip)
end Go.Proofs.YtdnfnddlciafmaaGreat
