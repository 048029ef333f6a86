/- Tests whose answer is open: both ways, each with its fact. -/
import Derived.Test.YtjelapkglkcoiaaCxR
set_option linter.unusedVariables false
set_option linter.unusedSimpArgs false
namespace Go.Cx
variable {P : Program} {lit : TypeId → Bool} {n : Nat}

section
variable {Q : Exit → AState → Prop} {s : AState} {a b : Code} {p : Prop} [Decidable p] {t : Bool}
theorem condK_dec (h1 : p → p = True → AX P lit n a Q s) (h2 : ¬ p → p = False → AX P lit n b Q s) : condK P lit n a b Q s (.val (.bool (decide p))) := by
  by_cases h : p
  · simpa [h] using h1 h (eq_true h)
  · simpa [h] using h2 h (eq_false h)
theorem condK_ndec (h1 : ¬ p → p = False → AX P lit n a Q s) (h2 : p → p = True → AX P lit n b Q s) : condK P lit n a b Q s (.val (.bool (!decide p))) := by
  by_cases h : p
  · simpa [h] using h2 h (eq_true h)
  · simpa [h] using h1 h (eq_false h)
theorem condK_b (h1 : t = true → t = true → AX P lit n a Q s) (h2 : t = false → t = false → AX P lit n b Q s) : condK P lit n a b Q s (.val (.bool t)) := by
  cases t
  · simpa using h2 rfl rfl
  · simpa using h1 rfl rfl
theorem condK_nb (h1 : t = false → t = false → AX P lit n a Q s) (h2 : t = true → t = true → AX P lit n b Q s) : condK P lit n a b Q s (.val (.bool (!t))) := by
  cases t
  · simpa using h1 rfl rfl
  · simpa using h2 rfl rfl
end

section
variable {o : Oper} {s : AState} {K : AState → Prop} {i : Nat} {want : Bool} {p : Prop} [Decidable p] {t : Bool}
theorem gdK_dec (h1 : p → p = True → gdK P lit o s i want K (.val (.bool true))) (h2 : ¬ p → p = False → gdK P lit o s i want K (.val (.bool false))) : gdK P lit o s i want K (.val (.bool (decide p))) := by
  by_cases h : p
  · simpa [h] using h1 h (eq_true h)
  · simpa [h] using h2 h (eq_false h)
theorem gdK_ndec (h1 : p → p = True → gdK P lit o s i want K (.val (.bool false))) (h2 : ¬ p → p = False → gdK P lit o s i want K (.val (.bool true))) : gdK P lit o s i want K (.val (.bool (!decide p))) := by
  by_cases h : p
  · simpa [h] using h1 h (eq_true h)
  · simpa [h] using h2 h (eq_false h)
theorem gdK_b (h1 : t = true → t = true → gdK P lit o s i want K (.val (.bool true))) (h2 : t = false → t = false → gdK P lit o s i want K (.val (.bool false))) : gdK P lit o s i want K (.val (.bool t)) := by
  cases t
  · exact h2 rfl rfl
  · exact h1 rfl rfl
theorem gdK_nb (h1 : t = false → t = false → gdK P lit o s i want K (.val (.bool true))) (h2 : t = true → t = true → gdK P lit o s i want K (.val (.bool false))) : gdK P lit o s i want K (.val (.bool (!t))) := by
  cases t
  · exact h1 rfl rfl
  · exact h2 rfl rfl
variable {D : List Nat} {cc : CC} {k : Nat}
theorem gdD_dec (h1 : p → p = True → gdD P lit D cc k o s i want K (.val (.bool true))) (h2 : ¬ p → p = False → gdD P lit D cc k o s i want K (.val (.bool false))) : gdD P lit D cc k o s i want K (.val (.bool (decide p))) := by
  by_cases h : p
  · simpa [h] using h1 h (eq_true h)
  · simpa [h] using h2 h (eq_false h)
theorem gdD_ndec (h1 : p → p = True → gdD P lit D cc k o s i want K (.val (.bool false))) (h2 : ¬ p → p = False → gdD P lit D cc k o s i want K (.val (.bool true))) : gdD P lit D cc k o s i want K (.val (.bool (!decide p))) := by
  by_cases h : p
  · simpa [h] using h1 h (eq_true h)
  · simpa [h] using h2 h (eq_false h)
theorem gdD_b (h1 : t = true → t = true → gdD P lit D cc k o s i want K (.val (.bool true))) (h2 : t = false → t = false → gdD P lit D cc k o s i want K (.val (.bool false))) : gdD P lit D cc k o s i want K (.val (.bool t)) := by
  cases t
  · exact h2 rfl rfl
  · exact h1 rfl rfl
theorem gdD_nb (h1 : t = false → t = false → gdD P lit D cc k o s i want K (.val (.bool true))) (h2 : t = true → t = true → gdD P lit D cc k o s i want K (.val (.bool false))) : gdD P lit D cc k o s i want K (.val (.bool (!t))) := by
  cases t
  · exact h1 rfl rfl
  · exact h2 rfl rfl
end
end Go.Cx
