/- A core cannot hold, and nothing of it is needless. -/
import Derived.Test.YthgleoodmgophaaG2
namespace Go.Lead
set_option linter.unusedVariables false
set_option linter.unusedSimpArgs false

theorem leastI_neg {p : Nat → Bool} {n : Nat} : leastI p n < 0 ↔ ∀ i, i < n → p i = false := by
  have h := idxI_ge p (List.range n)
  have hr := leastI_lt p n
  unfold leastI at hr ⊢
  constructor
  · intro hl i hi
    have : (List.range n).any p = false := by rw [← h]; simpa using hl
    rw [List.any_eq_false] at this
    simpa using this i (by simpa using hi)
  · intro hall
    have : (List.range n).any p = false := by
      rw [List.any_eq_false]; intro x hx; simp [hall x (by simpa using hx)]
    rw [this] at h
    simpa using h
theorem leastI_pos {p : Nat → Bool} {n : Nat} : 0 ≤ leastI p n ↔ ∃ i, i < n ∧ p i = true := by
  constructor
  · intro h
    have hn : ¬ leastI p n < 0 := by omega
    rw [leastI_neg] at hn
    simp only [Classical.not_forall] at hn
    obtain ⟨i, hi, hp⟩ := hn
    exact ⟨i, hi, by simpa using hp⟩
  · rintro ⟨i, hi, hp⟩
    cases Int.lt_or_le (leastI p n) 0 with
    | inl h => rw [leastI_neg] at h; rw [h i hi] at hp; cases hp
    | inr h => exact h

end Go.Lead
