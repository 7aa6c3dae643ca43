/- What is needful of some, in plain Lean. -/
import Derived.Test.YthgleoodmgophaaP2
namespace Go.Lead
set_option linter.unusedVariables false

/-- What is kept after so many steps, each of which leaves one out if the rest is bad still. -/
def keptP (bad : List Nat → Bool) (n : Nat) : Nat → List Nat
  | 0 => []
  | i + 1 => if bad (keptP bad n i ++ (List.range n).drop (i + 1)) then keptP bad n i else keptP bad n i ++ [i]
theorem keptP_lt (bad : List Nat → Bool) (n : Nat) : ∀ i, ∀ x ∈ keptP bad n i, x < i := by
  intro i
  induction i with
  | zero => simp [keptP]
  | succ i ih =>
    intro x hx
    simp only [keptP] at hx
    split at hx
    · have := ih x hx; omega
    · rcases List.mem_append.1 hx with h | h
      · have := ih x h; omega
      · simp at h; omega
theorem keptP_len (bad : List Nat → Bool) (n : Nat) : ∀ i, (keptP bad n i).length ≤ i := by
  intro i
  induction i with
  | zero => simp [keptP]
  | succ i ih => simp only [keptP]; split <;> (try simp only [List.length_append, List.length_cons, List.length_nil]) <;> omega
theorem mem_range_drop {n i x : Nat} : x ∈ (List.range n).drop i ↔ i ≤ x ∧ x < n := by
  rw [List.mem_drop_iff_getElem]
  constructor
  · rintro ⟨j, hj, rfl⟩
    simp at hj ⊢; omega
  · rintro ⟨h1, h2⟩
    exact ⟨x - i, by simp; omega, by simp; omega⟩
end Go.Lead
