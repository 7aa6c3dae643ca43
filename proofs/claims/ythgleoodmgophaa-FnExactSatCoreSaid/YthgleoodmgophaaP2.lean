/- What follows clause by clause, in plain Lean: two ways to find what is open in a clause come to the same. -/
import Derived.Test.YthgleoodmgophaaP1
namespace Go.Lead
set_option linter.unusedVariables false
set_option linter.unusedSimpArgs false

/-- What is known is sound in itself. -/
structure Known (v : Int) (set : List Int) : Prop where
  lit : ∀ x ∈ set, x ≠ 0 ∧ -v ≤ x ∧ x ≤ v
  nodup : set.Nodup
  cons : ∀ x ∈ set, -x ∉ set
theorem len_le_of_bound : ∀ (n : Nat) (l : List Int) (a : Int), l.Nodup → (∀ x ∈ l, a ≤ x ∧ x < a + n) → l.length ≤ n := by
  intro n
  induction n with
  | zero =>
    intro l a _ h
    cases l with
    | nil => simp
    | cons x r => have := h x (by simp); omega
  | succ n ih =>
    intro l a hd h
    by_cases hm : (a + n) ∈ l
    · have h1 := ih (l.erase (a + n)) a (hd.erase _) (fun x hx => by
        have hx' := List.mem_of_mem_erase hx
        have := h x hx'
        have hne : x ≠ a + n := fun e => by
          subst e
          exact (List.Nodup.not_mem_erase hd) hx
        omega)
      rw [List.length_erase_of_mem hm] at h1
      omega
    · have := ih l a hd (fun x hx => by
        have h1 := h x hx
        have hne : x ≠ a + n := fun e => hm (e ▸ hx)
        omega)
      omega
theorem Known.len {v : Int} {set : List Int} (k : Known v set) (hv : v ≤ 10) (hv0 : 0 ≤ v) : set.length ≤ 20 := by
  -- the numbers from -v to v without 0
  have h0 : (0 : Int) ∉ set := fun h => (k.lit 0 h).1 rfl
  have h1 := len_le_of_bound 21 (0 :: set) (-10) (List.nodup_cons.2 ⟨h0, k.nodup⟩) (fun x hx => by
    rcases List.mem_cons.1 hx with rfl | hx
    · omega
    · have := k.lit x hx; omega)
  simp only [List.length_cons] at h1
  omega

end Go.Lead
