/- The walk of the law of units. -/
import Derived.Test.YthgleoodmgophaaP6
namespace Go.Lead
open Go
set_option linter.unusedSimpArgs false
set_option linter.unusedVariables false

theorem GrownD.start1 {h H : Hp} {b1 b2 bw : Nat} {v y : Int} (f1 : h b1 = none) (f2 : h b2 = none) (fw : h bw = none) (n12 : b1 ≠ b2) (n1w : b1 ≠ bw) (n2w : b2 ≠ bw) (l : h.le H)
    (r1 : H b1 = some (.inl ⟨[I y], 1, false⟩)) (r2 : H b2 = some (.inl ⟨[.slice (some ⟨b1, 0, none⟩) 1 1], 1, false⟩)) (rw : H bw = some (.inl ⟨[I v, .slice (some ⟨b2, 0, none⟩) 1 1], 2, false⟩)) :
    GrownD (h.row b1 [I y] 1) H bw v ⟨some ⟨b2, 0, none⟩, 1, 1⟩ [[y]] := by
  refine ⟨⟨[⟨some ⟨b1, 0, none⟩, 1, 1⟩], ⟨by simp, by simp, .inr ⟨b2, rfl, r2⟩⟩, rfl, ?_⟩, ?_, rw, by rw [row_ne _ _ n1w.symm]; exact fw, fun a ha => by cases ha; exact n2w⟩
  · intro i h1 h2
    have : i = 0 := by simp at h1; omega
    subst this
    exact ⟨by simp, by simp, .inr ⟨b1, 0, rfl, cellsAre_of (row_self ..)⟩⟩
  · intro c x hc
    by_cases hc1 : c = b1
    · subst hc1
      rw [row_self] at hc
      rw [offS_at (fun a ha => by cases ha; exact n12.symm), r1]; exact hc
    · rw [row_ne _ _ hc1] at hc
      have hc2 : c ≠ b2 := fun hh => by rw [hh, f2] at hc; cases hc
      rw [offS_at (fun a ha => by cases ha; exact hc2.symm)]
      exact l _ _ hc

end Go.Lead
