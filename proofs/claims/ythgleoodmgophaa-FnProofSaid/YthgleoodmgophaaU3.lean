/- What the reference's SatUnits computes. -/
import Derived.Test.YthgleoodmgophaaU2
namespace Go.Lead
open Go
set_option linter.unusedSimpArgs false
set_option linter.unusedVariables false

theorem Grown.own {h h' : Hp} {t : Sl} {set : List Int} (e : Grown h h' t set) (hl : set.length ≤ 1048576) : Own (h'.sub h) t 1 (set.map I) := by
  have hn := e.buf.len
  refine ⟨e.buf.1, by omega, ?_⟩
  rcases e.buf.2.2 with ⟨_, h0, _⟩ | ⟨b, ha, hb⟩
  · exact .inl h0
  · refine .inr ⟨b, t.c * 1, ha, ?_⟩
    rw [sub_at]
    · exact hb
    · refine none_of_le e.le ?_
      simp [Hp.offS, ha, Hp.off, Hp.set]
theorem Grown.start (h : Hp) : Grown h h ⟨none, 0, 0⟩ [] := ⟨buf_nil _ _, Hp.le_refl _⟩

theorem ClauseOk.all {v : Int} {l : List Int} (e : ClauseOk v l = true) : ∀ x ∈ l, x ≠ 0 ∧ -v ≤ x ∧ x ≤ v := fun x hx => LitOk.iff.1 (ClauseOk.lit e hx)

end Go.Lead
