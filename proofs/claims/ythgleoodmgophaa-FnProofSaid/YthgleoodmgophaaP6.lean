/- What follows clause by clause follows. -/
import Derived.Test.YthgleoodmgophaaP5
namespace Go.Lead
set_option linter.unusedVariables false
set_option linter.unusedSimpArgs false

theorem satLeast_pos {v : Int} {cls : List (List Int)} (h : satLeast v cls ≥ 0) : CnfOkB v cls = true ∧ ∃ c, c < 2 ^ v.toNat ∧ AllB cls c = true := by
  unfold satLeast at h
  split at h
  · rename_i hok; exact ⟨hok, leastI_pos.1 h⟩
  · omega
theorem CnfOkB.wf {v : Int} {cls : List (List Int)} (h : CnfOkB v cls = true) : WfC v cls := fun l hl => ClauseOk.all ((CnfOkB.iff.1 h).2.2 l hl)
end Go.Lead
