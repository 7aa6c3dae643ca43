/- What the reference's units compute. -/
import Derived.Test.YthgleoodmgophaaU1
namespace Go.Lead
open Go
set_option linter.unusedSimpArgs false
set_option linter.unusedVariables false

/-- A list that grows, apart from a heap that is kept. -/
structure Grown (h h' : Hp) (t : Sl) (set : List Int) : Prop where
  buf : IBuf h' t set
  le : h.le (h'.offS t)
theorem Grown.keep {h h' : Hp} {t : Sl} {set : List Int} (e : Grown h h' t set) : h.le h' := Hp.le_trans e.le (offS_le _ _)
end Go.Lead
