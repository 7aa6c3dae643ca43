/- What the program's units compute. -/
import Derived.Test.YthgleoodmgophaaU3
namespace Go.Lead
open Go
set_option linter.unusedSimpArgs false
set_option linter.unusedVariables false

/-- A map's entries that say yes to each of some numbers. -/
def setEs (set : List Int) : List (Value × Value) := set.map fun x => (I x, .bool true)
/-- What is known, in a map of one's own. -/
structure MapG (h h' : Hp) (rm : Nat) (set : List Int) : Prop where
  map : h' rm = some (.inr (setEs set))
  le : h.le h'
  new : h rm = none
theorem MapG.put {h h' : Hp} {rm : Nat} {set set' : List Int} (e : MapG h h' rm set) : MapG h (h'.set rm (some (.inr (setEs set')))) rm set' :=
  ⟨Hp.set_eq .., le_set_of _ e.le e.new, e.new⟩

end Go.Lead
