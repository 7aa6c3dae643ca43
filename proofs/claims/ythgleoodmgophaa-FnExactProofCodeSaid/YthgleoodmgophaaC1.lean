/- Copies of lists of numbers, and lists without some. -/
import Derived.Test.YthgleoodmgophaaS2
namespace Go.Lead
open Go
set_option linter.unusedSimpArgs false
set_option linter.unusedVariables false

theorem IntS.slc {h : Hp} {s : Sl} {xs : List Int} (e : IntS h s xs) : SlC h s 1 (xs.map I) := e

end Go.Lead
