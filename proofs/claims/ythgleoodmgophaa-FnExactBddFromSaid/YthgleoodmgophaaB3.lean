/- Diagrams as results: what both sides tell, and how results are looked at and marked. -/
import Derived.Test.YthgleoodmgophaaB2
namespace Go.Lead
open Go
set_option linter.unusedSimpArgs false
set_option linter.unusedVariables false

/-- A diagram as it is returned, with whether there is one. -/
structure Bd where
  v : Int
  ns : List Nd
  r : Int
  ok : Bool
def noBd : Bd := ⟨0, [], 0, false⟩
def toldP (v : Int) (f : Nat → Bool) : Bd := if 0 ≤ v ∧ v ≤ 13 then (match toldD v.toNat f with | none => noBd | some r => ⟨v, r.2, r.1, true⟩) else noBd

end Go.Lead
