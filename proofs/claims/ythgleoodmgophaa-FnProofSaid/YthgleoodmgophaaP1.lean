/- Diagrams of tables, in plain Lean: how they are laid down, and what their places mean; no program in sight. -/
import Derived.Test.YthgleoodmgophaaVm14
import Derived.Test.YthgleoodmgophaaFn0
import Derived.Test.YthgleoodmgophaaFn1
namespace Go.Lead
set_option linter.unusedVariables false

/-- A node of a diagram. -/
structure Nd where
  v : Nat
  lo : Nat
  hi : Nat
  deriving DecidableEq, Repr

/-- The place of a node, laid down if it is not there. -/
def putNd (n : Nd) (ns : List Nd) : Nat × List Nd := match ns.idxOf? n with | some i => (i + 2, ns) | none => (ns.length + 2, ns ++ [n])
/-- The place of a table of 2^n truths. -/
def mkD : Nat → (Nat → Bool) → Nat → List Nd → Nat × List Nd
  | 0, f, _, ns => (if f 0 then 1 else 0, ns)
  | n + 1, f, low, ns =>
    let r1 := mkD n (fun i => f (2 * i)) (low + 1) ns
    let r2 := mkD n (fun i => f (2 * i + 1)) (low + 1) r1.2
    if r1.1 = r2.1 then r2 else putNd ⟨low, r1.1, r2.1⟩ r2.2

end Go.Lead
