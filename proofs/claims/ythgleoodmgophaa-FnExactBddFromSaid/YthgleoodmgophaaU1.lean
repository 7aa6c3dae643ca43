/- What the reference's look for what follows computes. -/
import Derived.Test.YthgleoodmgophaaB4
namespace Go.Lead
open Go
set_option linter.unusedSimpArgs false
set_option linter.unusedVariables false

/-- A list of numbers of one's own that grows. -/
def IBuf (h : Hp) (s : Sl) (xs : List Int) : Prop := Buf h s 1 (xs.map I)
theorem IBuf.len {h : Hp} {s : Sl} {xs : List Int} (e : IBuf h s xs) : s.n = xs.length := by have := e.1; simp at this; omega
theorem IBuf.mono {h h' : Hp} {s : Sl} {xs : List Int} (l : h.le h') (e : IBuf h s xs) : IBuf h' s xs := Buf.mono l e
end Go.Lead
