/- What the reference's making of diagrams computes. -/
import Derived.Test.YthgleoodmgophaaP4
namespace Go.Lead
open Go
set_option linter.unusedSimpArgs false
set_option linter.unusedVariables false

/-- The maker's memory. -/
structure MI (h : Hp) (K : Nat) (vars : Nat) (tb s : Sl) (ns : List Nd) : Prop where
  row : h K = some (.inl ⟨[I vars, tb.v, s.v], 3, false⟩)
  buf : Buf h s 3 (ndCells ns)
  own : ∀ a, s.a = some a → a.block ≠ K
theorem MI.mono {h h' : Hp} {K vars : Nat} {tb s : Sl} {ns : List Nd} (l : h.le h') (e : MI h K vars tb s ns) : MI h' K vars tb s ns := ⟨l _ _ e.row, e.buf.mono l, e.own⟩
theorem MI.len {h : Hp} {K vars : Nat} {tb s : Sl} {ns : List Nd} (e : MI h K vars tb s ns) : s.n = ns.length := by
  have := e.buf.1; rw [ndCells_len] at this; omega
def BoolT (h : Hp) (t : Sl) (n : Nat) (T : Nat → Bool) : Prop := BoolS h t ((List.range n).map T)
theorem BoolT.mono {h h' : Hp} {t : Sl} {n : Nat} {T : Nat → Bool} (l : h.le h') (e : BoolT h t n T) : BoolT h' t n T := BoolS.mono l e
end Go.Lead
