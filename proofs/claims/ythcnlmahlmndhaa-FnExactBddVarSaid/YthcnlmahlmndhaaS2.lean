/- What both sides' looks at numbers by clauses compute. -/
import Derived.Test.YthcnlmahlmndhaaS1
namespace Go.Lead
open Go
set_option linter.unusedSimpArgs false
set_option linter.unusedVariables false

/-- A slice of truths. -/
def BoolS (h : Hp) (s : Sl) (xs : List Bool) : Prop := SlC h s 1 (xs.map Value.bool)
theorem BoolS.mono {h h' : Hp} {s : Sl} {xs : List Bool} (l : h.le h') (e : BoolS h s xs) : BoolS h' s xs := SlC.mono l e
theorem BoolS.len {h : Hp} {s : Sl} {xs : List Bool} (e : BoolS h s xs) : s.n = xs.length := by have := e.2.1; simp at this; omega
theorem BoolS.at {h : Hp} {s : Sl} {xs : List Bool} (e : BoolS h s xs) {i : Nat} (hi : i < xs.length) :
    ∃ b o, s.a = some (Addr.mk b o none) ∧ Hp.cell h b (o + i) = some (.bool xs[i]) := by
  have hl := e.len
  obtain ⟨b, o, ha, hc⟩ := SlC.get e (by omega)
  exact ⟨b, o, ha, hc i _ (by simp [hi])⟩

theorem ClauseOk.len {v : Int} {l : List Int} (e : ClauseOk v l = true) : l.length ≤ 10 := by
  simp only [ClauseOk, Bool.and_eq_true, decide_eq_true_eq] at e; exact e.1
end Go.Lead
