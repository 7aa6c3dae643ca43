/- What both sides' looks at numbers by clauses compute. -/
import Derived.Test.YthgleoodmgophaaS1
namespace Go.Lead
open Go
set_option linter.unusedSimpArgs false
set_option linter.unusedVariables false

/-- A slice of truths. -/
def BoolS (h : Hp) (s : Sl) (xs : List Bool) : Prop := SlC h s 1 (xs.map Value.bool)
theorem BoolS.mono {h h' : Hp} {s : Sl} {xs : List Bool} (l : h.le h') (e : BoolS h s xs) : BoolS h' s xs := SlC.mono l e
theorem BoolS.len {h : Hp} {s : Sl} {xs : List Bool} (e : BoolS h s xs) : s.n = xs.length := by have := e.2.1; simp at this; omega
theorem BoolS.bound {h : Hp} {s : Sl} {xs : List Bool} (e : BoolS h s xs) : xs.length ≤ 9223372036854775807 := by rw [← e.len]; exact e.1
theorem BoolS.at {h : Hp} {s : Sl} {xs : List Bool} (e : BoolS h s xs) {i : Nat} (hi : i < xs.length) :
    ∃ b o, s.a = some (Addr.mk b o none) ∧ Hp.cell h b (o + i) = some (.bool xs[i]) := by
  have hl := e.len
  obtain ⟨b, o, ha, hc⟩ := SlC.get e (by omega)
  exact ⟨b, o, ha, hc i _ (by simp [hi])⟩

theorem LitOk.iff {v n : Int} : LitOk v n = true ↔ n ≠ 0 ∧ -v ≤ n ∧ n ≤ v := by simp [LitOk]

theorem ClauseOk.lit {v : Int} {l : List Int} (e : ClauseOk v l = true) {n : Int} (hn : n ∈ l) : LitOk v n = true := by
  simp only [ClauseOk, Bool.and_eq_true, List.all_eq_true] at e; exact e.2 n hn
theorem ClauseOk.len {v : Int} {l : List Int} (e : ClauseOk v l = true) : l.length ≤ 10 := by
  simp only [ClauseOk, Bool.and_eq_true, decide_eq_true_eq] at e; exact e.1
theorem CnfOkB.iff {v : Int} {c : List (List Int)} : CnfOkB v c = true ↔ (1 ≤ v ∧ v ≤ 10) ∧ c.length ≤ 60 ∧ ∀ l ∈ c, ClauseOk v l = true := by
  simp [CnfOkB, List.all_eq_true]

end Go.Lead
