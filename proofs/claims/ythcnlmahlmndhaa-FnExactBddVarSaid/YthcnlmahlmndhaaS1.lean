/- What the small helpers of the laws compute. -/
import Derived.Test.YthcnlmahlmndhaaP1
namespace Go.Lead
open Go
set_option linter.unusedSimpArgs false
set_option linter.unusedVariables false

theorem l1In_spec {h : Hp} {x a b : Int} {R : Value → Hp → Prop} (k : R (.bool (decide (a ≤ x ∧ x ≤ b))) h) : c_spec_l1In #[I x, I a, I b] h R := by
  apply R_spec_l1In
  unfold F_spec_l1In
  refine bsplit_of (fun e => ?_) (fun e => ?_)
  · simp at e; simpa [e] using k
  · simp at e; rwa [decide_eq_false (by omega)] at k
theorem in_spec {h : Hp} {x a b : Int} {R : Value → Hp → Prop} (k : R (.bool (decide (a ≤ x ∧ x ≤ b))) h) : c_impl_in #[I x, I a, I b] h R := by
  apply R_impl_in
  unfold F_impl_in
  refine bsplit_of (fun e => ?_) (fun e => ?_)
  · simp at e; simpa [e] using k
  · simp at e; rwa [decide_eq_false (by omega)] at k

/-- A literal of so many variables. -/
def LitOk (vars n : Int) : Bool := decide (n ≠ 0 ∧ -vars ≤ n ∧ n ≤ vars)
def ClauseOk (vars : Int) (l : List Int) : Bool := decide (l.length ≤ 10) && l.all (LitOk vars)
end Go.Lead
