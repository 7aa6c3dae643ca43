/- Diagrams as results: what both sides tell, and how results are looked at and marked. -/
import Derived.Test.YthgleoodmgophaaB2
namespace Go.Lead
open Go
set_option linter.unusedSimpArgs false
set_option linter.unusedVariables false

/-- A diagram as it is returned, with whether there is one. -/
structure Bd where
  v : Int
  ns : List Nd
  r : Int
  ok : Bool
def noBd : Bd := ⟨0, [], 0, false⟩
def toldP (v : Int) (f : Nat → Bool) : Bd := if 0 ≤ v ∧ v ≤ 13 then (match toldD v.toNat f with | none => noBd | some r => ⟨v, r.2, r.1, true⟩) else noBd

theorem toldP_spec {h : Hp} {v : Int} {fid : FuncId} {u w : Array Value} {f : Nat → Bool} {R : Value → Hp → Prop}
    (hf : 0 ≤ v → v ≤ 13 → Asks h fid u w (2 ^ v.toNat) f)
    (k : ∀ s h', h.le h' → Own (h'.sub h) s 3 (ndCells (toldP v f).ns) → R (.tuple #[.agg #[I (toldP v f).v, Sl.v s, I (toldP v f).r], .bool (toldP v f).ok]) h') :
    c_impl_told #[I v, .func (.func fid) u w] h R := by
  refine told_spec hf (fun hno => ?_) (fun hv r hr s h' l ho => ?_)
  · have e : toldP v f = noBd := by
      unfold toldP
      rcases hno with h | h
      · rw [if_neg h]
      · split
        · rw [h]
        · rfl
    rw [e] at k
    exact k ⟨none, 0, 0⟩ h (Hp.le_refl _) (own_nil _ _)
  · have e : toldP v f = ⟨v, r.2, r.1, true⟩ := by unfold toldP; rw [if_pos hv, hr]
    rw [e] at k
    exact k s h' l ho

end Go.Lead
