/- Diagrams as results: what both sides tell, and how results are looked at and marked. -/
import Derived.Test.YthcnlmahlmndhaaB2
namespace Go.Lead
open Go
set_option linter.unusedSimpArgs false
set_option linter.unusedVariables false

/-- A diagram as it is returned, with whether there is one. -/
structure Bd where
  v : Int
  ns : List Nd
  r : Int
  ok : Bool
def noBd : Bd := ⟨0, [], 0, false⟩
def toldP (v : Int) (f : Nat → Bool) : Bd := if 0 ≤ v ∧ v ≤ 13 then (match toldD v.toNat f with | none => noBd | some r => ⟨v, r.2, r.1, true⟩) else noBd

theorem toldP_spec {h : Hp} {v : Int} {fid : FuncId} {u w : Array Value} {f : Nat → Bool} {R : Value → Hp → Prop}
    (hf : 0 ≤ v → v ≤ 13 → Asks h fid u w (2 ^ v.toNat) f)
    (k : ∀ s h', h.le h' → Own (h'.sub h) s 3 (ndCells (toldP v f).ns) → R (.tuple #[.agg #[I (toldP v f).v, Sl.v s, I (toldP v f).r], .bool (toldP v f).ok]) h') :
    c_impl_told #[I v, .func (.func fid) u w] h R := by
  refine told_spec hf (fun hno => ?_) (fun hv r hr s h' l ho => ?_)
  · have e : toldP v f = noBd := by
      unfold toldP
      rcases hno with h | h
      · rw [if_neg h]
      · split
        · rw [h]
        · rfl
    rw [e] at k
    exact k ⟨none, 0, 0⟩ h (Hp.le_refl _) (own_nil _ _)
  · have e : toldP v f = ⟨v, r.2, r.1, true⟩ := by unfold toldP; rw [if_pos hv, hr]
    rw [e] at k
    exact k s h' l ho

theorem toldP_const (v : Int) (b : Bool) : toldP v (fun _ => b) = if 0 ≤ v ∧ v ≤ 13 then ⟨v, [], if b then 1 else 0, true⟩ else noBd := by
  unfold toldP toldD
  simp only [mkD_const]
  split
  · cases b <;> simp
  · rfl
theorem spec_BddConst_spec {h : Hp} {v : Int} {b : Bool} {R : Value → Hp → Prop}
    (k : ∀ s h', h.le h' → Own (h'.sub h) s 3 (ndCells (toldP v fun _ => b).ns) → R (.tuple #[.agg #[I (toldP v fun _ => b).v, Sl.v s, I (toldP v fun _ => b).r], .bool (toldP v fun _ => b).ok]) h') :
    c_spec_BddConst #[I v, .bool b] h R := by
  refine ACalls.drop (R_spec_BddConst ?_)
  unfold F_spec_BddConst
  intro b1 hb1
  have l0 := le_row [I 0, .slice none 0 0, I 0] 3 hb1
  simp only [vm, mm]
  rw [toldP_const] at k
  refine l7Vars_spec ⟨_, rfl, bsplit_of (fun e => ?_) (fun e => ?_)⟩
  · have e' : ¬ (0 ≤ v ∧ v ≤ 13) := by simp at e; omega
    rw [if_neg e'] at k
    simp only [vm, mm]
    exact ⟨by omega, _, l0, k ⟨none, 0, 0⟩ h (Hp.le_refl _) (own_nil _ _)⟩
  · have e' : 0 ≤ v ∧ v ≤ 13 := by simpa using e
    rw [if_pos e'] at k
    refine R_spec_l1Yes ?_
    unfold F_spec_l1Yes
    simp only [vm, mm]
    have := k ⟨none, 0, 0⟩ h (Hp.le_refl _) (own_nil _ _)
    cases b
    · exact ⟨_, rfl, by omega, _, le_row _ _ hb1, this⟩
    · exact ⟨_, rfl, by omega, _, le_row _ _ hb1, this⟩

theorem impl_BddConst_spec {h : Hp} {v : Int} {b : Bool} {R : Value → Hp → Prop}
    (k : ∀ s h', h.le h' → Own (h'.sub h) s 3 (ndCells (toldP v fun _ => b).ns) → R (.tuple #[.agg #[I (toldP v fun _ => b).v, Sl.v s, I (toldP v fun _ => b).r], .bool (toldP v fun _ => b).ok]) h') :
    c_impl_BddConst #[I v, .bool b] h R := by
  apply R_impl_BddConst
  unfold F_impl_BddConst
  intro b1 hb1
  simp only [vm, mm]
  rintro b2 ⟨n21, hb2⟩
  have n12 := n21.symm
  have l0 := le_row_of [I 0, .slice none 0 0, I 0] 3 hb2 (le_row [.bool b] 1 hb1)
  refine toldP_spec (f := fun _ => b) (fun _ _ i hi h' l R k => ?_) fun s h1 l1 ho => ⟨_, _, _, _, rfl, ?_⟩
  · refine R_impl_BddConst_d1 (b2 := b1) (o3 := 0) ?_
    unfold F_impl_BddConst_d1
    simp only [vm, mm, cell_of (l _ _ ((row_ne _ _ n12).trans (row_self ..)))]
    exact k
  · have f1 := l1 _ _ (row_self ..)
    simp only [vm, mm, f1]
    refine ⟨by omega, k s _ (le_row_of _ _ hb2 (Hp.le_trans l0 l1)) (ho.mono ?_)⟩
    exact keep_row _ _ (sub_none (row_self ..)) (sub_anti _ l0)

end Go.Lead
