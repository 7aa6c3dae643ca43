/- Diagrams as results: what both sides tell, and how results are looked at and marked. -/
import Derived.Test.YthcnlmahlmndhaaB2
namespace Go.Lead
open Go
set_option linter.unusedSimpArgs false
set_option linter.unusedVariables false

/-- A diagram as it is returned, with whether there is one. -/
structure Bd where
  v : Int
  ns : List Nd
  r : Int
  ok : Bool
def noBd : Bd := ⟨0, [], 0, false⟩
def toldP (v : Int) (f : Nat → Bool) : Bd := if 0 ≤ v ∧ v ≤ 13 then (match toldD v.toNat f with | none => noBd | some r => ⟨v, r.2, r.1, true⟩) else noBd

theorem toldP_spec {h : Hp} {v : Int} {fid : FuncId} {u w : Array Value} {f : Nat → Bool} {R : Value → Hp → Prop}
    (hf : 0 ≤ v → v ≤ 13 → Asks h fid u w (2 ^ v.toNat) f)
    (k : ∀ s h', h.le h' → Own (h'.sub h) s 3 (ndCells (toldP v f).ns) → R (.tuple #[.agg #[I (toldP v f).v, Sl.v s, I (toldP v f).r], .bool (toldP v f).ok]) h') :
    c_impl_told #[I v, .func (.func fid) u w] h R := by
  refine told_spec hf (fun hno => ?_) (fun hv r hr s h' l ho => ?_)
  · have e : toldP v f = noBd := by
      unfold toldP
      rcases hno with h | h
      · rw [if_neg h]
      · split
        · rw [h]
        · rfl
    rw [e] at k
    exact k ⟨none, 0, 0⟩ h (Hp.le_refl _) (own_nil _ _)
  · have e : toldP v f = ⟨v, r.2, r.1, true⟩ := by unfold toldP; rw [if_pos hv, hr]
    rw [e] at k
    exact k s h' l ho

theorem toldP_bit {v i : Int} (h : 0 ≤ i ∧ i < v) : toldP v (fun c => c.testBit i.toNat) = if 0 ≤ v ∧ v ≤ 13 then ⟨v, [⟨i.toNat, 0, 1⟩], 2, true⟩ else noBd := by
  unfold toldP toldD
  split
  · rw [mkD_bit _ _ _ (by omega)]; simp
  · rfl

/-- What both sides' BddVar comes to. -/
def bddVar (v i : Int) : Bd := if (0 ≤ v ∧ v ≤ 13) ∧ 0 ≤ i ∧ i ≤ v - 1 then ⟨v, [⟨i.toNat, 0, 1⟩], 2, true⟩ else noBd
theorem spec_BddVar_spec {h : Hp} {v i : Int} {R : Value → Hp → Prop}
    (k : ∀ s h', h.le h' → Own (h'.sub h) s 3 (ndCells (bddVar v i).ns) → R (.tuple #[.agg #[I (bddVar v i).v, Sl.v s, I (bddVar v i).r], .bool (bddVar v i).ok]) h') :
    c_spec_BddVar #[I v, I i] h R := by
  apply R_spec_BddVar
  unfold F_spec_BddVar
  intro b1 hb1
  have l0 := le_row [I 0, .slice none 0 0, I 0] 3 hb1
  simp only [vm, mm]
  refine joinP_of (fun J => J (!(decide (0 ≤ v ∧ v ≤ 13) && decide (0 ≤ i ∧ i ≤ v - 1))) (h.row b1 [I 0, .slice none 0 0, I 0] 3)) ?_ ?_
  · refine bsplit_of (fun e => ?_) (fun e => ?_)
    · have e' : ¬ ((0 ≤ v ∧ v ≤ 13) ∧ 0 ≤ i ∧ i ≤ v - 1) := by simp at e; omega
      rw [bddVar, if_neg e'] at k
      simp only [vm, mm]
      exact ⟨by omega, k ⟨none, 0, 0⟩ _ l0 (own_nil _ _)⟩
    · have e' : (0 ≤ v ∧ v ≤ 13) ∧ 0 ≤ i ∧ i ≤ v - 1 := by simp at e; omega
      rw [bddVar, if_pos e'] at k
      simp only [vm, mm]
      rintro b2 ⟨n21, hb2⟩
      have n12 := n21.symm
      simp only [vm, mm, n12, n21, ne_eq, not_false_eq_true]
      refine ⟨by omega, k ⟨some ⟨b2, 0, none⟩, 1, 1⟩ _ (le_row_of _ _ hb1 (le_row_of _ _ hb2 l0)) ⟨rfl, by show 1 ≤ _; omega, .inr ⟨b2, 3, rfl, ?_⟩⟩⟩
      rw [sub_at hb2, row_ne _ _ n21, row_self]
      have : ((i.toNat : Nat) : Int) = i := by omega
      simp [ndCells, this]
  · intro J hJ
    refine l7Vars_spec ⟨_, rfl, bsplit_of (fun e => ?_) (fun e => ?_)⟩
    · have e' : ¬ (0 ≤ v ∧ v ≤ 13) := by simp at e; omega
      rwa [decide_eq_false e', Bool.false_and, Bool.not_false] at hJ
    · have e' : 0 ≤ v ∧ v ≤ 13 := by simpa using e
      rw [W_id (by omega) (by omega)]
      refine l1In_spec ⟨_, rfl, ?_⟩
      rwa [decide_eq_true e', Bool.true_and] at hJ

theorem impl_BddVar_spec {h : Hp} {v i : Int} {R : Value → Hp → Prop}
    (k : ∀ s h', h.le h' → Own (h'.sub h) s 3 (ndCells (bddVar v i).ns) → R (.tuple #[.agg #[I (bddVar v i).v, Sl.v s, I (bddVar v i).r], .bool (bddVar v i).ok]) h') :
    c_impl_BddVar #[I v, I i] h R := by
  apply R_impl_BddVar
  unfold F_impl_BddVar
  intro b1 hb1
  simp only [vm, mm]
  rintro b2 ⟨n21, hb2⟩
  have n12 := n21.symm
  have l0 := le_row_of [I 0, .slice none 0 0, I 0] 3 hb2 (le_row [I i] 1 hb1)
  refine joinP_of (fun J => J (!(decide (0 ≤ v ∧ v ≤ 13) && decide (0 ≤ i ∧ i ≤ v - 1))) ((h.row b1 [I i] 1).row b2 [I 0, .slice none 0 0, I 0] 3)) ?_ ?_
  · refine bsplit_of (fun e => ?_) (fun e => ?_)
    · have e' : ¬ ((0 ≤ v ∧ v ≤ 13) ∧ 0 ≤ i ∧ i ≤ v - 1) := by simp at e; omega
      rw [bddVar, if_neg e'] at k
      simp only [vm, mm]
      exact ⟨by omega, k ⟨none, 0, 0⟩ _ l0 (own_nil _ _)⟩
    · have e' : (0 ≤ v ∧ v ≤ 13) ∧ 0 ≤ i ∧ i ≤ v - 1 := by simp at e; omega
      have hk := toldP_bit (v := v) (i := i) ⟨by omega, by omega⟩
      rw [if_pos e'.1] at hk
      rw [bddVar, if_pos e', ← hk] at k
      refine toldP_spec (f := fun c => c.testBit i.toNat) (fun _ _ j hj h' l R k => ?_) fun s h1 l1 ho => ⟨_, _, _, _, rfl, ?_⟩
      · refine R_impl_BddVar_d1 (b2 := b1) (o3 := 0) ?_
        unfold F_impl_BddVar_d1
        obtain ⟨m, hm⟩ : ∃ m : Nat, i = m := ⟨i.toNat, by omega⟩
        simp only [vm, mm, cell_of (l _ _ ((row_ne _ _ n12).trans (row_self ..)))]
        have hj2 : j < 9223372036854775808 := by
          have := Nat.pow_le_pow_right (n := 2) (by omega) (show v.toNat ≤ 13 by omega)
          have h3 : (2 : Nat) ^ 13 = 8192 := rfl
          omega
        rw [hm, if_neg (by omega), shrW_nat (by omega), andW_one (Nat.lt_of_le_of_lt (Nat.div_le_self _ _) hj2), bit_eq]
        simp only [hm, Int.toNat_natCast] at k
        cases h' : j.testBit m <;> simpa [h'] using k
      · have f1 := l1 _ _ (row_self ..)
        simp only [vm, mm, f1]
        refine ⟨by omega, k s _ (le_row_of _ _ hb2 (Hp.le_trans l0 l1)) (ho.mono ?_)⟩
        exact keep_row _ _ (sub_none (row_self ..)) (sub_anti _ l0)
  · intro J hJ
    refine isVars_spec ⟨_, rfl, bsplit_of (fun e => ?_) (fun e => ?_)⟩
    · have e' : ¬ (0 ≤ v ∧ v ≤ 13) := by simp at e; omega
      rwa [decide_eq_false e', Bool.false_and, Bool.not_false] at hJ
    · have e' : 0 ≤ v ∧ v ≤ 13 := by simpa using e
      simp only [vm, mm, n12, ne_eq, not_false_eq_true]
      rw [W_id (by omega) (by omega)]
      refine in_spec ⟨_, rfl, ?_⟩
      rwa [decide_eq_true e', Bool.true_and] at hJ

end Go.Lead
