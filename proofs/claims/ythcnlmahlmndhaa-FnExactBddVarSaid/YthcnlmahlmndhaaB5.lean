/- The walks of the laws of BddConst and BddVar. -/
import Derived.Test.YthcnlmahlmndhaaB4
namespace Go.Lead
open Go
set_option linter.unusedSimpArgs false
set_option linter.unusedVariables false

theorem Own.used {h : Hp} {s : Sl} {sz : Nat} {cs : List Value} (e : Own h s sz cs) : ∀ b ∈ s.used, h b ≠ none := by
  intro b hb
  unfold Sl.used at hb
  split at hb
  · simp at hb
  · rename_i h0
    obtain ⟨c, z, ha, hc⟩ := e.2.2.resolve_left h0
    simp only [Sl.blk, ha, List.mem_singleton] at hb
    subst hb
    rw [hc]; simp
theorem sub_some_none {h' h : Hp} {b : Nat} (e : h'.sub h b ≠ none) : h b = none := by
  cases hb : h b with
  | none => rfl
  | some x => exact absurd (sub_none hb) e
theorem bddVar_len (v i : Int) : (bddVar v i).ns.length ≤ 1 := by unfold bddVar; split <;> simp [noBd]

theorem FnExactBddVar_spec {h : Hp} {v i : Int} {R : Value → Hp → Prop} (k : R (.bool true) h) : c_laws_FnExactBddVar #[I v, I i] h R := by
  refine ACalls.drop (R_laws_FnExactBddVar ?_)
  unfold F_laws_FnExactBddVar
  refine spec_BddVar_spec fun s1 h1 l1 o1 => ⟨_, _, _, _, rfl, ?_⟩
  intro b1 hb1
  simp only [vm, mm]
  have l2 := le_row [I (bddVar v i).v, s1.v, I (bddVar v i).r] 3 hb1
  refine ⟨by omega, impl_BddVar_spec fun s2 h3 l3 o2 => ⟨_, _, _, _, rfl, ?_⟩⟩
  intro b2 hb2
  have f1 := l3 _ _ (row_self h1 b1 [I (bddVar v i).v, s1.v, I (bddVar v i).r] 3)
  have n12 : b1 ≠ b2 := fresh_ne hb2 f1
  have l4 := le_row [I (bddVar v i).v, s2.v, I (bddVar v i).r] 3 hb2
  have f1' := l4 _ _ f1
  have hn2 : s2.n ≤ 1048576 := by have := o2.1; rw [ndCells_len] at this; have := bddVar_len v i; omega
  simp only [vm, mm, n12, ne_eq, not_false_eq_true, cell_of f1]
  refine ⟨by omega, joinP_of (fun J => J false (h3.row b2 [I (bddVar v i).v, s2.v, I (bddVar v i).r] 3)) ?_ ?_⟩
  rotate_left
  · intro J hJ
    refine eqBdd_spec ((o2.slc.mono (sub_le _ _)).mono l4) ((((o1.slc.mono (sub_le _ _)).mono l2).mono l3).mono l4) ⟨_, rfl, bs_f (by simp) ?_⟩
    simpa using hJ
  refine bs_f rfl ?_
  simp only [vm, mm]
  refine markBdd_spec ((o2.mono (sub_le _ _)).mono l4) (by omega) (by omega) fun h5 l5 o5 => ⟨_, rfl, ?_⟩
  have hin : ∀ c ∈ s2.used, (h3.sub (h1.row b1 [I (bddVar v i).v, s1.v, I (bddVar v i).r] 3)) c ≠ none := o2.used
  have hin1 : ∀ c ∈ s2.used, (h1.row b1 [I (bddVar v i).v, s1.v, I (bddVar v i).r] 3) c = none := fun c hc => sub_some_none (hin c hc)
  have l14 : (h1.row b1 [I (bddVar v i).v, s1.v, I (bddVar v i).r] 3).le h5 := Hp.le_trans (le_wo (Hp.le_trans l3 l4) hin1) l5
  have f2 : h5 b2 = some (.inl ⟨[I (bddVar v i).v, s2.v, I (bddVar v i).r], 3, false⟩) := by
    refine l5 _ _ ?_
    rw [wo_at (fun hb => hin b2 hb (none_of_le (sub_le _ _) hb2)), row_self]
  simp only [vm, mm, cell_of f2]
  refine heldBdd_spec o5.slc (by omega) (by omega) ⟨_, rfl, bs_f (by simp; omega) (bs_f (by simp) ?_)⟩
  refine impl_BddVar_spec fun s3 h6 l6 o6 => ⟨_, _, _, _, rfl, ?_⟩
  intro b3 hb3
  have f3 := l6 _ _ f2
  have g1 := l6 _ _ (l14 _ _ (row_self ..))
  have n23 : b2 ≠ b3 := fresh_ne hb3 f3
  have n13 : b1 ≠ b3 := fresh_ne hb3 g1
  have l7 := le_row [I (bddVar v i).v, s3.v, I (bddVar v i).r] 3 hb3
  simp only [vm, mm, n23, n13, ne_eq, not_false_eq_true, cell_of g1, cell_of f3]
  refine ⟨by omega, joinP_of (fun J => J false (h6.row b3 [I (bddVar v i).v, s3.v, I (bddVar v i).r] 3)) ?_ ?_⟩
  rotate_left
  · intro J hJ
    refine eqBdd_spec ((o6.slc.mono (sub_le _ _)).mono l7) (((((o1.slc.mono (sub_le _ _)).mono l2).mono l14).mono l6).mono l7) ⟨_, rfl, bs_f (by simp) ?_⟩
    simpa using hJ
  refine bs_f rfl ?_
  simp only [vm, mm, n23, ne_eq, not_false_eq_true, cell_of f3]
  refine heldBdd_spec ((o5.slc.mono l6).mono l7) (by omega) (by omega) ⟨_, rfl, bs_f (by simp; omega) (bs_f (by simp) ⟨_, ?_, k⟩)⟩
  exact Hp.le_trans (Hp.le_trans l1 l2) (Hp.le_trans l14 (Hp.le_trans l6 l7))

end Go.Lead
