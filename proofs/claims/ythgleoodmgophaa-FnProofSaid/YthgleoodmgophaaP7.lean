/- A proof that is taken proves, stays one with more ahead of it; and what is told is taken. -/
import Derived.Test.YthgleoodmgophaaQ4
namespace Go.Lead
set_option linter.unusedVariables false
set_option linter.unusedSimpArgs false

theorem gapI_neg {cls p : List (List Int)} : ¬ gapI cls p ≥ 0 ↔ ProvesP cls p := by
  rw [← gapP_none]
  unfold gapI
  cases gapP cls p with
  | none => simp
  | some i => simp
theorem proofCode_zero {v : Int} {cls p : List (List Int)} : proofCode v cls p = 0 ↔ shapeB v cls p = true ∧ ProvesP cls p ∧ p.getLast? = some [] := by
  unfold proofCode
  split
  · rename_i h1
    split
    · rename_i h2
      constructor
      · intro h; cases h
      · intro h; exact absurd h2 (gapI_neg.2 h.2.1)
    · rename_i h2
      split
      · rename_i h3; exact ⟨fun _ => ⟨h1, gapI_neg.1 h2, h3⟩, fun _ => rfl⟩
      · rename_i h3
        constructor
        · intro h; cases h
        · intro h; exact absurd h.2.2 h3
  · rename_i h1
    constructor
    · intro h; cases h
    · intro h; exact absurd h.1 h1
theorem code_gap {v : Int} {cls p : List (List Int)} : (proofCode v cls p = 2) ↔ proofGapAt v cls p ≥ 0 := by
  unfold proofCode proofGapAt
  split
  · split
    · rename_i h; exact ⟨fun _ => h, fun _ => rfl⟩
    · rename_i h
      constructor
      · intro h'; split at h' <;> cases h'
      · intro h'; exact absurd h' h
  · constructor
    · intro h; cases h
    · intro h; omega
theorem shape_wf {v : Int} {cls p : List (List Int)} (h : shapeB v cls p = true) : WfC v cls ∧ WfC v p := by
  obtain ⟨h1, _, h3⟩ := shapeB.iff.1 h
  exact ⟨CnfOkB.wf h1, fun l hl => ClauseOk.all (h3 l hl)⟩
theorem proofCode_no {v : Int} {cls p : List (List Int)} (h : proofCode v cls p = 0) : ¬ satLeast v cls ≥ 0 := by
  obtain ⟨h1, h2, h3⟩ := proofCode_zero.1 h
  obtain ⟨w1, w2⟩ := shape_wf h1
  intro hp
  obtain ⟨hok, c, hc, ht⟩ := satLeast_pos hp
  obtain ⟨hv, _⟩ := CnfOkB.iff.1 hok
  obtain ⟨m, rfl⟩ : ∃ m : Nat, v = m := ⟨v.toNat, by omega⟩
  have := h2.sound (v := m) (by omega) w1 w2 ht p.length (Nat.le_refl _)
  rw [List.take_length] at this
  unfold AllB at this
  rw [List.all_eq_true] at this
  have hm : ([] : List Int) ∈ p := by
    have := List.mem_of_getLast? h3
    exact this
  have := this [] hm
  simp at this
theorem proofOf_is {v : Int} {cls : List (List Int)} (h : (proofOf v cls).2 = true) : CnfOkB v cls = true ∧ leastI (AllB cls) (2 ^ v.toNat) < 0 ∧ (treeP cls v.toNat [] []).length ≤ 300 ∧ (proofOf v cls).1 = treeP cls v.toNat [] [] := by
  unfold proofOf at *
  split at h
  · rename_i h'
    simp only [Bool.and_eq_true, decide_eq_true_eq] at h'
    rw [if_pos (by simp [h'])]
    exact ⟨h'.1.1, h'.1.2, h'.2, rfl⟩
  · cases h
theorem proofOf_code {v : Int} {cls : List (List Int)} (h : (proofOf v cls).2 = true) : proofCode v cls (proofOf v cls).1 = 0 := by
  have hlen := proofOf_len v cls
  obtain ⟨h1, h2, h3, h4⟩ := proofOf_is h
  rw [h4] at hlen ⊢
  obtain ⟨hv, hx, hcl⟩ := CnfOkB.iff.1 h1
  obtain ⟨m, rfl⟩ : ∃ m : Nat, v = m := ⟨v.toNat, by omega⟩
  simp only [Int.toNat_natCast] at *
  have wp := treeP_wf (v := m) (cls := cls) m [] [] begins_nil (by simp) (fun l hl => by simp at hl)
  have hp := treeP_proves (v := m) (by omega) (CnfOkB.wf h1) (leastI_neg.1 h2) m [] [] begins_nil (by simp) (fun l hl => by simp at hl) (fun i hi => by simp at hi) h3
  refine proofCode_zero.2 ⟨shapeB.iff.2 ⟨h1, h3, fun l hl => ?_⟩, hp, ?_⟩
  · have hl1 := hlen.2 l hl
    have hl2 := wp l hl
    simp only [ClauseOk, Bool.and_eq_true, decide_eq_true_eq, List.all_eq_true]
    exact ⟨hl1, fun x hx => LitOk.iff.2 (hl2 x hx)⟩
  · obtain ⟨q, hq, _⟩ := treeP_top (cls := cls) (n := m)
    rw [hq]; simp
end Go.Lead
