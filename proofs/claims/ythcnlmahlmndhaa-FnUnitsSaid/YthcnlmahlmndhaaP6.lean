/- What follows clause by clause follows. -/
import Derived.Test.YthcnlmahlmndhaaG3
namespace Go.Lead
set_option linter.unusedVariables false
set_option linter.unusedSimpArgs false

theorem satLeast_pos {v : Int} {cls : List (List Int)} (h : satLeast v cls ≥ 0) : CnfOkB v cls = true ∧ ∃ c, c < 2 ^ v.toNat ∧ AllB cls c = true := by
  unfold satLeast at h
  split at h
  · rename_i hok; exact ⟨hok, leastI_pos.1 h⟩
  · omega
theorem CnfOkB.wf {v : Int} {cls : List (List Int)} (h : CnfOkB v cls = true) : WfC v cls := fun l hl => ClauseOk.all ((CnfOkB.iff.1 h).2.2 l hl)
theorem allB_app {a b : List (List Int)} {c : Nat} : AllB (a ++ b) c = true ↔ AllB a c = true ∧ AllB b c = true := by
  unfold AllB; rw [List.all_append, Bool.and_eq_true]
theorem allB_lits {g : List Int} {c : Nat} : AllB (g.map fun x => [x]) c = true ↔ ∀ x ∈ g, LitB c x = true := by
  unfold AllB
  rw [List.all_map, List.all_eq_true]
  simp [Function.comp]
theorem wfC_left {v : Int} {a b : List (List Int)} (h : WfC v (a ++ b)) : WfC v a := fun l hl => h l (List.mem_append_left _ hl)
theorem wfL_lits {v : Int} {a : List (List Int)} {g : List Int} (h : WfC v (a ++ g.map fun x => [x])) : WfL v g := fun x hx => h [x] (List.mem_append_right _ (List.mem_map.2 ⟨x, hx, rfl⟩)) x (by simp)

theorem units_none_no {v : Int} {cls : List (List Int)} {given : List Int} (h : (satUnits v cls given).2 = true) : ¬ satLeast v (cls ++ given.map fun x => [x]) ≥ 0 := by
  intro hp
  obtain ⟨hok, c, hc, ht⟩ := satLeast_pos hp
  obtain ⟨t1, t2⟩ := allB_app.1 ht
  have hw := CnfOkB.wf hok
  obtain ⟨hv, _⟩ := CnfOkB.iff.1 hok
  obtain ⟨m, rfl⟩ : ∃ m : Nat, v = m := ⟨v.toNat, by omega⟩
  obtain ⟨set, hs, _⟩ := units_sound (v := m) (by omega) (wfC_left hw) (wfL_lits hw) t1 (allB_lits.1 t2)
  unfold satUnits at h
  split at h
  · rw [hs] at h; cases h
  · cases h
theorem outP_mem {n : Nat} {set : List Int} {x : Int} (h : x ∈ outP n set) : x ∈ set ∧ x ≠ 0 := by
  unfold outP at h
  obtain ⟨i, _, hi⟩ := List.mem_flatMap.1 h
  split at hi
  · rename_i h1; simp only [List.mem_singleton] at hi; subst hi; exact ⟨by simpa using h1, by omega⟩
  · split at hi
    · rename_i h1; simp only [List.mem_singleton] at hi; subst hi; exact ⟨by simpa using h1, by omega⟩
    · simp at hi
theorem units_some_no {v : Int} {cls : List (List Int)} {given : List Int} {x : Int} (hx : x ∈ (satUnits v cls given).1) : ¬ satLeast v ([-x] :: (cls ++ given.map fun x => [x])) ≥ 0 := by
  intro hp
  obtain ⟨hok, c, hc, ht⟩ := satLeast_pos hp
  have ht' : AllB [[-x]] c = true ∧ AllB (cls ++ given.map fun x => [x]) c = true := allB_app.1 ht
  obtain ⟨t1, t2⟩ := allB_app.1 ht'.2
  have hw := CnfOkB.wf hok
  have hw' : WfC v (cls ++ given.map fun x => [x]) := fun l hl => hw l (List.mem_cons_of_mem _ hl)
  obtain ⟨hv, _⟩ := CnfOkB.iff.1 hok
  obtain ⟨m, rfl⟩ : ∃ m : Nat, v = m := ⟨v.toNat, by omega⟩
  obtain ⟨set, hs, hall⟩ := units_sound (v := m) (by omega) (wfC_left hw') (wfL_lits hw') t1 (allB_lits.1 t2)
  unfold satUnits at hx
  split at hx
  · rw [hs] at hx
    obtain ⟨h1, h2⟩ := outP_mem hx
    have h3 := hall x h1
    have h4 : LitB c (-x) = true := by have := ht'.1; simpa [AllB] using this
    rw [litB_not h2, h3] at h4; cases h4
  · simp at hx
theorem outP_bound {n : Nat} {set : List Int} {x : Int} (h : x ∈ outP n set) : -(n : Int) ≤ x ∧ x ≤ n := by
  unfold outP at h
  obtain ⟨i, hi0, hi⟩ := List.mem_flatMap.1 h
  have hi0 : i < n := by simpa using hi0
  split at hi
  · simp only [List.mem_singleton] at hi; subst hi; omega
  · split at hi
    · simp only [List.mem_singleton] at hi; subst hi; omega
    · simp at hi
theorem satUnits_bound {v : Int} {cls : List (List Int)} {given : List Int} {x : Int} (hx : x ∈ (satUnits v cls given).1) : -10 ≤ x ∧ x ≤ 10 := by
  unfold satUnits at hx
  split at hx
  · rename_i h
    have hv := (CnfOkB.iff.1 (Bool.and_eq_true_iff.1 h).1).1
    split at hx
    · simp at hx
    · have := outP_bound hx; omega
  · simp at hx

end Go.Lead
