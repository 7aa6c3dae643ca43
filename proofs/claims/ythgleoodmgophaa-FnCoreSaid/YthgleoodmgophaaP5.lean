/- A core cannot hold, and nothing of it is needless. -/
import Derived.Test.YthgleoodmgophaaG2
namespace Go.Lead
set_option linter.unusedVariables false
set_option linter.unusedSimpArgs false

theorem leastI_neg {p : Nat → Bool} {n : Nat} : leastI p n < 0 ↔ ∀ i, i < n → p i = false := by
  have h := idxI_ge p (List.range n)
  have hr := leastI_lt p n
  unfold leastI at hr ⊢
  constructor
  · intro hl i hi
    have : (List.range n).any p = false := by rw [← h]; simpa using hl
    rw [List.any_eq_false] at this
    simpa using this i (by simpa using hi)
  · intro hall
    have : (List.range n).any p = false := by
      rw [List.any_eq_false]; intro x hx; simp [hall x (by simpa using hx)]
    rw [this] at h
    simpa using h
theorem leastI_pos {p : Nat → Bool} {n : Nat} : 0 ≤ leastI p n ↔ ∃ i, i < n ∧ p i = true := by
  constructor
  · intro h
    have hn : ¬ leastI p n < 0 := by omega
    rw [leastI_neg] at hn
    simp only [Classical.not_forall] at hn
    obtain ⟨i, hi, hp⟩ := hn
    exact ⟨i, hi, by simpa using hp⟩
  · rintro ⟨i, hi, hp⟩
    cases Int.lt_or_le (leastI p n) 0 with
    | inl h => rw [leastI_neg] at h; rw [h i hi] at hp; cases hp
    | inr h => exact h

theorem keptP_bad (bad : List Nat → Bool) {n : Nat} (h0 : bad (List.range n) = true) : ∀ i, i ≤ n → bad (keptP bad n i ++ (List.range n).drop i) = true := by
  intro i
  induction i with
  | zero => intro _; simpa [keptP] using h0
  | succ i ih =>
    intro hi
    have h1 := ih (by omega)
    simp only [keptP]
    split
    · assumption
    · rw [List.append_assoc, List.singleton_append, ← range_drop_cons (by omega)]; exact h1
theorem keptP_need (bad : List Nat → Bool) {n : Nat} {x : Nat} : ∀ i, x ∈ keptP bad n i → bad (keptP bad n x ++ (List.range n).drop (x + 1)) = false := by
  intro i
  induction i with
  | zero => simp [keptP]
  | succ i ih =>
    intro hx
    simp only [keptP] at hx
    split at hx
    · exact ih hx
    · rename_i h
      rcases List.mem_append.1 hx with h' | h'
      · exact ih h'
      · simp only [List.mem_singleton] at h'; subst h'; simpa using h
theorem keptP_sub (bad : List Nat → Bool) {n x : Nat} : ∀ i, ∀ y ∈ keptP bad n i, y ∈ keptP bad n x ∨ x ≤ y := by
  intro i
  induction i with
  | zero => simp [keptP]
  | succ i ih =>
    intro y hy
    simp only [keptP] at hy
    split at hy
    · exact ih y hy
    · rename_i hb
      rcases List.mem_append.1 hy with h' | h'
      · exact ih y h'
      · simp only [List.mem_singleton] at h'; subst h'
        cases Nat.lt_or_ge y x with
        | inr h => exact .inr h
        | inl h =>
          left
          have key : ∀ d, y ∈ keptP bad n (y + 1 + d) := by
            intro d
            induction d with
            | zero => simp only [Nat.add_zero, keptP]; rw [if_neg hb]; simp
            | succ d ihd =>
              rw [← Nat.add_assoc]
              simp only [keptP]
              split
              · exact ihd
              · exact List.mem_append_left _ ihd
          have := key (x - (y + 1))
          rwa [show y + 1 + (x - (y + 1)) = x by omega] at this
theorem keptP_sorted (bad : List Nat → Bool) (n : Nat) : ∀ i, (keptP bad n i).Pairwise (· < ·) := by
  intro i
  induction i with
  | zero => simp [keptP]
  | succ i ih =>
    simp only [keptP]
    split
    · exact ih
    · rw [List.pairwise_append]
      refine ⟨ih, by simp, ?_⟩
      intro a ha b hb
      simp only [List.mem_singleton] at hb; subst hb
      exact keptP_lt bad n _ a ha

/-- Places but for one. -/
def butP (ks : List Nat) (skip : Int) (j : Nat) : List Nat := ((List.range j).filter fun (m : Nat) => decide ((m : Int) ≠ skip)).map fun m => ks.getD m 0
theorem butP_succ (ks : List Nat) (skip : Int) (j : Nat) : butP ks skip (j + 1) = if (j : Int) ≠ skip then butP ks skip j ++ [ks.getD j 0] else butP ks skip j := by
  unfold butP
  rw [List.range_succ, List.filter_append]
  by_cases h : (j : Int) = skip
  · simp [h]
  · simp [h]
theorem butP_len (ks : List Nat) (skip : Int) (j : Nat) : (butP ks skip j).length ≤ j := by
  unfold butP
  have := List.length_filter_le (fun m : Nat => decide ((m : Int) ≠ skip)) (List.range j)
  simp at this ⊢; exact this
theorem butP_mem {ks : List Nat} {skip : Int} {j : Nat} (hj : j ≤ ks.length) {x : Nat} (hx : x ∈ butP ks skip j) : x ∈ ks := by
  unfold butP at hx
  obtain ⟨m, hm, rfl⟩ := List.mem_map.1 hx
  have := (List.mem_filter.1 hm).1
  have hm' : m < ks.length := by simp at this; omega
  simp [List.getD, hm']
theorem butP_all (ks : List Nat) : butP ks (-1) ks.length = ks := by
  unfold butP
  have : (List.range ks.length).filter (fun (m : Nat) => decide ((m : Int) ≠ -1)) = List.range ks.length := by
    rw [List.filter_eq_self]; intro a _; simp
  rw [this]
  apply List.ext_getElem
  · simp
  · intro i h1 h2; simp [List.getD, h2]
theorem butP_ne {ks : List Nat} (hs : ks.Pairwise (· < ·)) {i : Nat} (hi : i < ks.length) {x : Nat} (hx : x ∈ butP ks (i : Nat) ks.length) : x ∈ ks ∧ x ≠ ks[i] := by
  refine ⟨butP_mem (Nat.le_refl _) hx, ?_⟩
  unfold butP at hx
  obtain ⟨m, hm, rfl⟩ := List.mem_map.1 hx
  obtain ⟨h1, h2⟩ := List.mem_filter.1 hm
  have hm' : m < ks.length := by simpa using h1
  have hne : m ≠ i := by simp at h2; omega
  simp only [List.getD, List.getElem?_eq_getElem hm', Option.getD_some]
  rw [List.pairwise_iff_getElem] at hs
  rcases Nat.lt_or_gt_of_ne hne with h | h
  · have := hs m i hm' hi h; omega
  · have := hs i m hi hm' h; omega

theorem allB_sub {a b : List (List Int)} (h : ∀ l ∈ a, l ∈ b) {code : Nat} (hb : AllB b code = true) : AllB a code = true := by
  unfold AllB at *
  rw [List.all_eq_true] at *
  exact fun l hl => hb l (h l hl)
theorem sel_sub {cls : List (List Int)} {a b : List Nat} (h : ∀ x ∈ a, x ∈ b) : ∀ l ∈ sel cls a, l ∈ sel cls b := by
  intro l hl
  obtain ⟨x, hx, rfl⟩ := List.mem_map.1 hl
  exact List.mem_map.2 ⟨x, h x hx, rfl⟩
theorem sel_all (cls : List (List Int)) : sel cls (List.range cls.length) = cls := by
  unfold sel
  apply List.ext_getElem
  · simp
  · intro i h1 h2; simp [List.getD, h2]
theorem sel_ok {v : Int} {cls : List (List Int)} (h : CnfOkB v cls = true) {ks : List Nat} (hk : ∀ x ∈ ks, x < cls.length) (hl : ks.length ≤ 60) : CnfOkB v (sel cls ks) = true := by
  obtain ⟨h1, h2, h3⟩ := CnfOkB.iff.1 h
  refine CnfOkB.iff.2 ⟨h1, by simpa [sel] using hl, ?_⟩
  intro l hl
  obtain ⟨x, hx, rfl⟩ := List.mem_map.1 hl
  have := hk x hx
  simp only [List.getD, List.getElem?_eq_getElem this, Option.getD_some]
  exact h3 _ (List.getElem_mem this)

/-- A core cannot hold. -/
theorem core_bad {v : Nat} {cls : List (List Int)} (hno : leastI (AllB cls) (2 ^ v) < 0) : leastI (AllB (sel cls (keptP (badSel v cls) cls.length cls.length))) (2 ^ v) < 0 := by
  have h0 : badSel v cls (List.range cls.length) = true := by unfold badSel; rw [sel_all]; simpa using hno
  have := keptP_bad (badSel v cls) h0 cls.length (Nat.le_refl _)
  rw [show (List.range cls.length).drop cls.length = [] by simp, List.append_nil] at this
  exact of_decide_eq_true this
/-- Nothing of a core is needless. -/
theorem core_need {v : Nat} {cls : List (List Int)} {i : Nat} (hi : i < (keptP (badSel v cls) cls.length cls.length).length) :
    0 ≤ leastI (AllB (sel cls (butP (keptP (badSel v cls) cls.length cls.length) (i : Nat) (keptP (badSel v cls) cls.length cls.length).length))) (2 ^ v) := by
  have hx := List.getElem_mem hi
  have hn := keptP_need (badSel v cls) cls.length hx
  have hso := keptP_sorted (badSel v cls) cls.length cls.length
  have hlt := keptP_lt (badSel v cls) cls.length cls.length
  have hsub := keptP_sub (badSel v cls) (n := cls.length) (x := (keptP (badSel v cls) cls.length cls.length)[i]) cls.length
  generalize hks : keptP (badSel v cls) cls.length cls.length = ks at *
  unfold badSel at hn
  have hpos : 0 ≤ leastI (AllB (sel cls (keptP (badSel v cls) cls.length ks[i] ++ (List.range cls.length).drop (ks[i] + 1)))) (2 ^ v) := by
    have := of_decide_eq_false hn
    unfold badSel; omega
  obtain ⟨c, hc, hp⟩ := leastI_pos.1 hpos
  refine leastI_pos.2 ⟨c, hc, allB_sub (sel_sub ?_) hp⟩
  intro y hy
  obtain ⟨h1, h2⟩ := butP_ne hso hi hy
  rcases hsub y h1 with h | h
  · exact List.mem_append_left _ h
  · exact List.mem_append_right _ (mem_range_drop.2 ⟨by omega, hlt y h1⟩)

end Go.Lead
