/- What follows clause by clause, in plain Lean: two ways to find what is open in a clause come to the same. -/
import Derived.Test.YthgleoodmgophaaP1
namespace Go.Lead
set_option linter.unusedVariables false
set_option linter.unusedSimpArgs false

/-- The one literal of a clause that is open, when all others are false; and whether all are false. -/
def leftP (set : List Int) : List Int → Int → Int × Bool
  | [], left => (left, left == 0)
  | x :: r, left =>
    if set.contains x then (0, false) else
    if set.contains (-x) then leftP set r left else
    if left != 0 && left != x then (0, false) else leftP set r x
/-- The last literal that is not false, and whether there were two. -/
def openP (set : List Int) : List Int → Int → Bool → Int × Bool
  | [], o, m => (o, m)
  | x :: r, o, m => if set.contains (-x) || x == o then openP set r o m else openP set r x (m || o != 0)

theorem openP_many (set : List Int) : ∀ (l : List Int) (o : Int), (∀ x ∈ l, x ≠ 0) → o ≠ 0 → (openP set l o true).1 ≠ 0 ∧ (openP set l o true).2 = true := by
  intro l
  induction l with
  | nil => intro o _ ho; exact ⟨ho, rfl⟩
  | cons x r ih =>
    intro o hx ho
    have hr := fun y hy => hx y (List.mem_cons_of_mem _ hy)
    simp only [openP, Bool.true_or]
    split
    · exact ih o hr ho
    · exact ih x hr (hx x (by simp))
theorem openP_known (set : List Int) : ∀ (l : List Int) (o : Int), (∀ x ∈ l, x ≠ 0) → o ≠ 0 → set.contains o = true →
    (openP set l o false).1 ≠ 0 ∧ ((openP set l o false).2 || set.contains (openP set l o false).1) = true := by
  intro l
  induction l with
  | nil => intro o _ ho hc; exact ⟨ho, by simp only [openP, Bool.false_or]; exact hc⟩
  | cons x r ih =>
    intro o hx ho hc
    have hr := fun y hy => hx y (List.mem_cons_of_mem _ hy)
    simp only [openP]
    split
    · exact ih o hr ho hc
    · have ho' : (o != 0) = true := by simpa using ho
      rw [ho', Bool.false_or]
      have := openP_many set r x hr (hx x (by simp))
      exact ⟨this.1, by rw [this.2]; rfl⟩

theorem left_open (set : List Int) (hcons : ∀ x ∈ set, -x ∉ set) : ∀ (l : List Int) (o : Int), (∀ x ∈ l, x ≠ 0) → set.contains o = false →
    leftP set l o = if (openP set l o false).1 = 0 then (0, true) else if ((openP set l o false).2 || set.contains (openP set l o false).1) = true then (0, false) else ((openP set l o false).1, false) := by
  intro l
  induction l with
  | nil =>
    intro o _ hc
    simp only [leftP, openP, Bool.false_or, hc, Bool.false_eq_true, if_false]
    by_cases h : o = 0
    · simp [h]
    · simp [h]
  | cons x r ih =>
    intro o hx hc
    have hr := fun y hy => hx y (List.mem_cons_of_mem _ hy)
    have hx0 := hx x (by simp)
    simp only [leftP, openP]
    by_cases h1 : set.contains x = true
    · have h2 : set.contains (-x) = false := by
        have := hcons x (by simpa using h1)
        simpa using this
      have h3 : (x == o) = false := by
        rw [beq_eq_false_iff_ne]; intro e; subst e; rw [h1] at hc; cases hc
      simp only [h1, h2, h3, if_true, Bool.or_self, Bool.false_eq_true, if_false, Bool.false_or]
      by_cases ho : o = 0
      · subst ho
        have := openP_known set r x hr hx0 h1
        simp only [bne_self_eq_false]
        rw [if_neg this.1, if_pos this.2]
      · have ho' : (o != 0) = true := by simpa using ho
        have := openP_many set r x hr hx0
        rw [ho', if_neg this.1, this.2]; rfl
    · simp only [Bool.not_eq_true] at h1
      simp only [h1, Bool.false_eq_true, if_false]
      by_cases h2 : set.contains (-x) = true
      · simp only [h2, if_true, Bool.true_or]
        exact ih o hr hc
      · simp only [Bool.not_eq_true] at h2
        simp only [h2, Bool.false_eq_true, if_false, Bool.false_or]
        by_cases h3 : x = o
        · subst h3
          simp only [bne_self_eq_false, Bool.and_false, Bool.false_eq_true, if_false, beq_self_eq_true, if_true]
          exact ih x hr h1
        · have h3' : (x == o) = false := by simpa using h3
          simp only [h3', Bool.false_eq_true, if_false]
          by_cases ho : o = 0
          · subst ho
            simp only [bne_self_eq_false, Bool.false_and, Bool.false_eq_true, if_false]
            exact ih x hr h1
          · have ho' : (o != 0) = true := by simpa using ho
            have h4 : (o != x) = true := by simpa using fun e => h3 e.symm
            have := openP_many set r x hr hx0
            simp only [ho', h4, Bool.and_self, if_true]
            rw [if_neg this.1, this.2]; rfl

/-- Once through the clauses. -/
def passP : List (List Int) → List Int → Bool → Option (List Int × Bool)
  | [], set, more => some (set, more)
  | l :: r, set, more => if (leftP set l 0).2 then none else if (leftP set l 0).1 != 0 then passP r (set ++ [(leftP set l 0).1]) true else passP r set more
/-- As long as there is more. -/
def roundsP (cls : List (List Int)) (set : List Int) : Option (List Int) :=
  match passP cls set false with
  | none => none
  | some (set', more) => if more then (if h : set.length < set'.length ∧ set'.length ≤ 20 then roundsP cls set' else none) else some set'
termination_by 20 - set.length
decreasing_by omega
def givenP : List Int → List Int → Option (List Int)
  | [], set => some set
  | x :: r, set => if set.contains (-x) then none else givenP r (if set.contains x then set else set ++ [x])
def unitsP (cls : List (List Int)) (given : List Int) : Option (List Int) := (givenP given []).bind (roundsP cls)
/-- What is known is sound in itself. -/
structure Known (v : Int) (set : List Int) : Prop where
  lit : ∀ x ∈ set, x ≠ 0 ∧ -v ≤ x ∧ x ≤ v
  nodup : set.Nodup
  cons : ∀ x ∈ set, -x ∉ set
theorem known_nil (v : Int) : Known v [] := ⟨by simp, List.nodup_nil, by simp⟩
theorem Known.add {v : Int} {set : List Int} (k : Known v set) {x : Int} (hx : x ≠ 0 ∧ -v ≤ x ∧ x ≤ v) (h1 : x ∉ set) (h2 : -x ∉ set) : Known v (set ++ [x]) := by
  refine ⟨?_, ?_, ?_⟩
  · intro y hy
    rcases List.mem_append.1 hy with h | h
    · exact k.lit y h
    · simp only [List.mem_singleton] at h; subst h; exact hx
  · rw [List.nodup_append]
    refine ⟨k.nodup, by simp, ?_⟩
    intro a ha b hb
    simp only [List.mem_singleton] at hb; subst hb
    intro e; subst e; exact h1 ha
  · intro y hy hn
    rcases List.mem_append.1 hy with h | h <;> rcases List.mem_append.1 hn with h' | h'
    · exact k.cons y h h'
    · simp only [List.mem_singleton] at h'; exact h2 (by rw [← h', Int.neg_neg]; exact h)
    · simp only [List.mem_singleton] at h; subst h; exact h2 h'
    · simp only [List.mem_singleton] at h h'; subst h; omega
theorem len_le_of_bound : ∀ (n : Nat) (l : List Int) (a : Int), l.Nodup → (∀ x ∈ l, a ≤ x ∧ x < a + n) → l.length ≤ n := by
  intro n
  induction n with
  | zero =>
    intro l a _ h
    cases l with
    | nil => simp
    | cons x r => have := h x (by simp); omega
  | succ n ih =>
    intro l a hd h
    by_cases hm : (a + n) ∈ l
    · have h1 := ih (l.erase (a + n)) a (hd.erase _) (fun x hx => by
        have hx' := List.mem_of_mem_erase hx
        have := h x hx'
        have hne : x ≠ a + n := fun e => by
          subst e
          exact (List.Nodup.not_mem_erase hd) hx
        omega)
      rw [List.length_erase_of_mem hm] at h1
      omega
    · have := ih l a hd (fun x hx => by
        have h1 := h x hx
        have hne : x ≠ a + n := fun e => hm (e ▸ hx)
        omega)
      omega
theorem Known.len {v : Int} {set : List Int} (k : Known v set) (hv : v ≤ 10) (hv0 : 0 ≤ v) : set.length ≤ 20 := by
  -- the numbers from -v to v without 0
  have h0 : (0 : Int) ∉ set := fun h => (k.lit 0 h).1 rfl
  have h1 := len_le_of_bound 21 (0 :: set) (-10) (List.nodup_cons.2 ⟨h0, k.nodup⟩) (fun x hx => by
    rcases List.mem_cons.1 hx with rfl | hx
    · omega
    · have := k.lit x hx; omega)
  simp only [List.length_cons] at h1
  omega

theorem leftP_new {set : List Int} (hcons : ∀ x ∈ set, -x ∉ set) (h0 : (0 : Int) ∉ set) {l : List Int} (hl : ∀ x ∈ l, x ≠ 0) (hne : (leftP set l 0).1 ≠ 0) :
    (leftP set l 0).1 ∈ l ∧ (leftP set l 0).1 ∉ set ∧ -(leftP set l 0).1 ∉ set := by
  have key : ∀ (l : List Int) (o : Int), (∀ x ∈ l, x ≠ 0) → (o = 0 ∨ (o ∉ set ∧ -o ∉ set)) → (leftP set l o).1 ≠ 0 →
      ((leftP set l o).1 ∈ l ∨ (leftP set l o).1 = o) ∧ (leftP set l o).1 ∉ set ∧ -(leftP set l o).1 ∉ set := by
    intro l
    induction l with
    | nil =>
      intro o _ ho hne
      simp only [leftP] at hne ⊢
      rcases ho with h | h
      · exact absurd h hne
      · exact ⟨by simp, h⟩
    | cons x r ih =>
      intro o hx ho hne
      have hr := fun y hy => hx y (List.mem_cons_of_mem _ hy)
      simp only [leftP] at hne ⊢
      split at hne
      · exact absurd rfl hne
      · rename_i h1
        rw [if_neg h1]
        split at hne
        · rename_i h2
          rw [if_pos h2]
          have := ih o hr ho hne
          exact ⟨this.1.imp (List.mem_cons_of_mem _) id, this.2⟩
        · rename_i h2
          rw [if_neg h2]
          split at hne
          · exact absurd rfl hne
          · rename_i h3
            rw [if_neg h3]
            have := ih x hr (.inr ⟨by simpa using h1, by simpa using h2⟩) hne
            refine ⟨.inl ?_, this.2⟩
            rcases this.1 with h | h
            · exact List.mem_cons_of_mem _ h
            · rw [h]; simp
  have := key l 0 hl (.inl rfl) hne
  refine ⟨?_, this.2⟩
  rcases this.1 with h | h
  · exact h
  · exact absurd h hne

theorem passP_known {v : Int} : ∀ (cls : List (List Int)) (set : List Int) (more : Bool), Known v set → (∀ l ∈ cls, ∀ x ∈ l, x ≠ 0 ∧ -v ≤ x ∧ x ≤ v) →
    ∀ set' more', passP cls set more = some (set', more') → Known v set' ∧ set.length ≤ set'.length ∧ (more' = true → more = true ∨ set.length < set'.length) := by
  intro cls
  induction cls with
  | nil => intro set more k _ set' more' h; simp only [passP, Option.some.injEq, Prod.mk.injEq] at h; obtain ⟨rfl, rfl⟩ := h; exact ⟨k, by omega, .inl⟩
  | cons l r ih =>
    intro set more k hc set' more' h
    have h0 : (0 : Int) ∉ set := fun h => (k.lit 0 h).1 rfl
    simp only [passP] at h
    split at h
    · cases h
    · split at h
      · rename_i hne
        have hne' : (leftP set l 0).1 ≠ 0 := by simpa using hne
        have hl := hc l (by simp)
        have hn := leftP_new k.cons h0 (fun x hx => (hl x hx).1) hne'
        have := ih (set ++ [(leftP set l 0).1]) true (k.add (hl _ hn.1) hn.2.1 hn.2.2) (fun l' h' => hc l' (by simp [h'])) _ _ h
        simp only [List.length_append, List.length_cons, List.length_nil] at this
        exact ⟨this.1, by omega, fun _ => .inr (by omega)⟩
      · exact ih set more k (fun l' h' => hc l' (by simp [h'])) _ _ h
theorem givenP_known {v : Int} : ∀ (g : List Int) (set : List Int), Known v set → (∀ x ∈ g, x ≠ 0 ∧ -v ≤ x ∧ x ≤ v) → ∀ set', givenP g set = some set' → Known v set' := by
  intro g
  induction g with
  | nil => intro set k _ set' h; simp only [givenP, Option.some.injEq] at h; subst h; exact k
  | cons x r ih =>
    intro set k hg set' h
    simp only [givenP] at h
    split at h
    · cases h
    · rename_i h1
      refine ih _ ?_ (fun y hy => hg y (by simp [hy])) _ h
      split
      · exact k
      · rename_i h2
        exact k.add (hg x (by simp)) (by simpa using h2) (by simpa using h1)

end Go.Lead
