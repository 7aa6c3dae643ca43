/- Diagrams of tables, in plain Lean: how they are laid down, and what their places mean; no program in sight. -/
import Derived.Test.YthgleoodmgophaaVm14
import Derived.Test.YthgleoodmgophaaFn0
namespace Go.Lead
set_option linter.unusedVariables false

/-- A node of a diagram. -/
structure Nd where
  v : Nat
  lo : Nat
  hi : Nat
  deriving DecidableEq, Repr

/-- The place of a node, laid down if it is not there. -/
def putNd (n : Nd) (ns : List Nd) : Nat × List Nd := match ns.idxOf? n with | some i => (i + 2, ns) | none => (ns.length + 2, ns ++ [n])
/-- The place of a table of 2^n truths. -/
def mkD : Nat → (Nat → Bool) → Nat → List Nd → Nat × List Nd
  | 0, f, _, ns => (if f 0 then 1 else 0, ns)
  | n + 1, f, low, ns =>
    let r1 := mkD n (fun i => f (2 * i)) (low + 1) ns
    let r2 := mkD n (fun i => f (2 * i + 1)) (low + 1) r1.2
    if r1.1 = r2.1 then r2 else putNd ⟨low, r1.1, r2.1⟩ r2.2

theorem mkD_ext : ∀ (n : Nat) {f g : Nat → Bool} (low : Nat) (ns : List Nd), (∀ i, i < 2 ^ n → f i = g i) → mkD n f low ns = mkD n g low ns := by
  intro n
  induction n with
  | zero => intro f g low ns h; simp only [mkD]; rw [h 0 (by simp)]
  | succ n ih =>
    intro f g low ns h
    have hp : 2 ^ (n + 1) = 2 * 2 ^ n := by rw [Nat.pow_succ]; omega
    have h1 : ∀ ns, mkD n (fun i => f (2 * i)) (low + 1) ns = mkD n (fun i => g (2 * i)) (low + 1) ns := fun ns => ih _ _ fun i hi => h _ (by omega)
    have h2 : ∀ ns, mkD n (fun i => f (2 * i + 1)) (low + 1) ns = mkD n (fun i => g (2 * i + 1)) (low + 1) ns := fun ns => ih _ _ fun i hi => h _ (by omega)
    simp only [mkD, h1, h2]

theorem putNd_pre (n : Nd) (ns : List Nd) : ns <+: (putNd n ns).2 := by
  unfold putNd; split
  · exact List.prefix_refl _
  · exact List.prefix_append _ _
theorem mkD_pre : ∀ (n : Nat) (f : Nat → Bool) (low : Nat) (ns : List Nd), ns <+: (mkD n f low ns).2 := by
  intro n
  induction n with
  | zero => intro f low ns; exact List.prefix_refl _
  | succ n ih =>
    intro f low ns
    have h1 := ih (fun i => f (2 * i)) (low + 1) ns
    have h2 := ih (fun i => f (2 * i + 1)) (low + 1) (mkD n (fun i => f (2 * i)) (low + 1) ns).2
    simp only [mkD]
    split
    · exact h1.trans h2
    · exact (h1.trans h2).trans (putNd_pre _ _)

theorem idxOf_pre {n : Nd} {ns ns2 : List Nd} {i : Nat} (h : ns.idxOf? n = some i) (p : ns <+: ns2) : ns2.idxOf? n = some i := by
  obtain ⟨r, rfl⟩ := p
  simp only [List.idxOf?] at h ⊢
  rw [List.findIdx?_append, h]; rfl
theorem idxOf_new {n : Nd} {ns ns2 : List Nd} (h : ns.idxOf? n = none) (p : ns ++ [n] <+: ns2) : ns2.idxOf? n = some ns.length := by
  obtain ⟨r, rfl⟩ := p
  simp only [List.idxOf?] at h ⊢
  rw [List.append_assoc, List.findIdx?_append, h]
  simp [List.findIdx?_cons]
theorem putNd_idem {n : Nd} {ns ns2 : List Nd} (p : (putNd n ns).2 <+: ns2) : putNd n ns2 = ((putNd n ns).1, ns2) := by
  cases h : ns.idxOf? n with
  | some i =>
    have e : putNd n ns = (i + 2, ns) := by simp [putNd, h]
    rw [e] at p ⊢
    simp [putNd, idxOf_pre h p]
  | none =>
    have e : putNd n ns = (ns.length + 2, ns ++ [n]) := by simp [putNd, h]
    rw [e] at p ⊢
    simp [putNd, idxOf_new h p]

theorem mkD_idem : ∀ (n : Nat) (f : Nat → Bool) (low : Nat) (ns ns2 : List Nd), (mkD n f low ns).2 <+: ns2 → mkD n f low ns2 = ((mkD n f low ns).1, ns2) := by
  intro n
  induction n with
  | zero => intro f low ns ns2 p; rfl
  | succ n ih =>
    intro f low ns ns2 p
    have p1 : (mkD n (fun i => f (2 * i)) (low + 1) ns).2 <+: ns2 := by
      refine List.IsPrefix.trans ?_ p
      simp only [mkD]
      split
      · exact mkD_pre _ _ _ _
      · exact (mkD_pre _ _ _ _).trans (putNd_pre _ _)
    have p2 : (mkD n (fun i => f (2 * i + 1)) (low + 1) (mkD n (fun i => f (2 * i)) (low + 1) ns).2).2 <+: ns2 := by
      refine List.IsPrefix.trans ?_ p
      simp only [mkD]
      split
      · exact List.prefix_refl _
      · exact putNd_pre _ _
    have e1 := ih _ _ _ _ p1
    have e2 := ih _ _ _ _ p2
    simp only [mkD] at p ⊢
    rw [e1]
    simp only
    rw [e2]
    simp only
    split
    · rfl
    · rename_i hne
      rw [if_neg hne] at p
      exact putNd_idem p

theorem putNd_len (n : Nd) (ns : List Nd) : (putNd n ns).2.length ≤ ns.length + 1 := by
  unfold putNd; split <;> simp
theorem mkD_len : ∀ (n : Nat) (f : Nat → Bool) (low : Nat) (ns : List Nd), (mkD n f low ns).2.length + 1 ≤ ns.length + 2 ^ n := by
  intro n
  induction n with
  | zero => intro f low ns; simp [mkD]
  | succ n ih =>
    intro f low ns
    have h1 := ih (fun i => f (2 * i)) (low + 1) ns
    have h2 := ih (fun i => f (2 * i + 1)) (low + 1) (mkD n (fun i => f (2 * i)) (low + 1) ns).2
    have h3 := putNd_len ⟨low, (mkD n (fun i => f (2 * i)) (low + 1) ns).1, (mkD n (fun i => f (2 * i + 1)) (low + 1) (mkD n (fun i => f (2 * i)) (low + 1) ns).2).1⟩ (mkD n (fun i => f (2 * i + 1)) (low + 1) (mkD n (fun i => f (2 * i)) (low + 1) ns).2).2
    have hp : 2 ^ (n + 1) = 2 * 2 ^ n := by rw [Nat.pow_succ]; omega
    simp only [mkD]
    split <;> omega

/-- What a place says of a number. -/
inductive Ev (ns : List Nd) : Nat → Nat → Bool → Prop
  | no (c : Nat) : Ev ns 0 c false
  | yes (c : Nat) : Ev ns 1 c true
  | node {p c : Nat} {n : Nd} {b : Bool} : ns[p]? = some n → Ev ns (if c.testBit n.v then n.hi else n.lo) c b → Ev ns (p + 2) c b
theorem Ev.pre {ns ns2 : List Nd} (l : ns <+: ns2) {p c : Nat} {b : Bool} (e : Ev ns p c b) : Ev ns2 p c b := by
  induction e with
  | no => exact .no _
  | yes => exact .yes _
  | node h _ ih =>
    obtain ⟨r, rfl⟩ := l
    exact .node (by rw [List.getElem?_append_left (List.getElem?_eq_some_iff.1 h).1]; exact h) ih
theorem Ev.det {ns : List Nd} {p c : Nat} {b b' : Bool} (e : Ev ns p c b) (e' : Ev ns p c b') : b = b' := by
  induction e with
  | no => cases e'; rfl
  | yes => cases e'; rfl
  | node h _ ih =>
    cases e' with
    | node h' e2 =>
      rw [h] at h'; cases h'
      exact ih e2

theorem putNd_get (n : Nd) (ns : List Nd) : ∃ p, (putNd n ns).1 = p + 2 ∧ (putNd n ns).2[p]? = some n := by
  unfold putNd
  cases h : ns.idxOf? n with
  | some i =>
    refine ⟨i, rfl, ?_⟩
    simp only [List.idxOf?] at h
    obtain ⟨hi, he, _⟩ := List.findIdx?_eq_some_iff_getElem.1 h
    simp only [beq_iff_eq] at he
    simp [hi, he]
  | none => exact ⟨ns.length, rfl, by simp⟩

theorem split_bit (c low n : Nat) : (c / 2 ^ low) % 2 ^ (n + 1) = 2 * ((c / 2 ^ (low + 1)) % 2 ^ n) + (if c.testBit low then 1 else 0) := by
  have h1 : c / 2 ^ (low + 1) = c / 2 ^ low / 2 := by rw [Nat.pow_succ, Nat.div_div_eq_div_mul]
  have h2 : (if c.testBit low then 1 else 0) = (c / 2 ^ low) % 2 := by
    rw [Nat.testBit_eq_decide_div_mod_eq]
    rcases Nat.mod_two_eq_zero_or_one (c / 2 ^ low) with h | h <;> simp [h]
  rw [h1, h2]
  generalize c / 2 ^ low = x
  rw [Nat.pow_succ, Nat.mul_comm (2 ^ n) 2, Nat.mod_mul]
  omega

theorem mkD_ev : ∀ (n : Nat) (f : Nat → Bool) (low : Nat) (ns : List Nd) (c : Nat), Ev (mkD n f low ns).2 (mkD n f low ns).1 c (f ((c / 2 ^ low) % 2 ^ n)) := by
  intro n
  induction n with
  | zero =>
    intro f low ns c
    simp only [mkD, Nat.pow_zero, Nat.mod_one]
    cases f 0
    · exact .no _
    · exact .yes _
  | succ n ih =>
    intro f low ns c
    have e1 := ih (fun i => f (2 * i)) (low + 1) ns c
    have e2 := ih (fun i => f (2 * i + 1)) (low + 1) (mkD n (fun i => f (2 * i)) (low + 1) ns).2 c
    have l2 := mkD_pre n (fun i => f (2 * i + 1)) (low + 1) (mkD n (fun i => f (2 * i)) (low + 1) ns).2
    have e1' := e1.pre l2
    rw [split_bit]
    simp only [mkD]
    split
    · rename_i he
      rw [he] at e1'
      have hd := e1'.det e2
      cases hb : c.testBit low
      · simp only [Bool.false_eq_true, if_false, Nat.add_zero]; rw [hd]; exact e2
      · simpa using e2
    · obtain ⟨p, hp, hg⟩ := putNd_get ⟨low, (mkD n (fun i => f (2 * i)) (low + 1) ns).1, (mkD n (fun i => f (2 * i + 1)) (low + 1) (mkD n (fun i => f (2 * i)) (low + 1) ns).2).1⟩
        (mkD n (fun i => f (2 * i + 1)) (low + 1) (mkD n (fun i => f (2 * i)) (low + 1) ns).2).2
      rw [hp]
      refine .node hg ?_
      cases hb : c.testBit low
      · simp only [Bool.false_eq_true, if_false, Nat.add_zero]; exact e1'.pre (putNd_pre _ _)
      · simp only [if_true]; exact e2.pre (putNd_pre _ _)

/-- Two tables have one place, the second being laid behind the first, only if they are the same. -/
theorem mkD_same {n low : Nat} {f g : Nat → Bool} {ns : List Nd} :
    (mkD n f low ns).1 = (mkD n g low (mkD n f low ns).2).1 ↔ ∀ i, i < 2 ^ n → f i = g i := by
  constructor
  · intro he i hi
    have e1 := (mkD_ev n f low ns (i * 2 ^ low)).pre (mkD_pre n g low (mkD n f low ns).2)
    have e2 := mkD_ev n g low (mkD n f low ns).2 (i * 2 ^ low)
    rw [he] at e1
    have := e1.det e2
    rwa [Nat.mul_div_cancel _ (Nat.pow_pos (by omega)), Nat.mod_eq_of_lt hi] at this
  · intro h
    rw [← mkD_ext n low _ h, mkD_idem n f low ns _ (List.prefix_refl _)]
theorem mkD_same2 {n low : Nat} {f g : Nat → Bool} {ns : List Nd} (h : ∀ i, i < 2 ^ n → f i = g i) : mkD n g low (mkD n f low ns).2 = mkD n f low ns := by
  rw [← mkD_ext n low _ h, mkD_idem n f low ns _ (List.prefix_refl _)]

end Go.Lead
