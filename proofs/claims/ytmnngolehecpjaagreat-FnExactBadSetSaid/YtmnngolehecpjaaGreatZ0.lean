/- What functions of the program and of the reference come to, walked one by one, and plain laws about it: part 1. No condition is added to the statement. -/
import Derived.Test.YtmnngolehecpjaaGreatVm14
import Derived.Test.YtmnngolehecpjaaGreatFn0
import Derived.Test.YtmnngolehecpjaaGreatFn1
namespace Go.Lead
open Go
set_option linter.unusedVariables false
set_option linter.unusedSimpArgs false
set_option maxHeartbeats 1000000

/-- A node of a diagram. -/
structure Nd where
  v : Nat
  lo : Nat
  hi : Nat
  deriving DecidableEq, Repr

/-- The place of a node, laid down if it is not there. -/
def putNd (n : Nd) (ns : List Nd) : Nat × List Nd := match ns.idxOf? n with | some i => (i + 2, ns) | none => (ns.length + 2, ns ++ [n])
/-- The place of a table of 2^n truths. -/
def mkD : Nat → (Nat → Bool) → Nat → List Nd → Nat × List Nd
  | 0, f, _, ns => (if f 0 then 1 else 0, ns)
  | n + 1, f, low, ns =>
    let r1 := mkD n (fun i => f (2 * i)) (low + 1) ns
    let r2 := mkD n (fun i => f (2 * i + 1)) (low + 1) r1.2
    if r1.1 = r2.1 then r2 else putNd ⟨low, r1.1, r2.1⟩ r2.2

theorem mkD_ext : ∀ (n : Nat) {f g : Nat → Bool} (low : Nat) (ns : List Nd), (∀ i, i < 2 ^ n → f i = g i) → mkD n f low ns = mkD n g low ns := by
  intro n
  induction n with
  | zero => intro f g low ns h; simp only [mkD]; rw [h 0 (by simp)]
  | succ n ih =>
    intro f g low ns h
    have hp : 2 ^ (n + 1) = 2 * 2 ^ n := by rw [Nat.pow_succ]; omega
    have h1 : ∀ ns, mkD n (fun i => f (2 * i)) (low + 1) ns = mkD n (fun i => g (2 * i)) (low + 1) ns := fun ns => ih _ _ fun i hi => h _ (by omega)
    have h2 : ∀ ns, mkD n (fun i => f (2 * i + 1)) (low + 1) ns = mkD n (fun i => g (2 * i + 1)) (low + 1) ns := fun ns => ih _ _ fun i hi => h _ (by omega)
    simp only [mkD, h1, h2]

theorem putNd_pre (n : Nd) (ns : List Nd) : ns <+: (putNd n ns).2 := by
  unfold putNd; split
  · exact List.prefix_refl _
  · exact List.prefix_append _ _
theorem mkD_pre : ∀ (n : Nat) (f : Nat → Bool) (low : Nat) (ns : List Nd), ns <+: (mkD n f low ns).2 := by
  intro n
  induction n with
  | zero => intro f low ns; exact List.prefix_refl _
  | succ n ih =>
    intro f low ns
    have h1 := ih (fun i => f (2 * i)) (low + 1) ns
    have h2 := ih (fun i => f (2 * i + 1)) (low + 1) (mkD n (fun i => f (2 * i)) (low + 1) ns).2
    simp only [mkD]
    split
    · exact h1.trans h2
    · exact (h1.trans h2).trans (putNd_pre _ _)

theorem idxOf_pre {n : Nd} {ns ns2 : List Nd} {i : Nat} (h : ns.idxOf? n = some i) (p : ns <+: ns2) : ns2.idxOf? n = some i := by
  obtain ⟨r, rfl⟩ := p
  simp only [List.idxOf?] at h ⊢
  rw [List.findIdx?_append, h]; rfl
theorem idxOf_new {n : Nd} {ns ns2 : List Nd} (h : ns.idxOf? n = none) (p : ns ++ [n] <+: ns2) : ns2.idxOf? n = some ns.length := by
  obtain ⟨r, rfl⟩ := p
  simp only [List.idxOf?] at h ⊢
  rw [List.append_assoc, List.findIdx?_append, h]
  simp [List.findIdx?_cons]
theorem putNd_idem {n : Nd} {ns ns2 : List Nd} (p : (putNd n ns).2 <+: ns2) : putNd n ns2 = ((putNd n ns).1, ns2) := by
  cases h : ns.idxOf? n with
  | some i =>
    have e : putNd n ns = (i + 2, ns) := by simp [putNd, h]
    rw [e] at p ⊢
    simp [putNd, idxOf_pre h p]
  | none =>
    have e : putNd n ns = (ns.length + 2, ns ++ [n]) := by simp [putNd, h]
    rw [e] at p ⊢
    simp [putNd, idxOf_new h p]

theorem mkD_idem : ∀ (n : Nat) (f : Nat → Bool) (low : Nat) (ns ns2 : List Nd), (mkD n f low ns).2 <+: ns2 → mkD n f low ns2 = ((mkD n f low ns).1, ns2) := by
  intro n
  induction n with
  | zero => intro f low ns ns2 p; rfl
  | succ n ih =>
    intro f low ns ns2 p
    have p1 : (mkD n (fun i => f (2 * i)) (low + 1) ns).2 <+: ns2 := by
      refine List.IsPrefix.trans ?_ p
      simp only [mkD]
      split
      · exact mkD_pre _ _ _ _
      · exact (mkD_pre _ _ _ _).trans (putNd_pre _ _)
    have p2 : (mkD n (fun i => f (2 * i + 1)) (low + 1) (mkD n (fun i => f (2 * i)) (low + 1) ns).2).2 <+: ns2 := by
      refine List.IsPrefix.trans ?_ p
      simp only [mkD]
      split
      · exact List.prefix_refl _
      · exact putNd_pre _ _
    have e1 := ih _ _ _ _ p1
    have e2 := ih _ _ _ _ p2
    simp only [mkD] at p ⊢
    rw [e1]
    simp only
    rw [e2]
    simp only
    split
    · rfl
    · rename_i hne
      rw [if_neg hne] at p
      exact putNd_idem p

theorem putNd_len (n : Nd) (ns : List Nd) : (putNd n ns).2.length ≤ ns.length + 1 := by
  unfold putNd; split <;> simp
theorem mkD_len : ∀ (n : Nat) (f : Nat → Bool) (low : Nat) (ns : List Nd), (mkD n f low ns).2.length + 1 ≤ ns.length + 2 ^ n := by
  intro n
  induction n with
  | zero => intro f low ns; simp [mkD]
  | succ n ih =>
    intro f low ns
    have h1 := ih (fun i => f (2 * i)) (low + 1) ns
    have h2 := ih (fun i => f (2 * i + 1)) (low + 1) (mkD n (fun i => f (2 * i)) (low + 1) ns).2
    have h3 := putNd_len ⟨low, (mkD n (fun i => f (2 * i)) (low + 1) ns).1, (mkD n (fun i => f (2 * i + 1)) (low + 1) (mkD n (fun i => f (2 * i)) (low + 1) ns).2).1⟩ (mkD n (fun i => f (2 * i + 1)) (low + 1) (mkD n (fun i => f (2 * i)) (low + 1) ns).2).2
    have hp : 2 ^ (n + 1) = 2 * 2 ^ n := by rw [Nat.pow_succ]; omega
    simp only [mkD]
    split <;> omega

/-- What a place says of a number. -/
inductive Ev (ns : List Nd) : Nat → Nat → Bool → Prop
  | no (c : Nat) : Ev ns 0 c false
  | yes (c : Nat) : Ev ns 1 c true
  | node {p c : Nat} {n : Nd} {b : Bool} : ns[p]? = some n → Ev ns (if c.testBit n.v then n.hi else n.lo) c b → Ev ns (p + 2) c b
theorem Ev.pre {ns ns2 : List Nd} (l : ns <+: ns2) {p c : Nat} {b : Bool} (e : Ev ns p c b) : Ev ns2 p c b := by
  induction e with
  | no => exact .no _
  | yes => exact .yes _
  | node h _ ih =>
    obtain ⟨r, rfl⟩ := l
    exact .node (by rw [List.getElem?_append_left (List.getElem?_eq_some_iff.1 h).1]; exact h) ih
theorem Ev.det {ns : List Nd} {p c : Nat} {b b' : Bool} (e : Ev ns p c b) (e' : Ev ns p c b') : b = b' := by
  induction e with
  | no => cases e'; rfl
  | yes => cases e'; rfl
  | node h _ ih =>
    cases e' with
    | node h' e2 =>
      rw [h] at h'; cases h'
      exact ih e2

theorem putNd_get (n : Nd) (ns : List Nd) : ∃ p, (putNd n ns).1 = p + 2 ∧ (putNd n ns).2[p]? = some n := by
  unfold putNd
  cases h : ns.idxOf? n with
  | some i =>
    refine ⟨i, rfl, ?_⟩
    simp only [List.idxOf?] at h
    obtain ⟨hi, he, _⟩ := List.findIdx?_eq_some_iff_getElem.1 h
    simp only [beq_iff_eq] at he
    simp [hi, he]
  | none => exact ⟨ns.length, rfl, by simp⟩

theorem split_bit (c low n : Nat) : (c / 2 ^ low) % 2 ^ (n + 1) = 2 * ((c / 2 ^ (low + 1)) % 2 ^ n) + (if c.testBit low then 1 else 0) := by
  have h1 : c / 2 ^ (low + 1) = c / 2 ^ low / 2 := by rw [Nat.pow_succ, Nat.div_div_eq_div_mul]
  have h2 : (if c.testBit low then 1 else 0) = (c / 2 ^ low) % 2 := by
    rw [Nat.testBit_eq_decide_div_mod_eq]
    rcases Nat.mod_two_eq_zero_or_one (c / 2 ^ low) with h | h <;> simp [h]
  rw [h1, h2]
  generalize c / 2 ^ low = x
  rw [Nat.pow_succ, Nat.mul_comm (2 ^ n) 2, Nat.mod_mul]
  omega

theorem mkD_ev : ∀ (n : Nat) (f : Nat → Bool) (low : Nat) (ns : List Nd) (c : Nat), Ev (mkD n f low ns).2 (mkD n f low ns).1 c (f ((c / 2 ^ low) % 2 ^ n)) := by
  intro n
  induction n with
  | zero =>
    intro f low ns c
    simp only [mkD, Nat.pow_zero, Nat.mod_one]
    cases f 0
    · exact .no _
    · exact .yes _
  | succ n ih =>
    intro f low ns c
    have e1 := ih (fun i => f (2 * i)) (low + 1) ns c
    have e2 := ih (fun i => f (2 * i + 1)) (low + 1) (mkD n (fun i => f (2 * i)) (low + 1) ns).2 c
    have l2 := mkD_pre n (fun i => f (2 * i + 1)) (low + 1) (mkD n (fun i => f (2 * i)) (low + 1) ns).2
    have e1' := e1.pre l2
    rw [split_bit]
    simp only [mkD]
    split
    · rename_i he
      rw [he] at e1'
      have hd := e1'.det e2
      cases hb : c.testBit low
      · simp only [Bool.false_eq_true, if_false, Nat.add_zero]; rw [hd]; exact e2
      · simpa using e2
    · obtain ⟨p, hp, hg⟩ := putNd_get ⟨low, (mkD n (fun i => f (2 * i)) (low + 1) ns).1, (mkD n (fun i => f (2 * i + 1)) (low + 1) (mkD n (fun i => f (2 * i)) (low + 1) ns).2).1⟩
        (mkD n (fun i => f (2 * i + 1)) (low + 1) (mkD n (fun i => f (2 * i)) (low + 1) ns).2).2
      rw [hp]
      refine .node hg ?_
      cases hb : c.testBit low
      · simp only [Bool.false_eq_true, if_false, Nat.add_zero]; exact e1'.pre (putNd_pre _ _)
      · simp only [if_true]; exact e2.pre (putNd_pre _ _)

/-- Two tables have one place, the second being laid behind the first, only if they are the same. -/
theorem mkD_same {n low : Nat} {f g : Nat → Bool} {ns : List Nd} :
    (mkD n f low ns).1 = (mkD n g low (mkD n f low ns).2).1 ↔ ∀ i, i < 2 ^ n → f i = g i := by
  constructor
  · intro he i hi
    have e1 := (mkD_ev n f low ns (i * 2 ^ low)).pre (mkD_pre n g low (mkD n f low ns).2)
    have e2 := mkD_ev n g low (mkD n f low ns).2 (i * 2 ^ low)
    rw [he] at e1
    have := e1.det e2
    rwa [Nat.mul_div_cancel _ (Nat.pow_pos (by omega)), Nat.mod_eq_of_lt hi] at this
  · intro h
    rw [← mkD_ext n low _ h, mkD_idem n f low ns _ (List.prefix_refl _)]
theorem mkD_same2 {n low : Nat} {f g : Nat → Bool} {ns : List Nd} (h : ∀ i, i < 2 ^ n → f i = g i) : mkD n g low (mkD n f low ns).2 = mkD n f low ns := by
  rw [← mkD_ext n low _ h, mkD_idem n f low ns _ (List.prefix_refl _)]


/-- The one literal of a clause that is open, when all others are false; and whether all are false. -/
def leftP (set : List Int) : List Int → Int → Int × Bool
  | [], left => (left, left == 0)
  | x :: r, left =>
    if set.contains x then (0, false) else
    if set.contains (-x) then leftP set r left else
    if left != 0 && left != x then (0, false) else leftP set r x
/-- Once through the clauses. -/
def passP : List (List Int) → List Int → Bool → Option (List Int × Bool)
  | [], set, more => some (set, more)
  | l :: r, set, more => if (leftP set l 0).2 then none else if (leftP set l 0).1 != 0 then passP r (set ++ [(leftP set l 0).1]) true else passP r set more
/-- As long as there is more. -/
def roundsP (cls : List (List Int)) (set : List Int) : Option (List Int) :=
  match passP cls set false with
  | none => none
  | some (set', more) => if more then (if h : set.length < set'.length ∧ set'.length ≤ 20 then roundsP cls set' else none) else some set'
termination_by 20 - set.length
decreasing_by omega
def givenP : List Int → List Int → Option (List Int)
  | [], set => some set
  | x :: r, set => if set.contains (-x) then none else givenP r (if set.contains x then set else set ++ [x])
def unitsP (cls : List (List Int)) (given : List Int) : Option (List Int) := (givenP given []).bind (roundsP cls)
/-- What is known is sound in itself. -/
structure Known (v : Int) (set : List Int) : Prop where
  lit : ∀ x ∈ set, x ≠ 0 ∧ -v ≤ x ∧ x ≤ v
  nodup : set.Nodup
  cons : ∀ x ∈ set, -x ∉ set
theorem known_nil (v : Int) : Known v [] := ⟨by simp, List.nodup_nil, by simp⟩
theorem Known.add {v : Int} {set : List Int} (k : Known v set) {x : Int} (hx : x ≠ 0 ∧ -v ≤ x ∧ x ≤ v) (h1 : x ∉ set) (h2 : -x ∉ set) : Known v (set ++ [x]) := by
  refine ⟨?_, ?_, ?_⟩
  · intro y hy
    rcases List.mem_append.1 hy with h | h
    · exact k.lit y h
    · simp only [List.mem_singleton] at h; subst h; exact hx
  · rw [List.nodup_append]
    refine ⟨k.nodup, by simp, ?_⟩
    intro a ha b hb
    simp only [List.mem_singleton] at hb; subst hb
    intro e; subst e; exact h1 ha
  · intro y hy hn
    rcases List.mem_append.1 hy with h | h <;> rcases List.mem_append.1 hn with h' | h'
    · exact k.cons y h h'
    · simp only [List.mem_singleton] at h'; exact h2 (by rw [← h', Int.neg_neg]; exact h)
    · simp only [List.mem_singleton] at h; subst h; exact h2 h'
    · simp only [List.mem_singleton] at h h'; subst h; omega
theorem len_le_of_bound : ∀ (n : Nat) (l : List Int) (a : Int), l.Nodup → (∀ x ∈ l, a ≤ x ∧ x < a + n) → l.length ≤ n := by
  intro n
  induction n with
  | zero =>
    intro l a _ h
    cases l with
    | nil => simp
    | cons x r => have := h x (by simp); omega
  | succ n ih =>
    intro l a hd h
    by_cases hm : (a + n) ∈ l
    · have h1 := ih (l.erase (a + n)) a (hd.erase _) (fun x hx => by
        have hx' := List.mem_of_mem_erase hx
        have := h x hx'
        have hne : x ≠ a + n := fun e => by
          subst e
          exact (List.Nodup.not_mem_erase hd) hx
        omega)
      rw [List.length_erase_of_mem hm] at h1
      omega
    · have := ih l a hd (fun x hx => by
        have h1 := h x hx
        have hne : x ≠ a + n := fun e => hm (e ▸ hx)
        omega)
      omega
theorem Known.len {v : Int} {set : List Int} (k : Known v set) (hv : v ≤ 10) (hv0 : 0 ≤ v) : set.length ≤ 20 := by
  -- the numbers from -v to v without 0
  have h0 : (0 : Int) ∉ set := fun h => (k.lit 0 h).1 rfl
  have h1 := len_le_of_bound 21 (0 :: set) (-10) (List.nodup_cons.2 ⟨h0, k.nodup⟩) (fun x hx => by
    rcases List.mem_cons.1 hx with rfl | hx
    · omega
    · have := k.lit x hx; omega)
  simp only [List.length_cons] at h1
  omega

theorem leftP_new {set : List Int} (hcons : ∀ x ∈ set, -x ∉ set) (h0 : (0 : Int) ∉ set) {l : List Int} (hl : ∀ x ∈ l, x ≠ 0) (hne : (leftP set l 0).1 ≠ 0) :
    (leftP set l 0).1 ∈ l ∧ (leftP set l 0).1 ∉ set ∧ -(leftP set l 0).1 ∉ set := by
  have key : ∀ (l : List Int) (o : Int), (∀ x ∈ l, x ≠ 0) → (o = 0 ∨ (o ∉ set ∧ -o ∉ set)) → (leftP set l o).1 ≠ 0 →
      ((leftP set l o).1 ∈ l ∨ (leftP set l o).1 = o) ∧ (leftP set l o).1 ∉ set ∧ -(leftP set l o).1 ∉ set := by
    intro l
    induction l with
    | nil =>
      intro o _ ho hne
      simp only [leftP] at hne ⊢
      rcases ho with h | h
      · exact absurd h hne
      · exact ⟨by simp, h⟩
    | cons x r ih =>
      intro o hx ho hne
      have hr := fun y hy => hx y (List.mem_cons_of_mem _ hy)
      simp only [leftP] at hne ⊢
      split at hne
      · exact absurd rfl hne
      · rename_i h1
        rw [if_neg h1]
        split at hne
        · rename_i h2
          rw [if_pos h2]
          have := ih o hr ho hne
          exact ⟨this.1.imp (List.mem_cons_of_mem _) id, this.2⟩
        · rename_i h2
          rw [if_neg h2]
          split at hne
          · exact absurd rfl hne
          · rename_i h3
            rw [if_neg h3]
            have := ih x hr (.inr ⟨by simpa using h1, by simpa using h2⟩) hne
            refine ⟨.inl ?_, this.2⟩
            rcases this.1 with h | h
            · exact List.mem_cons_of_mem _ h
            · rw [h]; simp
  have := key l 0 hl (.inl rfl) hne
  refine ⟨?_, this.2⟩
  rcases this.1 with h | h
  · exact h
  · exact absurd h hne

theorem passP_known {v : Int} : ∀ (cls : List (List Int)) (set : List Int) (more : Bool), Known v set → (∀ l ∈ cls, ∀ x ∈ l, x ≠ 0 ∧ -v ≤ x ∧ x ≤ v) →
    ∀ set' more', passP cls set more = some (set', more') → Known v set' ∧ set.length ≤ set'.length ∧ (more' = true → more = true ∨ set.length < set'.length) := by
  intro cls
  induction cls with
  | nil => intro set more k _ set' more' h; simp only [passP, Option.some.injEq, Prod.mk.injEq] at h; obtain ⟨rfl, rfl⟩ := h; exact ⟨k, by omega, .inl⟩
  | cons l r ih =>
    intro set more k hc set' more' h
    have h0 : (0 : Int) ∉ set := fun h => (k.lit 0 h).1 rfl
    simp only [passP] at h
    split at h
    · cases h
    · split at h
      · rename_i hne
        have hne' : (leftP set l 0).1 ≠ 0 := by simpa using hne
        have hl := hc l (by simp)
        have hn := leftP_new k.cons h0 (fun x hx => (hl x hx).1) hne'
        have := ih (set ++ [(leftP set l 0).1]) true (k.add (hl _ hn.1) hn.2.1 hn.2.2) (fun l' h' => hc l' (by simp [h'])) _ _ h
        simp only [List.length_append, List.length_cons, List.length_nil] at this
        exact ⟨this.1, by omega, fun _ => .inr (by omega)⟩
      · exact ih set more k (fun l' h' => hc l' (by simp [h'])) _ _ h
theorem givenP_known {v : Int} : ∀ (g : List Int) (set : List Int), Known v set → (∀ x ∈ g, x ≠ 0 ∧ -v ≤ x ∧ x ≤ v) → ∀ set', givenP g set = some set' → Known v set' := by
  intro g
  induction g with
  | nil => intro set k _ set' h; simp only [givenP, Option.some.injEq] at h; subst h; exact k
  | cons x r ih =>
    intro set k hg set' h
    simp only [givenP] at h
    split at h
    · cases h
    · rename_i h1
      refine ih _ ?_ (fun y hy => hg y (by simp [hy])) _ h
      split
      · exact k
      · rename_i h2
        exact k.add (hg x (by simp)) (by simpa using h2) (by simpa using h1)


theorem any_step {α : Type} {xs : List α} {p : α → Bool} {i : Nat} (hi : i < xs.length) : (xs.take (i + 1)).any p = ((xs.take i).any p || p xs[i]) := by
  rw [List.take_succ_eq_append_getElem hi, List.any_append]; simp

theorem eqIntS_spec {h : Hp} {s t : Sl} {xs ys : List Int} {R : Value → Hp → Prop} (hs : IntS h s xs) (ht : IntS h t ys)
    (k : R (.bool (decide (xs = ys))) h) : c_laws_eqIntS #[s.v, t.v] h R := by
  apply R_laws_eqIntS
  unfold F_laws_eqIntS
  have ls := hs.len
  have lt := ht.len
  by_cases hl : xs.length = ys.length
  · refine bs_f (by simp [ls, lt, hl]) ?_
    refine loop_up xs.length (fun i vs h' => vs = [s.v, t.v, I i] ∧ h' = h ∧ xs.take i = ys.take i) ⟨rfl, rfl, by simp⟩ ?_
    rintro i _ _ next hi ⟨rfl, rfl, hp⟩ hn
    refine ⟨_, _, _, rfl, ?_⟩
    by_cases hlt : i < xs.length
    · obtain ⟨b, o, ha, hc⟩ := hs.at hlt
      have hi' : i < ys.length := by omega
      obtain ⟨b', o', ha', hc'⟩ := ht.at hi'
      have hb := hs.bound
      refine bs_t (by simp [ls, hlt]) ?_
      simp only [vm, ls, lt, ha, ha', hc, hc', W_succ (n := i) (by omega)]
      refine ⟨by omega, by omega, bsplit_of (fun he => ?_) (fun he => ?_)⟩
      · rwa [decide_eq_false (fun e => by subst e; simp at he)] at k
      · exact hn hlt _ _ ⟨rfl, rfl, take_step hlt hi' hp (by simpa using he)⟩
    · have : i = xs.length := by omega
      subst this
      refine bs_f (by simp [ls]) ?_
      rw [List.take_length, hl, List.take_length] at hp
      rwa [decide_eq_true hp] at k
  · refine bs_t (by simp [ls, lt]; omega) ?_
    rwa [decide_eq_false (fun e => hl (by rw [e]))] at k

theorem szIntS_spec {h : Hp} {s : Sl} {xs : List Int} {left : Int} {R : Value → Hp → Prop} (hs : IntS h s xs) (h0 : 0 ≤ left) (h1 : left ≤ 1048576)
    (k : ∀ r : Int, (r < 0 ∨ 0 ≤ r ∧ r + xs.length = left) → R (I r) h) : c_laws_szIntS #[s.v, I left] h R := by
  apply R_laws_szIntS
  unfold F_laws_szIntS
  have hb := hs.bound
  rw [hs.len, W_id (by omega) (by omega)]
  exact bsplit_of (fun e => k _ (by simp)) (fun e => k _ (by simp at e; omega))

/-- A list of lists whose rows are all its own. -/
structure OwnSS (h : Hp) (t : Sl) (ts : List Sl) (xss : List (List Int)) : Prop where
  len : ts.length = xss.length
  outer : SlC (h.wo (ts.flatMap Sl.used)) t 1 (ts.map Sl.v)
  inner : ∀ (i : Nat) (h1 : i < ts.length) (h2 : i < xss.length), Own h ts[i] 1 (xss[i].map I)
theorem OwnSS.ints {h : Hp} {t : Sl} {ts : List Sl} {xss : List (List Int)} (e : OwnSS h t ts xss) : IntSS h t xss :=
  ⟨ts, e.len, e.outer.mono (wo_le _ _), fun i h1 h2 => (e.inner i h1 h2).slc⟩
theorem OwnSS.mono {h h' : Hp} {t : Sl} {ts : List Sl} {xss : List (List Int)} (l : h.le h') (e : OwnSS h t ts xss) : OwnSS h' t ts xss :=
  ⟨e.len, e.outer.mono (le_wo (Hp.le_trans (wo_le _ _) l) fun b hb => wo_none hb), fun i h1 h2 => (e.inner i h1 h2).mono l⟩
theorem OwnSS.used {h : Hp} {t : Sl} {ts : List Sl} {xss : List (List Int)} (e : OwnSS h t ts xss) : ∀ b ∈ ts.flatMap Sl.used, h b ≠ none := by
  intro b hb
  obtain ⟨u, hu, hbu⟩ := List.mem_flatMap.1 hb
  obtain ⟨i, hi, rfl⟩ := List.getElem_of_mem hu
  exact (e.inner i hi (by rw [← e.len]; exact hi)).used b hbu

theorem l1In_spec {h : Hp} {x a b : Int} {R : Value → Hp → Prop} (k : R (.bool (decide (a ≤ x ∧ x ≤ b))) h) : c_spec_l1In #[I x, I a, I b] h R := by
  apply R_spec_l1In
  unfold F_spec_l1In
  refine bsplit_of (fun e => ?_) (fun e => ?_)
  · simp at e; simpa [e] using k
  · simp at e; rwa [decide_eq_false (by omega)] at k
theorem in_spec {h : Hp} {x a b : Int} {R : Value → Hp → Prop} (k : R (.bool (decide (a ≤ x ∧ x ≤ b))) h) : c_impl_in #[I x, I a, I b] h R := by
  apply R_impl_in
  unfold F_impl_in
  refine bsplit_of (fun e => ?_) (fun e => ?_)
  · simp at e; simpa [e] using k
  · simp at e; rwa [decide_eq_false (by omega)] at k

/-- A literal of so many variables. -/
def LitOk (vars n : Int) : Bool := decide (n ≠ 0 ∧ -vars ≤ n ∧ n ≤ vars)
def ClauseOk (vars : Int) (l : List Int) : Bool := decide (l.length ≤ 10) && l.all (LitOk vars)
def CnfOkB (vars : Int) (c : List (List Int)) : Bool := decide (1 ≤ vars ∧ vars ≤ 10) && (decide (c.length ≤ 60) && c.all (ClauseOk vars))

/-- The first place at which something holds, from a place on. -/
def idxI {α : Type} (p : α → Bool) (xs : List α) : Int := match xs.findIdx? p with | some i => i | none => -1
theorem idxI_none {α : Type} {p : α → Bool} {xs : List α} (e : xs.any p = false) : idxI p xs = -1 := by
  have : xs.findIdx? p = none := by
    rw [List.findIdx?_eq_none_iff]; intro x hx; rw [List.any_eq_false] at e; simpa using e x hx
  simp [idxI, this]
theorem idxI_some {α : Type} {p : α → Bool} {xs : List α} {i : Nat} (hi : i < xs.length) (e : (xs.take i).any p = false) (hp : p xs[i] = true) : idxI p xs = i := by
  have : xs.findIdx? p = some i := by
    rw [List.findIdx?_eq_some_iff_getElem]
    refine ⟨hi, hp, fun j hj => ?_⟩
    rw [List.any_eq_false] at e
    exact e _ (by rw [List.mem_take_iff_getElem]; exact ⟨j, by omega, rfl⟩)
  simp [idxI, this]
theorem idxI_ge {α : Type} (p : α → Bool) (xs : List α) : decide (idxI p xs ≥ 0) = xs.any p := by
  cases h : xs.any p with
  | false => rw [idxI_none h]; rfl
  | true =>
    unfold idxI
    cases h' : xs.findIdx? p with
    | some i => simp
    | none => rw [List.findIdx?_eq_none_iff] at h'; rw [List.any_eq_true] at h; obtain ⟨x, hx, hp⟩ := h; simp [h' x hx] at hp

theorem IndexFunc_int_spec {h : Hp} {s : Sl} {xs : List Int} {f : FuncId} {u w : Array Value} (p : Int → Bool) {R : Value → Hp → Prop} (hs : IntS h s xs)
    (hf : ∀ x ∈ xs, ∀ R : Value → Hp → Prop, R (.bool (p x)) h → ACalls PR f ((u ++ #[I x]) ++ w) h R)
    (k : R (I (idxI p xs)) h) : c_slices_IndexFunc_Sint_int #[s.v, .func (.func f) u w] h R := by
  apply R_slices_IndexFunc_Sint_int
  unfold F_slices_IndexFunc_Sint_int
  have hb := hs.bound
  refine loop_up xs.length (fun i vs h' => vs = [s.v, .func (.func f) u w, I xs.length, I i] ∧ h' = h ∧ (xs.take i).any p = false) ⟨by rw [hs.len]; rfl, rfl, by simp⟩ ?_
  rintro i _ _ next hi ⟨rfl, rfl, hp⟩ hn
  refine ⟨_, _, _, _, _, _, rfl, ?_⟩
  by_cases hlt : i < xs.length
  · obtain ⟨b, o, ha, hc⟩ := hs.at hlt
    refine bs_t (by simp [hlt]) ?_
    simp only [vm, hs.len, ha, hc, W_succ (n := i) (by omega)]
    refine ⟨by omega, hf _ (List.getElem_mem hlt) _ ⟨_, rfl, bsplit_of (fun he => ?_) (fun he => ?_)⟩⟩
    · rwa [idxI_some hlt hp he] at k
    · exact hn hlt _ _ ⟨rfl, rfl, by rw [any_step hlt, hp, he]; rfl⟩
  · have : i = xs.length := by omega
    subst this
    rw [List.take_length] at hp
    refine bs_f (by simp) ?_
    rwa [idxI_none hp] at k

theorem ContainsFunc_int_spec {h : Hp} {s : Sl} {xs : List Int} {f : FuncId} {u w : Array Value} (p : Int → Bool) {R : Value → Hp → Prop} (hs : IntS h s xs)
    (hf : ∀ x ∈ xs, ∀ R : Value → Hp → Prop, R (.bool (p x)) h → ACalls PR f ((u ++ #[I x]) ++ w) h R)
    (k : R (.bool (xs.any p)) h) : c_slices_ContainsFunc_Sint_int #[s.v, .func (.func f) u w] h R := by
  apply R_slices_ContainsFunc_Sint_int
  unfold F_slices_ContainsFunc_Sint_int
  exact IndexFunc_int_spec p hs hf ⟨_, rfl, by rwa [idxI_ge]⟩


/-- A slice of truths. -/
def BoolS (h : Hp) (s : Sl) (xs : List Bool) : Prop := SlC h s 1 (xs.map Value.bool)
theorem BoolS.mono {h h' : Hp} {s : Sl} {xs : List Bool} (l : h.le h') (e : BoolS h s xs) : BoolS h' s xs := SlC.mono l e
theorem BoolS.len {h : Hp} {s : Sl} {xs : List Bool} (e : BoolS h s xs) : s.n = xs.length := by have := e.2.1; simp at this; omega
theorem BoolS.bound {h : Hp} {s : Sl} {xs : List Bool} (e : BoolS h s xs) : xs.length ≤ 9223372036854775807 := by rw [← e.len]; exact e.1
theorem BoolS.at {h : Hp} {s : Sl} {xs : List Bool} (e : BoolS h s xs) {i : Nat} (hi : i < xs.length) :
    ∃ b o, s.a = some (Addr.mk b o none) ∧ Hp.cell h b (o + i) = some (.bool xs[i]) := by
  have hl := e.len
  obtain ⟨b, o, ha, hc⟩ := SlC.get e (by omega)
  exact ⟨b, o, ha, hc i _ (by simp [hi])⟩

theorem l1Bit_spec {h : Hp} {c n : Nat} {R : Value → Hp → Prop} (hn : n ≤ 64) (k : R (I (if c.testBit n then 1 else 0)) h) : c_spec_l1Bit #[I c, I n] h R := by
  apply R_spec_l1Bit
  unfold F_spec_l1Bit
  rw [Wu_nat (by omega), if_neg (by omega), shrW_nat hn, tmod_two, bit_eq]
  split <;> simp_all

theorem LitOk.iff {v n : Int} : LitOk v n = true ↔ n ≠ 0 ∧ -v ≤ n ∧ n ≤ v := by simp [LitOk]

theorem ClauseOk.lit {v : Int} {l : List Int} (e : ClauseOk v l = true) {n : Int} (hn : n ∈ l) : LitOk v n = true := by
  simp only [ClauseOk, Bool.and_eq_true, List.all_eq_true] at e; exact e.2 n hn
theorem ClauseOk.len {v : Int} {l : List Int} (e : ClauseOk v l = true) : l.length ≤ 10 := by
  simp only [ClauseOk, Bool.and_eq_true, decide_eq_true_eq] at e; exact e.1
theorem CnfOkB.iff {v : Int} {c : List (List Int)} : CnfOkB v c = true ↔ (1 ≤ v ∧ v ≤ 10) ∧ c.length ≤ 60 ∧ ∀ l ∈ c, ClauseOk v l = true := by
  simp [CnfOkB, List.all_eq_true]


def markCells (k : Int) (n : Nat) : List Value := (List.range n).map fun (i : Nat) => I (k + (i : Int))

theorem map_I_one (xs : List Int) : (xs.map I).all (·.oneCell') = true := by
  rw [List.all_eq_true]
  intro v hv
  obtain ⟨x, _, rfl⟩ := List.mem_map.1 hv
  rfl
theorem IntS.slc {h : Hp} {s : Sl} {xs : List Int} (e : IntS h s xs) : SlC h s 1 (xs.map I) := e

theorem cloneInts_spec {h : Hp} {s : Sl} {xs : List Int} {R : Value → Hp → Prop} (hs : IntS h s xs) (hl : xs.length ≤ 1048576)
    (k : ∀ t h', h.le h' → Buf (h'.sub h) t 1 (xs.map I) → R (Sl.v t) h') : c_impl_cloneInts #[s.v] h R := by
  apply R_impl_cloneInts
  unfold F_impl_cloneInts
  have := hs.len
  exact aApp_copy hs (by omega) (map_I_one _) fun t h' hn hle hb => k t h' hle hb


theorem aeq_nd (a b c a' b' c' : Int) : aeq PR 3 T_impl_BddNode (.agg #[I a, I b, I c]) (.agg #[I a', I b', I c']) = some (a == a' && (b == b' && (c == c' && true))) := by kernel_rfl

theorem toList_loop (l : List UInt8) : ∀ (k i : Nat) (r : List UInt8), i + k = l.length → ByteArray.toList.loop ⟨l.toArray⟩ i r = r.reverse ++ l.drop i := by
  intro k
  induction k with
  | zero =>
    intro i r hi
    unfold ByteArray.toList.loop
    rw [if_neg (by simp [ByteArray.size]; omega), List.drop_eq_nil_of_le (by omega), List.append_nil]
  | succ k ih =>
    intro i r hi
    unfold ByteArray.toList.loop
    rw [if_pos (by simp [ByteArray.size]; omega), ih (i + 1) _ (by omega), List.drop_eq_getElem_cons (i := i) (by omega)]
    simp [ByteArray.get!, show i < l.length by omega]
theorem bytes_toList (l : List UInt8) : (⟨l.toArray⟩ : ByteArray).toList = l := by
  unfold ByteArray.toList
  rw [toList_loop l l.length 0 [] (by omega)]; rfl

/-- A table's cells. -/
def tabCells (n : Nat) (f : Nat → Bool) : List Value := (List.range (2 ^ n)).map fun i => Value.int .u8 (if f i then 1 else 0)
def tabBytes (n : Nat) (f : Nat → Bool) : List UInt8 := (List.range (2 ^ n)).map fun i => if f i then 1 else 0
theorem byteCells_tab (n : Nat) (f : Nat → Bool) : byteCells (tabBytes n f) = tabCells n f := by
  unfold byteCells tabBytes tabCells
  rw [List.map_map]
  apply List.map_congr_left
  intro i _
  simp only [Function.comp]
  cases f i <;> rfl
def TabS (h : Hp) (t : Sl) (n : Nat) (f : Nat → Bool) : Prop := SlC h t 1 (tabCells n f)
theorem TabS.mono {h h' : Hp} {t : Sl} {n : Nat} {f : Nat → Bool} (l : h.le h') (e : TabS h t n f) : TabS h' t n f := SlC.mono l e
theorem TabS.len {h : Hp} {t : Sl} {n : Nat} {f : Nat → Bool} (e : TabS h t n f) : t.n = 2 ^ n := by have := e.2.1; simp [tabCells] at this; omega
theorem TabS.at {h : Hp} {t : Sl} {n : Nat} {f : Nat → Bool} (e : TabS h t n f) {i : Nat} (hi : i < 2 ^ n) :
    ∃ b o, t.a = some (Addr.mk b o none) ∧ Hp.cell h b (o + i) = some (.int .u8 (if f i then 1 else 0)) := by
  have hl := e.len
  obtain ⟨b, o, ha, hc⟩ := SlC.get e (by omega)
  exact ⟨b, o, ha, hc i _ (by simp [tabCells, hi])⟩
theorem TabS.all {h : Hp} {t : Sl} {n : Nat} {f : Nat → Bool} (e : TabS h t n f) : slCells h t.a t.n (byteCells (tabBytes n f)) := by
  rw [byteCells_tab]
  exact ⟨by rw [e.2.1, Nat.mul_one], e.2.2⟩
theorem tab_len (n : Nat) (f : Nat → Bool) : (tabCells n f).length = 2 ^ n := by simp [tabCells]

theorem bit_spec {h : Hp} {c : Bool} {R : Value → Hp → Prop} (k : R (I (if c then 1 else 0)) h) : c_impl_bit #[.bool c] h R := by
  apply R_impl_bit
  unfold F_impl_bit
  cases c <;> exact k

/-- A closure that answers for each number below a bound, whatever else there is in memory. -/
def Asks (h : Hp) (fid : FuncId) (u w : Array Value) (n : Nat) (f : Nat → Bool) : Prop :=
  ∀ (i : Nat), i < n → ∀ (h' : Hp), h.le h' → ∀ R : Value → Hp → Prop, R (.bool (f i)) h' → ACalls PR fid ((u ++ #[I i]) ++ w) h' R

theorem newTable_spec {h : Hp} {n : Nat} {fid : FuncId} {u w : Array Value} {f : Nat → Bool} {R : Value → Hp → Prop} (hn : n ≤ 13) (hf : Asks h fid u w (2 ^ n) f)
    (k : ∀ t h', h.le h' → TabS (h'.sub h) t n f → R (Sl.v t) h') : c_impl_newTable #[I n, .func (.func fid) u w] h R := by
  apply R_impl_newTable
  unfold F_impl_newTable
  have h2 : 2 ^ n ≤ 8192 := by
    have := Nat.pow_le_pow_right (n := 2) (by omega) hn
    simpa using this
  rw [if_neg (by omega), shlW_one (by omega)]
  simp only [vm, zeroRow_one]
  refine ⟨by omega, by omega, by omega, fun b hb => setH_of fun h1 e1 => ?_⟩
  refine loop_up (2 ^ n) (fun i vs h' => vs = [.func (.func fid) u w, Sl.v ⟨some ⟨b, 0, none⟩, 2 ^ n, 2 ^ n⟩, I (2 ^ n : Nat), I i] ∧
    ∃ cs, h' = h.row b cs (2 ^ n) ∧ cs.length = 2 ^ n ∧ cs.take i = (tabCells n f).take i) ⟨rfl, _, e1, by simp, by simp⟩ ?_
  rintro i _ _ next hi ⟨rfl, cs, rfl, hcl, hp⟩ hn'
  refine ⟨_, _, _, _, _, _, rfl, ?_⟩
  by_cases hlt : i < 2 ^ n
  · refine bs_t (by simpa using by exact_mod_cast hlt) ?_
    refine hf i hlt _ (le_row _ _ hb) _ ⟨_, rfl, bit_spec ⟨_, rfl, ?_⟩⟩
    simp only [vm, mm, W_succ (n := i) (by omega)]
    refine ⟨by omega, by omega, hn' hlt _ _ ⟨rfl, _, rfl, by simpa using hcl, ?_⟩⟩
    have hti : i < (tabCells n f).length := by rw [tab_len]; exact hlt
    rw [take_set _ (by omega), hp, List.take_succ_eq_append_getElem hti]
    congr 2
    simp only [tabCells, List.getElem_map, List.getElem_range]
    cases f i <;> rfl
  · have : i = 2 ^ n := by omega
    subst this
    rw [← hcl, List.take_length, hcl, ← tab_len n f, List.take_length] at hp
    subst hp
    exact bs_f (by simp) (k _ _ (le_row _ _ hb) ⟨by show 2 ^ n ≤ _; omega, by simp [tabCells], .inr ⟨_, _, rfl, cellsAre_of (sub_row _ _ hb)⟩⟩)

def ndCells (ns : List Nd) : List Value := ns.flatMap fun n => [I n.v, I n.lo, I n.hi]
def ndKey (n : Nd) : Value := .agg #[I n.v, I n.lo, I n.hi]
/-- The builder's memory. -/
structure BI (h : Hp) (B rs rn : Nat) (vars : Nat) (s : Sl) (ns : List Nd) (es : List (ByteArray × Nat)) : Prop where
  row : h B = some (.inl ⟨[I vars, s.v, I 0, .map (some rs), .map (some rn)], 5, false⟩)
  buf : Buf h s 3 (ndCells ns)
  seen : h rs = some (.inr (es.map fun e => (.string e.1, I e.2)))
  nodes : h rn = some (.inr (ns.zipIdx.map fun e => (ndKey e.1, I (e.2 + 2 : Nat))))
  far : rs ≠ rn
  own : ∀ a, s.a = some a → a.block ≠ B
  true : ∀ e ∈ es, ∃ n f low, low + n = vars ∧ e.1 = ⟨(tabBytes n f).toArray⟩ ∧ mkD n f low ns = (e.2, ns)

theorem BI.mono {h h' : Hp} {B rs rn vars : Nat} {s : Sl} {ns : List Nd} {es : List (ByteArray × Nat)} (l : h.le h') (e : BI h B rs rn vars s ns es) : BI h' B rs rn vars s ns es :=
  ⟨l _ _ e.row, e.buf.mono l, l _ _ e.seen, l _ _ e.nodes, e.far, e.own, e.true⟩
theorem BI.blkB {h : Hp} {B rs rn vars : Nat} {s : Sl} {ns : List Nd} {es : List (ByteArray × Nat)} (e : BI h B rs rn vars s ns es) : ∀ b ∈ [B, rs, rn] ++ s.blk, ∃ x, h b = some x := by
  intro b hb
  simp only [List.cons_append, List.nil_append, List.mem_cons] at hb
  rcases hb with rfl | rfl | rfl | hb
  · exact ⟨_, e.row⟩
  · exact ⟨_, e.seen⟩
  · exact ⟨_, e.nodes⟩
  · revert b hb
    refine blk_iff.2 fun a ha => ?_
    rcases e.buf.2.2 with ⟨h0, _⟩ | ⟨c, hc, hcb⟩
    · rw [h0] at ha; cases ha
    · rw [hc] at ha; cases ha; exact ⟨_, hcb⟩
/-- A table that is written. -/
theorem BI.put {h : Hp} {B rs rn vars : Nat} {s : Sl} {ns : List Nd} {es : List (ByteArray × Nat)} (e : BI h B rs rn vars s ns es) {n low : Nat} {f : Nat → Bool} (hlow : low + n = vars)
    {a : Nat} (ha : mkD n f low ns = (a, ns)) : ∃ (es2 : List (ByteArray × Nat)) (res : Option (Nat × Value)), mlook (Instr.sameNow .string (.string ⟨(tabBytes n f).toArray⟩)) (es.map fun e => (.string e.1, I e.2)) 0 = some res ∧
      mput (es.map fun e => (.string e.1, I e.2)) (.string ⟨(tabBytes n f).toArray⟩) (I a) res = es2.map (fun e : ByteArray × Nat => (Value.string e.1, I e.2)) ∧ ∀ x ∈ es2, ∃ n f low, low + n = vars ∧ x.1 = ⟨(tabBytes n f).toArray⟩ ∧ mkD n f low ns = (x.2, ns) := by
  rcases mlook_cases (Instr.sameNow .string (.string ⟨(tabBytes n f).toArray⟩)) (fun e : ByteArray × Nat => .string e.1) (fun e => I e.2) (fun e => (⟨(tabBytes n f).toArray⟩ : ByteArray) == e.1) es 0 (fun _ _ => rfl) with ⟨hno, hm⟩ | ⟨j, hj, hyes, _, hm⟩
  · refine ⟨es ++ [(⟨(tabBytes n f).toArray⟩, a)], _, hm, by simp [mput], ?_⟩
    intro x hx
    rcases List.mem_append.1 hx with hx | hx
    · exact e.true x hx
    · simp only [List.mem_singleton] at hx; subst hx; exact ⟨n, f, low, hlow, rfl, ha⟩
  · refine ⟨es.set j (⟨(tabBytes n f).toArray⟩, a), _, hm, by simp [mput, List.map_set], ?_⟩
    intro x hx
    rcases List.mem_or_eq_of_mem_set hx with hx | hx
    · exact e.true x hx
    · subst hx; exact ⟨n, f, low, hlow, rfl, ha⟩
theorem tabBytes_inj {n m : Nat} {f g : Nat → Bool} (e : tabBytes n f = tabBytes m g) : n = m ∧ ∀ i, i < 2 ^ n → f i = g i := by
  have hl := congrArg List.length e
  simp only [tabBytes, List.length_map, List.length_range] at hl
  have hn : n = m := (Nat.pow_right_inj (by decide : 1 < 2)).1 hl
  subst hn
  refine ⟨rfl, fun i hi => ?_⟩
  have := congrArg (fun l : List UInt8 => l[i]?) e
  simp only [tabBytes, List.getElem?_map, List.getElem?_range hi, Option.map_some, Option.some.injEq] at this
  cases h1 : f i <;> cases h2 : g i <;> simp [h1, h2] at this <;> rfl

theorem nd_look (nd : Nd) (ns : List Nd) :
    (∃ j, mlook (aeq PR 3 T_impl_BddNode (.agg #[I nd.v, I nd.lo, I nd.hi])) (ns.zipIdx.map fun e => (ndKey e.1, I (e.2 + 2 : Nat))) 0 = some (some (j, I (j + 2 : Nat))) ∧ putNd nd ns = (j + 2, ns)) ∨
    (mlook (aeq PR 3 T_impl_BddNode (.agg #[I nd.v, I nd.lo, I nd.hi])) (ns.zipIdx.map fun e => (ndKey e.1, I (e.2 + 2 : Nat))) 0 = some none ∧ putNd nd ns = (ns.length + 2, ns ++ [nd])) := by
  have heq : ∀ m : Nd, ((nd.v : Int) == (m.v : Int) && ((nd.lo : Int) == (m.lo : Int) && ((nd.hi : Int) == (m.hi : Int) && true))) = (m == nd) := by
    intro m
    rw [Bool.eq_iff_iff]
    simp only [Bool.and_eq_true, beq_iff_eq, Bool.and_true]
    obtain ⟨a, b, c⟩ := nd; obtain ⟨a', b', c'⟩ := m
    simp only [Nd.mk.injEq]
    omega
  rcases mlook_cases (aeq PR 3 T_impl_BddNode (.agg #[I nd.v, I nd.lo, I nd.hi])) (fun e : Nd × Nat => ndKey e.1) (fun e => I (e.2 + 2 : Nat))
    (fun e => (nd.v : Int) == (e.1.v : Int) && ((nd.lo : Int) == (e.1.lo : Int) && ((nd.hi : Int) == (e.1.hi : Int) && true))) ns.zipIdx 0 (fun e _ => aeq_nd _ _ _ _ _ _) with ⟨hno, hm⟩ | ⟨j, hj, hyes, hbef, hm⟩
  · refine .inr ⟨hm, ?_⟩
    have : ns.idxOf? nd = none := by
      simp only [List.idxOf?]
      rw [List.findIdx?_eq_none_iff]
      intro m hmm
      obtain ⟨i, hi, rfl⟩ := List.getElem_of_mem hmm
      have := hno (ns[i], i) (by rw [List.mem_iff_getElem]; exact ⟨i, by simpa using hi, by simp⟩)
      simp only [heq] at this
      exact this
    simp [putNd, this]
  · have hj' : j < ns.length := by simpa using hj
    simp only [heq, List.getElem_zipIdx, Nat.zero_add] at hyes hbef hm
    refine .inl ⟨j, hm, ?_⟩
    have : ns.idxOf? nd = some j := by
      simp only [List.idxOf?]
      rw [List.findIdx?_eq_some_iff_getElem]
      exact ⟨hj', hyes, fun l hl => by have := hbef l (by simp; omega) hl; simp [this]⟩
    simp [putNd, this]
theorem ndCells_append (ns : List Nd) (nd : Nd) : ndCells (ns ++ [nd]) = ndCells ns ++ [I nd.v, I nd.lo, I nd.hi] := by simp [ndCells]
theorem ndCells_len (ns : List Nd) : (ndCells ns).length = ns.length * 3 := by
  induction ns with
  | nil => rfl
  | cons n ns ih => simp only [ndCells, List.flatMap_cons, List.length_append, List.length_cons, List.length_nil] at ih ⊢; omega

theorem build_spec {B rs rn vars : Nat} (hvars : vars ≤ 13) : ∀ (n : Nat) (f : Nat → Bool) (low : Nat) (t : Sl) (h : Hp) (s : Sl) (ns : List Nd) (es : List (ByteArray × Nat)) (g : Hp) (R : Value → Hp → Prop),
    BI h B rs rn vars s ns es → g.le h → g B = none → g rs = none → g rn = none → (∀ a, s.a = some a → g a.block = none) → TabS g t n f → low + n = vars → ns.length + 2 ^ n ≤ 1048576 →
    (∀ s' es' h', BI h' B rs rn vars s' (mkD n f low ns).2 es' → g.le h' → (∀ a, s'.a = some a → g a.block = none) → R (I (mkD n f low ns).1) h') →
    c_impl_builder_build #[.pointer (some ⟨B, 0, none⟩), t.v, I low] h R := by
  intro n
  induction n with
  | zero =>
    intro f low t h s ns es g R inv hg gB grs grn gs ht hlow hlen k
    apply R_impl_builder_build
    unfold F_impl_builder_build
    have hl := ht.len
    obtain ⟨b, o, ha, hc⟩ := ht.at (i := 0) (by simp)
    refine bs_t (by simp [hl]) ?_
    simp only [vm, hl, ha, hg.cell hc]
    have := hg.cell hc
    simp only [Nat.add_zero] at this
    refine ⟨by omega, by simp, ?_⟩
    simp only [Int.toNat_zero, Nat.add_zero, this, vm]
    have := k s es h inv hg gs
    simp only [mkD] at this
    have e0 : W (if f 0 then 1 else 0) = ((if f 0 then 1 else 0 : Nat) : Int) := by cases f 0 <;> rfl
    rw [e0]; exact this
  | succ n ih =>
    intro f low t h s ns es g R inv hg gB grs grn gs ht hlow hlen k
    apply R_impl_builder_build
    unfold F_impl_builder_build
    have hl := ht.len
    have hp : 2 ^ (n + 1) = 2 * 2 ^ n := by rw [Nat.pow_succ]; omega
    have hp1 : 0 < 2 ^ n := Nat.pow_pos (by omega)
    have hp2 : 2 ^ n ≤ 8192 := by
      have := Nat.pow_le_pow_right (n := 2) (by omega) (show n ≤ 13 by omega)
      simpa using this
    refine bs_f (by simp [hl]; omega) ?_
    refine ⟨tabBytes (n + 1) f, (ht.mono hg).all, ?_⟩
    simp only [vm, cell_of inv.row, mm]
    refine ⟨rs, es.map (fun e => (.string e.1, I e.2)), ?_⟩
    rcases mlook_cases (Instr.sameNow .string (.string ⟨(tabBytes (n + 1) f).toArray⟩)) (fun e : ByteArray × Nat => .string e.1) (fun e => I e.2) (fun e => (⟨(tabBytes (n + 1) f).toArray⟩ : ByteArray) == e.1) es 0 (fun _ _ => rfl) with ⟨hno, hm⟩ | ⟨j, hj, hyes, _, hm⟩
    rotate_left
    · refine ⟨_, rfl, inv.seen, hm, _, rfl, bs_t rfl ?_⟩
      obtain ⟨m, f', low', hlow', hkey, hmk⟩ := inv.true _ (List.getElem_mem hj)
      rw [hkey] at hyes
      have hb : tabBytes (n + 1) f = tabBytes m f' := by
        have h9 : ((tabBytes (n + 1) f).toArray == (tabBytes m f').toArray) = true := hyes
        simpa using h9
      obtain ⟨rfl, hff⟩ := tabBytes_inj hb
      have : low' = low := by omega
      subst this
      have e := mkD_ext (n + 1) low' ns hff
      rw [hmk] at e
      have := k s es h (by rw [e]; exact inv) hg gs
      rw [e] at this
      exact this
    refine ⟨_, rfl, inv.seen, hm, _, rfl, bs_f rfl ?_⟩
    have hdiv : W ((t.n : Int).tdiv 2) = ((2 ^ n : Nat) : Int) := by
      rw [hl, hp]
      have : (((2 * 2 ^ n : Nat) : Int)).tdiv 2 = ((2 ^ n : Nat) : Int) := by
        have := Int.ofNat_tdiv (2 * 2 ^ n) 2
        rw [show 2 * 2 ^ n / 2 = 2 ^ n by omega] at this
        exact this.symm
      rw [this]; exact W_nat (by omega)
    simp only [hdiv, vm, zeroRow_one]
    refine joinP_of (fun J => ∀ b1 b2 : Nat, b1 ≠ b2 → h b1 = none → h b2 = none → ∀ h1 : Hp, h1 b1 = some (.inl ⟨List.replicate (2 ^ n) (.int .u8 0), 2 ^ n, false⟩) → h1 b2 = some (.inl ⟨List.replicate (2 ^ n) (.int .u8 0), 2 ^ n, false⟩) → h.le h1 →
      J ⟨some ⟨b1, 0, none⟩, 2 ^ n, 2 ^ n⟩ ⟨some ⟨b2, 0, none⟩, 2 ^ n, 2 ^ n⟩ h1) ?_ ?_
    rotate_left
    · intro J hJ
      refine ⟨⟨by omega, by omega, by omega, fun b1 hb1 => ⟨by omega, by omega, by omega, fun b2 hb2 => ?_⟩⟩, ⟨by omega, by omega, by omega, fun b1 hb1 => ⟨by omega, by omega, by omega, fun b2 hb2 => ?_⟩⟩⟩
      · exact hJ b1 b2 hb2.1.symm hb1 hb2.2 _ (by rw [row_ne _ _ hb2.1.symm, row_self]) (by rw [row_self]) (le_row_of _ _ hb2.2 (le_row _ _ hb1))
      · exact hJ b2 b1 hb2.1 hb2.2 hb1 _ (by rw [row_self]) (by rw [row_ne _ _ hb2.1.symm, row_self]) (le_row_of _ _ hb2.2 (le_row _ _ hb1))
    intro b1 b2 n12 hb1 hb2 h1 f1 f2 l1
    refine loop_up (2 ^ n) (fun i vs h' => vs = [.pointer (some ⟨B, 0, none⟩), t.v, I low, .string ⟨(tabBytes (n + 1) f).toArray⟩, Sl.v ⟨some ⟨b1, 0, none⟩, 2 ^ n, 2 ^ n⟩, Sl.v ⟨some ⟨b2, 0, none⟩, 2 ^ n, 2 ^ n⟩, I (2 ^ n : Nat), I i] ∧
      h.le h' ∧ ∃ c1 c2, h' b1 = some (.inl ⟨c1, 2 ^ n, false⟩) ∧ h' b2 = some (.inl ⟨c2, 2 ^ n, false⟩) ∧ c1.length = 2 ^ n ∧ c2.length = 2 ^ n ∧ c1.take i = (tabCells n fun i => f (2 * i)).take i ∧ c2.take i = (tabCells n fun i => f (2 * i + 1)).take i)
      ⟨rfl, l1, _, _, f1, f2, by simp, by simp, by simp, by simp⟩ ?_
    rintro i _ h2 next hi ⟨rfl, l2, c1, c2, g1, g2, q1, q2, p1, p2⟩ hn
    refine ⟨_, _, _, _, _, _, _, _, rfl, ?_⟩
    by_cases hlt : i < 2 ^ n
    · obtain ⟨bt, ot, hta, htc⟩ := ((ht.mono hg).mono l2).at (i := 2 * i) (by omega)
      obtain ⟨bt', ot', hta', htc'⟩ := ((ht.mono hg).mono l2).at (i := 2 * i + 1) (by omega)
      rw [hta] at hta'; cases hta'
      have e1 : W (2 * (i : Int)) = ((2 * i : Nat) : Int) := by rw [← W_nat (n := 2 * i) (by omega)]; congr 1
      have e2 : W (((2 * i : Nat) : Int) + 1) = ((2 * i + 1 : Nat) : Int) := W_succ (by omega)
      refine bs_t (by simpa using by exact_mod_cast hlt) ?_
      simp only [e1, e2, vm, mm, hl, hta, htc, htc', W_succ (n := i) (show i < 9223372036854775807 by omega)]
      refine ⟨by omega, by omega, by omega, c1, 2 ^ n, g1, by omega, by omega, ?_⟩
      rw [row_ne _ _ n12.symm]
      refine ⟨c2, 2 ^ n, g2, by omega, ?_⟩
      refine hn hlt _ _ ⟨rfl, le_row_of _ _ hb2 (le_row_of _ _ hb1 l2), _, _, by rw [row_ne _ _ n12, row_self], row_self .., by simpa using q1, by simpa using q2, ?_, ?_⟩
      · have hti : i < (tabCells n fun i => f (2 * i)).length := by rw [tab_len]; exact hlt
        rw [take_set _ (by omega), p1, List.take_succ_eq_append_getElem hti]
        simp [tabCells]
      · have hti : i < (tabCells n fun i => f (2 * i + 1)).length := by rw [tab_len]; exact hlt
        rw [take_set _ (by omega), p2, List.take_succ_eq_append_getElem hti]
        simp [tabCells]
    have : i = 2 ^ n := by omega
    subst this
    rw [← q1, List.take_length, q1, ← tab_len n (fun i => f (2 * i)), List.take_length] at p1
    rw [← q2, List.take_length, q2, ← tab_len n (fun i => f (2 * i + 1)), List.take_length] at p2
    subst p1; subst p2
    refine bs_f (by simp) ?_
    clear hn next f1 f2 l1 h1
    have hout : ∀ b, h b = none → b ∉ [B, rs, rn] ++ s.blk := fun b hb hm => by
      obtain ⟨x, hx⟩ := inv.blkB b hm
      rw [hb] at hx; cases hx
    have tb : 2 ^ n ≤ 9223372036854775807 := by omega
    have t1 : TabS (h2.wo ([B, rs, rn] ++ s.blk)) ⟨some ⟨b1, 0, none⟩, 2 ^ n, 2 ^ n⟩ n (fun i => f (2 * i)) :=
      ⟨tb, by simp [tab_len], .inr ⟨b1, 0, rfl, cellsAre_of (by rw [wo_at (hout b1 hb1)]; exact g1)⟩⟩
    have t2 : TabS (h2.wo ([B, rs, rn] ++ s.blk)) ⟨some ⟨b2, 0, none⟩, 2 ^ n, 2 ^ n⟩ n (fun i => f (2 * i + 1)) :=
      ⟨tb, by simp [tab_len], .inr ⟨b2, 0, rfl, cellsAre_of (by rw [wo_at (hout b2 hb2)]; exact g2)⟩⟩
    have hgw : g.le (h2.wo ([B, rs, rn] ++ s.blk)) := le_wo (Hp.le_trans hg l2) (by
      intro b hb
      simp only [List.cons_append, List.nil_append, List.mem_cons] at hb
      rcases hb with rfl | rfl | rfl | hb
      · exact gB
      · exact grs
      · exact grn
      · exact blk_iff (p := fun b => g b = none).2 gs b hb)
    rw [W_succ (by omega)]
    have len1 := mkD_len n (fun i => f (2 * i)) (low + 1) ns
    refine ih _ (low + 1) _ h2 s ns es (h2.wo ([B, rs, rn] ++ s.blk)) _ (inv.mono l2) (wo_le _ _) (wo_none (by simp)) (wo_none (by simp)) (wo_none (by simp))
      (blk_iff (p := fun b => (h2.wo ([B, rs, rn] ++ s.blk)) b = none).1 fun b hb => wo_none (by simp [hb])) t1 (by omega) (by omega) ?_
    intro s3 es3 h3 inv3 l3 gs3
    refine ⟨_, rfl, tabBytes n (fun i => f (2 * i)), (t1.mono l3).all, tabBytes n (fun i => f (2 * i + 1)), (t2.mono l3).all, ?_⟩
    refine joinP_of (fun J => ∀ s' es' h', BI h' B rs rn vars s' (mkD (n + 1) f low ns).2 es' → g.le h' → (∀ a, s'.a = some a → g a.block = none) → J ((mkD (n + 1) f low ns).1 : Nat) h') ?_ ?_
    · intro s' es' h' inv' lg' gs'
      obtain ⟨es2, res, hm2, hput, htrue⟩ := inv'.put (n := n + 1) (low := low) (f := f) hlow (mkD_idem (n + 1) f low ns _ (List.prefix_refl _))
      simp only [vm, cell_of inv'.row, mm]
      refine ⟨rs, _, res, rfl, inv'.seen, hm2, ?_⟩
      rw [hput]
      have nB : B ≠ rs := ne_of_blk inv'.row inv'.seen (by intro h; cases h)
      refine k s' es2 _ ⟨by rw [Hp.set_ne _ _ nB]; exact inv'.row, ?_, Hp.set_eq .., by rw [Hp.set_ne _ _ inv'.far.symm]; exact inv'.nodes, inv'.far, inv'.own, htrue⟩ (le_set_of _ lg' grs) gs'
      refine ⟨inv'.buf.1, inv'.buf.2.1, inv'.buf.2.2.imp id ?_⟩
      rintro ⟨c, hc, hcb⟩
      exact ⟨c, hc, by rw [Hp.set_ne _ _ (ne_of_blk hcb inv'.seen (by intro h; cases h))]; exact hcb⟩
    · intro J hJ
      rw [bytes_toList, bytes_toList]
      refine bsplit_of (fun e => ?_) (fun e => ?_)
      rotate_left
      · have e' : tabBytes n (fun i => f (2 * i)) = tabBytes n (fun i => f (2 * i + 1)) := by simpa using e
        have hs2 := mkD_same2 (low := low + 1) (ns := ns) (tabBytes_inj e').2
        have hmk : mkD (n + 1) f low ns = mkD n (fun i => f (2 * i)) (low + 1) ns := by simp only [mkD]; rw [hs2]; simp
        have := hJ s3 es3 h3 (by rw [hmk]; exact inv3) (Hp.le_trans hgw l3) ?_
        · rw [hmk] at this; exact this
        · intro a ha; 
          have := gs3 a ha
          cases hga : g a.block with
          | none => rfl
          | some x => rw [hgw _ _ hga] at this; cases this
      have hne : ¬ (mkD n (fun i => f (2 * i)) (low + 1) ns).1 = (mkD n (fun i => f (2 * i + 1)) (low + 1) (mkD n (fun i => f (2 * i)) (low + 1) ns).2).1 := by
        intro he
        have := mkD_same.1 he
        have e2 : tabBytes n (fun i => f (2 * i)) = tabBytes n (fun i => f (2 * i + 1)) := by
          unfold tabBytes
          apply List.map_congr_left
          intro i hi
          simp only [this i (by simpa using hi)]
        rw [e2] at e; simp at e
      have hmk : mkD (n + 1) f low ns = putNd ⟨low, (mkD n (fun i => f (2 * i)) (low + 1) ns).1, (mkD n (fun i => f (2 * i + 1)) (low + 1) (mkD n (fun i => f (2 * i)) (low + 1) ns).2).1⟩
          (mkD n (fun i => f (2 * i + 1)) (low + 1) (mkD n (fun i => f (2 * i)) (low + 1) ns).2).2 := by simp only [mkD]; rw [if_neg hne]
      have len2 := mkD_len n (fun i => f (2 * i + 1)) (low + 1) (mkD n (fun i => f (2 * i)) (low + 1) ns).2
      generalize mkD n (fun i => f (2 * i)) (low + 1) ns = r1 at *
      refine ih _ (low + 1) _ h3 s3 r1.2 es3 ((h3.wo ([B, rs, rn] ++ s3.blk))) _ inv3 (wo_le _ _) (wo_none (by simp)) (wo_none (by simp)) (wo_none (by simp))
        (blk_iff (p := fun b => (h3.wo ([B, rs, rn] ++ s3.blk)) b = none).1 fun b hb => wo_none (by simp [hb])) (t2.mono (le_wo l3 ?_)) (by omega) (by omega) ?_
      · intro b hb
        simp only [List.cons_append, List.nil_append, List.mem_cons] at hb
        rcases hb with rfl | rfl | rfl | hb
        · exact wo_none (by simp)
        · exact wo_none (by simp)
        · exact wo_none (by simp)
        · exact blk_iff (p := fun b => (h2.wo ([B, rs, rn] ++ s.blk)) b = none).2 gs3 b hb
      generalize mkD n (fun i => f (2 * i + 1)) (low + 1) r1.2 = r2 at *
      intro s4 es4 h4 inv4 l4 gs4
      refine ⟨_, rfl, ?_⟩
      intro b5 hb5
      have nB := fresh_ne hb5 inv4.row
      have nN := fresh_ne hb5 inv4.nodes
      simp only [vm, mm, nB, nN, cell_of inv4.row, ne_eq, not_false_eq_true]
      have hgw3 : g.le (h3.wo ([B, rs, rn] ++ s3.blk)) := le_wo (Hp.le_trans hgw l3) (by
        intro b hb
        refine none_of_le hgw ?_
        simp only [List.cons_append, List.nil_append, List.mem_cons] at hb
        rcases hb with rfl | rfl | rfl | hb
        · exact wo_none (by simp)
        · exact wo_none (by simp)
        · exact wo_none (by simp)
        · exact blk_iff (p := fun b => (h2.wo ([B, rs, rn] ++ s.blk)) b = none).2 gs3 b hb)
      have lg4 : g.le h4 := Hp.le_trans hgw3 l4
      have gs4' : ∀ a, s4.a = some a → g a.block = none := fun a ha => none_of_le hgw3 (gs4 a ha)
      have l5 := le_row [I low, I r1.1, I r2.1] 3 hb5
      refine ⟨by omega, rn, r2.2.zipIdx.map (fun e => (ndKey e.1, I (e.2 + 2 : Nat))), ?_⟩
      rcases nd_look ⟨low, r1.1, r2.1⟩ r2.2 with ⟨j, hm5, hput⟩ | ⟨hm5, hput⟩
      · refine ⟨_, rfl, l5 _ _ inv4.nodes, hm5, _, rfl, bs_f rfl ?_⟩
        rw [hput] at hmk
        have := hJ s4 es4 _ (by rw [hmk]; exact inv4.mono l5) (Hp.le_trans lg4 l5) gs4'
        rw [hmk] at this
        exact this
      · refine ⟨_, rfl, l5 _ _ inv4.nodes, hm5, _, rfl, bs_t rfl ?_⟩
        rw [hput] at hmk
        rintro b6 ⟨n65, _, hb6⟩
        have nB6 := fresh_ne hb6 inv4.row
        have l6 := le_row_of [I low, I r1.1, I r2.1] 3 (show (h4.row b5 [I low, I r1.1, I r2.1] 3) b6 = none by rw [row_none]; exact ⟨n65, hb6⟩) (Hp.le_refl _)
        have hsn : s4.n = r2.2.length := by have := inv4.buf.1; rw [ndCells_len] at this; omega
        refine ⟨by rw [row_ne _ _ nB6, row_ne _ _ nB], ?_⟩
        refine aApp_buf ((inv4.buf.mono l5).mono l6) (by omega) (by omega) (by omega) ⟨b6, 0, rfl, cellsAre_of (row_self ..)⟩ (by simp) rfl ?_
        intro s7 h7 hn7 hb7 hl7 _
        have hH : h4.le ((h4.row b5 [I low, I r1.1, I r2.1] 3).row b6 [I low, I r1.1, I r2.1] 3) := Hp.le_trans l5 l6
        have dmap : ∀ {c : Nat} {m : List (Value × Value)}, h4 c = some (.inr m) → ∀ a, s4.a = some a → a.block ≠ c := by
          intro c m hc a ha
          rcases inv4.buf.2.2 with ⟨h0, _⟩ | ⟨d, hd, hdb⟩
          · rw [h0] at ha; cases ha
          · rw [hd] at ha; cases ha; exact ne_of_blk hdb hc (by intro h; cases h)
        have d5 : ∀ a, s4.a = some a → a.block ≠ b5 := by
          intro a ha
          rcases inv4.buf.2.2 with ⟨h0, _⟩ | ⟨d, hd, hdb⟩
          · rw [h0] at ha; cases ha
          · rw [hd] at ha; cases ha; exact fresh_ne hb5 hdb
        obtain ⟨f7B, o7B⟩ := offS_keep hl7 (hH _ _ inv4.row) inv4.own
        obtain ⟨f7s, o7s⟩ := offS_keep hl7 (hH _ _ inv4.seen) (dmap inv4.seen)
        obtain ⟨f7n, o7n⟩ := offS_keep hl7 (hH _ _ inv4.nodes) (dmap inv4.nodes)
        obtain ⟨f75, o75⟩ := offS_keep hl7 (l6 _ _ (row_self h4 b5 [I low, I r1.1, I r2.1] 3)) d5
        have n5B := nB.symm
        have nsB : rs ≠ B := ne_of_blk inv4.seen inv4.row (by intro h; cases h)
        have nnB : rn ≠ B := ne_of_blk inv4.nodes inv4.row (by intro h; cases h)
        have hW2 : W ((s4.n : Int) + 2) = ((r2.2.length + 2 : Nat) : Int) := by rw [hsn, W_id (by omega) (by omega)]; omega
        simp only [vm, mm, f7B, cell_of f75, n5B, ne_eq, not_false_eq_true, hW2]
        refine ⟨by omega, rn, _, none, rfl, by rw [row_ne _ _ nnB]; exact f7n, hm5, rfl, ?_⟩
        have := hJ s7 es4 ((h7.row B [I vars, s7.v, I 0, .map (some rs), .map (some rn)] 5).set rn
          (some (.inr (mput (r2.2.zipIdx.map fun e => (ndKey e.1, I (e.2 + 2 : Nat))) (.agg #[I low, I r1.1, I r2.1]) (I (r2.2.length + 2 : Nat)) none)))) ?_ ?_ ?_
        · rw [hmk] at this; exact this
        · rw [hmk]
          refine ⟨by rw [Hp.set_ne _ _ nnB.symm, row_self], ?_, by rw [Hp.set_ne _ _ inv4.far, row_ne _ _ nsB]; exact f7s, ?_, inv4.far, o7B, ?_⟩
          · rw [ndCells_append]
            refine ⟨hb7.1, hb7.2.1, hb7.2.2.imp id ?_⟩
            rintro ⟨c, hc, hcb⟩
            exact ⟨c, hc, by rw [Hp.set_ne _ _ (o7n _ hc), row_ne _ _ (o7B _ hc)]; exact hcb⟩
          · rw [Hp.set_eq]
            simp [mput, List.zipIdx_append, ndKey]
          · intro x hx
            obtain ⟨n', f', low', h1', h2', h3'⟩ := inv4.true x hx
            refine ⟨n', f', low', h1', h2', ?_⟩
            have := mkD_idem n' f' low' r2.2 (r2.2 ++ [⟨low, r1.1, r2.1⟩]) (by rw [h3']; exact List.prefix_append _ _)
            rw [h3'] at this; exact this
        · refine le_set_of _ ?_ grn
          intro c x hcx
          have hcB : c ≠ B := fun h => by rw [h, gB] at hcx; cases hcx
          rw [row_ne _ _ hcB]
          exact (offS_keep hl7 (hH _ _ (lg4 _ _ hcx)) (fun a ha hac => by rw [← hac, gs4' a ha] at hcx; cases hcx)).1
        · intro a ha
          cases hg7 : g a.block with
          | none => rfl
          | some x =>
            exact absurd rfl ((offS_keep hl7 (hH _ _ (lg4 _ _ hg7)) (fun a' ha' hac => by rw [← hac, gs4' a' ha'] at hg7; cases hg7)).2 a ha)


theorem ndCells_one (ns : List Nd) : (ndCells ns).all (·.oneCell') = true := by
  rw [List.all_eq_true]
  intro v hv
  simp only [ndCells, List.mem_flatMap] at hv
  obtain ⟨n, _, hv⟩ := hv
  simp only [List.mem_cons, List.not_mem_nil, or_false] at hv
  rcases hv with rfl | rfl | rfl <;> rfl

theorem clone_spec {h : Hp} {s : Sl} {ns : List Nd} {v r : Int} {R : Value → Hp → Prop} (hs : SlC h s 3 (ndCells ns)) (hn : ns.length ≤ 1048576)
    (k : ∀ t h', h.le h' → Own (h'.sub h) t 3 (ndCells ns) → R (.agg #[I v, Sl.v t, I r]) h') : c_impl_Bdd_clone #[.agg #[I v, s.v, I r]] h R := by
  apply R_impl_Bdd_clone
  unfold F_impl_Bdd_clone
  intro b1 hb1
  simp only [vm, mm]
  rintro b2 ⟨n21, hb2⟩
  have n12 := n21.symm
  have hsn : s.n = ns.length := by have := hs.2.1; rw [ndCells_len] at this; omega
  simp only [vm, mm, n12, n21, ne_eq, not_false_eq_true]
  have l0 := le_row_of [I 0, .slice none 0 0, I 0] 3 hb2 (le_row [I v, s.v, I r] 3 hb1)
  refine aApp_copy (hs.mono l0) (by omega) (ndCells_one _) ?_
  intro t h3 hn3 l3 hb3
  have f1 := l3 _ _ ((row_ne _ _ n12).trans (row_self ..))
  have f2 := l3 _ _ (row_self ..)
  simp only [vm, mm, f1, f2]
  refine ⟨by omega, k _ _ (le_row_of _ _ hb2 (Hp.le_trans l0 l3)) ((hb3.own (by omega)).mono ?_)⟩
  exact keep_row _ _ (sub_none (row_self ..)) (sub_anti _ l0)

/-- What the telling of a set comes to: its root and its nodes, or nothing where these are too many. -/
def toldD (n : Nat) (f : Nat → Bool) : Option (Nat × List Nd) := if 600 < (mkD n f 0 []).2.length then none else some (mkD n f 0 [])

theorem diagram_spec {h : Hp} {t : Sl} {n : Nat} {f : Nat → Bool} {R : Value → Hp → Prop} (hn : n ≤ 13) (ht : TabS h t n f)
    (k0 : toldD n f = none → R (.tuple #[.agg #[I 0, .slice none 0 0, I 0], .bool false]) h)
    (k1 : ∀ r, toldD n f = some r → ∀ s h', h.le h' → Own (h'.sub h) s 3 (ndCells r.2) → R (.tuple #[.agg #[I n, Sl.v s, I r.1], .bool true]) h') :
    c_impl_table_diagram #[t.v] h R := by
  refine ACalls.drop (R_impl_table_diagram ?_)
  unfold F_impl_table_diagram
  intro b1 hb1
  have l1 := le_row [I 0, .slice none 0 0, I 0] 3 hb1
  refine setH_of fun h1 e1 => ?_
  refine loop_up n (fun i vs h' => vs = [t.v, .pointer (some ⟨b1, 0, none⟩), I i] ∧ h' = h1) ⟨rfl, rfl⟩ ?_
  rintro i _ _ next hi ⟨rfl, rfl⟩ hnx
  refine ⟨_, _, _, _, rfl, ?_⟩
  rw [if_neg (by omega), shlW_one (by omega), ht.len]
  by_cases hlt : i < n
  · refine bs_t ?_ ?_
    · have := Nat.pow_lt_pow_right (a := 2) (by omega) hlt
      simpa using by exact_mod_cast this
    · rw [W_succ (by omega)]; exact hnx hlt _ _ ⟨rfl, rfl⟩
  have hin : i = n := by omega
  subst hin
  refine bs_f (by simp) ?_
  rename_i h1
  rw [← e1] at l1
  intro rs hrs
  refine setH_of fun h2 e2 => ?_
  intro rn hrn
  refine setH_of fun h3 e3 => ?_
  intro B hB
  refine setH_of fun h4 e4 => ?_
  have l2 : h1.le h2 := e2 ▸ Hp.le_set _ hrs
  have l3 : h2.le h3 := e3 ▸ Hp.le_set _ hrn
  have l4 : h3.le h4 := e4 ▸ le_row _ _ hB
  have f2 : h2 rs = some (.inr []) := by rw [e2, Hp.set_eq]
  have f3 : h3 rn = some (.inr []) := by rw [e3, Hp.set_eq]
  have f4 : h4 B = some (.inl ⟨[I i, .slice none 0 0, I 0, .map (some rs), .map (some rn)], 5, false⟩) := by rw [e4, row_self]
  have far : rs ≠ rn := fresh_ne hrn f2
  have inv : BI h4 B rs rn i ⟨none, 0, 0⟩ [] [] := ⟨f4, buf_nil _ _, l4 _ _ (l3 _ _ f2), l4 _ _ f3, far, by simp, by simp⟩
  have l14 : h1.le h4 := Hp.le_trans l2 (Hp.le_trans l3 l4)
  have hp2 : 2 ^ i ≤ 8192 := by
    have := Nat.pow_le_pow_right (n := 2) (by omega) hn
    simpa using this
  have hB1 : h1 B = none := none_of_le (Hp.le_trans l2 l3) hB
  have len := mkD_len i f 0 []
  simp only [List.length_nil] at len
  refine build_spec hn i f 0 t h4 ⟨none, 0, 0⟩ [] [] h1 _ inv l14 hB1 hrs (none_of_le l2 hrn) (by simp) (ht.mono l1) (by omega) (by simp; omega) ?_
  intro s5 es5 h5 inv5 l5 _
  have hs5 : s5.n = (mkD i f 0 []).2.length := by have := inv5.buf.1; rw [ndCells_len] at this; omega
  have b1B : b1 ≠ B := fun h => by subst h; rw [e1, row_self] at hB1; cases hB1
  have g1 : h5 b1 = some (.inl ⟨[I 0, .slice none 0 0, I 0], 3, false⟩) := l5 _ _ (by rw [e1, row_self])
  simp only [vm, mm, inv5.row]
  refine ⟨_, rfl, by omega, ?_⟩
  rw [hs5]
  have g1' : (h5.row B [I i, s5.v, I (mkD i f 0 []).1, .map (some rs), .map (some rn)] 5) b1 = some (.inl ⟨[I 0, .slice none 0 0, I 0], 3, false⟩) := by rw [row_ne _ _ b1B]; exact g1
  have l15 : h.le (h5.row B [I i, s5.v, I (mkD i f 0 []).1, .map (some rs), .map (some rn)] 5) := le_row_of _ _ (none_of_le l1 hB1) (Hp.le_trans l1 l5)
  refine bsplit_of (fun e => ?_) (fun e => ?_)
  · have e' : 600 < (mkD i f 0 []).2.length := by simp at e; omega
    simp only [vm, mm, g1']
    exact ⟨by omega, _, le_row_of _ _ hb1 l15, k0 (by simp [toldD, e'])⟩
  · have e' : ¬ 600 < (mkD i f 0 []).2.length := by simp at e; omega
    have hbuf : SlC (h5.row B [I i, s5.v, I (mkD i f 0 []).1, .map (some rs), .map (some rn)] 5) s5 3 (ndCells (mkD i f 0 []).2) := by
      refine Buf.slc ⟨inv5.buf.1, inv5.buf.2.1, inv5.buf.2.2.imp id ?_⟩ (by omega)
      rintro ⟨c, hc, hcb⟩
      exact ⟨c, hc, by rw [row_ne _ _ (inv5.own _ hc)]; exact hcb⟩
    refine clone_spec hbuf (by omega) fun t6 h6 l6 ho => ⟨_, _, _, rfl, ?_⟩
    have g6 := l6 _ _ g1'
    simp only [vm, mm, g6]
    refine ⟨by omega, _, Hp.le_refl _, k1 _ (by simp [toldD, e']) t6 _ (le_row_of _ _ hb1 (Hp.le_trans l15 l6)) (ho.mono ?_)⟩
    exact keep_row _ _ (sub_none g1') (sub_anti _ l15)


/-- A diagram as it is returned, with whether there is one. -/
structure Bd where
  v : Int
  ns : List Nd
  r : Int
  ok : Bool
def noBd : Bd := ⟨0, [], 0, false⟩
def toldP (v : Int) (f : Nat → Bool) : Bd := if 0 ≤ v ∧ v ≤ 13 then (match toldD v.toNat f with | none => noBd | some r => ⟨v, r.2, r.1, true⟩) else noBd


theorem eqBddNode_spec {h : Hp} {a b c a' b' c' : Int} {R : Value → Hp → Prop} (k : R (.bool (decide (a = a' ∧ b = b' ∧ c = c'))) h) :
    c_laws_eqBddNode #[.agg #[I a, I b, I c], .agg #[I a', I b', I c']] h R := by
  refine ACalls.drop (R_laws_eqBddNode ?_)
  unfold F_laws_eqBddNode
  intro b1 hb1
  simp only [vm, mm]
  rintro b2 ⟨n21, hb2⟩
  have n12 := n21.symm
  have l0 := le_row_of [I a', I b', I c'] 3 hb2 (le_row [I a, I b, I c] 3 hb1)
  simp only [vm, mm, n12, n21, ne_eq, not_false_eq_true]
  refine bsplit_of (fun e => ⟨_, l0, ?_⟩) (fun e => ?_)
  · have : ¬ a = a' := by simpa using e
    simpa [this] using k
  have e1 : a = a' := by simpa using e
  refine bsplit_of (fun e => ⟨_, l0, ?_⟩) (fun e => ?_)
  · have : ¬ b = b' := by simpa using e
    simpa [this] using k
  have e2 : b = b' := by simpa using e
  refine bsplit_of (fun e => ⟨_, l0, ?_⟩) (fun e => ⟨_, l0, ?_⟩)
  · have : ¬ c = c' := by simpa using e
    simpa [this] using k
  have e3 : c = c' := by simpa using e
  simpa [e1, e2, e3] using k

/-- Nodes, place by place. -/
theorem nd_at {h : Hp} {s : Sl} {ns : List Nd} (e : SlC h s 3 (ndCells ns)) {i : Nat} (hi : i < ns.length) :
    ∃ b o, s.a = some (Addr.mk b o none) ∧ Hp.cell h b (o + i * 3) = some (I ns[i].v) ∧ Hp.cell h b (o + i * 3 + 1) = some (I ns[i].lo) ∧ Hp.cell h b (o + i * 3 + 2) = some (I ns[i].hi) := by
  have hl := e.2.1
  rw [ndCells_len] at hl
  obtain ⟨b, o, ha, hc⟩ := SlC.get e (by omega)
  have key : ∀ (ns : List Nd) (i : Nat) (hi : i < ns.length), (ndCells ns)[i * 3]? = some (I ns[i].v) ∧ (ndCells ns)[i * 3 + 1]? = some (I ns[i].lo) ∧ (ndCells ns)[i * 3 + 2]? = some (I ns[i].hi) := by
    intro ns
    induction ns with
    | nil => intro i hi; simp at hi
    | cons n ns ih =>
      intro i hi
      cases i with
      | zero => simp [ndCells]
      | succ i =>
        have := ih i (by simpa using hi)
        have hx : ndCells (n :: ns) = I n.v :: I n.lo :: I n.hi :: ndCells ns := rfl
        rw [hx, show (i + 1) * 3 = i * 3 + 3 by omega]
        simpa using this
  obtain ⟨k1, k2, k3⟩ := key ns i hi
  exact ⟨b, o, ha, hc _ _ k1, by rw [Nat.add_assoc]; exact hc _ _ k2, by rw [Nat.add_assoc]; exact hc _ _ k3⟩
theorem nd_len {h : Hp} {s : Sl} {ns : List Nd} (e : SlC h s 3 (ndCells ns)) : s.n = ns.length := by
  have hl := e.2.1
  rw [ndCells_len] at hl; omega

theorem eqBddNodeS_spec {h : Hp} {s t : Sl} {xs ys : List Nd} {R : Value → Hp → Prop} (hs : SlC h s 3 (ndCells xs)) (ht : SlC h t 3 (ndCells ys))
    (k : R (.bool (decide (xs = ys))) h) : c_laws_eqBddNodeS #[s.v, t.v] h R := by
  apply R_laws_eqBddNodeS
  unfold F_laws_eqBddNodeS
  have ls := nd_len hs
  have lt := nd_len ht
  have hb := hs.1
  by_cases hl : xs.length = ys.length
  · refine bs_f (by simp [ls, lt, hl]) ?_
    refine loop_up xs.length (fun i vs h' => vs = [s.v, t.v, I i] ∧ h' = h ∧ xs.take i = ys.take i) ⟨rfl, rfl, by simp⟩ ?_
    rintro i _ _ next hi ⟨rfl, rfl, hp⟩ hn
    refine ⟨_, _, _, rfl, ?_⟩
    by_cases hlt : i < xs.length
    · obtain ⟨b, o, ha, c1, c2, c3⟩ := nd_at hs hlt
      have hi' : i < ys.length := by omega
      obtain ⟨b', o', ha', d1, d2, d3⟩ := nd_at ht hi'
      refine bs_t (by simp [ls, hlt]) ?_
      simp only [vm, ls, lt, ha, ha', c1, c2, c3, d1, d2, d3, W_succ (n := i) (by omega)]
      refine ⟨by omega, by omega, eqBddNode_spec ⟨_, rfl, bsplit_of (fun he => ?_) (fun he => ?_)⟩⟩
      · rwa [decide_eq_false (fun e => by subst e; simp at he)] at k
      · refine hn hlt _ _ ⟨rfl, rfl, take_step hlt hi' hp ?_⟩
        have he' : ((xs[i].v : Int) = ys[i].v ∧ (xs[i].lo : Int) = ys[i].lo ∧ (xs[i].hi : Int) = ys[i].hi) := by simpa using he
        have : ∀ a b : Nd, (a.v : Int) = b.v ∧ (a.lo : Int) = b.lo ∧ (a.hi : Int) = b.hi → a = b := by
          intro ⟨a, b, c⟩ ⟨a', b', c'⟩ hh; simp only [Nd.mk.injEq]; simp only at hh; omega
        exact this _ _ he'
    · have : i = xs.length := by omega
      subst this
      refine bs_f (by simp [ls]) ?_
      rw [List.take_length, hl, List.take_length] at hp
      rwa [decide_eq_true hp] at k
  · refine bs_t (by simp [ls, lt]; omega) ?_
    rwa [decide_eq_false (fun e => hl (by rw [e]))] at k

theorem eqBdd_spec {h : Hp} {s t : Sl} {xs ys : List Nd} {v r v' r' : Int} {R : Value → Hp → Prop} (hs : SlC h s 3 (ndCells xs)) (ht : SlC h t 3 (ndCells ys))
    (k : R (.bool (decide (v = v' ∧ xs = ys ∧ r = r'))) h) : c_laws_eqBdd #[.agg #[I v, s.v, I r], .agg #[I v', t.v, I r']] h R := by
  refine ACalls.drop (R_laws_eqBdd ?_)
  unfold F_laws_eqBdd
  intro b1 hb1
  simp only [vm, mm]
  rintro b2 ⟨n21, hb2⟩
  have n12 := n21.symm
  have l0 := le_row_of [I v', t.v, I r'] 3 hb2 (le_row [I v, s.v, I r] 3 hb1)
  simp only [vm, mm, n12, n21, ne_eq, not_false_eq_true]
  refine bsplit_of (fun e => ⟨_, l0, ?_⟩) (fun e => ?_)
  · have : ¬ v = v' := by simpa using e
    simpa [this] using k
  have e1 : v = v' := by simpa using e
  refine eqBddNodeS_spec (hs.mono l0) (ht.mono l0) ⟨_, rfl, bsplit_of (fun e => ⟨_, l0, ?_⟩) (fun e => ?_)⟩
  · have : ¬ xs = ys := by simpa using e
    simpa [this] using k
  have e2 : xs = ys := by simpa using e
  simp only [vm, mm, n12, n21, ne_eq, not_false_eq_true]
  refine bsplit_of (fun e => ⟨_, l0, ?_⟩) (fun e => ⟨_, l0, ?_⟩)
  · have : ¬ r = r' := by simpa using e
    simpa [this] using k
  have e3 : r = r' := by simpa using e
  simpa [e1, e2, e3] using k

theorem set3_take {cs : List Value} {i : Nat} {k : Int} (hl : i * 3 + 3 ≤ cs.length) (hp : cs.take (i * 3) = markCells k (i * 3)) (x y z : Value)
    (hx : x = I (k + (i * 3 : Nat))) (hy : y = I (k + (i * 3 + 1 : Nat))) (hz : z = I (k + (i * 3 + 2 : Nat))) :
    (((cs.set (i * 3) x).set (i * 3 + 1) y).set (i * 3 + 2) z).take ((i + 1) * 3) = markCells k ((i + 1) * 3) := by
  rw [show (i + 1) * 3 = i * 3 + 2 + 1 by omega, take_set _ (by simp; omega), take_set _ (by simp; omega), take_set _ (by omega), hp]
  subst hx; subst hy; subst hz
  simp only [markCells, List.range_succ, List.map_append, List.map_cons, List.map_nil]

theorem markBddNodeS_spec {h : Hp} {s : Sl} {cs : List Value} {k0 : Int} {R : Value → Hp → Prop} (hs : Own h s 3 cs) (h0 : 0 ≤ k0) (hk : k0 + s.n * 3 ≤ 9223372036854775807)
    (k : ∀ h', (h.wo s.used).le h' → Own h' s 3 (markCells k0 (s.n * 3)) → R (I (k0 + s.n * 3)) h') : c_laws_markBddNodeS #[s.v, I k0] h R := by
  apply R_laws_markBddNodeS
  unfold F_laws_markBddNodeS
  by_cases hn0 : s.n = 0
  · refine loop_up 0 (fun i vs h' => vs = [s.v, I k0, I i] ∧ h' = h) ⟨rfl, rfl⟩ ?_
    rintro i _ _ next hi ⟨rfl, rfl⟩ hn
    refine ⟨_, _, _, rfl, bs_f (by simp [hn0]) ?_⟩
    have := k _ (wo_le _ _) ⟨by simp [hn0, markCells], hs.2.1, .inl hn0⟩
    simpa [hn0] using this
  obtain ⟨b, z, ha, hb⟩ := hs.2.2.resolve_left hn0
  refine loop_up s.n (fun i vs h' => vs = [s.v, I (k0 + (i * 3 : Nat)), I i] ∧ ∃ cs', h' = h.set b (some (.inl ⟨cs', z, false⟩)) ∧ cs'.length = s.n * 3 ∧ cs'.take (i * 3) = markCells k0 (i * 3))
    ⟨by simp, cs, ?_, hs.1, by simp [markCells]⟩ ?_
  · funext c
    by_cases hc : c = b
    · subst hc; rw [Hp.set_eq, hb]
    · rw [Hp.set_ne _ _ hc]
  rintro i _ _ next hi ⟨rfl, cs', rfl, hcl, hp⟩ hn
  refine ⟨_, _, _, rfl, ?_⟩
  have hrow : ∀ cs', h.set b (some (.inl ⟨cs', z, false⟩)) = h.row b cs' z := fun _ => rfl
  by_cases hlt : i < s.n
  · refine bs_t (by simp [hlt]) ?_
    have w1 : W (k0 + (i * 3 : Nat) + 1) = k0 + (i * 3 + 1 : Nat) := by rw [W_id (by omega) (by omega)]; omega
    have w2 : W (k0 + (i * 3 + 1 : Nat) + 1) = k0 + (i * 3 + 2 : Nat) := by rw [W_id (by omega) (by omega)]; omega
    have w3 : W (k0 + (i * 3 + 2 : Nat) + 1) = k0 + ((i + 1) * 3 : Nat) := by rw [W_id (by omega) (by omega)]; omega
    simp only [vm, mm, ha, hrow, w1, w2, w3, W_succ (n := i) (by omega), List.length_set]
    refine ⟨by omega, by omega, by omega, by omega, by omega, by omega, hn hlt _ _ ⟨rfl, _, rfl, by simpa using hcl, set3_take (by omega) hp _ _ _ rfl rfl rfl⟩⟩
  · have : i = s.n := by omega
    subst this
    rw [← hcl, List.take_length, hcl] at hp
    subst hp
    refine bs_f (by simp) ?_
    have := k (h.set b (some (.inl ⟨markCells k0 (s.n * 3), z, false⟩))) ?_ ⟨by simp [markCells], hs.2.1, .inr ⟨b, z, ha, Hp.set_eq ..⟩⟩
    · simpa using this
    · refine le_set_of _ (wo_le _ _) (wo_none ?_)
      simp [Sl.used, hn0, Sl.blk, ha]

theorem heldBddNodeS_spec {h : Hp} {s : Sl} {k0 : Int} {R : Value → Hp → Prop} (hs : SlC h s 3 (markCells k0 (s.n * 3))) (h0 : 0 ≤ k0) (hk : k0 + s.n * 3 ≤ 9223372036854775807)
    (k : R (I (k0 + s.n * 3)) h) : c_laws_heldBddNodeS #[s.v, I k0] h R := by
  apply R_laws_heldBddNodeS
  unfold F_laws_heldBddNodeS
  refine loop_up s.n (fun i vs h' => vs = [s.v, I (k0 + (i * 3 : Nat)), I i] ∧ h' = h) ⟨by simp, rfl⟩ ?_
  rintro i _ _ next hi ⟨rfl, rfl⟩ hn
  refine ⟨_, _, _, rfl, ?_⟩
  by_cases hlt : i < s.n
  · obtain ⟨b, o, ha, hc⟩ := hs.get (by omega)
    have c1 := hc (i * 3) (I (k0 + (i * 3 : Nat))) (by rw [markCells, List.getElem?_map, List.getElem?_range (by omega)]; rfl)
    have c2 := hc (i * 3 + 1) (I (k0 + (i * 3 + 1 : Nat))) (by rw [markCells, List.getElem?_map, List.getElem?_range (by omega)]; rfl)
    have c3 := hc (i * 3 + 2) (I (k0 + (i * 3 + 2 : Nat))) (by rw [markCells, List.getElem?_map, List.getElem?_range (by omega)]; rfl)
    rw [← Nat.add_assoc] at c2 c3
    have w1 : W (k0 + (i * 3 : Nat) + 1) = k0 + (i * 3 + 1 : Nat) := by rw [W_id (by omega) (by omega)]; omega
    have w2 : W (k0 + (i * 3 + 1 : Nat) + 1) = k0 + (i * 3 + 2 : Nat) := by rw [W_id (by omega) (by omega)]; omega
    have w3 : W (k0 + (i * 3 + 2 : Nat) + 1) = k0 + ((i + 1) * 3 : Nat) := by rw [W_id (by omega) (by omega)]; omega
    refine bs_t (by simp [hlt]) ?_
    simp only [vm, ha, c1, c2, c3, w1, w2, w3, W_succ (n := i) (by omega)]
    refine ⟨by omega, bs_f (by simp) ⟨by omega, bs_f (by simp) ⟨by omega, bs_f (by simp) (hn hlt _ _ ⟨rfl, rfl⟩)⟩⟩⟩
  · have : i = s.n := by omega
    subst this
    refine bs_f (by simp) ?_
    simpa using k

theorem markBdd_spec {h : Hp} {s : Sl} {cs : List Value} {v r k0 : Int} {R : Value → Hp → Prop} (hs : Own h s 3 cs) (h0 : 0 ≤ k0) (hk : k0 + s.n * 3 ≤ 9223372036854775807)
    (k : ∀ h', (h.wo s.used).le h' → Own h' s 3 (markCells k0 (s.n * 3)) → R (I (k0 + s.n * 3)) h') : c_laws_markBdd #[.agg #[I v, s.v, I r], I k0] h R := by
  apply R_laws_markBdd
  unfold F_laws_markBdd
  intro b hb
  have l0 := le_row [I v, s.v, I r] 3 hb
  simp only [vm, mm]
  refine markBddNodeS_spec (hs.mono l0) h0 hk fun h1 l1 ho => ⟨_, rfl, k _ (Hp.le_trans (le_wo (Hp.le_trans (wo_le _ _) l0) fun c hc => wo_none hc) l1) ho⟩

theorem heldBdd_spec {h : Hp} {s : Sl} {v r k0 : Int} {R : Value → Hp → Prop} (hs : SlC h s 3 (markCells k0 (s.n * 3))) (h0 : 0 ≤ k0) (hk : k0 + s.n * 3 ≤ 9223372036854775807)
    (k : R (I (k0 + s.n * 3)) h) : c_laws_heldBdd #[.agg #[I v, s.v, I r], I k0] h R := by
  refine ACalls.drop (R_laws_heldBdd ?_)
  unfold F_laws_heldBdd
  intro b hb
  have l0 := le_row [I v, s.v, I r] 3 hb
  simp only [vm, mm]
  exact heldBddNodeS_spec (hs.mono l0) h0 hk ⟨_, rfl, bs_f (by simp; omega) ⟨_, l0, k⟩⟩


/-- A list of numbers of one's own that grows. -/
def IBuf (h : Hp) (s : Sl) (xs : List Int) : Prop := Buf h s 1 (xs.map I)
theorem IBuf.len {h : Hp} {s : Sl} {xs : List Int} (e : IBuf h s xs) : s.n = xs.length := by have := e.1; simp at this; omega
theorem IBuf.ints {h : Hp} {s : Sl} {xs : List Int} (e : IBuf h s xs) (hn : xs.length ≤ 1048576) : IntS h s xs := Buf.slc e (by rw [e.len]; omega)
theorem IBuf.mono {h h' : Hp} {s : Sl} {xs : List Int} (l : h.le h') (e : IBuf h s xs) : IBuf h' s xs := Buf.mono l e
/-- One number more. -/
theorem aApp_int {h : Hp} {s : Sl} {xs : List Int} {x : Int} {b : Nat} {K : Option Addr → Nat → Nat → Hp → Prop} (hb : IBuf h s xs) (hl : xs.length ≤ 1048576) (hc : Hp.cell h b 0 = some (I x))
    (k : ∀ (s' : Sl) (h' : Hp), IBuf h' s' (xs ++ [x]) → (h.offS s).le (h'.offS s') → K s'.a s'.n s'.c h') : aApp h s.a s.n s.c (some ⟨b, 0, none⟩) 1 1 8 K := by
  refine aApp_buf hb (by omega) (by rw [hb.len]; omega) (by rw [hb.len]; omega) ⟨b, 0, rfl, fun i v hi => ?_⟩ (news := [I x]) rfl rfl ?_
  · cases i with
    | zero => simp at hi; subst hi; exact hc
    | succ i => simp at hi
  · intro s' h' hn hbuf hle _
    exact k s' h' (by unfold IBuf; rw [List.map_append]; exact hbuf) hle


/-- A list that grows, apart from a heap that is kept. -/
structure Grown (h h' : Hp) (t : Sl) (set : List Int) : Prop where
  buf : IBuf h' t set
  le : h.le (h'.offS t)
theorem Grown.keep {h h' : Hp} {t : Sl} {set : List Int} (e : Grown h h' t set) : h.le h' := Hp.le_trans e.le (offS_le _ _)
theorem Grown.app {h h' : Hp} {t : Sl} {set : List Int} {x : Int} {b : Nat} {K : Option Addr → Nat → Nat → Hp → Prop} (e : Grown h h' t set) (hl : set.length ≤ 1048576) (hb : h' b = none)
    (k : ∀ (t' : Sl) (h'' : Hp), Grown h h'' t' (set ++ [x]) → K t'.a t'.n t'.c h'') : aApp (h'.row b [I x] 1) t.a t.n t.c (some ⟨b, 0, none⟩) 1 1 8 K := by
  have l := le_row [I x] 1 hb
  refine aApp_int (e.buf.mono l) hl (cell_row _ _ _ _ _) fun t' h'' hb' hl' => k t' h'' ⟨hb', Hp.le_trans (Hp.le_trans e.le (offS_mono t l)) hl'⟩


theorem Grown.own {h h' : Hp} {t : Sl} {set : List Int} (e : Grown h h' t set) (hl : set.length ≤ 1048576) : Own (h'.sub h) t 1 (set.map I) := by
  have hn := e.buf.len
  refine ⟨e.buf.1, by omega, ?_⟩
  rcases e.buf.2.2 with ⟨_, h0, _⟩ | ⟨b, ha, hb⟩
  · exact .inl h0
  · refine .inr ⟨b, t.c * 1, ha, ?_⟩
    rw [sub_at]
    · exact hb
    · refine none_of_le e.le ?_
      simp [Hp.offS, ha, Hp.off, Hp.set]
theorem ClauseOk.all {v : Int} {l : List Int} (e : ClauseOk v l = true) : ∀ x ∈ l, x ≠ 0 ∧ -v ≤ x ∧ x ≤ v := fun x hx => LitOk.iff.1 (ClauseOk.lit e hx)


/-- A map's entries that say yes to each of some numbers. -/
def setEs (set : List Int) : List (Value × Value) := set.map fun x => (I x, .bool true)
theorem mlook_set (set : List Int) (n : Int) : ∃ res, mlook (Instr.sameNow (.int .i64) (I n)) (setEs set) 0 = some res ∧ Option.getD (Option.map (fun p => p.2) res) (.bool false) = .bool (set.contains n) ∧
    mput (setEs set) (I n) (.bool true) res = setEs (if set.contains n then set else set ++ [n]) := by
  unfold setEs
  rcases mlook_cases (Instr.sameNow (.int .i64) (I n)) (fun x : Int => I x) (fun _ => .bool true) (fun x => n == x) set 0 (fun x _ => sameNow_int _ _ _) with ⟨hno, hm⟩ | ⟨j, hj, hyes, _, hm⟩
  · have hc : set.contains n = false := by
      rw [Bool.eq_false_iff]; intro h
      have := hno n (by simpa using h)
      simp at this
    exact ⟨_, hm, by rw [hc]; rfl, by rw [hc]; simp [mput]⟩
  · have he : n = set[j] := by simpa using hyes
    have hc : set.contains n = true := by
      rw [he]; simp
    refine ⟨_, hm, by rw [hc]; rfl, ?_⟩
    rw [hc, if_pos rfl]
    simp only [mput, Nat.zero_add]
    apply List.ext_getElem
    · simp
    · intro i h1 h2
      rw [List.getElem_set]
      split
      · rename_i hij; subst hij; simp [he]
      · rfl

/-- What is known, in a map of one's own. -/
structure MapG (h h' : Hp) (rm : Nat) (set : List Int) : Prop where
  map : h' rm = some (.inr (setEs set))
  le : h.le h'
  new : h rm = none
theorem MapG.put {h h' : Hp} {rm : Nat} {set set' : List Int} (e : MapG h h' rm set) : MapG h (h'.set rm (some (.inr (setEs set')))) rm set' :=
  ⟨Hp.set_eq .., le_set_of _ e.le e.new, e.new⟩


/-- A list of lists that grows, its pieces lying in a heap that is kept. -/
structure GrownSS (h h' : Hp) (t : Sl) (xss : List (List Int)) : Prop where
  buf : ∃ ts : List Sl, Buf h' t 1 (ts.map Sl.v) ∧ ts.length = xss.length ∧ ∀ (i : Nat) (h1 : i < ts.length) (h2 : i < xss.length), IntS h ts[i] xss[i]
  le : h.le (h'.offS t)
theorem GrownSS.keep {h h' : Hp} {t : Sl} {xss : List (List Int)} (e : GrownSS h h' t xss) : h.le h' := Hp.le_trans e.le (offS_le _ _)
theorem GrownSS.ints {h h' : Hp} {t : Sl} {xss : List (List Int)} (e : GrownSS h h' t xss) (hl : xss.length ≤ 1048576) : IntSS h' t xss := by
  obtain ⟨ts, hb, h1, h2⟩ := e.buf
  have hn : t.n = xss.length := by have := hb.1; simp at this; omega
  exact ⟨ts, h1, hb.slc (by omega), fun i a b => (h2 i a b).mono e.keep⟩
theorem GrownSS.app {h h' : Hp} {t u : Sl} {xss : List (List Int)} {x : List Int} {b : Nat} {K : Option Addr → Nat → Nat → Hp → Prop} (e : GrownSS h h' t xss) (hl : xss.length ≤ 1048576) (hu : IntS h u x) (hb : h' b = none)
    (k : ∀ (t' : Sl) (h'' : Hp), GrownSS h h'' t' (xss ++ [x]) → K t'.a t'.n t'.c h'') : aApp (h'.row b [u.v] 1) t.a t.n t.c (some ⟨b, 0, none⟩) 1 1 24 K := by
  have l := le_row [u.v] 1 hb
  obtain ⟨ts, hbuf, h1, h2⟩ := e.buf
  have hn : t.n = xss.length := by have := hbuf.1; simp at this; omega
  refine aApp_buf (hbuf.mono l) (by omega) (by omega) (by omega) ⟨b, 0, rfl, fun i v hi => ?_⟩ (news := [u.v]) rfl rfl ?_
  · cases i with
    | zero => simp at hi; subst hi; exact cell_row _ _ _ _ _
    | succ i => simp at hi
  · intro t' h'' hn' hb' hle _
    refine k t' h'' ⟨⟨ts ++ [u], by rw [List.map_append]; exact hb', by simp [h1], ?_⟩, Hp.le_trans (Hp.le_trans e.le (offS_mono t l)) hle⟩
    intro i a c
    by_cases hi : i < ts.length
    · rw [List.getElem_append_left hi, List.getElem_append_left (by omega)]; exact h2 i hi (by omega)
    · have : i = ts.length := by simp at a; omega
      subst this
      simp only [List.getElem_append_right (Nat.le_refl _), Nat.sub_self, List.getElem_cons_zero]
      simp only [h1, List.getElem_append_right (Nat.le_refl _), Nat.sub_self, List.getElem_cons_zero]
      exact hu


/-- A clause that a set of literals neither goes against nor drives on. -/
def Stable (S : List Int) (l : List Int) : Prop :=
  (∃ x ∈ l, x ∈ S) ∨ ∃ x ∈ l, ∃ y ∈ l, x ≠ y ∧ (x ∉ S ∧ -x ∉ S) ∧ (y ∉ S ∧ -y ∉ S)
def Cons (S : List Int) : Prop := ∀ x ∈ S, -x ∉ S
def WfL (v : Int) (l : List Int) : Prop := ∀ x ∈ l, x ≠ 0 ∧ -v ≤ x ∧ x ≤ v
def WfC (v : Int) (c : List (List Int)) : Prop := ∀ l ∈ c, WfL v l

theorem leftP_cases (set : List Int) : ∀ (l : List Int) (left : Int), (∀ x ∈ l, x ≠ 0) → (left ≠ 0 → left ∉ set ∧ -left ∉ set) →
    (leftP set l left = (0, false) ∧ ((∃ x ∈ l, x ∈ set) ∨ ∃ x ∈ l, ∃ y ∈ left :: l, y ≠ 0 ∧ x ≠ y ∧ (x ∉ set ∧ -x ∉ set) ∧ (y ∉ set ∧ -y ∉ set))) ∨
    ((leftP set l left).2 = ((leftP set l left).1 == 0) ∧ (left ≠ 0 → (leftP set l left).1 = left) ∧ ∀ x ∈ l, x = (leftP set l left).1 ∨ -x ∈ set) := by
  intro l
  induction l with
  | nil => intro left _ _; exact .inr ⟨rfl, fun _ => rfl, by simp⟩
  | cons x r ih =>
    intro left hx ho
    have hr := fun y hy => hx y (List.mem_cons_of_mem _ hy)
    have hx0 := hx x (by simp)
    simp only [leftP]
    by_cases h1 : set.contains x = true
    · rw [if_pos h1]; exact .inl ⟨rfl, .inl ⟨x, by simp, by simpa using h1⟩⟩
    rw [if_neg h1]
    by_cases h2 : set.contains (-x) = true
    · rw [if_pos h2]
      rcases ih left hr ho with ⟨e, h⟩ | ⟨e, h, h'⟩
      · refine .inl ⟨e, ?_⟩
        rcases h with ⟨z, hz, hs⟩ | ⟨z, hz, y, hy, h⟩
        · exact .inl ⟨z, by simp [hz], hs⟩
        · refine .inr ⟨z, by simp [hz], y, ?_, h⟩
          rcases List.mem_cons.1 hy with rfl | hy
          · simp
          · simp [hy]
      · refine .inr ⟨e, h, ?_⟩
        intro z hz
        rcases List.mem_cons.1 hz with rfl | hz
        · exact .inr (by simpa using h2)
        · exact h' z hz
    rw [if_neg h2]
    have hxo : x ∉ set ∧ -x ∉ set := ⟨by simpa using h1, by simpa using h2⟩
    by_cases h3 : (left != 0 && left != x) = true
    · rw [if_pos h3]
      simp at h3
      exact .inl ⟨rfl, .inr ⟨x, by simp, left, by simp, h3.1, fun e => h3.2 e.symm, hxo, ho h3.1⟩⟩
    rw [if_neg h3]
    have hl : left ≠ 0 → left = x := by simpa using h3
    rcases ih x hr (fun _ => hxo) with ⟨e, h⟩ | ⟨e, h, h'⟩
    · refine .inl ⟨e, ?_⟩
      rcases h with ⟨z, hz, hs⟩ | ⟨z, hz, y, hy, h⟩
      · exact .inl ⟨z, by simp [hz], hs⟩
      · exact .inr ⟨z, by simp [hz], y, List.mem_cons_of_mem _ hy, h⟩
    · refine .inr ⟨e, fun h0 => ?_, ?_⟩
      · rw [h hx0, hl h0]
      · intro z hz
        rcases List.mem_cons.1 hz with rfl | hz
        · exact .inl (h hx0).symm
        · exact h' z hz

theorem leftP_sub {set S l : List Int} (hs : set ⊆ S) (hc : Cons S) (hl : ∀ x ∈ l, x ≠ 0) (st : Stable S l) :
    (leftP set l 0).2 = false ∧ ((leftP set l 0).1 ≠ 0 → (leftP set l 0).1 ∈ S) := by
  rcases leftP_cases set l 0 hl (fun h => absurd rfl h) with ⟨e, _⟩ | ⟨e, _, h⟩
  · rw [e]; exact ⟨rfl, fun h => absurd rfl h⟩
  · obtain ⟨x, hx, hn, hS⟩ : ∃ x ∈ l, x = (leftP set l 0).1 ∧ x ∈ S := by
      rcases st with ⟨x, hx, hS⟩ | ⟨x, hx, y, hy, hne, hxo, hyo⟩
      · rcases h x hx with h1 | h1
        · exact ⟨x, hx, h1, hS⟩
        · exact absurd (hs h1) (hc x hS)
      · rcases h x hx with h1 | h1
        · rcases h y hy with h2 | h2
          · exact absurd (h1.trans h2.symm) hne
          · exact absurd (hs h2) hyo.2
        · exact absurd (hs h1) hxo.2
    rw [e, ← hn]
    exact ⟨by simpa using hl x hx, fun _ => hS⟩
theorem leftP_stable {set l : List Int} (hl : ∀ x ∈ l, x ≠ 0) (h1 : (leftP set l 0).2 = false) (h2 : (leftP set l 0).1 = 0) : Stable set l := by
  rcases leftP_cases set l 0 hl (fun h => absurd rfl h) with ⟨e, h⟩ | ⟨e, _, h⟩
  · refine h.imp id ?_
    rintro ⟨x, hx, y, hy, hy0, h⟩
    rcases List.mem_cons.1 hy with rfl | hy
    · exact absurd rfl hy0
    · exact ⟨x, hx, y, hy, h⟩
  · rw [h1, h2] at e; simp at e

theorem passP_sub {S : List Int} (hc : Cons S) : ∀ (cls : List (List Int)) (set : List Int) (more : Bool), set ⊆ S → (∀ l ∈ cls, (∀ x ∈ l, x ≠ 0) ∧ Stable S l) →
    ∃ set' more', passP cls set more = some (set', more') ∧ set' ⊆ S := by
  intro cls
  induction cls with
  | nil => intro set more hs _; exact ⟨set, more, rfl, hs⟩
  | cons l r ih =>
    intro set more hs hl
    have h := leftP_sub hs hc (hl l (by simp)).1 (hl l (by simp)).2
    have hr := fun l' h' => hl l' (List.mem_cons_of_mem _ h')
    simp only [passP, h.1, Bool.false_eq_true, if_false]
    split
    · rename_i hne
      refine ih _ _ ?_ hr
      intro x hx
      rcases List.mem_append.1 hx with hx | hx
      · exact hs hx
      · simp only [List.mem_singleton] at hx; subst hx; exact h.2 (by simpa using hne)
    · exact ih _ _ hs hr
theorem passP_grows : ∀ (cls : List (List Int)) (set : List Int) (more : Bool) (set' : List Int) (more' : Bool), passP cls set more = some (set', more') → set ⊆ set' := by
  intro cls
  induction cls with
  | nil => intro set more set' more' h; simp only [passP, Option.some.injEq, Prod.mk.injEq] at h; rw [h.1]; exact fun x hx => hx
  | cons l r ih =>
    intro set more set' more' h
    simp only [passP] at h
    split at h
    · cases h
    · split at h
      · exact fun x hx => ih _ _ _ _ h (List.mem_append_left _ hx)
      · exact ih _ _ _ _ h
theorem passP_stable : ∀ (cls : List (List Int)) (set : List Int) (more : Bool) (set' : List Int), (∀ l ∈ cls, ∀ x ∈ l, x ≠ 0) → passP cls set more = some (set', false) →
    more = false ∧ set' = set ∧ ∀ l ∈ cls, Stable set l := by
  intro cls
  induction cls with
  | nil => intro set more set' _ h; simp only [passP, Option.some.injEq, Prod.mk.injEq] at h; exact ⟨h.2, h.1.symm, by simp⟩
  | cons l r ih =>
    intro set more set' hl h
    have hr := fun l' h' => hl l' (List.mem_cons_of_mem _ h')
    simp only [passP] at h
    split at h
    · cases h
    · rename_i h1
      split at h
      · have := (ih _ _ _ hr h).1; cases this
      · rename_i h2
        obtain ⟨e1, e2, e3⟩ := ih _ _ _ hr h
        refine ⟨e1, e2, ?_⟩
        intro l' h'
        rcases List.mem_cons.1 h' with rfl | h'
        · exact leftP_stable (hl _ (by simp)) (by simpa using h1) (by simpa using h2)
        · exact e3 l' h'

theorem roundsP_eq {cls : List (List Int)} {set : List Int} {v : Int} (hv0 : 0 ≤ v) (hv : v ≤ 10) (hc : WfC v cls) (k : Known v set) :
    roundsP cls set = match passP cls set false with | none => none | some (set', more) => if more then roundsP cls set' else some set' := by
  rw [roundsP]
  cases hp : passP cls set false with
  | none => rfl
  | some p =>
    obtain ⟨set', more⟩ := p
    obtain ⟨k', hl, hm⟩ := passP_known cls set false k hc _ _ hp
    cases more with
    | false => rfl
    | true =>
      have h1 : set.length < set'.length := by
        rcases hm rfl with h | h
        · cases h
        · exact h
      have h2 := k'.len hv hv0
      simp [h1, h2]
theorem roundsP_sub {S : List Int} (hS : Cons S) {cls : List (List Int)} {v : Int} (hv0 : 0 ≤ v) (hv : v ≤ 10) (hc : WfC v cls) (hst : ∀ l ∈ cls, Stable S l) :
    ∀ (n : Nat) (set : List Int), 20 - set.length ≤ n → Known v set → set ⊆ S → ∃ set', roundsP cls set = some set' ∧ set' ⊆ S := by
  intro n
  induction n with
  | zero =>
    intro set hn k hs
    obtain ⟨set', more', hp, hs'⟩ := passP_sub hS cls set false hs (fun l h => ⟨fun x hx => (hc l h x hx).1, hst l h⟩)
    obtain ⟨k', hl, hm⟩ := passP_known cls set false k hc _ _ hp
    have h2 := k'.len hv hv0
    rw [roundsP_eq hv0 hv hc k, hp]
    cases more' with
    | false => exact ⟨set', rfl, hs'⟩
    | true =>
      rcases hm rfl with h | h
      · cases h
      · omega
  | succ n ih =>
    intro set hn k hs
    obtain ⟨set', more', hp, hs'⟩ := passP_sub hS cls set false hs (fun l h => ⟨fun x hx => (hc l h x hx).1, hst l h⟩)
    obtain ⟨k', hl, hm⟩ := passP_known cls set false k hc _ _ hp
    rw [roundsP_eq hv0 hv hc k, hp]
    cases more' with
    | false => exact ⟨set', rfl, hs'⟩
    | true =>
      rcases hm rfl with h | h
      · cases h
      · exact ih set' (by omega) k' hs'
theorem roundsP_stable {cls : List (List Int)} {v : Int} (hv0 : 0 ≤ v) (hv : v ≤ 10) (hc : WfC v cls) :
    ∀ (n : Nat) (set set' : List Int), 20 - set.length ≤ n → Known v set → roundsP cls set = some set' → set ⊆ set' ∧ Known v set' ∧ ∀ l ∈ cls, Stable set' l := by
  intro n
  induction n with
  | zero =>
    intro set set' hn k h
    rw [roundsP_eq hv0 hv hc k] at h
    cases hp : passP cls set false with
    | none => rw [hp] at h; cases h
    | some p =>
      obtain ⟨s, more⟩ := p
      rw [hp] at h
      obtain ⟨k', hl, hm⟩ := passP_known cls set false k hc _ _ hp
      have h2 := k'.len hv hv0
      cases more with
      | true =>
        rcases hm rfl with h | h
        · cases h
        · omega
      | false =>
        simp only [Bool.false_eq_true, if_false, Option.some.injEq] at h
        subst h
        have := passP_stable cls set false s (fun l h x hx => (hc l h x hx).1) hp
        rw [this.2.1]
        exact ⟨fun x hx => hx, k, this.2.2⟩
  | succ n ih =>
    intro set set' hn k h
    rw [roundsP_eq hv0 hv hc k] at h
    cases hp : passP cls set false with
    | none => rw [hp] at h; cases h
    | some p =>
      obtain ⟨s, more⟩ := p
      rw [hp] at h
      obtain ⟨k', hl, hm⟩ := passP_known cls set false k hc _ _ hp
      cases more with
      | true =>
        rcases hm rfl with h' | h'
        · cases h'
        · simp only [if_true] at h
          obtain ⟨a, b, c⟩ := ih s set' (by omega) k' h
          exact ⟨fun x hx => a (passP_grows _ _ _ _ _ hp hx), b, c⟩
      | false =>
        simp only [Bool.false_eq_true, if_false, Option.some.injEq] at h
        subst h
        have := passP_stable cls set false s (fun l h x hx => (hc l h x hx).1) hp
        rw [this.2.1]
        exact ⟨fun x hx => hx, k, this.2.2⟩

theorem givenP_sub {S : List Int} (hS : Cons S) : ∀ (g set : List Int), g ⊆ S → set ⊆ S → ∃ set', givenP g set = some set' ∧ set' ⊆ S := by
  intro g
  induction g with
  | nil => intro set _ hs; exact ⟨set, rfl, hs⟩
  | cons x r ih =>
    intro set hg hs
    have hx : x ∈ S := hg (by simp)
    have hr : r ⊆ S := fun y hy => hg (List.mem_cons_of_mem _ hy)
    have hn : ¬ set.contains (-x) = true := fun h => hS x hx (hs (by simpa using h))
    simp only [givenP, if_neg hn]
    refine ih _ hr ?_
    split
    · exact hs
    · intro y hy
      rcases List.mem_append.1 hy with hy | hy
      · exact hs hy
      · simp only [List.mem_singleton] at hy; subst hy; exact hx
theorem givenP_mem : ∀ (g set set' : List Int), givenP g set = some set' → set ⊆ set' ∧ g ⊆ set' := by
  intro g
  induction g with
  | nil => intro set set' h; simp only [givenP, Option.some.injEq] at h; subst h; exact ⟨fun x hx => hx, by simp⟩
  | cons x r ih =>
    intro set set' h
    simp only [givenP] at h
    split at h
    · cases h
    · obtain ⟨h1, h2⟩ := ih _ _ h
      split at h1
      · rename_i hx
        refine ⟨h1, ?_⟩
        intro y hy
        rcases List.mem_cons.1 hy with rfl | hy
        · exact h1 (by simpa using hx)
        · exact h2 hy
      · refine ⟨fun y hy => h1 (List.mem_append_left _ hy), ?_⟩
        intro y hy
        rcases List.mem_cons.1 hy with rfl | hy
        · exact h1 (by simp)
        · exact h2 hy

section
variable {cls : List (List Int)} {given : List Int} {v : Int}
theorem units_sub (hv0 : 0 ≤ v) (hv : v ≤ 10) (hc : WfC v cls) (hg : WfL v given) {S : List Int} (hS : Cons S) (hgS : given ⊆ S) (hst : ∀ l ∈ cls, Stable S l) :
    ∃ set, unitsP cls given = some set ∧ set ⊆ S := by
  obtain ⟨s, h1, h2⟩ := givenP_sub hS given [] hgS (by simp)
  obtain ⟨s', h3, h4⟩ := roundsP_sub hS hv0 hv hc hst _ s (Nat.le_refl _) (givenP_known given [] (known_nil v) hg s h1) h2
  exact ⟨s', by rw [unitsP, h1]; exact h3, h4⟩
theorem units_stable (hv0 : 0 ≤ v) (hv : v ≤ 10) (hc : WfC v cls) (hg : WfL v given) {set : List Int} (h : unitsP cls given = some set) :
    Cons set ∧ given ⊆ set ∧ (∀ l ∈ cls, Stable set l) ∧ Known v set := by
  rw [unitsP] at h
  cases h1 : givenP given [] with
  | none => rw [h1] at h; cases h
  | some s =>
    rw [h1] at h
    have k := givenP_known given [] (known_nil v) hg s h1
    obtain ⟨a, b, c⟩ := roundsP_stable hv0 hv hc _ s set (Nat.le_refl _) k h
    exact ⟨b.cons, fun x hx => a ((givenP_mem _ _ _ h1).2 hx), c, b⟩
/-- More clauses and literals take no clash back. -/
theorem clash_mono (hv0 : 0 ≤ v) (hv : v ≤ 10) {cls' : List (List Int)} {given' : List Int} (hc : WfC v cls') (hg : WfL v given') (h1 : cls ⊆ cls') (h2 : given ⊆ given')
    (h : unitsP cls given = none) : unitsP cls' given' = none := by
  cases h' : unitsP cls' given' with
  | none => rfl
  | some set =>
    obtain ⟨a, b, c, _⟩ := units_stable hv0 hv hc hg h'
    obtain ⟨s, hs, _⟩ := units_sub hv0 hv (fun l hl => hc l (h1 hl)) (fun x hx => hg x (h2 hx)) a (fun x hx => b (h2 hx)) (fun l hl => c l (h1 hl))
    rw [hs] at h; cases h
end

/-- Each clause follows of what is ahead of it. -/
def ProvesP (cls : List (List Int)) (p : List (List Int)) : Prop := ∀ (i : Nat) (h : i < p.length), unitsP (cls ++ p.take i) (p[i].map (- ·)) = none
theorem wfL_neg {v : Int} {l : List Int} (h : WfL v l) : WfL v (l.map (- ·)) := by
  intro x hx
  obtain ⟨y, hy, rfl⟩ := List.mem_map.1 hx
  have := h y hy
  omega
theorem wfC_app {v : Int} {a b : List (List Int)} (ha : WfC v a) (hb : WfC v b) : WfC v (a ++ b) := by
  intro l hl
  rcases List.mem_append.1 hl with h | h
  · exact ha l h
  · exact hb l h
theorem wfC_take {v : Int} {a : List (List Int)} (ha : WfC v a) (n : Nat) : WfC v (a.take n) := fun l hl => ha l (List.mem_of_mem_take hl)
theorem ProvesP.mono {v : Int} (hv0 : 0 ≤ v) (hv : v ≤ 10) {cls cls' p : List (List Int)} (hc : WfC v cls') (hp : WfC v p) (hs : cls ⊆ cls') (h : ProvesP cls p) : ProvesP cls' p := by
  intro i hi
  refine clash_mono hv0 hv (wfC_app hc (wfC_take hp i)) (wfL_neg (hp _ (List.getElem_mem hi))) ?_ (fun x hx => hx) (h i hi)
  intro l hl
  rcases List.mem_append.1 hl with h | h
  · exact List.mem_append_left _ (hs h)
  · exact List.mem_append_right _ h
theorem ProvesP.pre {cls p q : List (List Int)} (h : ProvesP cls p) (hq : q <+: p) : ProvesP cls q := by
  obtain ⟨r, rfl⟩ := hq
  intro i hi
  have := h i (by simp; omega)
  rwa [List.getElem_append_left hi, List.take_append_of_le_length (by omega)] at this
def codeOf : Nat → (Nat → Bool) → Nat
  | 0, _ => 0
  | n + 1, f => codeOf n f + (if f n then 2 ^ n else 0)
theorem codeOf_lt (n : Nat) (f : Nat → Bool) : codeOf n f < 2 ^ n := by
  induction n with
  | zero => simp [codeOf]
  | succ n ih => simp only [codeOf, Nat.pow_succ]; split <;> omega
theorem codeOf_bit (n : Nat) (f : Nat → Bool) : ∀ i, i < n → (codeOf n f).testBit i = f i := by
  induction n with
  | zero => intro i h; omega
  | succ n ih =>
    intro i hi
    have hl := codeOf_lt n f
    simp only [codeOf]
    by_cases h : i = n
    · subst h
      cases hf : f i with
      | true => rw [if_pos rfl, Nat.add_comm, Nat.testBit_two_pow_add_eq, Nat.testBit_lt_two_pow hl]; rfl
      | false => simp [Nat.testBit_lt_two_pow hl]
    · cases hf : f n with
      | true => rw [if_pos rfl, Nat.add_comm, Nat.testBit_two_pow_add_gt (by omega)]; exact ih i (by omega)
      | false => simp only [Bool.false_eq_true, if_false, Nat.add_zero]; exact ih i (by omega)


/-- The maker's memory. -/
structure MI (h : Hp) (K : Nat) (vars : Nat) (tb s : Sl) (ns : List Nd) : Prop where
  row : h K = some (.inl ⟨[I vars, tb.v, s.v], 3, false⟩)
  buf : Buf h s 3 (ndCells ns)
  own : ∀ a, s.a = some a → a.block ≠ K
theorem MI.mono {h h' : Hp} {K vars : Nat} {tb s : Sl} {ns : List Nd} (l : h.le h') (e : MI h K vars tb s ns) : MI h' K vars tb s ns := ⟨l _ _ e.row, e.buf.mono l, e.own⟩
theorem MI.blkB {h : Hp} {K vars : Nat} {tb s : Sl} {ns : List Nd} (e : MI h K vars tb s ns) : ∀ b ∈ [K] ++ s.blk, ∃ x, h b = some x := by
  intro b hb
  simp only [List.cons_append, List.nil_append, List.mem_cons] at hb
  rcases hb with rfl | hb
  · exact ⟨_, e.row⟩
  · revert b hb
    refine blk_iff.2 fun a ha => ?_
    rcases e.buf.2.2 with ⟨h0, _⟩ | ⟨c, hc, hcb⟩
    · rw [h0] at ha; cases ha
    · rw [hc] at ha; cases ha; exact ⟨_, hcb⟩
theorem MI.len {h : Hp} {K vars : Nat} {tb s : Sl} {ns : List Nd} (e : MI h K vars tb s ns) : s.n = ns.length := by
  have := e.buf.1; rw [ndCells_len] at this; omega
def BoolT (h : Hp) (t : Sl) (n : Nat) (T : Nat → Bool) : Prop := BoolS h t ((List.range n).map T)
theorem BoolT.mono {h h' : Hp} {t : Sl} {n : Nat} {T : Nat → Bool} (l : h.le h') (e : BoolT h t n T) : BoolT h' t n T := BoolS.mono l e
theorem l1Yes_spec {h : Hp} {c : Bool} {R : Value → Hp → Prop} (k : R (I (if c then 1 else 0)) h) : c_spec_l1Yes #[.bool c] h R := by
  apply R_spec_l1Yes
  unfold F_spec_l1Yes
  cases c <;> exact k

theorem make_spec {K vars : Nat} (hvars : vars ≤ 13) {tb : Sl} {T : Nat → Bool} : ∀ (n v fixed : Nat) (h : Hp) (s : Sl) (ns : List Nd) (g : Hp) (R : Value → Hp → Prop),
    MI h K vars tb s ns → g.le h → g K = none → (∀ a, s.a = some a → g a.block = none) → BoolT g tb (2 ^ vars) T → v + n = vars → fixed < 2 ^ v → ns.length + 2 ^ n ≤ 1048576 →
    (∀ s' h', MI h' K vars tb s' (mkD n (fun i => T (fixed + i * 2 ^ v)) v ns).2 → g.le h' → (∀ a, s'.a = some a → g a.block = none) → R (I (mkD n (fun i => T (fixed + i * 2 ^ v)) v ns).1) h') →
    c_spec_l7Maker_make #[.pointer (some ⟨K, 0, none⟩), I v, I fixed] h R := by
  intro n
  induction n with
  | zero =>
    intro v fixed h s ns g R inv hg gK gs ht hv hfix hlen k
    apply R_spec_l7Maker_make
    unfold F_spec_l7Maker_make
    have hvv : v = vars := by omega
    subst hvv
    obtain ⟨b, o, ha, hc⟩ := (ht.mono hg).at (i := fixed) (by simp; exact hfix)
    have hl := ht.len
    simp only [List.length_map, List.length_range] at hl
    simp only [vm, cell_of inv.row, mm]
    refine bs_t (by simp) ?_
    simp only [vm, mm, ha, hc, hl]
    have hfi : ((fixed : Nat) : Int) < ((2 ^ v : Nat) : Int) := by exact_mod_cast hfix
    refine ⟨hfi, l1Yes_spec ⟨_, rfl, ?_⟩⟩
    have := k s h inv hg gs
    simp only [mkD, Nat.zero_mul, Nat.add_zero] at this
    have e0 : (((List.range (2 ^ v)).map T)[fixed]'(by simp; exact hfix)) = T fixed := by simp
    rw [e0]
    cases hT : T fixed <;> simpa [hT] using this
  | succ n ih =>
    intro v fixed h s ns g R inv hg gK gs ht hv hfix hlen k
    apply R_spec_l7Maker_make
    unfold F_spec_l7Maker_make
    have hp : 2 ^ (n + 1) = 2 * 2 ^ n := by rw [Nat.pow_succ]; omega
    have hpv : 2 ^ (v + 1) = 2 * 2 ^ v := by rw [Nat.pow_succ]; omega
    have hp1 : 0 < 2 ^ n := Nat.pow_pos (by omega)
    have hv13 : 2 ^ v ≤ 8192 := by
      have := Nat.pow_le_pow_right (n := 2) (by omega) (show v ≤ 13 by omega)
      simpa using this
    simp only [vm, cell_of inv.row, mm]
    refine bs_f (by simp; omega) ?_
    rw [W_succ (by omega)]
    have elo : (fun i => T (fixed + 2 * i * 2 ^ v)) = fun i => T (fixed + i * 2 ^ (v + 1)) := by funext i; rw [hpv]; congr 2; rw [Nat.mul_comm 2 i, Nat.mul_assoc]
    have ehi : (fun i => T (fixed + (2 * i + 1) * 2 ^ v)) = fun i => T ((fixed + 2 ^ v) + i * 2 ^ (v + 1)) := by
      funext i; rw [hpv]; congr 1; rw [Nat.add_mul, Nat.one_mul, Nat.mul_comm 2 i, Nat.mul_assoc]; omega
    have hmk : mkD (n + 1) (fun i => T (fixed + i * 2 ^ v)) v ns =
        (let r1 := mkD n (fun i => T (fixed + i * 2 ^ (v + 1))) (v + 1) ns
         let r2 := mkD n (fun i => T ((fixed + 2 ^ v) + i * 2 ^ (v + 1))) (v + 1) r1.2
         if r1.1 = r2.1 then r2 else putNd ⟨v, r1.1, r2.1⟩ r2.2) := by
      rw [← elo, ← ehi]; rfl
    have len1 := mkD_len n (fun i => T (fixed + i * 2 ^ (v + 1))) (v + 1) ns
    refine ih (v + 1) fixed h s ns g _ inv hg gK gs ht (by omega) (by omega) (by omega) ?_
    intro s3 h3 inv3 lg3 gs3
    refine ⟨_, rfl, ?_⟩
    rw [Wu_nat (by omega), if_neg (by omega), shlW_one (by omega)]
    have w1 : W ((fixed : Int) + ((2 ^ v : Nat) : Int)) = ((fixed + 2 ^ v : Nat) : Int) := by rw [W_id (by omega) (by omega)]; omega
    rw [w1]
    have len2 := mkD_len n (fun i => T ((fixed + 2 ^ v) + i * 2 ^ (v + 1))) (v + 1) (mkD n (fun i => T (fixed + i * 2 ^ (v + 1))) (v + 1) ns).2
    refine ih (v + 1) (fixed + 2 ^ v) h3 s3 _ g _ inv3 lg3 gK gs3 ht (by omega) (by omega) (by omega) ?_
    intro s4 h4 inv4 lg4 gs4
    refine ⟨_, rfl, ?_⟩
    simp only at hmk
    generalize mkD n (fun i => T (fixed + i * 2 ^ (v + 1))) (v + 1) ns = r1 at *
    generalize mkD n (fun i => T ((fixed + 2 ^ v) + i * 2 ^ (v + 1))) (v + 1) r1.2 = r2 at *
    refine bsplit_of (fun e => ?_) (fun e => ?_)
    · have e' : r1.1 = r2.1 := by simp at e; omega
      rw [if_pos e'] at hmk
      rw [hmk] at k
      rw [e']
      exact k s4 h4 inv4 lg4 gs4
    have e' : ¬ r1.1 = r2.1 := by simp at e; omega
    rw [if_neg e'] at hmk
    rw [hmk] at k
    have hnlen : r2.2.length ≤ 1048576 := by omega
    intro b5 hb5
    have nK := fresh_ne hb5 inv4.row
    have l5 := le_row [I v, I r1.1, I r2.1] 3 hb5
    have hlen4 := inv4.len
    have hsl : SlC h4 s4 3 (ndCells r2.2) := inv4.buf.slc (by omega)
    refine ⟨by omega, ?_⟩
    refine loop_up r2.2.length (fun i vs h' => vs = [.pointer (some ⟨K, 0, none⟩), .pointer (some ⟨b5, 0, none⟩), I i] ∧ h' = h4.row b5 [I v, I r1.1, I r2.1] 3 ∧ ∀ j (hj : j < r2.2.length), j < i → r2.2[j] ≠ ⟨v, r1.1, r2.1⟩) ⟨rfl, rfl, fun j _ h => by omega⟩ ?_
    rintro i _ _ next hi ⟨rfl, rfl, hp⟩ hn
    refine ⟨_, _, _, _, rfl, ?_⟩
    simp only [vm, mm, nK, ne_eq, not_false_eq_true, cell_of inv4.row]
    by_cases hlt : i < r2.2.length
    · obtain ⟨c, o, ha, c0, c1, c2⟩ := nd_at (hsl.mono l5) hlt
      refine bs_t (by simp [hlen4, hlt]) ?_
      simp only [vm, mm, nK, ne_eq, not_false_eq_true, cell_of inv4.row, hlen4, ha, c0, c1, c2]
      refine ⟨by omega, bsplit_of (fun e => ?_) (fun e => ?_)⟩
      · have he : r2.2[i] = ⟨v, r1.1, r2.1⟩ := by
          have : r2.2[i].v = v ∧ r2.2[i].lo = r1.1 ∧ r2.2[i].hi = r2.1 := by simp at e; omega
          rcases hh : r2.2[i] with ⟨a, b, c⟩
          rw [hh] at this
          obtain ⟨rfl, rfl, rfl⟩ := this; rfl
        have hput : putNd ⟨v, r1.1, r2.1⟩ r2.2 = (i + 2, r2.2) := by
          have : r2.2.idxOf? ⟨v, r1.1, r2.1⟩ = some i := by
            simp only [List.idxOf?, List.findIdx?_eq_some_iff_getElem]
            refine ⟨hlt, by simp [he], fun j hj => ?_⟩
            have := hp j (by omega) hj
            simpa using this
          simp [putNd, this]
        rw [hput] at k
        have := k s4 _ (inv4.mono l5) (Hp.le_trans lg4 l5) gs4
        rw [W_id (by omega) (by omega)]
        exact this
      · rw [W_succ (by omega)]
        refine hn hlt _ _ ⟨rfl, rfl, fun j hj hji => ?_⟩
        by_cases hjx : j = i
        · subst hjx
          intro he
          rw [he] at e
          simp at e
        · exact hp j hj (by omega)
    · have : i = r2.2.length := by omega
      subst this
      have hput : putNd ⟨v, r1.1, r2.1⟩ r2.2 = (r2.2.length + 2, r2.2 ++ [⟨v, r1.1, r2.1⟩]) := by
        have : r2.2.idxOf? ⟨v, r1.1, r2.1⟩ = none := by
          simp only [List.idxOf?, List.findIdx?_eq_none_iff]
          intro x hx
          obtain ⟨j, hj, rfl⟩ := List.getElem_of_mem hx
          have := hp j hj hj
          simpa using this
        simp [putNd, this]
      rw [hput] at k
      refine bs_f (by simp [hlen4]) ?_
      rintro b6 ⟨n65, hb6⟩
      have nK6 := fresh_ne hb6 inv4.row
      have l6 := le_row_of [I v, I r1.1, I r2.1] 3 (show (h4.row b5 [I v, I r1.1, I r2.1] 3) b6 = none by rw [row_none]; exact ⟨n65, hb6⟩) (Hp.le_refl _)
      have hH : h4.le ((h4.row b5 [I v, I r1.1, I r2.1] 3).row b6 [I v, I r1.1, I r2.1] 3) := Hp.le_trans l5 l6
      refine ⟨by rw [row_ne _ _ nK6, row_ne _ _ nK], ?_⟩
      refine aApp_buf ((inv4.buf.mono l5).mono l6) (by omega) (by omega) (by omega) ⟨b6, 0, rfl, cellsAre_of (row_self ..)⟩ (by simp) rfl ?_
      intro s7 h7 hn7 hb7 hl7 _
      obtain ⟨f7K, o7K⟩ := offS_keep hl7 (hH _ _ inv4.row) inv4.own
      simp only [vm, mm, f7K]
      refine ⟨by omega, ?_⟩
      have e7 : W ((s7.n : Int) + 1) = ((r2.2.length + 2 : Nat) : Int) := by rw [hn7, hlen4, W_id (by omega) (by omega)]; omega
      rw [e7]
      refine k s7 _ ⟨row_self .., ?_, o7K⟩ ?_ ?_
      · rw [ndCells_append]
        refine ⟨hb7.1, hb7.2.1, hb7.2.2.imp id ?_⟩
        rintro ⟨c, hc, hcb⟩
        exact ⟨c, hc, by rw [row_ne _ _ (o7K _ hc)]; exact hcb⟩
      · intro c x hcx
        have hcB : c ≠ K := fun h => by rw [h, gK] at hcx; cases hcx
        rw [row_ne _ _ hcB]
        exact (offS_keep hl7 (hH _ _ (lg4 _ _ hcx)) (fun a ha hac => by rw [← hac, gs4 a ha] at hcx; cases hcx)).1
      · intro a ha
        cases hg7 : g a.block with
        | none => rfl
        | some x =>
          exact absurd rfl ((offS_keep hl7 (hH _ _ (lg4 _ _ hg7)) (fun a' ha' hac => by rw [← hac, gs4 a' ha'] at hg7; cases hg7)).2 a ha)


theorem l7Of_spec {h : Hp} {t : Sl} {n : Nat} {T : Nat → Bool} {R : Value → Hp → Prop} (hn : n ≤ 13) (ht : BoolT h t (2 ^ n) T)
    (k : ∀ s h', h.le h' → Own (h'.sub h) s 3 (ndCells (toldP n T).ns) → R (.tuple #[.agg #[I (toldP n T).v, Sl.v s, I (toldP n T).r], .bool (toldP n T).ok]) h') : c_spec_l7Of #[I n, t.v] h R := by
  apply R_spec_l7Of
  unfold F_spec_l7Of
  intro b4 hb4
  simp only [vm, mm]
  rintro b7 ⟨n74, hb7⟩
  have n47 := n74.symm
  have l4 := le_row [I 0, .slice none 0 0, I 0] 3 hb4
  have hg7 : (h.row b4 [I 0, .slice none 0 0, I 0] 3) b7 = none := by rw [row_none]; exact ⟨n74, hb7⟩
  have l7 := le_row [I n, t.v, .slice none 0 0] 3 hg7
  have h2 : 2 ^ n ≤ 8192 := by
    have := Nat.pow_le_pow_right (n := 2) (by omega) hn
    simpa using this
  have hml := mkD_len n T 0 []
  simp only [List.length_nil] at hml
  have hT : (fun i => T (0 + i * 2 ^ 0)) = T := by funext i; congr 1; omega
  refine make_spec (K := b7) (vars := n) (T := T) hn n 0 0 _ ⟨none, 0, 0⟩ [] (h.row b4 [I 0, .slice none 0 0, I 0] 3) _ ⟨row_self .., buf_nil _ _, fun a ha => by cases ha⟩ l7 hg7 (fun a ha => by cases ha) (ht.mono l4) (by omega) (by omega) (by simp; omega) ?_
  intro s' h' inv lg gs
  rw [hT] at inv ⊢
  have f4 := lg _ _ (row_self ..)
  have hsn := inv.len
  refine ⟨_, rfl, ?_⟩
  simp only [vm, mm, cell_of inv.row, f4, hsn]
  have hto : toldP n T = if 600 < (mkD n T 0 []).2.length then noBd else ⟨n, (mkD n T 0 []).2, (mkD n T 0 []).1, true⟩ := by
    unfold toldP toldD
    rw [if_pos (by omega), Int.toNat_natCast]
    split
    · rename_i h; split at h
      · rename_i h'; rw [if_pos h']
      · cases h
    · rename_i r h; split at h
      · cases h
      · rename_i h'; cases h; rw [if_neg h']
  rw [hto] at k
  refine bsplit_of (fun e => ?_) (fun e => ?_)
  · have e' : 600 < (mkD n T 0 []).2.length := by simp at e; omega
    rw [if_pos e'] at k
    exact ⟨by omega, k ⟨none, 0, 0⟩ _ (le_row_of _ _ hb4 (Hp.le_trans l4 lg)) (own_nil _ _)⟩
  · have e' : ¬ 600 < (mkD n T 0 []).2.length := by simp at e; omega
    rw [if_neg e'] at k
    refine ⟨by omega, k s' _ (le_row_of _ _ hb4 (Hp.le_trans l4 lg)) (Buf.own ⟨inv.buf.1, inv.buf.2.1, inv.buf.2.2.imp id ?_⟩ (by omega))⟩
    rintro ⟨c, hc, hcb⟩
    have hgc := gs _ hc
    rw [row_none] at hgc
    exact ⟨c, hc, by rw [sub_at hgc.2, row_ne _ _ hgc.1]; exact hcb⟩


/-- A list of lists that grows in a struct of one's own, its pieces lying in a heap that is kept. -/
structure GrownD (g h : Hp) (bw : Nat) (v : Int) (t : Sl) (xss : List (List Int)) : Prop where
  buf : ∃ ts : List Sl, Buf h t 1 (ts.map Sl.v) ∧ ts.length = xss.length ∧ ∀ (i : Nat) (h1 : i < ts.length) (h2 : i < xss.length), IntS g ts[i] xss[i]
  le : g.le (h.offS t)
  row : h bw = some (.inl ⟨[I v, t.v], 2, false⟩)
  new : g bw = none
  own : ∀ a, t.a = some a → a.block ≠ bw
theorem offS_some {h : Hp} {t : Sl} {c : Nat} {x : Blk} (e : (h.offS t) c = some x) : h c = some x ∧ ∀ a, t.a = some a → a.block ≠ c := by
  refine ⟨offS_le _ _ _ _ e, fun a ha hac => ?_⟩
  subst hac
  simp [Hp.offS, ha, Hp.off, Hp.set] at e
theorem GrownD.keep {g h : Hp} {bw : Nat} {v : Int} {t : Sl} {xss : List (List Int)} (e : GrownD g h bw v t xss) : g.le h := Hp.le_trans e.le (offS_le _ _)
theorem GrownD.len {g h : Hp} {bw : Nat} {v : Int} {t : Sl} {xss : List (List Int)} (e : GrownD g h bw v t xss) : t.n = xss.length := by
  obtain ⟨ts, hb, h1, _⟩ := e.buf
  have := hb.1; simp at this; omega
theorem GrownD.blk {g h : Hp} {bw : Nat} {v : Int} {t : Sl} {xss : List (List Int)} (e : GrownD g h bw v t xss) : ∀ a, t.a = some a → ∃ ts : List Sl, ∃ z, h a.block = some (.inl ⟨ts.map Sl.v, z, false⟩) := by
  intro a ha
  obtain ⟨ts, hb, _, _⟩ := e.buf
  rcases hb.2.2 with ⟨h0, _⟩ | ⟨b, hb1, hb2⟩
  · rw [h0] at ha; cases ha
  · rw [hb1] at ha; cases ha; exact ⟨ts, _, hb2⟩
/-- What is kept may be seen anew. -/
theorem GrownD.to {g h g' h' : Hp} {bw : Nat} {v v' : Int} {t : Sl} {xss : List (List Int)} (e : GrownD g h bw v t xss) (l : g.le g') (l' : g'.le (h'.offS t)) (hr : h' bw = some (.inl ⟨[I v', t.v], 2, false⟩))
    (hbuf : ∀ a, t.a = some a → h' a.block = h a.block) (hn : g' bw = none) : GrownD g' h' bw v' t xss := by
  obtain ⟨ts, hb, h1, h2⟩ := e.buf
  refine ⟨⟨ts, ⟨hb.1, hb.2.1, hb.2.2.imp id ?_⟩, h1, fun i a b => (h2 i a b).mono l⟩, l', hr, hn, e.own⟩
  rintro ⟨b, hb1, hb2⟩
  exact ⟨b, hb1, (hbuf _ hb1).trans hb2⟩
/-- A new row besides. -/
theorem GrownD.lit {g h : Hp} {bw b n : Nat} {v : Int} {t : Sl} {xss : List (List Int)} {cs : List Value} (e : GrownD g h bw v t xss) (hb : h b = none) : GrownD (g.row b cs n) (h.row b cs n) bw v t xss := by
  have gb : g b = none := none_of_le e.keep hb
  have nb := fresh_ne hb e.row
  have nt : ∀ a, t.a = some a → a.block ≠ b := fun a ha => by
    obtain ⟨ts, z, hx⟩ := e.blk a ha
    exact fresh_ne hb hx
  refine e.to (le_row _ _ gb) ?_ (by rw [row_ne _ _ nb]; exact e.row) (fun a ha => row_ne _ _ (nt a ha)) (by rw [row_ne _ _ nb]; exact e.new)
  intro c x hc
  by_cases h' : c = b
  · subst h'
    rw [offS_at nt, row_self]; rw [row_self] at hc; exact hc
  · rw [row_ne _ _ h'] at hc
    obtain ⟨h1, h2⟩ := offS_some (e.le _ _ hc)
    rw [offS_at h2, row_ne _ _ h']; exact h1
theorem GrownD.app {g h : Hp} {bw b : Nat} {v : Int} {t u : Sl} {xss : List (List Int)} {x : List Int} {K : Option Addr → Nat → Nat → Hp → Prop} (e : GrownD g h bw v t xss) (hl : xss.length ≤ 1048576) (hu : IntS g u x) (hb : h b = none)
    (k : ∀ (t' : Sl) (h' : Hp), h' bw = some (.inl ⟨[I v, t.v], 2, false⟩) → (h.offS t).le (h'.offS t') → GrownD g (h'.row bw [I v, t'.v] 2) bw v t' (xss ++ [x]) → K t'.a t'.n t'.c h') :
    aApp (h.row b [u.v] 1) t.a t.n t.c (some ⟨b, 0, none⟩) 1 1 24 K := by
  have l := le_row [u.v] 1 hb
  have hn := e.len
  obtain ⟨ts, hbuf, h1, h2⟩ := e.buf
  refine aApp_buf (hbuf.mono l) (by omega) (by omega) (by omega) ⟨b, 0, rfl, fun i v hi => ?_⟩ (news := [u.v]) rfl rfl ?_
  · cases i with
    | zero => simp at hi; subst hi; exact cell_row _ _ _ _ _
    | succ i => simp at hi
  intro t' h' hn' hb' hle _
  have hle' : (h.offS t).le (h'.offS t') := Hp.le_trans (offS_mono t l) hle
  obtain ⟨f, o⟩ := offS_keep hle' e.row e.own
  refine k t' h' f hle' ⟨⟨ts ++ [u], ?_, by simp [h1], ?_⟩, ?_, row_self .., e.new, o⟩
  · rw [List.map_append]
    refine ⟨hb'.1, hb'.2.1, hb'.2.2.imp id ?_⟩
    rintro ⟨c, hc, hcb⟩
    exact ⟨c, hc, by rw [row_ne _ _ (o _ hc)]; exact hcb⟩
  · intro i a c
    by_cases hi : i < ts.length
    · rw [List.getElem_append_left hi, List.getElem_append_left (by omega)]; exact h2 i hi (by omega)
    · have : i = ts.length := by simp at a; omega
      subst this
      simp only [List.getElem_append_right (Nat.le_refl _), Nat.sub_self, List.getElem_cons_zero]
      simp only [h1, List.getElem_append_right (Nat.le_refl _), Nat.sub_self, List.getElem_cons_zero]
      exact hu
  · intro c x hc
    obtain ⟨h3, h4⟩ := offS_some (hle' _ _ (e.le _ _ hc))
    have hcb : c ≠ bw := fun hh => by rw [hh, e.new] at hc; cases hc
    rw [offS_at h4, row_ne _ _ hcb]; exact h3

structure Rd (h : Hp) (B : Nat) (s : Sl) (bs : List Nat) (p : Nat) : Prop where
  row : h B = some (.inl ⟨[s.v, I p], 2, false⟩)
  byt : ByteS (h.off B) s bs
theorem Rd.next {h : Hp} {B : Nat} {s : Sl} {bs : List Nat} {p : Nat} (e : Rd h B s bs p) (q : Nat) : Rd (h.row B [s.v, I q] 2) B s bs q := ⟨row_self .., by rw [off_row]; exact e.byt⟩
theorem Rd.to {h h' : Hp} {B : Nat} {s : Sl} {bs : List Nat} {p : Nat} (e : Rd h B s bs p) (l : h.le h') : Rd h' B s bs p := ⟨l _ _ e.row, e.byt.mono (off_mono _ l)⟩


theorem Grown.appK {h h' : Hp} {t : Sl} {set : List Int} {x : Int} {b : Nat} {K : Option Addr → Nat → Nat → Hp → Prop} (e : Grown h h' t set) (hl : set.length ≤ 1048576) (hb : h' b = none)
    (k : ∀ (t' : Sl) (h'' : Hp), (h'.offS t).le (h''.offS t') → Grown h h'' t' (set ++ [x]) → K t'.a t'.n t'.c h'') : aApp (h'.row b [I x] 1) t.a t.n t.c (some ⟨b, 0, none⟩) 1 1 8 K := by
  have l := le_row [I x] 1 hb
  exact aApp_int (e.buf.mono l) hl (cell_row _ _ _ _ _) fun t' h'' hb' hl' => k t' h'' (Hp.le_trans (offS_mono t l) hl') ⟨hb', Hp.le_trans (Hp.le_trans e.le (offS_mono t l)) hl'⟩
theorem Grown.neB {g h : Hp} {o s : Sl} {xs : List Int} (e : Grown g h o xs) {B p n : Nat} (hB : h B = some (.inl ⟨[s.v, I p], n, false⟩)) : ∀ a, o.a = some a → a.block ≠ B := by
  intro a ha
  rcases e.buf.2.2 with ⟨h0, _⟩ | ⟨b, hb1, hb2⟩
  · rw [h0] at ha; cases ha
  · rw [hb1] at ha; cases ha
    refine ne_of_blk hb2 hB ?_
    intro h
    simp only [Sum.inl.injEq, Row.mk.injEq] at h
    rcases xs with _ | ⟨x, r⟩
    · simp at h
    · simp [Sl.v] at h
theorem GrownD.neB {g h : Hp} {bw : Nat} {v : Int} {t s : Sl} {xss : List (List Int)} (e : GrownD g h bw v t xss) {B p n : Nat} (hB : h B = some (.inl ⟨[s.v, I p], n, false⟩)) : ∀ a, t.a = some a → a.block ≠ B := by
  intro a ha
  obtain ⟨ts, z, hx⟩ := e.blk a ha
  refine ne_of_blk hx hB ?_
  intro h
  simp only [Sum.inl.injEq, Row.mk.injEq] at h
  rcases ts with _ | ⟨t1, _ | ⟨t2, r⟩⟩
  · simp at h
  · simp at h
  · simp [Sl.v] at h
theorem GrownD.ne3 {g h : Hp} {bw : Nat} {v : Int} {t : Sl} {xss : List (List Int)} (e : GrownD g h bw v t xss) {B n : Nat} {x : Int} {y : List Value} (hB : h B = some (.inl ⟨I x :: y, n, false⟩)) : ∀ a, t.a = some a → a.block ≠ B := by
  intro a ha
  obtain ⟨ts, z, hx⟩ := e.blk a ha
  refine ne_of_blk hx hB ?_
  intro h
  simp only [Sum.inl.injEq, Row.mk.injEq] at h
  rcases ts with _ | ⟨t1, r⟩
  · simp at h
  · simp [Sl.v] at h
theorem offS_of {h : Hp} {t : Sl} {c : Nat} {x : Blk} (e : h c = some x) (d : ∀ a, t.a = some a → a.block ≠ c) : (h.offS t) c = some x := by rw [offS_at d]; exact e

/-- Clauses under way. -/
structure CS (h0 : Hp) (B b3 b9 : Nat) (s : Sl) (c : Nat) (h : Hp) (v : Int) (t : Sl) (cls : List (List Int)) : Prop where
  rd : ∃ q, q ≤ c ∧ h B = some (.inl ⟨[s.v, I (q : Nat)], 2, false⟩)
  r3 : h b3 = some (.inl ⟨[I 0, .slice none 0 0], 2, false⟩)
  n39 : b3 ≠ b9
  fr : (h0.off B).le (h.offS t)
  fr9 : h0 b9 = none
  fr3 : h0 b3 = none
  gr : ∃ g : Hp, (∀ c x, g c = some x → h0 c = none ∧ c ≠ b3) ∧ GrownD g h b9 v t cls
section
variable {h0 h : Hp} {B b3 b9 c p0 : Nat} {s t : Sl} {v : Int} {cls : List (List Int)} {bs : List Nat}
theorem CS.row (e : CS h0 B b3 b9 s c h v t cls) : h b9 = some (.inl ⟨[I v, t.v], 2, false⟩) := by obtain ⟨g, _, hg⟩ := e.gr; exact hg.row
theorem CS.frame (e : CS h0 B b3 b9 s c h v t cls) : (h0.off B).le h := Hp.le_trans e.fr (offS_le _ _)
theorem CS.nB9 (e : CS h0 B b3 b9 s c h v t cls) : b9 ≠ B := by
  obtain ⟨q, _, hq⟩ := e.rd
  exact ne_of_blk e.row hq (by intro h; simp [Sl.v] at h)
theorem CS.nB3 (e : CS h0 B b3 b9 s c h v t cls) : b3 ≠ B := by
  obtain ⟨q, _, hq⟩ := e.rd
  exact ne_of_blk e.r3 hq (by intro h; simp [Sl.v] at h)
theorem CS.app (e : CS h0 B b3 b9 s c h v t cls) (hB : ∃ x, h0 B = some x) {h2 : Hp} {o : Sl} {xs : List Int} {q2 c2 b : Nat} {K : Option Addr → Nat → Nat → Hp → Prop} (hl : cls.length ≤ 1048576) (hx : xs.length ≤ 1048576)
    (hgr : Grown (h.off B) h2 o xs) (hr2 : h2 B = some (.inl ⟨[s.v, I (q2 : Nat)], 2, false⟩)) (hq2 : q2 ≤ c2) (hb : h2 b = none)
    (k : ∀ (t' : Sl) (h3 : Hp), h3 b9 = some (.inl ⟨[I v, t.v], 2, false⟩) → CS h0 B b3 b9 s c2 (h3.row b9 [I v, t'.v] 2) v t' (cls ++ [xs]) → K t'.a t'.n t'.c h3) :
    aApp (h2.row b [o.v] 1) t.a t.n t.c (some ⟨b, 0, none⟩) 1 1 24 K := by
  obtain ⟨g, hg, gr⟩ := e.gr
  obtain ⟨q, hq, hr⟩ := e.rd
  have base : ∀ c x, h c = some x → c ≠ B → h2 c = some x ∧ ∀ a, o.a = some a → a.block ≠ c := by
    intro c x hc hcB
    exact offS_some (hgr.le c x (by rw [Hp.off, Hp.set_ne _ _ hcB]; exact hc))
  have r9 := base _ _ gr.row e.nB9
  have r3 := base _ _ e.r3 e.nB3
  have tB := gr.neB hr
  have oB := hgr.neB hr2
  have t3 := gr.ne3 e.r3
  have tblk : ∀ a, t.a = some a → h2 a.block = h a.block ∧ ∀ a', o.a = some a' → a'.block ≠ a.block := by
    intro a ha
    obtain ⟨ts, z, hx⟩ := gr.blk a ha
    obtain ⟨h1, h2⟩ := base _ _ hx (tB a ha)
    exact ⟨h1.trans hx.symm, h2⟩
  -- what is kept
  have hg' : ∀ c x, ((h2.sub h0).wo ([b9, b3] ++ t.blk)) c = some x → h2 c = some x ∧ h0 c = none ∧ c ≠ b3 ∧ c ≠ b9 ∧ ∀ a, t.a = some a → a.block ≠ c := by
    intro c x hc
    have hm : c ∉ [b9, b3] ++ t.blk := fun hm => by rw [wo_none hm] at hc; cases hc
    rw [wo_at hm] at hc
    have h1 : h0 c = none := sub_some_none (by rw [hc]; simp)
    rw [sub_at h1] at hc
    simp only [List.cons_append, List.nil_append, List.mem_cons, not_or] at hm
    exact ⟨hc, h1, hm.2.1, hm.1, fun a ha hac => hm.2.2 (by unfold Sl.blk; rw [ha]; simp [hac])⟩
  have hgi : ∀ c x, h2 c = some x → h0 c = none → c ≠ b3 → c ≠ b9 → (∀ a, t.a = some a → a.block ≠ c) → ((h2.sub h0).wo ([b9, b3] ++ t.blk)) c = some x := by
    intro c x h1 h2 h3 h4 h5
    rw [wo_at, sub_at h2]
    · exact h1
    · simp only [List.cons_append, List.nil_append, List.mem_cons, not_or]
      refine ⟨h4, h3, fun hm => ?_⟩
      unfold Sl.blk at hm
      split at hm
      · simp at hm
      · rename_i a ha; simp at hm; exact h5 a ha hm.symm
  have gr' : GrownD ((h2.sub h0).wo ([b9, b3] ++ t.blk)) h2 b9 v t cls := by
    refine gr.to ?_ ?_ r9.1 (fun a ha => (tblk a ha).1) (wo_none (by simp))
    · intro c x hc
      obtain ⟨g1, g2⟩ := offS_some (gr.le _ _ hc)
      have hn := hg _ _ hc
      have hcB : c ≠ B := fun hh => by obtain ⟨y, hy⟩ := hB; rw [hh, hy] at hn; cases hn.1
      exact hgi c x (base c x g1 hcB).1 hn.1 hn.2 (fun hh => by rw [hh, gr.new] at hc; cases hc) g2
    · intro c x hc
      obtain ⟨g1, g2, g3, g4, g5⟩ := hg' c x hc
      exact offS_of g1 g5
  have hu : IntS ((h2.sub h0).wo ([b9, b3] ++ t.blk)) o xs := by
    refine IBuf.ints ⟨hgr.buf.1, hgr.buf.2.1, hgr.buf.2.2.imp id ?_⟩ hx
    rintro ⟨d, hd, hdb⟩
    refine ⟨d, hd, hgi _ _ hdb ?_ ?_ ?_ ?_⟩
    · cases hx : h0 d with
      | none => rfl
      | some x =>
        have hdB : d ≠ B := oB _ hd
        have := e.frame d x (by rw [Hp.off, Hp.set_ne _ _ hdB]; exact hx)
        exact absurd rfl ((base d x this hdB).2 _ hd)
    · exact r3.2 _ hd
    · exact r9.2 _ hd
    · intro a ha hab
      exact (tblk a ha).2 _ hd hab.symm
  refine gr'.app hl hu hb fun t' h3 f9 hk hgd => k t' h3 f9 ?_
  have kp : ∀ c x, h2 c = some x → (∀ a, t.a = some a → a.block ≠ c) → h3 c = some x ∧ ∀ a, t'.a = some a → a.block ≠ c := by
    intro c x h1 h2
    exact offS_some (hk _ _ (offS_of h1 h2))
  have n9 : ∀ a, t.a = some a → a.block ≠ b9 := gr.own
  refine ⟨⟨q2, hq2, by rw [row_ne _ _ e.nB9.symm]; exact (kp _ _ hr2 tB).1⟩, by rw [row_ne _ _ e.n39]; exact (kp _ _ r3.1 t3).1, e.n39, ?_, e.fr9, e.fr3, _, fun c x hc => ⟨(hg' c x hc).2.1, (hg' c x hc).2.2.1⟩, hgd⟩
  intro c x hc
  have hcB : c ≠ B := fun hh => by rw [hh, off_at] at hc; cases hc
  have hc9 : c ≠ b9 := fun hh => by rw [hh, Hp.off, Hp.set_ne _ _ e.nB9, e.fr9] at hc; cases hc
  obtain ⟨g1, g2⟩ := offS_some (e.fr _ _ hc)
  obtain ⟨g3, g4⟩ := kp _ _ (base c x g1 hcB).1 g2
  rw [offS_at g4, row_ne _ _ hc9]; exact g3
theorem CS.lit (e : CS h0 B b3 b9 s c h v t cls) {b n : Nat} {cs : List Value} (hb : h b = none) : CS h0 B b3 b9 s c (h.row b cs n) v t cls := by
  obtain ⟨g, hg, gr⟩ := e.gr
  obtain ⟨q, hq, hr⟩ := e.rd
  have tb : ∀ {c x}, (h.offS t) c = some x → ((h.row b cs n).offS t) c = some x := by
    intro c x hc
    obtain ⟨h1, h2⟩ := offS_some hc
    rw [offS_at h2, row_ne _ _ (fresh_ne hb h1)]; exact h1
  exact ⟨⟨q, hq, by rw [row_ne _ _ (fresh_ne hb hr)]; exact hr⟩, by rw [row_ne _ _ (fresh_ne hb e.r3)]; exact e.r3, e.n39, fun c x hc => tb (e.fr _ _ hc), e.fr9, e.fr3, g, hg,
    gr.to (Hp.le_refl _) (fun c x hc => tb (gr.le _ _ hc)) (by rw [row_ne _ _ (fresh_ne hb gr.row)]; exact gr.row) (fun a ha => by
      obtain ⟨ts, z, hx⟩ := gr.blk a ha
      exact row_ne _ _ (fresh_ne hb hx)) gr.new⟩
end


theorem GrownSS.up {h h' h'' : Hp} {t : Sl} {xss : List (List Int)} (e : GrownSS h h' t xss) (l : h'.le h'') : GrownSS h h'' t xss := by
  obtain ⟨ts, h1, h2, h3⟩ := e.buf
  exact ⟨⟨ts, h1.mono l, h2, h3⟩, Hp.le_trans e.le (offS_mono t l)⟩

/-- The shape of a proof. -/
def shapeB (v : Int) (cls p : List (List Int)) : Bool := CnfOkB v cls && (decide (p.length ≤ 300) && p.all (ClauseOk v))
theorem shapeB.iff {v : Int} {cls p : List (List Int)} : shapeB v cls p = true ↔ CnfOkB v cls = true ∧ p.length ≤ 300 ∧ ∀ l ∈ p, ClauseOk v l = true := by
  simp [shapeB, List.all_eq_true]


theorem GrownSS.len {g h : Hp} {o : Sl} {out : List (List Int)} (e : GrownSS g h o out) : o.n = out.length := by
  obtain ⟨ts, hb, h1, _⟩ := e.buf
  have := hb.1; simp at this; omega
theorem GrownSS.base {g g2 h : Hp} {o : Sl} {out : List (List Int)} (e : GrownSS g h o out) (l : g.le g2) (l2 : g2.le (h.offS o)) : GrownSS g2 h o out := by
  obtain ⟨ts, h1, h2, h3⟩ := e.buf
  exact ⟨⟨ts, h1, h2, fun i a b => (h3 i a b).mono l⟩, l2⟩
theorem GrownSS.blk {g h : Hp} {o : Sl} {out : List (List Int)} (e : GrownSS g h o out) : ∀ a, o.a = some a → ∃ x, h a.block = some x := by
  intro a ha
  obtain ⟨ts, hb, _, _⟩ := e.buf
  rcases hb.2.2 with ⟨h0, _⟩ | ⟨b, hb1, hb2⟩
  · rw [h0] at ha; cases ha
  · rw [hb1] at ha; cases ha; exact ⟨_, hb2⟩
/-- A list that grew after another is apart from it. -/
theorem Grown.apart {h2 h3 : Hp} {u o : Sl} {xs : List Int} (hg : Grown h2 h3 u xs) (ho : ∀ a, o.a = some a → ∃ x, h2 a.block = some x) : ∀ a a', u.a = some a → o.a = some a' → a.block ≠ a'.block := by
  intro a a' ha ha'
  obtain ⟨x, hx⟩ := ho a' ha'
  exact (offS_some (hg.le _ _ hx)).2 a ha
theorem Grown.offS {h2 h3 : Hp} {u o : Sl} {xs : List Int} (hg : Grown h2 h3 u xs) (ho : ∀ a, o.a = some a → ∃ x, h2 a.block = some x) : IBuf (h3.offS o) u xs := by
  refine ⟨hg.buf.1, hg.buf.2.1, hg.buf.2.2.imp id ?_⟩
  rintro ⟨b, hb1, hb2⟩
  exact ⟨b, hb1, offS_of hb2 fun a ha => (hg.apart ho _ a hb1 ha).symm⟩

theorem GrownSS.appK {g h : Hp} {t u : Sl} {xss : List (List Int)} {x : List Int} {b : Nat} {K : Option Addr → Nat → Nat → Hp → Prop} (e : GrownSS g h t xss) (hl : xss.length ≤ 1048576) (hu : IntS g u x) (hb : h b = none)
    (k : ∀ (t' : Sl) (h'' : Hp), (h.offS t).le (h''.offS t') → GrownSS g h'' t' (xss ++ [x]) → K t'.a t'.n t'.c h'') : aApp (h.row b [u.v] 1) t.a t.n t.c (some ⟨b, 0, none⟩) 1 1 24 K := by
  have l := le_row [u.v] 1 hb
  have hn := e.len
  obtain ⟨ts, hbuf, h1, h2⟩ := e.buf
  refine aApp_buf (hbuf.mono l) (by omega) (by omega) (by omega) ⟨b, 0, rfl, fun i v hi => ?_⟩ (news := [u.v]) rfl rfl ?_
  · cases i with
    | zero => simp at hi; subst hi; exact cell_row _ _ _ _ _
    | succ i => simp at hi
  · intro t' h'' hn' hb' hle _
    have hle' : (h.offS t).le (h''.offS t') := Hp.le_trans (offS_mono t l) hle
    refine k t' h'' hle' ⟨⟨ts ++ [u], by rw [List.map_append]; exact hb', by simp [h1], ?_⟩, Hp.le_trans e.le hle'⟩
    intro i a c
    by_cases hi : i < ts.length
    · rw [List.getElem_append_left hi, List.getElem_append_left (by omega)]; exact h2 i hi (by omega)
    · have : i = ts.length := by simp at a; omega
      subst this
      simp only [List.getElem_append_right (Nat.le_refl _), Nat.sub_self, List.getElem_cons_zero]
      simp only [h1, List.getElem_append_right (Nat.le_refl _), Nat.sub_self, List.getElem_cons_zero]
      exact hu
theorem GrownSS.neB {g h : Hp} {t s : Sl} {xss : List (List Int)} (e : GrownSS g h t xss) {B p n : Nat} (hB : h B = some (.inl ⟨[s.v, I p], n, false⟩)) : ∀ a, t.a = some a → a.block ≠ B := by
  intro a ha
  obtain ⟨ts, hb, _, _⟩ := e.buf
  rcases hb.2.2 with ⟨h0, _⟩ | ⟨c, hc, hcb⟩
  · rw [h0] at ha; cases ha
  · rw [hc] at ha; cases ha
    refine ne_of_blk hcb hB ?_
    intro h
    simp only [Sum.inl.injEq, Row.mk.injEq] at h
    rcases ts with _ | ⟨t1, _ | ⟨t2, r⟩⟩
    · simp at h
    · simp at h
    · simp [Sl.v] at h

/-- A proof under way, the reader beside it. -/
structure PS (h : Hp) (B : Nat) (s : Sl) (c : Nat) (g h' : Hp) (t : Sl) (res : List (List Int)) : Prop where
  rd : ∃ q, q ≤ c ∧ h' B = some (.inl ⟨[s.v, I (q : Nat)], 2, false⟩)
  gr : GrownSS g h' t res
  new : ∀ c x, g c = some x → h c = none
  fr : (h.off B).le (h'.offS t)
section
variable {h g h' : Hp} {B c : Nat} {s t : Sl} {res : List (List Int)} {bs : List Nat}
theorem PS.frame (e : PS h B s c g h' t res) : (h.off B).le h' := Hp.le_trans e.fr (offS_le _ _)
theorem PS.lit (e : PS h B s c g h' t res) (hB : ∃ x, h B = some x) {b n : Nat} {cs : List Value} (hb : h' b = none) : PS h B s c (g.row b cs n) (h'.row b cs n) t res := by
  obtain ⟨q, hq, hr⟩ := e.rd
  have nB := fresh_ne hb hr
  have hb0 : h b = none := by
    cases hx : h b with
    | none => rfl
    | some x =>
      have := e.frame b x (by rw [Hp.off, Hp.set_ne _ _ nB.symm]; exact hx)
      rw [hb] at this; cases this
  have tb : ∀ a, t.a = some a → a.block ≠ b := fun a ha => by
    obtain ⟨x, hx⟩ := e.gr.blk a ha
    exact fresh_ne hb hx
  have key : ∀ c x, c ≠ b → (h'.offS t) c = some x → ((h'.row b cs n).offS t) c = some x := by
    intro c x hcB hc
    obtain ⟨h1, h2⟩ := offS_some hc
    rw [offS_at h2, row_ne _ _ hcB]; exact h1
  have gb : g b = none := none_of_le e.gr.keep hb
  refine ⟨⟨q, hq, by rw [row_ne _ _ nB]; exact hr⟩, (e.gr.up (le_row cs n hb)).base (le_row _ _ gb) ?_, ?_, fun c x hc => key c x (fun hh => by rw [hh, Hp.off, Hp.set_ne _ _ nB.symm, hb0] at hc; cases hc) (e.fr _ _ hc)⟩
  · intro c x hc
    by_cases hcb : c = b
    · subst hcb
      rw [row_self] at hc
      rw [offS_at tb, row_self]; exact hc
    · rw [row_ne _ _ hcb] at hc
      exact key c x hcb (e.gr.le _ _ hc)
  · intro c x hc
    by_cases hcb : c = b
    · subst hcb; exact hb0
    · rw [row_ne _ _ hcb] at hc; exact e.new _ _ hc
theorem PS.app {u : Sl} {x : List Int} {b : Nat} {K : Option Addr → Nat → Nat → Hp → Prop} (e : PS h B s c g h' t res) (hl : res.length ≤ 1048576) (hu : IntS g u x) (hb : h' b = none)
    (k : ∀ (t' : Sl) (h'' : Hp), PS h B s c g h'' t' (res ++ [x]) → K t'.a t'.n t'.c h'') : aApp (h'.row b [u.v] 1) t.a t.n t.c (some ⟨b, 0, none⟩) 1 1 24 K := by
  obtain ⟨q, hq, hr⟩ := e.rd
  exact e.gr.appK hl hu hb fun t' h'' hk gr => k t' h'' ⟨⟨q, hq, (offS_some (hk _ _ (offS_of hr (e.gr.neB hr)))).1⟩, gr, e.new, Hp.le_trans e.fr hk⟩
/-- One piece put in another's place. -/
theorem PS.put {u : Sl} {x : List Int} {i : Nat} (e : PS h B s c g h' t res) (hi : i < res.length) (hu : IntS g u x) : ∃ b cs z, t.a = some ⟨b, 0, none⟩ ∧ h' b = some (.inl ⟨cs, z, false⟩) ∧ cs.length = res.length ∧
    PS h B s c g (h'.row b (cs.set i u.v) z) t (res.set i x) := by
  obtain ⟨q, hq, hr⟩ := e.rd
  have hn := e.gr.len
  have tB := e.gr.neB hr
  obtain ⟨ts, hb, h1, h2⟩ := e.gr.buf
  rcases hb.2.2 with ⟨_, h0, _⟩ | ⟨b, hb1, hb2⟩
  · omega
  refine ⟨b, _, _, hb1, hb2, by simp [h1], ⟨q, hq, by rw [row_ne _ _ (tB _ hb1).symm]; exact hr⟩, ⟨⟨ts.set i u, ⟨by simp; have := hb.1; simp at this; omega, hb.2.1, .inr ⟨b, hb1, ?_⟩⟩, by simp [h1], ?_⟩, ?_⟩, e.new, ?_⟩
  · rw [row_self, List.map_set]
  · intro j a b
    rw [List.getElem_set, List.getElem_set]
    split
    · exact hu
    · exact h2 j (by simpa using a) (by simpa using b)
  · intro c x hc
    obtain ⟨g1, g2⟩ := offS_some (e.gr.le _ _ hc)
    rw [offS_at g2, row_ne _ _ (fun hh => g2 _ hb1 hh.symm)]; exact g1
  · intro c x hc
    obtain ⟨g1, g2⟩ := offS_some (e.fr _ _ hc)
    rw [offS_at g2, row_ne _ _ (fun hh => g2 _ hb1 hh.symm)]; exact g1
end


/-- The word that a number is. -/
def fromP (w : Nat) (n : Int) : Nat := (n % ((2 ^ w : Nat) : Int)).toNat
/-- A word as a number with a sign. -/
def sgn (w a : Nat) : Int := if 2 ^ (w - 1) ≤ a then (a : Int) - ((2 ^ w : Nat) : Int) else a
theorem pow_pos' (w : Nat) : 0 < 2 ^ w := Nat.pow_pos (by omega)
theorem fromP_lt (w : Nat) (n : Int) : fromP w n < 2 ^ w := by
  unfold fromP
  have h := Int.emod_lt_of_pos n (b := ((2 ^ w : Nat) : Int)) (Int.ofNat_lt.2 (pow_pos' w))
  have h0 := Int.emod_nonneg n (b := ((2 ^ w : Nat) : Int)) (by have := pow_pos' w; omega)
  omega
theorem fromP_nat (w a : Nat) : fromP w (a : Int) = a % 2 ^ w := by
  unfold fromP
  rw [← Int.natCast_emod, Int.toNat_natCast]
theorem fromP_cast (w : Nat) (n : Int) : ((fromP w n : Nat) : Int) = n % ((2 ^ w : Nat) : Int) := by
  unfold fromP
  have h0 := Int.emod_nonneg n (b := ((2 ^ w : Nat) : Int)) (by have := pow_pos' w; omega)
  omega
theorem pow_half {w : Nat} (h : 1 ≤ w) : 2 ^ w = 2 * 2 ^ (w - 1) := by
  obtain ⟨n, rfl⟩ : ∃ n, w = n + 1 := ⟨w - 1, by omega⟩
  rw [Nat.pow_succ, Nat.add_sub_cancel]; omega
theorem sgn_bound {w a : Nat} (h : 1 ≤ w) (ha : a < 2 ^ w) : -((2 ^ (w - 1) : Nat) : Int) ≤ sgn w a ∧ sgn w a < ((2 ^ (w - 1) : Nat) : Int) := by
  have := pow_half h
  unfold sgn; split <;> omega
/-- What a word with a sign is as a word. -/
theorem sgn_from {w : Nat} (h : 1 ≤ w) (n : Int) : sgn w (fromP w n) = n ↔ -((2 ^ (w - 1) : Nat) : Int) ≤ n ∧ n < ((2 ^ (w - 1) : Nat) : Int) := by
  have hp := pow_half h
  have hl := fromP_lt w n
  have hb := sgn_bound h hl
  constructor
  · intro e; rw [e] at hb; exact hb
  · rintro ⟨h1, h2⟩
    have hc := fromP_cast w n
    have h3 : n % ((2 ^ w : Nat) : Int) = if n < 0 then n + ((2 ^ w : Nat) : Int) else n := by
      split
      · rw [← Int.add_emod_right, Int.emod_eq_of_lt (by omega) (by omega)]
      · rw [Int.emod_eq_of_lt (by omega) (by omega)]
    rw [h3] at hc
    unfold sgn
    split at hc <;> split <;> omega
theorem codeOf_eq {w x : Nat} {f : Nat → Bool} (hx : x < 2 ^ w) (h : ∀ i, i < w → x.testBit i = f i) : codeOf w f = x := by
  apply Nat.eq_of_testBit_eq
  intro i
  by_cases hi : i < w
  · rw [codeOf_bit _ _ _ hi, h i hi]
  · rw [Nat.testBit_lt_two_pow (Nat.lt_of_lt_of_le (codeOf_lt w f) (Nat.pow_le_pow_right (by omega) (by omega))),
      Nat.testBit_lt_two_pow (Nat.lt_of_lt_of_le hx (Nat.pow_le_pow_right (by omega) (by omega)))]
theorem codeOf_ext {w : Nat} {f g : Nat → Bool} (h : ∀ i, i < w → f i = g i) : codeOf w f = codeOf w g := codeOf_eq (codeOf_lt _ _) fun i hi => by rw [codeOf_bit _ _ _ hi, h i hi]
theorem codeOf_set {w p : Nat} {f : Nat → Bool} (hp : p < w) (hf : f p = false) : codeOf w f + 2 ^ p = codeOf w (fun i => f i || decide (i = p)) := by
  induction w with
  | zero => omega
  | succ w ih =>
    simp only [codeOf]
    by_cases h : p = w
    · subst h
      have : codeOf p (fun i => f i || decide (i = p)) = codeOf p f := codeOf_ext fun i hi => by simp; omega
      rw [this]; simp [hf]
    · have := ih (by omega)
      have e : (f w || decide (w = p)) = f w := by simp; omega
      simp only [e]
      omega
/-- How many bits are 1. -/
def onesP : Nat → Nat → Nat
  | 0, _ => 0
  | w + 1, a => onesP w a + (if a.testBit w then 1 else 0)
theorem onesP_le (w a : Nat) : onesP w a ≤ w := by
  induction w with
  | zero => simp [onesP]
  | succ w ih => simp only [onesP]; split <;> omega
theorem onesP_full {w a : Nat} (ha : a < 2 ^ w) : onesP w a = w ↔ a = 2 ^ w - 1 := by
  have key : ∀ w, onesP w a = w ↔ ∀ i, i < w → a.testBit i = true := by
    intro w
    induction w with
    | zero => simp [onesP]
    | succ w ih =>
      have := onesP_le w a
      simp only [onesP]
      constructor
      · intro h i hi
        by_cases hw : a.testBit w = true
        · rw [if_pos hw] at h
          by_cases hiw : i = w
          · subst hiw; exact hw
          · exact ih.1 (by omega) i (by omega)
        · rw [if_neg hw] at h; omega
      · intro h
        rw [if_pos (h w (by omega)), ih.2 fun i hi => h i (by omega)]
  rw [key]
  constructor
  · intro h
    apply Nat.eq_of_testBit_eq
    intro i
    rw [Nat.testBit_two_pow_sub_one]
    by_cases hi : i < w
    · rw [h i hi]; simp [hi]
    · rw [Nat.testBit_lt_two_pow (Nat.lt_of_lt_of_le ha (Nat.pow_le_pow_right (by omega) (by omega)))]; simp [hi]
  · rintro rfl i hi
    rw [Nat.testBit_two_pow_sub_one]; simpa using hi

theorem each_and {w a b : Nat} (ha : a < 2 ^ w) : codeOf w (fun i => a.testBit i && b.testBit i) = a &&& b :=
  codeOf_eq (Nat.lt_of_le_of_lt Nat.and_le_left ha) fun i _ => by rw [Nat.testBit_and]
theorem each_or {w a b : Nat} (ha : a < 2 ^ w) (hb : b < 2 ^ w) : codeOf w (fun i => a.testBit i || b.testBit i) = a ||| b :=
  codeOf_eq (Nat.or_lt_two_pow ha hb) fun i _ => by rw [Nat.testBit_or]
theorem each_xor {w a b : Nat} (ha : a < 2 ^ w) (hb : b < 2 ^ w) : codeOf w (fun i => a.testBit i ^^ b.testBit i) = a ^^^ b :=
  codeOf_eq (Nat.xor_lt_two_pow ha hb) fun i _ => by rw [Nat.testBit_xor]

def shlP (w a b : Nat) : Nat := a * 2 ^ min b w % 2 ^ w
def shrP (w a b : Nat) : Nat := a / 2 ^ min b w
def sarP (w a b : Nat) : Nat := fromP w (sgn w a / ((2 ^ min b w : Nat) : Int))
theorem shl_bits {w a b : Nat} : codeOf w (fun i => decide (b ≤ i) && a.testBit (i - b)) = shlP w a b := by
  unfold shlP
  refine codeOf_eq (Nat.mod_lt _ (pow_pos' w)) fun i hi => ?_
  rw [Nat.testBit_mod_two_pow, Nat.mul_comm, Nat.testBit_two_pow_mul]
  have : decide (i < w) = true := by simpa using hi
  rw [this, Bool.true_and]
  by_cases h : b ≤ i
  · rw [Nat.min_eq_left (by omega)]
  · have h1 : decide (b ≤ i) = false := by simpa using h
    have h2 : decide (min b w ≤ i) = false := by simp; omega
    simp [h1, h2]
theorem shr_bits {w a b : Nat} (ha : a < 2 ^ w) : codeOf w (fun i => decide (i + b < w) && a.testBit (i + b)) = shrP w a b := by
  unfold shrP
  refine codeOf_eq (Nat.lt_of_le_of_lt (Nat.div_le_self _ _) ha) fun i hi => ?_
  rw [Nat.testBit_div_two_pow]
  by_cases h : i + b < w
  · rw [Nat.min_eq_left (by omega)]; simp [h]
  · have h1 : decide (i + b < w) = false := by simpa using h
    rw [h1, Bool.false_and]
    refine Nat.testBit_lt_two_pow (Nat.lt_of_lt_of_le ha (Nat.pow_le_pow_right (by omega) ?_))
    omega
theorem sar_bits {w a b : Nat} (hw : 1 ≤ w) (hw16 : w ≤ 16) (ha : a < 2 ^ w) : codeOf w (fun i => if i + b < w then a.testBit (i + b) else a.testBit (w - 1)) = sarP w a b := by
  have hp := pow_half hw
  have top : a.testBit (w - 1) = decide (2 ^ (w - 1) ≤ a) := by
    rw [Nat.testBit_eq_decide_div_mod_eq]
    by_cases h : 2 ^ (w - 1) ≤ a
    · have : a / 2 ^ (w - 1) = 1 := by
        rw [Nat.div_eq_iff (pow_pos' _)]; omega
      simp [this, h]
    · have : a / 2 ^ (w - 1) = 0 := Nat.div_eq_of_lt (by omega)
      simp [this, h]
  have hb : min b w ≤ w := Nat.min_le_right _ _
  have small : ∀ i, i < w → i + b < w → min b w = b := fun i _ h => Nat.min_eq_left (by omega)
  unfold sarP
  refine codeOf_eq (fromP_lt _ _) fun i hi => ?_
  by_cases hs : 2 ^ (w - 1) ≤ a
  · -- with the sign
    have e1 : sgn w a = (a : Int) - ((2 ^ w : Nat) : Int) := by unfold sgn; rw [if_pos hs]
    have e2 : fromP w (sgn w a / ((2 ^ min b w : Nat) : Int)) = ((a + 2 ^ w * (2 ^ 16 - 1)) / 2 ^ min b w) % 2 ^ w := by
      have h1 : sgn w a = ((a + 2 ^ w * (2 ^ 16 - 1) : Nat) : Int) - ((2 ^ min b w : Nat) : Int) * ((2 ^ (w + 16 - min b w) : Nat) : Int) := by
        have h2 : 2 ^ min b w * 2 ^ (w + 16 - min b w) = 2 ^ w * 2 ^ 16 := by rw [← Nat.pow_add, ← Nat.pow_add]; congr 1; omega
        rw [e1, ← Int.natCast_mul, h2]
        have : 2 ^ w * (2 ^ 16 - 1) + 2 ^ w = 2 ^ w * 2 ^ 16 := by rw [← Nat.mul_succ]
        omega
      have hpos : ((2 ^ min b w : Nat) : Int) ≠ 0 := by have := pow_pos' (min b w); omega
      have h3 : sgn w a / ((2 ^ min b w : Nat) : Int) = (((a + 2 ^ w * (2 ^ 16 - 1)) / 2 ^ min b w : Nat) : Int) - ((2 ^ w : Nat) : Int) * ((2 ^ (16 - min b w) : Nat) : Int) := by
        rw [h1, Int.sub_eq_add_neg, ← Int.mul_neg, Int.add_mul_ediv_left _ _ hpos, ← Int.natCast_ediv]
        have : 2 ^ (w + 16 - min b w) = 2 ^ w * 2 ^ (16 - min b w) := by rw [← Nat.pow_add]; congr 1; omega
        rw [this, Int.natCast_mul]; omega
      rw [h3]
      unfold fromP
      rw [Int.sub_mul_emod_self_left, ← Int.natCast_emod, Int.toNat_natCast]
    rw [e2, Nat.testBit_mod_two_pow, Nat.testBit_div_two_pow, Nat.add_comm a, Nat.testBit_two_pow_mul_add _ ha]
    have hd : decide (i < w) = true := by simpa using hi
    rw [hd, Bool.true_and]
    by_cases h : i + b < w
    · have hm := small i hi h
      rw [if_pos h, hm, if_pos (by omega)]
    · have hm : ¬ i + min b w < w := by omega
      rw [if_neg h, if_neg hm, Nat.testBit_two_pow_sub_one, top]
      simp only [hs, decide_true, decide_eq_true_eq]
      omega
  · have e1 : sgn w a = a := by unfold sgn; rw [if_neg hs]
    rw [e1, ← Int.natCast_ediv, fromP_nat, Nat.testBit_mod_two_pow, Nat.testBit_div_two_pow]
    have hd : decide (i < w) = true := by simpa using hi
    rw [hd, Bool.true_and]
    by_cases h : i + b < w
    · rw [if_pos h, small i hi h]
    · rw [if_neg h, top]
      have hm : ¬ i + min b w < w := by omega
      have : decide (2 ^ (w - 1) ≤ a) = false := by simpa using hs
      rw [this]
      exact Nat.testBit_lt_two_pow (Nat.lt_of_lt_of_le ha (Nat.pow_le_pow_right (by omega) (by omega)))

def rolP (w a k : Nat) : Nat := ((a * 2 ^ k) ||| (a / 2 ^ (w - k))) % 2 ^ w
theorem rol_bit {w a k i : Nat} (ha : a < 2 ^ w) (hk : k < w) (hi : i < w) : (rolP w a k).testBit i = a.testBit ((i + (w - k)) % w) := by
  unfold rolP
  rw [Nat.testBit_mod_two_pow, Nat.testBit_or, Nat.mul_comm, Nat.testBit_two_pow_mul, Nat.testBit_div_two_pow]
  have hd : decide (i < w) = true := by simpa using hi
  rw [hd, Bool.true_and]
  by_cases h : k ≤ i
  · have e : (i + (w - k)) % w = i - k := by
      have : i + (w - k) = (i - k) + w := by omega
      rw [this, Nat.add_mod_right, Nat.mod_eq_of_lt (by omega)]
    have z : a.testBit (i + (w - k)) = false := Nat.testBit_lt_two_pow (Nat.lt_of_lt_of_le ha (Nat.pow_le_pow_right (by omega) (by omega)))
    rw [e, z]; simp [h]
  · have e : (i + (w - k)) % w = i + (w - k) := Nat.mod_eq_of_lt (by omega)
    rw [e]
    have : decide (k ≤ i) = false := by simpa using h
    rw [this]; simp
theorem rol_code {w a k : Nat} (ha : a < 2 ^ w) (hk : k < w) : codeOf w (fun j => a.testBit ((j + (w - k)) % w)) = rolP w a k :=
  codeOf_eq (Nat.mod_lt _ (pow_pos' w)) fun i hi => rol_bit ha hk hi
/-- Bits turned round one by one. -/
theorem turn_step {w a k i : Nat} (hk : k < w) (hi : i < w) :
    codeOf w (fun j => decide ((j + (w - k)) % w < i) && a.testBit ((j + (w - k)) % w)) + (if a.testBit i then 2 ^ ((i + k) % w) else 0) =
      codeOf w (fun j => decide ((j + (w - k)) % w < i + 1) && a.testBit ((j + (w - k)) % w)) := by
  have hpw : (i + k) % w < w := Nat.mod_lt _ (by omega)
  have back : ((i + k) % w + (w - k)) % w = i := by
    rw [Nat.mod_add_mod]
    have : i + k + (w - k) = i + w := by omega
    rw [this, Nat.add_mod_right, Nat.mod_eq_of_lt hi]
  have inj : ∀ j, j < w → ((j + (w - k)) % w = i ↔ j = (i + k) % w) := by
    intro j hj
    constructor
    · intro h
      have : (j + (w - k) + k) % w = (i + k) % w := by rw [← h, Nat.mod_add_mod]
      rw [← this]
      have : j + (w - k) + k = j + w := by omega
      rw [this, Nat.add_mod_right, Nat.mod_eq_of_lt hj]
    · rintro rfl; exact back
  cases hb : a.testBit i with
  | false =>
    simp only [Bool.false_eq_true, if_false, Nat.add_zero]
    refine codeOf_ext fun j hj => ?_
    by_cases h : (j + (w - k)) % w = i
    · rw [h, hb]; simp
    · have : decide ((j + (w - k)) % w < i + 1) = decide ((j + (w - k)) % w < i) := by
        rw [decide_eq_decide]; omega
      rw [this]
  | true =>
    simp only [if_true]
    rw [codeOf_set hpw (by rw [back]; simp)]
    refine codeOf_ext fun j hj => ?_
    by_cases h : j = (i + k) % w
    · have h2 := (inj j hj).2 h
      rw [h2, hb]; simp [h]
    · have h2 : ¬ (j + (w - k)) % w = i := fun e => h ((inj j hj).1 e)
      have : decide ((j + (w - k)) % w < i + 1) = decide ((j + (w - k)) % w < i) := by
        rw [decide_eq_decide]; omega
      rw [this]; simp [h]


def oneP (kind : Int) (w a : Nat) : Nat × Nat :=
  if kind = 1 then (2 ^ w - 1 - a, w) else if kind = 2 then (fromP w (-(a : Int)), w) else if kind = 3 then (if a = 0 then 0 else 1, 1) else
  if kind = 4 then (if a = 2 ^ w - 1 then 1 else 0, 1) else (onesP w a % 2, 1)
def sdivP (w a b : Nat) : Nat := if sgn w b = 0 then (if sgn w a < 0 then 1 else 2 ^ w - 1) else fromP w (Int.tdiv (sgn w a) (sgn w b))
def sremP (w a b : Nat) : Nat := if sgn w b = 0 then a else fromP w (Int.tmod (sgn w a) (sgn w b))
def saysP (kind : Int) (w a b : Nat) : Bool :=
  if kind = 21 then decide (a = b) else if kind = 22 then decide (a < b) else if kind = 23 then decide (sgn w a < sgn w b) else
  if kind = 24 then decide (a ≤ b) else if kind = 25 then decide (sgn w a ≤ sgn w b) else if kind = 26 then decide (2 ^ w ≤ a + b) else
  if kind = 27 then !decide (-((2 ^ (w - 1) : Nat) : Int) ≤ sgn w a + sgn w b ∧ sgn w a + sgn w b < ((2 ^ (w - 1) : Nat) : Int)) else decide (2 ^ w ≤ a * b)
def calcP (kind : Int) (w a b : Nat) : Nat :=
  if kind = 6 then a &&& b else if kind = 7 then a ||| b else if kind = 8 then a ^^^ b else if kind = 9 then fromP w ((a : Int) + b) else
  if kind = 10 then fromP w ((a : Int) - b) else if kind = 11 then fromP w ((a : Int) * b) else if kind = 12 then (if b = 0 then 2 ^ w - 1 else a / b) else
  if kind = 13 then (if b = 0 then a else a % b) else if kind = 14 then sdivP w a b else if kind = 15 then sremP w a b else
  if kind = 16 then shlP w a b else if kind = 17 then shrP w a b else if kind = 18 then sarP w a b else if kind = 19 then rolP w a (b % w) else rolP w a ((w - b % w) % w)
def twoP (kind : Int) (w a b : Nat) : Nat × Nat := if kind ≤ 20 then (calcP kind w a b, w) else (if saysP kind w a b then 1 else 0, 1)

theorem oneP_lt {kind : Int} {w a : Nat} (hw : 1 ≤ w) (ha : a < 2 ^ w) : (oneP kind w a).1 < 2 ^ (oneP kind w a).2 := by
  have := pow_pos' w
  unfold oneP
  split
  · simp only; omega
  · split
    · exact fromP_lt _ _
    · split
      · simp only; split <;> omega
      · split
        · simp only; split <;> omega
        · simp only; omega
theorem rolP_lt (w a k : Nat) : rolP w a k < 2 ^ w := Nat.mod_lt _ (pow_pos' w)
theorem ite_lt {c : Prop} [Decidable c] {x y n : Nat} (hx : x < n) (hy : y < n) : (if c then x else y) < n := by
  by_cases h : c
  · rw [if_pos h]; exact hx
  · rw [if_neg h]; exact hy
theorem calcP_lt {kind : Int} {w a b : Nat} (hw : 1 ≤ w) (ha : a < 2 ^ w) (hb : b < 2 ^ w) : calcP kind w a b < 2 ^ w := by
  have hp := pow_pos' w
  have hp1 : 1 < 2 ^ w := by
    have := pow_half hw; have := pow_pos' (w - 1); omega
  unfold calcP
  refine ite_lt (Nat.lt_of_le_of_lt Nat.and_le_left ha) (ite_lt (Nat.or_lt_two_pow ha hb) (ite_lt (Nat.xor_lt_two_pow ha hb) (ite_lt (fromP_lt _ _) (ite_lt (fromP_lt _ _) (ite_lt (fromP_lt _ _)
    (ite_lt (ite_lt (by omega) (Nat.lt_of_le_of_lt (Nat.div_le_self _ _) ha)) (ite_lt (ite_lt ha (Nat.lt_of_le_of_lt (Nat.mod_le _ _) ha)) (ite_lt ?_ (ite_lt ?_ (ite_lt (Nat.mod_lt _ hp)
    (ite_lt (Nat.lt_of_le_of_lt (Nat.div_le_self _ _) ha) (ite_lt (fromP_lt _ _) (ite_lt (rolP_lt _ _ _) (rolP_lt _ _ _))))))))))))))
  · unfold sdivP
    exact ite_lt (ite_lt hp1 (by omega)) (fromP_lt _ _)
  · unfold sremP
    exact ite_lt ha (fromP_lt _ _)
theorem twoP_lt {kind : Int} {w a b : Nat} (hw : 1 ≤ w) (ha : a < 2 ^ w) (hb : b < 2 ^ w) : (twoP kind w a b).1 < 2 ^ (twoP kind w a b).2 := by
  unfold twoP
  split
  · exact calcP_lt hw ha hb
  · simp only; split <;> omega
/-- What says that words with signs run over. -/
theorem sover {w a b : Nat} (hw : 1 ≤ w) : (sgn w (fromP w (sgn w a + sgn w b)) ≠ sgn w a + sgn w b) ↔ ¬ (-((2 ^ (w - 1) : Nat) : Int) ≤ sgn w a + sgn w b ∧ sgn w a + sgn w b < ((2 ^ (w - 1) : Nat) : Int)) := by
  rw [ne_eq, sgn_from hw]


structure SortP where
  idx : Int
  wid : Int
  deriving DecidableEq
structure NodeP where
  kind : Int
  a : Int
  b : Int
  c : Int
  n : Int
  m : Int
  sort : SortP
  name : ByteArray
structure BindP where
  state : Int
  node : Int
  deriving DecidableEq
structure ModelP where
  nodes : List NodeP
  inits : List BindP
  nexts : List BindP
  bads : List Int
  holds : List Int

def sortOkP (s : SortP) : Bool := decide ((0 ≤ s.idx ∧ s.idx ≤ 2) ∧ (1 ≤ s.wid ∧ s.wid ≤ 16))
def sortCellsP (s : SortP) : Nat := if sortOkP s then 2 ^ s.idx.toNat else 0
def sortBitsP (s : SortP) : Nat := sortCellsP s * s.wid.toNat
def wordS (w : Int) : SortP := ⟨0, w⟩
def partsP (kind : Int) : Int :=
  if (1 ≤ kind ∧ kind ≤ 5) ∨ (30 ≤ kind ∧ kind ≤ 32) then 1 else if (6 ≤ kind ∧ kind ≤ 29) ∨ kind = 37 then 2 else if kind = 33 ∨ kind = 38 then 3 else
  if 34 ≤ kind ∧ kind ≤ 36 then 0 else -1
def letterU (c : UInt8) : Bool := decide (97 ≤ c.toNat ∧ c.toNat ≤ 122)
def digitU (c : UInt8) : Bool := decide (48 ≤ c.toNat ∧ c.toNat ≤ 57)
def isNameP (s : ByteArray) : Bool := decide (1 ≤ s.size ∧ s.size ≤ 8) && (match s.data.toList with | [] => false | c :: r => letterU c && r.all fun c => letterU c || digitU c)
def namedP (kind : Int) : Bool := decide (kind = 35 ∨ kind = 36)
/-- A part of a node: as many as its kind has stand ahead, the others are 0. -/
def partB (k : Int) (len : Nat) (i : Int) (p : Int) : Bool := if i < k then decide (0 ≤ p ∧ p ≤ (len : Int) - 1) else decide (p = 0)
def fieldsP (len : Nat) (n : NodeP) : Bool :=
  decide (0 ≤ partsP n.kind) && (partB (partsP n.kind) len 0 n.a && partB (partsP n.kind) len 1 n.b && partB (partsP n.kind) len 2 n.c) &&
  (if namedP n.kind then isNameP n.name else decide (n.name.size = 0)) && (decide (n.kind = 30) || decide (n.m = 0)) &&
  (decide (n.kind = 30 ∨ n.kind = 31 ∨ n.kind = 32 ∨ n.kind = 34) || decide (n.n = 0))
def wordOkP (w v : Int) : Bool := decide ((1 ≤ w ∧ w ≤ 16) ∧ 0 ≤ v ∧ v ≤ ((2 ^ w.toNat : Nat) : Int) - 1)
/-- The sort of a node by those of its parts. -/
def resultP (n : NodeP) (a b c : SortP) : Option SortP :=
  if n.kind = 33 then (if a = wordS 1 ∧ b = c then some b else none) else
  if n.kind = 37 then (if 0 < a.idx ∧ b = wordS a.idx then some (wordS a.wid) else none) else
  if n.kind = 38 then (if 0 < a.idx ∧ b = wordS a.idx ∧ c = wordS a.wid then some a else none) else
  if n.kind = 21 then (if a = b then some (wordS 1) else none) else
  if 0 < a.idx ∨ (partsP n.kind = 2 ∧ 0 < b.idx) then none else
  if n.kind = 29 then (if a.wid + b.wid ≤ 16 then some (wordS (a.wid + b.wid)) else none) else
  if n.kind = 30 then (if (0 ≤ n.n ∧ n.n ≤ a.wid - 1) ∧ 0 ≤ n.m ∧ n.m ≤ n.n then some (wordS (n.n - n.m + 1)) else none) else
  if n.kind = 31 ∨ n.kind = 32 then (if 0 ≤ n.n ∧ n.n ≤ 16 - a.wid then some (wordS (a.wid + n.n)) else none) else
  if n.kind ≤ 5 then some (wordS (if n.kind ≤ 2 then a.wid else 1)) else
  if a = b then some (wordS (if n.kind ≤ 20 then a.wid else 1)) else none
def sortAt (l : List NodeP) (p : Int) : SortP := match l[p.toNat]? with | some n => n.sort | none => ⟨0, 0⟩
def nodeSortP (l : List NodeP) (n : NodeP) : Option SortP :=
  if l.length ≤ 60 ∧ fieldsP l.length n = true then
    (if partsP n.kind = 0 then (if (if n.kind = 34 then decide (n.sort.idx = 0) && wordOkP n.sort.wid n.n else sortOkP n.sort) then some n.sort else none) else
     if sortOkP (sortAt l n.a) && ((decide (partsP n.kind < 2) || sortOkP (sortAt l n.b)) && (decide (partsP n.kind < 3) || sortOkP (sortAt l n.c))) then
       resultP n (sortAt l n.a) (sortAt l n.b) (sortAt l n.c) else none)
  else none
def nodesOkP (l : List NodeP) : Bool := (List.range l.length).all fun i => match l[i]? with | some n => decide (nodeSortP (l.take i) n = some n.sort) | none => true
/-- Whether something is there twice. -/
def againP {α : Type} [DecidableEq α] (l : List α) : Bool := (List.range l.length).any fun i => match l[i]? with | some x => (l.take i).any fun y => decide (y = x) | none => false
def nameAgain (l : List NodeP) : Bool := (List.range l.length).any fun i => match l[i]? with | some n => decide (n.name.size ≠ 0) && (l.take i).any fun y => decide (y.name = n.name) | none => false
def twiceP (m : ModelP) : Bool := nameAgain m.nodes || (againP (m.inits.map (·.state)) || againP (m.nexts.map (·.state)))
/-- Whether nodes are made of a state or an input, one by one. -/
def madeP (l : List NodeP) : Nat → List Bool
  | 0 => []
  | i + 1 => madeP l i ++ [match l[i]? with
      | some n => namedP n.kind || ((decide (0 < partsP n.kind) && (madeP l i).getD n.a.toNat false) || ((decide (1 < partsP n.kind) && (madeP l i).getD n.b.toNat false) || (decide (2 < partsP n.kind) && (madeP l i).getD n.c.toNat false)))
      | none => false]
def placeB (l : List NodeP) (p : Int) : Bool := decide (0 ≤ p ∧ p ≤ (l.length : Int) - 1)
def kindAt (l : List NodeP) (p : Int) : Int := match l[p.toNat]? with | some n => n.kind | none => 0
def initOkP (l : List NodeP) (b : BindP) : Bool :=
  (placeB l b.state && placeB l b.node && decide (kindAt l b.state = 36)) && ((decide (sortAt l b.state = sortAt l b.node) || decide (sortAt l b.node = wordS (sortAt l b.state).wid)) && !(madeP l l.length).getD b.node.toNat false)
def nextOkP (l : List NodeP) (b : BindP) : Bool := (placeB l b.state && placeB l b.node && decide (kindAt l b.state = 36)) && decide (sortAt l b.state = sortAt l b.node)
def propOkP (l : List NodeP) (p : Int) : Bool := placeB l p && decide (sortAt l p = wordS 1)
def bitsP (l : List NodeP) (kind : Int) : Nat := ((l.filter fun n => decide (n.kind = kind)).map fun n => sortBitsP n.sort).sum
def placesP (l : List NodeP) (kind : Int) : List Nat := (List.range l.length).filter fun i => match l[i]? with | some n => decide (n.kind = kind) | none => false
/-- What is wrong with a model. -/
def modelCodeP (m : ModelP) : Int :=
  if 60 < m.nodes.length ∨ 60 < m.inits.length ∨ 60 < m.nexts.length ∨ 4 < m.bads.length ∨ 4 < m.holds.length then 1 else
  if nodesOkP m.nodes = false then 2 else if twiceP m = true then 3 else
  if (m.inits.all (initOkP m.nodes) && m.nexts.all (nextOkP m.nodes)) = false then 4 else
  if (m.bads.all (propOkP m.nodes) && m.holds.all (propOkP m.nodes)) = false then 5 else
  if 8 < bitsP m.nodes 36 ∨ 5 < bitsP m.nodes 35 then 6 else 0

def cellP (v : List (List Nat)) (p : Int) : Nat := (v.getD p.toNat []).getD 0 0
def sliceP (a lo n : Nat) : Nat := a / 2 ^ lo % 2 ^ n
def growP (w a more : Nat) (signed : Bool) : Nat := if signed then fromP (w + more) (sgn w a) else a
/-- The value of a node that is no state and no input, by those ahead. -/
def nodeValP (l : List NodeP) (n : NodeP) (v : List (List Nat)) : List Nat :=
  if n.kind = 34 then [n.n.toNat] else
  if n.kind = 33 then (if cellP v n.a = 1 then v.getD n.b.toNat [] else v.getD n.c.toNat []) else
  if n.kind = 21 then [if v.getD n.a.toNat [] = v.getD n.b.toNat [] then 1 else 0] else
  if n.kind = 37 then [(v.getD n.a.toNat []).getD (cellP v n.b) 0] else
  if n.kind = 38 then (v.getD n.a.toNat []).set (cellP v n.b) (cellP v n.c) else
  if n.kind = 29 then [cellP v n.a * 2 ^ (sortAt l n.b).wid.toNat + cellP v n.b] else
  if n.kind = 30 then [sliceP (cellP v n.a) n.m.toNat (n.n - n.m + 1).toNat] else
  if n.kind = 31 ∨ n.kind = 32 then [growP (sortAt l n.a).wid.toNat (cellP v n.a) n.n.toNat (decide (n.kind = 32))] else
  if partsP n.kind = 1 then [(oneP n.kind (sortAt l n.a).wid.toNat (cellP v n.a)).1] else [(twoP n.kind (sortAt l n.a).wid.toNat (cellP v n.a) (cellP v n.b)).1]
/-- The values of so many nodes. -/
def evalP (l : List NodeP) (s inp : List (List Nat)) : Nat → List (List Nat)
  | 0 => []
  | i + 1 => evalP l s inp i ++ [match l[i]? with
      | some n => if n.kind = 36 then s.getD (placesP (l.take i) 36).length [] else if n.kind = 35 then inp.getD (placesP (l.take i) 35).length [] else nodeValP l n (evalP l s inp i)
      | none => []]


/-- The parts of a node. -/
def partsL (n : NodeP) : List Nat := ([n.a.toNat, n.b.toNat, n.c.toNat]).take (partsP n.kind).toNat
theorem partsP_cases (k : Int) : partsP k = 0 ∨ partsP k = 1 ∨ partsP k = 2 ∨ partsP k = 3 ∨ partsP k = -1 := by
  unfold partsP
  by_cases h1 : (1 ≤ k ∧ k ≤ 5) ∨ (30 ≤ k ∧ k ≤ 32)
  · rw [if_pos h1]; simp
  rw [if_neg h1]
  by_cases h2 : (6 ≤ k ∧ k ≤ 29) ∨ k = 37
  · rw [if_pos h2]; simp
  rw [if_neg h2]
  by_cases h3 : k = 33 ∨ k = 38
  · rw [if_pos h3]; simp
  rw [if_neg h3]
  by_cases h4 : 34 ≤ k ∧ k ≤ 36
  · rw [if_pos h4]; simp
  rw [if_neg h4]; simp
/-- Nodes whose parts stand ahead. -/
def Ahead (l : List NodeP) : Prop := ∀ (i : Nat) (n : NodeP), l[i]? = some n → 0 ≤ partsP n.kind ∧ ∀ p ∈ partsL n, p < i
def isNamed (l : List NodeP) (j : Nat) : Bool := match l[j]? with | some n => namedP n.kind | none => false
def made (l : List NodeP) (j : Nat) : Bool := (madeP l l.length).getD j false

theorem madeP_len (l : List NodeP) : ∀ i, (madeP l i).length = i := by
  intro i
  induction i with
  | zero => rfl
  | succ i ih => simp only [madeP, List.length_append, ih, List.length_cons, List.length_nil]
theorem madeP_pre (l : List NodeP) : ∀ d i j, j < i → (madeP l (i + d)).getD j false = (madeP l i).getD j false := by
  intro d
  induction d with
  | zero => intro i j _; rfl
  | succ d ih =>
    intro i j hj
    rw [← Nat.add_assoc]
    simp only [madeP]
    have hl := madeP_len l (i + d)
    rw [List.getD, List.getElem?_append_left (by omega)]
    exact ih i j hj
theorem madeP_at {l : List NodeP} {i j : Nat} (hj : j < i) (hi : i ≤ l.length) : (madeP l i).getD j false = made l j := by
  have := madeP_pre l (l.length - i) i j hj
  rw [show i + (l.length - i) = l.length by omega] at this
  exact this.symm
theorem made_iff {l : List NodeP} (ha : Ahead l) {i : Nat} {n : NodeP} (hn : l[i]? = some n) : made l i = true ↔ namedP n.kind = true ∨ ∃ p ∈ partsL n, made l p = true := by
  have hi : i < l.length := (List.getElem?_eq_some_iff.1 hn).1
  obtain ⟨hk, hp⟩ := ha i n hn
  have e : made l i = (namedP n.kind || ((decide (0 < partsP n.kind) && (madeP l i).getD n.a.toNat false) || ((decide (1 < partsP n.kind) && (madeP l i).getD n.b.toNat false) || (decide (2 < partsP n.kind) && (madeP l i).getD n.c.toNat false)))) := by
    rw [← madeP_at (Nat.lt_succ_self i) hi]
    simp only [madeP]
    have hl := madeP_len l i
    rw [List.getD, List.getElem?_append_right (by omega), hl, Nat.sub_self]
    simp only [hn, List.getElem?_cons_zero, Option.getD_some]
  rw [e]
  unfold partsL at hp ⊢
  rcases partsP_cases n.kind with h | h | h | h | h
  · simp [h]
  · rw [h] at hp ⊢
    have h1 := hp n.a.toNat (by simp)
    rw [madeP_at h1 (by omega)]
    simp
  · rw [h] at hp ⊢
    have h1 := hp n.a.toNat (by simp)
    have h2 := hp n.b.toNat (by simp)
    rw [madeP_at h1 (by omega), madeP_at h2 (by omega)]
    simp
  · rw [h] at hp ⊢
    have h1 := hp n.a.toNat (by simp)
    have h2 := hp n.b.toNat (by simp)
    have h3 := hp n.c.toNat (by simp)
    rw [madeP_at h1 (by omega), madeP_at h2 (by omega), madeP_at h3 (by omega)]
    simp
  · omega

/-- Marks that go down from node to part. -/
def downP (l : List NodeP) : Nat → (Nat → Bool) → Nat → Bool
  | 0, S => S
  | i + 1, S => downP l i (if S i then fun j => S j || (match l[i]? with | some n => (partsL n).contains j | none => false) else S)
theorem down_made {l : List NodeP} (ha : Ahead l) : ∀ (i : Nat) (S : Nat → Bool), i ≤ l.length →
    ((∃ j, downP l i S j = true ∧ isNamed l j = true) ↔ (∃ j, i ≤ j ∧ S j = true ∧ isNamed l j = true) ∨ ∃ j, j < i ∧ S j = true ∧ made l j = true) := by
  intro i
  induction i with
  | zero => intro S _; simp [downP]
  | succ i ih =>
    intro S hi
    simp only [downP]
    rw [ih _ (by omega)]
    obtain ⟨n, hn⟩ : ∃ n, l[i]? = some n := ⟨l[i], List.getElem?_eq_getElem (by omega)⟩
    have hm := made_iff ha hn
    have hp := (ha i n hn).2
    have hnm : isNamed l i = namedP n.kind := by unfold isNamed; rw [hn]
    by_cases hS : S i = true
    · simp only [hS, if_true, hn]
      constructor
      · rintro (⟨j, h1, h2, h3⟩ | ⟨j, h1, h2, h3⟩)
        · by_cases hji : j = i
          · subst hji
            exact .inr ⟨j, by omega, hS, hm.2 (.inl (hnm ▸ h3))⟩
          · rcases Bool.or_eq_true_iff.1 h2 with h2 | h2
            · exact .inl ⟨j, by omega, h2, h3⟩
            · have := hp j (by simpa using h2); omega
        · rcases Bool.or_eq_true_iff.1 h2 with h2 | h2
          · exact .inr ⟨j, by omega, h2, h3⟩
          · exact .inr ⟨i, by omega, hS, hm.2 (.inr ⟨j, by simpa using h2, h3⟩)⟩
      · rintro (⟨j, h1, h2, h3⟩ | ⟨j, h1, h2, h3⟩)
        · exact .inl ⟨j, by omega, by simp [h2], h3⟩
        · by_cases hji : j = i
          · subst hji
            rcases hm.1 h3 with h4 | ⟨p, hp1, hp2⟩
            · exact .inl ⟨j, Nat.le_refl _, by simp [hS], hnm ▸ h4⟩
            · exact .inr ⟨p, hp p hp1, by simp [hp1], hp2⟩
          · exact .inr ⟨j, by omega, by simp [h2], h3⟩
    · simp only [hS, if_false]
      constructor
      · rintro (⟨j, h1, h2, h3⟩ | ⟨j, h1, h2, h3⟩)
        · by_cases hji : j = i
          · subst hji; exact absurd h2 hS
          · exact .inl ⟨j, by omega, h2, h3⟩
        · exact .inr ⟨j, by omega, h2, h3⟩
      · rintro (⟨j, h1, h2, h3⟩ | ⟨j, h1, h2, h3⟩)
        · exact .inl ⟨j, by omega, h2, h3⟩
        · by_cases hji : j = i
          · subst hji; exact absurd h2 hS
          · exact .inr ⟨j, by omega, h2, h3⟩
/-- Of a node on: whether anything marked is named. -/
theorem down_at {l : List NodeP} (ha : Ahead l) {i : Nat} (hi : i < l.length) : (∃ j, downP l (i + 1) (fun j => decide (j = i)) j = true ∧ isNamed l j = true) ↔ made l i = true := by
  rw [down_made ha _ _ (by omega)]
  constructor
  · rintro (⟨j, h1, h2, h3⟩ | ⟨j, h1, h2, h3⟩)
    · simp at h2; omega
    · simp at h2; subst h2; exact h3
  · intro h; exact .inr ⟨i, by omega, by simp, h⟩
/-- Nothing above the node is marked. -/
theorem down_le {l : List NodeP} (ha : Ahead l) (k : Nat) : ∀ (i : Nat) (S : Nat → Bool), i ≤ k + 1 → i ≤ l.length → (∀ j, S j = true → j ≤ k) → ∀ j, downP l i S j = true → j ≤ k := by
  intro i
  induction i with
  | zero => intro S _ _ hS j hj; exact hS j hj
  | succ i ih =>
    intro S hk hi hS j hj
    simp only [downP] at hj
    refine ih _ (by omega) (by omega) ?_ j hj
    intro j' hj'
    split at hj'
    · rcases Bool.or_eq_true_iff.1 hj' with h | h
      · exact hS j' h
      · obtain ⟨n, hn⟩ : ∃ n, l[i]? = some n := ⟨l[i], List.getElem?_eq_getElem (by omega)⟩
        rw [hn] at h
        have := (ha i n hn).2 j' (by simpa using h)
        omega
    · exact hS j' hj'


/-- The cells of a number: so many bits each. -/
def unpC (w : Nat) : Nat → Nat → List Nat
  | 0, _ => []
  | c + 1, code => unpC w c code ++ [code / 2 ^ (w * c) % 2 ^ w]
def widA (l : List NodeP) (p : Nat) : Nat := (sortAt l p).wid.toNat
def cellsA (l : List NodeP) (p : Nat) : Nat := sortCellsP (sortAt l p)
def sumW (l : List NodeP) (ps : List Nat) : Nat := (ps.map fun p => widA l p * cellsA l p).sum
/-- The values of a number. -/
def unpL (l : List NodeP) (ps : List Nat) (code : Nat) : List (List Nat) :=
  (List.range ps.length).map fun i => unpC (widA l (ps.getD i 0)) (cellsA l (ps.getD i 0)) (code / 2 ^ sumW l (ps.take i))
theorem unpC_len (w c code : Nat) : (unpC w c code).length = c := by
  induction c with
  | zero => rfl
  | succ c ih => simp only [unpC, List.length_append, ih, List.length_cons, List.length_nil]
theorem unpC_lt {w c code x : Nat} (h : x ∈ unpC w c code) : x < 2 ^ w := by
  induction c with
  | zero => cases h
  | succ c ih =>
    simp only [unpC, List.mem_append, List.mem_singleton] at h
    rcases h with h | h
    · exact ih h
    · subst h; exact Nat.mod_lt _ (pow_pos' w)
theorem unpL_len (l : List NodeP) (ps : List Nat) (code : Nat) : (unpL l ps code).length = ps.length := by simp [unpL]
theorem get_ltP {α : Type} {l : List α} {i : Nat} {x : α} (h : l[i]? = some x) : i < l.length := by
  rcases Nat.lt_or_ge i l.length with h' | h'
  · exact h'
  · rw [List.getElem?_eq_none h'] at h; cases h
theorem unpL_get {l : List NodeP} {ps : List Nat} {code i p : Nat} (h : ps[i]? = some p) : (unpL l ps code).getD i [] = unpC (widA l p) (cellsA l p) (code / 2 ^ sumW l (ps.take i)) := by
  have hlt := get_ltP h
  have hp : ps.getD i 0 = p := by rw [List.getD_eq_getElem?_getD, h]; rfl
  unfold unpL
  rw [List.getD_eq_getElem?_getD, List.getElem?_map, List.getElem?_range hlt]
  simp only [Option.map_some, Option.getD_some, hp]
theorem sumW_take {l : List NodeP} {ps : List Nat} {i p : Nat} (h : ps[i]? = some p) : sumW l (ps.take (i + 1)) = sumW l (ps.take i) + widA l p * cellsA l p := by
  have hlt := get_ltP h
  rw [List.getElem?_eq_getElem hlt] at h
  unfold sumW
  rw [List.take_succ_eq_append_getElem hlt, Option.some.inj h, List.map_append, List.sum_append]; simp
theorem sumW_le (l : List NodeP) (ps : List Nat) (i : Nat) : sumW l (ps.take i) ≤ sumW l ps := by
  conv => rhs; rw [← List.take_append_drop i ps]
  unfold sumW
  rw [List.map_append, List.sum_append]; omega

def packC (w : Nat) : List Nat → Nat
  | [] => 0
  | x :: xs => x + 2 ^ w * packC w xs
theorem packC_lt {w : Nat} : ∀ {xs : List Nat}, (∀ x ∈ xs, x < 2 ^ w) → packC w xs < 2 ^ (w * xs.length) := by
  intro xs
  induction xs with
  | nil => intro _; simp [packC]
  | cons x xs ih =>
    intro h
    have h1 := ih fun y hy => h y (by simp [hy])
    have h2 := h x (by simp)
    simp only [packC, List.length_cons]
    rw [Nat.mul_add, Nat.mul_one, Nat.pow_add, Nat.mul_comm (2 ^ (w * xs.length))]
    have h3 := Nat.mul_le_mul_left (2 ^ w) (Nat.succ_le_of_lt h1)
    rw [Nat.succ_eq_add_one, Nat.mul_add, Nat.mul_one] at h3
    omega
theorem packC_snoc (w : Nat) (xs : List Nat) (x : Nat) : packC w (xs ++ [x]) = packC w xs + 2 ^ (w * xs.length) * x := by
  induction xs with
  | nil => simp [packC]
  | cons y ys ih =>
    simp only [List.cons_append, packC, ih, List.length_cons]
    rw [Nat.mul_add, ← Nat.add_assoc]
    congr 1
    rw [Nat.mul_add w, Nat.mul_one, Nat.add_comm (w * ys.length), Nat.pow_add, Nat.mul_assoc]
theorem unpC_mod (w : Nat) (code k : Nat) : ∀ c, c ≤ k → unpC w c (code % 2 ^ (w * k)) = unpC w c code := by
  intro c
  induction c with
  | zero => intro _; rfl
  | succ c ih =>
    intro h
    simp only [unpC, ih (by omega)]
    congr 2
    have hk : w * k = w * c + (w + w * (k - c - 1)) := by
      have : k = c + (1 + (k - c - 1)) := by omega
      conv => lhs; rw [this]
      simp only [Nat.mul_add, Nat.mul_one]
    rw [hk, Nat.pow_add, Nat.mod_mul_right_div_self, Nat.pow_add, Nat.mod_mul_right_mod]
theorem packC_unp (w c code : Nat) : packC w (unpC w c code) = code % 2 ^ (w * c) := by
  induction c with
  | zero => simp [unpC, packC, Nat.mod_one]
  | succ c ih =>
    rw [unpC, packC_snoc, ih, unpC_len, Nat.mul_add, Nat.mul_one, Nat.pow_add, Nat.mod_mul]
theorem packC_div {w : Nat} : ∀ {xs : List Nat} {k : Nat}, (∀ x ∈ xs, x < 2 ^ w) → k < xs.length → packC w xs / 2 ^ (w * k) % 2 ^ w = xs.getD k 0 := by
  intro xs
  induction xs with
  | nil => intro k _ h; simp at h
  | cons x xs ih =>
    intro k h hk
    have hx := h x (by simp)
    have hp := pow_pos' w
    cases k with
    | zero =>
      simp only [packC, Nat.mul_zero, Nat.pow_zero, Nat.div_one, List.getD_cons_zero]
      rw [Nat.add_mul_mod_self_left, Nat.mod_eq_of_lt hx]
    | succ k =>
      rw [List.getD_cons_succ, ← ih (fun y hy => h y (by simp [hy])) (by simpa using hk)]
      simp only [packC]
      rw [Nat.mul_add, Nat.mul_one, Nat.add_comm (w * k), Nat.pow_add, ← Nat.div_div_eq_div_mul, Nat.add_mul_div_left _ _ hp, Nat.div_eq_of_lt hx, Nat.zero_add]
theorem unpC_pack {w : Nat} {xs : List Nat} (h : ∀ x ∈ xs, x < 2 ^ w) : unpC w xs.length (packC w xs) = xs := by
  have key : ∀ c, c ≤ xs.length → unpC w c (packC w xs) = xs.take c := by
    intro c
    induction c with
    | zero => intro _; rfl
    | succ c ih =>
      intro hc
      rw [unpC, ih (by omega), packC_div h (by omega), List.take_succ_eq_append_getElem (by omega), List.getD_eq_getElem?_getD, List.getElem?_eq_getElem (by omega)]; rfl
  have := key xs.length (Nat.le_refl _)
  rwa [List.take_length] at this
theorem packC_zero (w n : Nat) : packC w (List.replicate n 0) = 0 := by
  induction n with
  | zero => rfl
  | succ n ih => simp only [List.replicate_succ, packC, ih]; simp

def nbA (l : List NodeP) (p : Nat) : Nat := widA l p * cellsA l p
def unpR (l : List NodeP) : List Nat → Nat → List (List Nat)
  | [], _ => []
  | p :: ps, code => unpC (widA l p) (cellsA l p) code :: unpR l ps (code / 2 ^ nbA l p)
def packR (l : List NodeP) : List Nat → List (List Nat) → Nat
  | [], _ => 0
  | p :: ps, vs => packC (widA l p) (vs.headD []) + 2 ^ nbA l p * packR l ps vs.tail
/-- Values that fit their places. -/
def FitR (l : List NodeP) : List Nat → List (List Nat) → Prop
  | [], vs => vs = []
  | p :: ps, vs => ∃ v r, vs = v :: r ∧ v.length = cellsA l p ∧ (∀ x ∈ v, x < 2 ^ widA l p) ∧ FitR l ps r
theorem sumW_cons (l : List NodeP) (p : Nat) (ps : List Nat) : sumW l (p :: ps) = nbA l p + sumW l ps := by simp [sumW, nbA]
theorem packR_lt {l : List NodeP} : ∀ {ps : List Nat} {vs : List (List Nat)}, FitR l ps vs → packR l ps vs < 2 ^ sumW l ps := by
  intro ps
  induction ps with
  | nil => intro vs _; simp [packR, sumW]
  | cons p ps ih =>
    rintro _ ⟨v, r, rfl, h1, h2, h3⟩
    have h4 := ih h3
    have h5 := packC_lt h2
    rw [h1] at h5
    have h5' : packC (widA l p) v < 2 ^ nbA l p := h5
    simp only [packR, List.headD_cons, List.tail_cons]
    rw [sumW_cons, Nat.pow_add]
    have h6 := Nat.mul_le_mul_left (2 ^ nbA l p) (Nat.succ_le_of_lt h4)
    rw [Nat.succ_eq_add_one, Nat.mul_add, Nat.mul_one] at h6
    omega
theorem unpR_pack {l : List NodeP} : ∀ {ps : List Nat} {vs : List (List Nat)}, FitR l ps vs → unpR l ps (packR l ps vs) = vs := by
  intro ps
  induction ps with
  | nil => rintro vs rfl; rfl
  | cons p ps ih =>
    rintro _ ⟨v, r, rfl, h1, h2, h3⟩
    have h5 := packC_lt h2
    rw [h1] at h5
    have h5' : packC (widA l p) v < 2 ^ nbA l p := h5
    simp only [unpR, packR, List.headD_cons, List.tail_cons]
    rw [Nat.add_mul_div_left _ _ (pow_pos' _), Nat.div_eq_of_lt h5', Nat.zero_add, ih h3, ← unpC_mod _ _ _ _ (Nat.le_refl _)]
    have : (packC (widA l p) v + 2 ^ nbA l p * packR l ps r) % 2 ^ (widA l p * cellsA l p) = packC (widA l p) v := by
      show _ % 2 ^ nbA l p = _
      rw [Nat.add_mul_mod_self_left, Nat.mod_eq_of_lt h5']
    rw [this, ← h1, unpC_pack h2]
theorem fitR_len {l : List NodeP} : ∀ {ps : List Nat} {vs : List (List Nat)}, FitR l ps vs → vs.length = ps.length := by
  intro ps
  induction ps with
  | nil => rintro vs rfl; rfl
  | cons p ps ih => rintro _ ⟨v, r, rfl, h1, h2, h3⟩; simp [ih h3]
theorem packR_snoc {l : List NodeP} : ∀ {ps : List Nat} {vs : List (List Nat)} {p : Nat} {v : List Nat}, vs.length = ps.length →
    packR l (ps ++ [p]) (vs ++ [v]) = packR l ps vs + 2 ^ sumW l ps * packC (widA l p) v := by
  intro ps
  induction ps with
  | nil =>
    intro vs p v h
    obtain rfl : vs = [] := List.eq_nil_of_length_eq_zero (by simpa using h)
    simp [packR, sumW]
  | cons q ps ih =>
    intro vs p v h
    obtain ⟨u, r, rfl⟩ : ∃ u r, vs = u :: r := by
      cases vs with
      | nil => simp at h
      | cons u r => exact ⟨u, r, rfl⟩
    simp only [List.cons_append, packR, List.headD_cons, List.tail_cons]
    rw [ih (by simpa using h), sumW_cons, Nat.pow_add, Nat.mul_add, Nat.mul_assoc, Nat.add_assoc]
theorem fitR_take {l : List NodeP} : ∀ {ps : List Nat} {vs : List (List Nat)}, FitR l ps vs → ∀ i, FitR l (ps.take i) (vs.take i) := by
  intro ps
  induction ps with
  | nil => rintro vs rfl i; simp [FitR]
  | cons p ps ih =>
    rintro _ ⟨v, r, rfl, h1, h2, h3⟩ i
    cases i with
    | zero => rfl
    | succ i => exact ⟨v, r.take i, rfl, h1, h2, ih h3 i⟩
theorem fitR_get {l : List NodeP} : ∀ {ps : List Nat} {vs : List (List Nat)}, FitR l ps vs → ∀ {i p : Nat}, ps[i]? = some p → (vs.getD i []).length = cellsA l p ∧ ∀ x ∈ vs.getD i [], x < 2 ^ widA l p := by
  intro ps
  induction ps with
  | nil => rintro vs rfl i p h; simp at h
  | cons q ps ih =>
    rintro _ ⟨v, r, rfl, h1, h2, h3⟩ i p h
    cases i with
    | zero => simp at h; subst h; exact ⟨h1, h2⟩
    | succ i => exact ih h3 (by simpa using h)
/-- The node that a list of binds gives a state. -/
def boundP (binds : List BindP) (p : Nat) : Option Nat := (binds.find? fun b => decide (b.state = (p : Int))).map (·.node.toNat)
/-- The bits that are held fast. -/
def maskR (l : List NodeP) (c : Nat → Bool) : List Nat → Nat
  | [] => 0
  | p :: ps => (if c p then 2 ^ nbA l p - 1 else 0) + 2 ^ nbA l p * maskR l c ps
/-- Values, of which those are 0 that are not held fast. -/
def heldR (l : List NodeP) (f : Nat → Option (List Nat)) (ps : List Nat) : List (List Nat) := ps.map fun p => (f p).getD (List.replicate (cellsA l p) 0)
theorem mask_lo (l : List NodeP) (c : Nat → Bool) (p : Nat) : (if c p then 2 ^ nbA l p - 1 else 0) < 2 ^ nbA l p := by
  have := pow_pos' (nbA l p); split <;> omega
theorem maskR_lt (l : List NodeP) (c : Nat → Bool) : ∀ ps, maskR l c ps < 2 ^ sumW l ps := by
  intro ps
  induction ps with
  | nil => simp [maskR, sumW]
  | cons p ps ih =>
    have h1 := mask_lo l c p
    rw [sumW_cons, Nat.pow_add, maskR]
    have h6 := Nat.mul_le_mul_left (2 ^ nbA l p) (Nat.succ_le_of_lt ih)
    rw [Nat.succ_eq_add_one, Nat.mul_add, Nat.mul_one] at h6
    omega
theorem bit_split {n a b : Nat} (ha : a < 2 ^ n) (j : Nat) : (a + 2 ^ n * b).testBit j = if j < n then a.testBit j else b.testBit (j - n) := by
  rw [Nat.add_comm, Nat.testBit_two_pow_mul_add _ ha]
theorem and_split {n a b c d : Nat} (ha : a < 2 ^ n) (hc : c < 2 ^ n) : (a + 2 ^ n * b) &&& (c + 2 ^ n * d) = (a &&& c) + 2 ^ n * (b &&& d) := by
  apply Nat.eq_of_testBit_eq
  intro j
  rw [Nat.testBit_and, bit_split ha, bit_split hc, bit_split (Nat.lt_of_le_of_lt Nat.and_le_left ha)]
  split <;> rw [Nat.testBit_and]
theorem split_inj {n a b c d : Nat} (ha : a < 2 ^ n) (hc : c < 2 ^ n) : a + 2 ^ n * b = c + 2 ^ n * d ↔ a = c ∧ b = d := by
  constructor
  · intro h
    have h1 : (a + 2 ^ n * b) % 2 ^ n = (c + 2 ^ n * d) % 2 ^ n := by rw [h]
    have h2 : (a + 2 ^ n * b) / 2 ^ n = (c + 2 ^ n * d) / 2 ^ n := by rw [h]
    rw [Nat.add_mul_mod_self_left, Nat.add_mul_mod_self_left, Nat.mod_eq_of_lt ha, Nat.mod_eq_of_lt hc] at h1
    rw [Nat.add_mul_div_left _ _ (pow_pos' n), Nat.add_mul_div_left _ _ (pow_pos' n), Nat.div_eq_of_lt ha, Nat.div_eq_of_lt hc] at h2
    exact ⟨h1, by omega⟩
  · rintro ⟨rfl, rfl⟩; rfl
/-- A number's bits that are held fast are those of values if, and only if, each value that is held fast is so. -/
theorem agree_iff {l : List NodeP} {f : Nat → Option (List Nat)} : ∀ {ps : List Nat} (s : Nat), (∀ p ∈ ps, ∀ v, f p = some v → v.length = cellsA l p ∧ ∀ x ∈ v, x < 2 ^ widA l p) →
    (s &&& maskR l (fun p => (f p).isSome) ps = packR l ps (heldR l f ps) ↔ ∀ (i p : Nat), ps[i]? = some p → ∀ v, f p = some v → (unpR l ps s).getD i [] = v) := by
  intro ps
  induction ps with
  | nil => intro s _; simp [maskR, packR]
  | cons p ps ih =>
    intro s hf
    have ih' := ih (s / 2 ^ nbA l p) fun q hq => hf q (by simp [hq])
    have hs : s = s % 2 ^ nbA l p + 2 ^ nbA l p * (s / 2 ^ nbA l p) := (Nat.mod_add_div _ _).symm
    have hm := Nat.mod_lt s (pow_pos' (nbA l p))
    have hhead : packC (widA l p) ((f p).getD (List.replicate (cellsA l p) 0)) < 2 ^ nbA l p := by
      cases h : f p with
      | none => simp only [Option.getD_none, packC_zero]; exact pow_pos' _
      | some v =>
        have h2 := hf p (by simp) v h
        have h1 := packC_lt h2.2
        rw [h2.1] at h1; exact h1
    have e1 : s &&& maskR l (fun p => (f p).isSome) (p :: ps) = (s % 2 ^ nbA l p &&& (if (f p).isSome then 2 ^ nbA l p - 1 else 0)) + 2 ^ nbA l p * (s / 2 ^ nbA l p &&& maskR l (fun p => (f p).isSome) ps) := by
      conv => lhs; rw [hs]
      rw [maskR, and_split hm (mask_lo l (fun p => (f p).isSome) p)]
    have e2 : packR l (p :: ps) (heldR l f (p :: ps)) = packC (widA l p) ((f p).getD (List.replicate (cellsA l p) 0)) + 2 ^ nbA l p * packR l ps (heldR l f ps) := rfl
    rw [e1, e2, split_inj (Nat.lt_of_le_of_lt Nat.and_le_left hm) hhead, ih']
    constructor
    · rintro ⟨h1, h2⟩ i q hq v hv
      cases i with
      | zero =>
        simp at hq; subst hq
        rw [hv] at h1
        simp only [Option.isSome_some, if_true, Option.getD_some, Nat.and_two_pow_sub_one_eq_mod, Nat.mod_mod] at h1
        have h3 := hf p (by simp) v hv
        simp only [unpR, List.getD_cons_zero]
        rw [← unpC_mod _ _ _ _ (Nat.le_refl _)]
        show unpC _ _ (s % 2 ^ nbA l p) = v
        rw [h1, ← h3.1, unpC_pack h3.2]
      | succ i => exact h2 i q (by simpa using hq) v hv
    · intro h
      refine ⟨?_, fun i q hq v hv => h (i + 1) q (by simpa using hq) v hv⟩
      cases hv : f p with
      | none => simp [packC_zero]
      | some v =>
        have h1 := h 0 p rfl v hv
        simp only [unpR, List.getD_cons_zero] at h1
        simp only [Option.isSome_some, if_true, Option.getD_some, Nat.and_two_pow_sub_one_eq_mod, Nat.mod_mod]
        rw [← h1, packC_unp]; rfl
theorem heldR_fit {l : List NodeP} {f : Nat → Option (List Nat)} {ps : List Nat} (h : ∀ p ∈ ps, ∀ v, f p = some v → v.length = cellsA l p ∧ ∀ x ∈ v, x < 2 ^ widA l p) : FitR l ps (heldR l f ps) := by
  induction ps with
  | nil => rfl
  | cons p ps ih =>
    refine ⟨_, _, rfl, ?_, ?_, ih fun q hq => h q (by simp [hq])⟩
    · show ((f p).getD (List.replicate (cellsA l p) 0)).length = _
      cases hv : f p with
      | none => simp
      | some v => exact (h p (by simp) v hv).1
    · show ∀ x ∈ (f p).getD (List.replicate (cellsA l p) 0), _
      cases hv : f p with
      | none =>
        intro x hx
        simp at hx
        rw [hx.2]; exact pow_pos' _
      | some v => exact (h p (by simp) v hv).2
/-- What is held fast stays as it is. -/
theorem held_and {l : List NodeP} {f : Nat → Option (List Nat)} {ps : List Nat} (h : ∀ p ∈ ps, ∀ v, f p = some v → v.length = cellsA l p ∧ ∀ x ∈ v, x < 2 ^ widA l p) :
    packR l ps (heldR l f ps) &&& maskR l (fun p => (f p).isSome) ps = packR l ps (heldR l f ps) := by
  rw [agree_iff _ h, unpR_pack (heldR_fit h)]
  intro i p hp v hv
  unfold heldR
  rw [List.getD_eq_getElem?_getD, List.getElem?_map, hp]
  simp [hv]

def anyB (n : Nat) (p : Nat → Bool) : Bool := (List.range n).any p
structure SysP where
  n : Nat
  k : Nat
  hold : Nat → Bool
  bad : Nat → Bool
  next : Nat → Nat
  fixed : Nat
  bfix : Nat
  bas : Nat
structure SysP.Ok (σ : SysP) : Prop where
  nle : σ.n ≤ 8
  kle : σ.k ≤ 5
  fixed : σ.fixed < 2 ^ σ.n
  bfix : σ.bfix < 2 ^ σ.n
  next : ∀ c, c < 2 ^ (σ.n + σ.k) → σ.next c < 2 ^ σ.n
  held : ∀ c, c < 2 ^ (σ.n + σ.k) → σ.next c &&& σ.fixed = σ.next c
  bas : σ.bas < 2 ^ σ.n
  bheld : σ.bas &&& σ.bfix = σ.bas
namespace SysP
def begins (σ : SysP) (s : Nat) : Bool := decide (s &&& σ.bfix = σ.bas)
def ends (σ : SysP) (c : Nat) : Bool := σ.hold c && σ.bad c
def goes (σ : SysP) (c t : Nat) : Bool := decide (t &&& σ.fixed = σ.next c)
def at_ (σ : SysP) (s i : Nat) : Nat := i * 2 ^ σ.n + s
/-- Of which states something holds with an input. -/
def some_ (σ : SysP) (f : Nat → Nat → Bool) (s : Nat) : Bool := anyB (2 ^ σ.k) fun i => f s (σ.at_ s i)
/-- What leads to one of some states. -/
def leads (σ : SysP) (S : Nat → Bool) (c : Nat) : Bool := anyB (2 ^ σ.n) fun t => S t && σ.goes c t
def fwd (σ : SysP) (p S : Nat → Bool) (t : Nat) : Bool := anyB (2 ^ (σ.n + σ.k)) fun c => (S (c % 2 ^ σ.n) && p c) && σ.goes c t
def bwd (σ : SysP) (p S : Nat → Bool) : Nat → Bool := σ.some_ fun _ c => p c && σ.leads S c
/-- Layers: the newest one, and all ahead of it. -/
def lay (σ : SysP) : Nat → (Nat → Bool) × (Nat → Bool)
  | 0 => (σ.begins, fun _ => false)
  | i + 1 => (fun t => σ.fwd σ.hold (σ.lay i).1 t && !((σ.lay i).2 t || (σ.lay i).1 t), fun t => (σ.lay i).2 t || (σ.lay i).1 t)
def front (σ : SysP) (i : Nat) : Nat → Bool := (σ.lay i).1
def seen (σ : SysP) (i : Nat) : Nat → Bool := (σ.lay i).2
def live (σ : SysP) (i : Nat) : Bool := anyB (2 ^ σ.n) (σ.front i)
/-- How many layers there are. -/
def nLay (σ : SysP) : Nat := (List.range (2 ^ σ.n + 1)).findIdx fun i => !σ.live i
/-- From which a bad is met at once. -/
def endsAt (σ : SysP) : Nat → Bool := σ.some_ fun _ c => σ.ends c
def hits (σ : SysP) (i : Nat) : Bool := anyB (2 ^ σ.n) fun s => σ.front i s && σ.endsAt s
def depth (σ : SysP) : Option Nat := (List.range σ.nLay).find? fun i => σ.hits i
def back (σ : SysP) : Nat → Nat → Bool
  | 0 => σ.endsAt
  | i + 1 => σ.some_ fun s c => σ.back i s || (σ.hold c && σ.leads (σ.back i) c)
def clean (σ : SysP) (c : Nat) : Bool := σ.hold c && !σ.bad c
def back2 (σ : SysP) : Nat → Nat → Bool
  | 0 => σ.endsAt
  | i + 1 => σ.bwd σ.clean (σ.back2 i)
def kind (σ : SysP) (k : Nat) : Int := if (match σ.depth with | some d => decide (d < k) | none => false) then 1 else if anyB (2 ^ σ.n) (σ.back2 k) then 2 else 0
end SysP


theorem shrW_int {x : Int} {n : Nat} (hn : n ≤ 64) : shrW x (n : Int) = x / ((2 ^ n : Nat) : Int) := by
  unfold shrW
  have h1 : min (Int.toNat (n : Int)) IntKind.i64.bits = n := by simp [IntKind.bits]; omega
  rw [h1, Int.fdiv_eq_ediv_of_nonneg _ (Int.pow_nonneg (by decide))]
  simp
theorem andW_mask {x : Int} {w : Nat} (hw : w ≤ 62) : andW x (((2 ^ w : Nat) : Int) - 1) = ((fromP w x : Nat) : Int) := by
  have h2 := two_pow_le hw
  have hp := pow_pos' w
  have hm : (((2 ^ w : Nat) : Int) - 1) = ((2 ^ w - 1 : Nat) : Int) := by omega
  rw [hm]
  show IntKind.i64.wrap _ = _
  have h1 : (BitVec.ofInt IntKind.i64.bits x &&& BitVec.ofInt IntKind.i64.bits ((2 ^ w - 1 : Nat) : Int)).toNat = fromP w x := by
    show (BitVec.ofInt 64 x &&& BitVec.ofInt 64 ((2 ^ w - 1 : Nat) : Int)).toNat = fromP w x
    rw [BitVec.ofInt_natCast, BitVec.toNat_and, BitVec.toNat_ofNat, BitVec.toNat_ofInt, Nat.mod_eq_of_lt (by omega), Nat.and_two_pow_sub_one_eq_mod]
    have hd : ((2 ^ w : Nat) : Int) ∣ ((2 ^ 64 : Nat) : Int) := Int.natCast_dvd_natCast.2 (Nat.pow_dvd_pow 2 (by omega))
    have h3 := Int.emod_emod_of_dvd x hd
    have h4 := Int.emod_nonneg x (b := ((2 ^ 64 : Nat) : Int)) (by decide)
    unfold fromP
    rw [← h3]
    generalize x % ((2 ^ 64 : Nat) : Int) = y at *
    obtain ⟨z, rfl⟩ : ∃ z : Nat, y = z := ⟨y.toNat, by omega⟩
    rw [← Int.natCast_emod, Int.toNat_natCast, Int.toNat_natCast]
  rw [h1]
  exact W_nat (by have := fromP_lt w x; omega)
theorem shlW_neg {w : Nat} (hw : w ≤ 62) : shlW (-1) (w : Int) = -((2 ^ w : Nat) : Int) := by
  have h2 := two_pow_le hw
  unfold shlW
  have h1 : min (Int.toNat (w : Int)) IntKind.i64.bits = w := by simp [IntKind.bits]; omega
  rw [h1]
  have h3 : (-1 : Int) * 2 ^ w = -((2 ^ w : Nat) : Int) := by simp
  have key : ∀ N : Nat, N ≤ 4611686018427387904 → W (-(N : Int)) = -(N : Int) := fun N h => W_id (by omega) (by omega)
  rw [h3]; exact key _ h2
/-- Powers of no more than sixteen. -/
theorem pow16 {w : Nat} (hw : w ≤ 16) : 2 ^ w ≤ 65536 := by
  have := Nat.pow_le_pow_right (n := 2) (by omega) hw
  simpa using this
theorem wordOk_iff {w v : Int} : wordOkP w v = true ↔ (1 ≤ w ∧ w ≤ 16) ∧ 0 ≤ v ∧ v < ((2 ^ w.toNat : Nat) : Int) := by
  unfold wordOkP
  rw [decide_eq_true_eq]
  constructor
  · rintro ⟨h1, h2, h3⟩; exact ⟨h1, h2, by omega⟩
  · rintro ⟨h1, h2, h3⟩; exact ⟨h1, h2, by omega⟩


theorem mask_spec {h : Hp} {w : Nat} {R : Value → Hp → Prop} (hw : w ≤ 62) (k : R (I (((2 ^ w : Nat) : Int) - 1)) h) : c_impl_mask #[I w] h R := by
  apply R_impl_mask
  unfold F_impl_mask
  have := two_pow_le hw
  have hp := pow_pos' w
  rw [if_neg (by omega), shlW_one hw, W_id (by omega) (by omega)]
  exact k
theorem isWidth_spec {h : Hp} {w : Int} {R : Value → Hp → Prop} (k : R (.bool (decide (1 ≤ w ∧ w ≤ 16))) h) : c_impl_isWidth #[I w] h R := by
  apply R_impl_isWidth
  unfold F_impl_isWidth
  exact in_spec ⟨_, rfl, k⟩
theorem l1Width_spec {h : Hp} {w : Int} {R : Value → Hp → Prop} (k : R (.bool (decide (1 ≤ w ∧ w ≤ 16))) h) : c_spec_l1Width #[I w] h R := by
  apply R_spec_l1Width
  unfold F_spec_l1Width
  exact l1In_spec ⟨_, rfl, k⟩
theorem wordOkP_eq (w v : Int) : wordOkP w v = (decide (1 ≤ w ∧ w ≤ 16) && decide (0 ≤ v ∧ v ≤ ((2 ^ w.toNat : Nat) : Int) - 1)) := by
  unfold wordOkP; rw [Bool.eq_iff_iff]; simp
theorem impl_WordOk_spec {h : Hp} {w v : Int} {R : Value → Hp → Prop} (k : R (.bool (wordOkP w v)) h) : c_impl_WordOk #[I w, I v] h R := by
  apply R_impl_WordOk
  unfold F_impl_WordOk
  rw [wordOkP_eq] at k
  refine isWidth_spec ⟨_, rfl, bsplit_of (fun e => ?_) (fun e => ?_)⟩
  · rw [e, Bool.true_and] at k
    have e' : 1 ≤ w ∧ w ≤ 16 := by simpa using e
    obtain ⟨n, rfl⟩ : ∃ n : Nat, w = n := ⟨w.toNat, by omega⟩
    rw [Int.toNat_natCast] at k
    exact mask_spec (by omega) ⟨_, rfl, in_spec ⟨_, rfl, k⟩⟩
  · rw [e, Bool.false_and] at k; exact k
theorem spec_WordOk_spec {h : Hp} {w v : Int} {R : Value → Hp → Prop} (k : R (.bool (wordOkP w v)) h) : c_spec_WordOk #[I w, I v] h R := by
  apply R_spec_WordOk
  unfold F_spec_WordOk
  rw [wordOkP_eq] at k
  refine l1Width_spec ⟨_, rfl, bsplit_of (fun e => ?_) (fun e => ?_)⟩
  · rw [e, Bool.true_and] at k
    have e' : 1 ≤ w ∧ w ≤ 16 := by simpa using e
    obtain ⟨n, rfl⟩ : ∃ n : Nat, w = n := ⟨w.toNat, by omega⟩
    rw [Int.toNat_natCast] at k
    have := two_pow_le (n := n) (by omega)
    have hp := pow_pos' n
    rw [Wu_nat (by omega), if_neg (by omega), shlW_one (by omega), W_id (by omega) (by omega)]
    exact l1In_spec ⟨_, rfl, k⟩
  · rw [e, Bool.false_and] at k; exact k
/-- A word of a width. -/
def WO (w a : Nat) : Prop := (1 ≤ w ∧ w ≤ 16) ∧ a < 2 ^ w
theorem WO.ok {w a : Nat} (e : WO w a) : wordOkP (w : Int) (a : Int) = true := wordOk_iff.2 ⟨by have := e.1; omega, by omega, by rw [Int.toNat_natCast]; have := e.2; omega⟩
theorem WO.pow {w a : Nat} (e : WO w a) : 2 ^ w ≤ 65536 := pow16 e.1.2

theorem signed_spec {h : Hp} {w a : Nat} {R : Value → Hp → Prop} (e : WO w a) (k : R (I (sgn w a)) h) : c_impl_signed #[I w, I a] h R := by
  apply R_impl_signed
  unfold F_impl_signed
  obtain ⟨⟨h1, h2⟩, ha⟩ := e
  have hp := pow_half h1
  have h16 := pow16 h2
  have w1 : W ((w : Int) - 1) = ((w - 1 : Nat) : Int) := by rw [W_id (by omega) (by omega)]; omega
  rw [w1, if_neg (by omega), if_neg (by omega), shrW_nat (by omega)]
  unfold sgn at k
  by_cases hs : 2 ^ (w - 1) ≤ a
  · have e1 : a / 2 ^ (w - 1) = 1 := by rw [Nat.div_eq_iff (pow_pos' _)]; omega
    rw [e1, shlW_nat (by omega) (by omega), Nat.one_mul, W_id (by omega) (by omega)]
    rw [if_pos hs] at k; exact k
  · have e1 : a / 2 ^ (w - 1) = 0 := Nat.div_eq_of_lt (by omega)
    rw [e1, shlW_nat (by omega) (by omega), Nat.zero_mul, W_id (by omega) (by omega)]
    rw [if_neg hs] at k
    simpa using k
theorem WordSigned_spec {h : Hp} {w a : Nat} {R : Value → Hp → Prop} (e : WO w a) (k : R (I (sgn w a)) h) : c_spec_WordSigned #[I w, I a] h R := by
  apply R_spec_WordSigned
  unfold F_spec_WordSigned
  obtain ⟨⟨h1, h2⟩, ha⟩ := e
  have hp := pow_half h1
  have h16 := pow16 h2
  have w1 : W ((w : Int) - 1) = ((w - 1 : Nat) : Int) := by rw [W_id (by omega) (by omega)]; omega
  refine spec_WordOk_spec ⟨_, rfl, bs_f (by rw [WO.ok ⟨⟨h1, h2⟩, ha⟩]; rfl) ?_⟩
  rw [w1, Wu_nat (by omega), if_neg (by omega), shlW_one (by omega)]
  unfold sgn at k
  refine bsplit_of (fun e => ?_) (fun e => ?_)
  · have hs : 2 ^ (w - 1) ≤ a := by
      have := of_decide_eq_true e; omega
    rw [if_pos hs] at k
    rw [Wu_nat (by omega), if_neg (by omega), shlW_one (by omega), W_id (by omega) (by omega)]
    exact k
  · have hs : ¬ 2 ^ (w - 1) ≤ a := by
      have := of_decide_eq_false e; omega
    rw [if_neg hs] at k; exact k
theorem fromP_tmod (w : Nat) (n : Int) : ((fromP w n : Nat) : Int) = if Int.tmod n ((2 ^ w : Nat) : Int) < 0 then Int.tmod n ((2 ^ w : Nat) : Int) + ((2 ^ w : Nat) : Int) else Int.tmod n ((2 ^ w : Nat) : Int) := by
  rw [fromP_cast]
  have hp : (0 : Int) < ((2 ^ w : Nat) : Int) := Int.ofNat_lt.2 (pow_pos' w)
  have h1 := Int.emod_nonneg n (b := ((2 ^ w : Nat) : Int)) (by omega)
  have h2 := Int.emod_lt_of_pos n hp
  have h3 := Int.tmod_eq_emod (a := n) (b := ((2 ^ w : Nat) : Int))
  have h4 : n % ((2 ^ w : Nat) : Int) = 0 → ((2 ^ w : Nat) : Int) ∣ n := Int.dvd_of_emod_eq_zero
  rw [h3]
  generalize ((2 ^ w : Nat) : Int) = N at *
  by_cases hn : 0 ≤ n ∨ N ∣ n
  · rw [if_pos hn]; split <;> omega
  · have h5 : n % N ≠ 0 := fun e => hn (.inr (h4 e))
    rw [if_neg hn]
    generalize n % N = r at *
    split <;> omega
theorem WordFrom_spec {h : Hp} {w : Nat} {n : Int} {R : Value → Hp → Prop} (hw : 1 ≤ w ∧ w ≤ 16) (k : R (I (fromP w n)) h) : c_spec_WordFrom #[I w, I n] h R := by
  apply R_spec_WordFrom
  unfold F_spec_WordFrom
  have h16 := pow16 hw.2
  have hp := pow_pos' w
  have hlt := fromP_lt w n
  have ht := fromP_tmod w n
  refine l1Width_spec ⟨_, rfl, bs_f (by simp; omega) ?_⟩
  rw [Wu_nat (by omega), if_neg (by omega), shlW_one (by omega), if_neg (by omega)]
  refine bsplit_of (fun e => ?_) (fun e => ?_)
  · have e' := of_decide_eq_true e
    rw [if_pos e'] at ht
    rw [if_neg (by omega), W_id (by omega) (by omega), ← ht]; exact k
  · have e' := of_decide_eq_false e
    rw [if_neg e'] at ht
    rw [← ht]; exact k

theorem l1Ones_spec {h : Hp} {w a : Nat} {R : Value → Hp → Prop} (hw : w ≤ 16) (k : R (I (onesP w a)) h) : c_spec_l1Ones #[I w, I a] h R := by
  apply R_spec_l1Ones
  unfold F_spec_l1Ones
  refine loop_up w (fun i vs h' => vs = [I w, I a, I (onesP i a), I i] ∧ h' = h) ⟨rfl, rfl⟩ ?_
  rintro i _ _ next hi ⟨rfl, rfl⟩ hn
  refine ⟨_, _, _, _, rfl, ?_⟩
  by_cases hlt : i < w
  · refine bs_t (by simp [hlt]) (l1Bit_spec (by omega) ⟨_, rfl, ?_⟩)
    have hl := onesP_le i a
    have e : W ((onesP i a : Int) + (if a.testBit i then 1 else 0)) = ((onesP (i + 1) a : Nat) : Int) := by
      rw [W_id (by split <;> omega) (by split <;> omega)]
      simp only [onesP]
      split <;> simp
    rw [e, W_succ (by omega)]
    exact hn hlt _ _ ⟨rfl, rfl⟩
  · have : i = w := by omega
    subst this
    exact bs_f (by simp) k

theorem and64 {a b : Nat} (ha : a < 18446744073709551616) (hb : b < 18446744073709551616) : ibits .and .u64 (a : Int) (b : Int) = ((a &&& b : Nat) : Int) := by
  show IntKind.u64.wrap _ = _
  have h1 : (BitVec.ofInt IntKind.u64.bits (a : Int) &&& BitVec.ofInt IntKind.u64.bits (b : Int)).toNat = a &&& b := by
    show (BitVec.ofInt 64 (a : Int) &&& BitVec.ofInt 64 (b : Int)).toNat = a &&& b
    rw [BitVec.ofInt_natCast, BitVec.ofInt_natCast, BitVec.toNat_and, BitVec.toNat_ofNat, BitVec.toNat_ofNat, Nat.mod_eq_of_lt (by omega), Nat.mod_eq_of_lt (by omega)]
  rw [h1, IntKind.wrap_u64]
  have := Nat.and_le_left (n := a) (m := b)
  omega
def pop1 (x : Nat) : Nat := (x / 2 &&& 6148914691236517205) + (x &&& 6148914691236517205)
def pop2 (x : Nat) : Nat := (x / 4 &&& 3689348814741910323) + (x &&& 3689348814741910323)
def pop3 (x : Nat) : Nat := (x / 16 + x) &&& 1085102592571150095
def pop4 (x : Nat) : Nat := x / 256 + x
def pop5 (x : Nat) : Nat := x / 65536 + x
def pop6 (x : Nat) : Nat := x / 4294967296 + x
def popP (x : Nat) : Nat := pop6 (pop5 (pop4 (pop3 (pop2 (pop1 x))))) &&& 127
def popChk (x : Nat) : Bool := Nat.beq (popP (2 * x)) (popP x) && Nat.beq (popP (2 * x + 1)) (popP x + 1)
def chkLo (hi : Nat) : Nat → Bool
  | 0 => true
  | n + 1 => popChk (hi * 256 + n) && chkLo hi n
def chkHi : Nat → Bool
  | 0 => true
  | n + 1 => chkLo n 256 && chkHi n
theorem chk_all : chkHi 128 = true := by kernel_rfl
theorem chkLo_at {hi : Nat} : ∀ n, chkLo hi n = true → ∀ i, i < n → popChk (hi * 256 + i) = true := by
  intro n
  induction n with
  | zero => intro _ i h; omega
  | succ n ih =>
    intro h i hi
    simp only [chkLo, Bool.and_eq_true] at h
    by_cases e : i = n
    · subst e; exact h.1
    · exact ih h.2 i (by omega)
theorem chkHi_at : ∀ n, chkHi n = true → ∀ i, i < n → chkLo i 256 = true := by
  intro n
  induction n with
  | zero => intro _ i h; omega
  | succ n ih =>
    intro h i hi
    simp only [chkHi, Bool.and_eq_true] at h
    by_cases e : i = n
    · subst e; exact h.1
    · exact ih h.2 i (by omega)
theorem pop_step {x : Nat} (h : x < 32768) : popP (2 * x) = popP x ∧ popP (2 * x + 1) = popP x + 1 := by
  have h1 := chkHi_at 128 chk_all (x / 256) (by omega)
  have h2 := chkLo_at 256 h1 (x % 256) (Nat.mod_lt _ (by omega))
  rw [show x / 256 * 256 + x % 256 = x by omega] at h2
  simp only [popChk, Bool.and_eq_true] at h2
  exact ⟨Nat.eq_of_beq_eq_true h2.1, Nat.eq_of_beq_eq_true h2.2⟩
theorem onesP_half (a : Nat) : ∀ w, onesP (w + 1) a = a % 2 + onesP w (a / 2) := by
  intro w
  induction w with
  | zero =>
    simp only [onesP, Nat.testBit_zero]
    rcases Nat.mod_two_eq_zero_or_one a with h | h <;> simp [h]
  | succ w ih =>
    rw [onesP, ih, onesP, Nat.testBit_succ]; omega
theorem popP_eq : ∀ w, w ≤ 16 → ∀ x, x < 2 ^ w → popP x = onesP w x := by
  intro w
  induction w with
  | zero => intro _ x hx; have : x = 0 := by simpa using hx
            subst this; rfl
  | succ w ih =>
    intro hw x hx
    have h16 : 2 ^ w ≤ 32768 := by
      have := Nat.pow_le_pow_right (n := 2) (by omega) (show w ≤ 15 by omega)
      simpa using this
    have hp : 2 ^ (w + 1) = 2 * 2 ^ w := by rw [Nat.pow_succ]; omega
    have h1 := ih (by omega) (x / 2) (by omega)
    have h2 := pop_step (x := x / 2) (by omega)
    rw [onesP_half, ← h1]
    rcases Nat.mod_two_eq_zero_or_one x with h | h
    · have e : 2 * (x / 2) = x := by omega
      rw [e] at h2; rw [h2.1, h]; omega
    · have e : 2 * (x / 2) + 1 = x := by omega
      rw [e] at h2; rw [h2.2, h]; omega


theorem fdivP {a k : Nat} (hk : k ≤ 64) : Int.fdiv (a : Int) (2 ^ (min (Int.toNat (k : Int)) (IntKind.bits .u64))) = ((a / 2 ^ k : Nat) : Int) := by
  have h1 : min (Int.toNat (k : Int)) (IntKind.bits .u64) = k := by simp [IntKind.bits]; omega
  rw [h1, Int.fdiv_eq_ediv_of_nonneg _ (Int.pow_nonneg (by decide))]
  simp
def q1 (x : Int) : Int := IntKind.wrap .u64 ((ibits .and .u64 (Int.fdiv x (2 ^ (min (Int.toNat 1) (IntKind.bits .u64)))) 6148914691236517205) + (ibits .and .u64 x 6148914691236517205))
def q2 (x : Int) : Int := IntKind.wrap .u64 ((ibits .and .u64 (Int.fdiv x (2 ^ (min (Int.toNat 2) (IntKind.bits .u64)))) 3689348814741910323) + (ibits .and .u64 x 3689348814741910323))
def q3 (x : Int) : Int := ibits .and .u64 (IntKind.wrap .u64 ((Int.fdiv x (2 ^ (min (Int.toNat 4) (IntKind.bits .u64)))) + x)) 1085102592571150095
def q4 (x : Int) : Int := IntKind.wrap .u64 (x + Int.fdiv x (2 ^ (min (Int.toNat 8) (IntKind.bits .u64))))
def q5 (x : Int) : Int := IntKind.wrap .u64 (x + Int.fdiv x (2 ^ (min (Int.toNat 16) (IntKind.bits .u64))))
def q6 (x : Int) : Int := IntKind.wrap .u64 (x + Int.fdiv x (2 ^ (min (Int.toNat 32) (IntKind.bits .u64))))
theorem OnesCount_spec {h : Hp} {a : Nat} {R : Value → Hp → Prop} (ha : a < 65536) (k : R (I (onesP 16 a)) h) : c_math_bits_OnesCount #[.int .u64 a] h R := by
  apply R_math_bits_OnesCount
  unfold F_math_bits_OnesCount
  apply R_math_bits_OnesCount64
  unfold F_math_bits_OnesCount64
  refine ⟨_, rfl, ?_⟩
  have e1 : q1 a = ((pop1 a : Nat) : Int) := by
    have l1 := Nat.and_le_left (n := a / 2) (m := 6148914691236517205)
    have l2 := Nat.and_le_left (n := a) (m := 6148914691236517205)
    have := fdivP (a := a) (k := 1) (by omega)
    unfold q1 pop1
    rw [show (Int.toNat 1) = Int.toNat ((1 : Nat) : Int) from rfl, this, Nat.pow_one]
    rw [show (6148914691236517205 : Int) = ((6148914691236517205 : Nat) : Int) from rfl, and64 (by omega) (by omega), and64 (by omega) (by omega), ← Int.natCast_add, Wu_nat (by omega)]
  have b1 : pop1 a ≤ 98304 := by
    have l1 := Nat.and_le_left (n := a / 2) (m := 6148914691236517205)
    have l2 := Nat.and_le_left (n := a) (m := 6148914691236517205)
    unfold pop1; omega
  have e2 : ∀ x : Nat, x ≤ 98304 → q2 x = ((pop2 x : Nat) : Int) ∧ pop2 x ≤ 196608 := by
    intro x hx
    have l1 := Nat.and_le_left (n := x / 4) (m := 3689348814741910323)
    have l2 := Nat.and_le_left (n := x) (m := 3689348814741910323)
    have := fdivP (a := x) (k := 2) (by omega)
    refine ⟨?_, by unfold pop2; omega⟩
    unfold q2 pop2
    rw [show (Int.toNat 2) = Int.toNat ((2 : Nat) : Int) from rfl, this, show 2 ^ 2 = 4 from rfl]
    rw [show (3689348814741910323 : Int) = ((3689348814741910323 : Nat) : Int) from rfl, and64 (by omega) (by omega), and64 (by omega) (by omega), ← Int.natCast_add, Wu_nat (by omega)]
  have e3 : ∀ x : Nat, x ≤ 196608 → q3 x = ((pop3 x : Nat) : Int) ∧ pop3 x ≤ 393216 := by
    intro x hx
    have l1 := Nat.and_le_left (n := x / 16 + x) (m := 1085102592571150095)
    have := fdivP (a := x) (k := 4) (by omega)
    refine ⟨?_, by unfold pop3; omega⟩
    unfold q3 pop3
    rw [show (Int.toNat 4) = Int.toNat ((4 : Nat) : Int) from rfl, this, show 2 ^ 4 = 16 from rfl, ← Int.natCast_add, Wu_nat (by omega)]
    rw [show (1085102592571150095 : Int) = ((1085102592571150095 : Nat) : Int) from rfl, and64 (by omega) (by omega)]
  have e4 : ∀ x : Nat, x ≤ 393216 → q4 x = ((pop4 x : Nat) : Int) ∧ pop4 x ≤ 786432 := by
    intro x hx
    have := fdivP (a := x) (k := 8) (by omega)
    refine ⟨?_, by unfold pop4; omega⟩
    unfold q4 pop4
    rw [show (Int.toNat 8) = Int.toNat ((8 : Nat) : Int) from rfl, this, show 2 ^ 8 = 256 from rfl, ← Int.natCast_add, Wu_nat (by omega), Nat.add_comm]
  have e5 : ∀ x : Nat, x ≤ 786432 → q5 x = ((pop5 x : Nat) : Int) ∧ pop5 x ≤ 1572864 := by
    intro x hx
    have := fdivP (a := x) (k := 16) (by omega)
    refine ⟨?_, by unfold pop5; omega⟩
    unfold q5 pop5
    rw [show (Int.toNat 16) = Int.toNat ((16 : Nat) : Int) from rfl, this, show 2 ^ 16 = 65536 from rfl, ← Int.natCast_add, Wu_nat (by omega), Nat.add_comm]
  have e6 : ∀ x : Nat, x ≤ 1572864 → q6 x = ((pop6 x : Nat) : Int) ∧ pop6 x ≤ 3145728 := by
    intro x hx
    have := fdivP (a := x) (k := 32) (by omega)
    refine ⟨?_, by unfold pop6; omega⟩
    unfold q6 pop6
    rw [show (Int.toNat 32) = Int.toNat ((32 : Nat) : Int) from rfl, this, show 2 ^ 32 = 4294967296 from rfl, ← Int.natCast_add, Wu_nat (by omega), Nat.add_comm]
  have b2 := (e2 _ b1).2
  have b3 := (e3 _ b2).2
  have b4 := (e4 _ b3).2
  have b5 := (e5 _ b4).2
  have b6 := (e6 _ b5).2
  show R (I (andW (W (q6 (q5 (q4 (q3 (q2 (q1 a))))))) 127)) h
  rw [e1, (e2 _ b1).1, (e3 _ b2).1, (e4 _ b3).1, (e5 _ b4).1, (e6 _ b5).1, W_nat (by omega), show (127 : Int) = ((127 : Nat) : Int) from rfl, andW_nat (by omega) (by omega)]
  have := popP_eq 16 (by omega) a (by simpa using ha)
  unfold popP at this
  rw [this]; exact k

theorem onesP_more {w a : Nat} (ha : a < 2 ^ w) : ∀ d, onesP (w + d) a = onesP w a := by
  intro d
  induction d with
  | zero => rfl
  | succ d ih =>
    have hz : a.testBit (w + d) = false := Nat.testBit_lt_two_pow (Nat.lt_of_lt_of_le ha (Nat.pow_le_pow_right (by omega) (by omega)))
    rw [← Nat.add_assoc, onesP, ih, hz]
    simp

theorem one_spec {h : Hp} {kind : Int} {w a : Nat} {R : Value → Hp → Prop} (hk : 1 ≤ kind ∧ kind ≤ 5) (e : WO w a)
    (k : R (.tuple #[I (oneP kind w a).1, I (oneP kind w a).2]) h) : c_impl_one #[I kind, I w, I a] h R := by
  apply R_impl_one
  unfold F_impl_one
  have h16 := e.pow
  have hp := pow_pos' w
  have ha := e.2
  have hw := e.1
  unfold oneP at k
  refine bsplit_of (fun e1 => ?_) (fun e1 => bsplit_of (fun e2 => ?_) (fun e2 => bsplit_of (fun e3 => ?_) (fun e3 => bsplit_of (fun e4 => ?_) (fun e4 => ?_))))
  · rw [if_pos (by simpa using e1)] at k
    refine mask_spec (by omega) ⟨_, rfl, ?_⟩
    have : W ((((2 ^ w : Nat) : Int) - 1) - a) = ((2 ^ w - 1 - a : Nat) : Int) := by rw [W_id (by omega) (by omega)]; omega
    rw [this]; exact k
  · rw [if_neg (by simpa using e1), if_pos (by simpa using e2)] at k
    refine mask_spec (by omega) ⟨_, rfl, ?_⟩
    rw [W_id (n := 0 - (a : Int)) (by omega) (by omega), andW_mask (by omega), Int.zero_sub]
    exact k
  · rw [if_neg (by simpa using e1), if_neg (by simpa using e2), if_pos (by simpa using e3)] at k
    refine bit_spec ⟨_, rfl, ?_⟩
    by_cases h0 : a = 0
    · subst h0; simpa using k
    · have : ((a : Int) != 0) = true := by simpa using h0
      rw [this]; rw [if_neg h0] at k; simpa using k
  · rw [if_neg (by simpa using e1), if_neg (by simpa using e2), if_neg (by simpa using e3), if_pos (by simpa using e4)] at k
    refine mask_spec (by omega) ⟨_, rfl, bit_spec ⟨_, rfl, ?_⟩⟩
    by_cases h0 : a = 2 ^ w - 1
    · have : ((a : Int) == ((2 ^ w : Nat) : Int) - 1) = true := by rw [beq_iff_eq]; omega
      rw [this]; rw [if_pos h0] at k; simpa using k
    · have : ((a : Int) == ((2 ^ w : Nat) : Int) - 1) = false := by rw [beq_eq_false_iff_ne]; omega
      rw [this]; rw [if_neg h0] at k; simpa using k
  · rw [if_neg (by simpa using e1), if_neg (by simpa using e2), if_neg (by simpa using e3), if_neg (by simpa using e4)] at k
    rw [Wu_nat (by omega)]
    refine OnesCount_spec (by omega) ⟨_, rfl, ?_⟩
    have := onesP_more ha (16 - w)
    rw [show w + (16 - w) = 16 by omega] at this
    rw [this, tmod_two]; exact k

theorem WordOne_spec {h : Hp} {kind : Int} {w a : Nat} {R : Value → Hp → Prop} (hk : 1 ≤ kind ∧ kind ≤ 5) (e : WO w a)
    (k : R (.tuple #[I (oneP kind w a).1, I (oneP kind w a).2, .bool true]) h) : c_spec_WordOne #[I kind, I w, I a] h R := by
  apply R_spec_WordOne
  unfold F_spec_WordOne
  have h16 := e.pow
  have hp := pow_pos' w
  have ha := e.2
  have hw := e.1
  unfold oneP at k
  refine spec_WordOk_spec ⟨_, rfl, bs_f (by rw [e.ok]; rfl) ?_⟩
  refine bsplit_of (fun e1 => ?_) (fun e1 => bsplit_of (fun e2 => ?_) (fun e2 => bsplit_of (fun e3 => ?_) (fun e3 => bsplit_of (fun e4 => ?_) (fun e4 => ?_))))
  · rw [if_pos (by simpa using e1)] at k
    rw [Wu_nat (by omega), if_neg (by omega), shlW_one (by omega), W_id (n := ((2 ^ w : Nat) : Int) - 1) (by omega) (by omega)]
    have : W ((((2 ^ w : Nat) : Int) - 1) - a) = ((2 ^ w - 1 - a : Nat) : Int) := by rw [W_id (by omega) (by omega)]; omega
    rw [this]; exact k
  · rw [if_neg (by simpa using e1), if_pos (by simpa using e2)] at k
    rw [W_id (n := 0 - (a : Int)) (by omega) (by omega), Int.zero_sub]
    exact WordFrom_spec hw ⟨_, rfl, k⟩
  · rw [if_neg (by simpa using e1), if_neg (by simpa using e2), if_pos (by simpa using e3)] at k
    refine l1Yes_spec ⟨_, rfl, ?_⟩
    by_cases h0 : a = 0
    · subst h0; simpa using k
    · have : decide ((a : Int) > 0) = true := by simp; omega
      rw [this]; rw [if_neg h0] at k; simpa using k
  · rw [if_neg (by simpa using e1), if_neg (by simpa using e2), if_neg (by simpa using e3), if_pos (by simpa using e4)] at k
    refine l1Ones_spec (by omega) ⟨_, rfl, l1Yes_spec ⟨_, rfl, ?_⟩⟩
    have hf := onesP_full ha
    by_cases h0 : a = 2 ^ w - 1
    · have : (((onesP w a : Nat) : Int) == (w : Int)) = true := by rw [beq_iff_eq, hf.2 h0]
      rw [this]; rw [if_pos h0] at k; simpa using k
    · have : (((onesP w a : Nat) : Int) == (w : Int)) = false := by rw [beq_eq_false_iff_ne]; intro he; exact h0 (hf.1 (by omega))
      rw [this]; rw [if_neg h0] at k; simpa using k
  · rw [if_neg (by simpa using e1), if_neg (by simpa using e2), if_neg (by simpa using e3), if_neg (by simpa using e4)] at k
    have : kind = 5 := by
      have h1 : kind ≠ 1 := by simpa using e1
      have h2 : kind ≠ 2 := by simpa using e2
      have h3 : kind ≠ 3 := by simpa using e3
      have h4 : kind ≠ 4 := by simpa using e4
      omega
    refine bs_t (by simpa using this) (l1Ones_spec (by omega) ⟨_, rfl, ?_⟩)
    rw [tmod_two]; exact k


theorem tmod_nat (a b : Nat) : Int.tmod (a : Int) (b : Int) = ((a % b : Nat) : Int) := (Int.ofNat_tmod a b).symm
theorem tdiv_nat (a b : Nat) : Int.tdiv (a : Int) (b : Int) = ((a / b : Nat) : Int) := (Int.ofNat_tdiv a b).symm
theorem mul16 {a b : Nat} (ha : a < 65536) (hb : b ≤ 65536) : a * b ≤ 4294967296 := by
  have := Nat.mul_le_mul (Nat.le_of_lt ha) hb
  omega
theorem sgn16 {w a : Nat} (e : WO w a) : -65536 ≤ sgn w a ∧ sgn w a ≤ 65536 := by
  have h := sgn_bound e.1.1 e.2
  have hp := pow_half e.1.1
  have h16 := e.pow
  omega
theorem ne_of {a b : Int} (e : (a == b) = false) : ¬ a = b := by simpa using e
theorem eq_of {a b : Int} (e : (a == b) = true) : a = b := by simpa using e

theorem rotate_spec {h : Hp} {w a p : Nat} {R : Value → Hp → Prop} (e : WO w a) (k : R (I (rolP w a (p % w))) h) : c_impl_rotate #[I w, I a, I p] h R := by
  apply R_impl_rotate
  unfold F_impl_rotate
  obtain ⟨⟨h1, h2⟩, ha⟩ := e
  have h16 := pow16 h2
  have hm : p % w < w := Nat.mod_lt _ (by omega)
  have hpm := pow16 (w := p % w) (by omega)
  have ht : Int.tmod (p : Int) (w : Int) = ((p % w : Nat) : Int) := tmod_nat p w
  have hw : W ((w : Int) - ((p % w : Nat) : Int)) = ((w - p % w : Nat) : Int) := by rw [W_id (by omega) (by omega)]; omega
  have hmul := mul16 (a := a) (b := 2 ^ (p % w)) (by omega) hpm
  rw [if_neg (by omega), ht, if_neg (by omega), hw, if_neg (by omega)]
  refine mask_spec (by omega) ⟨_, rfl, ?_⟩
  have hd : a / 2 ^ (w - p % w) ≤ a := Nat.div_le_self _ _
  rw [shlW_nat (by omega) (by omega), shrW_nat (by omega), orW_nat (by omega) (by omega), andW_mask (by omega), fromP_nat]
  exact k
theorem divided_spec {h : Hp} {kind : Int} {w a b : Nat} {R : Value → Hp → Prop} (hk : kind = 14 ∨ kind = 15) (ea : WO w a) (eb : WO w b)
    (k : R (I ((if kind = 14 then sdivP w a b else sremP w a b : Nat) : Int)) h) : c_impl_divided #[I kind, I w, I a, I b] h R := by
  apply R_impl_divided
  unfold F_impl_divided
  have h16 := ea.pow
  have hp := pow_pos' w
  have sa := sgn16 ea
  have sb := sgn16 eb
  have hw := ea.1
  refine signed_spec ea ⟨_, rfl, signed_spec eb ⟨_, rfl, ?_⟩⟩
  unfold sdivP sremP at k
  by_cases hy : sgn w b = 0
  · rw [if_pos hy, if_pos hy] at k
    rw [hy]
    refine joinP_of (fun J => J (decide (kind = 15))) ?_ (fun J hJ => bs_t rfl (by rw [show (kind == 15) = decide (kind = 15) from rfl]; exact hJ))
    refine bsplit_of (fun e => ?_) (fun e => ?_)
    · have e' : kind = 15 := by simpa using e
      rw [if_neg (by omega)] at k; exact k
    · have e' : kind = 14 := by have : ¬ kind = 15 := by simpa using e
                                omega
      rw [if_pos e'] at k
      refine joinP_of (fun J => J (decide (sgn w a < 0))) ?_ (fun J hJ => bs_t rfl hJ)
      refine bsplit_of (fun e => ?_) (fun e => bs_t rfl (mask_spec (by omega) ⟨_, rfl, ?_⟩))
      · rw [if_pos (by simpa using e)] at k; exact k
      · rw [if_neg (by simpa using e)] at k
        have : ((2 ^ w - 1 : Nat) : Int) = ((2 ^ w : Nat) : Int) - 1 := by omega
        rw [← this]; exact k
  · rw [if_neg hy, if_neg hy] at k
    have hyb : (sgn w b == 0) = false := by simpa using hy
    refine joinP_of (fun J => J false) ?_ (fun J hJ => bs_f hyb hJ)
    refine bs_f rfl (joinP_of (fun J => J false) ?_ (fun J hJ => bs_f hyb hJ))
    refine bs_f rfl (bs_f hyb ?_)
    have hdiv : (Int.tdiv (sgn w a) (sgn w b)).natAbs ≤ 65536 := by
      rw [Int.natAbs_tdiv]
      exact Nat.le_trans (Nat.div_le_self _ _) (by omega)
    refine bsplit_of (fun e => ?_) (fun e => ?_)
    · rw [if_pos (by simpa using e)] at k
      rw [if_neg hy]
      refine mask_spec (by omega) ⟨_, rfl, ?_⟩
      rw [W_id (by omega) (by omega), andW_mask (by omega)]; exact k
    · rw [if_neg (by simpa using e)] at k
      rw [if_neg hy]
      refine mask_spec (by omega) ⟨_, rfl, ?_⟩
      rw [andW_mask (by omega)]; exact k
def shiftP (kind : Int) (w a b : Nat) : Nat := if kind = 16 then shlP w a b else if kind = 17 then shrP w a b else sarP w a b
theorem shifted_spec {h : Hp} {kind : Int} {w a b : Nat} {R : Value → Hp → Prop} (ea : WO w a) (hb : b ≤ 65536)
    (k : R (I (shiftP kind w a b)) h) : c_impl_shifted #[I kind, I w, I a, I b] h R := by
  apply R_impl_shifted
  unfold F_impl_shifted
  have h16 := ea.pow
  have ha := ea.2
  have hw := ea.1
  have hmin : (if (w : Int) < (b : Int) then (w : Int) else (b : Int)) = ((min b w : Nat) : Int) := by
    by_cases h : w < b
    · rw [if_pos (by omega), Nat.min_eq_right (by omega)]
    · rw [if_neg (by omega), Nat.min_eq_left (by omega)]
  have hm : min b w ≤ w := Nat.min_le_right _ _
  have hpm := pow16 (w := min b w) (by omega)
  have hmul := mul16 (a := a) (b := 2 ^ min b w) (by omega) hpm
  unfold shiftP at k
  rw [hmin]
  refine bsplit_of (fun e => ?_) (fun e => bsplit_of (fun e2 => ?_) (fun e2 => ?_))
  · rw [if_pos (eq_of e)] at k
    rw [if_neg (by omega)]
    refine mask_spec (by omega) ⟨_, rfl, ?_⟩
    rw [shlW_nat (by omega) (by omega), andW_mask (by omega), fromP_nat]; exact k
  · rw [if_neg (ne_of e), if_pos (eq_of e2)] at k
    rw [if_neg (by omega), shrW_nat (by omega)]; exact k
  · rw [if_neg (ne_of e), if_neg (ne_of e2)] at k
    refine signed_spec ea ⟨_, rfl, ?_⟩
    rw [if_neg (by omega)]
    refine mask_spec (by omega) ⟨_, rfl, ?_⟩
    rw [shrW_int (by omega), andW_mask (by omega)]; exact k
theorem compared_spec {h : Hp} {kind : Int} {w a b : Nat} {R : Value → Hp → Prop} (hk : 21 ≤ kind ∧ kind ≤ 28) (ea : WO w a) (eb : WO w b)
    (k : R (.bool (saysP kind w a b)) h) : c_impl_compared #[I kind, I w, I a, I b] h R := by
  apply R_impl_compared
  unfold F_impl_compared
  have h16 := ea.pow
  have hp := pow_pos' w
  have sa := sgn16 ea
  have sb := sgn16 eb
  have ha := ea.2
  have hb := eb.2
  have hw := ea.1
  unfold saysP at k
  have dd : ∀ {p q : Prop} [Decidable p] [Decidable q], (p ↔ q) → decide p = decide q := fun h => by rw [decide_eq_decide]; exact h
  refine signed_spec ea ⟨_, rfl, signed_spec eb ⟨_, rfl, ?_⟩⟩
  refine bsplit_of (fun e1 => ?_) (fun e1 => bsplit_of (fun e2 => ?_) (fun e2 => bsplit_of (fun e3 => ?_) (fun e3 => bsplit_of (fun e4 => ?_) (fun e4 => bsplit_of (fun e5 => ?_) (fun e5 => bsplit_of (fun e6 => ?_) (fun e6 => bsplit_of (fun e7 => ?_) (fun e7 => ?_)))))))
  · rw [if_pos (eq_of e1)] at k
    have : ((a : Int) == (b : Int)) = decide (a = b) := by rw [Bool.eq_iff_iff]; simp; omega
    rw [this]; exact k
  all_goals rw [if_neg (ne_of e1)] at k
  · rw [if_pos (eq_of e2)] at k
    rw [dd (p := (a : Int) < (b : Int)) (q := a < b) (by omega)]; exact k
  all_goals rw [if_neg (ne_of e2)] at k
  · rw [if_pos (eq_of e3)] at k; exact k
  all_goals rw [if_neg (ne_of e3)] at k
  · rw [if_pos (eq_of e4)] at k
    rw [dd (p := (a : Int) ≤ (b : Int)) (q := a ≤ b) (by omega)]; exact k
  all_goals rw [if_neg (ne_of e4)] at k
  · rw [if_pos (eq_of e5)] at k; exact k
  all_goals rw [if_neg (ne_of e5)] at k
  · rw [if_pos (eq_of e6)] at k
    refine mask_spec (by omega) ⟨_, rfl, ?_⟩
    rw [W_id (by omega) (by omega), dd (p := (a : Int) + (b : Int) > ((2 ^ w : Nat) : Int) - 1) (q := 2 ^ w ≤ a + b) (by omega)]; exact k
  all_goals rw [if_neg (ne_of e6)] at k
  · rw [if_pos (eq_of e7)] at k
    have w1 : W ((w : Int) - 1) = ((w - 1 : Nat) : Int) := by rw [W_id (by omega) (by omega)]; omega
    have hpp := pow_half hw.1
    rw [w1, if_neg (by omega), if_neg (by omega), shlW_neg (by omega), shlW_one (by omega), W_id (n := sgn w a + sgn w b) (by omega) (by omega), W_id (n := ((2 ^ (w - 1) : Nat) : Int) - 1) (by omega) (by omega)]
    refine in_spec ⟨_, rfl, ?_⟩
    rw [dd (p := -((2 ^ (w - 1) : Nat) : Int) ≤ sgn w a + sgn w b ∧ sgn w a + sgn w b ≤ ((2 ^ (w - 1) : Nat) : Int) - 1) (q := -((2 ^ (w - 1) : Nat) : Int) ≤ sgn w a + sgn w b ∧ sgn w a + sgn w b < ((2 ^ (w - 1) : Nat) : Int)) (by omega)]
    exact k
  · rw [if_neg (ne_of e7)] at k
    have hmul := mul16 (a := a) (b := b) (by omega) (by omega)
    have hmi : (a : Int) * (b : Int) = ((a * b : Nat) : Int) := (Int.natCast_mul _ _).symm
    refine mask_spec (by omega) ⟨_, rfl, ?_⟩
    rw [hmi]
    generalize a * b = ab at *
    rw [W_nat (by omega), dd (p := (ab : Int) > ((2 ^ w : Nat) : Int) - 1) (q := 2 ^ w ≤ ab) (by omega)]; exact k

theorem two_spec {h : Hp} {kind : Int} {w a b : Nat} {R : Value → Hp → Prop} (hk : 6 ≤ kind ∧ kind ≤ 28) (ea : WO w a) (eb : WO w b)
    (k : R (.tuple #[I (twoP kind w a b).1, I (twoP kind w a b).2]) h) : c_impl_two #[I kind, I w, I a, I b] h R := by
  apply R_impl_two
  unfold F_impl_two
  have h16 := ea.pow
  have hp := pow_pos' w
  have ha := ea.2
  have hb := eb.2
  have hw := ea.1
  have hand : a &&& b ≤ a := Nat.and_le_left
  have hmul := mul16 (a := a) (b := b) (by omega) (by omega)
  by_cases h20 : kind ≤ 20
  rotate_left
  · have t : twoP kind w a b = (if saysP kind w a b then 1 else 0, 1) := by unfold twoP; rw [if_neg h20]
    rw [t] at k
    have nb : ∀ n : Int, n ≤ 20 → (kind == n) = false := fun n hn => by rw [beq_eq_false_iff_ne]; omega
    refine bs_f (nb _ (by omega)) (bs_f (nb _ (by omega)) (bs_f (nb _ (by omega)) (bs_f (nb _ (by omega)) (bs_f (nb _ (by omega)) (bs_f (nb _ (by omega)) (bs_f (nb _ (by omega)) (bs_f (nb _ (by omega)) ?_)))))))
    refine joinP_of (fun J => J false) ?_ (fun J hJ => bs_f (nb _ (by omega)) (by rw [nb 15 (by omega)]; exact hJ))
    refine bs_f rfl (joinP_of (fun J => J false) ?_ (fun J hJ => bs_f (nb _ (by omega)) (bs_f (nb _ (by omega)) (by rw [nb 18 (by omega)]; exact hJ))))
    refine bs_f rfl (bs_f (nb _ (by omega)) (bs_f (nb _ (by omega)) ?_))
    refine compared_spec (by omega) ea eb ⟨_, rfl, bit_spec ⟨_, rfl, ?_⟩⟩
    cases hs : saysP kind w a b
    · rw [hs] at k; simpa using k
    · rw [hs] at k; simpa using k
  have t : twoP kind w a b = (calcP kind w a b, w) := by unfold twoP; rw [if_pos h20]
  rw [t] at k
  unfold calcP at k
  simp only at k
  refine bsplit_of (fun e => ?_) (fun e6 => ?_)
  · rw [if_pos (eq_of e)] at k; rw [andW_nat (by omega) (by omega)]; exact k
  rw [if_neg (ne_of e6)] at k
  refine bsplit_of (fun e => ?_) (fun e7 => ?_)
  · rw [if_pos (eq_of e)] at k; rw [orW_nat (by omega) (by omega)]; exact k
  rw [if_neg (ne_of e7)] at k
  refine bsplit_of (fun e => ?_) (fun e8 => ?_)
  · rw [if_pos (eq_of e)] at k; rw [xorW_nat (by omega) (by omega)]; exact k
  rw [if_neg (ne_of e8)] at k
  refine bsplit_of (fun e => ?_) (fun e9 => ?_)
  · rw [if_pos (eq_of e)] at k
    refine mask_spec (by omega) ⟨_, rfl, ?_⟩
    rw [W_id (by omega) (by omega), andW_mask (by omega)]; exact k
  rw [if_neg (ne_of e9)] at k
  refine bsplit_of (fun e => ?_) (fun e10 => ?_)
  · rw [if_pos (eq_of e)] at k
    refine mask_spec (by omega) ⟨_, rfl, ?_⟩
    rw [W_id (by omega) (by omega), andW_mask (by omega)]; exact k
  rw [if_neg (ne_of e10)] at k
  refine bsplit_of (fun e => ?_) (fun e11 => ?_)
  · rw [if_pos (eq_of e)] at k
    refine mask_spec (by omega) ⟨_, rfl, ?_⟩
    have hmi : (a : Int) * (b : Int) = ((a * b : Nat) : Int) := (Int.natCast_mul _ _).symm
    rw [hmi] at k ⊢
    generalize a * b = ab at *
    rw [W_nat (by omega), andW_mask (by omega)]; exact k
  rw [if_neg (ne_of e11)] at k
  refine bsplit_of (fun e => ?_) (fun e12 => ?_)
  · rw [if_pos (eq_of e)] at k
    refine mask_spec (by omega) ⟨_, rfl, bsplit_of (fun eb0 => ?_) (fun eb0 => ?_)⟩
    · have hb0 : ¬ b = 0 := by have := of_decide_eq_true eb0; omega
      rw [if_neg hb0] at k
      have hd := Nat.div_le_self a b
      rw [if_neg (by omega), tdiv_nat, W_nat (by omega)]; exact k
    · have hb0 : b = 0 := by have := of_decide_eq_false eb0; omega
      rw [if_pos hb0] at k
      have : ((2 ^ w - 1 : Nat) : Int) = ((2 ^ w : Nat) : Int) - 1 := by omega
      rw [← this]; exact k
  rw [if_neg (ne_of e12)] at k
  refine bsplit_of (fun e => ?_) (fun e13 => ?_)
  · rw [if_pos (eq_of e)] at k
    refine bsplit_of (fun eb0 => ?_) (fun eb0 => ?_)
    · have hb0 : ¬ b = 0 := by have := of_decide_eq_true eb0; omega
      rw [if_neg hb0] at k
      rw [if_neg (by omega), tmod_nat]; exact k
    · have hb0 : b = 0 := by have := of_decide_eq_false eb0; omega
      rw [if_pos hb0] at k; exact k
  rw [if_neg (ne_of e13)] at k
  refine joinP_of (fun J => J (decide (kind = 14 ∨ kind = 15))) ?_ ?_
  rotate_left
  · intro J hJ
    refine bsplit_of (fun e => ?_) (fun e => ?_)
    · rw [decide_eq_true (.inl (eq_of e))] at hJ; exact hJ
    · have : (kind == 15) = decide (kind = 14 ∨ kind = 15) := by
        have := ne_of e
        rw [Bool.eq_iff_iff]; simp [this]
      rw [this]; exact hJ
  refine bsplit_of (fun e => ?_) (fun e1415 => ?_)
  · have e' : kind = 14 ∨ kind = 15 := by simpa using e
    refine divided_spec e' ea eb ⟨_, rfl, ?_⟩
    rcases e' with rfl | rfl
    · simpa using k
    · simpa using k
  have n14 : ¬ kind = 14 ∧ ¬ kind = 15 := by simpa using e1415
  rw [if_neg n14.1, if_neg n14.2] at k
  refine joinP_of (fun J => J (decide (kind = 16 ∨ kind = 17 ∨ kind = 18))) ?_ ?_
  rotate_left
  · intro J hJ
    refine bsplit_of (fun e => ?_) (fun e => bsplit_of (fun e2 => ?_) (fun e2 => ?_))
    · rw [decide_eq_true (.inl (eq_of e))] at hJ; exact hJ
    · rw [decide_eq_true (.inr (.inl (eq_of e2)))] at hJ; exact hJ
    · have : (kind == 18) = decide (kind = 16 ∨ kind = 17 ∨ kind = 18) := by
        have h1 := ne_of e
        have h2 := ne_of e2
        rw [Bool.eq_iff_iff]; simp [h1, h2]
      rw [this]; exact hJ
  refine bsplit_of (fun e => ?_) (fun e1618 => ?_)
  · have e' : kind = 16 ∨ kind = 17 ∨ kind = 18 := by simpa using e
    refine shifted_spec ea (by omega) ⟨_, rfl, ?_⟩
    unfold shiftP
    rcases e' with rfl | rfl | rfl
    · simpa using k
    · simpa using k
    · simpa using k
  have n16 : ¬ kind = 16 ∧ ¬ kind = 17 ∧ ¬ kind = 18 := by simpa using e1618
  rw [if_neg n16.1, if_neg n16.2.1, if_neg n16.2.2] at k
  refine bsplit_of (fun e => ?_) (fun e19 => ?_)
  · rw [if_pos (eq_of e)] at k
    exact rotate_spec ea ⟨_, rfl, k⟩
  rw [if_neg (ne_of e19)] at k
  have h20' : kind = 20 := by
    have := ne_of e6; have := ne_of e7; have := ne_of e8; have := ne_of e9; have := ne_of e10; have := ne_of e11; have := ne_of e12; have := ne_of e13; have := ne_of e19
    omega
  refine bs_t (by simpa using h20') ?_
  have hm : b % w < w := Nat.mod_lt _ (by omega)
  have hw2 : W ((w : Int) - ((b % w : Nat) : Int)) = ((w - b % w : Nat) : Int) := by rw [W_id (by omega) (by omega)]; omega
  rw [if_neg (by omega), tmod_nat, hw2]
  exact rotate_spec ea ⟨_, rfl, k⟩


end Go.Lead
