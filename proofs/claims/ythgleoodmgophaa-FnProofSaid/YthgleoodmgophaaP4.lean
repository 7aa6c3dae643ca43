/- What follows clause by clause, as a whole: it follows; and more clauses take nothing back. -/
import Derived.Test.YthgleoodmgophaaC2
namespace Go.Lead
set_option linter.unusedVariables false
set_option linter.unusedSimpArgs false

/-- A clause that a set of literals neither goes against nor drives on. -/
def Stable (S : List Int) (l : List Int) : Prop :=
  (∃ x ∈ l, x ∈ S) ∨ ∃ x ∈ l, ∃ y ∈ l, x ≠ y ∧ (x ∉ S ∧ -x ∉ S) ∧ (y ∉ S ∧ -y ∉ S)
def Cons (S : List Int) : Prop := ∀ x ∈ S, -x ∉ S
def WfL (v : Int) (l : List Int) : Prop := ∀ x ∈ l, x ≠ 0 ∧ -v ≤ x ∧ x ≤ v
def WfC (v : Int) (c : List (List Int)) : Prop := ∀ l ∈ c, WfL v l

theorem leftP_cases (set : List Int) : ∀ (l : List Int) (left : Int), (∀ x ∈ l, x ≠ 0) → (left ≠ 0 → left ∉ set ∧ -left ∉ set) →
    (leftP set l left = (0, false) ∧ ((∃ x ∈ l, x ∈ set) ∨ ∃ x ∈ l, ∃ y ∈ left :: l, y ≠ 0 ∧ x ≠ y ∧ (x ∉ set ∧ -x ∉ set) ∧ (y ∉ set ∧ -y ∉ set))) ∨
    ((leftP set l left).2 = ((leftP set l left).1 == 0) ∧ (left ≠ 0 → (leftP set l left).1 = left) ∧ ∀ x ∈ l, x = (leftP set l left).1 ∨ -x ∈ set) := by
  intro l
  induction l with
  | nil => intro left _ _; exact .inr ⟨rfl, fun _ => rfl, by simp⟩
  | cons x r ih =>
    intro left hx ho
    have hr := fun y hy => hx y (List.mem_cons_of_mem _ hy)
    have hx0 := hx x (by simp)
    simp only [leftP]
    by_cases h1 : set.contains x = true
    · rw [if_pos h1]; exact .inl ⟨rfl, .inl ⟨x, by simp, by simpa using h1⟩⟩
    rw [if_neg h1]
    by_cases h2 : set.contains (-x) = true
    · rw [if_pos h2]
      rcases ih left hr ho with ⟨e, h⟩ | ⟨e, h, h'⟩
      · refine .inl ⟨e, ?_⟩
        rcases h with ⟨z, hz, hs⟩ | ⟨z, hz, y, hy, h⟩
        · exact .inl ⟨z, by simp [hz], hs⟩
        · refine .inr ⟨z, by simp [hz], y, ?_, h⟩
          rcases List.mem_cons.1 hy with rfl | hy
          · simp
          · simp [hy]
      · refine .inr ⟨e, h, ?_⟩
        intro z hz
        rcases List.mem_cons.1 hz with rfl | hz
        · exact .inr (by simpa using h2)
        · exact h' z hz
    rw [if_neg h2]
    have hxo : x ∉ set ∧ -x ∉ set := ⟨by simpa using h1, by simpa using h2⟩
    by_cases h3 : (left != 0 && left != x) = true
    · rw [if_pos h3]
      simp at h3
      exact .inl ⟨rfl, .inr ⟨x, by simp, left, by simp, h3.1, fun e => h3.2 e.symm, hxo, ho h3.1⟩⟩
    rw [if_neg h3]
    have hl : left ≠ 0 → left = x := by simpa using h3
    rcases ih x hr (fun _ => hxo) with ⟨e, h⟩ | ⟨e, h, h'⟩
    · refine .inl ⟨e, ?_⟩
      rcases h with ⟨z, hz, hs⟩ | ⟨z, hz, y, hy, h⟩
      · exact .inl ⟨z, by simp [hz], hs⟩
      · exact .inr ⟨z, by simp [hz], y, List.mem_cons_of_mem _ hy, h⟩
    · refine .inr ⟨e, fun h0 => ?_, ?_⟩
      · rw [h hx0, hl h0]
      · intro z hz
        rcases List.mem_cons.1 hz with rfl | hz
        · exact .inl (h hx0).symm
        · exact h' z hz

theorem leftP_sub {set S l : List Int} (hs : set ⊆ S) (hc : Cons S) (hl : ∀ x ∈ l, x ≠ 0) (st : Stable S l) :
    (leftP set l 0).2 = false ∧ ((leftP set l 0).1 ≠ 0 → (leftP set l 0).1 ∈ S) := by
  rcases leftP_cases set l 0 hl (fun h => absurd rfl h) with ⟨e, _⟩ | ⟨e, _, h⟩
  · rw [e]; exact ⟨rfl, fun h => absurd rfl h⟩
  · obtain ⟨x, hx, hn, hS⟩ : ∃ x ∈ l, x = (leftP set l 0).1 ∧ x ∈ S := by
      rcases st with ⟨x, hx, hS⟩ | ⟨x, hx, y, hy, hne, hxo, hyo⟩
      · rcases h x hx with h1 | h1
        · exact ⟨x, hx, h1, hS⟩
        · exact absurd (hs h1) (hc x hS)
      · rcases h x hx with h1 | h1
        · rcases h y hy with h2 | h2
          · exact absurd (h1.trans h2.symm) hne
          · exact absurd (hs h2) hyo.2
        · exact absurd (hs h1) hxo.2
    rw [e, ← hn]
    exact ⟨by simpa using hl x hx, fun _ => hS⟩
theorem leftP_stable {set l : List Int} (hl : ∀ x ∈ l, x ≠ 0) (h1 : (leftP set l 0).2 = false) (h2 : (leftP set l 0).1 = 0) : Stable set l := by
  rcases leftP_cases set l 0 hl (fun h => absurd rfl h) with ⟨e, h⟩ | ⟨e, _, h⟩
  · refine h.imp id ?_
    rintro ⟨x, hx, y, hy, hy0, h⟩
    rcases List.mem_cons.1 hy with rfl | hy
    · exact absurd rfl hy0
    · exact ⟨x, hx, y, hy, h⟩
  · rw [h1, h2] at e; simp at e

theorem passP_sub {S : List Int} (hc : Cons S) : ∀ (cls : List (List Int)) (set : List Int) (more : Bool), set ⊆ S → (∀ l ∈ cls, (∀ x ∈ l, x ≠ 0) ∧ Stable S l) →
    ∃ set' more', passP cls set more = some (set', more') ∧ set' ⊆ S := by
  intro cls
  induction cls with
  | nil => intro set more hs _; exact ⟨set, more, rfl, hs⟩
  | cons l r ih =>
    intro set more hs hl
    have h := leftP_sub hs hc (hl l (by simp)).1 (hl l (by simp)).2
    have hr := fun l' h' => hl l' (List.mem_cons_of_mem _ h')
    simp only [passP, h.1, Bool.false_eq_true, if_false]
    split
    · rename_i hne
      refine ih _ _ ?_ hr
      intro x hx
      rcases List.mem_append.1 hx with hx | hx
      · exact hs hx
      · simp only [List.mem_singleton] at hx; subst hx; exact h.2 (by simpa using hne)
    · exact ih _ _ hs hr
theorem passP_grows : ∀ (cls : List (List Int)) (set : List Int) (more : Bool) (set' : List Int) (more' : Bool), passP cls set more = some (set', more') → set ⊆ set' := by
  intro cls
  induction cls with
  | nil => intro set more set' more' h; simp only [passP, Option.some.injEq, Prod.mk.injEq] at h; rw [h.1]; exact fun x hx => hx
  | cons l r ih =>
    intro set more set' more' h
    simp only [passP] at h
    split at h
    · cases h
    · split at h
      · exact fun x hx => ih _ _ _ _ h (List.mem_append_left _ hx)
      · exact ih _ _ _ _ h
theorem passP_stable : ∀ (cls : List (List Int)) (set : List Int) (more : Bool) (set' : List Int), (∀ l ∈ cls, ∀ x ∈ l, x ≠ 0) → passP cls set more = some (set', false) →
    more = false ∧ set' = set ∧ ∀ l ∈ cls, Stable set l := by
  intro cls
  induction cls with
  | nil => intro set more set' _ h; simp only [passP, Option.some.injEq, Prod.mk.injEq] at h; exact ⟨h.2, h.1.symm, by simp⟩
  | cons l r ih =>
    intro set more set' hl h
    have hr := fun l' h' => hl l' (List.mem_cons_of_mem _ h')
    simp only [passP] at h
    split at h
    · cases h
    · rename_i h1
      split at h
      · have := (ih _ _ _ hr h).1; cases this
      · rename_i h2
        obtain ⟨e1, e2, e3⟩ := ih _ _ _ hr h
        refine ⟨e1, e2, ?_⟩
        intro l' h'
        rcases List.mem_cons.1 h' with rfl | h'
        · exact leftP_stable (hl _ (by simp)) (by simpa using h1) (by simpa using h2)
        · exact e3 l' h'

theorem roundsP_eq {cls : List (List Int)} {set : List Int} {v : Int} (hv0 : 0 ≤ v) (hv : v ≤ 10) (hc : WfC v cls) (k : Known v set) :
    roundsP cls set = match passP cls set false with | none => none | some (set', more) => if more then roundsP cls set' else some set' := by
  rw [roundsP]
  cases hp : passP cls set false with
  | none => rfl
  | some p =>
    obtain ⟨set', more⟩ := p
    obtain ⟨k', hl, hm⟩ := passP_known cls set false k hc _ _ hp
    cases more with
    | false => rfl
    | true =>
      have h1 : set.length < set'.length := by
        rcases hm rfl with h | h
        · cases h
        · exact h
      have h2 := k'.len hv hv0
      simp [h1, h2]
theorem roundsP_sub {S : List Int} (hS : Cons S) {cls : List (List Int)} {v : Int} (hv0 : 0 ≤ v) (hv : v ≤ 10) (hc : WfC v cls) (hst : ∀ l ∈ cls, Stable S l) :
    ∀ (n : Nat) (set : List Int), 20 - set.length ≤ n → Known v set → set ⊆ S → ∃ set', roundsP cls set = some set' ∧ set' ⊆ S := by
  intro n
  induction n with
  | zero =>
    intro set hn k hs
    obtain ⟨set', more', hp, hs'⟩ := passP_sub hS cls set false hs (fun l h => ⟨fun x hx => (hc l h x hx).1, hst l h⟩)
    obtain ⟨k', hl, hm⟩ := passP_known cls set false k hc _ _ hp
    have h2 := k'.len hv hv0
    rw [roundsP_eq hv0 hv hc k, hp]
    cases more' with
    | false => exact ⟨set', rfl, hs'⟩
    | true =>
      rcases hm rfl with h | h
      · cases h
      · omega
  | succ n ih =>
    intro set hn k hs
    obtain ⟨set', more', hp, hs'⟩ := passP_sub hS cls set false hs (fun l h => ⟨fun x hx => (hc l h x hx).1, hst l h⟩)
    obtain ⟨k', hl, hm⟩ := passP_known cls set false k hc _ _ hp
    rw [roundsP_eq hv0 hv hc k, hp]
    cases more' with
    | false => exact ⟨set', rfl, hs'⟩
    | true =>
      rcases hm rfl with h | h
      · cases h
      · exact ih set' (by omega) k' hs'
theorem roundsP_stable {cls : List (List Int)} {v : Int} (hv0 : 0 ≤ v) (hv : v ≤ 10) (hc : WfC v cls) :
    ∀ (n : Nat) (set set' : List Int), 20 - set.length ≤ n → Known v set → roundsP cls set = some set' → set ⊆ set' ∧ Known v set' ∧ ∀ l ∈ cls, Stable set' l := by
  intro n
  induction n with
  | zero =>
    intro set set' hn k h
    rw [roundsP_eq hv0 hv hc k] at h
    cases hp : passP cls set false with
    | none => rw [hp] at h; cases h
    | some p =>
      obtain ⟨s, more⟩ := p
      rw [hp] at h
      obtain ⟨k', hl, hm⟩ := passP_known cls set false k hc _ _ hp
      have h2 := k'.len hv hv0
      cases more with
      | true =>
        rcases hm rfl with h | h
        · cases h
        · omega
      | false =>
        simp only [Bool.false_eq_true, if_false, Option.some.injEq] at h
        subst h
        have := passP_stable cls set false s (fun l h x hx => (hc l h x hx).1) hp
        rw [this.2.1]
        exact ⟨fun x hx => hx, k, this.2.2⟩
  | succ n ih =>
    intro set set' hn k h
    rw [roundsP_eq hv0 hv hc k] at h
    cases hp : passP cls set false with
    | none => rw [hp] at h; cases h
    | some p =>
      obtain ⟨s, more⟩ := p
      rw [hp] at h
      obtain ⟨k', hl, hm⟩ := passP_known cls set false k hc _ _ hp
      cases more with
      | true =>
        rcases hm rfl with h' | h'
        · cases h'
        · simp only [if_true] at h
          obtain ⟨a, b, c⟩ := ih s set' (by omega) k' h
          exact ⟨fun x hx => a (passP_grows _ _ _ _ _ hp hx), b, c⟩
      | false =>
        simp only [Bool.false_eq_true, if_false, Option.some.injEq] at h
        subst h
        have := passP_stable cls set false s (fun l h x hx => (hc l h x hx).1) hp
        rw [this.2.1]
        exact ⟨fun x hx => hx, k, this.2.2⟩

theorem givenP_sub {S : List Int} (hS : Cons S) : ∀ (g set : List Int), g ⊆ S → set ⊆ S → ∃ set', givenP g set = some set' ∧ set' ⊆ S := by
  intro g
  induction g with
  | nil => intro set _ hs; exact ⟨set, rfl, hs⟩
  | cons x r ih =>
    intro set hg hs
    have hx : x ∈ S := hg (by simp)
    have hr : r ⊆ S := fun y hy => hg (List.mem_cons_of_mem _ hy)
    have hn : ¬ set.contains (-x) = true := fun h => hS x hx (hs (by simpa using h))
    simp only [givenP, if_neg hn]
    refine ih _ hr ?_
    split
    · exact hs
    · intro y hy
      rcases List.mem_append.1 hy with hy | hy
      · exact hs hy
      · simp only [List.mem_singleton] at hy; subst hy; exact hx
theorem givenP_mem : ∀ (g set set' : List Int), givenP g set = some set' → set ⊆ set' ∧ g ⊆ set' := by
  intro g
  induction g with
  | nil => intro set set' h; simp only [givenP, Option.some.injEq] at h; subst h; exact ⟨fun x hx => hx, by simp⟩
  | cons x r ih =>
    intro set set' h
    simp only [givenP] at h
    split at h
    · cases h
    · obtain ⟨h1, h2⟩ := ih _ _ h
      split at h1
      · rename_i hx
        refine ⟨h1, ?_⟩
        intro y hy
        rcases List.mem_cons.1 hy with rfl | hy
        · exact h1 (by simpa using hx)
        · exact h2 hy
      · refine ⟨fun y hy => h1 (List.mem_append_left _ hy), ?_⟩
        intro y hy
        rcases List.mem_cons.1 hy with rfl | hy
        · exact h1 (by simp)
        · exact h2 hy

section
variable {cls : List (List Int)} {given : List Int} {v : Int}
theorem units_sub (hv0 : 0 ≤ v) (hv : v ≤ 10) (hc : WfC v cls) (hg : WfL v given) {S : List Int} (hS : Cons S) (hgS : given ⊆ S) (hst : ∀ l ∈ cls, Stable S l) :
    ∃ set, unitsP cls given = some set ∧ set ⊆ S := by
  obtain ⟨s, h1, h2⟩ := givenP_sub hS given [] hgS (by simp)
  obtain ⟨s', h3, h4⟩ := roundsP_sub hS hv0 hv hc hst _ s (Nat.le_refl _) (givenP_known given [] (known_nil v) hg s h1) h2
  exact ⟨s', by rw [unitsP, h1]; exact h3, h4⟩
theorem units_stable (hv0 : 0 ≤ v) (hv : v ≤ 10) (hc : WfC v cls) (hg : WfL v given) {set : List Int} (h : unitsP cls given = some set) :
    Cons set ∧ given ⊆ set ∧ (∀ l ∈ cls, Stable set l) ∧ Known v set := by
  rw [unitsP] at h
  cases h1 : givenP given [] with
  | none => rw [h1] at h; cases h
  | some s =>
    rw [h1] at h
    have k := givenP_known given [] (known_nil v) hg s h1
    obtain ⟨a, b, c⟩ := roundsP_stable hv0 hv hc _ s set (Nat.le_refl _) k h
    exact ⟨b.cons, fun x hx => a ((givenP_mem _ _ _ h1).2 hx), c, b⟩
/-- More clauses and literals take no clash back. -/
theorem clash_mono (hv0 : 0 ≤ v) (hv : v ≤ 10) {cls' : List (List Int)} {given' : List Int} (hc : WfC v cls') (hg : WfL v given') (h1 : cls ⊆ cls') (h2 : given ⊆ given')
    (h : unitsP cls given = none) : unitsP cls' given' = none := by
  cases h' : unitsP cls' given' with
  | none => rfl
  | some set =>
    obtain ⟨a, b, c, _⟩ := units_stable hv0 hv hc hg h'
    obtain ⟨s, hs, _⟩ := units_sub hv0 hv (fun l hl => hc l (h1 hl)) (fun x hx => hg x (h2 hx)) a (fun x hx => b (h2 hx)) (fun l hl => c l (h1 hl))
    rw [hs] at h; cases h
end

/-- The literals that hold of a number. -/
def trueL (v : Nat) (code : Nat) : List Int := (List.range v).map fun i => if code.testBit i then ((i : Int) + 1) else -((i : Int) + 1)
theorem litB_pos {code i : Nat} : LitB code ((i : Int) + 1) = code.testBit i := by
  unfold LitB; rw [if_pos (by omega)]; congr 1; omega
theorem litB_neg {code i : Nat} : LitB code (-((i : Int) + 1)) = !code.testBit i := by
  unfold LitB; rw [if_neg (by omega)]; congr 2; omega
theorem trueL_mem {v code : Nat} {x : Int} : x ∈ trueL v code ↔ (x ≠ 0 ∧ -(v : Int) ≤ x ∧ x ≤ v) ∧ LitB code x = true := by
  unfold trueL
  rw [List.mem_map]
  constructor
  · rintro ⟨i, hi, rfl⟩
    have hi : i < v := by simpa using hi
    split
    · rename_i h; exact ⟨by omega, by rw [litB_pos, h]⟩
    · rename_i h; exact ⟨by omega, by rw [litB_neg]; simpa using h⟩
  · rintro ⟨⟨h0, h1, h2⟩, h⟩
    by_cases hp : x > 0
    · obtain ⟨i, rfl⟩ : ∃ i : Nat, x = (i : Int) + 1 := ⟨(x - 1).toNat, by omega⟩
      rw [litB_pos] at h
      exact ⟨i, by simp; omega, by rw [if_pos h]⟩
    · obtain ⟨i, rfl⟩ : ∃ i : Nat, x = -((i : Int) + 1) := ⟨(-x - 1).toNat, by omega⟩
      rw [litB_neg] at h
      exact ⟨i, by simp; omega, by rw [if_neg (by simpa using h)]⟩
theorem litB_not {code : Nat} {x : Int} (h0 : x ≠ 0) : LitB code (-x) = !LitB code x := by
  by_cases hp : x > 0
  · obtain ⟨i, rfl⟩ : ∃ i : Nat, x = (i : Int) + 1 := ⟨(x - 1).toNat, by omega⟩
    rw [litB_neg, litB_pos]
  · obtain ⟨i, rfl⟩ : ∃ i : Nat, x = -((i : Int) + 1) := ⟨(-x - 1).toNat, by omega⟩
    rw [Int.neg_neg, litB_neg, litB_pos, Bool.not_not]
theorem trueL_cons (v code : Nat) : Cons (trueL v code) := by
  intro x hx hn
  have h1 := trueL_mem.1 hx
  have h2 := trueL_mem.1 hn
  have := litB_not (code := code) h1.1.1
  rw [h1.2, h2.2] at this; cases this
/-- What follows of clauses that hold holds. -/
theorem units_sound {v : Nat} (hv : v ≤ 10) {cls : List (List Int)} {given : List Int} (hc : WfC v cls) (hg : WfL v given) {code : Nat} (h1 : AllB cls code = true) (h2 : ∀ x ∈ given, LitB code x = true) :
    ∃ set, unitsP cls given = some set ∧ ∀ x ∈ set, LitB code x = true := by
  have hst : ∀ l ∈ cls, Stable (trueL v code) l := by
    intro l hl
    obtain ⟨x, hx, ht⟩ := List.any_eq_true.1 (List.all_eq_true.1 h1 l hl)
    exact .inl ⟨x, hx, trueL_mem.2 ⟨hc l hl x hx, ht⟩⟩
  obtain ⟨set, e, hs⟩ := units_sub (v := v) (by omega) (by omega) hc hg (trueL_cons v code) (fun x hx => trueL_mem.2 ⟨hg x hx, h2 x hx⟩) hst
  exact ⟨set, e, fun x hx => (trueL_mem.1 (hs hx)).2⟩

/-- Each clause follows of what is ahead of it. -/
def ProvesP (cls : List (List Int)) (p : List (List Int)) : Prop := ∀ (i : Nat) (h : i < p.length), unitsP (cls ++ p.take i) (p[i].map (- ·)) = none
/-- The first that does not. -/
def gapP (cls : List (List Int)) : List (List Int) → Option Nat
  | [] => none
  | l :: r => if unitsP cls (l.map (- ·)) = none then (gapP (cls ++ [l]) r).map (· + 1) else some 0
theorem gapP_none : ∀ (p cls : List (List Int)), gapP cls p = none ↔ ProvesP cls p := by
  intro p
  induction p with
  | nil => intro cls; simp [gapP, ProvesP]
  | cons l r ih =>
    intro cls
    simp only [gapP]
    by_cases h : unitsP cls (l.map (- ·)) = none
    · rw [if_pos h, Option.map_eq_none_iff, ih]
      constructor
      · intro hp i hi
        cases i with
        | zero => simpa using h
        | succ i => have := hp i (by simpa using hi); simpa using this
      · intro hp i hi
        have := hp (i + 1) (by simpa using hi)
        simpa using this
    · rw [if_neg h]
      simp only [reduceCtorEq, false_iff]
      intro hp
      have := hp 0 (by simp)
      simp at this; exact h this
theorem wfL_neg {v : Int} {l : List Int} (h : WfL v l) : WfL v (l.map (- ·)) := by
  intro x hx
  obtain ⟨y, hy, rfl⟩ := List.mem_map.1 hx
  have := h y hy
  omega
theorem map_neg_neg (l : List Int) : (l.map (- ·)).map (- ·) = l := by
  rw [List.map_map]
  have : ((fun x : Int => -x) ∘ fun x => -x) = id := by funext x; simp
  rw [this, List.map_id]
theorem wfC_app {v : Int} {a b : List (List Int)} (ha : WfC v a) (hb : WfC v b) : WfC v (a ++ b) := by
  intro l hl
  rcases List.mem_append.1 hl with h | h
  · exact ha l h
  · exact hb l h
theorem wfC_take {v : Int} {a : List (List Int)} (ha : WfC v a) (n : Nat) : WfC v (a.take n) := fun l hl => ha l (List.mem_of_mem_take hl)
theorem ProvesP.mono {v : Int} (hv0 : 0 ≤ v) (hv : v ≤ 10) {cls cls' p : List (List Int)} (hc : WfC v cls') (hp : WfC v p) (hs : cls ⊆ cls') (h : ProvesP cls p) : ProvesP cls' p := by
  intro i hi
  refine clash_mono hv0 hv (wfC_app hc (wfC_take hp i)) (wfL_neg (hp _ (List.getElem_mem hi))) ?_ (fun x hx => hx) (h i hi)
  intro l hl
  rcases List.mem_append.1 hl with h | h
  · exact List.mem_append_left _ (hs h)
  · exact List.mem_append_right _ h
theorem ProvesP.snoc {cls p : List (List Int)} {l : List Int} (h : ProvesP cls p) (hl : unitsP (cls ++ p) (l.map (- ·)) = none) : ProvesP cls (p ++ [l]) := by
  intro i hi
  by_cases hlt : i < p.length
  · rw [List.getElem_append_left hlt, List.take_append_of_le_length (by omega)]
    exact h i hlt
  · have : i = p.length := by simp at hi; omega
    subst this
    simp only [List.getElem_append_right (Nat.le_refl _), Nat.sub_self, List.getElem_cons_zero]
    rw [List.take_left' rfl]; exact hl
/-- What a proof has holds where the clauses hold. -/
theorem ProvesP.sound {v : Nat} (hv : v ≤ 10) {cls p : List (List Int)} (hc : WfC v cls) (hp : WfC v p) (h : ProvesP cls p) {code : Nat} (h1 : AllB cls code = true) :
    ∀ (n : Nat), n ≤ p.length → AllB (p.take n) code = true := by
  intro n
  induction n with
  | zero => intro _; simp [AllB]
  | succ n ih =>
    intro hn
    have h2 := ih (by omega)
    rw [List.take_succ_eq_append_getElem (by omega)]
    unfold AllB at *
    rw [List.all_append, h2, Bool.true_and]
    simp only [List.all_cons, List.all_nil, Bool.and_true]
    cases hany : p[n].any (LitB code) with
    | true => rfl
    | false =>
      have hw := hp _ (List.getElem_mem (show n < p.length by omega))
      obtain ⟨set, e, _⟩ := units_sound (given := p[n].map (- ·)) hv (wfC_app hc (wfC_take hp n)) (wfL_neg hw) (code := code) (by unfold AllB; rw [List.all_append, h1, h2]; rfl) (fun x hx => by
        obtain ⟨y, hy, rfl⟩ := List.mem_map.1 hx
        rw [List.any_eq_false] at hany
        rw [litB_not (hw y hy).1]
        simpa using hany y hy)
      rw [h n (by omega)] at e; cases e

def treeP (cls : List (List Int)) : Nat → List Int → List (List Int) → List (List Int)
  | 0, B, out => if out.length > 300 then out else out ++ [B.map (- ·)]
  | n + 1, B, out => if out.length > 300 then out else
      (if unitsP cls B = none then out else treeP cls n (B ++ [(B.length : Int) + 1]) (treeP cls n (B ++ [-((B.length : Int) + 1)]) out)) ++ [B.map (- ·)]
theorem treeP_long {cls : List (List Int)} {n : Nat} {B : List Int} {out : List (List Int)} (h : out.length > 300) : treeP cls n B out = out := by
  cases n <;> simp only [treeP, if_pos h]
theorem treeP_len (cls : List (List Int)) : ∀ (n : Nat) (B : List Int) (out : List (List Int)), (treeP cls n B out).length ≤ max out.length (301 + n) := by
  intro n
  induction n with
  | zero => intro B out; simp only [treeP]; split <;> simp <;> omega
  | succ n ih =>
    intro B out
    simp only [treeP]
    split
    · omega
    · split
      · simp; omega
      · have h1 := ih (B ++ [-((B.length : Int) + 1)]) out
        have h2 := ih (B ++ [(B.length : Int) + 1]) (treeP cls n (B ++ [-((B.length : Int) + 1)]) out)
        simp only [List.length_append, List.length_cons, List.length_nil]
        omega
theorem treeP_pre (cls : List (List Int)) : ∀ (n : Nat) (B : List Int) (out : List (List Int)), out <+: treeP cls n B out := by
  intro n
  induction n with
  | zero => intro B out; simp only [treeP]; split; exact List.prefix_refl _; exact List.prefix_append _ _
  | succ n ih =>
    intro B out
    simp only [treeP]
    split
    · exact List.prefix_refl _
    · split
      · exact List.prefix_append _ _
      · exact ((ih _ _).trans (ih _ _)).trans (List.prefix_append _ _)
theorem treeP_ends (cls : List (List Int)) : ∀ (n : Nat) (B : List Int) (out : List (List Int)), out.length ≤ 300 → ∃ p, treeP cls n B out = p ++ [B.map (- ·)] ∧ out <+: p ∧ (B.length ≤ 0 ∨ True) := by
  intro n B out h
  cases n with
  | zero => exact ⟨out, by simp only [treeP, if_neg (show ¬ out.length > 300 by omega)], List.prefix_refl _, .inr trivial⟩
  | succ n =>
    simp only [treeP, if_neg (show ¬ out.length > 300 by omega)]
    refine ⟨_, rfl, ?_, .inr trivial⟩
    split
    · exact List.prefix_refl _
    · exact (treeP_pre _ _ _ _).trans (treeP_pre _ _ _ _)

/-- A beginning of choices. -/
def Begins (B : List Int) : Prop := ∀ (i : Nat) (h : i < B.length), B[i] = (i : Int) + 1 ∨ B[i] = -((i : Int) + 1)
theorem Begins.snoc {B : List Int} (h : Begins B) {x : Int} (hx : x = (B.length : Int) + 1 ∨ x = -((B.length : Int) + 1)) : Begins (B ++ [x]) := by
  intro i hi
  by_cases hlt : i < B.length
  · rw [List.getElem_append_left hlt]; exact h i hlt
  · have : i = B.length := by simp at hi; omega
    subst this
    simp only [List.getElem_append_right (Nat.le_refl _), Nat.sub_self, List.getElem_cons_zero]
    exact hx
theorem Begins.wf {B : List Int} (h : Begins B) {v : Nat} (hv : B.length ≤ v) : WfL v B := by
  intro x hx
  obtain ⟨i, hi, rfl⟩ := List.getElem_of_mem hx
  rcases h i hi with e | e <;> rw [e] <;> omega

def codeOf : Nat → (Nat → Bool) → Nat
  | 0, _ => 0
  | n + 1, f => codeOf n f + (if f n then 2 ^ n else 0)
theorem codeOf_lt (n : Nat) (f : Nat → Bool) : codeOf n f < 2 ^ n := by
  induction n with
  | zero => simp [codeOf]
  | succ n ih => simp only [codeOf, Nat.pow_succ]; split <;> omega
theorem codeOf_bit (n : Nat) (f : Nat → Bool) : ∀ i, i < n → (codeOf n f).testBit i = f i := by
  induction n with
  | zero => intro i h; omega
  | succ n ih =>
    intro i hi
    have hl := codeOf_lt n f
    simp only [codeOf]
    by_cases h : i = n
    · subst h
      cases hf : f i with
      | true => rw [if_pos rfl, Nat.add_comm, Nat.testBit_two_pow_add_eq, Nat.testBit_lt_two_pow hl]; rfl
      | false => simp [Nat.testBit_lt_two_pow hl]
    · cases hf : f n with
      | true => rw [if_pos rfl, Nat.add_comm, Nat.testBit_two_pow_add_gt (by omega)]; exact ih i (by omega)
      | false => simp only [Bool.false_eq_true, if_false, Nat.add_zero]; exact ih i (by omega)

/-- Where all is chosen, clauses that hold of no number clash. -/
theorem full_clash {v : Nat} (hv : v ≤ 10) {cls : List (List Int)} (hc : WfC v cls) (hno : ∀ code, code < 2 ^ v → AllB cls code = false) {B : List Int} (hB : Begins B) (hlen : B.length = v) : unitsP cls B = none := by
  cases h : unitsP cls B with
  | none => rfl
  | some S =>
    exfalso
    have hw := hB.wf (v := v) (by omega)
    obtain ⟨a, b, c, _⟩ := units_stable (v := v) (by omega) (by omega) hc hw h
    have hcode := hno (codeOf v fun i => S.contains ((i : Int) + 1)) (codeOf_lt _ _)
    unfold AllB at hcode
    rw [List.all_eq_false] at hcode
    obtain ⟨l, hl, hf⟩ := hcode
    apply hf
    have hB2 : ∀ i : Nat, i < v → ((i : Int) + 1 ∈ S ∨ -((i : Int) + 1) ∈ S) := by
      intro i hi
      have h1 := hB i (by omega)
      have h2 := b (List.getElem_mem (show i < B.length by omega))
      rcases h1 with e | e <;> rw [e] at h2
      · exact .inl h2
      · exact .inr h2
    have hall : ∀ x ∈ l, x ∈ S ∨ -x ∈ S := by
      intro x hx
      have hx' := hc l hl x hx
      by_cases hp : x > 0
      · obtain ⟨i, rfl⟩ : ∃ i : Nat, x = (i : Int) + 1 := ⟨(x - 1).toNat, by omega⟩
        exact hB2 i (by omega)
      · obtain ⟨i, rfl⟩ : ∃ i : Nat, x = -((i : Int) + 1) := ⟨(-x - 1).toNat, by omega⟩
        rw [Int.neg_neg]; exact (hB2 i (by omega)).symm
    rcases c l hl with ⟨x, hx, hxS⟩ | ⟨x, hx, _, _, _, ho, _⟩
    · rw [List.any_eq_true]
      refine ⟨x, hx, ?_⟩
      have hx' := hc l hl x hx
      by_cases hp : x > 0
      · obtain ⟨i, rfl⟩ : ∃ i : Nat, x = (i : Int) + 1 := ⟨(x - 1).toNat, by omega⟩
        rw [litB_pos, codeOf_bit _ _ _ (by omega)]; simpa using hxS
      · obtain ⟨i, rfl⟩ : ∃ i : Nat, x = -((i : Int) + 1) := ⟨(-x - 1).toNat, by omega⟩
        rw [litB_neg, codeOf_bit _ _ _ (by omega)]
        have := a _ hxS
        rw [Int.neg_neg] at this
        simpa using this
    · rcases hall x hx with h | h
      · exact absurd h ho.1
      · exact absurd h ho.2

theorem treeP_wf {v : Nat} {cls : List (List Int)} : ∀ (n : Nat) (B : List Int) (out : List (List Int)), Begins B → B.length + n = v → WfC v out → WfC v (treeP cls n B out) := by
  intro n
  induction n with
  | zero =>
    intro B out hB hl ho
    simp only [treeP]
    split
    · exact ho
    · exact wfC_app ho (by intro l hl'; simp only [List.mem_singleton] at hl'; subst hl'; exact wfL_neg (hB.wf (by omega)))
  | succ n ih =>
    intro B out hB hl ho
    simp only [treeP]
    split
    · exact ho
    · refine wfC_app ?_ (by intro l hl'; simp only [List.mem_singleton] at hl'; subst hl'; exact wfL_neg (hB.wf (by omega)))
      split
      · exact ho
      · exact ih _ _ (hB.snoc (.inl rfl)) (by simp; omega) (ih _ _ (hB.snoc (.inr rfl)) (by simp; omega) ho)
theorem treeP_lens {v : Nat} {cls : List (List Int)} : ∀ (n : Nat) (B : List Int) (out : List (List Int)), B.length + n = v → (∀ l ∈ out, l.length ≤ v) → ∀ l ∈ treeP cls n B out, l.length ≤ v := by
  intro n
  induction n with
  | zero =>
    intro B out hl ho
    simp only [treeP]
    split
    · exact ho
    · intro l h; rcases List.mem_append.1 h with h | h
      · exact ho l h
      · simp only [List.mem_singleton] at h; subst h; simp; omega
  | succ n ih =>
    intro B out hl ho
    simp only [treeP]
    split
    · exact ho
    · intro l h; rcases List.mem_append.1 h with h1 | h
      · clear h; revert l
        split
        · intro l h; exact ho l h
        · exact ih _ _ (by simp; omega) (ih _ _ (by simp; omega) ho)
      · simp only [List.mem_singleton] at h; subst h; simp; omega
/-- What is added below a beginning is longer than nothing. -/
theorem treeP_long1 {cls : List (List Int)} : ∀ (n : Nat) (B : List Int) (out : List (List Int)), 0 < B.length → (∀ l ∈ out, 0 < l.length) → ∀ l ∈ treeP cls n B out, 0 < l.length := by
  intro n
  induction n with
  | zero =>
    intro B out hl ho
    simp only [treeP]
    split
    · exact ho
    · intro l h; rcases List.mem_append.1 h with h | h
      · exact ho l h
      · simp only [List.mem_singleton] at h; subst h; simpa using hl
  | succ n ih =>
    intro B out hl ho
    simp only [treeP]
    split
    · exact ho
    · intro l h; rcases List.mem_append.1 h with h1 | h
      · clear h; revert l
        split
        · intro l h; exact ho l h
        · exact ih _ _ (by simp) (ih _ _ (by simp) ho)
      · simp only [List.mem_singleton] at h; subst h; simpa using hl
theorem treeP_top {cls : List (List Int)} {n : Nat} : ∃ p, treeP cls n [] [] = p ++ [[]] ∧ ∀ l ∈ p, 0 < l.length := by
  cases n with
  | zero => exact ⟨[], rfl, by simp⟩
  | succ n =>
    simp only [treeP, List.length_nil, if_neg (show ¬ 0 > 300 by omega), List.map_nil]
    refine ⟨_, rfl, ?_⟩
    split
    · simp
    · exact treeP_long1 _ _ _ (by simp) (treeP_long1 _ _ _ (by simp) (by simp))

theorem treeP_proves {v : Nat} (hv : v ≤ 10) {cls : List (List Int)} (hc : WfC v cls) (hno : ∀ code, code < 2 ^ v → AllB cls code = false) :
    ∀ (n : Nat) (B : List Int) (out : List (List Int)), Begins B → B.length + n = v → WfC v out → ProvesP cls out → (treeP cls n B out).length ≤ 300 → ProvesP cls (treeP cls n B out) := by
  have hv' : (v : Int) ≤ 10 := by omega
  intro n
  induction n with
  | zero =>
    intro B out hB hl ho hp _
    simp only [treeP]
    split
    · exact hp
    · refine hp.snoc ?_
      rw [map_neg_neg]
      exact clash_mono (v := v) (by omega) hv' (wfC_app hc ho) (hB.wf (by omega)) (List.subset_append_left _ _) (fun x hx => hx) (full_clash hv hc hno hB (by omega))
  | succ n ih =>
    intro B out hB hl ho hp hT
    have hBw := hB.wf (v := v) (by omega)
    simp only [treeP] at hT ⊢
    split
    · exact hp
    · rename_i hlen
      split
      · rename_i hcl
        refine hp.snoc ?_
        rw [map_neg_neg]
        exact clash_mono (v := v) (by omega) hv' (wfC_app hc ho) hBw (List.subset_append_left _ _) (fun x hx => hx) hcl
      · have hB1 := hB.snoc (x := -((B.length : Int) + 1)) (.inr rfl)
        have hB2 := hB.snoc (x := (B.length : Int) + 1) (.inl rfl)
        rename_i hcl
        rw [if_neg hlen, if_neg hcl, List.length_append] at hT
        have t2 : (treeP cls n (B ++ [(B.length : Int) + 1]) (treeP cls n (B ++ [-((B.length : Int) + 1)]) out)).length ≤ 300 := by omega
        have t1 : (treeP cls n (B ++ [-((B.length : Int) + 1)]) out).length ≤ 300 := by have := (treeP_pre cls n (B ++ [(B.length : Int) + 1]) (treeP cls n (B ++ [-((B.length : Int) + 1)]) out)).length_le; omega
        have w1 := treeP_wf (cls := cls) n _ out hB1 (by simp; omega) ho
        have p1 := ih _ out hB1 (by simp; omega) ho hp t1
        have w2 := treeP_wf (cls := cls) n _ _ hB2 (by simp; omega) w1
        have p2 := ih _ _ hB2 (by simp; omega) w1 p1 t2
        obtain ⟨q1, e1, _⟩ := treeP_ends cls n (B ++ [-((B.length : Int) + 1)]) out (by omega)
        obtain ⟨q2, e2, _⟩ := treeP_ends cls n (B ++ [(B.length : Int) + 1]) (treeP cls n (B ++ [-((B.length : Int) + 1)]) out) (by omega)
        refine p2.snoc ?_
        rw [map_neg_neg]
        have hm1 : (B ++ [-((B.length : Int) + 1)]).map (- ·) ∈ treeP cls n (B ++ [(B.length : Int) + 1]) (treeP cls n (B ++ [-((B.length : Int) + 1)]) out) := by
          obtain ⟨r, hr⟩ := treeP_pre cls n (B ++ [(B.length : Int) + 1]) (treeP cls n (B ++ [-((B.length : Int) + 1)]) out)
          rw [← hr, e1]; simp
        have hm2 : (B ++ [(B.length : Int) + 1]).map (- ·) ∈ treeP cls n (B ++ [(B.length : Int) + 1]) (treeP cls n (B ++ [-((B.length : Int) + 1)]) out) := by
          rw [e2]; simp
        cases h : unitsP (cls ++ treeP cls n (B ++ [(B.length : Int) + 1]) (treeP cls n (B ++ [-((B.length : Int) + 1)]) out)) B with
        | none => rfl
        | some S =>
          exfalso
          obtain ⟨a, b, c, _⟩ := units_stable (v := v) (by omega) hv' (wfC_app hc w2) hBw h
          have key : ∀ y : Int, (B ++ [-y]).map (- ·) ∈ treeP cls n (B ++ [(B.length : Int) + 1]) (treeP cls n (B ++ [-((B.length : Int) + 1)]) out) → y ∈ S := by
            intro y hy
            have hin : ∀ x ∈ (B ++ [-y]).map (- ·), x = y ∨ -x ∈ S := by
              intro x hx
              obtain ⟨z, hz, rfl⟩ := List.mem_map.1 hx
              rcases List.mem_append.1 hz with h | h
              · right; rw [Int.neg_neg]; exact b h
              · simp only [List.mem_singleton] at h; subst h; left; simp
            rcases c _ (List.mem_append_right _ hy) with ⟨x, hx, hxS⟩ | ⟨x, hx, z, hz, hne, ox, oz⟩
            · rcases hin x hx with h | h
              · exact h ▸ hxS
              · exact absurd h (a x hxS)
            · rcases hin x hx with h | h
              · rcases hin z hz with h' | h'
                · exact absurd (h.trans h'.symm) hne
                · exact absurd h' oz.2
              · exact absurd h ox.2
          have k1 := key ((B.length : Int) + 1) hm1
          have k2 := key (-((B.length : Int) + 1)) (by rw [Int.neg_neg]; exact hm2)
          exact a _ k1 k2

end Go.Lead
