/- What functions of the program and of the reference come to, walked one by one, and plain laws about it: part 1. No condition is added to the statement. -/
import Derived.Test.YtmnngolehecpjaaGreatVm14
import Derived.Test.YtmnngolehecpjaaGreatFn0
import Derived.Test.YtmnngolehecpjaaGreatFn1
namespace Go.Lead
open Go
set_option linter.unusedVariables false
set_option linter.unusedSimpArgs false
set_option maxHeartbeats 1000000
structure Nd where
 v : Nat
 lo : Nat
 hi : Nat
 deriving DecidableEq, Repr
def putNd (n : Nd) (ns : List Nd) : Nat × List Nd := match ns.idxOf? n with | some i => (i + 2, ns) | none => (ns.length + 2, ns ++ [n])
def mkD : Nat → (Nat → Bool) → Nat → List Nd → Nat × List Nd
 | 0, f, _, ns => (if f 0 then 1 else 0, ns)
 | n + 1, f, low, ns =>
  let r1 := mkD n (fun i => f (2 * i)) (low + 1) ns
  let r2 := mkD n (fun i => f (2 * i + 1)) (low + 1) r1.2
  if r1.1 = r2.1 then r2 else putNd ⟨low, r1.1, r2.1⟩ r2.2
def leftP (set : List Int) : List Int → Int → Int × Bool
 | [], left => (left, left == 0)
 | x :: r, left =>
  if set.contains x then (0, false) else
  if set.contains (-x) then leftP set r left else
  if left != 0 && left != x then (0, false) else leftP set r x
def passP : List (List Int) → List Int → Bool → Option (List Int × Bool)
 | [], set, more => some (set, more)
 | l :: r, set, more => if (leftP set l 0).2 then none else if (leftP set l 0).1 != 0 then passP r (set ++ [(leftP set l 0).1]) true else passP r set more
def roundsP (cls : List (List Int)) (set : List Int) : Option (List Int) :=
 match passP cls set false with
 | none => none
 | some (set', more) => if more then (if h : set.length < set'.length ∧ set'.length ≤ 20 then roundsP cls set' else none) else some set'
termination_by 20 - set.length
decreasing_by omega
def givenP : List Int → List Int → Option (List Int)
 | [], set => some set
 | x :: r, set => if set.contains (-x) then none else givenP r (if set.contains x then set else set ++ [x])
def unitsP (cls : List (List Int)) (given : List Int) : Option (List Int) := (givenP given []).bind (roundsP cls)
structure Known (v : Int) (set : List Int) : Prop where
 lit : ∀ x ∈ set, x ≠ 0 ∧ -v ≤ x ∧ x ≤ v
 nodup : set.Nodup
 cons : ∀ x ∈ set, -x ∉ set
theorem known_nil (v : Int) : Known v [] := ⟨by simp, List.nodup_nil, by simp⟩
theorem Known.add {v : Int} {set : List Int} (k : Known v set) {x : Int} (hx : x ≠ 0 ∧ -v ≤ x ∧ x ≤ v) (h1 : x ∉ set) (h2 : -x ∉ set) : Known v (set ++ [x]) := by
 refine ⟨?_, ?_, ?_⟩
 ·intro y hy
  rcases List.mem_append.1 hy with h | h
  ·exact k.lit y h
  ·simp only [List.mem_singleton] at h; subst h; exact hx
 ·rw [List.nodup_append]
  refine ⟨k.nodup, by simp, ?_⟩
  intro a ha b hb
  simp only [List.mem_singleton] at hb; subst hb
  intro e; subst e; exact h1 ha
 ·intro y hy hn
  rcases List.mem_append.1 hy with h | h <;> rcases List.mem_append.1 hn with h' | h'
  ·exact k.cons y h h'
  ·simp only [List.mem_singleton] at h'; exact h2 (by rw [← h', Int.neg_neg]; exact h)
  ·simp only [List.mem_singleton] at h; subst h; exact h2 h'
  ·simp only [List.mem_singleton] at h h'; subst h; omega
theorem len_le_of_bound : ∀ (n : Nat) (l : List Int) (a : Int), l.Nodup → (∀ x ∈ l, a ≤ x ∧ x < a + n) → l.length ≤ n := by
 intro n
 induction n with
 | zero =>
  intro l a _ h
  cases l with
  | nil => simp
  | cons x r => have := h x (by simp); omega
 | succ n ih =>
  intro l a hd h
  by_cases hm : (a + n) ∈ l
  ·have h1 := ih (l.erase (a + n)) a (hd.erase _) (fun x hx => by
    have hx' := List.mem_of_mem_erase hx
    have := h x hx'
    have hne : x ≠ a + n := fun e => by
     subst e
     exact (List.Nodup.not_mem_erase hd) hx
    omega)
   rw [List.length_erase_of_mem hm] at h1
   omega
  ·have := ih l a hd (fun x hx => by
    have h1 := h x hx
    have hne : x ≠ a + n := fun e => hm (e ▸ hx)
    omega)
   omega
theorem Known.len {v : Int} {set : List Int} (k : Known v set) (hv : v ≤ 10) (hv0 : 0 ≤ v) : set.length ≤ 20 := by
 have h0 : (0 : Int) ∉ set := fun h => (k.lit 0 h).1 rfl
 have h1 := len_le_of_bound 21 (0 :: set) (-10) (List.nodup_cons.2 ⟨h0, k.nodup⟩) (fun x hx => by
  rcases List.mem_cons.1 hx with rfl | hx
  ·omega
  ·have := k.lit x hx; omega)
 simp only [List.length_cons] at h1
 omega
theorem leftP_new {set : List Int} (hcons : ∀ x ∈ set, -x ∉ set) (h0 : (0 : Int) ∉ set) {l : List Int} (hl : ∀ x ∈ l, x ≠ 0) (hne : (leftP set l 0).1 ≠ 0) :
  (leftP set l 0).1 ∈ l ∧ (leftP set l 0).1 ∉ set ∧ -(leftP set l 0).1 ∉ set := by
 have key : ∀ (l : List Int) (o : Int), (∀ x ∈ l, x ≠ 0) → (o = 0 ∨ (o ∉ set ∧ -o ∉ set)) → (leftP set l o).1 ≠ 0 →
   ((leftP set l o).1 ∈ l ∨ (leftP set l o).1 = o) ∧ (leftP set l o).1 ∉ set ∧ -(leftP set l o).1 ∉ set := by
  intro l
  induction l with
  | nil =>
   intro o _ ho hne
   simp only [leftP] at hne ⊢
   rcases ho with h | h
   ·exact absurd h hne
   ·exact ⟨by simp, h⟩
  | cons x r ih =>
   intro o hx ho hne
   have hr := fun y hy => hx y (List.mem_cons_of_mem _ hy)
   simp only [leftP] at hne ⊢
   split at hne
   ·exact absurd rfl hne
   ·rename_i h1
    rw [if_neg h1]
    split at hne
    ·rename_i h2
     rw [if_pos h2]
     have := ih o hr ho hne
     exact ⟨this.1.imp (List.mem_cons_of_mem _) id, this.2⟩
    ·rename_i h2
     rw [if_neg h2]
     split at hne
     ·exact absurd rfl hne
     ·rename_i h3
      rw [if_neg h3]
      have := ih x hr (.inr ⟨by simpa using h1, by simpa using h2⟩) hne
      refine ⟨.inl ?_, this.2⟩
      rcases this.1 with h | h
      ·exact List.mem_cons_of_mem _ h
      ·rw [h]; simp
 have := key l 0 hl (.inl rfl) hne
 refine ⟨?_, this.2⟩
 rcases this.1 with h | h
 ·exact h
 ·exact absurd h hne
theorem passP_known {v : Int} : ∀ (cls : List (List Int)) (set : List Int) (more : Bool), Known v set → (∀ l ∈ cls, ∀ x ∈ l, x ≠ 0 ∧ -v ≤ x ∧ x ≤ v) →
  ∀ set' more', passP cls set more = some (set', more') → Known v set' ∧ set.length ≤ set'.length ∧ (more' = true → more = true ∨ set.length < set'.length) := by
 intro cls
 induction cls with
 | nil => intro set more k _ set' more' h; simp only [passP, Option.some.injEq, Prod.mk.injEq] at h; obtain ⟨rfl, rfl⟩ := h; exact ⟨k, by omega, .inl⟩
 | cons l r ih =>
  intro set more k hc set' more' h
  have h0 : (0 : Int) ∉ set := fun h => (k.lit 0 h).1 rfl
  simp only [passP] at h
  split at h
  ·cases h
  ·split at h
   ·rename_i hne
    have hne' : (leftP set l 0).1 ≠ 0 := by simpa using hne
    have hl := hc l (by simp)
    have hn := leftP_new k.cons h0 (fun x hx => (hl x hx).1) hne'
    have := ih (set ++ [(leftP set l 0).1]) true (k.add (hl _ hn.1) hn.2.1 hn.2.2) (fun l' h' => hc l' (by simp [h'])) _ _ h
    simp only [List.length_append, List.length_cons, List.length_nil] at this
    exact ⟨this.1, by omega, fun _ => .inr (by omega)⟩
   ·exact ih set more k (fun l' h' => hc l' (by simp [h'])) _ _ h
theorem givenP_known {v : Int} : ∀ (g : List Int) (set : List Int), Known v set → (∀ x ∈ g, x ≠ 0 ∧ -v ≤ x ∧ x ≤ v) → ∀ set', givenP g set = some set' → Known v set' := by
 intro g
 induction g with
 | nil => intro set k _ set' h; simp only [givenP, Option.some.injEq] at h; subst h; exact k
 | cons x r ih =>
  intro set k hg set' h
  simp only [givenP] at h
  split at h
  ·cases h
  ·rename_i h1
   refine ih _ ?_ (fun y hy => hg y (by simp [hy])) _ h
   split
   ·exact k
   ·rename_i h2
    exact k.add (hg x (by simp)) (by simpa using h2) (by simpa using h1)
theorem any_step {α : Type} {xs : List α} {p : α → Bool} {i : Nat} (hi : i < xs.length) : (xs.take (i + 1)).any p = ((xs.take i).any p || p xs[i]) := by
 rw [List.take_succ_eq_append_getElem hi, List.any_append]; simp
theorem eqIntS_spec {h : Hp} {s t : Sl} {xs ys : List Int} {R : Value → Hp → Prop} (hs : IntS h s xs) (ht : IntS h t ys)
  (k : R (.bool (decide (xs = ys))) h) : c_laws_eqIntS #[s.v, t.v] h R := by
 apply R_laws_eqIntS
 unfold F_laws_eqIntS
 have ls := hs.len
 have lt := ht.len
 by_cases hl : xs.length = ys.length
 ·refine bs_f (by simp [ls, lt, hl]) ?_
  refine loop_up xs.length (fun i vs h' => vs = [s.v, t.v, I i] ∧ h' = h ∧ xs.take i = ys.take i) ⟨rfl, rfl, by simp⟩ ?_
  rintro i _ _ next hi ⟨rfl, rfl, hp⟩ hn
  refine ⟨_, _, _, rfl, ?_⟩
  by_cases hlt : i < xs.length
  ·obtain ⟨b, o, ha, hc⟩ := hs.at hlt
   have hi' : i < ys.length := by omega
   obtain ⟨b', o', ha', hc'⟩ := ht.at hi'
   have hb := hs.bound
   refine bs_t (by simp [ls, hlt]) ?_
   simp only [vm, ls, lt, ha, ha', hc, hc', W_succ (n := i) (by omega)]
   refine ⟨by omega, by omega, bsplit_of (fun he => ?_) (fun he => ?_)⟩
   ·rwa [decide_eq_false (fun e => by subst e; simp at he)] at k
   ·exact hn hlt _ _ ⟨rfl, rfl, take_step hlt hi' hp (by simpa using he)⟩
  ·have : i = xs.length := by omega
   subst this
   refine bs_f (by simp [ls]) ?_
   rw [List.take_length, hl, List.take_length] at hp
   rwa [decide_eq_true hp] at k
 ·refine bs_t (by simp [ls, lt]; omega) ?_
  rwa [decide_eq_false (fun e => hl (by rw [e]))] at k
theorem szIntS_spec {h : Hp} {s : Sl} {xs : List Int} {left : Int} {R : Value → Hp → Prop} (hs : IntS h s xs) (h0 : 0 ≤ left) (h1 : left ≤ 1048576)
  (k : ∀ r : Int, (r < 0 ∨ 0 ≤ r ∧ r + xs.length = left) → R (I r) h) : c_laws_szIntS #[s.v, I left] h R := by
 apply R_laws_szIntS
 unfold F_laws_szIntS
 have hb := hs.bound
 rw [hs.len, W_id (by omega) (by omega)]
 exact bsplit_of (fun e => k _ (by simp)) (fun e => k _ (by simp at e; omega))
structure OwnSS (h : Hp) (t : Sl) (ts : List Sl) (xss : List (List Int)) : Prop where
 len : ts.length = xss.length
 outer : SlC (h.wo (ts.flatMap Sl.used)) t 1 (ts.map Sl.v)
 inner : ∀ (i : Nat) (h1 : i < ts.length) (h2 : i < xss.length), Own h ts[i] 1 (xss[i].map I)
theorem OwnSS.ints {h : Hp} {t : Sl} {ts : List Sl} {xss : List (List Int)} (e : OwnSS h t ts xss) : IntSS h t xss :=
 ⟨ts, e.len, e.outer.mono (wo_le _ _), fun i h1 h2 => (e.inner i h1 h2).slc⟩
theorem OwnSS.mono {h h' : Hp} {t : Sl} {ts : List Sl} {xss : List (List Int)} (l : h.le h') (e : OwnSS h t ts xss) : OwnSS h' t ts xss :=
 ⟨e.len, e.outer.mono (le_wo (Hp.le_trans (wo_le _ _) l) fun b hb => wo_none hb), fun i h1 h2 => (e.inner i h1 h2).mono l⟩
theorem OwnSS.used {h : Hp} {t : Sl} {ts : List Sl} {xss : List (List Int)} (e : OwnSS h t ts xss) : ∀ b ∈ ts.flatMap Sl.used, h b ≠ none := by
 intro b hb
 obtain ⟨u, hu, hbu⟩ := List.mem_flatMap.1 hb
 obtain ⟨i, hi, rfl⟩ := List.getElem_of_mem hu
 exact (e.inner i hi (by rw [← e.len]; exact hi)).used b hbu
theorem l1In_spec {h : Hp} {x a b : Int} {R : Value → Hp → Prop} (k : R (.bool (decide (a ≤ x ∧ x ≤ b))) h) : c_spec_l1In #[I x, I a, I b] h R := by
 apply R_spec_l1In
 unfold F_spec_l1In
 refine bsplit_of (fun e => ?_) (fun e => ?_)
 ·simp at e; simpa [e] using k
 ·simp at e; rwa [decide_eq_false (by omega)] at k
theorem in_spec {h : Hp} {x a b : Int} {R : Value → Hp → Prop} (k : R (.bool (decide (a ≤ x ∧ x ≤ b))) h) : c_impl_in #[I x, I a, I b] h R := by
 apply R_impl_in
 unfold F_impl_in
 refine bsplit_of (fun e => ?_) (fun e => ?_)
 ·simp at e; simpa [e] using k
 ·simp at e; rwa [decide_eq_false (by omega)] at k
def LitOk (vars n : Int) : Bool := decide (n ≠ 0 ∧ -vars ≤ n ∧ n ≤ vars)
def ClauseOk (vars : Int) (l : List Int) : Bool := decide (l.length ≤ 10) && l.all (LitOk vars)
def CnfOkB (vars : Int) (c : List (List Int)) : Bool := decide (1 ≤ vars ∧ vars ≤ 10) && (decide (c.length ≤ 60) && c.all (ClauseOk vars))
def idxI {α : Type} (p : α → Bool) (xs : List α) : Int := match xs.findIdx? p with | some i => i | none => -1
theorem idxI_none {α : Type} {p : α → Bool} {xs : List α} (e : xs.any p = false) : idxI p xs = -1 := by
 have : xs.findIdx? p = none := by
  rw [List.findIdx?_eq_none_iff]; intro x hx; rw [List.any_eq_false] at e; simpa using e x hx
 simp [idxI, this]
theorem idxI_some {α : Type} {p : α → Bool} {xs : List α} {i : Nat} (hi : i < xs.length) (e : (xs.take i).any p = false) (hp : p xs[i] = true) : idxI p xs = i := by
 have : xs.findIdx? p = some i := by
  rw [List.findIdx?_eq_some_iff_getElem]
  refine ⟨hi, hp, fun j hj => ?_⟩
  rw [List.any_eq_false] at e
  exact e _ (by rw [List.mem_take_iff_getElem]; exact ⟨j, by omega, rfl⟩)
 simp [idxI, this]
theorem idxI_ge {α : Type} (p : α → Bool) (xs : List α) : decide (idxI p xs ≥ 0) = xs.any p := by
 cases h : xs.any p with
 | false => rw [idxI_none h]; rfl
 | true =>
  unfold idxI
  cases h' : xs.findIdx? p with
  | some i => simp
  | none => rw [List.findIdx?_eq_none_iff] at h'; rw [List.any_eq_true] at h; obtain ⟨x, hx, hp⟩ := h; simp [h' x hx] at hp
theorem IndexFunc_int_spec {h : Hp} {s : Sl} {xs : List Int} {f : FuncId} {u w : Array Value} (p : Int → Bool) {R : Value → Hp → Prop} (hs : IntS h s xs)
  (hf : ∀ x ∈ xs, ∀ R : Value → Hp → Prop, R (.bool (p x)) h → ACalls PR f ((u ++ #[I x]) ++ w) h R)
  (k : R (I (idxI p xs)) h) : c_slices_IndexFunc_Sint_int #[s.v, .func (.func f) u w] h R := by
 apply R_slices_IndexFunc_Sint_int
 unfold F_slices_IndexFunc_Sint_int
 have hb := hs.bound
 refine loop_up xs.length (fun i vs h' => vs = [s.v, .func (.func f) u w, I xs.length, I i] ∧ h' = h ∧ (xs.take i).any p = false) ⟨by rw [hs.len]; rfl, rfl, by simp⟩ ?_
 rintro i _ _ next hi ⟨rfl, rfl, hp⟩ hn
 refine ⟨_, _, _, _, _, _, rfl, ?_⟩
 by_cases hlt : i < xs.length
 ·obtain ⟨b, o, ha, hc⟩ := hs.at hlt
  refine bs_t (by simp [hlt]) ?_
  simp only [vm, hs.len, ha, hc, W_succ (n := i) (by omega)]
  refine ⟨by omega, hf _ (List.getElem_mem hlt) _ ⟨_, rfl, bsplit_of (fun he => ?_) (fun he => ?_)⟩⟩
  ·rwa [idxI_some hlt hp he] at k
  ·exact hn hlt _ _ ⟨rfl, rfl, by rw [any_step hlt, hp, he]; rfl⟩
 ·have : i = xs.length := by omega
  subst this
  rw [List.take_length] at hp
  refine bs_f (by simp) ?_
  rwa [idxI_none hp] at k
theorem ContainsFunc_int_spec {h : Hp} {s : Sl} {xs : List Int} {f : FuncId} {u w : Array Value} (p : Int → Bool) {R : Value → Hp → Prop} (hs : IntS h s xs)
  (hf : ∀ x ∈ xs, ∀ R : Value → Hp → Prop, R (.bool (p x)) h → ACalls PR f ((u ++ #[I x]) ++ w) h R)
  (k : R (.bool (xs.any p)) h) : c_slices_ContainsFunc_Sint_int #[s.v, .func (.func f) u w] h R := by
 apply R_slices_ContainsFunc_Sint_int
 unfold F_slices_ContainsFunc_Sint_int
 exact IndexFunc_int_spec p hs hf ⟨_, rfl, by rwa [idxI_ge]⟩
def BoolS (h : Hp) (s : Sl) (xs : List Bool) : Prop := SlC h s 1 (xs.map Value.bool)
theorem BoolS.mono {h h' : Hp} {s : Sl} {xs : List Bool} (l : h.le h') (e : BoolS h s xs) : BoolS h' s xs := SlC.mono l e
theorem BoolS.len {h : Hp} {s : Sl} {xs : List Bool} (e : BoolS h s xs) : s.n = xs.length := by have := e.2.1; simp at this; omega
theorem BoolS.bound {h : Hp} {s : Sl} {xs : List Bool} (e : BoolS h s xs) : xs.length ≤ 9223372036854775807 := by rw [← e.len]; exact e.1
theorem BoolS.at {h : Hp} {s : Sl} {xs : List Bool} (e : BoolS h s xs) {i : Nat} (hi : i < xs.length) :
  ∃ b o, s.a = some (Addr.mk b o none) ∧ Hp.cell h b (o + i) = some (.bool xs[i]) := by
 have hl := e.len
 obtain ⟨b, o, ha, hc⟩ := SlC.get e (by omega)
 exact ⟨b, o, ha, hc i _ (by simp [hi])⟩
theorem l1Bit_spec {h : Hp} {c n : Nat} {R : Value → Hp → Prop} (hn : n ≤ 64) (k : R (I (if c.testBit n then 1 else 0)) h) : c_spec_l1Bit #[I c, I n] h R := by
 apply R_spec_l1Bit
 unfold F_spec_l1Bit
 rw [Wu_nat (by omega), if_neg (by omega), shrW_nat hn, tmod_two, bit_eq]
 split <;> simp_all
theorem LitOk.iff {v n : Int} : LitOk v n = true ↔ n ≠ 0 ∧ -v ≤ n ∧ n ≤ v := by simp [LitOk]
theorem ClauseOk.lit {v : Int} {l : List Int} (e : ClauseOk v l = true) {n : Int} (hn : n ∈ l) : LitOk v n = true := by
 simp only [ClauseOk, Bool.and_eq_true, List.all_eq_true] at e; exact e.2 n hn
theorem ClauseOk.len {v : Int} {l : List Int} (e : ClauseOk v l = true) : l.length ≤ 10 := by
 simp only [ClauseOk, Bool.and_eq_true, decide_eq_true_eq] at e; exact e.1
theorem CnfOkB.iff {v : Int} {c : List (List Int)} : CnfOkB v c = true ↔ (1 ≤ v ∧ v ≤ 10) ∧ c.length ≤ 60 ∧ ∀ l ∈ c, ClauseOk v l = true := by
 simp [CnfOkB, List.all_eq_true]
theorem map_I_one (xs : List Int) : (xs.map I).all (·.oneCell') = true := by
 rw [List.all_eq_true]
 intro v hv
 obtain ⟨x, _, rfl⟩ := List.mem_map.1 hv
 rfl
theorem IntS.slc {h : Hp} {s : Sl} {xs : List Int} (e : IntS h s xs) : SlC h s 1 (xs.map I) := e
theorem cloneInts_spec {h : Hp} {s : Sl} {xs : List Int} {R : Value → Hp → Prop} (hs : IntS h s xs) (hl : xs.length ≤ 1048576)
  (k : ∀ t h', h.le h' → Buf (h'.sub h) t 1 (xs.map I) → R (Sl.v t) h') : c_impl_cloneInts #[s.v] h R := by
 apply R_impl_cloneInts
 unfold F_impl_cloneInts
 have := hs.len
 exact aApp_copy hs (by omega) (map_I_one _) fun t h' hn hle hb => k t h' hle hb
theorem toList_loop (l : List UInt8) : ∀ (k i : Nat) (r : List UInt8), i + k = l.length → ByteArray.toList.loop ⟨l.toArray⟩ i r = r.reverse ++ l.drop i := by
 intro k
 induction k with
 | zero =>
  intro i r hi
  unfold ByteArray.toList.loop
  rw [if_neg (by simp [ByteArray.size]; omega), List.drop_eq_nil_of_le (by omega), List.append_nil]
 | succ k ih =>
  intro i r hi
  unfold ByteArray.toList.loop
  rw [if_pos (by simp [ByteArray.size]; omega), ih (i + 1) _ (by omega), List.drop_eq_getElem_cons (i := i) (by omega)]
  simp [ByteArray.get!, show i < l.length by omega]
theorem bytes_toList (l : List UInt8) : (⟨l.toArray⟩ : ByteArray).toList = l := by
 unfold ByteArray.toList
 rw [toList_loop l l.length 0 [] (by omega)]; rfl
def tabCells (n : Nat) (f : Nat → Bool) : List Value := (List.range (2 ^ n)).map fun i => Value.int .u8 (if f i then 1 else 0)
def tabBytes (n : Nat) (f : Nat → Bool) : List UInt8 := (List.range (2 ^ n)).map fun i => if f i then 1 else 0
theorem byteCells_tab (n : Nat) (f : Nat → Bool) : byteCells (tabBytes n f) = tabCells n f := by
 unfold byteCells tabBytes tabCells
 rw [List.map_map]
 apply List.map_congr_left
 intro i _
 simp only [Function.comp]
 cases f i <;> rfl
def TabS (h : Hp) (t : Sl) (n : Nat) (f : Nat → Bool) : Prop := SlC h t 1 (tabCells n f)
theorem TabS.mono {h h' : Hp} {t : Sl} {n : Nat} {f : Nat → Bool} (l : h.le h') (e : TabS h t n f) : TabS h' t n f := SlC.mono l e
theorem TabS.len {h : Hp} {t : Sl} {n : Nat} {f : Nat → Bool} (e : TabS h t n f) : t.n = 2 ^ n := by have := e.2.1; simp [tabCells] at this; omega
theorem TabS.at {h : Hp} {t : Sl} {n : Nat} {f : Nat → Bool} (e : TabS h t n f) {i : Nat} (hi : i < 2 ^ n) :
  ∃ b o, t.a = some (Addr.mk b o none) ∧ Hp.cell h b (o + i) = some (.int .u8 (if f i then 1 else 0)) := by
 have hl := e.len
 obtain ⟨b, o, ha, hc⟩ := SlC.get e (by omega)
 exact ⟨b, o, ha, hc i _ (by simp [tabCells, hi])⟩
theorem TabS.all {h : Hp} {t : Sl} {n : Nat} {f : Nat → Bool} (e : TabS h t n f) : slCells h t.a t.n (byteCells (tabBytes n f)) := by
 rw [byteCells_tab]
 exact ⟨by rw [e.2.1, Nat.mul_one], e.2.2⟩
theorem bit_spec {h : Hp} {c : Bool} {R : Value → Hp → Prop} (k : R (I (if c then 1 else 0)) h) : c_impl_bit #[.bool c] h R := by
 apply R_impl_bit
 unfold F_impl_bit
 cases c <;> exact k
def Asks (h : Hp) (fid : FuncId) (u w : Array Value) (n : Nat) (f : Nat → Bool) : Prop :=
 ∀ (i : Nat), i < n → ∀ (h' : Hp), h.le h' → ∀ R : Value → Hp → Prop, R (.bool (f i)) h' → ACalls PR fid ((u ++ #[I i]) ++ w) h' R
def ndCells (ns : List Nd) : List Value := ns.flatMap fun n => [I n.v, I n.lo, I n.hi]
def ndKey (n : Nd) : Value := .agg #[I n.v, I n.lo, I n.hi]
structure BI (h : Hp) (B rs rn : Nat) (vars : Nat) (s : Sl) (ns : List Nd) (es : List (ByteArray × Nat)) : Prop where
 row : h B = some (.inl ⟨[I vars, s.v, I 0, .map (some rs), .map (some rn)], 5, false⟩)
 buf : Buf h s 3 (ndCells ns)
 seen : h rs = some (.inr (es.map fun e => (.string e.1, I e.2)))
 nodes : h rn = some (.inr (ns.zipIdx.map fun e => (ndKey e.1, I (e.2 + 2 : Nat))))
 far : rs ≠ rn
 own : ∀ a, s.a = some a → a.block ≠ B
 true : ∀ e ∈ es, ∃ n f low, low + n = vars ∧ e.1 = ⟨(tabBytes n f).toArray⟩ ∧ mkD n f low ns = (e.2, ns)
theorem BI.mono {h h' : Hp} {B rs rn vars : Nat} {s : Sl} {ns : List Nd} {es : List (ByteArray × Nat)} (l : h.le h') (e : BI h B rs rn vars s ns es) : BI h' B rs rn vars s ns es :=
 ⟨l _ _ e.row, e.buf.mono l, l _ _ e.seen, l _ _ e.nodes, e.far, e.own, e.true⟩
theorem ndCells_len (ns : List Nd) : (ndCells ns).length = ns.length * 3 := by
 induction ns with
 | nil => rfl
 | cons n ns ih => simp only [ndCells, List.flatMap_cons, List.length_append, List.length_cons, List.length_nil] at ih ⊢; omega
def IBuf (h : Hp) (s : Sl) (xs : List Int) : Prop := Buf h s 1 (xs.map I)
theorem IBuf.len {h : Hp} {s : Sl} {xs : List Int} (e : IBuf h s xs) : s.n = xs.length := by have := e.1; simp at this; omega
theorem IBuf.ints {h : Hp} {s : Sl} {xs : List Int} (e : IBuf h s xs) (hn : xs.length ≤ 1048576) : IntS h s xs := Buf.slc e (by rw [e.len]; omega)
theorem IBuf.mono {h h' : Hp} {s : Sl} {xs : List Int} (l : h.le h') (e : IBuf h s xs) : IBuf h' s xs := Buf.mono l e
structure Grown (h h' : Hp) (t : Sl) (set : List Int) : Prop where
 buf : IBuf h' t set
 le : h.le (h'.offS t)
theorem Grown.keep {h h' : Hp} {t : Sl} {set : List Int} (e : Grown h h' t set) : h.le h' := Hp.le_trans e.le (offS_le _ _)
theorem Grown.own {h h' : Hp} {t : Sl} {set : List Int} (e : Grown h h' t set) (hl : set.length ≤ 1048576) : Own (h'.sub h) t 1 (set.map I) := by
 have hn := e.buf.len
 refine ⟨e.buf.1, by omega, ?_⟩
 rcases e.buf.2.2 with ⟨_, h0, _⟩ | ⟨b, ha, hb⟩
 ·exact .inl h0
 ·refine .inr ⟨b, t.c * 1, ha, ?_⟩
  rw [sub_at]
  ·exact hb
  ·refine none_of_le e.le ?_
   simp [Hp.offS, ha, Hp.off, Hp.set]
theorem ClauseOk.all {v : Int} {l : List Int} (e : ClauseOk v l = true) : ∀ x ∈ l, x ≠ 0 ∧ -v ≤ x ∧ x ≤ v := fun x hx => LitOk.iff.1 (ClauseOk.lit e hx)
def setEs (set : List Int) : List (Value × Value) := set.map fun x => (I x, .bool true)
theorem mlook_set (set : List Int) (n : Int) : ∃ res, mlook (Instr.sameNow (.int .i64) (I n)) (setEs set) 0 = some res ∧ Option.getD (Option.map (fun p => p.2) res) (.bool false) = .bool (set.contains n) ∧
  mput (setEs set) (I n) (.bool true) res = setEs (if set.contains n then set else set ++ [n]) := by
 unfold setEs
 rcases mlook_cases (Instr.sameNow (.int .i64) (I n)) (fun x : Int => I x) (fun _ => .bool true) (fun x => n == x) set 0 (fun x _ => sameNow_int _ _ _) with ⟨hno, hm⟩ | ⟨j, hj, hyes, _, hm⟩
 ·have hc : set.contains n = false := by
   rw [Bool.eq_false_iff]; intro h
   have := hno n (by simpa using h)
   simp at this
  exact ⟨_, hm, by rw [hc]; rfl, by rw [hc]; simp [mput]⟩
 ·have he : n = set[j] := by simpa using hyes
  have hc : set.contains n = true := by
   rw [he]; simp
  refine ⟨_, hm, by rw [hc]; rfl, ?_⟩
  rw [hc, if_pos rfl]
  simp only [mput, Nat.zero_add]
  apply List.ext_getElem
  ·simp
  ·intro i h1 h2
   rw [List.getElem_set]
   split
   ·rename_i hij; subst hij; simp [he]
   ·rfl
structure GrownSS (h h' : Hp) (t : Sl) (xss : List (List Int)) : Prop where
 buf : ∃ ts : List Sl, Buf h' t 1 (ts.map Sl.v) ∧ ts.length = xss.length ∧ ∀ (i : Nat) (h1 : i < ts.length) (h2 : i < xss.length), IntS h ts[i] xss[i]
 le : h.le (h'.offS t)
theorem GrownSS.keep {h h' : Hp} {t : Sl} {xss : List (List Int)} (e : GrownSS h h' t xss) : h.le h' := Hp.le_trans e.le (offS_le _ _)
theorem GrownSS.ints {h h' : Hp} {t : Sl} {xss : List (List Int)} (e : GrownSS h h' t xss) (hl : xss.length ≤ 1048576) : IntSS h' t xss := by
 obtain ⟨ts, hb, h1, h2⟩ := e.buf
 have hn : t.n = xss.length := by have := hb.1; simp at this; omega
 exact ⟨ts, h1, hb.slc (by omega), fun i a b => (h2 i a b).mono e.keep⟩
def Stable (S : List Int) (l : List Int) : Prop :=
 (∃ x ∈ l, x ∈ S) ∨ ∃ x ∈ l, ∃ y ∈ l, x ≠ y ∧ (x ∉ S ∧ -x ∉ S) ∧ (y ∉ S ∧ -y ∉ S)
def Cons (S : List Int) : Prop := ∀ x ∈ S, -x ∉ S
def WfL (v : Int) (l : List Int) : Prop := ∀ x ∈ l, x ≠ 0 ∧ -v ≤ x ∧ x ≤ v
def WfC (v : Int) (c : List (List Int)) : Prop := ∀ l ∈ c, WfL v l
theorem leftP_cases (set : List Int) : ∀ (l : List Int) (left : Int), (∀ x ∈ l, x ≠ 0) → (left ≠ 0 → left ∉ set ∧ -left ∉ set) →
  (leftP set l left = (0, false) ∧ ((∃ x ∈ l, x ∈ set) ∨ ∃ x ∈ l, ∃ y ∈ left :: l, y ≠ 0 ∧ x ≠ y ∧ (x ∉ set ∧ -x ∉ set) ∧ (y ∉ set ∧ -y ∉ set))) ∨
  ((leftP set l left).2 = ((leftP set l left).1 == 0) ∧ (left ≠ 0 → (leftP set l left).1 = left) ∧ ∀ x ∈ l, x = (leftP set l left).1 ∨ -x ∈ set) := by
 intro l
 induction l with
 | nil => intro left _ _; exact .inr ⟨rfl, fun _ => rfl, by simp⟩
 | cons x r ih =>
  intro left hx ho
  have hr := fun y hy => hx y (List.mem_cons_of_mem _ hy)
  have hx0 := hx x (by simp)
  simp only [leftP]
  by_cases h1 : set.contains x = true
  ·rw [if_pos h1]; exact .inl ⟨rfl, .inl ⟨x, by simp, by simpa using h1⟩⟩
  rw [if_neg h1]
  by_cases h2 : set.contains (-x) = true
  ·rw [if_pos h2]
   rcases ih left hr ho with ⟨e, h⟩ | ⟨e, h, h'⟩
   ·refine .inl ⟨e, ?_⟩
    rcases h with ⟨z, hz, hs⟩ | ⟨z, hz, y, hy, h⟩
    ·exact .inl ⟨z, by simp [hz], hs⟩
    ·refine .inr ⟨z, by simp [hz], y, ?_, h⟩
     rcases List.mem_cons.1 hy with rfl | hy
     ·simp
     ·simp [hy]
   ·refine .inr ⟨e, h, ?_⟩
    intro z hz
    rcases List.mem_cons.1 hz with rfl | hz
    ·exact .inr (by simpa using h2)
    ·exact h' z hz
  rw [if_neg h2]
  have hxo : x ∉ set ∧ -x ∉ set := ⟨by simpa using h1, by simpa using h2⟩
  by_cases h3 : (left != 0 && left != x) = true
  ·rw [if_pos h3]
   simp at h3
   exact .inl ⟨rfl, .inr ⟨x, by simp, left, by simp, h3.1, fun e => h3.2 e.symm, hxo, ho h3.1⟩⟩
  rw [if_neg h3]
  have hl : left ≠ 0 → left = x := by simpa using h3
  rcases ih x hr (fun _ => hxo) with ⟨e, h⟩ | ⟨e, h, h'⟩
  ·refine .inl ⟨e, ?_⟩
   rcases h with ⟨z, hz, hs⟩ | ⟨z, hz, y, hy, h⟩
   ·exact .inl ⟨z, by simp [hz], hs⟩
   ·exact .inr ⟨z, by simp [hz], y, List.mem_cons_of_mem _ hy, h⟩
  ·refine .inr ⟨e, fun h0 => ?_, ?_⟩
   ·rw [h hx0, hl h0]
   ·intro z hz
    rcases List.mem_cons.1 hz with rfl | hz
    ·exact .inl (h hx0).symm
    ·exact h' z hz
theorem leftP_sub {set S l : List Int} (hs : set ⊆ S) (hc : Cons S) (hl : ∀ x ∈ l, x ≠ 0) (st : Stable S l) :
  (leftP set l 0).2 = false ∧ ((leftP set l 0).1 ≠ 0 → (leftP set l 0).1 ∈ S) := by
 rcases leftP_cases set l 0 hl (fun h => absurd rfl h) with ⟨e, _⟩ | ⟨e, _, h⟩
 ·rw [e]; exact ⟨rfl, fun h => absurd rfl h⟩
 ·obtain ⟨x, hx, hn, hS⟩ : ∃ x ∈ l, x = (leftP set l 0).1 ∧ x ∈ S := by
   rcases st with ⟨x, hx, hS⟩ | ⟨x, hx, y, hy, hne, hxo, hyo⟩
   ·rcases h x hx with h1 | h1
    ·exact ⟨x, hx, h1, hS⟩
    ·exact absurd (hs h1) (hc x hS)
   ·rcases h x hx with h1 | h1
    ·rcases h y hy with h2 | h2
     ·exact absurd (h1.trans h2.symm) hne
     ·exact absurd (hs h2) hyo.2
    ·exact absurd (hs h1) hxo.2
  rw [e, ← hn]
  exact ⟨by simpa using hl x hx, fun _ => hS⟩
theorem leftP_stable {set l : List Int} (hl : ∀ x ∈ l, x ≠ 0) (h1 : (leftP set l 0).2 = false) (h2 : (leftP set l 0).1 = 0) : Stable set l := by
 rcases leftP_cases set l 0 hl (fun h => absurd rfl h) with ⟨e, h⟩ | ⟨e, _, h⟩
 ·refine h.imp id ?_
  rintro ⟨x, hx, y, hy, hy0, h⟩
  rcases List.mem_cons.1 hy with rfl | hy
  ·exact absurd rfl hy0
  ·exact ⟨x, hx, y, hy, h⟩
 ·rw [h1, h2] at e; simp at e
theorem passP_sub {S : List Int} (hc : Cons S) : ∀ (cls : List (List Int)) (set : List Int) (more : Bool), set ⊆ S → (∀ l ∈ cls, (∀ x ∈ l, x ≠ 0) ∧ Stable S l) →
  ∃ set' more', passP cls set more = some (set', more') ∧ set' ⊆ S := by
 intro cls
 induction cls with
 | nil => intro set more hs _; exact ⟨set, more, rfl, hs⟩
 | cons l r ih =>
  intro set more hs hl
  have h := leftP_sub hs hc (hl l (by simp)).1 (hl l (by simp)).2
  have hr := fun l' h' => hl l' (List.mem_cons_of_mem _ h')
  simp only [passP, h.1, Bool.false_eq_true, if_false]
  split
  ·rename_i hne
   refine ih _ _ ?_ hr
   intro x hx
   rcases List.mem_append.1 hx with hx | hx
   ·exact hs hx
   ·simp only [List.mem_singleton] at hx; subst hx; exact h.2 (by simpa using hne)
  ·exact ih _ _ hs hr
theorem passP_grows : ∀ (cls : List (List Int)) (set : List Int) (more : Bool) (set' : List Int) (more' : Bool), passP cls set more = some (set', more') → set ⊆ set' := by
 intro cls
 induction cls with
 | nil => intro set more set' more' h; simp only [passP, Option.some.injEq, Prod.mk.injEq] at h; rw [h.1]; exact fun x hx => hx
 | cons l r ih =>
  intro set more set' more' h
  simp only [passP] at h
  split at h
  ·cases h
  ·split at h
   ·exact fun x hx => ih _ _ _ _ h (List.mem_append_left _ hx)
   ·exact ih _ _ _ _ h
theorem passP_stable : ∀ (cls : List (List Int)) (set : List Int) (more : Bool) (set' : List Int), (∀ l ∈ cls, ∀ x ∈ l, x ≠ 0) → passP cls set more = some (set', false) →
  more = false ∧ set' = set ∧ ∀ l ∈ cls, Stable set l := by
 intro cls
 induction cls with
 | nil => intro set more set' _ h; simp only [passP, Option.some.injEq, Prod.mk.injEq] at h; exact ⟨h.2, h.1.symm, by simp⟩
 | cons l r ih =>
  intro set more set' hl h
  have hr := fun l' h' => hl l' (List.mem_cons_of_mem _ h')
  simp only [passP] at h
  split at h
  ·cases h
  ·rename_i h1
   split at h
   ·have := (ih _ _ _ hr h).1; cases this
   ·rename_i h2
    obtain ⟨e1, e2, e3⟩ := ih _ _ _ hr h
    refine ⟨e1, e2, ?_⟩
    intro l' h'
    rcases List.mem_cons.1 h' with rfl | h'
    ·exact leftP_stable (hl _ (by simp)) (by simpa using h1) (by simpa using h2)
    ·exact e3 l' h'
theorem roundsP_eq {cls : List (List Int)} {set : List Int} {v : Int} (hv0 : 0 ≤ v) (hv : v ≤ 10) (hc : WfC v cls) (k : Known v set) :
  roundsP cls set = match passP cls set false with | none => none | some (set', more) => if more then roundsP cls set' else some set' := by
 rw [roundsP]
 cases hp : passP cls set false with
 | none => rfl
 | some p =>
  obtain ⟨set', more⟩ := p
  obtain ⟨k', hl, hm⟩ := passP_known cls set false k hc _ _ hp
  cases more with
  | false => rfl
  | true =>
   have h1 : set.length < set'.length := by
    rcases hm rfl with h | h
    ·cases h
    ·exact h
   have h2 := k'.len hv hv0
   simp [h1, h2]
theorem roundsP_sub {S : List Int} (hS : Cons S) {cls : List (List Int)} {v : Int} (hv0 : 0 ≤ v) (hv : v ≤ 10) (hc : WfC v cls) (hst : ∀ l ∈ cls, Stable S l) :
  ∀ (n : Nat) (set : List Int), 20 - set.length ≤ n → Known v set → set ⊆ S → ∃ set', roundsP cls set = some set' ∧ set' ⊆ S := by
 intro n
 induction n with
 | zero =>
  intro set hn k hs
  obtain ⟨set', more', hp, hs'⟩ := passP_sub hS cls set false hs (fun l h => ⟨fun x hx => (hc l h x hx).1, hst l h⟩)
  obtain ⟨k', hl, hm⟩ := passP_known cls set false k hc _ _ hp
  have h2 := k'.len hv hv0
  rw [roundsP_eq hv0 hv hc k, hp]
  cases more' with
  | false => exact ⟨set', rfl, hs'⟩
  | true =>
   rcases hm rfl with h | h
   ·cases h
   ·omega
 | succ n ih =>
  intro set hn k hs
  obtain ⟨set', more', hp, hs'⟩ := passP_sub hS cls set false hs (fun l h => ⟨fun x hx => (hc l h x hx).1, hst l h⟩)
  obtain ⟨k', hl, hm⟩ := passP_known cls set false k hc _ _ hp
  rw [roundsP_eq hv0 hv hc k, hp]
  cases more' with
  | false => exact ⟨set', rfl, hs'⟩
  | true =>
   rcases hm rfl with h | h
   ·cases h
   ·exact ih set' (by omega) k' hs'
theorem roundsP_stable {cls : List (List Int)} {v : Int} (hv0 : 0 ≤ v) (hv : v ≤ 10) (hc : WfC v cls) :
  ∀ (n : Nat) (set set' : List Int), 20 - set.length ≤ n → Known v set → roundsP cls set = some set' → set ⊆ set' ∧ Known v set' ∧ ∀ l ∈ cls, Stable set' l := by
 intro n
 induction n with
 | zero =>
  intro set set' hn k h
  rw [roundsP_eq hv0 hv hc k] at h
  cases hp : passP cls set false with
  | none => rw [hp] at h; cases h
  | some p =>
   obtain ⟨s, more⟩ := p
   rw [hp] at h
   obtain ⟨k', hl, hm⟩ := passP_known cls set false k hc _ _ hp
   have h2 := k'.len hv hv0
   cases more with
   | true =>
    rcases hm rfl with h | h
    ·cases h
    ·omega
   | false =>
    simp only [Bool.false_eq_true, if_false, Option.some.injEq] at h
    subst h
    have := passP_stable cls set false s (fun l h x hx => (hc l h x hx).1) hp
    rw [this.2.1]
    exact ⟨fun x hx => hx, k, this.2.2⟩
 | succ n ih =>
  intro set set' hn k h
  rw [roundsP_eq hv0 hv hc k] at h
  cases hp : passP cls set false with
  | none => rw [hp] at h; cases h
  | some p =>
   obtain ⟨s, more⟩ := p
   rw [hp] at h
   obtain ⟨k', hl, hm⟩ := passP_known cls set false k hc _ _ hp
   cases more with
   | true =>
    rcases hm rfl with h' | h'
    ·cases h'
    ·simp only [if_true] at h
     obtain ⟨a, b, c⟩ := ih s set' (by omega) k' h
     exact ⟨fun x hx => a (passP_grows _ _ _ _ _ hp hx), b, c⟩
   | false =>
    simp only [Bool.false_eq_true, if_false, Option.some.injEq] at h
    subst h
    have := passP_stable cls set false s (fun l h x hx => (hc l h x hx).1) hp
    rw [this.2.1]
    exact ⟨fun x hx => hx, k, this.2.2⟩
theorem givenP_sub {S : List Int} (hS : Cons S) : ∀ (g set : List Int), g ⊆ S → set ⊆ S → ∃ set', givenP g set = some set' ∧ set' ⊆ S := by
 intro g
 induction g with
 | nil => intro set _ hs; exact ⟨set, rfl, hs⟩
 | cons x r ih =>
  intro set hg hs
  have hx : x ∈ S := hg (by simp)
  have hr : r ⊆ S := fun y hy => hg (List.mem_cons_of_mem _ hy)
  have hn : ¬ set.contains (-x) = true := fun h => hS x hx (hs (by simpa using h))
  simp only [givenP, if_neg hn]
  refine ih _ hr ?_
  split
  ·exact hs
  ·intro y hy
   rcases List.mem_append.1 hy with hy | hy
   ·exact hs hy
   ·simp only [List.mem_singleton] at hy; subst hy; exact hx
theorem givenP_mem : ∀ (g set set' : List Int), givenP g set = some set' → set ⊆ set' ∧ g ⊆ set' := by
 intro g
 induction g with
 | nil => intro set set' h; simp only [givenP, Option.some.injEq] at h; subst h; exact ⟨fun x hx => hx, by simp⟩
 | cons x r ih =>
  intro set set' h
  simp only [givenP] at h
  split at h
  ·cases h
  ·obtain ⟨h1, h2⟩ := ih _ _ h
   split at h1
   ·rename_i hx
    refine ⟨h1, ?_⟩
    intro y hy
    rcases List.mem_cons.1 hy with rfl | hy
    ·exact h1 (by simpa using hx)
    ·exact h2 hy
   ·refine ⟨fun y hy => h1 (List.mem_append_left _ hy), ?_⟩
    intro y hy
    rcases List.mem_cons.1 hy with rfl | hy
    ·exact h1 (by simp)
    ·exact h2 hy
section
variable {cls : List (List Int)} {given : List Int} {v : Int}
theorem units_sub (hv0 : 0 ≤ v) (hv : v ≤ 10) (hc : WfC v cls) (hg : WfL v given) {S : List Int} (hS : Cons S) (hgS : given ⊆ S) (hst : ∀ l ∈ cls, Stable S l) :
  ∃ set, unitsP cls given = some set ∧ set ⊆ S := by
 obtain ⟨s, h1, h2⟩ := givenP_sub hS given [] hgS (by simp)
 obtain ⟨s', h3, h4⟩ := roundsP_sub hS hv0 hv hc hst _ s (Nat.le_refl _) (givenP_known given [] (known_nil v) hg s h1) h2
 exact ⟨s', by rw [unitsP, h1]; exact h3, h4⟩
theorem units_stable (hv0 : 0 ≤ v) (hv : v ≤ 10) (hc : WfC v cls) (hg : WfL v given) {set : List Int} (h : unitsP cls given = some set) :
  Cons set ∧ given ⊆ set ∧ (∀ l ∈ cls, Stable set l) ∧ Known v set := by
 rw [unitsP] at h
 cases h1 : givenP given [] with
 | none => rw [h1] at h; cases h
 | some s =>
  rw [h1] at h
  have k := givenP_known given [] (known_nil v) hg s h1
  obtain ⟨a, b, c⟩ := roundsP_stable hv0 hv hc _ s set (Nat.le_refl _) k h
  exact ⟨b.cons, fun x hx => a ((givenP_mem _ _ _ h1).2 hx), c, b⟩
theorem clash_mono (hv0 : 0 ≤ v) (hv : v ≤ 10) {cls' : List (List Int)} {given' : List Int} (hc : WfC v cls') (hg : WfL v given') (h1 : cls ⊆ cls') (h2 : given ⊆ given')
  (h : unitsP cls given = none) : unitsP cls' given' = none := by
 cases h' : unitsP cls' given' with
 | none => rfl
 | some set =>
  obtain ⟨a, b, c, _⟩ := units_stable hv0 hv hc hg h'
  obtain ⟨s, hs, _⟩ := units_sub hv0 hv (fun l hl => hc l (h1 hl)) (fun x hx => hg x (h2 hx)) a (fun x hx => b (h2 hx)) (fun l hl => c l (h1 hl))
  rw [hs] at h; cases h
end
def ProvesP (cls : List (List Int)) (p : List (List Int)) : Prop := ∀ (i : Nat) (h : i < p.length), unitsP (cls ++ p.take i) (p[i].map (- ·)) = none
theorem wfL_neg {v : Int} {l : List Int} (h : WfL v l) : WfL v (l.map (- ·)) := by
 intro x hx
 obtain ⟨y, hy, rfl⟩ := List.mem_map.1 hx
 have := h y hy
 omega
theorem wfC_app {v : Int} {a b : List (List Int)} (ha : WfC v a) (hb : WfC v b) : WfC v (a ++ b) := by
 intro l hl
 rcases List.mem_append.1 hl with h | h
 ·exact ha l h
 ·exact hb l h
theorem wfC_take {v : Int} {a : List (List Int)} (ha : WfC v a) (n : Nat) : WfC v (a.take n) := fun l hl => ha l (List.mem_of_mem_take hl)
theorem ProvesP.mono {v : Int} (hv0 : 0 ≤ v) (hv : v ≤ 10) {cls cls' p : List (List Int)} (hc : WfC v cls') (hp : WfC v p) (hs : cls ⊆ cls') (h : ProvesP cls p) : ProvesP cls' p := by
 intro i hi
 refine clash_mono hv0 hv (wfC_app hc (wfC_take hp i)) (wfL_neg (hp _ (List.getElem_mem hi))) ?_ (fun x hx => hx) (h i hi)
 intro l hl
 rcases List.mem_append.1 hl with h | h
 ·exact List.mem_append_left _ (hs h)
 ·exact List.mem_append_right _ h
theorem ProvesP.snoc {cls p : List (List Int)} {l : List Int} (h : ProvesP cls p) (hl : unitsP (cls ++ p) (l.map (- ·)) = none) : ProvesP cls (p ++ [l]) := by
 intro i hi
 by_cases hlt : i < p.length
 ·rw [List.getElem_append_left hlt, List.take_append_of_le_length (by omega)]
  exact h i hlt
 ·have : i = p.length := by simp at hi; omega
  subst this
  simp only [List.getElem_append_right (Nat.le_refl _), Nat.sub_self, List.getElem_cons_zero]
  rw [List.take_left' rfl]; exact hl
def Begins (B : List Int) : Prop := ∀ (i : Nat) (h : i < B.length), B[i] = (i : Int) + 1 ∨ B[i] = -((i : Int) + 1)
theorem Begins.snoc {B : List Int} (h : Begins B) {x : Int} (hx : x = (B.length : Int) + 1 ∨ x = -((B.length : Int) + 1)) : Begins (B ++ [x]) := by
 intro i hi
 by_cases hlt : i < B.length
 ·rw [List.getElem_append_left hlt]; exact h i hlt
 ·have : i = B.length := by simp at hi; omega
  subst this
  simp only [List.getElem_append_right (Nat.le_refl _), Nat.sub_self, List.getElem_cons_zero]
  exact hx
def codeOf : Nat → (Nat → Bool) → Nat
 | 0, _ => 0
 | n + 1, f => codeOf n f + (if f n then 2 ^ n else 0)
theorem codeOf_lt (n : Nat) (f : Nat → Bool) : codeOf n f < 2 ^ n := by
 induction n with
 | zero => simp [codeOf]
 | succ n ih => simp only [codeOf, Nat.pow_succ]; split <;> omega
theorem codeOf_bit (n : Nat) (f : Nat → Bool) : ∀ i, i < n → (codeOf n f).testBit i = f i := by
 induction n with
 | zero => intro i h; omega
 | succ n ih =>
  intro i hi
  have hl := codeOf_lt n f
  simp only [codeOf]
  by_cases h : i = n
  ·subst h
   cases hf : f i with
   | true => rw [if_pos rfl, Nat.add_comm, Nat.testBit_two_pow_add_eq, Nat.testBit_lt_two_pow hl]; rfl
   | false => simp [Nat.testBit_lt_two_pow hl]
  ·cases hf : f n with
   | true => rw [if_pos rfl, Nat.add_comm, Nat.testBit_two_pow_add_gt (by omega)]; exact ih i (by omega)
   | false => simp only [Bool.false_eq_true, if_false, Nat.add_zero]; exact ih i (by omega)
structure MI (h : Hp) (K : Nat) (vars : Nat) (tb s : Sl) (ns : List Nd) : Prop where
 row : h K = some (.inl ⟨[I vars, tb.v, s.v], 3, false⟩)
 buf : Buf h s 3 (ndCells ns)
 own : ∀ a, s.a = some a → a.block ≠ K
theorem MI.mono {h h' : Hp} {K vars : Nat} {tb s : Sl} {ns : List Nd} (l : h.le h') (e : MI h K vars tb s ns) : MI h' K vars tb s ns := ⟨l _ _ e.row, e.buf.mono l, e.own⟩
theorem MI.len {h : Hp} {K vars : Nat} {tb s : Sl} {ns : List Nd} (e : MI h K vars tb s ns) : s.n = ns.length := by
 have := e.buf.1; rw [ndCells_len] at this; omega
def BoolT (h : Hp) (t : Sl) (n : Nat) (T : Nat → Bool) : Prop := BoolS h t ((List.range n).map T)
theorem BoolT.mono {h h' : Hp} {t : Sl} {n : Nat} {T : Nat → Bool} (l : h.le h') (e : BoolT h t n T) : BoolT h' t n T := BoolS.mono l e
theorem l1Yes_spec {h : Hp} {c : Bool} {R : Value → Hp → Prop} (k : R (I (if c then 1 else 0)) h) : c_spec_l1Yes #[.bool c] h R := by
 apply R_spec_l1Yes
 unfold F_spec_l1Yes
 cases c <;> exact k
structure GrownD (g h : Hp) (bw : Nat) (v : Int) (t : Sl) (xss : List (List Int)) : Prop where
 buf : ∃ ts : List Sl, Buf h t 1 (ts.map Sl.v) ∧ ts.length = xss.length ∧ ∀ (i : Nat) (h1 : i < ts.length) (h2 : i < xss.length), IntS g ts[i] xss[i]
 le : g.le (h.offS t)
 row : h bw = some (.inl ⟨[I v, t.v], 2, false⟩)
 new : g bw = none
 own : ∀ a, t.a = some a → a.block ≠ bw
theorem offS_some {h : Hp} {t : Sl} {c : Nat} {x : Blk} (e : (h.offS t) c = some x) : h c = some x ∧ ∀ a, t.a = some a → a.block ≠ c := by
 refine ⟨offS_le _ _ _ _ e, fun a ha hac => ?_⟩
 subst hac
 simp [Hp.offS, ha, Hp.off, Hp.set] at e
theorem GrownD.keep {g h : Hp} {bw : Nat} {v : Int} {t : Sl} {xss : List (List Int)} (e : GrownD g h bw v t xss) : g.le h := Hp.le_trans e.le (offS_le _ _)
theorem GrownD.len {g h : Hp} {bw : Nat} {v : Int} {t : Sl} {xss : List (List Int)} (e : GrownD g h bw v t xss) : t.n = xss.length := by
 obtain ⟨ts, hb, h1, _⟩ := e.buf
 have := hb.1; simp at this; omega
theorem GrownD.blk {g h : Hp} {bw : Nat} {v : Int} {t : Sl} {xss : List (List Int)} (e : GrownD g h bw v t xss) : ∀ a, t.a = some a → ∃ ts : List Sl, ∃ z, h a.block = some (.inl ⟨ts.map Sl.v, z, false⟩) := by
 intro a ha
 obtain ⟨ts, hb, _, _⟩ := e.buf
 rcases hb.2.2 with ⟨h0, _⟩ | ⟨b, hb1, hb2⟩
 ·rw [h0] at ha; cases ha
 ·rw [hb1] at ha; cases ha; exact ⟨ts, _, hb2⟩
theorem GrownD.to {g h g' h' : Hp} {bw : Nat} {v v' : Int} {t : Sl} {xss : List (List Int)} (e : GrownD g h bw v t xss) (l : g.le g') (l' : g'.le (h'.offS t)) (hr : h' bw = some (.inl ⟨[I v', t.v], 2, false⟩))
  (hbuf : ∀ a, t.a = some a → h' a.block = h a.block) (hn : g' bw = none) : GrownD g' h' bw v' t xss := by
 obtain ⟨ts, hb, h1, h2⟩ := e.buf
 refine ⟨⟨ts, ⟨hb.1, hb.2.1, hb.2.2.imp id ?_⟩, h1, fun i a b => (h2 i a b).mono l⟩, l', hr, hn, e.own⟩
 rintro ⟨b, hb1, hb2⟩
 exact ⟨b, hb1, (hbuf _ hb1).trans hb2⟩
theorem GrownD.lit {g h : Hp} {bw b n : Nat} {v : Int} {t : Sl} {xss : List (List Int)} {cs : List Value} (e : GrownD g h bw v t xss) (hb : h b = none) : GrownD (g.row b cs n) (h.row b cs n) bw v t xss := by
 have gb : g b = none := none_of_le e.keep hb
 have nb := fresh_ne hb e.row
 have nt : ∀ a, t.a = some a → a.block ≠ b := fun a ha => by
  obtain ⟨ts, z, hx⟩ := e.blk a ha
  exact fresh_ne hb hx
 refine e.to (le_row _ _ gb) ?_ (by rw [row_ne _ _ nb]; exact e.row) (fun a ha => row_ne _ _ (nt a ha)) (by rw [row_ne _ _ nb]; exact e.new)
 intro c x hc
 by_cases h' : c = b
 ·subst h'
  rw [offS_at nt, row_self]; rw [row_self] at hc; exact hc
 ·rw [row_ne _ _ h'] at hc
  obtain ⟨h1, h2⟩ := offS_some (e.le _ _ hc)
  rw [offS_at h2, row_ne _ _ h']; exact h1
structure Rd (h : Hp) (B : Nat) (s : Sl) (bs : List Nat) (p : Nat) : Prop where
 row : h B = some (.inl ⟨[s.v, I p], 2, false⟩)
 byt : ByteS (h.off B) s bs
theorem Rd.next {h : Hp} {B : Nat} {s : Sl} {bs : List Nat} {p : Nat} (e : Rd h B s bs p) (q : Nat) : Rd (h.row B [s.v, I q] 2) B s bs q := ⟨row_self .., by rw [off_row]; exact e.byt⟩
theorem Rd.to {h h' : Hp} {B : Nat} {s : Sl} {bs : List Nat} {p : Nat} (e : Rd h B s bs p) (l : h.le h') : Rd h' B s bs p := ⟨l _ _ e.row, e.byt.mono (off_mono _ l)⟩
theorem offS_of {h : Hp} {t : Sl} {c : Nat} {x : Blk} (e : h c = some x) (d : ∀ a, t.a = some a → a.block ≠ c) : (h.offS t) c = some x := by rw [offS_at d]; exact e
structure CS (h0 : Hp) (B b3 b9 : Nat) (s : Sl) (c : Nat) (h : Hp) (v : Int) (t : Sl) (cls : List (List Int)) : Prop where
 rd : ∃ q, q ≤ c ∧ h B = some (.inl ⟨[s.v, I (q : Nat)], 2, false⟩)
 r3 : h b3 = some (.inl ⟨[I 0, .slice none 0 0], 2, false⟩)
 n39 : b3 ≠ b9
 fr : (h0.off B).le (h.offS t)
 fr9 : h0 b9 = none
 fr3 : h0 b3 = none
 gr : ∃ g : Hp, (∀ c x, g c = some x → h0 c = none ∧ c ≠ b3) ∧ GrownD g h b9 v t cls
section
variable {h0 h : Hp} {B b3 b9 c p0 : Nat} {s t : Sl} {v : Int} {cls : List (List Int)} {bs : List Nat}
theorem CS.row (e : CS h0 B b3 b9 s c h v t cls) : h b9 = some (.inl ⟨[I v, t.v], 2, false⟩) := by obtain ⟨g, _, hg⟩ := e.gr; exact hg.row
theorem CS.frame (e : CS h0 B b3 b9 s c h v t cls) : (h0.off B).le h := Hp.le_trans e.fr (offS_le _ _)
theorem CS.lit (e : CS h0 B b3 b9 s c h v t cls) {b n : Nat} {cs : List Value} (hb : h b = none) : CS h0 B b3 b9 s c (h.row b cs n) v t cls := by
 obtain ⟨g, hg, gr⟩ := e.gr
 obtain ⟨q, hq, hr⟩ := e.rd
 have tb : ∀ {c x}, (h.offS t) c = some x → ((h.row b cs n).offS t) c = some x := by
  intro c x hc
  obtain ⟨h1, h2⟩ := offS_some hc
  rw [offS_at h2, row_ne _ _ (fresh_ne hb h1)]; exact h1
 exact ⟨⟨q, hq, by rw [row_ne _ _ (fresh_ne hb hr)]; exact hr⟩, by rw [row_ne _ _ (fresh_ne hb e.r3)]; exact e.r3, e.n39, fun c x hc => tb (e.fr _ _ hc), e.fr9, e.fr3, g, hg,
  gr.to (Hp.le_refl _) (fun c x hc => tb (gr.le _ _ hc)) (by rw [row_ne _ _ (fresh_ne hb gr.row)]; exact gr.row) (fun a ha => by
   obtain ⟨ts, z, hx⟩ := gr.blk a ha
   exact row_ne _ _ (fresh_ne hb hx)) gr.new⟩
end
theorem GrownSS.up {h h' h'' : Hp} {t : Sl} {xss : List (List Int)} (e : GrownSS h h' t xss) (l : h'.le h'') : GrownSS h h'' t xss := by
 obtain ⟨ts, h1, h2, h3⟩ := e.buf
 exact ⟨⟨ts, h1.mono l, h2, h3⟩, Hp.le_trans e.le (offS_mono t l)⟩
def shapeB (v : Int) (cls p : List (List Int)) : Bool := CnfOkB v cls && (decide (p.length ≤ 300) && p.all (ClauseOk v))
theorem shapeB.iff {v : Int} {cls p : List (List Int)} : shapeB v cls p = true ↔ CnfOkB v cls = true ∧ p.length ≤ 300 ∧ ∀ l ∈ p, ClauseOk v l = true := by
 simp [shapeB, List.all_eq_true]
theorem GrownSS.len {g h : Hp} {o : Sl} {out : List (List Int)} (e : GrownSS g h o out) : o.n = out.length := by
 obtain ⟨ts, hb, h1, _⟩ := e.buf
 have := hb.1; simp at this; omega
theorem GrownSS.base {g g2 h : Hp} {o : Sl} {out : List (List Int)} (e : GrownSS g h o out) (l : g.le g2) (l2 : g2.le (h.offS o)) : GrownSS g2 h o out := by
 obtain ⟨ts, h1, h2, h3⟩ := e.buf
 exact ⟨⟨ts, h1, h2, fun i a b => (h3 i a b).mono l⟩, l2⟩
theorem GrownSS.blk {g h : Hp} {o : Sl} {out : List (List Int)} (e : GrownSS g h o out) : ∀ a, o.a = some a → ∃ x, h a.block = some x := by
 intro a ha
 obtain ⟨ts, hb, _, _⟩ := e.buf
 rcases hb.2.2 with ⟨h0, _⟩ | ⟨b, hb1, hb2⟩
 ·rw [h0] at ha; cases ha
 ·rw [hb1] at ha; cases ha; exact ⟨_, hb2⟩
theorem Grown.apart {h2 h3 : Hp} {u o : Sl} {xs : List Int} (hg : Grown h2 h3 u xs) (ho : ∀ a, o.a = some a → ∃ x, h2 a.block = some x) : ∀ a a', u.a = some a → o.a = some a' → a.block ≠ a'.block := by
 intro a a' ha ha'
 obtain ⟨x, hx⟩ := ho a' ha'
 exact (offS_some (hg.le _ _ hx)).2 a ha
theorem Grown.offS {h2 h3 : Hp} {u o : Sl} {xs : List Int} (hg : Grown h2 h3 u xs) (ho : ∀ a, o.a = some a → ∃ x, h2 a.block = some x) : IBuf (h3.offS o) u xs := by
 refine ⟨hg.buf.1, hg.buf.2.1, hg.buf.2.2.imp id ?_⟩
 rintro ⟨b, hb1, hb2⟩
 exact ⟨b, hb1, offS_of hb2 fun a ha => (hg.apart ho _ a hb1 ha).symm⟩
theorem Grown.beside {h0 h' h'' : Hp} {a b b' : Sl} {xs : List Int} (e : Grown h0 h' a xs) (l0 : h0.le (h'.offS b)) (hk : (h'.offS b).le (h''.offS b')) (nab : ∀ x y, a.a = some x → b.a = some y → y.block ≠ x.block) :
  Grown h0 h'' a xs ∧ ∀ x y, a.a = some x → b'.a = some y → y.block ≠ x.block := by
 constructor
 ·refine ⟨⟨e.buf.1, e.buf.2.1, e.buf.2.2.imp id ?_⟩, ?_⟩
  ·rintro ⟨c, hc, hcb⟩
   exact ⟨c, hc, (offS_some (hk _ _ (offS_of hcb fun y hy => nab _ y hc hy))).1⟩
  ·intro c x hc
   obtain ⟨g1, g2⟩ := offS_some (e.le _ _ hc)
   obtain ⟨g3, g4⟩ := offS_some (l0 _ _ hc)
   exact offS_of (offS_some (hk _ _ (offS_of g1 g4))).1 g2
 ·intro x y hx hy
  rcases e.buf.2.2 with ⟨h0, _⟩ | ⟨c, hc, hcb⟩
  ·rw [h0] at hx; cases hx
  ·rw [hc] at hx; cases hx
   exact (offS_some (hk _ _ (offS_of hcb fun y hy => nab _ y hc hy))).2 y hy
structure PS (h : Hp) (B : Nat) (s : Sl) (c : Nat) (g h' : Hp) (t : Sl) (res : List (List Int)) : Prop where
 rd : ∃ q, q ≤ c ∧ h' B = some (.inl ⟨[s.v, I (q : Nat)], 2, false⟩)
 gr : GrownSS g h' t res
 new : ∀ c x, g c = some x → h c = none
 fr : (h.off B).le (h'.offS t)
section
variable {h g h' : Hp} {B c : Nat} {s t : Sl} {res : List (List Int)} {bs : List Nat}
theorem PS.frame (e : PS h B s c g h' t res) : (h.off B).le h' := Hp.le_trans e.fr (offS_le _ _)
theorem PS.lit (e : PS h B s c g h' t res) (hB : ∃ x, h B = some x) {b n : Nat} {cs : List Value} (hb : h' b = none) : PS h B s c (g.row b cs n) (h'.row b cs n) t res := by
 obtain ⟨q, hq, hr⟩ := e.rd
 have nB := fresh_ne hb hr
 have hb0 : h b = none := by
  cases hx : h b with
  | none => rfl
  | some x =>
   have := e.frame b x (by rw [Hp.off, Hp.set_ne _ _ nB.symm]; exact hx)
   rw [hb] at this; cases this
 have tb : ∀ a, t.a = some a → a.block ≠ b := fun a ha => by
  obtain ⟨x, hx⟩ := e.gr.blk a ha
  exact fresh_ne hb hx
 have key : ∀ c x, c ≠ b → (h'.offS t) c = some x → ((h'.row b cs n).offS t) c = some x := by
  intro c x hcB hc
  obtain ⟨h1, h2⟩ := offS_some hc
  rw [offS_at h2, row_ne _ _ hcB]; exact h1
 have gb : g b = none := none_of_le e.gr.keep hb
 refine ⟨⟨q, hq, by rw [row_ne _ _ nB]; exact hr⟩, (e.gr.up (le_row cs n hb)).base (le_row _ _ gb) ?_, ?_, fun c x hc => key c x (fun hh => by rw [hh, Hp.off, Hp.set_ne _ _ nB.symm, hb0] at hc; cases hc) (e.fr _ _ hc)⟩
 ·intro c x hc
  by_cases hcb : c = b
  ·subst hcb
   rw [row_self] at hc
   rw [offS_at tb, row_self]; exact hc
  ·rw [row_ne _ _ hcb] at hc
   exact key c x hcb (e.gr.le _ _ hc)
 ·intro c x hc
  by_cases hcb : c = b
  ·subst hcb; exact hb0
  ·rw [row_ne _ _ hcb] at hc; exact e.new _ _ hc
end
def fromP (w : Nat) (n : Int) : Nat := (n % ((2 ^ w : Nat) : Int)).toNat
def sgn (w a : Nat) : Int := if 2 ^ (w - 1) ≤ a then (a : Int) - ((2 ^ w : Nat) : Int) else a
theorem pow_pos' (w : Nat) : 0 < 2 ^ w := Nat.pow_pos (by omega)
theorem fromP_lt (w : Nat) (n : Int) : fromP w n < 2 ^ w := by
 unfold fromP
 have h := Int.emod_lt_of_pos n (b := ((2 ^ w : Nat) : Int)) (Int.ofNat_lt.2 (pow_pos' w))
 have h0 := Int.emod_nonneg n (b := ((2 ^ w : Nat) : Int)) (by have := pow_pos' w; omega)
 omega
theorem fromP_nat (w a : Nat) : fromP w (a : Int) = a % 2 ^ w := by
 unfold fromP
 rw [← Int.natCast_emod, Int.toNat_natCast]
theorem fromP_cast (w : Nat) (n : Int) : ((fromP w n : Nat) : Int) = n % ((2 ^ w : Nat) : Int) := by
 unfold fromP
 have h0 := Int.emod_nonneg n (b := ((2 ^ w : Nat) : Int)) (by have := pow_pos' w; omega)
 omega
theorem pow_half {w : Nat} (h : 1 ≤ w) : 2 ^ w = 2 * 2 ^ (w - 1) := by
 obtain ⟨n, rfl⟩ : ∃ n, w = n + 1 := ⟨w - 1, by omega⟩
 rw [Nat.pow_succ, Nat.add_sub_cancel]; omega
theorem sgn_bound {w a : Nat} (h : 1 ≤ w) (ha : a < 2 ^ w) : -((2 ^ (w - 1) : Nat) : Int) ≤ sgn w a ∧ sgn w a < ((2 ^ (w - 1) : Nat) : Int) := by
 have := pow_half h
 unfold sgn; split <;> omega
theorem sgn_from {w : Nat} (h : 1 ≤ w) (n : Int) : sgn w (fromP w n) = n ↔ -((2 ^ (w - 1) : Nat) : Int) ≤ n ∧ n < ((2 ^ (w - 1) : Nat) : Int) := by
 have hp := pow_half h
 have hl := fromP_lt w n
 have hb := sgn_bound h hl
 constructor
 ·intro e; rw [e] at hb; exact hb
 ·rintro ⟨h1, h2⟩
  have hc := fromP_cast w n
  have h3 : n % ((2 ^ w : Nat) : Int) = if n < 0 then n + ((2 ^ w : Nat) : Int) else n := by
   split
   ·rw [← Int.add_emod_right, Int.emod_eq_of_lt (by omega) (by omega)]
   ·rw [Int.emod_eq_of_lt (by omega) (by omega)]
  rw [h3] at hc
  unfold sgn
  split at hc <;> split <;> omega
theorem codeOf_eq {w x : Nat} {f : Nat → Bool} (hx : x < 2 ^ w) (h : ∀ i, i < w → x.testBit i = f i) : codeOf w f = x := by
 apply Nat.eq_of_testBit_eq
 intro i
 by_cases hi : i < w
 ·rw [codeOf_bit _ _ _ hi, h i hi]
 ·rw [Nat.testBit_lt_two_pow (Nat.lt_of_lt_of_le (codeOf_lt w f) (Nat.pow_le_pow_right (by omega) (by omega))),
   Nat.testBit_lt_two_pow (Nat.lt_of_lt_of_le hx (Nat.pow_le_pow_right (by omega) (by omega)))]
theorem codeOf_ext {w : Nat} {f g : Nat → Bool} (h : ∀ i, i < w → f i = g i) : codeOf w f = codeOf w g := codeOf_eq (codeOf_lt _ _) fun i hi => by rw [codeOf_bit _ _ _ hi, h i hi]
theorem codeOf_set {w p : Nat} {f : Nat → Bool} (hp : p < w) (hf : f p = false) : codeOf w f + 2 ^ p = codeOf w (fun i => f i || decide (i = p)) := by
 induction w with
 | zero => omega
 | succ w ih =>
  simp only [codeOf]
  by_cases h : p = w
  ·subst h
   have : codeOf p (fun i => f i || decide (i = p)) = codeOf p f := codeOf_ext fun i hi => by simp; omega
   rw [this]; simp [hf]
  ·have := ih (by omega)
   have e : (f w || decide (w = p)) = f w := by simp; omega
   simp only [e]
   omega
def onesP : Nat → Nat → Nat
 | 0, _ => 0
 | w + 1, a => onesP w a + (if a.testBit w then 1 else 0)
theorem onesP_le (w a : Nat) : onesP w a ≤ w := by
 induction w with
 | zero => simp [onesP]
 | succ w ih => simp only [onesP]; split <;> omega
theorem onesP_full {w a : Nat} (ha : a < 2 ^ w) : onesP w a = w ↔ a = 2 ^ w - 1 := by
 have key : ∀ w, onesP w a = w ↔ ∀ i, i < w → a.testBit i = true := by
  intro w
  induction w with
  | zero => simp [onesP]
  | succ w ih =>
   have := onesP_le w a
   simp only [onesP]
   constructor
   ·intro h i hi
    by_cases hw : a.testBit w = true
    ·rw [if_pos hw] at h
     by_cases hiw : i = w
     ·subst hiw; exact hw
     ·exact ih.1 (by omega) i (by omega)
    ·rw [if_neg hw] at h; omega
   ·intro h
    rw [if_pos (h w (by omega)), ih.2 fun i hi => h i (by omega)]
 rw [key]
 constructor
 ·intro h
  apply Nat.eq_of_testBit_eq
  intro i
  rw [Nat.testBit_two_pow_sub_one]
  by_cases hi : i < w
  ·rw [h i hi]; simp [hi]
  ·rw [Nat.testBit_lt_two_pow (Nat.lt_of_lt_of_le ha (Nat.pow_le_pow_right (by omega) (by omega)))]; simp [hi]
 ·rintro rfl i hi
  rw [Nat.testBit_two_pow_sub_one]; simpa using hi
theorem each_and {w a b : Nat} (ha : a < 2 ^ w) : codeOf w (fun i => a.testBit i && b.testBit i) = a &&& b :=
 codeOf_eq (Nat.lt_of_le_of_lt Nat.and_le_left ha) fun i _ => by rw [Nat.testBit_and]
theorem each_or {w a b : Nat} (ha : a < 2 ^ w) (hb : b < 2 ^ w) : codeOf w (fun i => a.testBit i || b.testBit i) = a ||| b :=
 codeOf_eq (Nat.or_lt_two_pow ha hb) fun i _ => by rw [Nat.testBit_or]
theorem each_xor {w a b : Nat} (ha : a < 2 ^ w) (hb : b < 2 ^ w) : codeOf w (fun i => a.testBit i ^^ b.testBit i) = a ^^^ b :=
 codeOf_eq (Nat.xor_lt_two_pow ha hb) fun i _ => by rw [Nat.testBit_xor]
def shlP (w a b : Nat) : Nat := a * 2 ^ min b w % 2 ^ w
def shrP (w a b : Nat) : Nat := a / 2 ^ min b w
def sarP (w a b : Nat) : Nat := fromP w (sgn w a / ((2 ^ min b w : Nat) : Int))
theorem shl_bits {w a b : Nat} : codeOf w (fun i => decide (b ≤ i) && a.testBit (i - b)) = shlP w a b := by
 unfold shlP
 refine codeOf_eq (Nat.mod_lt _ (pow_pos' w)) fun i hi => ?_
 rw [Nat.testBit_mod_two_pow, Nat.mul_comm, Nat.testBit_two_pow_mul]
 have : decide (i < w) = true := by simpa using hi
 rw [this, Bool.true_and]
 by_cases h : b ≤ i
 ·rw [Nat.min_eq_left (by omega)]
 ·have h1 : decide (b ≤ i) = false := by simpa using h
  have h2 : decide (min b w ≤ i) = false := by simp; omega
  simp [h1, h2]
theorem shr_bits {w a b : Nat} (ha : a < 2 ^ w) : codeOf w (fun i => decide (i + b < w) && a.testBit (i + b)) = shrP w a b := by
 unfold shrP
 refine codeOf_eq (Nat.lt_of_le_of_lt (Nat.div_le_self _ _) ha) fun i hi => ?_
 rw [Nat.testBit_div_two_pow]
 by_cases h : i + b < w
 ·rw [Nat.min_eq_left (by omega)]; simp [h]
 ·have h1 : decide (i + b < w) = false := by simpa using h
  rw [h1, Bool.false_and]
  refine Nat.testBit_lt_two_pow (Nat.lt_of_lt_of_le ha (Nat.pow_le_pow_right (by omega) ?_))
  omega
theorem sar_bits {w a b : Nat} (hw : 1 ≤ w) (hw16 : w ≤ 16) (ha : a < 2 ^ w) : codeOf w (fun i => if i + b < w then a.testBit (i + b) else a.testBit (w - 1)) = sarP w a b := by
 have hp := pow_half hw
 have top : a.testBit (w - 1) = decide (2 ^ (w - 1) ≤ a) := by
  rw [Nat.testBit_eq_decide_div_mod_eq]
  by_cases h : 2 ^ (w - 1) ≤ a
  ·have : a / 2 ^ (w - 1) = 1 := by
    rw [Nat.div_eq_iff (pow_pos' _)]; omega
   simp [this, h]
  ·have : a / 2 ^ (w - 1) = 0 := Nat.div_eq_of_lt (by omega)
   simp [this, h]
 have hb : min b w ≤ w := Nat.min_le_right _ _
 have small : ∀ i, i < w → i + b < w → min b w = b := fun i _ h => Nat.min_eq_left (by omega)
 unfold sarP
 refine codeOf_eq (fromP_lt _ _) fun i hi => ?_
 by_cases hs : 2 ^ (w - 1) ≤ a
 ·-- with the sign
  have e1 : sgn w a = (a : Int) - ((2 ^ w : Nat) : Int) := by unfold sgn; rw [if_pos hs]
  have e2 : fromP w (sgn w a / ((2 ^ min b w : Nat) : Int)) = ((a + 2 ^ w * (2 ^ 16 - 1)) / 2 ^ min b w) % 2 ^ w := by
   have h1 : sgn w a = ((a + 2 ^ w * (2 ^ 16 - 1) : Nat) : Int) - ((2 ^ min b w : Nat) : Int) * ((2 ^ (w + 16 - min b w) : Nat) : Int) := by
    have h2 : 2 ^ min b w * 2 ^ (w + 16 - min b w) = 2 ^ w * 2 ^ 16 := by rw [← Nat.pow_add, ← Nat.pow_add]; congr 1; omega
    rw [e1, ← Int.natCast_mul, h2]
    have : 2 ^ w * (2 ^ 16 - 1) + 2 ^ w = 2 ^ w * 2 ^ 16 := by rw [← Nat.mul_succ]
    omega
   have hpos : ((2 ^ min b w : Nat) : Int) ≠ 0 := by have := pow_pos' (min b w); omega
   have h3 : sgn w a / ((2 ^ min b w : Nat) : Int) = (((a + 2 ^ w * (2 ^ 16 - 1)) / 2 ^ min b w : Nat) : Int) - ((2 ^ w : Nat) : Int) * ((2 ^ (16 - min b w) : Nat) : Int) := by
    rw [h1, Int.sub_eq_add_neg, ← Int.mul_neg, Int.add_mul_ediv_left _ _ hpos, ← Int.natCast_ediv]
    have : 2 ^ (w + 16 - min b w) = 2 ^ w * 2 ^ (16 - min b w) := by rw [← Nat.pow_add]; congr 1; omega
    rw [this, Int.natCast_mul]; omega
   rw [h3]
   unfold fromP
   rw [Int.sub_mul_emod_self_left, ← Int.natCast_emod, Int.toNat_natCast]
  rw [e2, Nat.testBit_mod_two_pow, Nat.testBit_div_two_pow, Nat.add_comm a, Nat.testBit_two_pow_mul_add _ ha]
  have hd : decide (i < w) = true := by simpa using hi
  rw [hd, Bool.true_and]
  by_cases h : i + b < w
  ·have hm := small i hi h
   rw [if_pos h, hm, if_pos (by omega)]
  ·have hm : ¬ i + min b w < w := by omega
   rw [if_neg h, if_neg hm, Nat.testBit_two_pow_sub_one, top]
   simp only [hs, decide_true, decide_eq_true_eq]
   omega
 ·have e1 : sgn w a = a := by unfold sgn; rw [if_neg hs]
  rw [e1, ← Int.natCast_ediv, fromP_nat, Nat.testBit_mod_two_pow, Nat.testBit_div_two_pow]
  have hd : decide (i < w) = true := by simpa using hi
  rw [hd, Bool.true_and]
  by_cases h : i + b < w
  ·rw [if_pos h, small i hi h]
  ·rw [if_neg h, top]
   have hm : ¬ i + min b w < w := by omega
   have : decide (2 ^ (w - 1) ≤ a) = false := by simpa using hs
   rw [this]
   exact Nat.testBit_lt_two_pow (Nat.lt_of_lt_of_le ha (Nat.pow_le_pow_right (by omega) (by omega)))
def rolP (w a k : Nat) : Nat := ((a * 2 ^ k) ||| (a / 2 ^ (w - k))) % 2 ^ w
theorem rol_bit {w a k i : Nat} (ha : a < 2 ^ w) (hk : k < w) (hi : i < w) : (rolP w a k).testBit i = a.testBit ((i + (w - k)) % w) := by
 unfold rolP
 rw [Nat.testBit_mod_two_pow, Nat.testBit_or, Nat.mul_comm, Nat.testBit_two_pow_mul, Nat.testBit_div_two_pow]
 have hd : decide (i < w) = true := by simpa using hi
 rw [hd, Bool.true_and]
 by_cases h : k ≤ i
 ·have e : (i + (w - k)) % w = i - k := by
   have : i + (w - k) = (i - k) + w := by omega
   rw [this, Nat.add_mod_right, Nat.mod_eq_of_lt (by omega)]
  have z : a.testBit (i + (w - k)) = false := Nat.testBit_lt_two_pow (Nat.lt_of_lt_of_le ha (Nat.pow_le_pow_right (by omega) (by omega)))
  rw [e, z]; simp [h]
 ·have e : (i + (w - k)) % w = i + (w - k) := Nat.mod_eq_of_lt (by omega)
  rw [e]
  have : decide (k ≤ i) = false := by simpa using h
  rw [this]; simp
theorem rol_code {w a k : Nat} (ha : a < 2 ^ w) (hk : k < w) : codeOf w (fun j => a.testBit ((j + (w - k)) % w)) = rolP w a k :=
 codeOf_eq (Nat.mod_lt _ (pow_pos' w)) fun i hi => rol_bit ha hk hi
theorem turn_step {w a k i : Nat} (hk : k < w) (hi : i < w) :
  codeOf w (fun j => decide ((j + (w - k)) % w < i) && a.testBit ((j + (w - k)) % w)) + (if a.testBit i then 2 ^ ((i + k) % w) else 0) =
   codeOf w (fun j => decide ((j + (w - k)) % w < i + 1) && a.testBit ((j + (w - k)) % w)) := by
 have hpw : (i + k) % w < w := Nat.mod_lt _ (by omega)
 have back : ((i + k) % w + (w - k)) % w = i := by
  rw [Nat.mod_add_mod]
  have : i + k + (w - k) = i + w := by omega
  rw [this, Nat.add_mod_right, Nat.mod_eq_of_lt hi]
 have inj : ∀ j, j < w → ((j + (w - k)) % w = i ↔ j = (i + k) % w) := by
  intro j hj
  constructor
  ·intro h
   have : (j + (w - k) + k) % w = (i + k) % w := by rw [← h, Nat.mod_add_mod]
   rw [← this]
   have : j + (w - k) + k = j + w := by omega
   rw [this, Nat.add_mod_right, Nat.mod_eq_of_lt hj]
  ·rintro rfl; exact back
 cases hb : a.testBit i with
 | false =>
  simp only [Bool.false_eq_true, if_false, Nat.add_zero]
  refine codeOf_ext fun j hj => ?_
  by_cases h : (j + (w - k)) % w = i
  ·rw [h, hb]; simp
  ·have : decide ((j + (w - k)) % w < i + 1) = decide ((j + (w - k)) % w < i) := by
    rw [decide_eq_decide]; omega
   rw [this]
 | true =>
  simp only [if_true]
  rw [codeOf_set hpw (by rw [back]; simp)]
  refine codeOf_ext fun j hj => ?_
  by_cases h : j = (i + k) % w
  ·have h2 := (inj j hj).2 h
   rw [h2, hb]; simp [h]
  ·have h2 : ¬ (j + (w - k)) % w = i := fun e => h ((inj j hj).1 e)
   have : decide ((j + (w - k)) % w < i + 1) = decide ((j + (w - k)) % w < i) := by
    rw [decide_eq_decide]; omega
   rw [this]; simp [h]
def oneP (kind : Int) (w a : Nat) : Nat × Nat :=
 if kind = 1 then (2 ^ w - 1 - a, w) else if kind = 2 then (fromP w (-(a : Int)), w) else if kind = 3 then (if a = 0 then 0 else 1, 1) else
 if kind = 4 then (if a = 2 ^ w - 1 then 1 else 0, 1) else (onesP w a % 2, 1)
def sdivP (w a b : Nat) : Nat := if sgn w b = 0 then (if sgn w a < 0 then 1 else 2 ^ w - 1) else fromP w (Int.tdiv (sgn w a) (sgn w b))
def sremP (w a b : Nat) : Nat := if sgn w b = 0 then a else fromP w (Int.tmod (sgn w a) (sgn w b))
def saysP (kind : Int) (w a b : Nat) : Bool :=
 if kind = 21 then decide (a = b) else if kind = 22 then decide (a < b) else if kind = 23 then decide (sgn w a < sgn w b) else
 if kind = 24 then decide (a ≤ b) else if kind = 25 then decide (sgn w a ≤ sgn w b) else if kind = 26 then decide (2 ^ w ≤ a + b) else
 if kind = 27 then !decide (-((2 ^ (w - 1) : Nat) : Int) ≤ sgn w a + sgn w b ∧ sgn w a + sgn w b < ((2 ^ (w - 1) : Nat) : Int)) else decide (2 ^ w ≤ a * b)
def calcP (kind : Int) (w a b : Nat) : Nat :=
 if kind = 6 then a &&& b else if kind = 7 then a ||| b else if kind = 8 then a ^^^ b else if kind = 9 then fromP w ((a : Int) + b) else
 if kind = 10 then fromP w ((a : Int) - b) else if kind = 11 then fromP w ((a : Int) * b) else if kind = 12 then (if b = 0 then 2 ^ w - 1 else a / b) else
 if kind = 13 then (if b = 0 then a else a % b) else if kind = 14 then sdivP w a b else if kind = 15 then sremP w a b else
 if kind = 16 then shlP w a b else if kind = 17 then shrP w a b else if kind = 18 then sarP w a b else if kind = 19 then rolP w a (b % w) else rolP w a ((w - b % w) % w)
def twoP (kind : Int) (w a b : Nat) : Nat × Nat := if kind ≤ 20 then (calcP kind w a b, w) else (if saysP kind w a b then 1 else 0, 1)
theorem oneP_lt {kind : Int} {w a : Nat} (hw : 1 ≤ w) (ha : a < 2 ^ w) : (oneP kind w a).1 < 2 ^ (oneP kind w a).2 := by
 have := pow_pos' w
 unfold oneP
 split
 ·simp only; omega
 ·split
  ·exact fromP_lt _ _
  ·split
   ·simp only; split <;> omega
   ·split
    ·simp only; split <;> omega
    ·simp only; omega
theorem rolP_lt (w a k : Nat) : rolP w a k < 2 ^ w := Nat.mod_lt _ (pow_pos' w)
theorem ite_lt {c : Prop} [Decidable c] {x y n : Nat} (hx : x < n) (hy : y < n) : (if c then x else y) < n := by
 by_cases h : c
 ·rw [if_pos h]; exact hx
 ·rw [if_neg h]; exact hy
theorem calcP_lt {kind : Int} {w a b : Nat} (hw : 1 ≤ w) (ha : a < 2 ^ w) (hb : b < 2 ^ w) : calcP kind w a b < 2 ^ w := by
 have hp := pow_pos' w
 have hp1 : 1 < 2 ^ w := by
  have := pow_half hw; have := pow_pos' (w - 1); omega
 unfold calcP
 refine ite_lt (Nat.lt_of_le_of_lt Nat.and_le_left ha) (ite_lt (Nat.or_lt_two_pow ha hb) (ite_lt (Nat.xor_lt_two_pow ha hb) (ite_lt (fromP_lt _ _) (ite_lt (fromP_lt _ _) (ite_lt (fromP_lt _ _)
  (ite_lt (ite_lt (by omega) (Nat.lt_of_le_of_lt (Nat.div_le_self _ _) ha)) (ite_lt (ite_lt ha (Nat.lt_of_le_of_lt (Nat.mod_le _ _) ha)) (ite_lt ?_ (ite_lt ?_ (ite_lt (Nat.mod_lt _ hp)
  (ite_lt (Nat.lt_of_le_of_lt (Nat.div_le_self _ _) ha) (ite_lt (fromP_lt _ _) (ite_lt (rolP_lt _ _ _) (rolP_lt _ _ _))))))))))))))
 ·unfold sdivP
  exact ite_lt (ite_lt hp1 (by omega)) (fromP_lt _ _)
 ·unfold sremP
  exact ite_lt ha (fromP_lt _ _)
theorem twoP_lt {kind : Int} {w a b : Nat} (hw : 1 ≤ w) (ha : a < 2 ^ w) (hb : b < 2 ^ w) : (twoP kind w a b).1 < 2 ^ (twoP kind w a b).2 := by
 unfold twoP
 split
 ·exact calcP_lt hw ha hb
 ·simp only; split <;> omega
theorem sover {w a b : Nat} (hw : 1 ≤ w) : (sgn w (fromP w (sgn w a + sgn w b)) ≠ sgn w a + sgn w b) ↔ ¬ (-((2 ^ (w - 1) : Nat) : Int) ≤ sgn w a + sgn w b ∧ sgn w a + sgn w b < ((2 ^ (w - 1) : Nat) : Int)) := by
 rw [ne_eq, sgn_from hw]
structure SortP where
 idx : Int
 wid : Int
 deriving DecidableEq
structure NodeP where
 kind : Int
 a : Int
 b : Int
 c : Int
 n : Int
 m : Int
 sort : SortP
 name : ByteArray
structure BindP where
 state : Int
 node : Int
 deriving DecidableEq
structure ModelP where
 nodes : List NodeP
 inits : List BindP
 nexts : List BindP
 bads : List Int
 holds : List Int
def sortOkP (s : SortP) : Bool := decide ((0 ≤ s.idx ∧ s.idx ≤ 2) ∧ (1 ≤ s.wid ∧ s.wid ≤ 16))
def sortCellsP (s : SortP) : Nat := if sortOkP s then 2 ^ s.idx.toNat else 0
def sortBitsP (s : SortP) : Nat := sortCellsP s * s.wid.toNat
def wordS (w : Int) : SortP := ⟨0, w⟩
def partsP (kind : Int) : Int :=
 if (1 ≤ kind ∧ kind ≤ 5) ∨ (30 ≤ kind ∧ kind ≤ 32) then 1 else if (6 ≤ kind ∧ kind ≤ 29) ∨ kind = 37 then 2 else if kind = 33 ∨ kind = 38 then 3 else
 if 34 ≤ kind ∧ kind ≤ 36 then 0 else -1
def letterU (c : UInt8) : Bool := decide (97 ≤ c.toNat ∧ c.toNat ≤ 122)
def digitU (c : UInt8) : Bool := decide (48 ≤ c.toNat ∧ c.toNat ≤ 57)
def isNameP (s : ByteArray) : Bool := decide (1 ≤ s.size ∧ s.size ≤ 8) && (match s.data.toList with | [] => false | c :: r => letterU c && r.all fun c => letterU c || digitU c)
def namedP (kind : Int) : Bool := decide (kind = 35 ∨ kind = 36)
def partB (k : Int) (len : Nat) (i : Int) (p : Int) : Bool := if i < k then decide (0 ≤ p ∧ p ≤ (len : Int) - 1) else decide (p = 0)
def fieldsP (len : Nat) (n : NodeP) : Bool :=
 decide (0 ≤ partsP n.kind) && (partB (partsP n.kind) len 0 n.a && partB (partsP n.kind) len 1 n.b && partB (partsP n.kind) len 2 n.c) &&
 (if namedP n.kind then isNameP n.name else decide (n.name.size = 0)) && (decide (n.kind = 30) || decide (n.m = 0)) &&
 (decide (n.kind = 30 ∨ n.kind = 31 ∨ n.kind = 32 ∨ n.kind = 34) || decide (n.n = 0))
def wordOkP (w v : Int) : Bool := decide ((1 ≤ w ∧ w ≤ 16) ∧ 0 ≤ v ∧ v ≤ ((2 ^ w.toNat : Nat) : Int) - 1)
def resultP (n : NodeP) (a b c : SortP) : Option SortP :=
 if n.kind = 33 then (if a = wordS 1 ∧ b = c then some b else none) else
 if n.kind = 37 then (if 0 < a.idx ∧ b = wordS a.idx then some (wordS a.wid) else none) else
 if n.kind = 38 then (if 0 < a.idx ∧ b = wordS a.idx ∧ c = wordS a.wid then some a else none) else
 if n.kind = 21 then (if a = b then some (wordS 1) else none) else
 if 0 < a.idx ∨ (partsP n.kind = 2 ∧ 0 < b.idx) then none else
 if n.kind = 29 then (if a.wid + b.wid ≤ 16 then some (wordS (a.wid + b.wid)) else none) else
 if n.kind = 30 then (if (0 ≤ n.n ∧ n.n ≤ a.wid - 1) ∧ 0 ≤ n.m ∧ n.m ≤ n.n then some (wordS (n.n - n.m + 1)) else none) else
 if n.kind = 31 ∨ n.kind = 32 then (if 0 ≤ n.n ∧ n.n ≤ 16 - a.wid then some (wordS (a.wid + n.n)) else none) else
 if n.kind ≤ 5 then some (wordS (if n.kind ≤ 2 then a.wid else 1)) else
 if a = b then some (wordS (if n.kind ≤ 20 then a.wid else 1)) else none
def sortAt (l : List NodeP) (p : Int) : SortP := match l[p.toNat]? with | some n => n.sort | none => ⟨0, 0⟩
def nodeSortP (l : List NodeP) (n : NodeP) : Option SortP :=
 if l.length ≤ 60 ∧ fieldsP l.length n = true then
  (if partsP n.kind = 0 then (if (if n.kind = 34 then decide (n.sort.idx = 0) && wordOkP n.sort.wid n.n else sortOkP n.sort) then some n.sort else none) else
   if sortOkP (sortAt l n.a) && ((decide (partsP n.kind < 2) || sortOkP (sortAt l n.b)) && (decide (partsP n.kind < 3) || sortOkP (sortAt l n.c))) then
    resultP n (sortAt l n.a) (sortAt l n.b) (sortAt l n.c) else none)
 else none
def nodesOkP (l : List NodeP) : Bool := (List.range l.length).all fun i => match l[i]? with | some n => decide (nodeSortP (l.take i) n = some n.sort) | none => true
def againP {α : Type} [DecidableEq α] (l : List α) : Bool := (List.range l.length).any fun i => match l[i]? with | some x => (l.take i).any fun y => decide (y = x) | none => false
def nameAgain (l : List NodeP) : Bool := (List.range l.length).any fun i => match l[i]? with | some n => decide (n.name.size ≠ 0) && (l.take i).any fun y => decide (y.name = n.name) | none => false
def twiceP (m : ModelP) : Bool := nameAgain m.nodes || (againP (m.inits.map (·.state)) || againP (m.nexts.map (·.state)))
def madeP (l : List NodeP) : Nat → List Bool
 | 0 => []
 | i + 1 => madeP l i ++ [match l[i]? with
   | some n => namedP n.kind || ((decide (0 < partsP n.kind) && (madeP l i).getD n.a.toNat false) || ((decide (1 < partsP n.kind) && (madeP l i).getD n.b.toNat false) || (decide (2 < partsP n.kind) && (madeP l i).getD n.c.toNat false)))
   | none => false]
def placeB (l : List NodeP) (p : Int) : Bool := decide (0 ≤ p ∧ p ≤ (l.length : Int) - 1)
def kindAt (l : List NodeP) (p : Int) : Int := match l[p.toNat]? with | some n => n.kind | none => 0
def initOkP (l : List NodeP) (b : BindP) : Bool :=
 (placeB l b.state && placeB l b.node && decide (kindAt l b.state = 36)) && ((decide (sortAt l b.state = sortAt l b.node) || decide (sortAt l b.node = wordS (sortAt l b.state).wid)) && !(madeP l l.length).getD b.node.toNat false)
def nextOkP (l : List NodeP) (b : BindP) : Bool := (placeB l b.state && placeB l b.node && decide (kindAt l b.state = 36)) && decide (sortAt l b.state = sortAt l b.node)
def propOkP (l : List NodeP) (p : Int) : Bool := placeB l p && decide (sortAt l p = wordS 1)
def bitsP (l : List NodeP) (kind : Int) : Nat := ((l.filter fun n => decide (n.kind = kind)).map fun n => sortBitsP n.sort).sum
def placesP (l : List NodeP) (kind : Int) : List Nat := (List.range l.length).filter fun i => match l[i]? with | some n => decide (n.kind = kind) | none => false
def modelCodeP (m : ModelP) : Int :=
 if 60 < m.nodes.length ∨ 60 < m.inits.length ∨ 60 < m.nexts.length ∨ 4 < m.bads.length ∨ 4 < m.holds.length then 1 else
 if nodesOkP m.nodes = false then 2 else if twiceP m = true then 3 else
 if (m.inits.all (initOkP m.nodes) && m.nexts.all (nextOkP m.nodes)) = false then 4 else
 if (m.bads.all (propOkP m.nodes) && m.holds.all (propOkP m.nodes)) = false then 5 else
 if 8 < bitsP m.nodes 36 ∨ 5 < bitsP m.nodes 35 then 6 else 0
def cellP (v : List (List Nat)) (p : Int) : Nat := (v.getD p.toNat []).getD 0 0
def sliceP (a lo n : Nat) : Nat := a / 2 ^ lo % 2 ^ n
def growP (w a more : Nat) (signed : Bool) : Nat := if signed then fromP (w + more) (sgn w a) else a
def nodeValP (l : List NodeP) (n : NodeP) (v : List (List Nat)) : List Nat :=
 if n.kind = 34 then [n.n.toNat] else
 if n.kind = 33 then (if cellP v n.a = 1 then v.getD n.b.toNat [] else v.getD n.c.toNat []) else
 if n.kind = 21 then [if v.getD n.a.toNat [] = v.getD n.b.toNat [] then 1 else 0] else
 if n.kind = 37 then [(v.getD n.a.toNat []).getD (cellP v n.b) 0] else
 if n.kind = 38 then (v.getD n.a.toNat []).set (cellP v n.b) (cellP v n.c) else
 if n.kind = 29 then [cellP v n.a * 2 ^ (sortAt l n.b).wid.toNat + cellP v n.b] else
 if n.kind = 30 then [sliceP (cellP v n.a) n.m.toNat (n.n - n.m + 1).toNat] else
 if n.kind = 31 ∨ n.kind = 32 then [growP (sortAt l n.a).wid.toNat (cellP v n.a) n.n.toNat (decide (n.kind = 32))] else
 if partsP n.kind = 1 then [(oneP n.kind (sortAt l n.a).wid.toNat (cellP v n.a)).1] else [(twoP n.kind (sortAt l n.a).wid.toNat (cellP v n.a) (cellP v n.b)).1]
def evalP (l : List NodeP) (s inp : List (List Nat)) : Nat → List (List Nat)
 | 0 => []
 | i + 1 => evalP l s inp i ++ [match l[i]? with
   | some n => if n.kind = 36 then s.getD (placesP (l.take i) 36).length [] else if n.kind = 35 then inp.getD (placesP (l.take i) 35).length [] else nodeValP l n (evalP l s inp i)
   | none => []]
def partsL (n : NodeP) : List Nat := ([n.a.toNat, n.b.toNat, n.c.toNat]).take (partsP n.kind).toNat
theorem partsP_cases (k : Int) : partsP k = 0 ∨ partsP k = 1 ∨ partsP k = 2 ∨ partsP k = 3 ∨ partsP k = -1 := by
 unfold partsP
 by_cases h1 : (1 ≤ k ∧ k ≤ 5) ∨ (30 ≤ k ∧ k ≤ 32)
 ·rw [if_pos h1]; simp
 rw [if_neg h1]
 by_cases h2 : (6 ≤ k ∧ k ≤ 29) ∨ k = 37
 ·rw [if_pos h2]; simp
 rw [if_neg h2]
 by_cases h3 : k = 33 ∨ k = 38
 ·rw [if_pos h3]; simp
 rw [if_neg h3]
 by_cases h4 : 34 ≤ k ∧ k ≤ 36
 ·rw [if_pos h4]; simp
 rw [if_neg h4]; simp
def Ahead (l : List NodeP) : Prop := ∀ (i : Nat) (n : NodeP), l[i]? = some n → 0 ≤ partsP n.kind ∧ ∀ p ∈ partsL n, p < i
def isNamed (l : List NodeP) (j : Nat) : Bool := match l[j]? with | some n => namedP n.kind | none => false
def made (l : List NodeP) (j : Nat) : Bool := (madeP l l.length).getD j false
theorem madeP_len (l : List NodeP) : ∀ i, (madeP l i).length = i := by
 intro i
 induction i with
 | zero => rfl
 | succ i ih => simp only [madeP, List.length_append, ih, List.length_cons, List.length_nil]
theorem madeP_pre (l : List NodeP) : ∀ d i j, j < i → (madeP l (i + d)).getD j false = (madeP l i).getD j false := by
 intro d
 induction d with
 | zero => intro i j _; rfl
 | succ d ih =>
  intro i j hj
  rw [← Nat.add_assoc]
  simp only [madeP]
  have hl := madeP_len l (i + d)
  rw [List.getD, List.getElem?_append_left (by omega)]
  exact ih i j hj
theorem madeP_at {l : List NodeP} {i j : Nat} (hj : j < i) (hi : i ≤ l.length) : (madeP l i).getD j false = made l j := by
 have := madeP_pre l (l.length - i) i j hj
 rw [show i + (l.length - i) = l.length by omega] at this
 exact this.symm
theorem made_iff {l : List NodeP} (ha : Ahead l) {i : Nat} {n : NodeP} (hn : l[i]? = some n) : made l i = true ↔ namedP n.kind = true ∨ ∃ p ∈ partsL n, made l p = true := by
 have hi : i < l.length := (List.getElem?_eq_some_iff.1 hn).1
 obtain ⟨hk, hp⟩ := ha i n hn
 have e : made l i = (namedP n.kind || ((decide (0 < partsP n.kind) && (madeP l i).getD n.a.toNat false) || ((decide (1 < partsP n.kind) && (madeP l i).getD n.b.toNat false) || (decide (2 < partsP n.kind) && (madeP l i).getD n.c.toNat false)))) := by
  rw [← madeP_at (Nat.lt_succ_self i) hi]
  simp only [madeP]
  have hl := madeP_len l i
  rw [List.getD, List.getElem?_append_right (by omega), hl, Nat.sub_self]
  simp only [hn, List.getElem?_cons_zero, Option.getD_some]
 rw [e]
 unfold partsL at hp ⊢
 rcases partsP_cases n.kind with h | h | h | h | h
 ·simp [h]
 ·rw [h] at hp ⊢
  have h1 := hp n.a.toNat (by simp)
  rw [madeP_at h1 (by omega)]
  simp
 ·rw [h] at hp ⊢
  have h1 := hp n.a.toNat (by simp)
  have h2 := hp n.b.toNat (by simp)
  rw [madeP_at h1 (by omega), madeP_at h2 (by omega)]
  simp
 ·rw [h] at hp ⊢
  have h1 := hp n.a.toNat (by simp)
  have h2 := hp n.b.toNat (by simp)
  have h3 := hp n.c.toNat (by simp)
  rw [madeP_at h1 (by omega), madeP_at h2 (by omega), madeP_at h3 (by omega)]
  simp
 ·omega
def downP (l : List NodeP) : Nat → (Nat → Bool) → Nat → Bool
 | 0, S => S
 | i + 1, S => downP l i (if S i then fun j => S j || (match l[i]? with | some n => (partsL n).contains j | none => false) else S)
theorem down_made {l : List NodeP} (ha : Ahead l) : ∀ (i : Nat) (S : Nat → Bool), i ≤ l.length →
  ((∃ j, downP l i S j = true ∧ isNamed l j = true) ↔ (∃ j, i ≤ j ∧ S j = true ∧ isNamed l j = true) ∨ ∃ j, j < i ∧ S j = true ∧ made l j = true) := by
 intro i
 induction i with
 | zero => intro S _; simp [downP]
 | succ i ih =>
  intro S hi
  simp only [downP]
  rw [ih _ (by omega)]
  obtain ⟨n, hn⟩ : ∃ n, l[i]? = some n := ⟨l[i], List.getElem?_eq_getElem (by omega)⟩
  have hm := made_iff ha hn
  have hp := (ha i n hn).2
  have hnm : isNamed l i = namedP n.kind := by unfold isNamed; rw [hn]
  by_cases hS : S i = true
  ·simp only [hS, if_true, hn]
   constructor
   ·rintro (⟨j, h1, h2, h3⟩ | ⟨j, h1, h2, h3⟩)
    ·by_cases hji : j = i
     ·subst hji
      exact .inr ⟨j, by omega, hS, hm.2 (.inl (hnm ▸ h3))⟩
     ·rcases Bool.or_eq_true_iff.1 h2 with h2 | h2
      ·exact .inl ⟨j, by omega, h2, h3⟩
      ·have := hp j (by simpa using h2); omega
    ·rcases Bool.or_eq_true_iff.1 h2 with h2 | h2
     ·exact .inr ⟨j, by omega, h2, h3⟩
     ·exact .inr ⟨i, by omega, hS, hm.2 (.inr ⟨j, by simpa using h2, h3⟩)⟩
   ·rintro (⟨j, h1, h2, h3⟩ | ⟨j, h1, h2, h3⟩)
    ·exact .inl ⟨j, by omega, by simp [h2], h3⟩
    ·by_cases hji : j = i
     ·subst hji
      rcases hm.1 h3 with h4 | ⟨p, hp1, hp2⟩
      ·exact .inl ⟨j, Nat.le_refl _, by simp [hS], hnm ▸ h4⟩
      ·exact .inr ⟨p, hp p hp1, by simp [hp1], hp2⟩
     ·exact .inr ⟨j, by omega, by simp [h2], h3⟩
  ·simp only [hS, if_false]
   constructor
   ·rintro (⟨j, h1, h2, h3⟩ | ⟨j, h1, h2, h3⟩)
    ·by_cases hji : j = i
     ·subst hji; exact absurd h2 hS
     ·exact .inl ⟨j, by omega, h2, h3⟩
    ·exact .inr ⟨j, by omega, h2, h3⟩
   ·rintro (⟨j, h1, h2, h3⟩ | ⟨j, h1, h2, h3⟩)
    ·exact .inl ⟨j, by omega, h2, h3⟩
    ·by_cases hji : j = i
     ·subst hji; exact absurd h2 hS
     ·exact .inr ⟨j, by omega, h2, h3⟩
theorem down_at {l : List NodeP} (ha : Ahead l) {i : Nat} (hi : i < l.length) : (∃ j, downP l (i + 1) (fun j => decide (j = i)) j = true ∧ isNamed l j = true) ↔ made l i = true := by
 rw [down_made ha _ _ (by omega)]
 constructor
 ·rintro (⟨j, h1, h2, h3⟩ | ⟨j, h1, h2, h3⟩)
  ·simp at h2; omega
  ·simp at h2; subst h2; exact h3
 ·intro h; exact .inr ⟨i, by omega, by simp, h⟩
theorem down_le {l : List NodeP} (ha : Ahead l) (k : Nat) : ∀ (i : Nat) (S : Nat → Bool), i ≤ k + 1 → i ≤ l.length → (∀ j, S j = true → j ≤ k) → ∀ j, downP l i S j = true → j ≤ k := by
 intro i
 induction i with
 | zero => intro S _ _ hS j hj; exact hS j hj
 | succ i ih =>
  intro S hk hi hS j hj
  simp only [downP] at hj
  refine ih _ (by omega) (by omega) ?_ j hj
  intro j' hj'
  split at hj'
  ·rcases Bool.or_eq_true_iff.1 hj' with h | h
   ·exact hS j' h
   ·obtain ⟨n, hn⟩ : ∃ n, l[i]? = some n := ⟨l[i], List.getElem?_eq_getElem (by omega)⟩
    rw [hn] at h
    have := (ha i n hn).2 j' (by simpa using h)
    omega
  ·exact hS j' hj'
def unpC (w : Nat) : Nat → Nat → List Nat
 | 0, _ => []
 | c + 1, code => unpC w c code ++ [code / 2 ^ (w * c) % 2 ^ w]
def widA (l : List NodeP) (p : Nat) : Nat := (sortAt l p).wid.toNat
def cellsA (l : List NodeP) (p : Nat) : Nat := sortCellsP (sortAt l p)
def sumW (l : List NodeP) (ps : List Nat) : Nat := (ps.map fun p => widA l p * cellsA l p).sum
def unpL (l : List NodeP) (ps : List Nat) (code : Nat) : List (List Nat) :=
 (List.range ps.length).map fun i => unpC (widA l (ps.getD i 0)) (cellsA l (ps.getD i 0)) (code / 2 ^ sumW l (ps.take i))
theorem unpC_len (w c code : Nat) : (unpC w c code).length = c := by
 induction c with
 | zero => rfl
 | succ c ih => simp only [unpC, List.length_append, ih, List.length_cons, List.length_nil]
theorem unpC_lt {w c code x : Nat} (h : x ∈ unpC w c code) : x < 2 ^ w := by
 induction c with
 | zero => cases h
 | succ c ih =>
  simp only [unpC, List.mem_append, List.mem_singleton] at h
  rcases h with h | h
  ·exact ih h
  ·subst h; exact Nat.mod_lt _ (pow_pos' w)
theorem unpL_len (l : List NodeP) (ps : List Nat) (code : Nat) : (unpL l ps code).length = ps.length := by simp [unpL]
theorem get_ltP {α : Type} {l : List α} {i : Nat} {x : α} (h : l[i]? = some x) : i < l.length := by
 rcases Nat.lt_or_ge i l.length with h' | h'
 ·exact h'
 ·rw [List.getElem?_eq_none h'] at h; cases h
theorem unpL_get {l : List NodeP} {ps : List Nat} {code i p : Nat} (h : ps[i]? = some p) : (unpL l ps code).getD i [] = unpC (widA l p) (cellsA l p) (code / 2 ^ sumW l (ps.take i)) := by
 have hlt := get_ltP h
 have hp : ps.getD i 0 = p := by rw [List.getD_eq_getElem?_getD, h]; rfl
 unfold unpL
 rw [List.getD_eq_getElem?_getD, List.getElem?_map, List.getElem?_range hlt]
 simp only [Option.map_some, Option.getD_some, hp]
theorem sumW_take {l : List NodeP} {ps : List Nat} {i p : Nat} (h : ps[i]? = some p) : sumW l (ps.take (i + 1)) = sumW l (ps.take i) + widA l p * cellsA l p := by
 have hlt := get_ltP h
 rw [List.getElem?_eq_getElem hlt] at h
 unfold sumW
 rw [List.take_succ_eq_append_getElem hlt, Option.some.inj h, List.map_append, List.sum_append]; simp
theorem sumW_le (l : List NodeP) (ps : List Nat) (i : Nat) : sumW l (ps.take i) ≤ sumW l ps := by
 conv => rhs; rw [← List.take_append_drop i ps]
 unfold sumW
 rw [List.map_append, List.sum_append]; omega
def packC (w : Nat) : List Nat → Nat
 | [] => 0
 | x :: xs => x + 2 ^ w * packC w xs
theorem packC_lt {w : Nat} : ∀ {xs : List Nat}, (∀ x ∈ xs, x < 2 ^ w) → packC w xs < 2 ^ (w * xs.length) := by
 intro xs
 induction xs with
 | nil => intro _; simp [packC]
 | cons x xs ih =>
  intro h
  have h1 := ih fun y hy => h y (by simp [hy])
  have h2 := h x (by simp)
  simp only [packC, List.length_cons]
  rw [Nat.mul_add, Nat.mul_one, Nat.pow_add, Nat.mul_comm (2 ^ (w * xs.length))]
  have h3 := Nat.mul_le_mul_left (2 ^ w) (Nat.succ_le_of_lt h1)
  rw [Nat.succ_eq_add_one, Nat.mul_add, Nat.mul_one] at h3
  omega
theorem packC_snoc (w : Nat) (xs : List Nat) (x : Nat) : packC w (xs ++ [x]) = packC w xs + 2 ^ (w * xs.length) * x := by
 induction xs with
 | nil => simp [packC]
 | cons y ys ih =>
  simp only [List.cons_append, packC, ih, List.length_cons]
  rw [Nat.mul_add, ← Nat.add_assoc]
  congr 1
  rw [Nat.mul_add w, Nat.mul_one, Nat.add_comm (w * ys.length), Nat.pow_add, Nat.mul_assoc]
theorem unpC_mod (w : Nat) (code k : Nat) : ∀ c, c ≤ k → unpC w c (code % 2 ^ (w * k)) = unpC w c code := by
 intro c
 induction c with
 | zero => intro _; rfl
 | succ c ih =>
  intro h
  simp only [unpC, ih (by omega)]
  congr 2
  have hk : w * k = w * c + (w + w * (k - c - 1)) := by
   have : k = c + (1 + (k - c - 1)) := by omega
   conv => lhs; rw [this]
   simp only [Nat.mul_add, Nat.mul_one]
  rw [hk, Nat.pow_add, Nat.mod_mul_right_div_self, Nat.pow_add, Nat.mod_mul_right_mod]
theorem packC_unp (w c code : Nat) : packC w (unpC w c code) = code % 2 ^ (w * c) := by
 induction c with
 | zero => simp [unpC, packC, Nat.mod_one]
 | succ c ih =>
  rw [unpC, packC_snoc, ih, unpC_len, Nat.mul_add, Nat.mul_one, Nat.pow_add, Nat.mod_mul]
theorem packC_div {w : Nat} : ∀ {xs : List Nat} {k : Nat}, (∀ x ∈ xs, x < 2 ^ w) → k < xs.length → packC w xs / 2 ^ (w * k) % 2 ^ w = xs.getD k 0 := by
 intro xs
 induction xs with
 | nil => intro k _ h; simp at h
 | cons x xs ih =>
  intro k h hk
  have hx := h x (by simp)
  have hp := pow_pos' w
  cases k with
  | zero =>
   simp only [packC, Nat.mul_zero, Nat.pow_zero, Nat.div_one, List.getD_cons_zero]
   rw [Nat.add_mul_mod_self_left, Nat.mod_eq_of_lt hx]
  | succ k =>
   rw [List.getD_cons_succ, ← ih (fun y hy => h y (by simp [hy])) (by simpa using hk)]
   simp only [packC]
   rw [Nat.mul_add, Nat.mul_one, Nat.add_comm (w * k), Nat.pow_add, ← Nat.div_div_eq_div_mul, Nat.add_mul_div_left _ _ hp, Nat.div_eq_of_lt hx, Nat.zero_add]
theorem unpC_pack {w : Nat} {xs : List Nat} (h : ∀ x ∈ xs, x < 2 ^ w) : unpC w xs.length (packC w xs) = xs := by
 have key : ∀ c, c ≤ xs.length → unpC w c (packC w xs) = xs.take c := by
  intro c
  induction c with
  | zero => intro _; rfl
  | succ c ih =>
   intro hc
   rw [unpC, ih (by omega), packC_div h (by omega), List.take_succ_eq_append_getElem (by omega), List.getD_eq_getElem?_getD, List.getElem?_eq_getElem (by omega)]; rfl
 have := key xs.length (Nat.le_refl _)
 rwa [List.take_length] at this
theorem packC_zero (w n : Nat) : packC w (List.replicate n 0) = 0 := by
 induction n with
 | zero => rfl
 | succ n ih => simp only [List.replicate_succ, packC, ih]; simp
def nbA (l : List NodeP) (p : Nat) : Nat := widA l p * cellsA l p
def unpR (l : List NodeP) : List Nat → Nat → List (List Nat)
 | [], _ => []
 | p :: ps, code => unpC (widA l p) (cellsA l p) code :: unpR l ps (code / 2 ^ nbA l p)
def packR (l : List NodeP) : List Nat → List (List Nat) → Nat
 | [], _ => 0
 | p :: ps, vs => packC (widA l p) (vs.headD []) + 2 ^ nbA l p * packR l ps vs.tail
def FitR (l : List NodeP) : List Nat → List (List Nat) → Prop
 | [], vs => vs = []
 | p :: ps, vs => ∃ v r, vs = v :: r ∧ v.length = cellsA l p ∧ (∀ x ∈ v, x < 2 ^ widA l p) ∧ FitR l ps r
theorem sumW_cons (l : List NodeP) (p : Nat) (ps : List Nat) : sumW l (p :: ps) = nbA l p + sumW l ps := by simp [sumW, nbA]
theorem unpL_eq (l : List NodeP) : ∀ (ps : List Nat) (code : Nat), unpL l ps code = unpR l ps code := by
 intro ps
 induction ps with
 | nil => intro code; simp [unpL, unpR]
 | cons p ps ih =>
  intro code
  rw [unpR, ← ih]
  unfold unpL
  rw [List.length_cons, List.range_succ_eq_map, List.map_cons, List.map_map]
  simp only [List.getD_cons_zero, List.take_zero, sumW, List.map_nil, List.sum_nil, Nat.pow_zero, Nat.div_one, List.cons.injEq, true_and]
  apply List.map_congr_left
  intro i _
  simp only [Function.comp, List.getD_cons_succ, List.take_succ_cons, List.map_cons, List.sum_cons, nbA]
  rw [Nat.pow_add, Nat.div_div_eq_div_mul]
theorem fitR_unp (l : List NodeP) : ∀ (ps : List Nat) (code : Nat), FitR l ps (unpR l ps code) := by
 intro ps
 induction ps with
 | nil => intro code; rfl
 | cons p ps ih => exact fun code => ⟨_, _, rfl, unpC_len _ _ _, fun x hx => unpC_lt hx, ih _⟩
theorem packR_lt {l : List NodeP} : ∀ {ps : List Nat} {vs : List (List Nat)}, FitR l ps vs → packR l ps vs < 2 ^ sumW l ps := by
 intro ps
 induction ps with
 | nil => intro vs _; simp [packR, sumW]
 | cons p ps ih =>
  rintro _ ⟨v, r, rfl, h1, h2, h3⟩
  have h4 := ih h3
  have h5 := packC_lt h2
  rw [h1] at h5
  have h5' : packC (widA l p) v < 2 ^ nbA l p := h5
  simp only [packR, List.headD_cons, List.tail_cons]
  rw [sumW_cons, Nat.pow_add]
  have h6 := Nat.mul_le_mul_left (2 ^ nbA l p) (Nat.succ_le_of_lt h4)
  rw [Nat.succ_eq_add_one, Nat.mul_add, Nat.mul_one] at h6
  omega
theorem unpR_pack {l : List NodeP} : ∀ {ps : List Nat} {vs : List (List Nat)}, FitR l ps vs → unpR l ps (packR l ps vs) = vs := by
 intro ps
 induction ps with
 | nil => rintro vs rfl; rfl
 | cons p ps ih =>
  rintro _ ⟨v, r, rfl, h1, h2, h3⟩
  have h5 := packC_lt h2
  rw [h1] at h5
  have h5' : packC (widA l p) v < 2 ^ nbA l p := h5
  simp only [unpR, packR, List.headD_cons, List.tail_cons]
  rw [Nat.add_mul_div_left _ _ (pow_pos' _), Nat.div_eq_of_lt h5', Nat.zero_add, ih h3, ← unpC_mod _ _ _ _ (Nat.le_refl _)]
  have : (packC (widA l p) v + 2 ^ nbA l p * packR l ps r) % 2 ^ (widA l p * cellsA l p) = packC (widA l p) v := by
   show _ % 2 ^ nbA l p = _
   rw [Nat.add_mul_mod_self_left, Nat.mod_eq_of_lt h5']
  rw [this, ← h1, unpC_pack h2]
theorem fitR_len {l : List NodeP} : ∀ {ps : List Nat} {vs : List (List Nat)}, FitR l ps vs → vs.length = ps.length := by
 intro ps
 induction ps with
 | nil => rintro vs rfl; rfl
 | cons p ps ih => rintro _ ⟨v, r, rfl, h1, h2, h3⟩; simp [ih h3]
theorem packR_snoc {l : List NodeP} : ∀ {ps : List Nat} {vs : List (List Nat)} {p : Nat} {v : List Nat}, vs.length = ps.length →
  packR l (ps ++ [p]) (vs ++ [v]) = packR l ps vs + 2 ^ sumW l ps * packC (widA l p) v := by
 intro ps
 induction ps with
 | nil =>
  intro vs p v h
  obtain rfl : vs = [] := List.eq_nil_of_length_eq_zero (by simpa using h)
  simp [packR, sumW]
 | cons q ps ih =>
  intro vs p v h
  obtain ⟨u, r, rfl⟩ : ∃ u r, vs = u :: r := by
   cases vs with
   | nil => simp at h
   | cons u r => exact ⟨u, r, rfl⟩
  simp only [List.cons_append, packR, List.headD_cons, List.tail_cons]
  rw [ih (by simpa using h), sumW_cons, Nat.pow_add, Nat.mul_add, Nat.mul_assoc, Nat.add_assoc]
theorem fitR_take {l : List NodeP} : ∀ {ps : List Nat} {vs : List (List Nat)}, FitR l ps vs → ∀ i, FitR l (ps.take i) (vs.take i) := by
 intro ps
 induction ps with
 | nil => rintro vs rfl i; simp [FitR]
 | cons p ps ih =>
  rintro _ ⟨v, r, rfl, h1, h2, h3⟩ i
  cases i with
  | zero => rfl
  | succ i => exact ⟨v, r.take i, rfl, h1, h2, ih h3 i⟩
theorem fitR_get {l : List NodeP} : ∀ {ps : List Nat} {vs : List (List Nat)}, FitR l ps vs → ∀ {i p : Nat}, ps[i]? = some p → (vs.getD i []).length = cellsA l p ∧ ∀ x ∈ vs.getD i [], x < 2 ^ widA l p := by
 intro ps
 induction ps with
 | nil => rintro vs rfl i p h; simp at h
 | cons q ps ih =>
  rintro _ ⟨v, r, rfl, h1, h2, h3⟩ i p h
  cases i with
  | zero => simp at h; subst h; exact ⟨h1, h2⟩
  | succ i => exact ih h3 (by simpa using h)
def boundP (binds : List BindP) (p : Nat) : Option Nat := (binds.find? fun b => decide (b.state = (p : Int))).map (·.node.toNat)
def maskR (l : List NodeP) (c : Nat → Bool) : List Nat → Nat
 | [] => 0
 | p :: ps => (if c p then 2 ^ nbA l p - 1 else 0) + 2 ^ nbA l p * maskR l c ps
def heldR (l : List NodeP) (f : Nat → Option (List Nat)) (ps : List Nat) : List (List Nat) := ps.map fun p => (f p).getD (List.replicate (cellsA l p) 0)
theorem pow_sub_lt (n : Nat) : 2 ^ n - 1 < 2 ^ n := by have := pow_pos' n; omega
theorem mask_lo (l : List NodeP) (c : Nat → Bool) (p : Nat) : (if c p then 2 ^ nbA l p - 1 else 0) < 2 ^ nbA l p := by
 have := pow_pos' (nbA l p); split <;> omega
theorem maskR_lt (l : List NodeP) (c : Nat → Bool) : ∀ ps, maskR l c ps < 2 ^ sumW l ps := by
 intro ps
 induction ps with
 | nil => simp [maskR, sumW]
 | cons p ps ih =>
  have h1 := mask_lo l c p
  rw [sumW_cons, Nat.pow_add, maskR]
  have h6 := Nat.mul_le_mul_left (2 ^ nbA l p) (Nat.succ_le_of_lt ih)
  rw [Nat.succ_eq_add_one, Nat.mul_add, Nat.mul_one] at h6
  omega
theorem bit_split {n a b : Nat} (ha : a < 2 ^ n) (j : Nat) : (a + 2 ^ n * b).testBit j = if j < n then a.testBit j else b.testBit (j - n) := by
 rw [Nat.add_comm, Nat.testBit_two_pow_mul_add _ ha]
theorem and_split {n a b c d : Nat} (ha : a < 2 ^ n) (hc : c < 2 ^ n) : (a + 2 ^ n * b) &&& (c + 2 ^ n * d) = (a &&& c) + 2 ^ n * (b &&& d) := by
 apply Nat.eq_of_testBit_eq
 intro j
 rw [Nat.testBit_and, bit_split ha, bit_split hc, bit_split (Nat.lt_of_le_of_lt Nat.and_le_left ha)]
 split <;> rw [Nat.testBit_and]
theorem split_inj {n a b c d : Nat} (ha : a < 2 ^ n) (hc : c < 2 ^ n) : a + 2 ^ n * b = c + 2 ^ n * d ↔ a = c ∧ b = d := by
 constructor
 ·intro h
  have h1 : (a + 2 ^ n * b) % 2 ^ n = (c + 2 ^ n * d) % 2 ^ n := by rw [h]
  have h2 : (a + 2 ^ n * b) / 2 ^ n = (c + 2 ^ n * d) / 2 ^ n := by rw [h]
  rw [Nat.add_mul_mod_self_left, Nat.add_mul_mod_self_left, Nat.mod_eq_of_lt ha, Nat.mod_eq_of_lt hc] at h1
  rw [Nat.add_mul_div_left _ _ (pow_pos' n), Nat.add_mul_div_left _ _ (pow_pos' n), Nat.div_eq_of_lt ha, Nat.div_eq_of_lt hc] at h2
  exact ⟨h1, by omega⟩
 ·rintro ⟨rfl, rfl⟩; rfl
theorem agree_iff {l : List NodeP} {f : Nat → Option (List Nat)} : ∀ {ps : List Nat} (s : Nat), (∀ p ∈ ps, ∀ v, f p = some v → v.length = cellsA l p ∧ ∀ x ∈ v, x < 2 ^ widA l p) →
  (s &&& maskR l (fun p => (f p).isSome) ps = packR l ps (heldR l f ps) ↔ ∀ (i p : Nat), ps[i]? = some p → ∀ v, f p = some v → (unpR l ps s).getD i [] = v) := by
 intro ps
 induction ps with
 | nil => intro s _; simp [maskR, packR]
 | cons p ps ih =>
  intro s hf
  have ih' := ih (s / 2 ^ nbA l p) fun q hq => hf q (by simp [hq])
  have hs : s = s % 2 ^ nbA l p + 2 ^ nbA l p * (s / 2 ^ nbA l p) := (Nat.mod_add_div _ _).symm
  have hm := Nat.mod_lt s (pow_pos' (nbA l p))
  have hhead : packC (widA l p) ((f p).getD (List.replicate (cellsA l p) 0)) < 2 ^ nbA l p := by
   cases h : f p with
   | none => simp only [Option.getD_none, packC_zero]; exact pow_pos' _
   | some v =>
    have h2 := hf p (by simp) v h
    have h1 := packC_lt h2.2
    rw [h2.1] at h1; exact h1
  have e1 : s &&& maskR l (fun p => (f p).isSome) (p :: ps) = (s % 2 ^ nbA l p &&& (if (f p).isSome then 2 ^ nbA l p - 1 else 0)) + 2 ^ nbA l p * (s / 2 ^ nbA l p &&& maskR l (fun p => (f p).isSome) ps) := by
   conv => lhs; rw [hs]
   rw [maskR, and_split hm (mask_lo l (fun p => (f p).isSome) p)]
  have e2 : packR l (p :: ps) (heldR l f (p :: ps)) = packC (widA l p) ((f p).getD (List.replicate (cellsA l p) 0)) + 2 ^ nbA l p * packR l ps (heldR l f ps) := rfl
  rw [e1, e2, split_inj (Nat.lt_of_le_of_lt Nat.and_le_left hm) hhead, ih']
  constructor
  ·rintro ⟨h1, h2⟩ i q hq v hv
   cases i with
   | zero =>
    simp at hq; subst hq
    rw [hv] at h1
    simp only [Option.isSome_some, if_true, Option.getD_some, Nat.and_two_pow_sub_one_eq_mod, Nat.mod_mod] at h1
    have h3 := hf p (by simp) v hv
    simp only [unpR, List.getD_cons_zero]
    rw [← unpC_mod _ _ _ _ (Nat.le_refl _)]
    show unpC _ _ (s % 2 ^ nbA l p) = v
    rw [h1, ← h3.1, unpC_pack h3.2]
   | succ i => exact h2 i q (by simpa using hq) v hv
  ·intro h
   refine ⟨?_, fun i q hq v hv => h (i + 1) q (by simpa using hq) v hv⟩
   cases hv : f p with
   | none => simp [packC_zero]
   | some v =>
    have h1 := h 0 p rfl v hv
    simp only [unpR, List.getD_cons_zero] at h1
    simp only [Option.isSome_some, if_true, Option.getD_some, Nat.and_two_pow_sub_one_eq_mod, Nat.mod_mod]
    rw [← h1, packC_unp]; rfl
theorem heldR_fit {l : List NodeP} {f : Nat → Option (List Nat)} {ps : List Nat} (h : ∀ p ∈ ps, ∀ v, f p = some v → v.length = cellsA l p ∧ ∀ x ∈ v, x < 2 ^ widA l p) : FitR l ps (heldR l f ps) := by
 induction ps with
 | nil => rfl
 | cons p ps ih =>
  refine ⟨_, _, rfl, ?_, ?_, ih fun q hq => h q (by simp [hq])⟩
  ·show ((f p).getD (List.replicate (cellsA l p) 0)).length = _
   cases hv : f p with
   | none => simp
   | some v => exact (h p (by simp) v hv).1
  ·show ∀ x ∈ (f p).getD (List.replicate (cellsA l p) 0), _
   cases hv : f p with
   | none =>
    intro x hx
    simp at hx
    rw [hx.2]; exact pow_pos' _
   | some v => exact (h p (by simp) v hv).2
theorem held_and {l : List NodeP} {f : Nat → Option (List Nat)} {ps : List Nat} (h : ∀ p ∈ ps, ∀ v, f p = some v → v.length = cellsA l p ∧ ∀ x ∈ v, x < 2 ^ widA l p) :
  packR l ps (heldR l f ps) &&& maskR l (fun p => (f p).isSome) ps = packR l ps (heldR l f ps) := by
 rw [agree_iff _ h, unpR_pack (heldR_fit h)]
 intro i p hp v hv
 unfold heldR
 rw [List.getD_eq_getElem?_getD, List.getElem?_map, hp]
 simp [hv]
theorem and_zero_bits {a b : Nat} (h : ∀ j, (a.testBit j && b.testBit j) = false) : a &&& b = 0 := by
 apply Nat.eq_of_testBit_eq; intro j; rw [Nat.testBit_and, h j, Nat.zero_testBit]
theorem mask_not (l : List NodeP) (c : Nat → Bool) : ∀ ps, maskR l c ps + maskR l (fun p => !c p) ps = 2 ^ sumW l ps - 1 := by
 intro ps
 induction ps with
 | nil => simp [maskR, sumW]
 | cons p ps ih =>
  simp only [maskR]
  rw [sumW_cons, Nat.pow_add]
  have h1 := pow_pos' (nbA l p)
  have h2 := pow_pos' (sumW l ps)
  have h3 : 2 ^ nbA l p * maskR l c ps + 2 ^ nbA l p * maskR l (fun p => !c p) ps = 2 ^ nbA l p * 2 ^ sumW l ps - 2 ^ nbA l p := by
   rw [← Nat.mul_add, ih, Nat.mul_sub, Nat.mul_one]
  have h4 := Nat.mul_le_mul_left (2 ^ nbA l p) h2
  by_cases hc : c p = true
  ·simp only [hc, Bool.not_true, if_true, if_false, Bool.false_eq_true]; omega
  ·have hc' : c p = false := by simpa using hc
   simp only [hc', Bool.not_false, if_true, if_false, Bool.false_eq_true]; omega
theorem codeOf_and_not (n a b : Nat) : codeOf n (fun j => a.testBit j && b.testBit j) + codeOf n (fun j => a.testBit j && !b.testBit j) = codeOf n a.testBit := by
 induction n with
 | zero => rfl
 | succ n ih =>
  simp only [codeOf]
  by_cases h1 : a.testBit n = true <;> by_cases h2 : b.testBit n = true <;> simp [h1, h2] <;> omega
theorem codeOf_id {n a : Nat} (h : a < 2 ^ n) : codeOf n a.testBit = a := codeOf_eq h fun _ _ => rfl
theorem and_add {n a x y : Nat} (ha : a < 2 ^ n) (hxy : x + y = 2 ^ n - 1) (hx : x < 2 ^ n) : (a &&& x) + (a &&& y) = a ∧ ∀ j, j < n → y.testBit j = !x.testBit j := by
 have hb : ∀ j, j < n → y.testBit j = !x.testBit j := by
  have h1 := codeOf_and_not n (2 ^ n - 1) x
  rw [codeOf_id (pow_sub_lt n), codeOf_eq hx (fun i hi => by rw [Nat.testBit_two_pow_sub_one]; simp [hi])] at h1
  have h2 : codeOf n (fun j => (2 ^ n - 1).testBit j && !x.testBit j) = y := by omega
  intro j hj
  rw [← h2, codeOf_bit _ _ _ hj, Nat.testBit_two_pow_sub_one]
  simp [hj]
 refine ⟨?_, hb⟩
 have h1 := codeOf_and_not n a x
 rw [codeOf_id ha, each_and ha] at h1
 have h2 : codeOf n (fun j => a.testBit j && !x.testBit j) = a &&& y := by
  rw [← each_and ha]
  exact codeOf_ext fun j hj => by rw [hb j hj]
 omega
theorem step_iff {n x y nx t : Nat} (hxy : x + y = 2 ^ n - 1) (hx : x < 2 ^ n) (ht : t < 2 ^ n) (hnx : nx < 2 ^ n) (hn : nx &&& x = nx) : t &&& x = nx ↔ ∃ f, f &&& y = f ∧ nx + f = t := by
 have h1 := and_add ht hxy hx
 constructor
 ·intro h
  exact ⟨t &&& y, by rw [Nat.and_assoc, Nat.and_self], by omega⟩
 ·rintro ⟨f, hf, rfl⟩
  have hfl : f < 2 ^ n := by omega
  have d : ∀ j, (nx.testBit j && f.testBit j) = false := by
   intro j
   by_cases hj : j < n
   ·have e1 : nx.testBit j = (nx.testBit j && x.testBit j) := by rw [← Nat.testBit_and, hn]
    have e2 : f.testBit j = (f.testBit j && y.testBit j) := by rw [← Nat.testBit_and, hf]
    rw [e1, e2, h1.2 j hj]
    cases nx.testBit j <;> cases f.testBit j <;> cases x.testBit j <;> rfl
   ·rw [Nat.testBit_lt_two_pow (Nat.lt_of_lt_of_le hnx (Nat.pow_le_pow_right (by omega) (by omega)))]; rfl
  have hor : nx + f = nx ||| f := by
   have hg : ∀ m, codeOf m nx.testBit + codeOf m f.testBit = codeOf m (fun j => nx.testBit j || f.testBit j) := by
    intro m
    induction m with
    | zero => rfl
    | succ m ih =>
     have := d m
     simp only [codeOf]
     by_cases h1 : nx.testBit m = true <;> by_cases h2 : f.testBit m = true <;> simp [h1, h2] at this ⊢ <;> omega
   have := hg n
   rw [codeOf_id hnx, codeOf_id hfl, each_or hnx hfl] at this
   exact this
  rw [hor]
  have hfx : f &&& x = 0 := and_zero_bits fun j => by
   by_cases hj : j < n
   ·have e2 : f.testBit j = (f.testBit j && y.testBit j) := by rw [← Nat.testBit_and, hf]
    rw [e2, h1.2 j hj]
    cases f.testBit j <;> cases x.testBit j <;> rfl
   ·rw [Nat.testBit_lt_two_pow (Nat.lt_of_lt_of_le hfl (Nat.pow_le_pow_right (by omega) (by omega)))]; rfl
  rw [Nat.and_or_distrib_right, hn, hfx, Nat.or_zero]
def anyB (n : Nat) (p : Nat → Bool) : Bool := (List.range n).any p
theorem anyB_iff {n : Nat} {p : Nat → Bool} : anyB n p = true ↔ ∃ i, i < n ∧ p i = true := by
 unfold anyB; rw [List.any_eq_true]
 constructor
 ·rintro ⟨i, hi, h⟩; exact ⟨i, List.mem_range.1 hi, h⟩
 ·rintro ⟨i, hi, h⟩; exact ⟨i, List.mem_range.2 hi, h⟩
theorem anyB_no {n : Nat} {p : Nat → Bool} : anyB n p = false ↔ ∀ i, i < n → p i = false := by
 rw [Bool.eq_false_iff, ne_eq, anyB_iff]
 constructor
 ·intro h i hi
  cases hp : p i with
  | false => rfl
  | true => exact absurd ⟨i, hi, hp⟩ h
 ·rintro h ⟨i, hi, hp⟩; rw [h i hi] at hp; cases hp
theorem anyB_succ (n : Nat) (p : Nat → Bool) : anyB (n + 1) p = (anyB n p || p n) := by
 unfold anyB; rw [List.range_succ, List.any_append]; simp
structure SysP where
 n : Nat
 k : Nat
 hold : Nat → Bool
 bad : Nat → Bool
 next : Nat → Nat
 fixed : Nat
 bfix : Nat
 bas : Nat
structure SysP.Ok (σ : SysP) : Prop where
 nle : σ.n ≤ 8
 kle : σ.k ≤ 5
 fixed : σ.fixed < 2 ^ σ.n
 bfix : σ.bfix < 2 ^ σ.n
 next : ∀ c, c < 2 ^ (σ.n + σ.k) → σ.next c < 2 ^ σ.n
 held : ∀ c, c < 2 ^ (σ.n + σ.k) → σ.next c &&& σ.fixed = σ.next c
 bas : σ.bas < 2 ^ σ.n
 bheld : σ.bas &&& σ.bfix = σ.bas
namespace SysP
def begins (σ : SysP) (s : Nat) : Bool := decide (s &&& σ.bfix = σ.bas)
def ends (σ : SysP) (c : Nat) : Bool := σ.hold c && σ.bad c
def goes (σ : SysP) (c t : Nat) : Bool := decide (t &&& σ.fixed = σ.next c)
def at_ (σ : SysP) (s i : Nat) : Nat := i * 2 ^ σ.n + s
def some_ (σ : SysP) (f : Nat → Nat → Bool) (s : Nat) : Bool := anyB (2 ^ σ.k) fun i => f s (σ.at_ s i)
def leads (σ : SysP) (S : Nat → Bool) (c : Nat) : Bool := anyB (2 ^ σ.n) fun t => S t && σ.goes c t
def fwd (σ : SysP) (p S : Nat → Bool) (t : Nat) : Bool := anyB (2 ^ (σ.n + σ.k)) fun c => (S (c % 2 ^ σ.n) && p c) && σ.goes c t
def bwd (σ : SysP) (p S : Nat → Bool) : Nat → Bool := σ.some_ fun _ c => p c && σ.leads S c
theorem pow_nk (σ : SysP) : 2 ^ (σ.n + σ.k) = 2 ^ σ.k * 2 ^ σ.n := by rw [Nat.pow_add, Nat.mul_comm]
theorem at_lt {σ : SysP} {s i : Nat} (hs : s < 2 ^ σ.n) (hi : i < 2 ^ σ.k) : σ.at_ s i < 2 ^ (σ.n + σ.k) := by
 rw [pow_nk]; unfold at_
 have := Nat.mul_le_mul_right (2 ^ σ.n) (Nat.succ_le_of_lt hi)
 rw [Nat.succ_mul] at this; omega
theorem at_mod {σ : SysP} {s i : Nat} (hs : s < 2 ^ σ.n) : σ.at_ s i % 2 ^ σ.n = s := by
 unfold at_; rw [Nat.mul_comm, Nat.mul_add_mod, Nat.mod_eq_of_lt hs]
theorem at_of {σ : SysP} {c : Nat} (hc : c < 2 ^ (σ.n + σ.k)) : c % 2 ^ σ.n < 2 ^ σ.n ∧ c / 2 ^ σ.n < 2 ^ σ.k ∧ σ.at_ (c % 2 ^ σ.n) (c / 2 ^ σ.n) = c := by
 refine ⟨Nat.mod_lt _ (pow_pos' _), ?_, ?_⟩
 ·rw [Nat.div_lt_iff_lt_mul (pow_pos' _), ← pow_nk]; exact hc
 ·unfold at_; rw [Nat.mul_comm]; exact Nat.div_add_mod _ _
theorem some_iff {σ : SysP} {f : Nat → Nat → Bool} {s : Nat} : σ.some_ f s = true ↔ ∃ i, i < 2 ^ σ.k ∧ f s (σ.at_ s i) = true := anyB_iff
theorem fwd_iff {σ : SysP} {p S : Nat → Bool} {t : Nat} : σ.fwd p S t = true ↔ ∃ s i, s < 2 ^ σ.n ∧ i < 2 ^ σ.k ∧ S s = true ∧ p (σ.at_ s i) = true ∧ σ.goes (σ.at_ s i) t = true := by
 unfold fwd; rw [anyB_iff]
 constructor
 ·rintro ⟨c, hc, h⟩
  simp only [Bool.and_eq_true] at h
  obtain ⟨h1, h2, h3⟩ := at_of hc
  exact ⟨_, _, h1, h2, h.1.1, by rw [h3]; exact h.1.2, by rw [h3]; exact h.2⟩
 ·rintro ⟨s, i, hs, hi, h1, h2, h3⟩
  refine ⟨_, at_lt hs hi, ?_⟩
  rw [at_mod hs, h1, h2, h3]; rfl
theorem bwd_iff {σ : SysP} {p S : Nat → Bool} {s : Nat} : σ.bwd p S s = true ↔ ∃ i t, i < 2 ^ σ.k ∧ t < 2 ^ σ.n ∧ p (σ.at_ s i) = true ∧ S t = true ∧ σ.goes (σ.at_ s i) t = true := by
 unfold bwd; rw [some_iff]
 constructor
 ·rintro ⟨i, hi, h⟩
  simp only [Bool.and_eq_true, leads, anyB_iff] at h
  obtain ⟨h1, t, ht, h2, h3⟩ := h
  exact ⟨i, t, hi, ht, h1, h2, h3⟩
 ·rintro ⟨i, t, hi, ht, h1, h2, h3⟩
  refine ⟨i, hi, ?_⟩
  simp only [Bool.and_eq_true, leads, anyB_iff]
  exact ⟨h1, t, ht, h2, h3⟩
theorem meet {σ : SysP} {p S T : Nat → Bool} : (∃ t, t < 2 ^ σ.n ∧ σ.fwd p S t = true ∧ T t = true) ↔ ∃ s, s < 2 ^ σ.n ∧ S s = true ∧ σ.bwd p T s = true := by
 constructor
 ·rintro ⟨t, ht, h1, h2⟩
  obtain ⟨s, i, hs, hi, a, b, c⟩ := fwd_iff.1 h1
  exact ⟨s, hs, a, bwd_iff.2 ⟨i, t, hi, ht, b, h2, c⟩⟩
 ·rintro ⟨s, hs, h1, h2⟩
  obtain ⟨i, t, hi, ht, a, b, c⟩ := bwd_iff.1 h2
  exact ⟨t, ht, fwd_iff.2 ⟨s, i, hs, hi, h1, a, c⟩, b⟩
def lay (σ : SysP) : Nat → (Nat → Bool) × (Nat → Bool)
 | 0 => (σ.begins, fun _ => false)
 | i + 1 => (fun t => σ.fwd σ.hold (σ.lay i).1 t && !((σ.lay i).2 t || (σ.lay i).1 t), fun t => (σ.lay i).2 t || (σ.lay i).1 t)
def front (σ : SysP) (i : Nat) : Nat → Bool := (σ.lay i).1
def seen (σ : SysP) (i : Nat) : Nat → Bool := (σ.lay i).2
theorem seen_zero (σ : SysP) (t : Nat) : σ.seen 0 t = false := rfl
theorem seen_succ (σ : SysP) (i t : Nat) : σ.seen (i + 1) t = (σ.seen i t || σ.front i t) := rfl
theorem front_succ (σ : SysP) (i t : Nat) : σ.front (i + 1) t = (σ.fwd σ.hold (σ.front i) t && !σ.seen (i + 1) t) := rfl
def live (σ : SysP) (i : Nat) : Bool := anyB (2 ^ σ.n) (σ.front i)
def cntB (n : Nat) (S : Nat → Bool) : Nat := ((List.range n).filter S).length
theorem cntB_le (n : Nat) (S : Nat → Bool) : cntB n S ≤ n := by unfold cntB; have := List.length_filter_le S (List.range n); simpa using this
theorem cntB_succ (n : Nat) (S : Nat → Bool) : cntB (n + 1) S = cntB n S + if S n then 1 else 0 := by
 unfold cntB; rw [List.range_succ, List.filter_append, List.length_append]
 by_cases h : S n = true <;> simp [h]
theorem cntB_mono {n : Nat} {S T : Nat → Bool} (h : ∀ i, i < n → S i = true → T i = true) : cntB n S ≤ cntB n T := by
 induction n with
 | zero => simp [cntB]
 | succ n ih =>
  have := ih fun i hi => h i (by omega)
  have h2 := h n (by omega)
  rw [cntB_succ, cntB_succ]
  by_cases hs : S n = true
  ·rw [if_pos hs, if_pos (h2 hs)]; omega
  ·rw [if_neg hs]; omega
theorem cntB_more {n j : Nat} {S T : Nat → Bool} (h : ∀ i, i < n → S i = true → T i = true) (hj : j < n) (h1 : S j = false) (h2 : T j = true) : cntB n S + 1 ≤ cntB n T := by
 induction n with
 | zero => omega
 | succ n ih =>
  rw [cntB_succ, cntB_succ]
  by_cases e : j = n
  ·subst e
   have := cntB_mono fun i hi => h i (Nat.lt_succ_of_lt hi)
   rw [if_neg (by rw [h1]; decide), if_pos h2]; omega
  ·have := ih (fun i hi => h i (by omega)) (by omega)
   have h3 := h n (by omega)
   by_cases hs : S n = true
   ·rw [if_pos hs, if_pos (h3 hs)]; omega
   ·rw [if_neg hs]; omega
theorem front_new (σ : SysP) (i t : Nat) (h : σ.front i t = true) : σ.seen i t = false := by
 cases i with
 | zero => rfl
 | succ i => rw [front_succ] at h; simp only [Bool.and_eq_true, Bool.not_eq_true'] at h; exact h.2
theorem cnt_seen (σ : SysP) : ∀ i, (∀ j, j < i → σ.live j = true) → i ≤ cntB (2 ^ σ.n) (σ.seen i) := by
 intro i
 induction i with
 | zero => intro _; omega
 | succ i ih =>
  intro h
  have h1 := ih fun j hj => h j (by omega)
  obtain ⟨t, ht, h2⟩ := anyB_iff.1 (h i (by omega))
  have := cntB_more (n := 2 ^ σ.n) (j := t) (S := σ.seen i) (T := σ.seen (i + 1)) (fun j _ hj => by rw [seen_succ, hj]; rfl) ht (front_new σ i t h2) (by rw [seen_succ, h2, Bool.or_true])
  omega
theorem live_le {σ : SysP} {i : Nat} (h : ∀ j, j < i → σ.live j = true) : i ≤ 2 ^ σ.n := Nat.le_trans (cnt_seen σ i h) (cntB_le _ _)
theorem dead_after {σ : SysP} {i : Nat} (h : σ.live i = false) : ∀ d, σ.live (i + d) = false := by
 intro d
 induction d with
 | zero => exact h
 | succ d ih =>
  unfold live at ih ⊢
  rw [anyB_no] at ih ⊢
  intro t ht
  rw [← Nat.add_assoc, front_succ]
  have : σ.fwd σ.hold (σ.front (i + d)) t = false := by
   cases hf : σ.fwd σ.hold (σ.front (i + d)) t with
   | false => rfl
   | true =>
    obtain ⟨s, x, hs, _, h1, _⟩ := fwd_iff.1 hf
    rw [ih s hs] at h1; cases h1
  rw [this]; rfl
def nLay (σ : SysP) : Nat := (List.range (2 ^ σ.n + 1)).findIdx fun i => !σ.live i
theorem nLay_of {σ : SysP} {i : Nat} (h1 : ∀ j, j < i → σ.live j = true) (h2 : σ.live i = false) : σ.nLay = i := by
 have hle := live_le h1
 unfold nLay
 rw [List.findIdx_eq (by simp; omega)]
 refine ⟨by simp [h2], fun j hj => ?_⟩
 simp [h1 j hj]
theorem nLay_live {σ : SysP} : (∀ j, j < σ.nLay → σ.live j = true) ∧ σ.live σ.nLay = false := by
 obtain ⟨i, h1, h2⟩ : ∃ i, (∀ j, j < i → σ.live j = true) ∧ σ.live i = false := by
  have key : ∀ m i, (∀ j, j < i → σ.live j = true) → m = 2 ^ σ.n + 1 - i → ∃ i, (∀ j, j < i → σ.live j = true) ∧ σ.live i = false := by
   intro m
   induction m with
   | zero => intro i h hm; have := live_le h; omega
   | succ m ih =>
    intro i h hm
    cases hl : σ.live i with
    | false => exact ⟨i, h, hl⟩
    | true => exact ih (i + 1) (fun j hj => by
      by_cases e : j = i
      ·subst e; exact hl
      ·exact h j (by omega)) (by omega)
  exact key _ 0 (fun j hj => by omega) rfl
 rw [nLay_of h1 h2]; exact ⟨h1, h2⟩
theorem nLay_le (σ : SysP) : σ.nLay ≤ 2 ^ σ.n := live_le nLay_live.1
theorem front_lt {σ : SysP} {i s : Nat} (hs : s < 2 ^ σ.n) (h : σ.front i s = true) : i < σ.nLay := by
 rcases Nat.lt_or_ge i σ.nLay with h1 | h1
 ·exact h1
 ·have := dead_after (nLay_live (σ := σ)).2 (i - σ.nLay)
  rw [show σ.nLay + (i - σ.nLay) = i by omega] at this
  unfold live at this
  rw [anyB_no] at this
  rw [this s hs] at h; cases h
theorem seen_iff {σ : SysP} {i t : Nat} : σ.seen i t = true ↔ ∃ j, j < i ∧ σ.front j t = true := by
 induction i with
 | zero => rw [seen_zero]; simp
 | succ i ih =>
  rw [seen_succ, Bool.or_eq_true, ih]
  constructor
  ·rintro (⟨j, hj, h⟩ | h)
   ·exact ⟨j, by omega, h⟩
   ·exact ⟨i, by omega, h⟩
  ·rintro ⟨j, hj, h⟩
   by_cases e : j = i
   ·subst e; exact .inr h
   ·exact .inl ⟨j, by omega, h⟩
def endsAt (σ : SysP) : Nat → Bool := σ.some_ fun _ c => σ.ends c
theorem endsAt_iff {σ : SysP} {s : Nat} : σ.endsAt s = true ↔ ∃ x, x < 2 ^ σ.k ∧ σ.hold (σ.at_ s x) = true ∧ σ.bad (σ.at_ s x) = true := by
 unfold endsAt; rw [some_iff]; simp only [ends, Bool.and_eq_true]
def hits (σ : SysP) (i : Nat) : Bool := anyB (2 ^ σ.n) fun s => σ.front i s && σ.endsAt s
def depth (σ : SysP) : Option Nat := (List.range σ.nLay).find? fun i => σ.hits i
def depthI (σ : SysP) : Int := match σ.depth with | some d => d | none => -1
theorem find_none {n : Nat} {p : Nat → Bool} : (List.range n).find? p = none ↔ ∀ i, i < n → p i = false := by
 rw [List.find?_eq_none]
 constructor
 ·intro h i hi; have := h i (List.mem_range.2 hi); simpa using this
 ·intro h i hi; rw [h i (List.mem_range.1 hi)]; decide
theorem find_some {n d : Nat} {p : Nat → Bool} : (List.range n).find? p = some d ↔ d < n ∧ p d = true ∧ ∀ i, i < d → p i = false := by
 induction n with
 | zero => simp
 | succ n ih =>
  rw [List.range_succ, List.find?_append]
  cases hn : (List.range n).find? p with
  | some e =>
   have h1 := hn
   rw [Option.some_or]
   have ih' : ∀ d, some e = some d ↔ _ := fun d => hn ▸ (show (List.range n).find? p = some d ↔ d < n ∧ p d = true ∧ ∀ i, i < d → p i = false from by
    constructor
    ·intro hd
     have := List.find?_some hd
     have hm := List.mem_range.1 (List.mem_of_find?_eq_some hd)
     refine ⟨hm, this, fun i hi => ?_⟩
     rw [List.find?_range_eq_some] at hd
     simpa using hd.2.2 i hi
    ·rintro ⟨a, b, c⟩
     rw [List.find?_range_eq_some]
     exact ⟨b, List.mem_range.2 a, fun j hj => by simp [c j hj]⟩)
   rw [ih']
   constructor
   ·rintro ⟨a, b, c⟩; exact ⟨by omega, b, c⟩
   ·rintro ⟨a, b, c⟩
    refine ⟨?_, b, c⟩
    rcases Nat.lt_or_ge d n with h | h
    ·exact h
    ·have hd : d = n := by omega
     have he := (ih' e).1 rfl
     have := c e (by omega)
     rw [he.2.1] at this; cases this
  | none =>
   rw [Option.none_or]
   have h0 := find_none.1 hn
   simp only [List.find?_cons, List.find?_nil]
   cases hp : p n with
   | true =>
    simp only [Option.some.injEq]
    constructor
    ·rintro rfl; exact ⟨by omega, hp, h0⟩
    ·rintro ⟨a, b, c⟩
     rcases Nat.lt_or_ge d n with h | h
     ·rw [h0 d h] at b; cases b
     ·omega
   | false =>
    simp only [reduceCtorEq, false_iff]
    rintro ⟨a, b, c⟩
    rcases Nat.lt_or_ge d n with h | h
    ·rw [h0 d h] at b; cases b
    ·have : d = n := by omega
     subst this; rw [hp] at b; cases b
theorem depth_some {σ : SysP} {d : Nat} : σ.depth = some d ↔ σ.hits d = true ∧ ∀ i, i < d → σ.hits i = false := by
 unfold depth; rw [find_some]
 constructor
 ·rintro ⟨_, h⟩; exact h
 ·rintro ⟨h1, h2⟩
  obtain ⟨s, hs, h⟩ := anyB_iff.1 h1
  exact ⟨front_lt hs (by simp only [Bool.and_eq_true] at h; exact h.1), h1, h2⟩
theorem depth_none {σ : SysP} : σ.depth = none ↔ ∀ i, σ.hits i = false := by
 unfold depth; rw [find_none]
 constructor
 ·intro h i
  cases hh : σ.hits i with
  | false => rfl
  | true =>
   obtain ⟨s, hs, h'⟩ := anyB_iff.1 hh
   have := h i (front_lt hs (by simp only [Bool.and_eq_true] at h'; exact h'.1))
   rw [hh] at this; cases this
 ·exact fun h i _ => h i
def back (σ : SysP) : Nat → Nat → Bool
 | 0 => σ.endsAt
 | i + 1 => σ.some_ fun s c => σ.back i s || (σ.hold c && σ.leads (σ.back i) c)
theorem fwd_mono {σ : SysP} {p q S T : Nat → Bool} (hp : ∀ c, c < 2 ^ (σ.n + σ.k) → p c = true → q c = true) (hS : ∀ s, s < 2 ^ σ.n → S s = true → T s = true) {t : Nat} (h : σ.fwd p S t = true) : σ.fwd q T t = true := by
 obtain ⟨s, i, hs, hi, a, b, c⟩ := fwd_iff.1 h
 exact fwd_iff.2 ⟨s, i, hs, hi, hS s hs a, hp _ (at_lt hs hi) b, c⟩
def clean (σ : SysP) (c : Nat) : Bool := σ.hold c && !σ.bad c
def back2 (σ : SysP) : Nat → Nat → Bool
 | 0 => σ.endsAt
 | i + 1 => σ.bwd σ.clean (σ.back2 i)
def kind (σ : SysP) (k : Nat) : Int := if (match σ.depth with | some d => decide (d < k) | none => false) then 1 else if anyB (2 ^ σ.n) (σ.back2 k) then 2 else 0
def cleanFrom (σ : SysP) (S : Nat → Bool) : Nat → Nat → Bool
 | 0 => S
 | i + 1 => σ.fwd σ.clean (σ.cleanFrom S i)
def met (σ : SysP) (S : Nat → Bool) : Bool := anyB (2 ^ σ.n) fun s => S s && σ.endsAt s
theorem seen_fwd {σ : SysP} (i t : Nat) (h : σ.fwd σ.hold (σ.seen i) t = true) : σ.seen (i + 1) t = true := by
 obtain ⟨s, x, hs, hx, h1, h2, h3⟩ := fwd_iff.1 h
 obtain ⟨j, hj, h4⟩ := seen_iff.1 h1
 have h5 : σ.fwd σ.hold (σ.front j) t = true := fwd_iff.2 ⟨s, x, hs, hx, h4, h2, h3⟩
 by_cases e : σ.seen (j + 1) t = true
 ·obtain ⟨q, hq, h6⟩ := seen_iff.1 e
  exact seen_iff.2 ⟨q, by omega, h6⟩
 ·have e' : σ.seen (j + 1) t = false := by simpa using e
  exact seen_iff.2 ⟨j + 1, by omega, by rw [front_succ, h5, e']; rfl⟩
theorem clean_hold {σ : SysP} {c : Nat} (h : σ.clean c = true) : σ.hold c = true := by simp only [clean, Bool.and_eq_true] at h; exact h.1
theorem clean_seen (σ : SysP) : ∀ i s, σ.cleanFrom σ.begins i s = true → σ.seen (i + 1) s = true := by
 intro i
 induction i with
 | zero => intro s h; rw [seen_succ]; rw [show σ.front 0 s = true from h, Bool.or_true]
 | succ i ih => exact fun s h => seen_fwd _ _ (fwd_mono (fun c _ h => clean_hold h) (fun s _ h => ih s h) h)
theorem base_iff {σ : SysP} {k : Nat} : (∃ i, i < k ∧ σ.met (σ.cleanFrom σ.begins i) = true) ↔ ∃ d, σ.depth = some d ∧ d < k := by
 constructor
 ·rintro ⟨i, hi, h⟩
  obtain ⟨s, hs, h1⟩ := anyB_iff.1 h
  simp only [Bool.and_eq_true] at h1
  obtain ⟨j, hj, h2⟩ := seen_iff.1 (clean_seen σ i s h1.1)
  have hh : σ.hits j = true := anyB_iff.2 ⟨s, hs, by rw [h2, h1.2]; rfl⟩
  cases hd : σ.depth with
  | none => rw [depth_none.1 hd j] at hh; cases hh
  | some d =>
   refine ⟨d, rfl, ?_⟩
   rcases Nat.lt_or_ge d k with e | e
   ·exact e
   ·rw [(depth_some.1 hd).2 j (by omega)] at hh; cases hh
 ·rintro ⟨d, hd, hk⟩
  obtain ⟨h1, h2⟩ := depth_some.1 hd
  have key : ∀ j, j ≤ d → ∀ s, s < 2 ^ σ.n → σ.front j s = true → σ.cleanFrom σ.begins j s = true := by
   intro j
   induction j with
   | zero => exact fun _ s _ h => h
   | succ j ih =>
    intro hj t ht h
    rw [front_succ] at h
    simp only [Bool.and_eq_true] at h
    obtain ⟨s, x, hs, hx, a, b, c⟩ := fwd_iff.1 h.1
    refine fwd_iff.2 ⟨s, x, hs, hx, ih (by omega) s hs a, ?_, c⟩
    cases hb : σ.bad (σ.at_ s x) with
    | false => simp [clean, b, hb]
    | true =>
     have : σ.hits j = true := anyB_iff.2 ⟨s, hs, by
      rw [a, Bool.true_and]
      exact endsAt_iff.2 ⟨x, hx, b, hb⟩⟩
     rw [h2 j (by omega)] at this; cases this
  obtain ⟨s, hs, h3⟩ := anyB_iff.1 h1
  simp only [Bool.and_eq_true] at h3
  exact ⟨d, hk, anyB_iff.2 ⟨s, hs, by rw [key d (Nat.le_refl _) s hs h3.1, h3.2]; rfl⟩⟩
theorem any_iff {σ : SysP} {k : Nat} : σ.met (σ.cleanFrom (fun _ => true) k) = anyB (2 ^ σ.n) (σ.back2 k) := by
 have key : ∀ j k, (∃ s, s < 2 ^ σ.n ∧ σ.cleanFrom (fun _ => true) k s = true ∧ σ.back2 j s = true) ↔ ∃ s, s < 2 ^ σ.n ∧ σ.back2 (j + k) s = true := by
  intro j k
  induction k generalizing j with
  | zero => simp [cleanFrom]
  | succ k ih =>
   rw [show j + (k + 1) = (j + 1) + k by omega, ← ih (j + 1)]
   exact meet
 rw [Bool.eq_iff_iff, anyB_iff]
 have := key 0 k
 rw [Nat.zero_add] at this
 rw [← this]
 unfold met; rw [anyB_iff]
 simp only [Bool.and_eq_true, back2]
theorem kind_eq {σ : SysP} {k : Nat} {base : Bool} (h : base = true ↔ ∃ i, i < k ∧ σ.met (σ.cleanFrom σ.begins i) = true) :
  σ.kind k = if base then 1 else if σ.met (σ.cleanFrom (fun _ => true) k) then 2 else 0 := by
 rw [base_iff] at h
 unfold kind
 rw [any_iff]
 cases hd : σ.depth with
 | none =>
  have : base = false := by
   cases hb : base with
   | false => rfl
   | true => obtain ⟨d, h1, _⟩ := h.1 hb; rw [hd] at h1; cases h1
  rw [this]
 | some d =>
  by_cases e : d < k
  ·rw [h.2 ⟨d, hd, e⟩]; simp [e]
  ·have : base = false := by
    cases hb : base with
    | false => rfl
    | true => obtain ⟨d', h1, h2⟩ := h.1 hb; rw [hd] at h1; cases h1; omega
   rw [this]; simp [e]
end SysP
theorem shrW_int {x : Int} {n : Nat} (hn : n ≤ 64) : shrW x (n : Int) = x / ((2 ^ n : Nat) : Int) := by
 unfold shrW
 have h1 : min (Int.toNat (n : Int)) IntKind.i64.bits = n := by simp [IntKind.bits]; omega
 rw [h1, Int.fdiv_eq_ediv_of_nonneg _ (Int.pow_nonneg (by decide))]
 simp
theorem andW_mask {x : Int} {w : Nat} (hw : w ≤ 62) : andW x (((2 ^ w : Nat) : Int) - 1) = ((fromP w x : Nat) : Int) := by
 have h2 := two_pow_le hw
 have hp := pow_pos' w
 have hm : (((2 ^ w : Nat) : Int) - 1) = ((2 ^ w - 1 : Nat) : Int) := by omega
 rw [hm]
 show IntKind.i64.wrap _ = _
 have h1 : (BitVec.ofInt IntKind.i64.bits x &&& BitVec.ofInt IntKind.i64.bits ((2 ^ w - 1 : Nat) : Int)).toNat = fromP w x := by
  show (BitVec.ofInt 64 x &&& BitVec.ofInt 64 ((2 ^ w - 1 : Nat) : Int)).toNat = fromP w x
  rw [BitVec.ofInt_natCast, BitVec.toNat_and, BitVec.toNat_ofNat, BitVec.toNat_ofInt, Nat.mod_eq_of_lt (by omega), Nat.and_two_pow_sub_one_eq_mod]
  have hd : ((2 ^ w : Nat) : Int) ∣ ((2 ^ 64 : Nat) : Int) := Int.natCast_dvd_natCast.2 (Nat.pow_dvd_pow 2 (by omega))
  have h3 := Int.emod_emod_of_dvd x hd
  have h4 := Int.emod_nonneg x (b := ((2 ^ 64 : Nat) : Int)) (by decide)
  unfold fromP
  rw [← h3]
  generalize x % ((2 ^ 64 : Nat) : Int) = y at *
  obtain ⟨z, rfl⟩ : ∃ z : Nat, y = z := ⟨y.toNat, by omega⟩
  rw [← Int.natCast_emod, Int.toNat_natCast, Int.toNat_natCast]
 rw [h1]
 exact W_nat (by have := fromP_lt w x; omega)
theorem shlW_neg {w : Nat} (hw : w ≤ 62) : shlW (-1) (w : Int) = -((2 ^ w : Nat) : Int) := by
 have h2 := two_pow_le hw
 unfold shlW
 have h1 : min (Int.toNat (w : Int)) IntKind.i64.bits = w := by simp [IntKind.bits]; omega
 rw [h1]
 have h3 : (-1 : Int) * 2 ^ w = -((2 ^ w : Nat) : Int) := by simp
 have key : ∀ N : Nat, N ≤ 4611686018427387904 → W (-(N : Int)) = -(N : Int) := fun N h => W_id (by omega) (by omega)
 rw [h3]; exact key _ h2
theorem pow16 {w : Nat} (hw : w ≤ 16) : 2 ^ w ≤ 65536 := by
 have := Nat.pow_le_pow_right (n := 2) (by omega) hw
 simpa using this
theorem wordOk_iff {w v : Int} : wordOkP w v = true ↔ (1 ≤ w ∧ w ≤ 16) ∧ 0 ≤ v ∧ v < ((2 ^ w.toNat : Nat) : Int) := by
 unfold wordOkP
 rw [decide_eq_true_eq]
 constructor
 ·rintro ⟨h1, h2, h3⟩; exact ⟨h1, h2, by omega⟩
 ·rintro ⟨h1, h2, h3⟩; exact ⟨h1, h2, by omega⟩
theorem mask_spec {h : Hp} {w : Nat} {R : Value → Hp → Prop} (hw : w ≤ 62) (k : R (I (((2 ^ w : Nat) : Int) - 1)) h) : c_impl_mask #[I w] h R := by
 apply R_impl_mask
 unfold F_impl_mask
 have := two_pow_le hw
 have hp := pow_pos' w
 rw [if_neg (by omega), shlW_one hw, W_id (by omega) (by omega)]
 exact k
theorem isWidth_spec {h : Hp} {w : Int} {R : Value → Hp → Prop} (k : R (.bool (decide (1 ≤ w ∧ w ≤ 16))) h) : c_impl_isWidth #[I w] h R := by
 apply R_impl_isWidth
 unfold F_impl_isWidth
 exact in_spec ⟨_, rfl, k⟩
theorem l1Width_spec {h : Hp} {w : Int} {R : Value → Hp → Prop} (k : R (.bool (decide (1 ≤ w ∧ w ≤ 16))) h) : c_spec_l1Width #[I w] h R := by
 apply R_spec_l1Width
 unfold F_spec_l1Width
 exact l1In_spec ⟨_, rfl, k⟩
theorem wordOkP_eq (w v : Int) : wordOkP w v = (decide (1 ≤ w ∧ w ≤ 16) && decide (0 ≤ v ∧ v ≤ ((2 ^ w.toNat : Nat) : Int) - 1)) := by
 unfold wordOkP; rw [Bool.eq_iff_iff]; simp
theorem impl_WordOk_spec {h : Hp} {w v : Int} {R : Value → Hp → Prop} (k : R (.bool (wordOkP w v)) h) : c_impl_WordOk #[I w, I v] h R := by
 apply R_impl_WordOk
 unfold F_impl_WordOk
 rw [wordOkP_eq] at k
 refine isWidth_spec ⟨_, rfl, bsplit_of (fun e => ?_) (fun e => ?_)⟩
 ·rw [e, Bool.true_and] at k
  have e' : 1 ≤ w ∧ w ≤ 16 := by simpa using e
  obtain ⟨n, rfl⟩ : ∃ n : Nat, w = n := ⟨w.toNat, by omega⟩
  rw [Int.toNat_natCast] at k
  exact mask_spec (by omega) ⟨_, rfl, in_spec ⟨_, rfl, k⟩⟩
 ·rw [e, Bool.false_and] at k; exact k
theorem spec_WordOk_spec {h : Hp} {w v : Int} {R : Value → Hp → Prop} (k : R (.bool (wordOkP w v)) h) : c_spec_WordOk #[I w, I v] h R := by
 apply R_spec_WordOk
 unfold F_spec_WordOk
 rw [wordOkP_eq] at k
 refine l1Width_spec ⟨_, rfl, bsplit_of (fun e => ?_) (fun e => ?_)⟩
 ·rw [e, Bool.true_and] at k
  have e' : 1 ≤ w ∧ w ≤ 16 := by simpa using e
  obtain ⟨n, rfl⟩ : ∃ n : Nat, w = n := ⟨w.toNat, by omega⟩
  rw [Int.toNat_natCast] at k
  have := two_pow_le (n := n) (by omega)
  have hp := pow_pos' n
  rw [Wu_nat (by omega), if_neg (by omega), shlW_one (by omega), W_id (by omega) (by omega)]
  exact l1In_spec ⟨_, rfl, k⟩
 ·rw [e, Bool.false_and] at k; exact k
def WO (w a : Nat) : Prop := (1 ≤ w ∧ w ≤ 16) ∧ a < 2 ^ w
theorem WO.ok {w a : Nat} (e : WO w a) : wordOkP (w : Int) (a : Int) = true := wordOk_iff.2 ⟨by have := e.1; omega, by omega, by rw [Int.toNat_natCast]; have := e.2; omega⟩
theorem WO.pow {w a : Nat} (e : WO w a) : 2 ^ w ≤ 65536 := pow16 e.1.2
theorem signed_spec {h : Hp} {w a : Nat} {R : Value → Hp → Prop} (e : WO w a) (k : R (I (sgn w a)) h) : c_impl_signed #[I w, I a] h R := by
 apply R_impl_signed
 unfold F_impl_signed
 obtain ⟨⟨h1, h2⟩, ha⟩ := e
 have hp := pow_half h1
 have h16 := pow16 h2
 have w1 : W ((w : Int) - 1) = ((w - 1 : Nat) : Int) := by rw [W_id (by omega) (by omega)]; omega
 rw [w1, if_neg (by omega), if_neg (by omega), shrW_nat (by omega)]
 unfold sgn at k
 by_cases hs : 2 ^ (w - 1) ≤ a
 ·have e1 : a / 2 ^ (w - 1) = 1 := by rw [Nat.div_eq_iff (pow_pos' _)]; omega
  rw [e1, shlW_nat (by omega) (by omega), Nat.one_mul, W_id (by omega) (by omega)]
  rw [if_pos hs] at k; exact k
 ·have e1 : a / 2 ^ (w - 1) = 0 := Nat.div_eq_of_lt (by omega)
  rw [e1, shlW_nat (by omega) (by omega), Nat.zero_mul, W_id (by omega) (by omega)]
  rw [if_neg hs] at k
  simpa using k
theorem WordSigned_spec {h : Hp} {w a : Nat} {R : Value → Hp → Prop} (e : WO w a) (k : R (I (sgn w a)) h) : c_spec_WordSigned #[I w, I a] h R := by
 apply R_spec_WordSigned
 unfold F_spec_WordSigned
 obtain ⟨⟨h1, h2⟩, ha⟩ := e
 have hp := pow_half h1
 have h16 := pow16 h2
 have w1 : W ((w : Int) - 1) = ((w - 1 : Nat) : Int) := by rw [W_id (by omega) (by omega)]; omega
 refine spec_WordOk_spec ⟨_, rfl, bs_f (by rw [WO.ok ⟨⟨h1, h2⟩, ha⟩]; rfl) ?_⟩
 rw [w1, Wu_nat (by omega), if_neg (by omega), shlW_one (by omega)]
 unfold sgn at k
 refine bsplit_of (fun e => ?_) (fun e => ?_)
 ·have hs : 2 ^ (w - 1) ≤ a := by
   have := of_decide_eq_true e; omega
  rw [if_pos hs] at k
  rw [Wu_nat (by omega), if_neg (by omega), shlW_one (by omega), W_id (by omega) (by omega)]
  exact k
 ·have hs : ¬ 2 ^ (w - 1) ≤ a := by
   have := of_decide_eq_false e; omega
  rw [if_neg hs] at k; exact k
theorem fromP_tmod (w : Nat) (n : Int) : ((fromP w n : Nat) : Int) = if Int.tmod n ((2 ^ w : Nat) : Int) < 0 then Int.tmod n ((2 ^ w : Nat) : Int) + ((2 ^ w : Nat) : Int) else Int.tmod n ((2 ^ w : Nat) : Int) := by
 rw [fromP_cast]
 have hp : (0 : Int) < ((2 ^ w : Nat) : Int) := Int.ofNat_lt.2 (pow_pos' w)
 have h1 := Int.emod_nonneg n (b := ((2 ^ w : Nat) : Int)) (by omega)
 have h2 := Int.emod_lt_of_pos n hp
 have h3 := Int.tmod_eq_emod (a := n) (b := ((2 ^ w : Nat) : Int))
 have h4 : n % ((2 ^ w : Nat) : Int) = 0 → ((2 ^ w : Nat) : Int) ∣ n := Int.dvd_of_emod_eq_zero
 rw [h3]
 generalize ((2 ^ w : Nat) : Int) = N at *
 by_cases hn : 0 ≤ n ∨ N ∣ n
 ·rw [if_pos hn]; split <;> omega
 ·have h5 : n % N ≠ 0 := fun e => hn (.inr (h4 e))
  rw [if_neg hn]
  generalize n % N = r at *
  split <;> omega
theorem WordFrom_spec {h : Hp} {w : Nat} {n : Int} {R : Value → Hp → Prop} (hw : 1 ≤ w ∧ w ≤ 16) (k : R (I (fromP w n)) h) : c_spec_WordFrom #[I w, I n] h R := by
 apply R_spec_WordFrom
 unfold F_spec_WordFrom
 have h16 := pow16 hw.2
 have hp := pow_pos' w
 have hlt := fromP_lt w n
 have ht := fromP_tmod w n
 refine l1Width_spec ⟨_, rfl, bs_f (by simp; omega) ?_⟩
 rw [Wu_nat (by omega), if_neg (by omega), shlW_one (by omega), if_neg (by omega)]
 refine bsplit_of (fun e => ?_) (fun e => ?_)
 ·have e' := of_decide_eq_true e
  rw [if_pos e'] at ht
  rw [if_neg (by omega), W_id (by omega) (by omega), ← ht]; exact k
 ·have e' := of_decide_eq_false e
  rw [if_neg e'] at ht
  rw [← ht]; exact k
theorem l1Ones_spec {h : Hp} {w a : Nat} {R : Value → Hp → Prop} (hw : w ≤ 16) (k : R (I (onesP w a)) h) : c_spec_l1Ones #[I w, I a] h R := by
 apply R_spec_l1Ones
 unfold F_spec_l1Ones
 refine loop_up w (fun i vs h' => vs = [I w, I a, I (onesP i a), I i] ∧ h' = h) ⟨rfl, rfl⟩ ?_
 rintro i _ _ next hi ⟨rfl, rfl⟩ hn
 refine ⟨_, _, _, _, rfl, ?_⟩
 by_cases hlt : i < w
 ·refine bs_t (by simp [hlt]) (l1Bit_spec (by omega) ⟨_, rfl, ?_⟩)
  have hl := onesP_le i a
  have e : W ((onesP i a : Int) + (if a.testBit i then 1 else 0)) = ((onesP (i + 1) a : Nat) : Int) := by
   rw [W_id (by split <;> omega) (by split <;> omega)]
   simp only [onesP]
   split <;> simp
  rw [e, W_succ (by omega)]
  exact hn hlt _ _ ⟨rfl, rfl⟩
 ·have : i = w := by omega
  subst this
  exact bs_f (by simp) k
theorem and64 {a b : Nat} (ha : a < 18446744073709551616) (hb : b < 18446744073709551616) : ibits .and .u64 (a : Int) (b : Int) = ((a &&& b : Nat) : Int) := by
 show IntKind.u64.wrap _ = _
 have h1 : (BitVec.ofInt IntKind.u64.bits (a : Int) &&& BitVec.ofInt IntKind.u64.bits (b : Int)).toNat = a &&& b := by
  show (BitVec.ofInt 64 (a : Int) &&& BitVec.ofInt 64 (b : Int)).toNat = a &&& b
  rw [BitVec.ofInt_natCast, BitVec.ofInt_natCast, BitVec.toNat_and, BitVec.toNat_ofNat, BitVec.toNat_ofNat, Nat.mod_eq_of_lt (by omega), Nat.mod_eq_of_lt (by omega)]
 rw [h1, IntKind.wrap_u64]
 have := Nat.and_le_left (n := a) (m := b)
 omega
def pop1 (x : Nat) : Nat := (x / 2 &&& 6148914691236517205) + (x &&& 6148914691236517205)
def pop2 (x : Nat) : Nat := (x / 4 &&& 3689348814741910323) + (x &&& 3689348814741910323)
def pop3 (x : Nat) : Nat := (x / 16 + x) &&& 1085102592571150095
def pop4 (x : Nat) : Nat := x / 256 + x
def pop5 (x : Nat) : Nat := x / 65536 + x
def pop6 (x : Nat) : Nat := x / 4294967296 + x
def popP (x : Nat) : Nat := pop6 (pop5 (pop4 (pop3 (pop2 (pop1 x))))) &&& 127
def popChk (x : Nat) : Bool := Nat.beq (popP (2 * x)) (popP x) && Nat.beq (popP (2 * x + 1)) (popP x + 1)
def chkLo (hi : Nat) : Nat → Bool
 | 0 => true
 | n + 1 => popChk (hi * 256 + n) && chkLo hi n
def chkHi : Nat → Bool
 | 0 => true
 | n + 1 => chkLo n 256 && chkHi n
theorem chk_all : chkHi 128 = true := by kernel_rfl
theorem chkLo_at {hi : Nat} : ∀ n, chkLo hi n = true → ∀ i, i < n → popChk (hi * 256 + i) = true := by
 intro n
 induction n with
 | zero => intro _ i h; omega
 | succ n ih =>
  intro h i hi
  simp only [chkLo, Bool.and_eq_true] at h
  by_cases e : i = n
  ·subst e; exact h.1
  ·exact ih h.2 i (by omega)
theorem chkHi_at : ∀ n, chkHi n = true → ∀ i, i < n → chkLo i 256 = true := by
 intro n
 induction n with
 | zero => intro _ i h; omega
 | succ n ih =>
  intro h i hi
  simp only [chkHi, Bool.and_eq_true] at h
  by_cases e : i = n
  ·subst e; exact h.1
  ·exact ih h.2 i (by omega)
theorem pop_step {x : Nat} (h : x < 32768) : popP (2 * x) = popP x ∧ popP (2 * x + 1) = popP x + 1 := by
 have h1 := chkHi_at 128 chk_all (x / 256) (by omega)
 have h2 := chkLo_at 256 h1 (x % 256) (Nat.mod_lt _ (by omega))
 rw [show x / 256 * 256 + x % 256 = x by omega] at h2
 simp only [popChk, Bool.and_eq_true] at h2
 exact ⟨Nat.eq_of_beq_eq_true h2.1, Nat.eq_of_beq_eq_true h2.2⟩
theorem onesP_half (a : Nat) : ∀ w, onesP (w + 1) a = a % 2 + onesP w (a / 2) := by
 intro w
 induction w with
 | zero =>
  simp only [onesP, Nat.testBit_zero]
  rcases Nat.mod_two_eq_zero_or_one a with h | h <;> simp [h]
 | succ w ih =>
  rw [onesP, ih, onesP, Nat.testBit_succ]; omega
theorem popP_eq : ∀ w, w ≤ 16 → ∀ x, x < 2 ^ w → popP x = onesP w x := by
 intro w
 induction w with
 | zero => intro _ x hx; have : x = 0 := by simpa using hx
           subst this; rfl
 | succ w ih =>
  intro hw x hx
  have h16 : 2 ^ w ≤ 32768 := by
   have := Nat.pow_le_pow_right (n := 2) (by omega) (show w ≤ 15 by omega)
   simpa using this
  have hp : 2 ^ (w + 1) = 2 * 2 ^ w := by rw [Nat.pow_succ]; omega
  have h1 := ih (by omega) (x / 2) (by omega)
  have h2 := pop_step (x := x / 2) (by omega)
  rw [onesP_half, ← h1]
  rcases Nat.mod_two_eq_zero_or_one x with h | h
  ·have e : 2 * (x / 2) = x := by omega
   rw [e] at h2; rw [h2.1, h]; omega
  ·have e : 2 * (x / 2) + 1 = x := by omega
   rw [e] at h2; rw [h2.2, h]; omega
theorem fdivP {a k : Nat} (hk : k ≤ 64) : Int.fdiv (a : Int) (2 ^ (min (Int.toNat (k : Int)) (IntKind.bits .u64))) = ((a / 2 ^ k : Nat) : Int) := by
 have h1 : min (Int.toNat (k : Int)) (IntKind.bits .u64) = k := by simp [IntKind.bits]; omega
 rw [h1, Int.fdiv_eq_ediv_of_nonneg _ (Int.pow_nonneg (by decide))]
 simp
def q1 (x : Int) : Int := IntKind.wrap .u64 ((ibits .and .u64 (Int.fdiv x (2 ^ (min (Int.toNat 1) (IntKind.bits .u64)))) 6148914691236517205) + (ibits .and .u64 x 6148914691236517205))
def q2 (x : Int) : Int := IntKind.wrap .u64 ((ibits .and .u64 (Int.fdiv x (2 ^ (min (Int.toNat 2) (IntKind.bits .u64)))) 3689348814741910323) + (ibits .and .u64 x 3689348814741910323))
def q3 (x : Int) : Int := ibits .and .u64 (IntKind.wrap .u64 ((Int.fdiv x (2 ^ (min (Int.toNat 4) (IntKind.bits .u64)))) + x)) 1085102592571150095
def q4 (x : Int) : Int := IntKind.wrap .u64 (x + Int.fdiv x (2 ^ (min (Int.toNat 8) (IntKind.bits .u64))))
def q5 (x : Int) : Int := IntKind.wrap .u64 (x + Int.fdiv x (2 ^ (min (Int.toNat 16) (IntKind.bits .u64))))
def q6 (x : Int) : Int := IntKind.wrap .u64 (x + Int.fdiv x (2 ^ (min (Int.toNat 32) (IntKind.bits .u64))))
theorem OnesCount_spec {h : Hp} {a : Nat} {R : Value → Hp → Prop} (ha : a < 65536) (k : R (I (onesP 16 a)) h) : c_math_bits_OnesCount #[.int .u64 a] h R := by
 apply R_math_bits_OnesCount
 unfold F_math_bits_OnesCount
 apply R_math_bits_OnesCount64
 unfold F_math_bits_OnesCount64
 refine ⟨_, rfl, ?_⟩
 have e1 : q1 a = ((pop1 a : Nat) : Int) := by
  have l1 := Nat.and_le_left (n := a / 2) (m := 6148914691236517205)
  have l2 := Nat.and_le_left (n := a) (m := 6148914691236517205)
  have := fdivP (a := a) (k := 1) (by omega)
  unfold q1 pop1
  rw [show (Int.toNat 1) = Int.toNat ((1 : Nat) : Int) from rfl, this, Nat.pow_one]
  rw [show (6148914691236517205 : Int) = ((6148914691236517205 : Nat) : Int) from rfl, and64 (by omega) (by omega), and64 (by omega) (by omega), ← Int.natCast_add, Wu_nat (by omega)]
 have b1 : pop1 a ≤ 98304 := by
  have l1 := Nat.and_le_left (n := a / 2) (m := 6148914691236517205)
  have l2 := Nat.and_le_left (n := a) (m := 6148914691236517205)
  unfold pop1; omega
 have e2 : ∀ x : Nat, x ≤ 98304 → q2 x = ((pop2 x : Nat) : Int) ∧ pop2 x ≤ 196608 := by
  intro x hx
  have l1 := Nat.and_le_left (n := x / 4) (m := 3689348814741910323)
  have l2 := Nat.and_le_left (n := x) (m := 3689348814741910323)
  have := fdivP (a := x) (k := 2) (by omega)
  refine ⟨?_, by unfold pop2; omega⟩
  unfold q2 pop2
  rw [show (Int.toNat 2) = Int.toNat ((2 : Nat) : Int) from rfl, this, show 2 ^ 2 = 4 from rfl]
  rw [show (3689348814741910323 : Int) = ((3689348814741910323 : Nat) : Int) from rfl, and64 (by omega) (by omega), and64 (by omega) (by omega), ← Int.natCast_add, Wu_nat (by omega)]
 have e3 : ∀ x : Nat, x ≤ 196608 → q3 x = ((pop3 x : Nat) : Int) ∧ pop3 x ≤ 393216 := by
  intro x hx
  have l1 := Nat.and_le_left (n := x / 16 + x) (m := 1085102592571150095)
  have := fdivP (a := x) (k := 4) (by omega)
  refine ⟨?_, by unfold pop3; omega⟩
  unfold q3 pop3
  rw [show (Int.toNat 4) = Int.toNat ((4 : Nat) : Int) from rfl, this, show 2 ^ 4 = 16 from rfl, ← Int.natCast_add, Wu_nat (by omega)]
  rw [show (1085102592571150095 : Int) = ((1085102592571150095 : Nat) : Int) from rfl, and64 (by omega) (by omega)]
 have e4 : ∀ x : Nat, x ≤ 393216 → q4 x = ((pop4 x : Nat) : Int) ∧ pop4 x ≤ 786432 := by
  intro x hx
  have := fdivP (a := x) (k := 8) (by omega)
  refine ⟨?_, by unfold pop4; omega⟩
  unfold q4 pop4
  rw [show (Int.toNat 8) = Int.toNat ((8 : Nat) : Int) from rfl, this, show 2 ^ 8 = 256 from rfl, ← Int.natCast_add, Wu_nat (by omega), Nat.add_comm]
 have e5 : ∀ x : Nat, x ≤ 786432 → q5 x = ((pop5 x : Nat) : Int) ∧ pop5 x ≤ 1572864 := by
  intro x hx
  have := fdivP (a := x) (k := 16) (by omega)
  refine ⟨?_, by unfold pop5; omega⟩
  unfold q5 pop5
  rw [show (Int.toNat 16) = Int.toNat ((16 : Nat) : Int) from rfl, this, show 2 ^ 16 = 65536 from rfl, ← Int.natCast_add, Wu_nat (by omega), Nat.add_comm]
 have e6 : ∀ x : Nat, x ≤ 1572864 → q6 x = ((pop6 x : Nat) : Int) ∧ pop6 x ≤ 3145728 := by
  intro x hx
  have := fdivP (a := x) (k := 32) (by omega)
  refine ⟨?_, by unfold pop6; omega⟩
  unfold q6 pop6
  rw [show (Int.toNat 32) = Int.toNat ((32 : Nat) : Int) from rfl, this, show 2 ^ 32 = 4294967296 from rfl, ← Int.natCast_add, Wu_nat (by omega), Nat.add_comm]
 have b2 := (e2 _ b1).2
 have b3 := (e3 _ b2).2
 have b4 := (e4 _ b3).2
 have b5 := (e5 _ b4).2
 have b6 := (e6 _ b5).2
 show R (I (andW (W (q6 (q5 (q4 (q3 (q2 (q1 a))))))) 127)) h
 rw [e1, (e2 _ b1).1, (e3 _ b2).1, (e4 _ b3).1, (e5 _ b4).1, (e6 _ b5).1, W_nat (by omega), show (127 : Int) = ((127 : Nat) : Int) from rfl, andW_nat (by omega) (by omega)]
 have := popP_eq 16 (by omega) a (by simpa using ha)
 unfold popP at this
 rw [this]; exact k
theorem onesP_more {w a : Nat} (ha : a < 2 ^ w) : ∀ d, onesP (w + d) a = onesP w a := by
 intro d
 induction d with
 | zero => rfl
 | succ d ih =>
  have hz : a.testBit (w + d) = false := Nat.testBit_lt_two_pow (Nat.lt_of_lt_of_le ha (Nat.pow_le_pow_right (by omega) (by omega)))
  rw [← Nat.add_assoc, onesP, ih, hz]
  simp
theorem one_spec {h : Hp} {kind : Int} {w a : Nat} {R : Value → Hp → Prop} (hk : 1 ≤ kind ∧ kind ≤ 5) (e : WO w a)
  (k : R (.tuple #[I (oneP kind w a).1, I (oneP kind w a).2]) h) : c_impl_one #[I kind, I w, I a] h R := by
 apply R_impl_one
 unfold F_impl_one
 have h16 := e.pow
 have hp := pow_pos' w
 have ha := e.2
 have hw := e.1
 unfold oneP at k
 refine bsplit_of (fun e1 => ?_) (fun e1 => bsplit_of (fun e2 => ?_) (fun e2 => bsplit_of (fun e3 => ?_) (fun e3 => bsplit_of (fun e4 => ?_) (fun e4 => ?_))))
 ·rw [if_pos (by simpa using e1)] at k
  refine mask_spec (by omega) ⟨_, rfl, ?_⟩
  have : W ((((2 ^ w : Nat) : Int) - 1) - a) = ((2 ^ w - 1 - a : Nat) : Int) := by rw [W_id (by omega) (by omega)]; omega
  rw [this]; exact k
 ·rw [if_neg (by simpa using e1), if_pos (by simpa using e2)] at k
  refine mask_spec (by omega) ⟨_, rfl, ?_⟩
  rw [W_id (n := 0 - (a : Int)) (by omega) (by omega), andW_mask (by omega), Int.zero_sub]
  exact k
 ·rw [if_neg (by simpa using e1), if_neg (by simpa using e2), if_pos (by simpa using e3)] at k
  refine bit_spec ⟨_, rfl, ?_⟩
  by_cases h0 : a = 0
  ·subst h0; simpa using k
  ·have : ((a : Int) != 0) = true := by simpa using h0
   rw [this]; rw [if_neg h0] at k; simpa using k
 ·rw [if_neg (by simpa using e1), if_neg (by simpa using e2), if_neg (by simpa using e3), if_pos (by simpa using e4)] at k
  refine mask_spec (by omega) ⟨_, rfl, bit_spec ⟨_, rfl, ?_⟩⟩
  by_cases h0 : a = 2 ^ w - 1
  ·have : ((a : Int) == ((2 ^ w : Nat) : Int) - 1) = true := by rw [beq_iff_eq]; omega
   rw [this]; rw [if_pos h0] at k; simpa using k
  ·have : ((a : Int) == ((2 ^ w : Nat) : Int) - 1) = false := by rw [beq_eq_false_iff_ne]; omega
   rw [this]; rw [if_neg h0] at k; simpa using k
 ·rw [if_neg (by simpa using e1), if_neg (by simpa using e2), if_neg (by simpa using e3), if_neg (by simpa using e4)] at k
  rw [Wu_nat (by omega)]
  refine OnesCount_spec (by omega) ⟨_, rfl, ?_⟩
  have := onesP_more ha (16 - w)
  rw [show w + (16 - w) = 16 by omega] at this
  rw [this, tmod_two]; exact k
theorem WordOne_spec {h : Hp} {kind : Int} {w a : Nat} {R : Value → Hp → Prop} (hk : 1 ≤ kind ∧ kind ≤ 5) (e : WO w a)
  (k : R (.tuple #[I (oneP kind w a).1, I (oneP kind w a).2, .bool true]) h) : c_spec_WordOne #[I kind, I w, I a] h R := by
 apply R_spec_WordOne
 unfold F_spec_WordOne
 have h16 := e.pow
 have hp := pow_pos' w
 have ha := e.2
 have hw := e.1
 unfold oneP at k
 refine spec_WordOk_spec ⟨_, rfl, bs_f (by rw [e.ok]; rfl) ?_⟩
 refine bsplit_of (fun e1 => ?_) (fun e1 => bsplit_of (fun e2 => ?_) (fun e2 => bsplit_of (fun e3 => ?_) (fun e3 => bsplit_of (fun e4 => ?_) (fun e4 => ?_))))
 ·rw [if_pos (by simpa using e1)] at k
  rw [Wu_nat (by omega), if_neg (by omega), shlW_one (by omega), W_id (n := ((2 ^ w : Nat) : Int) - 1) (by omega) (by omega)]
  have : W ((((2 ^ w : Nat) : Int) - 1) - a) = ((2 ^ w - 1 - a : Nat) : Int) := by rw [W_id (by omega) (by omega)]; omega
  rw [this]; exact k
 ·rw [if_neg (by simpa using e1), if_pos (by simpa using e2)] at k
  rw [W_id (n := 0 - (a : Int)) (by omega) (by omega), Int.zero_sub]
  exact WordFrom_spec hw ⟨_, rfl, k⟩
 ·rw [if_neg (by simpa using e1), if_neg (by simpa using e2), if_pos (by simpa using e3)] at k
  refine l1Yes_spec ⟨_, rfl, ?_⟩
  by_cases h0 : a = 0
  ·subst h0; simpa using k
  ·have : decide ((a : Int) > 0) = true := by simp; omega
   rw [this]; rw [if_neg h0] at k; simpa using k
 ·rw [if_neg (by simpa using e1), if_neg (by simpa using e2), if_neg (by simpa using e3), if_pos (by simpa using e4)] at k
  refine l1Ones_spec (by omega) ⟨_, rfl, l1Yes_spec ⟨_, rfl, ?_⟩⟩
  have hf := onesP_full ha
  by_cases h0 : a = 2 ^ w - 1
  ·have : (((onesP w a : Nat) : Int) == (w : Int)) = true := by rw [beq_iff_eq, hf.2 h0]
   rw [this]; rw [if_pos h0] at k; simpa using k
  ·have : (((onesP w a : Nat) : Int) == (w : Int)) = false := by rw [beq_eq_false_iff_ne]; intro he; exact h0 (hf.1 (by omega))
   rw [this]; rw [if_neg h0] at k; simpa using k
 ·rw [if_neg (by simpa using e1), if_neg (by simpa using e2), if_neg (by simpa using e3), if_neg (by simpa using e4)] at k
  have : kind = 5 := by
   have h1 : kind ≠ 1 := by simpa using e1
   have h2 : kind ≠ 2 := by simpa using e2
   have h3 : kind ≠ 3 := by simpa using e3
   have h4 : kind ≠ 4 := by simpa using e4
   omega
  refine bs_t (by simpa using this) (l1Ones_spec (by omega) ⟨_, rfl, ?_⟩)
  rw [tmod_two]; exact k
theorem tmod_nat (a b : Nat) : Int.tmod (a : Int) (b : Int) = ((a % b : Nat) : Int) := (Int.ofNat_tmod a b).symm
theorem tdiv_nat (a b : Nat) : Int.tdiv (a : Int) (b : Int) = ((a / b : Nat) : Int) := (Int.ofNat_tdiv a b).symm
theorem mul16 {a b : Nat} (ha : a < 65536) (hb : b ≤ 65536) : a * b ≤ 4294967296 := by
 have := Nat.mul_le_mul (Nat.le_of_lt ha) hb
 omega
theorem sgn16 {w a : Nat} (e : WO w a) : -65536 ≤ sgn w a ∧ sgn w a ≤ 65536 := by
 have h := sgn_bound e.1.1 e.2
 have hp := pow_half e.1.1
 have h16 := e.pow
 omega
theorem ne_of {a b : Int} (e : (a == b) = false) : ¬ a = b := by simpa using e
theorem eq_of {a b : Int} (e : (a == b) = true) : a = b := by simpa using e
theorem rotate_spec {h : Hp} {w a p : Nat} {R : Value → Hp → Prop} (e : WO w a) (k : R (I (rolP w a (p % w))) h) : c_impl_rotate #[I w, I a, I p] h R := by
 apply R_impl_rotate
 unfold F_impl_rotate
 obtain ⟨⟨h1, h2⟩, ha⟩ := e
 have h16 := pow16 h2
 have hm : p % w < w := Nat.mod_lt _ (by omega)
 have hpm := pow16 (w := p % w) (by omega)
 have ht : Int.tmod (p : Int) (w : Int) = ((p % w : Nat) : Int) := tmod_nat p w
 have hw : W ((w : Int) - ((p % w : Nat) : Int)) = ((w - p % w : Nat) : Int) := by rw [W_id (by omega) (by omega)]; omega
 have hmul := mul16 (a := a) (b := 2 ^ (p % w)) (by omega) hpm
 rw [if_neg (by omega), ht, if_neg (by omega), hw, if_neg (by omega)]
 refine mask_spec (by omega) ⟨_, rfl, ?_⟩
 have hd : a / 2 ^ (w - p % w) ≤ a := Nat.div_le_self _ _
 rw [shlW_nat (by omega) (by omega), shrW_nat (by omega), orW_nat (by omega) (by omega), andW_mask (by omega), fromP_nat]
 exact k
theorem divided_spec {h : Hp} {kind : Int} {w a b : Nat} {R : Value → Hp → Prop} (hk : kind = 14 ∨ kind = 15) (ea : WO w a) (eb : WO w b)
  (k : R (I ((if kind = 14 then sdivP w a b else sremP w a b : Nat) : Int)) h) : c_impl_divided #[I kind, I w, I a, I b] h R := by
 apply R_impl_divided
 unfold F_impl_divided
 have h16 := ea.pow
 have hp := pow_pos' w
 have sa := sgn16 ea
 have sb := sgn16 eb
 have hw := ea.1
 refine signed_spec ea ⟨_, rfl, signed_spec eb ⟨_, rfl, ?_⟩⟩
 unfold sdivP sremP at k
 by_cases hy : sgn w b = 0
 ·rw [if_pos hy, if_pos hy] at k
  rw [hy]
  refine joinP_of (fun J => J (decide (kind = 15))) ?_ (fun J hJ => bs_t rfl (by rw [show (kind == 15) = decide (kind = 15) from rfl]; exact hJ))
  refine bsplit_of (fun e => ?_) (fun e => ?_)
  ·have e' : kind = 15 := by simpa using e
   rw [if_neg (by omega)] at k; exact k
  ·have e' : kind = 14 := by have : ¬ kind = 15 := by simpa using e
                             omega
   rw [if_pos e'] at k
   refine joinP_of (fun J => J (decide (sgn w a < 0))) ?_ (fun J hJ => bs_t rfl hJ)
   refine bsplit_of (fun e => ?_) (fun e => bs_t rfl (mask_spec (by omega) ⟨_, rfl, ?_⟩))
   ·rw [if_pos (by simpa using e)] at k; exact k
   ·rw [if_neg (by simpa using e)] at k
    have : ((2 ^ w - 1 : Nat) : Int) = ((2 ^ w : Nat) : Int) - 1 := by omega
    rw [← this]; exact k
 ·rw [if_neg hy, if_neg hy] at k
  have hyb : (sgn w b == 0) = false := by simpa using hy
  refine joinP_of (fun J => J false) ?_ (fun J hJ => bs_f hyb hJ)
  refine bs_f rfl (joinP_of (fun J => J false) ?_ (fun J hJ => bs_f hyb hJ))
  refine bs_f rfl (bs_f hyb ?_)
  have hdiv : (Int.tdiv (sgn w a) (sgn w b)).natAbs ≤ 65536 := by
   rw [Int.natAbs_tdiv]
   exact Nat.le_trans (Nat.div_le_self _ _) (by omega)
  refine bsplit_of (fun e => ?_) (fun e => ?_)
  ·rw [if_pos (by simpa using e)] at k
   rw [if_neg hy]
   refine mask_spec (by omega) ⟨_, rfl, ?_⟩
   rw [W_id (by omega) (by omega), andW_mask (by omega)]; exact k
  ·rw [if_neg (by simpa using e)] at k
   rw [if_neg hy]
   refine mask_spec (by omega) ⟨_, rfl, ?_⟩
   rw [andW_mask (by omega)]; exact k
def shiftP (kind : Int) (w a b : Nat) : Nat := if kind = 16 then shlP w a b else if kind = 17 then shrP w a b else sarP w a b
theorem shifted_spec {h : Hp} {kind : Int} {w a b : Nat} {R : Value → Hp → Prop} (ea : WO w a) (hb : b ≤ 65536)
  (k : R (I (shiftP kind w a b)) h) : c_impl_shifted #[I kind, I w, I a, I b] h R := by
 apply R_impl_shifted
 unfold F_impl_shifted
 have h16 := ea.pow
 have ha := ea.2
 have hw := ea.1
 have hmin : (if (w : Int) < (b : Int) then (w : Int) else (b : Int)) = ((min b w : Nat) : Int) := by
  by_cases h : w < b
  ·rw [if_pos (by omega), Nat.min_eq_right (by omega)]
  ·rw [if_neg (by omega), Nat.min_eq_left (by omega)]
 have hm : min b w ≤ w := Nat.min_le_right _ _
 have hpm := pow16 (w := min b w) (by omega)
 have hmul := mul16 (a := a) (b := 2 ^ min b w) (by omega) hpm
 unfold shiftP at k
 rw [hmin]
 refine bsplit_of (fun e => ?_) (fun e => bsplit_of (fun e2 => ?_) (fun e2 => ?_))
 ·rw [if_pos (eq_of e)] at k
  rw [if_neg (by omega)]
  refine mask_spec (by omega) ⟨_, rfl, ?_⟩
  rw [shlW_nat (by omega) (by omega), andW_mask (by omega), fromP_nat]; exact k
 ·rw [if_neg (ne_of e), if_pos (eq_of e2)] at k
  rw [if_neg (by omega), shrW_nat (by omega)]; exact k
 ·rw [if_neg (ne_of e), if_neg (ne_of e2)] at k
  refine signed_spec ea ⟨_, rfl, ?_⟩
  rw [if_neg (by omega)]
  refine mask_spec (by omega) ⟨_, rfl, ?_⟩
  rw [shrW_int (by omega), andW_mask (by omega)]; exact k
theorem compared_spec {h : Hp} {kind : Int} {w a b : Nat} {R : Value → Hp → Prop} (hk : 21 ≤ kind ∧ kind ≤ 28) (ea : WO w a) (eb : WO w b)
  (k : R (.bool (saysP kind w a b)) h) : c_impl_compared #[I kind, I w, I a, I b] h R := by
 apply R_impl_compared
 unfold F_impl_compared
 have h16 := ea.pow
 have hp := pow_pos' w
 have sa := sgn16 ea
 have sb := sgn16 eb
 have ha := ea.2
 have hb := eb.2
 have hw := ea.1
 unfold saysP at k
 have dd : ∀ {p q : Prop} [Decidable p] [Decidable q], (p ↔ q) → decide p = decide q := fun h => by rw [decide_eq_decide]; exact h
 refine signed_spec ea ⟨_, rfl, signed_spec eb ⟨_, rfl, ?_⟩⟩
 refine bsplit_of (fun e1 => ?_) (fun e1 => bsplit_of (fun e2 => ?_) (fun e2 => bsplit_of (fun e3 => ?_) (fun e3 => bsplit_of (fun e4 => ?_) (fun e4 => bsplit_of (fun e5 => ?_) (fun e5 => bsplit_of (fun e6 => ?_) (fun e6 => bsplit_of (fun e7 => ?_) (fun e7 => ?_)))))))
 ·rw [if_pos (eq_of e1)] at k
  have : ((a : Int) == (b : Int)) = decide (a = b) := by rw [Bool.eq_iff_iff]; simp; omega
  rw [this]; exact k
 all_goals rw [if_neg (ne_of e1)] at k
 ·rw [if_pos (eq_of e2)] at k
  rw [dd (p := (a : Int) < (b : Int)) (q := a < b) (by omega)]; exact k
 all_goals rw [if_neg (ne_of e2)] at k
 ·rw [if_pos (eq_of e3)] at k; exact k
 all_goals rw [if_neg (ne_of e3)] at k
 ·rw [if_pos (eq_of e4)] at k
  rw [dd (p := (a : Int) ≤ (b : Int)) (q := a ≤ b) (by omega)]; exact k
 all_goals rw [if_neg (ne_of e4)] at k
 ·rw [if_pos (eq_of e5)] at k; exact k
 all_goals rw [if_neg (ne_of e5)] at k
 ·rw [if_pos (eq_of e6)] at k
  refine mask_spec (by omega) ⟨_, rfl, ?_⟩
  rw [W_id (by omega) (by omega), dd (p := (a : Int) + (b : Int) > ((2 ^ w : Nat) : Int) - 1) (q := 2 ^ w ≤ a + b) (by omega)]; exact k
 all_goals rw [if_neg (ne_of e6)] at k
 ·rw [if_pos (eq_of e7)] at k
  have w1 : W ((w : Int) - 1) = ((w - 1 : Nat) : Int) := by rw [W_id (by omega) (by omega)]; omega
  have hpp := pow_half hw.1
  rw [w1, if_neg (by omega), if_neg (by omega), shlW_neg (by omega), shlW_one (by omega), W_id (n := sgn w a + sgn w b) (by omega) (by omega), W_id (n := ((2 ^ (w - 1) : Nat) : Int) - 1) (by omega) (by omega)]
  refine in_spec ⟨_, rfl, ?_⟩
  rw [dd (p := -((2 ^ (w - 1) : Nat) : Int) ≤ sgn w a + sgn w b ∧ sgn w a + sgn w b ≤ ((2 ^ (w - 1) : Nat) : Int) - 1) (q := -((2 ^ (w - 1) : Nat) : Int) ≤ sgn w a + sgn w b ∧ sgn w a + sgn w b < ((2 ^ (w - 1) : Nat) : Int)) (by omega)]
  exact k
 ·rw [if_neg (ne_of e7)] at k
  have hmul := mul16 (a := a) (b := b) (by omega) (by omega)
  have hmi : (a : Int) * (b : Int) = ((a * b : Nat) : Int) := (Int.natCast_mul _ _).symm
  refine mask_spec (by omega) ⟨_, rfl, ?_⟩
  rw [hmi]
  generalize a * b = ab at *
  rw [W_nat (by omega), dd (p := (ab : Int) > ((2 ^ w : Nat) : Int) - 1) (q := 2 ^ w ≤ ab) (by omega)]; exact k
theorem two_spec {h : Hp} {kind : Int} {w a b : Nat} {R : Value → Hp → Prop} (hk : 6 ≤ kind ∧ kind ≤ 28) (ea : WO w a) (eb : WO w b)
  (k : R (.tuple #[I (twoP kind w a b).1, I (twoP kind w a b).2]) h) : c_impl_two #[I kind, I w, I a, I b] h R := by
 apply R_impl_two
 unfold F_impl_two
 have h16 := ea.pow
 have hp := pow_pos' w
 have ha := ea.2
 have hb := eb.2
 have hw := ea.1
 have hand : a &&& b ≤ a := Nat.and_le_left
 have hmul := mul16 (a := a) (b := b) (by omega) (by omega)
 by_cases h20 : kind ≤ 20
 rotate_left
 ·have t : twoP kind w a b = (if saysP kind w a b then 1 else 0, 1) := by unfold twoP; rw [if_neg h20]
  rw [t] at k
  have nb : ∀ n : Int, n ≤ 20 → (kind == n) = false := fun n hn => by rw [beq_eq_false_iff_ne]; omega
  refine bs_f (nb _ (by omega)) (bs_f (nb _ (by omega)) (bs_f (nb _ (by omega)) (bs_f (nb _ (by omega)) (bs_f (nb _ (by omega)) (bs_f (nb _ (by omega)) (bs_f (nb _ (by omega)) (bs_f (nb _ (by omega)) ?_)))))))
  refine joinP_of (fun J => J false) ?_ (fun J hJ => bs_f (nb _ (by omega)) (by rw [nb 15 (by omega)]; exact hJ))
  refine bs_f rfl (joinP_of (fun J => J false) ?_ (fun J hJ => bs_f (nb _ (by omega)) (bs_f (nb _ (by omega)) (by rw [nb 18 (by omega)]; exact hJ))))
  refine bs_f rfl (bs_f (nb _ (by omega)) (bs_f (nb _ (by omega)) ?_))
  refine compared_spec (by omega) ea eb ⟨_, rfl, bit_spec ⟨_, rfl, ?_⟩⟩
  cases hs : saysP kind w a b
  ·rw [hs] at k; simpa using k
  ·rw [hs] at k; simpa using k
 have t : twoP kind w a b = (calcP kind w a b, w) := by unfold twoP; rw [if_pos h20]
 rw [t] at k
 unfold calcP at k
 simp only at k
 refine bsplit_of (fun e => ?_) (fun e6 => ?_)
 ·rw [if_pos (eq_of e)] at k; rw [andW_nat (by omega) (by omega)]; exact k
 rw [if_neg (ne_of e6)] at k
 refine bsplit_of (fun e => ?_) (fun e7 => ?_)
 ·rw [if_pos (eq_of e)] at k; rw [orW_nat (by omega) (by omega)]; exact k
 rw [if_neg (ne_of e7)] at k
 refine bsplit_of (fun e => ?_) (fun e8 => ?_)
 ·rw [if_pos (eq_of e)] at k; rw [xorW_nat (by omega) (by omega)]; exact k
 rw [if_neg (ne_of e8)] at k
 refine bsplit_of (fun e => ?_) (fun e9 => ?_)
 ·rw [if_pos (eq_of e)] at k
  refine mask_spec (by omega) ⟨_, rfl, ?_⟩
  rw [W_id (by omega) (by omega), andW_mask (by omega)]; exact k
 rw [if_neg (ne_of e9)] at k
 refine bsplit_of (fun e => ?_) (fun e10 => ?_)
 ·rw [if_pos (eq_of e)] at k
  refine mask_spec (by omega) ⟨_, rfl, ?_⟩
  rw [W_id (by omega) (by omega), andW_mask (by omega)]; exact k
 rw [if_neg (ne_of e10)] at k
 refine bsplit_of (fun e => ?_) (fun e11 => ?_)
 ·rw [if_pos (eq_of e)] at k
  refine mask_spec (by omega) ⟨_, rfl, ?_⟩
  have hmi : (a : Int) * (b : Int) = ((a * b : Nat) : Int) := (Int.natCast_mul _ _).symm
  rw [hmi] at k ⊢
  generalize a * b = ab at *
  rw [W_nat (by omega), andW_mask (by omega)]; exact k
 rw [if_neg (ne_of e11)] at k
 refine bsplit_of (fun e => ?_) (fun e12 => ?_)
 ·rw [if_pos (eq_of e)] at k
  refine mask_spec (by omega) ⟨_, rfl, bsplit_of (fun eb0 => ?_) (fun eb0 => ?_)⟩
  ·have hb0 : ¬ b = 0 := by have := of_decide_eq_true eb0; omega
   rw [if_neg hb0] at k
   have hd := Nat.div_le_self a b
   rw [if_neg (by omega), tdiv_nat, W_nat (by omega)]; exact k
  ·have hb0 : b = 0 := by have := of_decide_eq_false eb0; omega
   rw [if_pos hb0] at k
   have : ((2 ^ w - 1 : Nat) : Int) = ((2 ^ w : Nat) : Int) - 1 := by omega
   rw [← this]; exact k
 rw [if_neg (ne_of e12)] at k
 refine bsplit_of (fun e => ?_) (fun e13 => ?_)
 ·rw [if_pos (eq_of e)] at k
  refine bsplit_of (fun eb0 => ?_) (fun eb0 => ?_)
  ·have hb0 : ¬ b = 0 := by have := of_decide_eq_true eb0; omega
   rw [if_neg hb0] at k
   rw [if_neg (by omega), tmod_nat]; exact k
  ·have hb0 : b = 0 := by have := of_decide_eq_false eb0; omega
   rw [if_pos hb0] at k; exact k
 rw [if_neg (ne_of e13)] at k
 refine joinP_of (fun J => J (decide (kind = 14 ∨ kind = 15))) ?_ ?_
 rotate_left
 ·intro J hJ
  refine bsplit_of (fun e => ?_) (fun e => ?_)
  ·rw [decide_eq_true (.inl (eq_of e))] at hJ; exact hJ
  ·have : (kind == 15) = decide (kind = 14 ∨ kind = 15) := by
    have := ne_of e
    rw [Bool.eq_iff_iff]; simp [this]
   rw [this]; exact hJ
 refine bsplit_of (fun e => ?_) (fun e1415 => ?_)
 ·have e' : kind = 14 ∨ kind = 15 := by simpa using e
  refine divided_spec e' ea eb ⟨_, rfl, ?_⟩
  rcases e' with rfl | rfl
  ·simpa using k
  ·simpa using k
 have n14 : ¬ kind = 14 ∧ ¬ kind = 15 := by simpa using e1415
 rw [if_neg n14.1, if_neg n14.2] at k
 refine joinP_of (fun J => J (decide (kind = 16 ∨ kind = 17 ∨ kind = 18))) ?_ ?_
 rotate_left
 ·intro J hJ
  refine bsplit_of (fun e => ?_) (fun e => bsplit_of (fun e2 => ?_) (fun e2 => ?_))
  ·rw [decide_eq_true (.inl (eq_of e))] at hJ; exact hJ
  ·rw [decide_eq_true (.inr (.inl (eq_of e2)))] at hJ; exact hJ
  ·have : (kind == 18) = decide (kind = 16 ∨ kind = 17 ∨ kind = 18) := by
    have h1 := ne_of e
    have h2 := ne_of e2
    rw [Bool.eq_iff_iff]; simp [h1, h2]
   rw [this]; exact hJ
 refine bsplit_of (fun e => ?_) (fun e1618 => ?_)
 ·have e' : kind = 16 ∨ kind = 17 ∨ kind = 18 := by simpa using e
  refine shifted_spec ea (by omega) ⟨_, rfl, ?_⟩
  unfold shiftP
  rcases e' with rfl | rfl | rfl
  ·simpa using k
  ·simpa using k
  ·simpa using k
 have n16 : ¬ kind = 16 ∧ ¬ kind = 17 ∧ ¬ kind = 18 := by simpa using e1618
 rw [if_neg n16.1, if_neg n16.2.1, if_neg n16.2.2] at k
 refine bsplit_of (fun e => ?_) (fun e19 => ?_)
 ·rw [if_pos (eq_of e)] at k
  exact rotate_spec ea ⟨_, rfl, k⟩
 rw [if_neg (ne_of e19)] at k
 have h20' : kind = 20 := by
  have := ne_of e6; have := ne_of e7; have := ne_of e8; have := ne_of e9; have := ne_of e10; have := ne_of e11; have := ne_of e12; have := ne_of e13; have := ne_of e19
  omega
 refine bs_t (by simpa using h20') ?_
 have hm : b % w < w := Nat.mod_lt _ (by omega)
 have hw2 : W ((w : Int) - ((b % w : Nat) : Int)) = ((w - b % w : Nat) : Int) := by rw [W_id (by omega) (by omega)]; omega
 rw [if_neg (by omega), tmod_nat, hw2]
 exact rotate_spec ea ⟨_, rfl, k⟩
def eachB (kind : Int) (x y : Bool) : Bool := if kind = 8 then x ^^ y else if kind = 7 then x || y else x && y
theorem shl_bit {c : Bool} {n : Nat} (hn : n ≤ 62) : shlW (if c then 1 else 0) (n : Int) = ((if c then 2 ^ n else 0 : Nat) : Int) := by
 cases c
 ·have := shlW_nat (a := 0) (n := n) (by omega) (by omega); simpa using this
 ·have := shlW_one hn; simpa using this
theorem code_step {i : Nat} {f : Nat → Bool} {c : Bool} (hi : i ≤ 60) (hc : c = f i) : W ((codeOf i f : Int) + ((if c then 2 ^ i else 0 : Nat) : Int)) = ((codeOf (i + 1) f : Nat) : Int) := by
 have h1 := codeOf_lt i f
 have h2 := two_pow_le (n := i) (by omega)
 subst hc
 simp only [codeOf]
 rw [W_id (by split <;> omega) (by split <;> omega)]
 omega
theorem l1Each_spec {h : Hp} {kind : Int} {w a b : Nat} {R : Value → Hp → Prop} (hw : w ≤ 16)
  (k : R (I (codeOf w fun i => eachB kind (a.testBit i) (b.testBit i))) h) : c_spec_l1Each #[I kind, I w, I a, I b] h R := by
 apply R_spec_l1Each
 unfold F_spec_l1Each
 refine loop_up w (fun i vs h' => vs = [I kind, I w, I a, I b, I (codeOf i fun i => eachB kind (a.testBit i) (b.testBit i)), I i] ∧ h' = h) ⟨rfl, rfl⟩ ?_
 rintro i _ _ next hi ⟨rfl, rfl⟩ hn
 refine ⟨_, _, _, _, _, _, rfl, ?_⟩
 by_cases hlt : i < w
 ·refine bs_t (by simp [hlt]) (l1Bit_spec (by omega) ⟨_, rfl, l1Bit_spec (by omega) ⟨_, rfl, ?_⟩⟩)
  have hn' := hn hlt _ _ ⟨rfl, rfl⟩
  generalize hx : a.testBit i = x at *
  generalize hy : b.testBit i = y at *
  refine joinP_of (fun J => J (if kind = 7 then (if x || y then 1 else 0) else (if x && y then 1 else 0))) ?_ ?_
  ·refine joinP_of (fun J => J (if eachB kind x y then 1 else 0)) ?_ ?_
   ·rw [Wu_nat (by omega), if_neg (by omega), shl_bit (by omega), code_step (by omega) (by rw [hx, hy]), W_succ (by omega)]
    exact hn'
   ·intro J hJ
    refine bsplit_of (fun e => ?_) (fun e => ?_)
    ·have : eachB kind x y = (x ^^ y) := by unfold eachB; rw [if_pos (eq_of e)]
     rw [this] at hJ
     revert hJ; cases x <;> cases y <;> exact id
    ·have : eachB kind x y = if kind = 7 then x || y else x && y := by unfold eachB; rw [if_neg (ne_of e)]
     rw [this] at hJ
     by_cases h7 : kind = 7
     ·rw [if_pos h7] at hJ ⊢; exact hJ
     ·rw [if_neg h7] at hJ ⊢; exact hJ
  ·intro J hJ
   refine bsplit_of (fun e => ?_) (fun e => ?_)
   ·rw [if_pos (eq_of e)] at hJ
    revert hJ; cases x <;> cases y <;> exact id
   ·rw [if_neg (ne_of e)] at hJ
    revert hJ; cases x <;> cases y <;> exact id
 ·have : i = w := by omega
  subst this
  exact bs_f (by simp) k
theorem l1Div_spec {h : Hp} {kind : Int} {w a b : Nat} {R : Value → Hp → Prop} (ea : WO w a) (eb : WO w b)
  (k : R (I ((if kind = 12 then (if b = 0 then 2 ^ w - 1 else a / b) else if b = 0 then a else a % b : Nat))) h) : c_spec_l1Div #[I kind, I w, I a, I b] h R := by
 apply R_spec_l1Div
 unfold F_spec_l1Div
 have h16 := ea.pow
 have hp := pow_pos' w
 have ha := ea.2
 have hw := ea.1
 refine bsplit_of (fun e => ?_) (fun e => ?_)
 ·rw [if_pos (eq_of e)] at k
  refine bsplit_of (fun e0 => ?_) (fun e0 => ?_)
  ·have hb0 : b = 0 := by have := eq_of e0; omega
   rw [if_pos hb0] at k
   rw [Wu_nat (by omega), if_neg (by omega), shlW_one (by omega), W_id (by omega) (by omega)]
   have : ((2 ^ w - 1 : Nat) : Int) = ((2 ^ w : Nat) : Int) - 1 := by omega
   rw [← this]; exact k
  ·have hb0 : ¬ b = 0 := by have := ne_of e0; omega
   rw [if_neg hb0] at k
   have hd := Nat.div_le_self a b
   rw [if_neg (by omega), tdiv_nat, W_nat (by omega)]; exact k
 ·rw [if_neg (ne_of e)] at k
  refine bsplit_of (fun e0 => ?_) (fun e0 => ?_)
  ·have hb0 : b = 0 := by have := eq_of e0; omega
   rw [if_pos hb0] at k; exact k
  ·have hb0 : ¬ b = 0 := by have := ne_of e0; omega
   rw [if_neg hb0] at k
   rw [if_neg (by omega), tmod_nat]; exact k
theorem l1Sdiv_spec {h : Hp} {kind : Int} {w a b : Nat} {R : Value → Hp → Prop} (hk : kind = 14 ∨ kind = 15) (ea : WO w a) (eb : WO w b)
  (k : R (I ((if kind = 14 then sdivP w a b else sremP w a b : Nat) : Int)) h) : c_spec_l1Sdiv #[I kind, I w, I a, I b] h R := by
 apply R_spec_l1Sdiv
 unfold F_spec_l1Sdiv
 have h16 := ea.pow
 have hp := pow_pos' w
 have sa := sgn16 ea
 have sb := sgn16 eb
 have hw := ea.1
 refine WordSigned_spec ea ⟨_, rfl, WordSigned_spec eb ⟨_, rfl, ?_⟩⟩
 unfold sdivP sremP at k
 refine bsplit_of (fun e => ?_) (fun e => ?_)
 ·have e' := eq_of e
  rw [if_neg (by omega)] at k
  refine bsplit_of (fun e0 => ?_) (fun e0 => ?_)
  ·rw [if_pos (eq_of e0)] at k; exact k
  ·rw [if_neg (ne_of e0)] at k
   rw [if_neg (ne_of e0)]
   exact WordFrom_spec hw ⟨_, rfl, k⟩
 ·have e' : kind = 14 := by have := ne_of e; omega
  rw [if_pos e'] at k
  by_cases hy : sgn w b = 0
  ·rw [if_pos hy] at k
   have hyb : (sgn w b == 0) = true := by simpa using hy
   refine joinP_of (fun J => J (decide (sgn w a < 0))) ?_ (fun J hJ => bs_t hyb hJ)
   refine bsplit_of (fun e => ?_) (fun e => bs_t hyb ?_)
   ·rw [if_pos (of_decide_eq_true e)] at k; exact k
   ·rw [if_neg (of_decide_eq_false e)] at k
    rw [Wu_nat (by omega), if_neg (by omega), shlW_one (by omega), W_id (by omega) (by omega)]
    have : ((2 ^ w - 1 : Nat) : Int) = ((2 ^ w : Nat) : Int) - 1 := by omega
    rw [← this]; exact k
  ·rw [if_neg hy] at k
   have hyb : (sgn w b == 0) = false := by simpa using hy
   refine joinP_of (fun J => J false) ?_ (fun J hJ => bs_f hyb hJ)
   refine bs_f rfl (bs_f hyb ?_)
   have hdiv : (Int.tdiv (sgn w a) (sgn w b)).natAbs ≤ 65536 := by
    rw [Int.natAbs_tdiv]
    exact Nat.le_trans (Nat.div_le_self _ _) (by omega)
   rw [if_neg hy, W_id (by omega) (by omega)]
   exact WordFrom_spec hw ⟨_, rfl, k⟩
theorem l1Shift_spec {h : Hp} {kind : Int} {w a b : Nat} {R : Value → Hp → Prop} (hk : kind = 16 ∨ kind = 17 ∨ kind = 18) (ea : WO w a) (hb : b ≤ 65536)
  (k : R (I (shiftP kind w a b)) h) : c_spec_l1Shift #[I kind, I w, I a, I b] h R := by
 have hw := ea.1
 have key : ∀ f : Nat → Bool, codeOf w f = shiftP kind w a b →
   (∀ i, i < w → f i = if kind = 16 then decide (b ≤ i) && a.testBit (i - b) else if kind = 17 then decide (i + b < w) && a.testBit (i + b) else if i + b < w then a.testBit (i + b) else a.testBit (w - 1)) →
   c_spec_l1Shift #[I kind, I w, I a, I b] h R := by
  intro f hcode hf
  apply R_spec_l1Shift
  unfold F_spec_l1Shift
  refine loop_up w (fun i vs h' => vs = [I kind, I w, I a, I b, I (codeOf i f), I i] ∧ h' = h) ⟨rfl, rfl⟩ ?_
  rintro i _ h' next hi ⟨rfl, rfl⟩ hn
  refine ⟨_, _, _, _, _, _, rfl, ?_⟩
  by_cases hlt : i < w
  ·refine bs_t (by simp [hlt]) ?_
   have hn' := hn hlt _ _ ⟨rfl, rfl⟩
   have hfi := hf i hlt
   refine joinP_of (fun J => J (if kind = 16 then (i : Int) - b else (i : Int) + b)) ?_ ?_
   ·refine joinP_of (fun J => J (decide (0 ≤ (if kind = 16 then (i : Int) - b else (i : Int) + b) ∧ (if kind = 16 then (i : Int) - b else (i : Int) + b) < w))) ?_ ?_
    ·refine joinP_of (fun J => J (if f i then 1 else 0) h') ?_ ?_
     ·rw [Wu_nat (by omega), if_neg (by omega), shl_bit (by omega), code_step (by omega) rfl, W_succ (by omega)]
      exact hn'
     ·intro J hJ
      refine bsplit_of (fun e => ?_) (fun e => ?_)
      ·have e' := of_decide_eq_true e
       by_cases h16 : kind = 16
       ·rw [if_pos h16] at e' hfi ⊢
        rw [show (i : Int) - b = ((i - b : Nat) : Int) by omega]
        refine l1Bit_spec (by omega) ⟨_, rfl, ?_⟩
        rw [hfi] at hJ
        have : decide (b ≤ i) = true := by simp; omega
        rw [this, Bool.true_and] at hJ; exact hJ
       ·rw [if_neg h16] at e' hfi ⊢
        rw [show (i : Int) + b = ((i + b : Nat) : Int) by omega]
        refine l1Bit_spec (by omega) ⟨_, rfl, ?_⟩
        have h1 : decide (i + b < w) = true := by simp; omega
        rw [h1, Bool.true_and, if_pos (show i + b < w by omega), ite_self] at hfi
        rw [hfi] at hJ; exact hJ
      ·have e' := of_decide_eq_false e
       refine bsplit_of (fun e2 => ?_) (fun e2 => ?_)
       ·have h18 := eq_of e2
        rw [if_neg (by omega)] at e'
        rw [if_neg (by omega), if_neg (by omega), if_neg (by omega)] at hfi
        rw [show W ((w : Int) - 1) = ((w - 1 : Nat) : Int) by rw [W_id (by omega) (by omega)]; omega]
        refine l1Bit_spec (by omega) ⟨_, rfl, ?_⟩
        rw [hfi] at hJ; exact hJ
       ·have h18 := ne_of e2
        have : f i = false := by
         rw [hfi]
         by_cases h16 : kind = 16
         ·rw [if_pos h16] at e' ⊢
          have : decide (b ≤ i) = false := by simp; omega
          rw [this, Bool.false_and]
         ·rw [if_neg h16] at e' ⊢
          rw [if_pos (by omega)]
          have : decide (i + b < w) = false := by simp; omega
          rw [this, Bool.false_and]
        rw [this] at hJ
        exact hJ
    ·intro J hJ
     generalize (if kind = 16 then (i : Int) - b else (i : Int) + b) = z at *
     refine bsplit_of (fun e => ?_) (fun e => ?_)
     ·have : 0 ≤ z := of_decide_eq_true e
      rw [show decide (0 ≤ z ∧ z < (w : Int)) = decide (z < (w : Int)) by rw [decide_eq_decide]; omega] at hJ; exact hJ
     ·have : ¬ 0 ≤ z := of_decide_eq_false e
      rw [show decide (0 ≤ z ∧ z < (w : Int)) = false by rw [decide_eq_false_iff_not]; omega] at hJ; exact hJ
   ·intro J hJ
    refine bsplit_of (fun e => ?_) (fun e => ?_)
    ·rw [if_pos (eq_of e)] at hJ; rw [W_id (by omega) (by omega)]; exact hJ
    ·rw [if_neg (ne_of e)] at hJ; rw [W_id (by omega) (by omega)]; exact hJ
  ·have : i = w := by omega
   subst this
   refine bs_f (by simp) ?_
   rw [hcode]; exact k
 rcases hk with rfl | rfl | rfl
 ·exact key (fun i => decide (b ≤ i) && a.testBit (i - b)) shl_bits (fun i _ => rfl)
 ·exact key (fun i => decide (i + b < w) && a.testBit (i + b)) (shr_bits ea.2) (fun i _ => rfl)
 ·exact key (fun i => if i + b < w then a.testBit (i + b) else a.testBit (w - 1)) (sar_bits hw.1 hw.2 ea.2) (fun i _ => rfl)
theorem l1Turn_spec {h : Hp} {kind : Int} {w a b : Nat} {R : Value → Hp → Prop} (hk : kind = 19 ∨ kind = 20) (ea : WO w a)
  (k : R (I ((if kind = 19 then rolP w a (b % w) else rolP w a ((w - b % w) % w) : Nat))) h) : c_spec_l1Turn #[I kind, I w, I a, I b] h R := by
 have hw := ea.1
 have hm : b % w < w := Nat.mod_lt _ (by omega)
 have key : ∀ s : Nat, s < w → R (I (rolP w a s)) h → (∀ i, i < w → (if kind = 20 then (i + w - b % w) % w else (i + b % w) % w) = (i + s) % w) →
   c_spec_l1Turn #[I kind, I w, I a, I b] h R := by
  intro s hs k hto
  apply R_spec_l1Turn
  unfold F_spec_l1Turn
  refine loop_up w (fun i vs h' => vs = [I kind, I w, I a, I b, I (codeOf w fun j => decide ((j + (w - s)) % w < i) && a.testBit ((j + (w - s)) % w)), I i] ∧ h' = h) ⟨?_, rfl⟩ ?_
  ·have : codeOf w (fun j => decide ((j + (w - s)) % w < 0) && a.testBit ((j + (w - s)) % w)) = 0 :=
    codeOf_eq (pow_pos' w) fun i _ => by simp
   rw [this]; rfl
  rintro i _ h' next hi ⟨rfl, rfl⟩ hn
  refine ⟨_, _, _, _, _, _, rfl, ?_⟩
  by_cases hlt : i < w
  ·refine bs_t (by simp [hlt]) ?_
   have hn' := hn hlt _ _ ⟨rfl, rfl⟩
   have hst := turn_step (a := a) hs hlt
   have hto := hto i hlt
   rw [if_neg (by omega), tmod_nat]
   have hpw : (i + s) % w < w := Nat.mod_lt _ (by omega)
   refine joinP_of (fun J => J ((if kind = 20 then i + w - b % w else i + b % w : Nat) : Int)) ?_ ?_
   ·have ht : Int.tmod ((if kind = 20 then i + w - b % w else i + b % w : Nat) : Int) (w : Int) = (((i + s) % w : Nat) : Int) := by
     rw [tmod_nat, ← hto]
     split <;> rfl
    rw [if_neg (by omega), ht, Wu_nat (by omega)]
    have step : W ((codeOf w (fun j => decide ((j + (w - s)) % w < i) && a.testBit ((j + (w - s)) % w)) : Int) + shlW (if a.testBit i then 1 else 0) (((i + s) % w : Nat) : Int)) =
      ((codeOf w (fun j => decide ((j + (w - s)) % w < i + 1) && a.testBit ((j + (w - s)) % w)) : Nat) : Int) := by
     rw [shl_bit (by omega), ← hst, ← Int.natCast_add, W_nat]
     rw [hst]
     have := codeOf_lt w (fun j => decide ((j + (w - s)) % w < i + 1) && a.testBit ((j + (w - s)) % w))
     have := pow16 hw.2
     omega
    have one : c_spec_l1Bit #[I a, I i] h' fun v25 h26 => ∃ (x27 : Int), v25 = (I x27) ∧ (if (((i + s) % w : Nat) : Int) < 0 then False else next [I kind, I w, I a, I b, I (W ((codeOf w (fun j => decide ((j + (w - s)) % w < i) && a.testBit ((j + (w - s)) % w)) : Int) + shlW x27 (((i + s) % w : Nat) : Int))), I (W ((i : Int) + 1))] h26) := by
     refine l1Bit_spec (by omega) ⟨_, rfl, ?_⟩
     rw [if_neg (by omega), step, W_succ (by omega)]
     exact hn'
    exact ⟨one, one⟩
   ·intro J hJ
    refine bsplit_of (fun e => ?_) (fun e => ?_)
    ·rw [if_pos (eq_of e)] at hJ
     rw [if_neg (by omega)]
     have : W (W ((i : Int) + w) - ((b % w : Nat) : Int)) = ((i + w - b % w : Nat) : Int) := by rw [W_id (n := (i : Int) + w) (by omega) (by omega), W_id (by omega) (by omega)]; omega
     rw [this]; exact hJ
    ·rw [if_neg (ne_of e)] at hJ
     have : W ((i : Int) + ((b % w : Nat) : Int)) = ((i + b % w : Nat) : Int) := by rw [W_id (by omega) (by omega)]; omega
     rw [this]; exact hJ
  ·have : i = w := by omega
   subst this
   refine bs_f (by simp) ?_
   have : codeOf i (fun j => decide ((j + (i - s)) % i < i) && a.testBit ((j + (i - s)) % i)) = rolP i a s := by
    rw [← rol_code ea.2 hs]
    refine codeOf_ext fun j _ => ?_
    have : decide ((j + (i - s)) % i < i) = true := by
     rw [decide_eq_true_eq]; exact Nat.mod_lt _ (by omega)
    rw [this, Bool.true_and]
   rw [this]; exact k
 rcases hk with rfl | rfl
 ·refine key (b % w) hm k fun i _ => ?_
  rw [if_neg (by omega)]
 ·rw [if_neg (by omega)] at k
  refine key ((w - b % w) % w) (Nat.mod_lt _ (by omega)) k fun i _ => ?_
  rw [if_pos rfl, Nat.add_mod_mod]
  congr 1
  omega
theorem sub_tup {b : Bool} {R : Value → Hp → Prop} {h : Hp} {c : Bool} (e : b = c) (k : R (.tuple #[.bool c, .bool true]) h) : R (.tuple #[.bool b, .bool true]) h := by rw [e]; exact k
theorem l1Says_spec {h : Hp} {kind : Int} {w a b : Nat} {R : Value → Hp → Prop} (ea : WO w a) (eb : WO w b)
  (k1 : 21 ≤ kind ∧ kind ≤ 28 → R (.tuple #[.bool (saysP kind w a b), .bool true]) h)
  (k2 : ¬ (21 ≤ kind ∧ kind ≤ 28) → R (.tuple #[.bool false, .bool false]) h) : c_spec_l1Says #[I kind, I w, I a, I b] h R := by
 apply R_spec_l1Says
 unfold F_spec_l1Says
 have h16 := ea.pow
 have hp := pow_pos' w
 have sa := sgn16 ea
 have sb := sgn16 eb
 have ha := ea.2
 have hb := eb.2
 have hw := ea.1
 have dd : ∀ {p q : Prop} [Decidable p] [Decidable q], (p ↔ q) → decide p = decide q := fun h => by rw [decide_eq_decide]; exact h
 refine WordSigned_spec ea ⟨_, rfl, WordSigned_spec eb ⟨_, rfl, ?_⟩⟩
 refine bsplit_of (fun e => ?_) (fun e1 => ?_)
 ·have e := eq_of e
  subst e
  refine sub_tup ?_ (k1 (by omega))
  show _ = decide (a = b)
  rw [Bool.eq_iff_iff]; simp; omega
 refine bsplit_of (fun e => ?_) (fun e2 => ?_)
 ·have e := eq_of e
  subst e
  exact sub_tup (dd (by omega)) (k1 (by omega))
 refine bsplit_of (fun e => ?_) (fun e3 => ?_)
 ·have e := eq_of e
  subst e
  exact k1 (by omega)
 refine bsplit_of (fun e => ?_) (fun e4 => ?_)
 ·have e := eq_of e
  subst e
  exact sub_tup (dd (by omega)) (k1 (by omega))
 refine bsplit_of (fun e => ?_) (fun e5 => ?_)
 ·have e := eq_of e
  subst e
  exact k1 (by omega)
 refine bsplit_of (fun e => ?_) (fun e6 => ?_)
 ·have e := eq_of e
  subst e
  have hab : W ((a : Int) + b) = ((a + b : Nat) : Int) := by rw [W_id (by omega) (by omega)]; omega
  rw [hab]
  refine spec_WordOk_spec ⟨_, rfl, ?_⟩
  refine sub_tup ?_ (k1 (by omega))
  show _ = decide (2 ^ w ≤ a + b)
  rw [Bool.eq_iff_iff]
  have := wordOk_iff (w := (w : Int)) (v := ((a + b : Nat) : Int))
  rw [Int.toNat_natCast] at this
  simp only [Bool.not_eq_true', decide_eq_true_eq, ← Bool.not_eq_true, this]
  omega
 refine bsplit_of (fun e => ?_) (fun e7 => ?_)
 ·have e := eq_of e
  subst e
  rw [W_id (by omega) (by omega)]
  refine WordFrom_spec hw ⟨_, rfl, WordSigned_spec ⟨hw, fromP_lt _ _⟩ ⟨_, rfl, ?_⟩⟩
  refine sub_tup ?_ (k1 (by omega))
  show _ = !decide (-((2 ^ (w - 1) : Nat) : Int) ≤ sgn w a + sgn w b ∧ sgn w a + sgn w b < ((2 ^ (w - 1) : Nat) : Int))
  have := sover (a := a) (b := b) hw.1
  rw [Bool.eq_iff_iff, bne_iff_ne, this, Bool.not_eq_true', decide_eq_false_iff_not]
 refine bsplit_of (fun e => ?_) (fun e8 => ?_)
 ·have e := eq_of e
  subst e
  have hmul := mul16 (a := a) (b := b) (by omega) (by omega)
  have hmi : (a : Int) * (b : Int) = ((a * b : Nat) : Int) := (Int.natCast_mul _ _).symm
  rw [hmi, W_nat (by omega)]
  refine spec_WordOk_spec ⟨_, rfl, ?_⟩
  refine sub_tup ?_ (k1 (by omega))
  show _ = decide (2 ^ w ≤ a * b)
  rw [Bool.eq_iff_iff]
  have := wordOk_iff (w := (w : Int)) (v := ((a * b : Nat) : Int))
  rw [Int.toNat_natCast] at this
  simp only [Bool.not_eq_true', decide_eq_true_eq, ← Bool.not_eq_true, this]
  generalize a * b = ab at *
  omega
 ·have := ne_of e1; have := ne_of e2; have := ne_of e3; have := ne_of e4; have := ne_of e5; have := ne_of e6; have := ne_of e7; have := ne_of e8
  exact k2 (by omega)
theorem WordTwo_spec {h : Hp} {kind : Int} {w a b : Nat} {R : Value → Hp → Prop} (hk : 6 ≤ kind ∧ kind ≤ 28) (ea : WO w a) (eb : WO w b)
  (k : R (.tuple #[I (twoP kind w a b).1, I (twoP kind w a b).2, .bool true]) h) : c_spec_WordTwo #[I kind, I w, I a, I b] h R := by
 apply R_spec_WordTwo
 unfold F_spec_WordTwo
 have h16 := ea.pow
 have hp := pow_pos' w
 have ha := ea.2
 have hb := eb.2
 have hw := ea.1
 have hmul := mul16 (a := a) (b := b) (by omega) (by omega)
 refine joinP_of (fun J => J false h) ?_ (fun J hJ => spec_WordOk_spec ⟨_, rfl, bs_f (by rw [ea.ok]; rfl) (spec_WordOk_spec ⟨_, rfl, by rw [eb.ok]; exact hJ⟩)⟩)
 refine bs_f rfl (l1Says_spec ea eb (fun h21 => ⟨_, _, rfl, bs_t rfl (l1Yes_spec ⟨_, rfl, ?_⟩)⟩) (fun h21 => ⟨_, _, rfl, bs_f rfl ?_⟩))
 ·have t : twoP kind w a b = (if saysP kind w a b then 1 else 0, 1) := by unfold twoP; rw [if_neg (by omega)]
  rw [t] at k
  cases hs : saysP kind w a b
  ·rw [hs] at k; simpa using k
  ·rw [hs] at k; simpa using k
 have t : twoP kind w a b = (calcP kind w a b, w) := by unfold twoP; rw [if_pos (by omega)]
 rw [t] at k
 unfold calcP at k
 simp only at k
 refine joinP_of (fun J => J (decide (kind = 6 ∨ kind = 7 ∨ kind = 8))) ?_ ?_
 rotate_left
 ·intro J hJ
  refine bsplit_of (fun e => ?_) (fun e => bsplit_of (fun e2 => ?_) (fun e2 => ?_))
  ·rw [decide_eq_true (.inl (eq_of e))] at hJ; exact hJ
  ·rw [decide_eq_true (.inr (.inl (eq_of e2)))] at hJ; exact hJ
  ·have : (kind == 8) = decide (kind = 6 ∨ kind = 7 ∨ kind = 8) := by
    have h1 := ne_of e
    have h2 := ne_of e2
    rw [Bool.eq_iff_iff]; simp [h1, h2]
   rw [this]; exact hJ
 refine bsplit_of (fun e => ?_) (fun e678 => ?_)
 ·have e' : kind = 6 ∨ kind = 7 ∨ kind = 8 := by simpa using e
  refine l1Each_spec hw.2 ⟨_, rfl, ?_⟩
  rcases e' with rfl | rfl | rfl
  ·rw [if_pos rfl, ← each_and ha] at k; exact k
  ·rw [if_neg (by decide), if_pos rfl, ← each_or ha hb] at k; exact k
  ·rw [if_neg (by decide), if_neg (by decide), if_pos rfl, ← each_xor ha hb] at k; exact k
 have n6 : ¬ kind = 6 ∧ ¬ kind = 7 ∧ ¬ kind = 8 := by simpa using e678
 rw [if_neg n6.1, if_neg n6.2.1, if_neg n6.2.2] at k
 refine bsplit_of (fun e => ?_) (fun e9 => ?_)
 ·rw [if_pos (eq_of e)] at k
  rw [W_id (by omega) (by omega)]
  exact WordFrom_spec hw ⟨_, rfl, k⟩
 rw [if_neg (ne_of e9)] at k
 refine bsplit_of (fun e => ?_) (fun e10 => ?_)
 ·rw [if_pos (eq_of e)] at k
  rw [W_id (by omega) (by omega)]
  exact WordFrom_spec hw ⟨_, rfl, k⟩
 rw [if_neg (ne_of e10)] at k
 refine bsplit_of (fun e => ?_) (fun e11 => ?_)
 ·rw [if_pos (eq_of e)] at k
  have hmi : (a : Int) * (b : Int) = ((a * b : Nat) : Int) := (Int.natCast_mul _ _).symm
  rw [hmi] at k ⊢
  generalize a * b = ab at *
  rw [W_nat (by omega)]
  exact WordFrom_spec hw ⟨_, rfl, k⟩
 rw [if_neg (ne_of e11)] at k
 refine joinP_of (fun J => J (decide (kind = 12 ∨ kind = 13))) ?_ ?_
 rotate_left
 ·intro J hJ
  refine bsplit_of (fun e => ?_) (fun e => ?_)
  ·rw [decide_eq_true (.inl (eq_of e))] at hJ; exact hJ
  ·have : (kind == 13) = decide (kind = 12 ∨ kind = 13) := by
    have := ne_of e
    rw [Bool.eq_iff_iff]; simp [this]
   rw [this]; exact hJ
 refine bsplit_of (fun e => ?_) (fun e1213 => ?_)
 ·have e' : kind = 12 ∨ kind = 13 := by simpa using e
  refine l1Div_spec ea eb ⟨_, rfl, ?_⟩
  rcases e' with rfl | rfl
  ·simpa using k
  ·simpa using k
 have n12 : ¬ kind = 12 ∧ ¬ kind = 13 := by simpa using e1213
 rw [if_neg n12.1, if_neg n12.2] at k
 refine joinP_of (fun J => J (decide (kind = 14 ∨ kind = 15))) ?_ ?_
 rotate_left
 ·intro J hJ
  refine bsplit_of (fun e => ?_) (fun e => ?_)
  ·rw [decide_eq_true (.inl (eq_of e))] at hJ; exact hJ
  ·have : (kind == 15) = decide (kind = 14 ∨ kind = 15) := by
    have := ne_of e
    rw [Bool.eq_iff_iff]; simp [this]
   rw [this]; exact hJ
 refine bsplit_of (fun e => ?_) (fun e1415 => ?_)
 ·have e' : kind = 14 ∨ kind = 15 := by simpa using e
  refine l1Sdiv_spec e' ea eb ⟨_, rfl, ?_⟩
  rcases e' with rfl | rfl
  ·simpa using k
  ·simpa using k
 have n14 : ¬ kind = 14 ∧ ¬ kind = 15 := by simpa using e1415
 rw [if_neg n14.1, if_neg n14.2] at k
 refine joinP_of (fun J => J (decide (kind = 16 ∨ kind = 17 ∨ kind = 18))) ?_ ?_
 rotate_left
 ·intro J hJ
  refine bsplit_of (fun e => ?_) (fun e => bsplit_of (fun e2 => ?_) (fun e2 => ?_))
  ·rw [decide_eq_true (.inl (eq_of e))] at hJ; exact hJ
  ·rw [decide_eq_true (.inr (.inl (eq_of e2)))] at hJ; exact hJ
  ·have : (kind == 18) = decide (kind = 16 ∨ kind = 17 ∨ kind = 18) := by
    have h1 := ne_of e
    have h2 := ne_of e2
    rw [Bool.eq_iff_iff]; simp [h1, h2]
   rw [this]; exact hJ
 refine bsplit_of (fun e => ?_) (fun e1618 => ?_)
 ·have e' : kind = 16 ∨ kind = 17 ∨ kind = 18 := by simpa using e
  refine l1Shift_spec e' ea (by omega) ⟨_, rfl, ?_⟩
  unfold shiftP
  rcases e' with rfl | rfl | rfl
  ·simpa using k
  ·simpa using k
  ·simpa using k
 have n16 : ¬ kind = 16 ∧ ¬ kind = 17 ∧ ¬ kind = 18 := by simpa using e1618
 rw [if_neg n16.1, if_neg n16.2.1, if_neg n16.2.2] at k
 have h1920 : kind = 19 ∨ kind = 20 := by
  have := ne_of e9; have := ne_of e10; have := ne_of e11
  omega
 refine joinP_of (fun J => J true) ?_ ?_
 rotate_left
 ·intro J hJ
  refine bsplit_of (fun e => hJ) (fun e => ?_)
  have : (kind == 20) = true := by
   have := ne_of e
   rw [beq_iff_eq]; omega
  rw [this]; exact hJ
 refine bs_t rfl (l1Turn_spec h1920 ea ⟨_, rfl, k⟩)
theorem growP_lt {w a more : Nat} {sign : Bool} (e : WO w a) : growP w a more sign < 2 ^ (w + more) := by
 unfold growP
 cases sign
 ·have := e.2
  have : 2 ^ w ≤ 2 ^ (w + more) := Nat.pow_le_pow_right (by omega) (by omega)
  rw [if_neg (by decide)]; omega
 ·exact fromP_lt _ _
theorem grow_spec {h : Hp} {w a more : Nat} {s : Bool} {R : Value → Hp → Prop} (e : WO w a) (hm : w + more ≤ 16)
  (k : R (I (growP w a more s)) h) : c_impl_grow #[I w, I a, I more, .bool s] h R := by
 apply R_impl_grow
 unfold F_impl_grow
 unfold growP at k
 refine bsplit_of (fun es => ?_) (fun es => ?_)
 ·rw [if_pos es] at k
  refine signed_spec e ⟨_, rfl, ?_⟩
  rw [show W ((w : Int) + more) = ((w + more : Nat) : Int) by rw [W_id (by omega) (by omega)]; omega]
  refine mask_spec (by omega) ⟨_, rfl, ?_⟩
  rw [andW_mask (by omega)]; exact k
 ·rw [if_neg (by rw [es]; decide)] at k; exact k
theorem WordGrow_spec {h : Hp} {w a more : Nat} {s : Bool} {R : Value → Hp → Prop} (e : WO w a) (hm : w + more ≤ 16)
  (k : R (.tuple #[I (growP w a more s), I ((w + more : Nat) : Int), .bool true]) h) : c_spec_WordGrow #[I w, I a, I more, .bool s] h R := by
 apply R_spec_WordGrow
 unfold F_spec_WordGrow
 unfold growP at k
 have hw : W ((w : Int) + more) = ((w + more : Nat) : Int) := by rw [W_id (by omega) (by omega)]; omega
 have h1 := e.1
 refine joinP_of (fun J => J false h) ?_ (fun J hJ => spec_WordOk_spec ⟨_, rfl, bs_f (by rw [e.ok]; rfl) (bs_f (by simp) ?_)⟩)
 ·refine bs_f rfl (bsplit_of (fun es => ?_) (fun es => ?_))
  ·rw [if_pos es] at k
   rw [hw]
   exact WordSigned_spec e ⟨_, rfl, WordFrom_spec (by omega) ⟨_, rfl, k⟩⟩
  ·rw [if_neg (by rw [es]; decide)] at k
   rw [hw]; exact k
 ·rw [W_id (by omega) (by omega), show decide ((more : Int) > 16 - (w : Int)) = false by rw [decide_eq_false_iff_not]; omega]; exact hJ
theorem WordJoin_spec {h : Hp} {w a u b : Nat} {R : Value → Hp → Prop} (ea : WO w a) (eb : WO u b) (hm : w + u ≤ 16)
  (k : R (.tuple #[I ((a * 2 ^ u + b : Nat) : Int), I ((w + u : Nat) : Int), .bool true]) h) : c_spec_WordJoin #[I w, I a, I u, I b] h R := by
 apply R_spec_WordJoin
 unfold F_spec_WordJoin
 have hw : W ((w : Int) + u) = ((w + u : Nat) : Int) := by rw [W_id (by omega) (by omega)]; omega
 have h1 := ea.1
 have h2 := eb.1
 have ha := ea.2
 have hb := eb.2
 have h16a := ea.pow
 have h16b := eb.pow
 have hmul := mul16 (a := a) (b := 2 ^ u) (by omega) (by omega)
 refine joinP_of (fun J => J false h) ?_ (fun J hJ => spec_WordOk_spec ⟨_, rfl, bs_f (by rw [ea.ok]; rfl) (spec_WordOk_spec ⟨_, rfl, bs_f (by rw [eb.ok]; rfl) ?_⟩)⟩)
 ·rw [Wu_nat (by omega)]
  refine bs_f rfl ?_
  rw [if_neg (by omega), shlW_nat (by omega) (by omega), hw, ← Int.natCast_add, W_nat (by omega)]; exact k
 ·rw [hw, show decide (((w + u : Nat) : Int) > 16) = false by rw [decide_eq_false_iff_not]; omega]; exact hJ
theorem WordSlice_spec {h : Hp} {w a hi lo : Nat} {R : Value → Hp → Prop} (ea : WO w a) (h1 : lo ≤ hi) (h2 : hi < w)
  (k : R (.tuple #[I ((a / 2 ^ lo % 2 ^ (hi - lo + 1) : Nat) : Int), I ((hi - lo + 1 : Nat) : Int), .bool true]) h) : c_spec_WordSlice #[I w, I a, I hi, I lo] h R := by
 apply R_spec_WordSlice
 unfold F_spec_WordSlice
 have e0 := ea.1
 have hw : W (W ((hi : Int) - lo) + 1) = ((hi - lo + 1 : Nat) : Int) := by rw [W_id (n := (hi : Int) - lo) (by omega) (by omega), W_id (by omega) (by omega)]; omega
 have e1 := ea.1
 have hp := pow_pos' (hi - lo + 1)
 refine joinP_of (fun J => J false h) ?_ (fun J hJ => spec_WordOk_spec ⟨_, rfl, bs_f (by rw [ea.ok]; rfl) (bs_f (by simp) (bs_f (by simp; omega) ?_))⟩)
 ·refine bs_f rfl ?_
  rw [hw, Wu_nat (by omega), Wu_nat (by omega), if_neg (by omega), if_neg (by omega), shlW_one (by omega), if_neg (by omega), shrW_nat (by omega), tmod_nat]
  exact k
 ·rw [show decide ((hi : Int) ≥ (w : Int)) = false by rw [decide_eq_false_iff_not]; omega]; exact hJ
theorem alloc_of {h : Hp} {cs : Nat → List Value} {n : Nat → Nat} {P : Nat → Hp → Prop}
  (k : ∀ b h', h b = none → h.le h' → h' b = some (.inl ⟨cs b, n b, false⟩) → P b h') : ∀ b, h b = none → setH (h.row b (cs b) (n b)) fun h' => P b h' :=
 fun b hb => k b _ hb (le_row _ _ hb) (row_self _ _ _ _)
theorem b_leaf {b c : Bool} {R : Value → Hp → Prop} {h : Hp} (e : b = c) (k : R (.bool c) h) : R (.bool b) h := by rw [e]; exact k
theorem i_leaf {b c : Int} {R : Value → Hp → Prop} {h : Hp} (e : b = c) (k : R (I c) h) : R (I b) h := by rw [e]; exact k
theorem bs_and {P : Bool → Prop} {c b : Bool} (k : P (c && b)) : bsplit c (P b) (P false) := by cases c <;> exact k
theorem bs_or {P : Bool → Prop} {c b : Bool} (k : P (c || b)) : bsplit c (P true) (P b) := by cases c <;> exact k
abbrev sortV (s : SortP) : Value := .agg #[I s.idx, I s.wid]
abbrev nodeV (n : NodeP) : Value := .agg #[I n.kind, I n.a, I n.b, I n.c, I n.n, I n.m, I n.sort.idx, I n.sort.wid, .string n.name]
abbrev bindV (b : BindP) : Value := .agg #[I b.state, I b.node]
theorem sortOkP_eq (s : SortP) : sortOkP s = (decide (0 ≤ s.idx ∧ s.idx ≤ 2) && decide (1 ≤ s.wid ∧ s.wid ≤ 16)) := by
 unfold sortOkP; rw [Bool.eq_iff_iff]; simp
theorem sortOkP_iff {s : SortP} : sortOkP s = true ↔ (0 ≤ s.idx ∧ s.idx ≤ 2) ∧ (1 ≤ s.wid ∧ s.wid ≤ 16) := by
 unfold sortOkP; simp
theorem impl_SortOk_spec {h : Hp} {i w : Int} {R : Value → Hp → Prop} (k : R (.bool (sortOkP ⟨i, w⟩)) h) : c_impl_SortOk #[.agg #[I i, I w]] h R := by
 refine ACalls.drop (R_impl_SortOk ?_)
 unfold F_impl_SortOk
 refine alloc_of fun b h1 hb l1 f1 => ?_
 simp only [vm, mm, cell_of f1]
 rw [sortOkP_eq] at k
 refine in_spec ⟨_, rfl, bsplit_of (fun e => ?_) (fun e => ⟨_, l1, b_leaf ?_ k⟩)⟩
 ·simp only [vm, mm, cell_of f1]
  exact isWidth_spec ⟨_, rfl, ⟨_, l1, b_leaf (by simp only [e, Bool.true_and]) k⟩⟩
 ·simp only [e, Bool.false_and]
theorem spec_SortOk_spec {h : Hp} {i w : Int} {R : Value → Hp → Prop} (k : R (.bool (sortOkP ⟨i, w⟩)) h) : c_spec_SortOk #[.agg #[I i, I w]] h R := by
 refine ACalls.drop (R_spec_SortOk ?_)
 unfold F_spec_SortOk
 refine alloc_of fun b h1 hb l1 f1 => ?_
 simp only [vm, mm, cell_of f1]
 rw [sortOkP_eq] at k
 refine l1In_spec ⟨_, rfl, bsplit_of (fun e => ?_) (fun e => ⟨_, l1, b_leaf ?_ k⟩)⟩
 ·simp only [vm, mm, cell_of f1]
  exact l1Width_spec ⟨_, rfl, ⟨_, l1, b_leaf (by simp only [e, Bool.true_and]) k⟩⟩
 ·simp only [e, Bool.false_and]
theorem sortCells_le (s : SortP) : sortCellsP s ≤ 4 := by
 unfold sortCellsP
 split
 ·rename_i e
  have := sortOkP_iff.1 e
  have := Nat.pow_le_pow_right (n := 2) (by omega) (show s.idx.toNat ≤ 2 by omega)
  simpa using this
 ·omega
theorem impl_SortCells_spec {h : Hp} {i w : Int} {R : Value → Hp → Prop} (k : R (I (sortCellsP ⟨i, w⟩)) h) : c_impl_SortCells #[.agg #[I i, I w]] h R := by
 refine ACalls.drop (R_impl_SortCells ?_)
 unfold F_impl_SortCells
 refine alloc_of fun b h1 hb l1 f1 => ?_
 simp only [vm, mm, cell_of f1]
 unfold sortCellsP at k
 refine impl_SortOk_spec ⟨_, rfl, bsplit_of (fun e => ⟨_, l1, ?_⟩) (fun e => ?_)⟩
 ·rw [if_neg (by simpa using e)] at k; exact k
 ·have e' : sortOkP ⟨i, w⟩ = true := by simpa using e
  have := sortOkP_iff.1 e'
  rw [if_pos e'] at k
  simp only [vm, mm, cell_of f1]
  obtain ⟨n, rfl⟩ : ∃ n : Nat, i = n := ⟨i.toNat, by simp only at this; omega⟩
  simp only at this
  rw [if_neg (by omega), shlW_one (by omega)]
  exact ⟨_, l1, k⟩
theorem spec_SortCells_spec {h : Hp} {i w : Int} {R : Value → Hp → Prop} (k : R (I (sortCellsP ⟨i, w⟩)) h) : c_spec_SortCells #[.agg #[I i, I w]] h R := by
 refine ACalls.drop (R_spec_SortCells ?_)
 unfold F_spec_SortCells
 refine alloc_of fun b h1 hb l1 f1 => ?_
 simp only [vm, mm, cell_of f1]
 unfold sortCellsP at k
 refine spec_SortOk_spec ⟨_, rfl, bsplit_of (fun e => ⟨_, l1, ?_⟩) (fun e => ?_)⟩
 ·rw [if_neg (by simpa using e)] at k; exact k
 ·have e' : sortOkP ⟨i, w⟩ = true := by simpa using e
  have := sortOkP_iff.1 e'
  rw [if_pos e'] at k
  simp only [vm, mm, cell_of f1]
  obtain ⟨n, rfl⟩ : ∃ n : Nat, i = n := ⟨i.toNat, by simp only at this; omega⟩
  simp only at this
  rw [Wu_nat (by omega), if_neg (by omega), shlW_one (by omega)]
  exact ⟨_, l1, k⟩
theorem sortBits_le (s : SortP) : sortBitsP s ≤ 64 := by
 unfold sortBitsP
 by_cases e : sortOkP s = true
 ·have := sortOkP_iff.1 e
  have h1 := sortCells_le s
  have := Nat.mul_le_mul h1 (show s.wid.toNat ≤ 16 by omega)
  omega
 ·have : sortCellsP s = 0 := by unfold sortCellsP; rw [if_neg e]
  rw [this]; omega
theorem sortBits_int {s : SortP} {x : Int} (hx : sortOkP s = true → x = s.wid) : (sortCellsP s : Int) * x = ((sortBitsP s : Nat) : Int) := by
 unfold sortBitsP
 by_cases e : sortOkP s = true
 ·have := sortOkP_iff.1 e
  rw [hx e, Int.natCast_mul]
  congr 1
  omega
 ·have : sortCellsP s = 0 := by unfold sortCellsP; rw [if_neg e]
  rw [this]; simp
theorem impl_SortBits_spec {h : Hp} {i w : Int} {R : Value → Hp → Prop} (k : R (I (sortBitsP ⟨i, w⟩)) h) : c_impl_SortBits #[.agg #[I i, I w]] h R := by
 refine ACalls.drop (R_impl_SortBits ?_)
 unfold F_impl_SortBits
 refine alloc_of fun b h1 hb l1 f1 => ?_
 simp only [vm, mm, cell_of f1]
 refine impl_SortCells_spec ⟨_, rfl, rfl, ⟨_, l1, i_leaf ?_ k⟩⟩
 have := sortBits_le ⟨i, w⟩
 rw [sortBits_int, W_nat (by omega)]
 intro e
 have := sortOkP_iff.1 e
 simp only at this ⊢
 split <;> split <;> omega
theorem spec_SortBits_spec {h : Hp} {i w : Int} {R : Value → Hp → Prop} (k : R (I (sortBitsP ⟨i, w⟩)) h) : c_spec_SortBits #[.agg #[I i, I w]] h R := by
 refine ACalls.drop (R_spec_SortBits ?_)
 unfold F_spec_SortBits
 refine alloc_of fun b h1 hb l1 f1 => ?_
 simp only [vm, mm, cell_of f1]
 refine spec_SortCells_spec ⟨_, rfl, rfl, ⟨_, l1, i_leaf ?_ k⟩⟩
 have := sortBits_le ⟨i, w⟩
 rw [sortBits_int (fun _ => rfl), W_nat (by omega)]
theorem joinP_eq {α : Sort _} (c : α) (k : α → Prop) : joinP c k = k c := rfl
theorem fin_ {P : Prop} (k : P := by ((try rw [Bool.eq_iff_iff]); ((try simp only [decide_eq_true_eq, decide_eq_false_iff_not, beq_iff_eq, beq_eq_false_iff_ne, bne_iff_ne, bne_eq_false_iff_eq, ne_eq, Bool.not_eq_true', Bool.not_eq_false', Bool.and_eq_true, Bool.or_eq_true, Bool.true_and, Bool.false_and, Bool.and_true, Bool.and_false, Bool.true_or, Bool.false_or, reduceCtorEq, iff_false, iff_true, false_iff, true_iff, Bool.not_true, Bool.not_false] at *)); try ((repeat' split) <;> omega))) : P := k
theorem j_leaf {α : Sort _} {b c : α} {J : α → Prop} (e : b = c) (k : J c) : J b := by rw [e]; exact k
theorem impl_parts_spec {h : Hp} {kind : Int} {R : Value → Hp → Prop} (k : R (I (partsP kind)) h) : c_impl_parts #[I kind] h R := by
 apply R_impl_parts
 unfold F_impl_parts
 simp only [joinP_eq]
 repeat' (first | (with_reducible first | refine bs_t (b := true) rfl ?_ | refine bs_f (b := false) rfl ?_ | refine bsplit_of (fun _ => ?_) fun _ => ?_) | (refine in_spec ⟨_, rfl, ?_⟩) | (refine i_leaf ?_ k))
 all_goals (clear k; unfold partsP; (exact fin_))
theorem l2Parts_spec {h : Hp} {kind : Int} {R : Value → Hp → Prop} (k : R (I (partsP kind)) h) : c_spec_l2Parts #[I kind] h R := by
 apply R_spec_l2Parts
 unfold F_spec_l2Parts
 refine joinP_of (fun J => J (decide ((1 ≤ kind ∧ kind ≤ 5) ∨ (30 ≤ kind ∧ kind ≤ 32)))) ?_ (fun J hJ => ?_)
 rotate_left
 ·clear k; repeat' (first | (with_reducible first | refine bs_t (b := true) rfl ?_ | refine bs_f (b := false) rfl ?_ | refine bsplit_of (fun _ => ?_) fun _ => ?_) | (refine j_leaf ?_ hJ))
  all_goals (clear hJ; (exact fin_))
 (with_reducible first | refine bs_t (b := true) rfl ?_ | refine bs_f (b := false) rfl ?_ | refine bsplit_of (fun _ => ?_) fun _ => ?_)
 ·refine i_leaf ?_ k; clear k; unfold partsP; (exact fin_)
 refine joinP_of (fun J => J (decide ((6 ≤ kind ∧ kind ≤ 29) ∨ kind = 37))) ?_ (fun J hJ => ?_)
 rotate_left
 ·clear k; repeat' (first | (with_reducible first | refine bs_t (b := true) rfl ?_ | refine bs_f (b := false) rfl ?_ | refine bsplit_of (fun _ => ?_) fun _ => ?_) | (refine j_leaf ?_ hJ))
  all_goals (clear hJ; (exact fin_))
 (with_reducible first | refine bs_t (b := true) rfl ?_ | refine bs_f (b := false) rfl ?_ | refine bsplit_of (fun _ => ?_) fun _ => ?_)
 ·refine i_leaf ?_ k; clear k; unfold partsP; (exact fin_)
 simp only [joinP_eq]
 repeat' (first | (with_reducible first | refine bs_t (b := true) rfl ?_ | refine bs_f (b := false) rfl ?_ | refine bsplit_of (fun _ => ?_) fun _ => ?_) | (refine i_leaf ?_ k))
 all_goals (clear k; unfold partsP; (exact fin_))
theorem named_spec {h : Hp} {kind : Int} {R : Value → Hp → Prop} (k : R (.bool (namedP kind)) h) : c_impl_named #[I kind] h R := by
 apply R_impl_named
 unfold F_impl_named
 refine bs_or (P := fun b => R (.bool b) h) (b_leaf ?_ k)
 unfold namedP
 rw [Bool.eq_iff_iff]; simp
theorem ba_get (s : ByteArray) (i : Nat) : s[i]? = s.data.toList[i]? := by
 rcases s with ⟨⟨l⟩⟩
 by_cases h : i < l.length
 ·rw [getElem?_pos _ i (show i < (ByteArray.mk ⟨l⟩).size from h)]
  simp only [List.getElem?_eq_getElem h]
  rfl
 ·rw [getElem?_neg _ i (show ¬ i < (ByteArray.mk ⟨l⟩).size from h)]
  simp only [List.getElem?_eq_none (Nat.le_of_not_lt h)]
theorem ba_size (s : ByteArray) : s.size = s.data.toList.length := by rcases s with ⟨⟨l⟩⟩; rfl
theorem ba_some {s : ByteArray} {i : Nat} (h : i < s.size) : ∃ c, s[i]? = some c := by
 rw [ba_get]; rw [ba_size] at h
 exact ⟨_, List.getElem?_eq_getElem h⟩
theorem ba_empty (s : ByteArray) : (ByteArray.toList s == ByteArray.toList ⟨#[]⟩) = decide (s.size = 0) := by
 rcases s with ⟨⟨l⟩⟩
 rw [bytes_toList, show (⟨#[]⟩ : ByteArray) = ⟨List.toArray []⟩ from rfl, bytes_toList, ba_size, Bool.eq_iff_iff]
 simp
theorem isNameP_iff {s : ByteArray} : isNameP s = true ↔ (1 ≤ s.size ∧ s.size ≤ 8) ∧ ∀ (j : Nat) (c : UInt8), s[j]? = some c → letterU c = true ∨ (j ≠ 0 ∧ digitU c = true) := by
 unfold isNameP
 simp only [ba_get]
 have hs := ba_size s
 generalize s.data.toList = l at *
 rw [Bool.and_eq_true, decide_eq_true_eq]
 refine and_congr_right fun h1 => ?_
 cases l with
 | nil => have : s.size = 0 := hs; omega
 | cons c r =>
  simp only [Bool.and_eq_true, List.all_eq_true, Bool.or_eq_true]
  constructor
  ·rintro ⟨h2, h3⟩ j d hd
   cases j with
   | zero => simp at hd; subst hd; exact .inl h2
   | succ j =>
    simp only [List.getElem?_cons_succ] at hd
    exact (h3 d (List.mem_of_getElem? hd)).imp id fun h => ⟨by omega, h⟩
  ·intro h
   refine ⟨?_, fun d hd => ?_⟩
   ·rcases h 0 c rfl with h | h
    ·exact h
    ·exact absurd rfl h.1
   ·obtain ⟨j, hj, rfl⟩ := List.getElem_of_mem hd
    rcases h (j + 1) r[j] (by simp) with h | h
    ·exact .inl h
    ·exact .inr h.2
theorem isNameP_no {s : ByteArray} {j : Nat} {c : UInt8} (e : s[j]? = some c) (h1 : letterU c = false) (h2 : j = 0 ∨ digitU c = false) : isNameP s = false := by
 rw [Bool.eq_false_iff]
 intro h
 rcases (isNameP_iff.1 h).2 j c e with h | h
 ·rw [h1] at h; cases h
 ·rcases h2 with h2 | h2
  ·exact h.1 h2
  ·rw [h2] at h; cases h.2
theorem isLetter_spec {h : Hp} {c : UInt8} {R : Value → Hp → Prop} (k : R (.bool (letterU c)) h) : c_impl_isLetter #[.int .u8 ((UInt8.toNat c : Nat) : Int)] h R := by
 apply R_impl_isLetter
 unfold F_impl_isLetter
 refine bs_and (P := fun b => R (.bool b) h) (b_leaf ?_ k)
 unfold letterU
 (exact fin_)
theorem impl_isName_spec {h : Hp} {s : ByteArray} {R : Value → Hp → Prop} (k : R (.bool (isNameP s)) h) (hsz : s.size < 9223372036854775807) : c_impl_isName #[.string s] h R := by
 apply R_impl_isName
 unfold F_impl_isName
 refine loop_up s.size (fun i vs h' => (∀ (j : Nat) (c : UInt8), j < i → s[j]? = some c → letterU c = true ∨ (j ≠ 0 ∧ digitU c = true)) ∧ vs = [.string s, I s.size, I i] ∧ h' = h) ⟨fun j c hj => by omega, rfl, rfl⟩ ?_
 rintro i _ h' next hi ⟨hg, rfl, rfl⟩ hn
 refine ⟨_, _, _, rfl, ?_⟩
 by_cases hlt : i < s.size
 ·obtain ⟨c, hc⟩ := ba_some hlt
  refine bs_t (by simp [hlt]) ?_
  simp only [vm]
  have hnext : letterU c = true ∨ (i ≠ 0 ∧ digitU c = true) → next [.string s, I s.size, I (W ((i : Int) + 1))] h' := by
   intro hgood
   rw [W_succ (by omega)]
   refine hn hlt _ _ ⟨fun j d hj hd => ?_, rfl, rfl⟩
   by_cases hji : j = i
   ·subst hji; rw [hc] at hd; cases hd; exact hgood
   ·exact hg j d (by omega) hd
  refine ⟨c, hc, isLetter_spec ⟨_, rfl, bsplit_of (fun e => bsplit_of (fun e2 => ?_) (fun e2 => ⟨c, hc, bsplit_of (fun e3 => ?_) (fun e3 => ⟨c, hc, bsplit_of (fun e4 => ?_) (fun e4 => hnext ?_)⟩)⟩)) (fun e => hnext (.inl (by simpa using e)))⟩⟩
  ·exact b_leaf (isNameP_no hc (by simpa using e) (.inl (by simp at e2; omega))).symm k
  ·exact b_leaf (isNameP_no hc (by simpa using e) (.inr (by unfold digitU; simp at e3 ⊢; omega))).symm k
  ·exact b_leaf (isNameP_no hc (by simpa using e) (.inr (by unfold digitU; simp at e4 ⊢; omega))).symm k
  ·refine .inr ⟨by simp at e2; omega, ?_⟩
   unfold digitU; simp at e3 e4 ⊢; omega
 ·refine bs_f (by simp; omega) (in_spec ⟨_, rfl, b_leaf ?_ k⟩)
  have := @isNameP_iff s
  rw [Bool.eq_iff_iff, this, decide_eq_true_eq]
  constructor
  ·intro hh
   refine ⟨by omega, fun j c hc => hg j c ?_ hc⟩
   ·rcases Nat.lt_or_ge j s.size with h | h
    ·omega
    ·rw [ba_get, List.getElem?_eq_none (by rw [← ba_size]; exact h)] at hc; cases hc
  ·rintro ⟨hh, _⟩; omega
theorem spec_l2Name_spec {h : Hp} {s : ByteArray} {R : Value → Hp → Prop} (k : R (.bool (isNameP s)) h) : c_spec_l2Name #[.string s] h R := by
 apply R_spec_l2Name
 unfold F_spec_l2Name
 refine joinP_of (fun J => J (!(decide (1 ≤ s.size ∧ s.size ≤ 8) && (match s[0]? with | some c => letterU c | none => false))) h) ?_ (fun J hJ => ?_)
 rotate_left
 ·refine l1In_spec ⟨_, rfl, bsplit_of (fun e => ?_) (fun e => ?_)⟩
  ·rw [show decide (1 ≤ s.size ∧ s.size ≤ 8) = false by rw [decide_eq_false_iff_not]; simp at e; omega, Bool.false_and] at hJ
   exact hJ
  ·have e' : 1 ≤ s.size ∧ s.size ≤ 8 := by simp at e; omega
   obtain ⟨c, hc⟩ := ba_some (s := s) (i := 0) (by omega)
   rw [decide_eq_true e', Bool.true_and, hc] at hJ
   simp only at hJ
   refine ⟨by omega, c, hc, bsplit_of (fun e => ?_) (fun e => ⟨by omega, c, hc, ?_⟩)⟩
   ·exact j_leaf (J := fun b => J b h) (by unfold letterU; (exact fin_)) hJ
   ·exact j_leaf (J := fun b => J b h) (by unfold letterU; (exact fin_)) hJ
 refine bsplit_of (fun e => b_leaf ?_ k) (fun e => ?_)
 ·symm
  rw [Bool.eq_false_iff]
  intro hn
  have hh := isNameP_iff.1 hn
  obtain ⟨c, hc⟩ := ba_some (s := s) (i := 0) (by omega)
  rw [decide_eq_true hh.1, hc] at e
  rcases hh.2 0 c hc with h1 | h1
  ·simp [h1] at e
  ·exact absurd rfl h1.1
 have e' : (1 ≤ s.size ∧ s.size ≤ 8) ∧ ∀ c, s[0]? = some c → letterU c = true := by
  simp only [Bool.not_eq_false', Bool.and_eq_true, decide_eq_true_eq] at e
  refine ⟨e.1, fun c hc => ?_⟩
  have := e.2; rw [hc] at this; exact this
 refine loop_up s.size (fun i vs h' => (∀ (j : Nat) (c : UInt8), j < i → s[j]? = some c → letterU c = true ∨ digitU c = true) ∧ vs = [.string s, I i] ∧ h' = h) ⟨fun j c hj => by omega, rfl, rfl⟩ ?_
 rintro i _ h' next hi ⟨hg, rfl, rfl⟩ hn
 refine ⟨_, _, rfl, ?_⟩
 by_cases hlt : i < s.size
 ·obtain ⟨c, hc⟩ := ba_some hlt
  refine bs_t (by simp [hlt]) ?_
  simp only [vm]
  have hnext : letterU c = true ∨ digitU c = true → next [.string s, I (W ((i : Int) + 1))] h' := by
   intro hgood
   rw [W_succ (by omega)]
   refine hn hlt _ _ ⟨fun j d hj hd => ?_, rfl, rfl⟩
   by_cases hji : j = i
   ·subst hji; rw [hc] at hd; cases hd; exact hgood
   ·exact hg j d (by omega) hd
  have hbad : letterU c = false → digitU c = false → R (.bool false) h' := fun h1 h2 => b_leaf (isNameP_no hc h1 (.inr h2)).symm k
  have two : ∀ (hl : letterU c = false), (bsplit (decide (((UInt8.toNat c : Nat) : Int) ≥ 48)) (∃ c32 : UInt8, s[i]? = some c32 ∧ (bsplit (!(decide (((UInt8.toNat c32 : Nat) : Int) ≤ 57))) (R (.bool false) h') (next [(.string s), (I (W ((i : Int) + 1)))] h'))) (R (.bool false) h')) := by
   intro hl
   refine bsplit_of (fun e => ⟨c, hc, bsplit_of (fun e2 => hbad hl ?_) (fun e2 => hnext (.inr ?_))⟩) (fun e => hbad hl ?_)
   ·unfold digitU; simp at e2 ⊢; omega
   ·unfold digitU; simp at e e2 ⊢; omega
   ·unfold digitU; simp at e ⊢; omega
  refine ⟨c, hc, bsplit_of (fun e => ⟨c, hc, bsplit_of (fun e2 => hnext (.inl ?_)) (fun e2 => ⟨c, hc, two ?_⟩)⟩) (fun e => ⟨c, hc, two ?_⟩)⟩
  ·unfold letterU; simp at e e2 ⊢; omega
  ·unfold letterU; simp at e2 ⊢; omega
  ·unfold letterU; simp at e ⊢; omega
 ·refine bs_f (by simp; omega) (b_leaf ?_ k)
  symm
  refine isNameP_iff.2 ⟨e'.1, fun j c hc => ?_⟩
  have hj : j < s.size := by
   rcases Nat.lt_or_ge j s.size with h | h
   ·omega
   ·rw [ba_get, List.getElem?_eq_none (by rw [← ba_size]; exact h)] at hc; cases hc
  rcases hg j c (by omega) hc with h1 | h1
  ·exact .inl h1
  ·by_cases h0 : j = 0
   ·subst h0; exact .inl (e'.2 c hc)
   ·exact .inr ⟨h0, h1⟩
theorem rd : (∀ (v : Value) r, (v :: r)[0]? = some v) ∧ (∀ (v : Value) r (i : Nat), (v :: r)[i + 1]? = r[i]?) ∧
  (∀ (cs : List Value) (n : Nat) (ro : Bool) (p : List Value → Nat → Prop),
   (∃ (cs' : List Value) (n' : Nat), some (Sum.inl (Row.mk cs n ro) : Blk) = some (Sum.inl (Row.mk cs' n' ro)) ∧ p cs' n') = p cs n) ∧
  (∀ cs o, lset cs o [] = cs) ∧ (∀ cs o v r, lset cs o (v :: r) = lset (cs.set o v) (o + 1) r) ∧
  (∀ (v w : Value) r, (v :: r).set 0 w = w :: r) ∧ (∀ (v w : Value) r (i : Nat), (v :: r).set (i + 1) w = v :: r.set i w) ∧
  (∀ (v : Value) r, (v :: r).length = r.length + 1) ∧ ([] : List Value).length = 0 :=
 ⟨fun _ _ => rfl, fun _ _ _ => rfl, ex_row, lset_nil, lset_cons, fun _ _ _ => rfl, fun _ _ _ _ => rfl, fun _ _ => rfl, rfl⟩
theorem rd_int {h : Hp} {b z o : Nat} {cs : List Value} {ro : Bool} {x : Int} {P : Int → Prop} (f : h b = some (.inl ⟨cs, z, ro⟩)) (e : cs[o]? = some (I x)) (k : P x) : ∃ y : Int, Hp.cell h b o = some (I y) ∧ P y :=
 ⟨x, by rw [cell_of f]; exact e, k⟩
theorem rd_str {h : Hp} {b z o : Nat} {cs : List Value} {ro : Bool} {x : ByteArray} {P : ByteArray → Prop} (f : h b = some (.inl ⟨cs, z, ro⟩)) (e : cs[o]? = some (.string x)) (k : P x) : ∃ y : ByteArray, Hp.cell h b o = some (.string y) ∧ P y :=
 ⟨x, by rw [cell_of f]; exact e, k⟩
theorem impl_words_spec {h : Hp} {w : Int} {R : Value → Hp → Prop} (k : R (sortV (wordS w)) h) : c_impl_words #[I w] h R := by
 refine ACalls.drop (R_impl_words ?_)
 unfold F_impl_words
 intro b hb
 have l1 := le_row [I 0, I w] 2 hb
 simp only [vm, mm]
 exact ⟨by decide, _, l1, k⟩
theorem l2Word_spec {h : Hp} {w : Int} {R : Value → Hp → Prop} (k : R (sortV (wordS w)) h) : c_spec_l2Word #[I w] h R := by
 refine ACalls.drop (R_spec_l2Word ?_)
 unfold F_spec_l2Word
 intro b hb
 have l1 := le_row [I 0, I w] 2 hb
 simp only [vm, mm]
 exact ⟨by decide, _, l1, k⟩
def partAt (n : NodeP) : Nat → Int
 | 0 => n.a
 | 1 => n.b
 | 2 => n.c
 | _ => 0
theorem fieldsP_eq (len : Nat) (n : NodeP) : fieldsP len n =
  (decide (0 ≤ partsP n.kind) && (partB (partsP n.kind) len 0 (partAt n 0) && partB (partsP n.kind) len 1 (partAt n 1) && partB (partsP n.kind) len 2 (partAt n 2)) &&
   (if namedP n.kind then isNameP n.name else decide (n.name.size = 0)) && (decide (n.kind = 30) || decide (n.m = 0)) &&
   (decide (n.kind = 30 ∨ n.kind = 31 ∨ n.kind = 32 ∨ n.kind = 34) || decide (n.n = 0))) := rfl
theorem fields_no {len : Nat} {n : NodeP} {i : Nat} (hi : i < 3) (e : partB (partsP n.kind) len i (partAt n i) = false) : fieldsP len n = false := by
 rw [fieldsP_eq]
 obtain rfl | rfl | rfl : i = 0 ∨ i = 1 ∨ i = 2 := by omega
 ·rw [show ((0 : Nat) : Int) = 0 from rfl] at e; rw [e]; simp
 ·rw [show ((1 : Nat) : Int) = 1 from rfl] at e; rw [e]; simp
 ·rw [show ((2 : Nat) : Int) = 2 from rfl] at e; rw [e]; simp
theorem fields_rest {len : Nat} {n : NodeP} (hp : 0 ≤ partsP n.kind) (e : ∀ i : Nat, i < 3 → partB (partsP n.kind) len i (partAt n i) = true) : fieldsP len n =
  ((if namedP n.kind then isNameP n.name else decide (n.name.size = 0)) && (decide (n.kind = 30) || decide (n.m = 0)) &&
    (decide (n.kind = 30 ∨ n.kind = 31 ∨ n.kind = 32 ∨ n.kind = 34) || decide (n.n = 0))) := by
 rw [fieldsP_eq, decide_eq_true hp]
 have e0 := e 0 (by omega)
 have e1 := e 1 (by omega)
 have e2 := e 2 (by omega)
 rw [show ((0 : Nat) : Int) = 0 from rfl] at e0
 rw [show ((1 : Nat) : Int) = 1 from rfl] at e1
 rw [show ((2 : Nat) : Int) = 2 from rfl] at e2
 rw [e0, e1, e2]; simp
theorem part_cell {h : Hp} {b z : Nat} {n : NodeP} (f : h b = some (.inl ⟨[I n.a, I n.b, I n.c], z, false⟩)) {i : Nat} (hi : i < 3) : Hp.cell h b i = some (I (partAt n i)) := by
 rw [cell_of f]
 obtain rfl | rfl | rfl : i = 0 ∨ i = 1 ∨ i = 2 := by omega
 all_goals rfl
theorem formed_spec {h : Hp} {n : NodeP} {len : Nat} {R : Value → Hp → Prop} (hlen : len ≤ 4611686018427387904) (hsz : n.name.size ≤ 1048576)
  (k : R (.bool (fieldsP len n)) h) : c_impl_Node_formed #[nodeV n, I len] h R := by
 refine ACalls.drop (R_impl_Node_formed ?_)
 unfold F_impl_Node_formed
 refine alloc_of fun b h1 hb l1 f1 => ?_
 simp only [vm, rd, cell_of f1]
 refine impl_parts_spec ⟨_, rfl, bsplit_of (fun e => ⟨_, l1, b_leaf ?_ k⟩) (fun e => ?_)⟩
 ·rw [fieldsP_eq, decide_eq_false (by simp at e; omega)]; simp
 have hp : 0 ≤ partsP n.kind := by simp at e; omega
 simp only [vm, rd, cell_of f1]
 refine alloc_of fun b2 h2 hb2 l2 f2 => ?_
 have f1' := l2 _ _ f1
 have l12 := Hp.le_trans l1 l2
 refine loop_up 3 (fun i vs h' => (∀ j : Nat, j < i → partB (partsP n.kind) len j (partAt n j) = true) ∧ vs = [I len, .pointer (some ⟨b, 0, none⟩), I (partsP n.kind), .slice (some ⟨b2, 0, none⟩) 3 3, I 3, I i] ∧ h' = h2) ⟨fun j hj => by omega, rfl, rfl⟩ ?_
 rintro i _ h' next hi ⟨hg, rfl, rfl⟩ hn
 refine ⟨_, _, _, _, ⟨_, _, _⟩, _, _, rfl, ?_⟩
 by_cases hlt : i < 3
 ·refine bs_t (by simp; omega) ?_
  simp only [vm, part_cell f2 hlt]
  refine ⟨by omega, ?_⟩
  refine joinP_of (fun J => J (!(partB (partsP n.kind) len i (partAt n i))) h') ?_ (fun J hJ => ?_)
  ·refine bsplit_of (fun e => ⟨_, l12, b_leaf ?_ k⟩) (fun e => ?_)
   ·rw [fields_no hlt (by simpa using e)]
   ·rw [W_succ (by omega)]
    refine hn hlt _ _ ⟨fun j hj => ?_, rfl, rfl⟩
    by_cases hji : j = i
    ·subst hji; simpa using e
    ·exact hg j (by omega)
  ·clear k
   unfold partB at hJ
   rw [W_id (by omega) (by omega)]
   refine bsplit_of (fun e => in_spec ⟨_, rfl, ?_⟩) (fun e => ?_)
   ·rw [if_pos (by simpa using e)] at hJ
    refine bsplit_of (fun e2 => ?_) (fun e2 => bsplit_of (fun e3 => ?_) (fun e3 => ?_))
    ·exact j_leaf (J := fun b => J b h') (by simpa using e2) hJ
    ·simp at e e3; omega
    ·exact j_leaf (J := fun b => J b h') (by simpa using e2) hJ
   ·rw [if_neg (by simpa using e)] at hJ
    refine bsplit_of (fun e2 => ?_) (fun e2 => ?_)
    ·exact j_leaf (J := fun b => J b h') (by rw [Bool.eq_iff_iff]; simp) hJ
    ·simp at e e2; omega
 ·refine bs_f (by simp; omega) ?_
  rw [fields_rest hp (fun j hj => hg j (by omega))] at k
  simp only [vm, rd, cell_of f1', ba_empty]
  refine joinP_of (fun J => J (decide (n.kind = 30 ∨ n.kind = 31 ∨ n.kind = 32 ∨ n.kind = 34))) ?_ (fun J hJ => ?_)
  rotate_left
  ·clear k; repeat' (first | (with_reducible first | refine bs_t (b := true) rfl ?_ | refine bs_f (b := false) rfl ?_ | refine bsplit_of (fun _ => ?_) fun _ => ?_) | (refine j_leaf ?_ hJ))
   all_goals (clear hJ; (exact fin_))
  have hnm : ∀ {R' : Value → Hp → Prop}, R' (.bool (namedP n.kind)) h' → c_impl_named #[I n.kind] h' R' := named_spec
  have hin : ∀ {R' : Value → Hp → Prop}, R' (.bool (isNameP n.name)) h' → c_impl_isName #[.string n.name] h' R' := fun k => impl_isName_spec k (by omega)
  generalize namedP n.kind = g at *
  generalize isNameP n.name = q at *
  repeat' (first | (with_reducible first | refine bs_t (b := true) rfl ?_ | refine bs_f (b := false) rfl ?_ | refine bsplit_of (fun _ => ?_) fun _ => ?_) | (with_reducible refine hnm ⟨_, rfl, ?_⟩) | (with_reducible refine hin ⟨_, rfl, ?_⟩) | (with_reducible refine rd_int f1' rfl ?_) | (with_reducible refine rd_str f1' rfl ?_) | (refine ⟨_, l12, b_leaf ?_ k⟩; clear k hnm hin hn hg f1 f2 f1' l1 l2 l12 hb hb2; first | (simp_all; done) | (cases g <;> cases q <;> simp_all <;> done)))
theorem l2Fields_spec {h : Hp} {n : NodeP} {s : Sl} {R : Value → Hp → Prop} (hlen : s.n ≤ 4611686018427387904)
  (k : R (.bool (fieldsP s.n n)) h) : c_spec_l2Fields #[s.v, nodeV n] h R := by
 refine ACalls.drop (R_spec_l2Fields ?_)
 unfold F_spec_l2Fields
 refine alloc_of fun b h1 hb l1 f1 => ?_
 simp only [vm, rd, cell_of f1]
 refine l2Parts_spec ⟨_, rfl, bsplit_of (fun e => ⟨_, l1, b_leaf ?_ k⟩) (fun e => ?_)⟩
 ·rw [fieldsP_eq, decide_eq_false (by simp at e; omega)]; simp
 have hp : 0 ≤ partsP n.kind := by simp at e; omega
 simp only [vm, rd, cell_of f1]
 refine alloc_of fun b2 h2 hb2 l2 f2 => ?_
 have f1' := l2 _ _ f1
 have l12 := Hp.le_trans l1 l2
 refine loop_up 3 (fun i vs h' => (∀ j : Nat, j < i → partB (partsP n.kind) s.n j (partAt n j) = true) ∧ vs = [s.v, .pointer (some ⟨b, 0, none⟩), I (partsP n.kind), .slice (some ⟨b2, 0, none⟩) 3 3, I i] ∧ h' = h2) ⟨fun j hj => by omega, rfl, rfl⟩ ?_
 rintro i _ h' next hi ⟨hg, rfl, rfl⟩ hn
 refine ⟨_, _, _, _, ⟨_, _, _⟩, _, rfl, ?_⟩
 by_cases hlt : i < 3
 ·refine bs_t (by simp; omega) ?_
  simp only [vm, part_cell f2 hlt]
  refine joinP_of (fun J => J (!(partB (partsP n.kind) s.n i (partAt n i))) h') ?_ (fun J hJ => ?_)
  ·refine bsplit_of (fun e => ⟨_, l12, b_leaf ?_ k⟩) (fun e => ?_)
   ·rw [fields_no hlt (by simpa using e)]
   ·rw [W_succ (by omega)]
    refine hn hlt _ _ ⟨fun j hj => ?_, rfl, rfl⟩
    by_cases hji : j = i
    ·subst hji; simpa using e
    ·exact hg j (by omega)
  ·clear k
   unfold partB at hJ
   rw [W_id (by omega) (by omega)]
   refine bsplit_of (fun e => ⟨by omega, l1In_spec ⟨_, rfl, ?_⟩⟩) (fun e => ?_)
   ·rw [if_pos (by simpa using e)] at hJ
    refine bsplit_of (fun e2 => ?_) (fun e2 => bsplit_of (fun e3 => ?_) (fun e3 => ?_))
    ·exact j_leaf (J := fun b => J b h') (by simpa using e2) hJ
    ·simp at e e3; omega
    ·exact j_leaf (J := fun b => J b h') (by simpa using e2) hJ
   ·rw [if_neg (by simpa using e)] at hJ
    refine bsplit_of (fun e2 => ?_) (fun e2 => ?_)
    ·refine ⟨by omega, ?_⟩
     exact j_leaf (J := fun b => J b h') (by rw [Bool.eq_iff_iff]; simp) hJ
    ·simp at e e2; omega
 ·refine bs_f (by simp; omega) ?_
  rw [fields_rest hp (fun j hj => hg j (by omega))] at k
  simp only [vm, rd, cell_of f1', ba_empty]
  refine joinP_of (fun J => J (namedP n.kind)) ?_ (fun J hJ => ?_)
  rotate_left
  ·clear k; unfold namedP at hJ; repeat' (first | (with_reducible first | refine bs_t (b := true) rfl ?_ | refine bs_f (b := false) rfl ?_ | refine bsplit_of (fun _ => ?_) fun _ => ?_) | (refine j_leaf ?_ hJ))
   all_goals (clear hJ; (exact fin_))
  have hin : ∀ {R' : Value → Hp → Prop}, R' (.bool (isNameP n.name)) h' → c_spec_l2Name #[.string n.name] h' R' := spec_l2Name_spec
  have hno : isNameP n.name = true → ¬ n.name.size = 0 := fun e => by have := (isNameP_iff.1 e).1; omega
  generalize namedP n.kind = g at *
  generalize isNameP n.name = q at *
  simp only [joinP_eq]
  repeat' (first | (with_reducible first | refine bs_t (b := true) rfl ?_ | refine bs_f (b := false) rfl ?_ | refine bsplit_of (fun _ => ?_) fun _ => ?_) | (with_reducible refine hin ⟨_, rfl, ?_⟩) | (with_reducible refine rd_int f1' rfl ?_) | (with_reducible refine rd_str f1' rfl ?_) | (refine ⟨_, l12, b_leaf ?_ k⟩; clear k hin hn hg f1 f2 f1' l1 l2 l12 hb hb2; first | (simp_all; done) | (cases g <;> cases q <;> simp_all <;> done) | (rw [Bool.eq_iff_iff]; cases g <;> cases q <;> simp_all <;> done)))
theorem wr_of {h h0 : Hp} {b z o m : Nat} {cs vs : List Value} {P : Hp → Prop} (f : h b = some (.inl ⟨cs, z, false⟩)) (l : h0.le h) (hb : h0 b = none) (hl : m ≤ cs.length)
  (k : ∀ h', h' b = some (.inl ⟨lset cs o vs, z, false⟩) → (∀ c, c ≠ b → h' c = h c) → h0.le h' → P h') :
  ∃ (cs' : List Value) (z' : Nat), h b = some (.inl ⟨cs', z', false⟩) ∧ m ≤ List.length cs' ∧ setH (h.row b (lset cs' o vs) z') fun h' => P h' :=
 ⟨cs, z, f, hl, k _ (row_self _ _ _ _) (fun c e => row_ne _ _ e) (le_row_of _ _ hb l)⟩
theorem kp_of {h h' : Hp} {b c : Nat} {P : Prop} (kp : ∀ c, c ≠ b → h' c = h c) (e : c ≠ b) (k : P) : h' c = h c ∧ P := ⟨kp c e, k⟩
theorem rd_any {α : Type} {c : α → Value} {h : Hp} {b z o : Nat} {cs : List Value} {ro : Bool} {x : α} {P : α → Prop} (f : h b = some (.inl ⟨cs, z, ro⟩)) (q : cs[o]? = some (c x)) (k : P x) : ∃ y : α, Hp.cell h b o = some (c y) ∧ P y := ⟨x, by rw [cell_of f]; exact q, k⟩
theorem rdx_ {P Q : Prop} (k : Q) (h : Q → P := by (first
 | ((with_reducible apply rd_any); (assumption); (exact rfl))
 | with_reducible exact And.intro (Eq.refl _)
 | with_reducible exact And.intro True.intro
 | ((with_reducible apply kp_of); (assumption); (assumption))
 | fail)) : P := h k
def Res (o : Option SortP) (t : SortP) (c : Bool) : Prop := o = if c then some t else none
theorem sortP_eq (a b : SortP) : (a = b) = (a.idx = b.idx ∧ a.wid = b.wid) := by
 rcases a with ⟨i, w⟩; rcases b with ⟨j, v⟩; simp
theorem res_if {P : Prop} [Decidable P] {t t' : SortP} {q : Bool} (h1 : q = decide P) (h2 : P → t = t') : Res (if P then some t else none) t' q := by
 unfold Res; subst h1
 by_cases h : P
 ·simp [h, h2 h]
 ·simp [h]
theorem ne_of_bne {a b : Int} (e : (a != b) = true) : ¬ a = b := by simpa using e
theorem eq_of_bne {a b : Int} (e : (a != b) = false) : a = b := by simpa using e
theorem resultP_eq (n : NodeP) (a b c : SortP) : resultP n a b c =
 (if n.kind = 33 then (if (a.idx = 0 ∧ a.wid = 1) ∧ b.idx = c.idx ∧ b.wid = c.wid then some b else none) else
 if n.kind = 37 then (if 0 < a.idx ∧ b.idx = 0 ∧ b.wid = a.idx then some ⟨0, a.wid⟩ else none) else
 if n.kind = 38 then (if 0 < a.idx ∧ (b.idx = 0 ∧ b.wid = a.idx) ∧ c.idx = 0 ∧ c.wid = a.wid then some a else none) else
 if n.kind = 21 then (if a.idx = b.idx ∧ a.wid = b.wid then some ⟨0, 1⟩ else none) else
 if 0 < a.idx ∨ (partsP n.kind = 2 ∧ 0 < b.idx) then none else
 if n.kind = 29 then (if a.wid + b.wid ≤ 16 then some ⟨0, a.wid + b.wid⟩ else none) else
 if n.kind = 30 then (if (0 ≤ n.n ∧ n.n ≤ a.wid - 1) ∧ 0 ≤ n.m ∧ n.m ≤ n.n then some ⟨0, n.n - n.m + 1⟩ else none) else
 if n.kind = 31 ∨ n.kind = 32 then (if 0 ≤ n.n ∧ n.n ≤ 16 - a.wid then some ⟨0, a.wid + n.n⟩ else none) else
 if n.kind ≤ 5 then some ⟨0, if n.kind ≤ 2 then a.wid else 1⟩ else
 if a.idx = b.idx ∧ a.wid = b.wid then some ⟨0, if n.kind ≤ 20 then a.wid else 1⟩ else none) := by
 unfold resultP wordS
 simp only [sortP_eq]
def sortOfP (n : NodeP) (a b c : SortP) : Option SortP :=
 if n.kind = 35 ∨ n.kind = 36 then (if sortOkP n.sort then some n.sort else none) else
 if n.kind = 34 then (if decide (n.sort.idx = 0) && wordOkP n.sort.wid n.n then some n.sort else none) else resultP n a b c
theorem sortOf_spec {h : Hp} {n : NodeP} {a b c : SortP} {R : Value → Hp → Prop} (ha : 0 < partsP n.kind → sortOkP a = true) (hb : sortOkP b = true ∨ b = ⟨0, 0⟩) (hc : sortOkP c = true ∨ c = ⟨0, 0⟩) (hp : 0 ≤ partsP n.kind)
  (hb2 : partsP n.kind < 2 → b = ⟨0, 0⟩)
  (k : ∀ t q, Res (sortOfP n a b c) t q → R (.tuple #[sortV t, .bool q]) h) : c_impl_Node_sortOf #[nodeV n, sortV a, sortV b, sortV c] h R := by
 refine ACalls.drop (R_impl_Node_sortOf ?_)
 unfold F_impl_Node_sortOf
 refine alloc_of fun b17 h1 hb17 l1 f17 => ?_
 refine alloc_of fun b19 h2 hb19 l2 f19 => ?_
 refine alloc_of fun b21 h3 hb21 l3 f21 => ?_
 refine alloc_of fun b23 h4 hb23 l4 f23 => ?_
 refine alloc_of fun b25 h5 hb25 l5 f25 => ?_
 replace f17 := l4 _ _ (l3 _ _ (l2 _ _ f17))
 replace f19 := l4 _ _ (l3 _ _ f19)
 replace f21 := l4 _ _ f21
 have n17 := fresh_ne hb25 f17
 have n19 := fresh_ne hb25 f19
 have n21 := fresh_ne hb25 f21
 have n23 := fresh_ne hb25 f23
 replace f17 := l5 _ _ f17
 replace f19 := l5 _ _ f19
 replace f21 := l5 _ _ f21
 replace f23 := l5 _ _ f23
 have l : h.le h5 := Hp.le_trans l1 (Hp.le_trans l2 (Hp.le_trans l3 (Hp.le_trans l4 l5)))
 have b0 : h b25 = none := none_of_le (Hp.le_trans l1 (Hp.le_trans l2 (Hp.le_trans l3 l4))) hb25
 clear hb17 hb19 hb21 hb23 hb25 l1 l2 l3 l4 l5
 have lf : ∀ {h'' : Hp} {t : SortP} {q : Bool}, h.le h'' → Res (sortOfP n a b c) t q → ∃ h' : Hp, h'.le h'' ∧ R (.tuple #[.agg #[I t.idx, I t.wid], .bool q]) h' := fun l e => ⟨_, l, k _ _ e⟩
 clear k
 (refine rdx_ ?_)
 refine joinP_of (fun J => J (decide (n.kind = 35 ∨ n.kind = 36))) ?_ (fun J hJ => ?_)
 rotate_left
 ·repeat' (first | (with_reducible first | refine bs_t (b := true) rfl ?_ | refine bs_f (b := false) rfl ?_ | refine bsplit_of (fun _ => ?_) fun _ => ?_) | (refine j_leaf ?_ hJ))
  all_goals (clear hJ; (exact fin_))
 refine bsplit_of (fun e => ?_) (fun e => ?_)
 ·repeat' (refine rdx_ ?_)
  refine impl_SortOk_spec ⟨_, rfl, ?_⟩
  (refine rdx_ ?_)
  refine wr_of f25 l b0 (by decide) fun h6 f6 kp6 l6 => ?_
  repeat' (refine rdx_ ?_)
  refine lf (t := n.sort) l6 ?_
  unfold Res sortOfP
  rw [if_pos (of_decide_eq_true e)]
 have e35 := of_decide_eq_false e
 refine bsplit_of (fun e => ?_) (fun e => ?_)
 ·have e34 := eq_of e
  simp only [joinP_eq]
  repeat' (refine rdx_ ?_)
  refine bsplit_of (fun e => ?_) (fun e => ?_)
  ·repeat' (refine rdx_ ?_)
   refine impl_WordOk_spec ⟨_, rfl, ?_⟩
   (refine rdx_ ?_)
   refine wr_of f25 l b0 (by decide) fun h6 f6 kp6 l6 => ?_
   repeat' (refine rdx_ ?_)
   refine lf (t := n.sort) l6 ?_
   unfold Res sortOfP
   rw [if_neg e35, if_pos e34, decide_eq_true (eq_of e), Bool.true_and]
  ·(refine rdx_ ?_)
   refine wr_of f25 l b0 (by decide) fun h6 f6 kp6 l6 => ?_
   repeat' (refine rdx_ ?_)
   refine lf (t := n.sort) l6 ?_
   unfold Res sortOfP
   rw [if_neg e35, if_pos e34, decide_eq_false (ne_of e), Bool.false_and]
 have e34 := ne_of e
 have er : sortOfP n a b c = resultP n a b c := by unfold sortOfP; rw [if_neg e35, if_neg e34]
 have hp1 : 0 < partsP n.kind := by
  have : partsP n.kind ≠ 0 := by
   unfold partsP; repeat' split
   all_goals first | omega | decide
  omega
 replace ha := sortOkP_iff.1 (ha hp1)
 have wa1 : W (a.wid - 1) = a.wid - 1 := W_id (by omega) (by omega)
 have wa16 : W (16 - a.wid) = 16 - a.wid := W_id (by omega) (by omega)
 have wab : W (a.wid + b.wid) = a.wid + b.wid := by
  have : -100 ≤ b.wid ∧ b.wid ≤ 16 := by
   rcases hb with h | h
   ·have := sortOkP_iff.1 h; omega
   ·rw [h]; decide
  exact W_id (by omega) (by omega)
 rw [er] at lf
 clear er
 rw [resultP_eq] at lf
 (with_reducible first | refine bs_t (b := true) rfl ?_ | refine bs_f (b := false) rfl ?_ | refine bsplit_of (fun _ => ?_) fun _ => ?_)
 ·rw [if_pos (eq_of (by assumption))] at lf
  simp only [joinP_eq]
  ((repeat' (first | (with_reducible first | refine bs_t (b := true) rfl ?_ | refine bs_f (b := false) rfl ?_ | refine bsplit_of (fun _ => ?_) fun _ => ?_) | (refine rdx_ ?_) | (with_reducible refine impl_words_spec ⟨_, _, rfl, ?_⟩) | (with_reducible refine in_spec ⟨_, rfl, ?_⟩) | ((with_reducible apply wr_of); (assumption); (exact l); (exact b0); (decide); (intro _ _ _ _)) | (refine lf (t := ⟨_, _⟩) (by assumption) ?_; clear lf l b0; ((unfold Res; (try simp only [wordS, sortP_eq, Bool.and_true, Bool.and_eq_false_iff, Bool.or_eq_false_iff] at *); ((try simp only [decide_eq_true_eq, decide_eq_false_iff_not, beq_iff_eq, beq_eq_false_iff_ne, bne_iff_ne, bne_eq_false_iff_eq, ne_eq, Bool.not_eq_true', Bool.not_eq_false', Bool.and_eq_true, Bool.or_eq_true, Bool.true_and, Bool.false_and, Bool.and_true, Bool.and_false, Bool.true_or, Bool.false_or, reduceCtorEq, iff_false, iff_true, false_iff, true_iff, Bool.not_true, Bool.not_false] at *)); (repeat' split) <;> (first | rfl | contradiction | omega | (simp only [Option.some.injEq, SortP.mk.injEq, sortP_eq, Bool.true_eq_false]; omega) | skip)))))))
 rw [if_neg (ne_of (by assumption))] at lf
 (with_reducible first | refine bs_t (b := true) rfl ?_ | refine bs_f (b := false) rfl ?_ | refine bsplit_of (fun _ => ?_) fun _ => ?_)
 ·((repeat' (first | (with_reducible first | refine bs_t (b := true) rfl ?_ | refine bs_f (b := false) rfl ?_ | refine bsplit_of (fun _ => ?_) fun _ => ?_) | (refine rdx_ ?_) | (with_reducible refine impl_words_spec ⟨_, _, rfl, ?_⟩) | (with_reducible refine in_spec ⟨_, rfl, ?_⟩) | ((with_reducible apply wr_of); (assumption); (exact l); (exact b0); (decide); (intro _ _ _ _)) | (refine lf (t := ⟨_, _⟩) (by assumption) ?_; clear lf l b0; ((unfold Res; (try simp only [wordS, sortP_eq, Bool.and_true, Bool.and_eq_false_iff, Bool.or_eq_false_iff] at *); ((try simp only [decide_eq_true_eq, decide_eq_false_iff_not, beq_iff_eq, beq_eq_false_iff_ne, bne_iff_ne, bne_eq_false_iff_eq, ne_eq, Bool.not_eq_true', Bool.not_eq_false', Bool.and_eq_true, Bool.or_eq_true, Bool.true_and, Bool.false_and, Bool.and_true, Bool.and_false, Bool.true_or, Bool.false_or, reduceCtorEq, iff_false, iff_true, false_iff, true_iff, Bool.not_true, Bool.not_false] at *)); (repeat' split) <;> (first | rfl | contradiction | omega | (simp only [Option.some.injEq, SortP.mk.injEq, sortP_eq, Bool.true_eq_false]; omega) | skip)))))))
 have e21 := ne_of (by assumption)
 (with_reducible first | refine bs_t (b := true) rfl ?_ | refine bs_f (b := false) rfl ?_ | refine bsplit_of (fun _ => ?_) fun _ => ?_)
 ·rw [if_pos (eq_of (by assumption))] at lf
  simp only [joinP_eq]
  ((repeat' (first | (with_reducible first | refine bs_t (b := true) rfl ?_ | refine bs_f (b := false) rfl ?_ | refine bsplit_of (fun _ => ?_) fun _ => ?_) | (refine rdx_ ?_) | (with_reducible refine impl_words_spec ⟨_, _, rfl, ?_⟩) | (with_reducible refine in_spec ⟨_, rfl, ?_⟩) | ((with_reducible apply wr_of); (assumption); (exact l); (exact b0); (decide); (intro _ _ _ _)) | (refine lf (t := ⟨_, _⟩) (by assumption) ?_; clear lf l b0; ((unfold Res; (try simp only [wordS, sortP_eq, Bool.and_true, Bool.and_eq_false_iff, Bool.or_eq_false_iff] at *); ((try simp only [decide_eq_true_eq, decide_eq_false_iff_not, beq_iff_eq, beq_eq_false_iff_ne, bne_iff_ne, bne_eq_false_iff_eq, ne_eq, Bool.not_eq_true', Bool.not_eq_false', Bool.and_eq_true, Bool.or_eq_true, Bool.true_and, Bool.false_and, Bool.and_true, Bool.and_false, Bool.true_or, Bool.false_or, reduceCtorEq, iff_false, iff_true, false_iff, true_iff, Bool.not_true, Bool.not_false] at *)); (repeat' split) <;> (first | rfl | contradiction | omega | (simp only [Option.some.injEq, SortP.mk.injEq, sortP_eq, Bool.true_eq_false]; omega) | skip)))))))
 rw [if_neg (ne_of (by assumption))] at lf
 (with_reducible first | refine bs_t (b := true) rfl ?_ | refine bs_f (b := false) rfl ?_ | refine bsplit_of (fun _ => ?_) fun _ => ?_)
 ·rw [if_pos (eq_of (by assumption))] at lf
  simp only [joinP_eq]
  ((repeat' (first | (with_reducible first | refine bs_t (b := true) rfl ?_ | refine bs_f (b := false) rfl ?_ | refine bsplit_of (fun _ => ?_) fun _ => ?_) | (refine rdx_ ?_) | (with_reducible refine impl_words_spec ⟨_, _, rfl, ?_⟩) | (with_reducible refine in_spec ⟨_, rfl, ?_⟩) | ((with_reducible apply wr_of); (assumption); (exact l); (exact b0); (decide); (intro _ _ _ _)) | (refine lf (t := ⟨_, _⟩) (by assumption) ?_; clear lf l b0; ((unfold Res; (try simp only [wordS, sortP_eq, Bool.and_true, Bool.and_eq_false_iff, Bool.or_eq_false_iff] at *); ((try simp only [decide_eq_true_eq, decide_eq_false_iff_not, beq_iff_eq, beq_eq_false_iff_ne, bne_iff_ne, bne_eq_false_iff_eq, ne_eq, Bool.not_eq_true', Bool.not_eq_false', Bool.and_eq_true, Bool.or_eq_true, Bool.true_and, Bool.false_and, Bool.and_true, Bool.and_false, Bool.true_or, Bool.false_or, reduceCtorEq, iff_false, iff_true, false_iff, true_iff, Bool.not_true, Bool.not_false] at *)); (repeat' split) <;> (first | rfl | contradiction | omega | (simp only [Option.some.injEq, SortP.mk.injEq, sortP_eq, Bool.true_eq_false]; omega) | skip)))))))
 rw [if_neg (ne_of (by assumption)), if_neg e21] at lf
 have n33 : ¬ n.kind = 33 := ne_of (by assumption)
 have n37 : ¬ n.kind = 37 := ne_of (by assumption)
 have n38 : ¬ n.kind = 38 := ne_of (by assumption)
 have hbi : 0 ≤ b.idx ∧ b.wid ≤ 16 ∧ 0 ≤ b.wid := by
  rcases hb with h | h
  ·have := sortOkP_iff.1 h; omega
  ·rw [h]; decide
 have p12 : partsP n.kind = 1 ∨ partsP n.kind = 2 := by
  rcases partsP_cases n.kind with h | h | h | h | h
  ·omega
  ·exact .inl h
  ·exact .inr h
  ·exfalso; revert h; unfold partsP; (repeat' split) <;> first | omega | (intro h; omega)
  ·omega
 have hb1 : partsP n.kind = 1 → b.idx = 0 := fun h => by rw [hb2 (by omega)]
 clear hb hc hb2
 refine joinP_of (fun J => J (decide (0 < a.idx ∨ (partsP n.kind = 2 ∧ 0 < b.idx)))) ?_ (fun J hJ => ?_)
 rotate_left
 ·(refine rdx_ ?_)
  (with_reducible first | refine bs_t (b := true) rfl ?_ | refine bs_f (b := false) rfl ?_ | refine bsplit_of (fun _ => ?_) fun _ => ?_)
  ·refine j_leaf ?_ hJ; clear hJ; have := ne_of_bne (by assumption); rw [eq_comm, decide_eq_true_eq]; omega
  (refine rdx_ ?_)
  refine j_leaf ?_ hJ; clear hJ
  have : a.idx = 0 := eq_of_bne (by assumption)
  rw [Bool.eq_iff_iff, bne_iff_ne, decide_eq_true_eq]; omega
 refine bsplit_of (fun e => ?_) (fun e => ?_)
 ·rw [if_pos (of_decide_eq_true e)] at lf
  ((repeat' (first | (with_reducible first | refine bs_t (b := true) rfl ?_ | refine bs_f (b := false) rfl ?_ | refine bsplit_of (fun _ => ?_) fun _ => ?_) | (refine rdx_ ?_) | (with_reducible refine impl_words_spec ⟨_, _, rfl, ?_⟩) | (with_reducible refine in_spec ⟨_, rfl, ?_⟩) | ((with_reducible apply wr_of); (assumption); (exact l); (exact b0); (decide); (intro _ _ _ _)) | (refine lf (t := ⟨_, _⟩) (by assumption) ?_; clear lf l b0; ((unfold Res; (try simp only [wordS, sortP_eq, Bool.and_true, Bool.and_eq_false_iff, Bool.or_eq_false_iff] at *); ((try simp only [decide_eq_true_eq, decide_eq_false_iff_not, beq_iff_eq, beq_eq_false_iff_ne, bne_iff_ne, bne_eq_false_iff_eq, ne_eq, Bool.not_eq_true', Bool.not_eq_false', Bool.and_eq_true, Bool.or_eq_true, Bool.true_and, Bool.false_and, Bool.and_true, Bool.and_false, Bool.true_or, Bool.false_or, reduceCtorEq, iff_false, iff_true, false_iff, true_iff, Bool.not_true, Bool.not_false] at *)); (repeat' split) <;> (first | rfl | contradiction | omega | (simp only [Option.some.injEq, SortP.mk.injEq, sortP_eq, Bool.true_eq_false]; omega) | skip)))))))
 rw [if_neg (of_decide_eq_false e)] at lf
 replace e := of_decide_eq_false e
 refine joinP_of (fun J => J (decide (n.kind = 1 ∨ n.kind = 2))) ?_ (fun J hJ => ?_)
 rotate_left
 ·repeat' (first | (with_reducible first | refine bs_t (b := true) rfl ?_ | refine bs_f (b := false) rfl ?_ | refine bsplit_of (fun _ => ?_) fun _ => ?_) | (refine rdx_ ?_) | (refine j_leaf ?_ hJ))
  all_goals (clear hJ; (exact fin_))
 refine bsplit_of (fun e1 => ?_) (fun e1 => ?_)
 ·replace e1 := of_decide_eq_true e1
  rw [if_neg (by omega), if_neg (by omega), if_neg (by omega), if_pos (by omega), if_pos (by omega)] at lf
  repeat' (refine rdx_ ?_)
  (with_reducible apply wr_of); (assumption); (exact l); (exact b0); (decide); intro _ _ _ _
  repeat' (refine rdx_ ?_)
  refine lf (t := ⟨_, _⟩) (by assumption) ?_
  rw [show a.idx = 0 by omega]; rfl
 replace e1 := of_decide_eq_false e1
 (refine rdx_ ?_)
 refine in_spec ⟨_, rfl, bsplit_of (fun e2 => ?_) (fun e2 => ?_)⟩
 ·replace e2 := of_decide_eq_true e2
  rw [if_neg (by omega), if_neg (by omega), if_neg (by omega), if_pos (by omega), if_neg (by omega)] at lf
  refine impl_words_spec ⟨_, _, rfl, ?_⟩
  (with_reducible apply wr_of); (assumption); (exact l); (exact b0); (decide); intro _ _ _ _
  repeat' (refine rdx_ ?_)
  exact lf (t := ⟨_, _⟩) (by assumption) rfl
 replace e2 := of_decide_eq_false e2
 (refine rdx_ ?_)
 refine bsplit_of (fun e3 => ?_) (fun e3 => ?_)
 ·replace e3 := eq_of e3
  rw [if_neg (by omega), if_pos e3] at lf
  simp only [joinP_eq]
  repeat' (refine rdx_ ?_)
  refine impl_words_spec ⟨_, _, rfl, ?_⟩
  repeat' (refine rdx_ ?_)
  refine in_spec ⟨_, rfl, ?_⟩
  rw [wa1]
  refine bsplit_of (fun e4 => ?_) (fun e4 => ?_)
  ·repeat' (refine rdx_ ?_)
   refine in_spec ⟨_, rfl, ?_⟩
   (with_reducible apply wr_of); (assumption); (exact l); (exact b0); (decide); intro _ _ _ _
   repeat' (refine rdx_ ?_)
   refine lf (t := ⟨_, _⟩) (by assumption) (res_if ?_ ?_)
   ·rw [decide_eq_decide]; exact ⟨fun h => ⟨of_decide_eq_true e4, h⟩, fun h => h.2⟩
   ·intro h
    rw [W_id (n := n.n - n.m) (by omega) (by omega), W_id (by omega) (by omega)]
  ·(with_reducible apply wr_of); (assumption); (exact l); (exact b0); (decide); intro _ _ _ _
   repeat' (refine rdx_ ?_)
   refine lf (t := ⟨_, _⟩) (by assumption) (res_if ?_ ?_)
   ·symm; rw [decide_eq_false_iff_not]; exact fun h => of_decide_eq_false e4 h.1
   ·exact fun h => absurd h.1 (of_decide_eq_false e4)
 replace e3 := ne_of e3
 refine joinP_of (fun J => J (decide (n.kind = 31 ∨ n.kind = 32))) ?_ (fun J hJ => ?_)
 rotate_left
 ·repeat' (first | (with_reducible first | refine bs_t (b := true) rfl ?_ | refine bs_f (b := false) rfl ?_ | refine bsplit_of (fun _ => ?_) fun _ => ?_) | (refine rdx_ ?_) | (refine j_leaf ?_ hJ))
  all_goals (clear hJ; (exact fin_))
 refine bsplit_of (fun e4 => ?_) (fun e4 => ?_)
 ·replace e4 := of_decide_eq_true e4
  rw [if_neg (by omega), if_neg (by omega), if_pos (by omega)] at lf
  repeat' (refine rdx_ ?_)
  refine impl_words_spec ⟨_, _, rfl, ?_⟩
  repeat' (refine rdx_ ?_)
  refine in_spec ⟨_, rfl, ?_⟩
  rw [wa16]
  (with_reducible apply wr_of); (assumption); (exact l); (exact b0); (decide); intro _ _ _ _
  repeat' (refine rdx_ ?_)
  refine lf (t := ⟨_, _⟩) (by assumption) (res_if rfl ?_)
  ·intro h
   show _ = SortP.mk 0 _
   rw [W_id (by omega) (by omega)]
 replace e4 := of_decide_eq_false e4
 (refine rdx_ ?_)
 refine bsplit_of (fun e5 => ?_) (fun e5 => ?_)
 ·replace e5 := eq_of e5
  rw [if_pos e5] at lf
  repeat' (refine rdx_ ?_)
  refine impl_words_spec ⟨_, _, rfl, ?_⟩
  repeat' (refine rdx_ ?_)
  (with_reducible apply wr_of); (assumption); (exact l); (exact b0); (decide); intro _ _ _ _
  repeat' (refine rdx_ ?_)
  refine lf (t := ⟨_, _⟩) (by assumption) (res_if (by rw [wab]) ?_)
  ·intro h
   show _ = SortP.mk 0 _
   rw [wab]
 replace e5 := ne_of e5
 have k5 : ¬ n.kind ≤ 5 := by
  intro h
  have : partsP n.kind = -1 := by unfold partsP; (repeat' split) <;> omega
  omega
 rw [if_neg (by omega), if_neg (by omega), if_neg (by omega), if_neg (by omega)] at lf
 (refine rdx_ ?_)
 refine in_spec ⟨_, rfl, bsplit_of (fun e6 => ?_) (fun e6 => ?_)⟩
 ·replace e6 := of_decide_eq_true e6
  rw [if_neg (show ¬ n.kind ≤ 20 by omega)] at lf
  repeat' (refine rdx_ ?_)
  refine impl_words_spec ⟨_, _, rfl, ?_⟩
  repeat' (refine rdx_ ?_)
  (with_reducible apply wr_of); (assumption); (exact l); (exact b0); (decide); intro _ _ _ _
  repeat' (refine rdx_ ?_)
  refine lf (t := ⟨_, _⟩) (by assumption) (res_if ?_ ?_)
  ·rw [Bool.eq_iff_iff]; simp
  ·intro h; rfl
 replace e6 := of_decide_eq_false e6
 have k20 : n.kind ≤ 20 := by
  by_cases h20 : n.kind ≤ 20
  ·exact h20
  ·have : partsP n.kind = -1 ∨ partsP n.kind = 0 := by unfold partsP; (repeat' split) <;> omega
   omega
 rw [if_pos k20] at lf
 repeat' (refine rdx_ ?_)
 (with_reducible apply wr_of); (assumption); (exact l); (exact b0); (decide); intro _ _ _ _
 repeat' (refine rdx_ ?_)
 refine lf (t := ⟨_, _⟩) (by assumption) (res_if ?_ ?_)
 ·rw [Bool.eq_iff_iff]; simp
 ·intro h; rw [show a.idx = 0 by omega]
end Go.Lead
