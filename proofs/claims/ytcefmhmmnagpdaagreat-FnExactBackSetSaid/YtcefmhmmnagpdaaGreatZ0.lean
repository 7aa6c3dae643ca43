/- What functions of the program and of the reference come to, walked one by one, and plain laws about it: part 1. No condition is added to the statement. -/
import Derived.Test.YtcefmhmmnagpdaaGreatVm15
import Derived.Test.YtcefmhmmnagpdaaGreatFn0
import Derived.Test.YtcefmhmmnagpdaaGreatFn1
import Derived.Test.YtcefmhmmnagpdaaGreatFn2
import Derived.Test.YtcefmhmmnagpdaaGreatFn3
import Derived.Test.YtcefmhmmnagpdaaGreatFn4
import Derived.Test.YtcefmhmmnagpdaaGreatFn5
namespace Go.Lead
open Go
set_option linter.unusedVariables false
set_option linter.unusedSimpArgs false
set_option maxHeartbeats 1000000
structure Nd where
 v : Nat
 lo : Nat
 hi : Nat
 deriving DecidableEq, Repr
def gz (n : Nd) (ns : List Nd) : Nat × List Nd := match ns.idxOf? n with | some i => (i + 2, ns) | none => (ns.length + 2, ns ++ [n])
def mkD : Nat -> (Nat -> Bool) -> Nat -> List Nd -> Nat × List Nd
 | 0, f, _, ns => (if f 0 then 1 else 0, ns)
 | n + 1, f, low, ns =>
  let r1 := mkD n (fun i => f (2 * i)) (low + 1) ns
  let r2 := mkD n (fun i => f (2 * i + 1)) (low + 1) r1.2
  if r1.1 = r2.1 then r2 else gz ⟨low, r1.1, r2.1⟩ r2.2
theorem GX : ∀ (n : Nat) {f g : Nat -> Bool} (low : Nat) (ns : List Nd), (∀ i, i < 2 ^ n -> f i = g i) -> mkD n f low ns = mkD n g low ns := by
 intro n
 induction n with
 | zero => intro f g low ns h; simp only [mkD]; rw [h 0 (by simp)]
 | succ n ih =>
  intro f g low ns h
  have hp : 2 ^ (n + 1) = 2 * 2 ^ n := by rw [Nat.pow_succ]; omega
  have h1 : ∀ ns, mkD n (fun i => f (2 * i)) (low + 1) ns = mkD n (fun i => g (2 * i)) (low + 1) ns := fun ns => ih _ _ fun i hi => h _ (by omega)
  have h2 : ∀ ns, mkD n (fun i => f (2 * i + 1)) (low + 1) ns = mkD n (fun i => g (2 * i + 1)) (low + 1) ns := fun ns => ih _ _ fun i hi => h _ (by omega)
  simp only [mkD, h1, h2]
theorem qT (n : Nd) (ns : List Nd) : ns <+: (gz n ns).2 := by
 unfold gz; split
 ·exact List.prefix_refl _
 ·exact List.prefix_append _ _
theorem Bx : ∀ (n : Nat) (f : Nat -> Bool) (low : Nat) (ns : List Nd), ns <+: (mkD n f low ns).2 := by
 intro n
 induction n with
 | zero => intro f low ns; exact List.prefix_refl _
 | succ n ih =>
  intro f low ns
  have h1 := ih (fun i => f (2 * i)) (low + 1) ns
  have h2 := ih (fun i => f (2 * i + 1)) (low + 1) (mkD n (fun i => f (2 * i)) (low + 1) ns).2
  simp only [mkD]
  split
  ·exact h1.trans h2
  ·exact (h1.trans h2).trans (qT _ _)
theorem L2 {n : Nd} {ns ns2 : List Nd} {i : Nat} (h : ns.idxOf? n = some i) (p : ns <+: ns2) : ns2.idxOf? n = some i := by
 obtain ⟨r, rfl⟩ := p
 simp only [List.idxOf?] at h ⊢
 rw [List.findIdx?_append, h]; rfl
theorem Nq {n : Nd} {ns ns2 : List Nd} (h : ns.idxOf? n = none) (p : ns ++ [n] <+: ns2) : ns2.idxOf? n = some ns.length := by
 obtain ⟨r, rfl⟩ := p
 simp only [List.idxOf?] at h ⊢
 rw [List.append_assoc, List.findIdx?_append, h]
 simp [List.findIdx?_cons]
theorem J0 {n : Nd} {ns ns2 : List Nd} (p : (gz n ns).2 <+: ns2) : gz n ns2 = ((gz n ns).1, ns2) := by
 cases h : ns.idxOf? n with
 | some i =>
  have e : gz n ns = (i + 2, ns) := by simp [gz, h]
  rw [e] at p ⊢
  simp [gz, L2 h p]
 | none =>
  have e : gz n ns = (ns.length + 2, ns ++ [n]) := by simp [gz, h]
  rw [e] at p ⊢
  simp [gz, Nq h p]
theorem t9 : ∀ (n : Nat) (f : Nat -> Bool) (low : Nat) (ns ns2 : List Nd), (mkD n f low ns).2 <+: ns2 -> mkD n f low ns2 = ((mkD n f low ns).1, ns2) := by
 intro n
 induction n with
 | zero => intro f low ns ns2 p; rfl
 | succ n ih =>
  intro f low ns ns2 p
  have p1 : (mkD n (fun i => f (2 * i)) (low + 1) ns).2 <+: ns2 := by
   refine List.IsPrefix.trans ?_ p
   simp only [mkD]
   split
   ·exact Bx _ _ _ _
   ·exact (Bx _ _ _ _).trans (qT _ _)
  have p2 : (mkD n (fun i => f (2 * i + 1)) (low + 1) (mkD n (fun i => f (2 * i)) (low + 1) ns).2).2 <+: ns2 := by
   refine List.IsPrefix.trans ?_ p
   simp only [mkD]
   split
   ·exact List.prefix_refl _
   ·exact qT _ _
  have e1 := ih _ _ _ _ p1
  have e2 := ih _ _ _ _ p2
  simp only [mkD] at p ⊢
  rw [e1]
  simp only
  rw [e2]
  simp only
  split
  ·rfl
  ·rename_i hne
   rw [if_neg hne] at p
   exact J0 p
theorem MV (n : Nd) (ns : List Nd) : (gz n ns).2.length <= ns.length + 1 := by
 unfold gz; split <;> simp
theorem rC : ∀ (n : Nat) (f : Nat -> Bool) (low : Nat) (ns : List Nd), (mkD n f low ns).2.length + 1 <= ns.length + 2 ^ n := by
 intro n
 induction n with
 | zero => intro f low ns; simp [mkD]
 | succ n ih =>
  intro f low ns
  have h1 := ih (fun i => f (2 * i)) (low + 1) ns
  have h2 := ih (fun i => f (2 * i + 1)) (low + 1) (mkD n (fun i => f (2 * i)) (low + 1) ns).2
  have h3 := MV ⟨low, (mkD n (fun i => f (2 * i)) (low + 1) ns).1, (mkD n (fun i => f (2 * i + 1)) (low + 1) (mkD n (fun i => f (2 * i)) (low + 1) ns).2).1⟩ (mkD n (fun i => f (2 * i + 1)) (low + 1) (mkD n (fun i => f (2 * i)) (low + 1) ns).2).2
  have hp : 2 ^ (n + 1) = 2 * 2 ^ n := by rw [Nat.pow_succ]; omega
  simp only [mkD]
  split <;> omega
inductive Ev (ns : List Nd) : Nat -> Nat -> Bool -> Prop
 | no (c : Nat) : Ev ns 0 c false
 | yes (c : Nat) : Ev ns 1 c true
 | node {p c : Nat} {n : Nd} {b : Bool} : ns[p]? = some n -> Ev ns (if c.testBit n.v then n.hi else n.lo) c b -> Ev ns (p + 2) c b
theorem Ev.pre {ns ns2 : List Nd} (l : ns <+: ns2) {p c : Nat} {b : Bool} (e : Ev ns p c b) : Ev ns2 p c b := by
 induction e with
 | no => exact .no _
 | yes => exact .yes _
 | node h _ ih =>
  obtain ⟨r, rfl⟩ := l
  exact .node (by rw [List.getElem?_append_left (List.getElem?_eq_some_iff.1 h).1]; exact h) ih
theorem Ev.det {ns : List Nd} {p c : Nat} {b b' : Bool} (e : Ev ns p c b) (e' : Ev ns p c b') : b = b' := by
 induction e with
 | no => cases e'; rfl
 | yes => cases e'; rfl
 | node h _ ih =>
  cases e' with
  | node h' e2 =>
   rw [h] at h'; cases h'
   exact ih e2
theorem Mw (n : Nd) (ns : List Nd) : ∃ p, (gz n ns).1 = p + 2 /\ (gz n ns).2[p]? = some n := by
 unfold gz
 cases h : ns.idxOf? n with
 | some i =>
  refine ⟨i, rfl, ?_⟩
  simp only [List.idxOf?] at h
  obtain ⟨hi, he, _⟩ := List.findIdx?_eq_some_iff_getElem.1 h
  simp only [beq_iff_eq] at he
  simp [hi, he]
 | none => exact ⟨ns.length, rfl, by simp⟩
theorem MO (c low n : Nat) : (c / 2 ^ low) % 2 ^ (n + 1) = 2 * ((c / 2 ^ (low + 1)) % 2 ^ n) + (if c.testBit low then 1 else 0) := by
 have h1 : c / 2 ^ (low + 1) = c / 2 ^ low / 2 := by rw [Nat.pow_succ, Nat.div_div_eq_div_mul]
 have h2 : (if c.testBit low then 1 else 0) = (c / 2 ^ low) % 2 := by
  rw [Nat.testBit_eq_decide_div_mod_eq]
  rcases Nat.mod_two_eq_zero_or_one (c / 2 ^ low) with h | h <;> simp [h]
 rw [h1, h2]
 generalize c / 2 ^ low = x
 rw [Nat.pow_succ, Nat.mul_comm (2 ^ n) 2, Nat.mod_mul]
 omega
theorem Px : ∀ (n : Nat) (f : Nat -> Bool) (low : Nat) (ns : List Nd) (c : Nat), Ev (mkD n f low ns).2 (mkD n f low ns).1 c (f ((c / 2 ^ low) % 2 ^ n)) := by
 intro n
 induction n with
 | zero =>
  intro f low ns c
  simp only [mkD, Nat.pow_zero, Nat.mod_one]
  cases f 0
  ·exact .no _
  ·exact .yes _
 | succ n ih =>
  intro f low ns c
  have e1 := ih (fun i => f (2 * i)) (low + 1) ns c
  have e2 := ih (fun i => f (2 * i + 1)) (low + 1) (mkD n (fun i => f (2 * i)) (low + 1) ns).2 c
  have l2 := Bx n (fun i => f (2 * i + 1)) (low + 1) (mkD n (fun i => f (2 * i)) (low + 1) ns).2
  have e1' := e1.pre l2
  rw [MO]
  simp only [mkD]
  split
  ·rename_i he
   rw [he] at e1'
   have hd := e1'.det e2
   cases hb : c.testBit low
   ·simp only [Bool.false_eq_true, if_false, Nat.add_zero]; rw [hd]; exact e2
   ·simpa using e2
  ·obtain ⟨p, hp, hg⟩ := Mw ⟨low, (mkD n (fun i => f (2 * i)) (low + 1) ns).1, (mkD n (fun i => f (2 * i + 1)) (low + 1) (mkD n (fun i => f (2 * i)) (low + 1) ns).2).1⟩
    (mkD n (fun i => f (2 * i + 1)) (low + 1) (mkD n (fun i => f (2 * i)) (low + 1) ns).2).2
   rw [hp]
   refine .node hg ?_
   cases hb : c.testBit low
   ·simp only [Bool.false_eq_true, if_false, Nat.add_zero]; exact e1'.pre (qT _ _)
   ·simp only [if_true]; exact e2.pre (qT _ _)
theorem P2 {n low : Nat} {f g : Nat -> Bool} {ns : List Nd} :
  (mkD n f low ns).1 = (mkD n g low (mkD n f low ns).2).1 ↔ ∀ i, i < 2 ^ n -> f i = g i := by
 constructor
 ·intro he i hi
  have e1 := (Px n f low ns (i * 2 ^ low)).pre (Bx n g low (mkD n f low ns).2)
  have e2 := Px n g low (mkD n f low ns).2 (i * 2 ^ low)
  rw [he] at e1
  have := e1.det e2
  rwa [Nat.mul_div_cancel _ (Nat.pow_pos (by omega)), Nat.mod_eq_of_lt hi] at this
 ·intro h
  rw [<- GX n low _ h, t9 n f low ns _ (List.prefix_refl _)]
theorem Mm {n low : Nat} {f g : Nat -> Bool} {ns : List Nd} (h : ∀ i, i < 2 ^ n -> f i = g i) : mkD n g low (mkD n f low ns).2 = mkD n f low ns := by
 rw [<- GX n low _ h, t9 n f low ns _ (List.prefix_refl _)]
def fh (set : List Int) : List Int -> Int -> Int × Bool
 | [], left => (left, left == 0)
 | x :: r, left =>
  if set.contains x then (0, false) else
  if set.contains (-x) then fh set r left else
  if left != 0 && left != x then (0, false) else fh set r x
def jU : List (List Int) -> List Int -> Bool -> Option (List Int × Bool)
 | [], set, more => some (set, more)
 | l :: r, set, more => if (fh set l 0).2 then none else if (fh set l 0).1 != 0 then jU r (set ++ [(fh set l 0).1]) true else jU r set more
def iR (cls : List (List Int)) (set : List Int) : Option (List Int) :=
 match jU cls set false with
 | none => none
 | some (set', more) => if more then (if h : set.length < set'.length /\ set'.length <= 20 then iR cls set' else none) else some set'
termination_by 20 - set.length
decreasing_by omega
def pv : List Int -> List Int -> Option (List Int)
 | [], set => some set
 | x :: r, set => if set.contains (-x) then none else pv r (if set.contains x then set else set ++ [x])
def hE (cls : List (List Int)) (given : List Int) : Option (List Int) := (pv given []).bind (iR cls)
structure ny (v : Int) (set : List Int) : Prop where
 lit : ∀ x ∈ set, x ≠ 0 /\ -v <= x /\ x <= v
 nodup : set.Nodup
 cons : ∀ x ∈ set, -x ∉ set
theorem Fo (v : Int) : ny v [] := ⟨by simp, List.nodup_nil, by simp⟩
theorem ny.add {v : Int} {set : List Int} (k : ny v set) {x : Int} (hx : x ≠ 0 /\ -v <= x /\ x <= v) (h1 : x ∉ set) (h2 : -x ∉ set) : ny v (set ++ [x]) := by
 refine ⟨?_, ?_, ?_⟩
 ·intro y hy
  rcases List.mem_append.1 hy with h | h
  ·exact k.lit y h
  ·simp only [List.mem_singleton] at h; subst h; exact hx
 ·rw [List.nodup_append]
  refine ⟨k.nodup, by simp, ?_⟩
  intro a ha b hb
  simp only [List.mem_singleton] at hb; subst hb
  intro e; subst e; exact h1 ha
 ·intro y hy hn
  rcases List.mem_append.1 hy with h | h <;> rcases List.mem_append.1 hn with h' | h'
  ·exact k.cons y h h'
  ·simp only [List.mem_singleton] at h'; exact h2 (by rw [<- h', Int.neg_neg]; exact h)
  ·simp only [List.mem_singleton] at h; subst h; exact h2 h'
  ·simp only [List.mem_singleton] at h h'; subst h; omega
theorem AR : ∀ (n : Nat) (l : List Int) (a : Int), l.Nodup -> (∀ x ∈ l, a <= x /\ x < a + n) -> l.length <= n := by
 intro n
 induction n with
 | zero =>
  intro l a _ h
  cases l with
  | nil => simp
  | cons x r => have := h x (by simp); omega
 | succ n ih =>
  intro l a hd h
  by_cases hm : (a + n) ∈ l
  ·have h1 := ih (l.erase (a + n)) a (hd.erase _) (fun x hx => by
    have hx' := List.mem_of_mem_erase hx
    have := h x hx'
    have hne : x ≠ a + n := fun e => by
     subst e
     exact (List.Nodup.not_mem_erase hd) hx
    omega)
   rw [List.length_erase_of_mem hm] at h1
   omega
  ·have := ih l a hd (fun x hx => by
    have h1 := h x hx
    have hne : x ≠ a + n := fun e => hm (e ▸ hx)
    omega)
   omega
theorem ny.len {v : Int} {set : List Int} (k : ny v set) (hv : v <= 10) (hv0 : 0 <= v) : set.length <= 20 := by
 have h0 : (0 : Int) ∉ set := fun h => (k.lit 0 h).1 rfl
 have h1 := AR 21 (0 :: set) (-10) (List.nodup_cons.2 ⟨h0, k.nodup⟩) (fun x hx => by
  rcases List.mem_cons.1 hx with rfl | hx
  ·omega
  ·have := k.lit x hx; omega)
 simp only [List.length_cons] at h1
 omega
theorem MK {set : List Int} (hcons : ∀ x ∈ set, -x ∉ set) (h0 : (0 : Int) ∉ set) {l : List Int} (hl : ∀ x ∈ l, x ≠ 0) (hne : (fh set l 0).1 ≠ 0) :
  (fh set l 0).1 ∈ l /\ (fh set l 0).1 ∉ set /\ -(fh set l 0).1 ∉ set := by
 have key : ∀ (l : List Int) (o : Int), (∀ x ∈ l, x ≠ 0) -> (o = 0 \/ (o ∉ set /\ -o ∉ set)) -> (fh set l o).1 ≠ 0 ->
   ((fh set l o).1 ∈ l \/ (fh set l o).1 = o) /\ (fh set l o).1 ∉ set /\ -(fh set l o).1 ∉ set := by
  intro l
  induction l with
  | nil =>
   intro o _ ho hne
   simp only [fh] at hne ⊢
   rcases ho with h | h
   ·exact absurd h hne
   ·exact ⟨by simp, h⟩
  | cons x r ih =>
   intro o hx ho hne
   have hr := fun y hy => hx y (List.mem_cons_of_mem _ hy)
   simp only [fh] at hne ⊢
   split at hne
   ·exact absurd rfl hne
   ·rename_i h1
    rw [if_neg h1]
    split at hne
    ·rename_i h2
     rw [if_pos h2]
     have := ih o hr ho hne
     exact ⟨this.1.imp (List.mem_cons_of_mem _) id, this.2⟩
    ·rename_i h2
     rw [if_neg h2]
     split at hne
     ·exact absurd rfl hne
     ·rename_i h3
      rw [if_neg h3]
      have := ih x hr (.inr ⟨by simpa using h1, by simpa using h2⟩) hne
      refine ⟨.inl ?_, this.2⟩
      rcases this.1 with h | h
      ·exact List.mem_cons_of_mem _ h
      ·rw [h]; simp
 have := key l 0 hl (.inl rfl) hne
 refine ⟨?_, this.2⟩
 rcases this.1 with h | h
 ·exact h
 ·exact absurd h hne
theorem mJ {v : Int} : ∀ (cls : List (List Int)) (set : List Int) (more : Bool), ny v set -> (∀ l ∈ cls, ∀ x ∈ l, x ≠ 0 /\ -v <= x /\ x <= v) ->
  ∀ set' more', jU cls set more = some (set', more') -> ny v set' /\ set.length <= set'.length /\ (more' = true -> more = true \/ set.length < set'.length) := by
 intro cls
 induction cls with
 | nil => intro set more k _ set' more' h; simp only [jU, Option.some.injEq, Prod.mk.injEq] at h; obtain ⟨rfl, rfl⟩ := h; exact ⟨k, by omega, .inl⟩
 | cons l r ih =>
  intro set more k hc set' more' h
  have h0 : (0 : Int) ∉ set := fun h => (k.lit 0 h).1 rfl
  simp only [jU] at h
  split at h
  ·cases h
  ·split at h
   ·rename_i hne
    have hne' : (fh set l 0).1 ≠ 0 := by simpa using hne
    have hl := hc l (by simp)
    have hn := MK k.cons h0 (fun x hx => (hl x hx).1) hne'
    have := ih (set ++ [(fh set l 0).1]) true (k.add (hl _ hn.1) hn.2.1 hn.2.2) (fun l' h' => hc l' (by simp [h'])) _ _ h
    simp only [List.length_append, List.length_cons, List.length_nil] at this
    exact ⟨this.1, by omega, fun _ => .inr (by omega)⟩
   ·exact ih set more k (fun l' h' => hc l' (by simp [h'])) _ _ h
theorem xB {v : Int} : ∀ (g : List Int) (set : List Int), ny v set -> (∀ x ∈ g, x ≠ 0 /\ -v <= x /\ x <= v) -> ∀ set', pv g set = some set' -> ny v set' := by
 intro g
 induction g with
 | nil => intro set k _ set' h; simp only [pv, Option.some.injEq] at h; subst h; exact k
 | cons x r ih =>
  intro set k hg set' h
  simp only [pv] at h
  split at h
  ·cases h
  ·rename_i h1
   refine ih _ ?_ (fun y hy => hg y (by simp [hy])) _ h
   split
   ·exact k
   ·rename_i h2
    exact k.add (hg x (by simp)) (by simpa using h2) (by simpa using h1)
theorem Iv {α : Type} {xs : List α} {p : α -> Bool} {i : Nat} (hi : i < xs.length) : (xs.take (i + 1)).any p = ((xs.take i).any p || p xs[i]) := by
 rw [List.take_succ_eq_append_getElem hi, List.any_append]; simp
theorem pP {h : Hp} {s t : Sl} {xs ys : List Int} {R : Value -> Hp -> Prop} (hs : IntS h s xs) (ht : IntS h t ys)
  (k : R (.bool (decide (xs = ys))) h) : iB #[s.v, t.v] h R := by
 apply El
 refine uf_ ?_
 have ls := hs.len
 have lt := ht.len
 by_cases hl : xs.length = ys.length
 ·refine ak (by simp [ls, lt, hl]) ?_
  refine aq xs.length (fun i vs h' => vs = [s.v, t.v, I i] /\ h' = h /\ xs.take i = ys.take i) ⟨rfl, rfl, by simp⟩ ?_
  rintro i _ _ next hi ⟨rfl, rfl, hp⟩ hn
  refine ⟨_, _, _, rfl, ?_⟩
  by_cases hlt : i < xs.length
  ·obtain ⟨b, o, ha, hc⟩ := hs.at hlt
   have hi' : i < ys.length := by omega
   obtain ⟨b', o', ha', hc'⟩ := ht.at hi'
   have hb := hs.bound
   refine aH (by simp [ls, hlt]) ?_
   simp only [vm, ls, lt, ha, ha', hc, hc', az (n := i) (by omega)]
   refine ⟨by omega, by omega, ad (fun he => ?_) (fun he => ?_)⟩
   ·rwa [decide_eq_false (fun e => by subst e; simp at he)] at k
   ·exact hn hlt _ _ ⟨rfl, rfl, uq hlt hi' hp (by simpa using he)⟩
  ·have : i = xs.length := by omega
   subst this
   refine ak (by simp [ls]) ?_
   rw [List.take_length, hl, List.take_length] at hp
   rwa [decide_eq_true hp] at k
 ·refine aH (by simp [ls, lt]; omega) ?_
  rwa [decide_eq_false (fun e => hl (by rw [e]))] at k
theorem z6 {h : Hp} {s : Sl} {xs : List Int} {left : Int} {R : Value -> Hp -> Prop} (hs : IntS h s xs) (h0 : 0 <= left) (h1 : left <= 1048576)
  (k : ∀ r : Int, (r < 0 \/ 0 <= r /\ r + xs.length = left) -> R (I r) h) : mz #[s.v, I left] h R := by
 apply EL
 refine uf_ ?_
 have hb := hs.bound
 rw [hs.len, cc (by omega) (by omega)]
 exact ad (fun e => k _ (by simp)) (fun e => k _ (by simp at e; omega))
structure BL (h : Hp) (t : Sl) (ts : List Sl) (xss : List (List Int)) : Prop where
 len : ts.length = xss.length
 outer : SlC (h.wo (ts.flatMap Sl.used)) t 1 (ts.map Sl.v)
 inner : ∀ (i : Nat) (h1 : i < ts.length) (h2 : i < xss.length), Own h ts[i] 1 (xss[i].map I)
theorem BL.ints {h : Hp} {t : Sl} {ts : List Sl} {xss : List (List Int)} (e : BL h t ts xss) : IntSS h t xss :=
 ⟨ts, e.len, e.outer.mono (mS _ _), fun i h1 h2 => (e.inner i h1 h2).slc⟩
theorem BL.mono {h h' : Hp} {t : Sl} {ts : List Sl} {xss : List (List Int)} (l : h.le h') (e : BL h t ts xss) : BL h' t ts xss :=
 ⟨e.len, e.outer.mono (nk (Hp.le_trans (mS _ _) l) fun b hb => dJ hb), fun i h1 h2 => (e.inner i h1 h2).mono l⟩
theorem BL.used {h : Hp} {t : Sl} {ts : List Sl} {xss : List (List Int)} (e : BL h t ts xss) : ∀ b ∈ ts.flatMap Sl.used, h b ≠ none := by
 intro b hb
 obtain ⟨u, hu, hbu⟩ := List.mem_flatMap.1 hb
 obtain ⟨i, hi, rfl⟩ := List.getElem_of_mem hu
 exact (e.inner i hi (by rw [<- e.len]; exact hi)).used b hbu
theorem fZ {h : Hp} {x a b : Int} {R : Value -> Hp -> Prop} (k : R (.bool (decide (a <= x /\ x <= b))) h) : dy #[I x, I a, I b] h R := by
 apply Io
 refine uf_ ?_
 refine ad (fun e => ?_) (fun e => ?_)
 ·simp at e; simpa [e] using k
 ·simp at e; rwa [decide_eq_false (by omega)] at k
theorem fq {h : Hp} {x a b : Int} {R : Value -> Hp -> Prop} (k : R (.bool (decide (a <= x /\ x <= b))) h) : dH #[I x, I a, I b] h R := by
 apply Mz
 refine uf_ ?_
 refine ad (fun e => ?_) (fun e => ?_)
 ·simp at e; simpa [e] using k
 ·simp at e; rwa [decide_eq_false (by omega)] at k
def CQ (vars n : Int) : Bool := decide (n ≠ 0 /\ -vars <= n /\ n <= vars)
def eQ (vars : Int) (l : List Int) : Bool := decide (l.length <= 10) && l.all (CQ vars)
def dB (vars : Int) (c : List (List Int)) : Bool := decide (1 <= vars /\ vars <= 10) && (decide (c.length <= 60) && c.all (eQ vars))
def Dm {α : Type} (p : α -> Bool) (xs : List α) : Int := match xs.findIdx? p with | some i => i | none => -1
theorem uo {α : Type} {p : α -> Bool} {xs : List α} (e : xs.any p = false) : Dm p xs = -1 := by
 have : xs.findIdx? p = none := by
  rw [List.findIdx?_eq_none_iff]; intro x hx; rw [List.any_eq_false] at e; simpa using e x hx
 simp [Dm, this]
theorem yX {α : Type} {p : α -> Bool} {xs : List α} {i : Nat} (hi : i < xs.length) (e : (xs.take i).any p = false) (hp : p xs[i] = true) : Dm p xs = i := by
 have : xs.findIdx? p = some i := by
  rw [List.findIdx?_eq_some_iff_getElem]
  refine ⟨hi, hp, fun j hj => ?_⟩
  rw [List.any_eq_false] at e
  exact e _ (by rw [List.mem_take_iff_getElem]; exact ⟨j, by omega, rfl⟩)
 simp [Dm, this]
theorem GI {α : Type} (p : α -> Bool) (xs : List α) : decide (Dm p xs >= 0) = xs.any p := by
 cases h : xs.any p with
 | false => rw [uo h]; rfl
 | true =>
  unfold Dm
  cases h' : xs.findIdx? p with
  | some i => simp
  | none => rw [List.findIdx?_eq_none_iff] at h'; rw [List.any_eq_true] at h; obtain ⟨x, hx, hp⟩ := h; simp [h' x hx] at hp
theorem pc {h : Hp} {s : Sl} {xs : List Int} {f : FuncId} {u w : Array Value} (p : Int -> Bool) {R : Value -> Hp -> Prop} (hs : IntS h s xs)
  (hf : ∀ x ∈ xs, ∀ R : Value -> Hp -> Prop, R (.bool (p x)) h -> ACalls PR f ((u ++ #[I x]) ++ w) h R)
  (k : R (I (Dm p xs)) h) : ef #[s.v, .func (.func f) u w] h R := by
 apply nQ
 refine uf_ ?_
 have hb := hs.bound
 refine aq xs.length (fun i vs h' => vs = [s.v, .func (.func f) u w, I xs.length, I i] /\ h' = h /\ (xs.take i).any p = false) ⟨by rw [hs.len]; rfl, rfl, by simp⟩ ?_
 rintro i _ _ next hi ⟨rfl, rfl, hp⟩ hn
 refine ⟨_, _, _, _, _, _, rfl, ?_⟩
 by_cases hlt : i < xs.length
 ·obtain ⟨b, o, ha, hc⟩ := hs.at hlt
  refine aH (by simp [hlt]) ?_
  simp only [vm, hs.len, ha, hc, az (n := i) (by omega)]
  refine ⟨by omega, hf _ (List.getElem_mem hlt) _ ⟨_, rfl, ad (fun he => ?_) (fun he => ?_)⟩⟩
  ·rwa [yX hlt hp he] at k
  ·exact hn hlt _ _ ⟨rfl, rfl, by rw [Iv hlt, hp, he]; rfl⟩
 ·have : i = xs.length := by omega
  subst this
  rw [List.take_length] at hp
  refine ak (by simp) ?_
  rwa [uo hp] at k
theorem lw {h : Hp} {s : Sl} {xs : List Int} {f : FuncId} {u w : Array Value} (p : Int -> Bool) {R : Value -> Hp -> Prop} (hs : IntS h s xs)
  (hf : ∀ x ∈ xs, ∀ R : Value -> Hp -> Prop, R (.bool (p x)) h -> ACalls PR f ((u ++ #[I x]) ++ w) h R)
  (k : R (.bool (xs.any p)) h) : dG #[s.v, .func (.func f) u w] h R := by
 apply lZ
 refine uf_ ?_
 exact pc p hs hf ⟨_, rfl, by rwa [GI]⟩
def np (h : Hp) (s : Sl) (xs : List Bool) : Prop := SlC h s 1 (xs.map Value.bool)
theorem np.mono {h h' : Hp} {s : Sl} {xs : List Bool} (l : h.le h') (e : np h s xs) : np h' s xs := SlC.mono l e
theorem np.len {h : Hp} {s : Sl} {xs : List Bool} (e : np h s xs) : s.n = xs.length := by have := e.2.1; simp at this; omega
theorem np.bound {h : Hp} {s : Sl} {xs : List Bool} (e : np h s xs) : xs.length <= 9223372036854775807 := by rw [<- e.len]; exact e.1
theorem np.at {h : Hp} {s : Sl} {xs : List Bool} (e : np h s xs) {i : Nat} (hi : i < xs.length) :
  ∃ b o, s.a = some (Addr.mk b o none) /\ Hp.cell h b (o + i) = some (.bool xs[i]) := by
 have hl := e.len
 obtain ⟨b, o, ha, hc⟩ := SlC.get e (by omega)
 exact ⟨b, o, ha, hc i _ (by simp [hi])⟩
theorem ib {h : Hp} {c n : Nat} {R : Value -> Hp -> Prop} (hn : n <= 64) (k : R (I (if c.testBit n then 1 else 0)) h) : dE #[I c, I n] h R := by
 apply Gp
 refine uf_ ?_
 rw [dl (by omega), if_neg (by omega), jh hn, DT, S9]
 split <;> simp_all
theorem CQ.iff {v n : Int} : CQ v n = true ↔ n ≠ 0 /\ -v <= n /\ n <= v := by simp [CQ]
theorem eQ.lit {v : Int} {l : List Int} (e : eQ v l = true) {n : Int} (hn : n ∈ l) : CQ v n = true := by
 simp only [eQ, Bool.and_eq_true, List.all_eq_true] at e; exact e.2 n hn
theorem eQ.len {v : Int} {l : List Int} (e : eQ v l = true) : l.length <= 10 := by
 simp only [eQ, Bool.and_eq_true, decide_eq_true_eq] at e; exact e.1
theorem dB.iff {v : Int} {c : List (List Int)} : dB v c = true ↔ (1 <= v /\ v <= 10) /\ c.length <= 60 /\ ∀ l ∈ c, eQ v l = true := by
 simp [dB, List.all_eq_true]
def bK (k : Int) (n : Nat) : List Value := (List.range n).map fun (i : Nat) => I (k + (i : Int))
theorem Mx (xs : List Int) : (xs.map I).all (·.oneCell') = true := by
 rw [List.all_eq_true]
 intro v hv
 obtain ⟨x, _, rfl⟩ := List.mem_map.1 hv
 rfl
theorem IntS.slc {h : Hp} {s : Sl} {xs : List Int} (e : IntS h s xs) : SlC h s 1 (xs.map I) := e
theorem kG {h : Hp} {s : Sl} {xs : List Int} {R : Value -> Hp -> Prop} (hs : IntS h s xs) (hl : xs.length <= 1048576)
  (k : ∀ t h', h.le h' -> Buf (h'.sub h) t 1 (xs.map I) -> R (Sl.v t) h') : fC #[s.v] h R := by
 apply y7
 refine uf_ ?_
 have := hs.len
 exact Fq hs (by omega) (Mx _) fun t h' hn hle hb => k t h' hle hb
theorem Tb (a b c a' b' c' : Int) : aeq PR 3 gR (.agg #[I a, I b, I c]) (.agg #[I a', I b', I c']) = some (a == a' && (b == b' && (c == c' && true))) := by kernel_rfl
theorem HU (l : List UInt8) : ∀ (k i : Nat) (r : List UInt8), i + k = l.length -> ByteArray.toList.loop ⟨l.toArray⟩ i r = r.reverse ++ l.drop i := by
 intro k
 induction k with
 | zero =>
  intro i r hi
  unfold ByteArray.toList.loop
  rw [if_neg (by simp [ByteArray.size]; omega), List.drop_eq_nil_of_le (by omega), List.append_nil]
 | succ k ih =>
  intro i r hi
  unfold ByteArray.toList.loop
  rw [if_pos (by simp [ByteArray.size]; omega), ih (i + 1) _ (by omega), List.drop_eq_getElem_cons (i := i) (by omega)]
  simp [ByteArray.get!, show i < l.length by omega]
theorem jw (l : List UInt8) : (⟨l.toArray⟩ : ByteArray).toList = l := by
 unfold ByteArray.toList
 rw [HU l l.length 0 [] (by omega)]; rfl
def dc (n : Nat) (f : Nat -> Bool) : List Value := (List.range (2 ^ n)).map fun i => Value.int .u8 (if f i then 1 else 0)
def cD (n : Nat) (f : Nat -> Bool) : List UInt8 := (List.range (2 ^ n)).map fun i => if f i then 1 else 0
theorem EB (n : Nat) (f : Nat -> Bool) : eF (cD n f) = dc n f := by
 unfold eF cD dc
 rw [List.map_map]
 apply List.map_congr_left
 intro i _
 simp only [Function.comp]
 cases f i <;> rfl
def vM (h : Hp) (t : Sl) (n : Nat) (f : Nat -> Bool) : Prop := SlC h t 1 (dc n f)
theorem vM.mono {h h' : Hp} {t : Sl} {n : Nat} {f : Nat -> Bool} (l : h.le h') (e : vM h t n f) : vM h' t n f := SlC.mono l e
theorem vM.len {h : Hp} {t : Sl} {n : Nat} {f : Nat -> Bool} (e : vM h t n f) : t.n = 2 ^ n := by have := e.2.1; simp [dc] at this; omega
theorem vM.at {h : Hp} {t : Sl} {n : Nat} {f : Nat -> Bool} (e : vM h t n f) {i : Nat} (hi : i < 2 ^ n) :
  ∃ b o, t.a = some (Addr.mk b o none) /\ Hp.cell h b (o + i) = some (.int .u8 (if f i then 1 else 0)) := by
 have hl := e.len
 obtain ⟨b, o, ha, hc⟩ := SlC.get e (by omega)
 exact ⟨b, o, ha, hc i _ (by simp [dc, hi])⟩
theorem vM.all {h : Hp} {t : Sl} {n : Nat} {f : Nat -> Bool} (e : vM h t n f) : mv h t.a t.n (eF (cD n f)) := by
 rw [EB]
 exact ⟨by rw [e.2.1, Nat.mul_one], e.2.2⟩
theorem pU (n : Nat) (f : Nat -> Bool) : (dc n f).length = 2 ^ n := by simp [dc]
theorem tq {h : Hp} {c : Bool} {R : Value -> Hp -> Prop} (k : R (I (if c then 1 else 0)) h) : j7 #[.bool c] h R := by
 apply JV
 refine uf_ ?_
 cases c <;> exact k
def y9 (h : Hp) (fid : FuncId) (u w : Array Value) (n : Nat) (f : Nat -> Bool) : Prop :=
 ∀ (i : Nat), i < n -> ∀ (h' : Hp), h.le h' -> ∀ R : Value -> Hp -> Prop, R (.bool (f i)) h' -> ACalls PR fid ((u ++ #[I i]) ++ w) h' R
theorem qA {h : Hp} {n : Nat} {fid : FuncId} {u w : Array Value} {f : Nat -> Bool} {R : Value -> Hp -> Prop} (hn : n <= 13) (hf : y9 h fid u w (2 ^ n) f)
  (k : ∀ t h', h.le h' -> vM (h'.sub h) t n f -> R (Sl.v t) h') : im #[I n, .func (.func fid) u w] h R := by
 apply Al
 refine uf_ ?_
 have h2 : 2 ^ n <= 8192 := by
  have := Nat.pow_le_pow_right (n := 2) (by omega) hn
  simpa using this
 rw [if_neg (by omega), cu (by omega)]
 simp only [vm, bM]
 refine ⟨by omega, by omega, by omega, fun b hb => un fun h1 e1 => ?_⟩
 refine aq (2 ^ n) (fun i vs h' => vs = [.func (.func fid) u w, Sl.v ⟨some ⟨b, 0, none⟩, 2 ^ n, 2 ^ n⟩, I (2 ^ n : Nat), I i] /\
  ∃ cs, h' = h.row b cs (2 ^ n) /\ cs.length = 2 ^ n /\ cs.take i = (dc n f).take i) ⟨rfl, _, e1, by simp, by simp⟩ ?_
 rintro i _ _ next hi ⟨rfl, cs, rfl, hcl, hp⟩ hn'
 refine ⟨_, _, _, _, _, _, rfl, ?_⟩
 by_cases hlt : i < 2 ^ n
 ·refine aH (by simpa using by exact_mod_cast hlt) ?_
  refine hf i hlt _ (dr _ _ hb) _ ⟨_, rfl, tq ⟨_, rfl, ?_⟩⟩
  simp only [vm, mm, az (n := i) (by omega)]
  refine ⟨by omega, by omega, hn' hlt _ _ ⟨rfl, _, rfl, by simpa using hcl, ?_⟩⟩
  have hti : i < (dc n f).length := by rw [pU]; exact hlt
  rw [jT _ (by omega), hp, List.take_succ_eq_append_getElem hti]
  congr 2
  simp only [dc, List.getElem_map, List.getElem_range]
  cases f i <;> rfl
 ·have : i = 2 ^ n := by omega
  subst this
  rw [<- hcl, List.take_length, hcl, <- pU n f, List.take_length] at hp
  subst hp
  exact ak (by simp) (k _ _ (dr _ _ hb) ⟨by show 2 ^ n <= _; omega, by simp [dc], .inr ⟨_, _, rfl, ax (LU _ _ hb)⟩⟩)
def aX (ns : List Nd) : List Value := ns.flatMap fun n => [I n.v, I n.lo, I n.hi]
def CJ (n : Nd) : Value := .agg #[I n.v, I n.lo, I n.hi]
structure BI (h : Hp) (B rs rn : Nat) (vars : Nat) (s : Sl) (ns : List Nd) (es : List (ByteArray × Nat)) : Prop where
 row : h B = some (.inl ⟨[I vars, s.v, I 0, .map (some rs), .map (some rn)], 5, false⟩)
 buf : Buf h s 3 (aX ns)
 seen : h rs = some (.inr (es.map fun e => (.string e.1, I e.2)))
 nodes : h rn = some (.inr (ns.zipIdx.map fun e => (CJ e.1, I (e.2 + 2 : Nat))))
 far : rs ≠ rn
 own : ∀ a, s.a = some a -> a.block ≠ B
 true : ∀ e ∈ es, ∃ n f low, low + n = vars /\ e.1 = ⟨(cD n f).toArray⟩ /\ mkD n f low ns = (e.2, ns)
theorem BI.mono {h h' : Hp} {B rs rn vars : Nat} {s : Sl} {ns : List Nd} {es : List (ByteArray × Nat)} (l : h.le h') (e : BI h B rs rn vars s ns es) : BI h' B rs rn vars s ns es :=
 ⟨l _ _ e.row, e.buf.mono l, l _ _ e.seen, l _ _ e.nodes, e.far, e.own, e.true⟩
theorem BI.blkB {h : Hp} {B rs rn vars : Nat} {s : Sl} {ns : List Nd} {es : List (ByteArray × Nat)} (e : BI h B rs rn vars s ns es) : ∀ b ∈ [B, rs, rn] ++ s.blk, ∃ x, h b = some x := by
 intro b hb
 simp only [List.cons_append, List.nil_append, List.mem_cons] at hb
 rcases hb with rfl | rfl | rfl | hb
 ·exact ⟨_, e.row⟩
 ·exact ⟨_, e.seen⟩
 ·exact ⟨_, e.nodes⟩
 ·revert b hb
  refine rV.2 fun a ha => ?_
  rcases e.buf.2.2 with ⟨h0, _⟩ | ⟨c, hc, hcb⟩
  ·rw [h0] at ha; cases ha
  ·rw [hc] at ha; cases ha; exact ⟨_, hcb⟩
theorem BI.put {h : Hp} {B rs rn vars : Nat} {s : Sl} {ns : List Nd} {es : List (ByteArray × Nat)} (e : BI h B rs rn vars s ns es) {n low : Nat} {f : Nat -> Bool} (hlow : low + n = vars)
  {a : Nat} (ha : mkD n f low ns = (a, ns)) : ∃ (es2 : List (ByteArray × Nat)) (res : Option (Nat × Value)), eD (Instr.sameNow .string (.string ⟨(cD n f).toArray⟩)) (es.map fun e => (.string e.1, I e.2)) 0 = some res /\
   rO (es.map fun e => (.string e.1, I e.2)) (.string ⟨(cD n f).toArray⟩) (I a) res = es2.map (fun e : ByteArray × Nat => (Value.string e.1, I e.2)) /\ ∀ x ∈ es2, ∃ n f low, low + n = vars /\ x.1 = ⟨(cD n f).toArray⟩ /\ mkD n f low ns = (x.2, ns) := by
 rcases mK (Instr.sameNow .string (.string ⟨(cD n f).toArray⟩)) (fun e : ByteArray × Nat => .string e.1) (fun e => I e.2) (fun e => (⟨(cD n f).toArray⟩ : ByteArray) == e.1) es 0 (fun _ _ => rfl) with ⟨hno, hm⟩ | ⟨j, hj, hyes, _, hm⟩
 ·refine ⟨es ++ [(⟨(cD n f).toArray⟩, a)], _, hm, by simp [rO], ?_⟩
  intro x hx
  rcases List.mem_append.1 hx with hx | hx
  ·exact e.true x hx
  ·simp only [List.mem_singleton] at hx; subst hx; exact ⟨n, f, low, hlow, rfl, ha⟩
 ·refine ⟨es.set j (⟨(cD n f).toArray⟩, a), _, hm, by simp [rO, List.map_set], ?_⟩
  intro x hx
  rcases List.mem_or_eq_of_mem_set hx with hx | hx
  ·exact e.true x hx
  ·subst hx; exact ⟨n, f, low, hlow, rfl, ha⟩
theorem yf {n m : Nat} {f g : Nat -> Bool} (e : cD n f = cD m g) : n = m /\ ∀ i, i < 2 ^ n -> f i = g i := by
 have hl := congrArg List.length e
 simp only [cD, List.length_map, List.length_range] at hl
 have hn : n = m := (Nat.pow_right_inj (by decide : 1 < 2)).1 hl
 subst hn
 refine ⟨rfl, fun i hi => ?_⟩
 have := congrArg (fun l : List UInt8 => l[i]?) e
 simp only [cD, List.getElem?_map, List.getElem?_range hi, Option.map_some, Option.some.injEq] at this
 cases h1 : f i <;> cases h2 : g i <;> simp [h1, h2] at this <;> rfl
theorem RB (nd : Nd) (ns : List Nd) :
  (∃ j, eD (aeq PR 3 gR (.agg #[I nd.v, I nd.lo, I nd.hi])) (ns.zipIdx.map fun e => (CJ e.1, I (e.2 + 2 : Nat))) 0 = some (some (j, I (j + 2 : Nat))) /\ gz nd ns = (j + 2, ns)) \/
  (eD (aeq PR 3 gR (.agg #[I nd.v, I nd.lo, I nd.hi])) (ns.zipIdx.map fun e => (CJ e.1, I (e.2 + 2 : Nat))) 0 = some none /\ gz nd ns = (ns.length + 2, ns ++ [nd])) := by
 have heq : ∀ m : Nd, ((nd.v : Int) == (m.v : Int) && ((nd.lo : Int) == (m.lo : Int) && ((nd.hi : Int) == (m.hi : Int) && true))) = (m == nd) := by
  intro m
  rw [Bool.eq_iff_iff]
  simp only [Bool.and_eq_true, beq_iff_eq, Bool.and_true]
  obtain ⟨a, b, c⟩ := nd; obtain ⟨a', b', c'⟩ := m
  simp only [Nd.mk.injEq]
  omega
 rcases mK (aeq PR 3 gR (.agg #[I nd.v, I nd.lo, I nd.hi])) (fun e : Nd × Nat => CJ e.1) (fun e => I (e.2 + 2 : Nat))
  (fun e => (nd.v : Int) == (e.1.v : Int) && ((nd.lo : Int) == (e.1.lo : Int) && ((nd.hi : Int) == (e.1.hi : Int) && true))) ns.zipIdx 0 (fun e _ => Tb _ _ _ _ _ _) with ⟨hno, hm⟩ | ⟨j, hj, hyes, hbef, hm⟩
 ·refine .inr ⟨hm, ?_⟩
  have : ns.idxOf? nd = none := by
   simp only [List.idxOf?]
   rw [List.findIdx?_eq_none_iff]
   intro m hmm
   obtain ⟨i, hi, rfl⟩ := List.getElem_of_mem hmm
   have := hno (ns[i], i) (by rw [List.mem_iff_getElem]; exact ⟨i, by simpa using hi, by simp⟩)
   simp only [heq] at this
   exact this
  simp [gz, this]
 ·have hj' : j < ns.length := by simpa using hj
  simp only [heq, List.getElem_zipIdx, Nat.zero_add] at hyes hbef hm
  refine .inl ⟨j, hm, ?_⟩
  have : ns.idxOf? nd = some j := by
   simp only [List.idxOf?]
   rw [List.findIdx?_eq_some_iff_getElem]
   exact ⟨hj', hyes, fun l hl => by have := hbef l (by simp; omega) hl; simp [this]⟩
  simp [gz, this]
theorem tG (ns : List Nd) (nd : Nd) : aX (ns ++ [nd]) = aX ns ++ [I nd.v, I nd.lo, I nd.hi] := by simp [aX]
theorem dM (ns : List Nd) : (aX ns).length = ns.length * 3 := by
 induction ns with
 | nil => rfl
 | cons n ns ih => simp only [aX, List.flatMap_cons, List.length_append, List.length_cons, List.length_nil] at ih ⊢; omega
theorem KR {B rs rn vars : Nat} (hvars : vars <= 13) : ∀ (n : Nat) (f : Nat -> Bool) (low : Nat) (t : Sl) (h : Hp) (s : Sl) (ns : List Nd) (es : List (ByteArray × Nat)) (g : Hp) (R : Value -> Hp -> Prop),
  BI h B rs rn vars s ns es -> g.le h -> g B = none -> g rs = none -> g rn = none -> (∀ a, s.a = some a -> g a.block = none) -> vM g t n f -> low + n = vars -> ns.length + 2 ^ n <= 1048576 ->
  (∀ s' es' h', BI h' B rs rn vars s' (mkD n f low ns).2 es' -> g.le h' -> (∀ a, s'.a = some a -> g a.block = none) -> R (I (mkD n f low ns).1) h') ->
  eV #[.pointer (some ⟨B, 0, none⟩), t.v, I low] h R := by
 intro n
 induction n with
 | zero =>
  intro f low t h s ns es g R inv hg gB grs grn gs ht hlow hlen k
  apply mV
  refine uf_ ?_
  have hl := ht.len
  obtain ⟨b, o, ha, hc⟩ := ht.at (i := 0) (by simp)
  refine aH (by simp [hl]) ?_
  simp only [vm, hl, ha, hg.cell hc]
  have := hg.cell hc
  simp only [Nat.add_zero] at this
  refine ⟨by omega, by simp, ?_⟩
  simp only [Int.toNat_zero, Nat.add_zero, this, vm]
  have := k s es h inv hg gs
  simp only [mkD] at this
  have e0 : W (if f 0 then 1 else 0) = ((if f 0 then 1 else 0 : Nat) : Int) := by cases f 0 <;> rfl
  rw [e0]; exact this
 | succ n ih =>
  intro f low t h s ns es g R inv hg gB grs grn gs ht hlow hlen k
  apply mV
  refine uf_ ?_
  have hl := ht.len
  have hp : 2 ^ (n + 1) = 2 * 2 ^ n := by rw [Nat.pow_succ]; omega
  have hp1 : 0 < 2 ^ n := Nat.pow_pos (by omega)
  have hp2 : 2 ^ n <= 8192 := by
   have := Nat.pow_le_pow_right (n := 2) (by omega) (show n <= 13 by omega)
   simpa using this
  refine ak (by simp [hl]; omega) ?_
  refine ⟨cD (n + 1) f, (ht.mono hg).all, ?_⟩
  simp only [vm, af inv.row, mm]
  refine ⟨rs, es.map (fun e => (.string e.1, I e.2)), ?_⟩
  rcases mK (Instr.sameNow .string (.string ⟨(cD (n + 1) f).toArray⟩)) (fun e : ByteArray × Nat => .string e.1) (fun e => I e.2) (fun e => (⟨(cD (n + 1) f).toArray⟩ : ByteArray) == e.1) es 0 (fun _ _ => rfl) with ⟨hno, hm⟩ | ⟨j, hj, hyes, _, hm⟩
  rotate_left
  ·refine ⟨_, rfl, inv.seen, hm, _, rfl, aH rfl ?_⟩
   obtain ⟨m, f', low', hlow', hkey, hmk⟩ := inv.true _ (List.getElem_mem hj)
   rw [hkey] at hyes
   have hb : cD (n + 1) f = cD m f' := by
    have h9 : ((cD (n + 1) f).toArray == (cD m f').toArray) = true := hyes
    simpa using h9
   obtain ⟨rfl, hff⟩ := yf hb
   have : low' = low := by omega
   subst this
   have e := GX (n + 1) low' ns hff
   rw [hmk] at e
   have := k s es h (by rw [e]; exact inv) hg gs
   rw [e] at this
   exact this
  refine ⟨_, rfl, inv.seen, hm, _, rfl, ak rfl ?_⟩
  have hdiv : W ((t.n : Int).tdiv 2) = ((2 ^ n : Nat) : Int) := by
   rw [hl, hp]
   have : (((2 * 2 ^ n : Nat) : Int)).tdiv 2 = ((2 ^ n : Nat) : Int) := by
    have := Int.ofNat_tdiv (2 * 2 ^ n) 2
    rw [show 2 * 2 ^ n / 2 = 2 ^ n by omega] at this
    exact this.symm
   rw [this]; exact fj (by omega)
  simp only [hdiv, vm, bM]
  refine ap (fun J => ∀ b1 b2 : Nat, b1 ≠ b2 -> h b1 = none -> h b2 = none -> ∀ h1 : Hp, h1 b1 = some (.inl ⟨List.replicate (2 ^ n) (.int .u8 0), 2 ^ n, false⟩) -> h1 b2 = some (.inl ⟨List.replicate (2 ^ n) (.int .u8 0), 2 ^ n, false⟩) -> h.le h1 ->
   J ⟨some ⟨b1, 0, none⟩, 2 ^ n, 2 ^ n⟩ ⟨some ⟨b2, 0, none⟩, 2 ^ n, 2 ^ n⟩ h1) ?_ ?_
  rotate_left
  ·intro J hJ
   refine ⟨⟨by omega, by omega, by omega, fun b1 hb1 => ⟨by omega, by omega, by omega, fun b2 hb2 => ?_⟩⟩, ⟨by omega, by omega, by omega, fun b1 hb1 => ⟨by omega, by omega, by omega, fun b2 hb2 => ?_⟩⟩⟩
   ·exact hJ b1 b2 hb2.1.symm hb1 hb2.2 _ (by rw [bC _ _ hb2.1.symm, bg]) (by rw [bg]) (dt _ _ hb2.2 (dr _ _ hb1))
   ·exact hJ b2 b1 hb2.1 hb2.2 hb1 _ (by rw [bg]) (by rw [bC _ _ hb2.1.symm, bg]) (dt _ _ hb2.2 (dr _ _ hb1))
  intro b1 b2 n12 hb1 hb2 h1 f1 f2 l1
  refine aq (2 ^ n) (fun i vs h' => vs = [.pointer (some ⟨B, 0, none⟩), t.v, I low, .string ⟨(cD (n + 1) f).toArray⟩, Sl.v ⟨some ⟨b1, 0, none⟩, 2 ^ n, 2 ^ n⟩, Sl.v ⟨some ⟨b2, 0, none⟩, 2 ^ n, 2 ^ n⟩, I (2 ^ n : Nat), I i] /\
   h.le h' /\ ∃ c1 c2, h' b1 = some (.inl ⟨c1, 2 ^ n, false⟩) /\ h' b2 = some (.inl ⟨c2, 2 ^ n, false⟩) /\ c1.length = 2 ^ n /\ c2.length = 2 ^ n /\ c1.take i = (dc n fun i => f (2 * i)).take i /\ c2.take i = (dc n fun i => f (2 * i + 1)).take i)
   ⟨rfl, l1, _, _, f1, f2, by simp, by simp, by simp, by simp⟩ ?_
  rintro i _ h2 next hi ⟨rfl, l2, c1, c2, g1, g2, q1, q2, p1, p2⟩ hn
  refine ⟨_, _, _, _, _, _, _, _, rfl, ?_⟩
  by_cases hlt : i < 2 ^ n
  ·obtain ⟨bt, ot, hta, htc⟩ := ((ht.mono hg).mono l2).at (i := 2 * i) (by omega)
   obtain ⟨bt', ot', hta', htc'⟩ := ((ht.mono hg).mono l2).at (i := 2 * i + 1) (by omega)
   rw [hta] at hta'; cases hta'
   have e1 : W (2 * (i : Int)) = ((2 * i : Nat) : Int) := by rw [<- fj (n := 2 * i) (by omega)]; congr 1
   have e2 : W (((2 * i : Nat) : Int) + 1) = ((2 * i + 1 : Nat) : Int) := az (by omega)
   refine aH (by simpa using by exact_mod_cast hlt) ?_
   simp only [e1, e2, vm, mm, hl, hta, htc, htc', az (n := i) (show i < 9223372036854775807 by omega)]
   refine ⟨by omega, by omega, by omega, c1, 2 ^ n, g1, by omega, by omega, ?_⟩
   rw [bC _ _ n12.symm]
   refine ⟨c2, 2 ^ n, g2, by omega, ?_⟩
   refine hn hlt _ _ ⟨rfl, dt _ _ hb2 (dt _ _ hb1 l2), _, _, by rw [bC _ _ n12, bg], bg .., by simpa using q1, by simpa using q2, ?_, ?_⟩
   ·have hti : i < (dc n fun i => f (2 * i)).length := by rw [pU]; exact hlt
    rw [jT _ (by omega), p1, List.take_succ_eq_append_getElem hti]
    simp [dc]
   ·have hti : i < (dc n fun i => f (2 * i + 1)).length := by rw [pU]; exact hlt
    rw [jT _ (by omega), p2, List.take_succ_eq_append_getElem hti]
    simp [dc]
  have : i = 2 ^ n := by omega
  subst this
  rw [<- q1, List.take_length, q1, <- pU n (fun i => f (2 * i)), List.take_length] at p1
  rw [<- q2, List.take_length, q2, <- pU n (fun i => f (2 * i + 1)), List.take_length] at p2
  subst p1; subst p2
  refine ak (by simp) ?_
  clear hn next f1 f2 l1 h1
  have hout : ∀ b, h b = none -> b ∉ [B, rs, rn] ++ s.blk := fun b hb hm => by
   obtain ⟨x, hx⟩ := inv.blkB b hm
   rw [hb] at hx; cases hx
  have tb : 2 ^ n <= 9223372036854775807 := by omega
  have t1 : vM (h2.wo ([B, rs, rn] ++ s.blk)) ⟨some ⟨b1, 0, none⟩, 2 ^ n, 2 ^ n⟩ n (fun i => f (2 * i)) :=
   ⟨tb, by simp [pU], .inr ⟨b1, 0, rfl, ax (by rw [rh (hout b1 hb1)]; exact g1)⟩⟩
  have t2 : vM (h2.wo ([B, rs, rn] ++ s.blk)) ⟨some ⟨b2, 0, none⟩, 2 ^ n, 2 ^ n⟩ n (fun i => f (2 * i + 1)) :=
   ⟨tb, by simp [pU], .inr ⟨b2, 0, rfl, ax (by rw [rh (hout b2 hb2)]; exact g2)⟩⟩
  have hgw : g.le (h2.wo ([B, rs, rn] ++ s.blk)) := nk (Hp.le_trans hg l2) (by
   intro b hb
   simp only [List.cons_append, List.nil_append, List.mem_cons] at hb
   rcases hb with rfl | rfl | rfl | hb
   ·exact gB
   ·exact grs
   ·exact grn
   ·exact rV (p := fun b => g b = none).2 gs b hb)
  rw [az (by omega)]
  have len1 := rC n (fun i => f (2 * i)) (low + 1) ns
  refine ih _ (low + 1) _ h2 s ns es (h2.wo ([B, rs, rn] ++ s.blk)) _ (inv.mono l2) (mS _ _) (dJ (by simp)) (dJ (by simp)) (dJ (by simp))
   (rV (p := fun b => (h2.wo ([B, rs, rn] ++ s.blk)) b = none).1 fun b hb => dJ (by simp [hb])) t1 (by omega) (by omega) ?_
  intro s3 es3 h3 inv3 l3 gs3
  refine ⟨_, rfl, cD n (fun i => f (2 * i)), (t1.mono l3).all, cD n (fun i => f (2 * i + 1)), (t2.mono l3).all, ?_⟩
  refine ap (fun J => ∀ s' es' h', BI h' B rs rn vars s' (mkD (n + 1) f low ns).2 es' -> g.le h' -> (∀ a, s'.a = some a -> g a.block = none) -> J ((mkD (n + 1) f low ns).1 : Nat) h') ?_ ?_
  ·intro s' es' h' inv' lg' gs'
   obtain ⟨es2, res, hm2, hput, htrue⟩ := inv'.put (n := n + 1) (low := low) (f := f) hlow (t9 (n + 1) f low ns _ (List.prefix_refl _))
   simp only [vm, af inv'.row, mm]
   refine ⟨rs, _, res, rfl, inv'.seen, hm2, ?_⟩
   rw [hput]
   have nB : B ≠ rs := du inv'.row inv'.seen (by intro h; cases h)
   refine k s' es2 _ ⟨by rw [Hp.set_ne _ _ nB]; exact inv'.row, ?_, Hp.set_eq .., by rw [Hp.set_ne _ _ inv'.far.symm]; exact inv'.nodes, inv'.far, inv'.own, htrue⟩ (kl _ lg' grs) gs'
   refine ⟨inv'.buf.1, inv'.buf.2.1, inv'.buf.2.2.imp id ?_⟩
   rintro ⟨c, hc, hcb⟩
   exact ⟨c, hc, by rw [Hp.set_ne _ _ (du hcb inv'.seen (by intro h; cases h))]; exact hcb⟩
  ·intro J hJ
   rw [jw, jw]
   refine ad (fun e => ?_) (fun e => ?_)
   rotate_left
   ·have e' : cD n (fun i => f (2 * i)) = cD n (fun i => f (2 * i + 1)) := by simpa using e
    have hs2 := Mm (low := low + 1) (ns := ns) (yf e').2
    have hmk : mkD (n + 1) f low ns = mkD n (fun i => f (2 * i)) (low + 1) ns := by simp only [mkD]; rw [hs2]; simp
    have := hJ s3 es3 h3 (by rw [hmk]; exact inv3) (Hp.le_trans hgw l3) ?_
    ·rw [hmk] at this; exact this
    ·intro a ha;
     have := gs3 a ha
     cases hga : g a.block with
     | none => rfl
     | some x => rw [hgw _ _ hga] at this; cases this
   have hne : ¬ (mkD n (fun i => f (2 * i)) (low + 1) ns).1 = (mkD n (fun i => f (2 * i + 1)) (low + 1) (mkD n (fun i => f (2 * i)) (low + 1) ns).2).1 := by
    intro he
    have := P2.1 he
    have e2 : cD n (fun i => f (2 * i)) = cD n (fun i => f (2 * i + 1)) := by
     unfold cD
     apply List.map_congr_left
     intro i hi
     simp only [this i (by simpa using hi)]
    rw [e2] at e; simp at e
   have hmk : mkD (n + 1) f low ns = gz ⟨low, (mkD n (fun i => f (2 * i)) (low + 1) ns).1, (mkD n (fun i => f (2 * i + 1)) (low + 1) (mkD n (fun i => f (2 * i)) (low + 1) ns).2).1⟩
     (mkD n (fun i => f (2 * i + 1)) (low + 1) (mkD n (fun i => f (2 * i)) (low + 1) ns).2).2 := by simp only [mkD]; rw [if_neg hne]
   have len2 := rC n (fun i => f (2 * i + 1)) (low + 1) (mkD n (fun i => f (2 * i)) (low + 1) ns).2
   generalize mkD n (fun i => f (2 * i)) (low + 1) ns = r1 at *
   refine ih _ (low + 1) _ h3 s3 r1.2 es3 ((h3.wo ([B, rs, rn] ++ s3.blk))) _ inv3 (mS _ _) (dJ (by simp)) (dJ (by simp)) (dJ (by simp))
    (rV (p := fun b => (h3.wo ([B, rs, rn] ++ s3.blk)) b = none).1 fun b hb => dJ (by simp [hb])) (t2.mono (nk l3 ?_)) (by omega) (by omega) ?_
   ·intro b hb
    simp only [List.cons_append, List.nil_append, List.mem_cons] at hb
    rcases hb with rfl | rfl | rfl | hb
    ·exact dJ (by simp)
    ·exact dJ (by simp)
    ·exact dJ (by simp)
    ·exact rV (p := fun b => (h2.wo ([B, rs, rn] ++ s.blk)) b = none).2 gs3 b hb
   generalize mkD n (fun i => f (2 * i + 1)) (low + 1) r1.2 = r2 at *
   intro s4 es4 h4 inv4 l4 gs4
   refine ⟨_, rfl, ?_⟩
   intro b5 hb5
   have nB := fresh_ne hb5 inv4.row
   have nN := fresh_ne hb5 inv4.nodes
   simp only [vm, mm, nB, nN, af inv4.row, ne_eq, not_false_eq_true]
   have hgw3 : g.le (h3.wo ([B, rs, rn] ++ s3.blk)) := nk (Hp.le_trans hgw l3) (by
    intro b hb
    refine aw hgw ?_
    simp only [List.cons_append, List.nil_append, List.mem_cons] at hb
    rcases hb with rfl | rfl | rfl | hb
    ·exact dJ (by simp)
    ·exact dJ (by simp)
    ·exact dJ (by simp)
    ·exact rV (p := fun b => (h2.wo ([B, rs, rn] ++ s.blk)) b = none).2 gs3 b hb)
   have lg4 : g.le h4 := Hp.le_trans hgw3 l4
   have gs4' : ∀ a, s4.a = some a -> g a.block = none := fun a ha => aw hgw3 (gs4 a ha)
   have l5 := dr [I low, I r1.1, I r2.1] 3 hb5
   refine ⟨by omega, rn, r2.2.zipIdx.map (fun e => (CJ e.1, I (e.2 + 2 : Nat))), ?_⟩
   rcases RB ⟨low, r1.1, r2.1⟩ r2.2 with ⟨j, hm5, hput⟩ | ⟨hm5, hput⟩
   ·refine ⟨_, rfl, l5 _ _ inv4.nodes, hm5, _, rfl, ak rfl ?_⟩
    rw [hput] at hmk
    have := hJ s4 es4 _ (by rw [hmk]; exact inv4.mono l5) (Hp.le_trans lg4 l5) gs4'
    rw [hmk] at this
    exact this
   ·refine ⟨_, rfl, l5 _ _ inv4.nodes, hm5, _, rfl, aH rfl ?_⟩
    rw [hput] at hmk
    rintro b6 ⟨n65, _, hb6⟩
    have nB6 := fresh_ne hb6 inv4.row
    have l6 := dt [I low, I r1.1, I r2.1] 3 (show (h4.row b5 [I low, I r1.1, I r2.1] 3) b6 = none by rw [th]; exact ⟨n65, hb6⟩) (Hp.le_refl _)
    have hsn : s4.n = r2.2.length := by have := inv4.buf.1; rw [dM] at this; omega
    refine ⟨by rw [bC _ _ nB6, bC _ _ nB], ?_⟩
    refine dg ((inv4.buf.mono l5).mono l6) (by omega) (by omega) (by omega) ⟨b6, 0, rfl, ax (bg ..)⟩ (by simp) rfl ?_
    intro s7 h7 hn7 hb7 hl7 _
    have hH : h4.le ((h4.row b5 [I low, I r1.1, I r2.1] 3).row b6 [I low, I r1.1, I r2.1] 3) := Hp.le_trans l5 l6
    have dmap : ∀ {c : Nat} {m : List (Value × Value)}, h4 c = some (.inr m) -> ∀ a, s4.a = some a -> a.block ≠ c := by
     intro c m hc a ha
     rcases inv4.buf.2.2 with ⟨h0, _⟩ | ⟨d, hd, hdb⟩
     ·rw [h0] at ha; cases ha
     ·rw [hd] at ha; cases ha; exact du hdb hc (by intro h; cases h)
    have d5 : ∀ a, s4.a = some a -> a.block ≠ b5 := by
     intro a ha
     rcases inv4.buf.2.2 with ⟨h0, _⟩ | ⟨d, hd, hdb⟩
     ·rw [h0] at ha; cases ha
     ·rw [hd] at ha; cases ha; exact fresh_ne hb5 hdb
    obtain ⟨f7B, o7B⟩ := iG hl7 (hH _ _ inv4.row) inv4.own
    obtain ⟨f7s, o7s⟩ := iG hl7 (hH _ _ inv4.seen) (dmap inv4.seen)
    obtain ⟨f7n, o7n⟩ := iG hl7 (hH _ _ inv4.nodes) (dmap inv4.nodes)
    obtain ⟨f75, o75⟩ := iG hl7 (l6 _ _ (bg h4 b5 [I low, I r1.1, I r2.1] 3)) d5
    have n5B := nB.symm
    have nsB : rs ≠ B := du inv4.seen inv4.row (by intro h; cases h)
    have nnB : rn ≠ B := du inv4.nodes inv4.row (by intro h; cases h)
    have hW2 : W ((s4.n : Int) + 2) = ((r2.2.length + 2 : Nat) : Int) := by rw [hsn, cc (by omega) (by omega)]; omega
    simp only [vm, mm, f7B, af f75, n5B, ne_eq, not_false_eq_true, hW2]
    refine ⟨by omega, rn, _, none, rfl, by rw [bC _ _ nnB]; exact f7n, hm5, rfl, ?_⟩
    have := hJ s7 es4 ((h7.row B [I vars, s7.v, I 0, .map (some rs), .map (some rn)] 5).set rn
     (some (.inr (rO (r2.2.zipIdx.map fun e => (CJ e.1, I (e.2 + 2 : Nat))) (.agg #[I low, I r1.1, I r2.1]) (I (r2.2.length + 2 : Nat)) none)))) ?_ ?_ ?_
    ·rw [hmk] at this; exact this
    ·rw [hmk]
     refine ⟨by rw [Hp.set_ne _ _ nnB.symm, bg], ?_, by rw [Hp.set_ne _ _ inv4.far, bC _ _ nsB]; exact f7s, ?_, inv4.far, o7B, ?_⟩
     ·rw [tG]
      refine ⟨hb7.1, hb7.2.1, hb7.2.2.imp id ?_⟩
      rintro ⟨c, hc, hcb⟩
      exact ⟨c, hc, by rw [Hp.set_ne _ _ (o7n _ hc), bC _ _ (o7B _ hc)]; exact hcb⟩
     ·rw [Hp.set_eq]
      simp [rO, List.zipIdx_append, CJ]
     ·intro x hx
      obtain ⟨n', f', low', h1', h2', h3'⟩ := inv4.true x hx
      refine ⟨n', f', low', h1', h2', ?_⟩
      have := t9 n' f' low' r2.2 (r2.2 ++ [⟨low, r1.1, r2.1⟩]) (by rw [h3']; exact List.prefix_append _ _)
      rw [h3'] at this; exact this
    ·refine kl _ ?_ grn
     intro c x hcx
     have hcB : c ≠ B := fun h => by rw [h, gB] at hcx; cases hcx
     rw [bC _ _ hcB]
     exact (iG hl7 (hH _ _ (lg4 _ _ hcx)) (fun a ha hac => by rw [<- hac, gs4' a ha] at hcx; cases hcx)).1
    ·intro a ha
     cases hg7 : g a.block with
     | none => rfl
     | some x =>
      exact absurd rfl ((iG hl7 (hH _ _ (lg4 _ _ hg7)) (fun a' ha' hac => by rw [<- hac, gs4' a' ha'] at hg7; cases hg7)).2 a ha)
theorem Ja (ns : List Nd) : (aX ns).all (·.oneCell') = true := by
 rw [List.all_eq_true]
 intro v hv
 simp only [aX, List.mem_flatMap] at hv
 obtain ⟨n, _, hv⟩ := hv
 simp only [List.mem_cons, List.not_mem_nil, or_false] at hv
 rcases hv with rfl | rfl | rfl <;> rfl
theorem JJ {h : Hp} {s : Sl} {ns : List Nd} {v r : Int} {R : Value -> Hp -> Prop} (hs : SlC h s 3 (aX ns)) (hn : ns.length <= 1048576)
  (k : ∀ t h', h.le h' -> Own (h'.sub h) t 3 (aX ns) -> R (.agg #[I v, Sl.v t, I r]) h') : lU #[.agg #[I v, s.v, I r]] h R := by
 apply zr
 refine uf_ ?_
 intro b1 hb1
 simp only [vm, mm]
 rintro b2 ⟨n21, hb2⟩
 have n12 := n21.symm
 have hsn : s.n = ns.length := by have := hs.2.1; rw [dM] at this; omega
 simp only [vm, mm, n12, n21, ne_eq, not_false_eq_true]
 have l0 := dt [I 0, .slice none 0 0, I 0] 3 hb2 (dr [I v, s.v, I r] 3 hb1)
 refine Fq (hs.mono l0) (by omega) (Ja _) ?_
 intro t h3 hn3 l3 hb3
 have f1 := l3 _ _ ((bC _ _ n12).trans (bg ..))
 have f2 := l3 _ _ (bg ..)
 simp only [vm, mm, f1, f2]
 refine ⟨by omega, k _ _ (dt _ _ hb2 (Hp.le_trans l0 l3)) ((hb3.own (by omega)).mono ?_)⟩
 exact H4 _ _ (jW (bg ..)) (Dl _ l0)
def qW (n : Nat) (f : Nat -> Bool) : Option (Nat × List Nd) := if 600 < (mkD n f 0 []).2.length then none else some (mkD n f 0 [])
theorem GH {h : Hp} {t : Sl} {n : Nat} {f : Nat -> Bool} {R : Value -> Hp -> Prop} (hn : n <= 13) (ht : vM h t n f)
  (k0 : qW n f = none -> R (.tuple #[.agg #[I 0, .slice none 0 0, I 0], .bool false]) h)
  (k1 : ∀ r, qW n f = some r -> ∀ s h', h.le h' -> Own (h'.sub h) s 3 (aX r.2) -> R (.tuple #[.agg #[I n, Sl.v s, I r.1], .bool true]) h') :
  dw #[t.v] h R := by
 refine ACalls.drop (tx ?_)
 refine uf_ ?_
 intro b1 hb1
 have l1 := dr [I 0, .slice none 0 0, I 0] 3 hb1
 refine un fun h1 e1 => ?_
 refine aq n (fun i vs h' => vs = [t.v, .pointer (some ⟨b1, 0, none⟩), I i] /\ h' = h1) ⟨rfl, rfl⟩ ?_
 rintro i _ _ next hi ⟨rfl, rfl⟩ hnx
 refine ⟨_, _, _, _, rfl, ?_⟩
 rw [if_neg (by omega), cu (by omega), ht.len]
 by_cases hlt : i < n
 ·refine aH ?_ ?_
  ·have := Nat.pow_lt_pow_right (a := 2) (by omega) hlt
   simpa using by exact_mod_cast this
  ·rw [az (by omega)]; exact hnx hlt _ _ ⟨rfl, rfl⟩
 have hin : i = n := by omega
 subst hin
 refine ak (by simp) ?_
 rename_i h1
 rw [<- e1] at l1
 intro rs hrs
 refine un fun h2 e2 => ?_
 intro rn hrn
 refine un fun h3 e3 => ?_
 intro B hB
 refine un fun h4 e4 => ?_
 have l2 : h1.le h2 := e2 ▸ Hp.le_set _ hrs
 have l3 : h2.le h3 := e3 ▸ Hp.le_set _ hrn
 have l4 : h3.le h4 := e4 ▸ dr _ _ hB
 have f2 : h2 rs = some (.inr []) := by rw [e2, Hp.set_eq]
 have f3 : h3 rn = some (.inr []) := by rw [e3, Hp.set_eq]
 have f4 : h4 B = some (.inl ⟨[I i, .slice none 0 0, I 0, .map (some rs), .map (some rn)], 5, false⟩) := by rw [e4, bg]
 have far : rs ≠ rn := fresh_ne hrn f2
 have inv : BI h4 B rs rn i ⟨none, 0, 0⟩ [] [] := ⟨f4, en _ _, l4 _ _ (l3 _ _ f2), l4 _ _ f3, far, by simp, by simp⟩
 have l14 : h1.le h4 := Hp.le_trans l2 (Hp.le_trans l3 l4)
 have hp2 : 2 ^ i <= 8192 := by
  have := Nat.pow_le_pow_right (n := 2) (by omega) hn
  simpa using this
 have hB1 : h1 B = none := aw (Hp.le_trans l2 l3) hB
 have len := rC i f 0 []
 simp only [List.length_nil] at len
 refine KR hn i f 0 t h4 ⟨none, 0, 0⟩ [] [] h1 _ inv l14 hB1 hrs (aw l2 hrn) (by simp) (ht.mono l1) (by omega) (by simp; omega) ?_
 intro s5 es5 h5 inv5 l5 _
 have hs5 : s5.n = (mkD i f 0 []).2.length := by have := inv5.buf.1; rw [dM] at this; omega
 have b1B : b1 ≠ B := fun h => by subst h; rw [e1, bg] at hB1; cases hB1
 have g1 : h5 b1 = some (.inl ⟨[I 0, .slice none 0 0, I 0], 3, false⟩) := l5 _ _ (by rw [e1, bg])
 simp only [vm, mm, inv5.row]
 refine ⟨_, rfl, by omega, ?_⟩
 rw [hs5]
 have g1' : (h5.row B [I i, s5.v, I (mkD i f 0 []).1, .map (some rs), .map (some rn)] 5) b1 = some (.inl ⟨[I 0, .slice none 0 0, I 0], 3, false⟩) := by rw [bC _ _ b1B]; exact g1
 have l15 : h.le (h5.row B [I i, s5.v, I (mkD i f 0 []).1, .map (some rs), .map (some rn)] 5) := dt _ _ (aw l1 hB1) (Hp.le_trans l1 l5)
 refine ad (fun e => ?_) (fun e => ?_)
 ·have e' : 600 < (mkD i f 0 []).2.length := by simp at e; omega
  simp only [vm, mm, g1']
  exact ⟨by omega, _, dt _ _ hb1 l15, k0 (by simp [qW, e'])⟩
 ·have e' : ¬ 600 < (mkD i f 0 []).2.length := by simp at e; omega
  have hbuf : SlC (h5.row B [I i, s5.v, I (mkD i f 0 []).1, .map (some rs), .map (some rn)] 5) s5 3 (aX (mkD i f 0 []).2) := by
   refine Buf.slc ⟨inv5.buf.1, inv5.buf.2.1, inv5.buf.2.2.imp id ?_⟩ (by omega)
   rintro ⟨c, hc, hcb⟩
   exact ⟨c, hc, by rw [bC _ _ (inv5.own _ hc)]; exact hcb⟩
  refine JJ hbuf (by omega) fun t6 h6 l6 ho => ⟨_, _, _, rfl, ?_⟩
  have g6 := l6 _ _ g1'
  simp only [vm, mm, g6]
  refine ⟨by omega, _, Hp.le_refl _, k1 _ (by simp [qW, e']) t6 _ (dt _ _ hb1 (Hp.le_trans l15 l6)) (ho.mono ?_)⟩
  exact H4 _ _ (jW g1') (Dl _ l15)
structure Bd where
 v : Int
 ns : List Nd
 r : Int
 ok : Bool
def gO : Bd := ⟨0, [], 0, false⟩
def da (v : Int) (f : Nat -> Bool) : Bd := if 0 <= v /\ v <= 13 then (match qW v.toNat f with | none => gO | some r => ⟨v, r.2, r.1, true⟩) else gO
theorem Ck {h : Hp} {a b c a' b' c' : Int} {R : Value -> Hp -> Prop} (k : R (.bool (decide (a = a' /\ b = b' /\ c = c'))) h) :
  lM #[.agg #[I a, I b, I c], .agg #[I a', I b', I c']] h R := by
 refine ACalls.drop (zF ?_)
 refine uf_ ?_
 intro b1 hb1
 simp only [vm, mm]
 rintro b2 ⟨n21, hb2⟩
 have n12 := n21.symm
 have l0 := dt [I a', I b', I c'] 3 hb2 (dr [I a, I b, I c] 3 hb1)
 simp only [vm, mm, n12, n21, ne_eq, not_false_eq_true]
 refine ad (fun e => ⟨_, l0, ?_⟩) (fun e => ?_)
 ·have : ¬ a = a' := by simpa using e
  simpa [this] using k
 have e1 : a = a' := by simpa using e
 refine ad (fun e => ⟨_, l0, ?_⟩) (fun e => ?_)
 ·have : ¬ b = b' := by simpa using e
  simpa [this] using k
 have e2 : b = b' := by simpa using e
 refine ad (fun e => ⟨_, l0, ?_⟩) (fun e => ⟨_, l0, ?_⟩)
 ·have : ¬ c = c' := by simpa using e
  simpa [this] using k
 have e3 : c = c' := by simpa using e
 simpa [e1, e2, e3] using k
theorem Qj {h : Hp} {s : Sl} {ns : List Nd} (e : SlC h s 3 (aX ns)) {i : Nat} (hi : i < ns.length) :
  ∃ b o, s.a = some (Addr.mk b o none) /\ Hp.cell h b (o + i * 3) = some (I ns[i].v) /\ Hp.cell h b (o + i * 3 + 1) = some (I ns[i].lo) /\ Hp.cell h b (o + i * 3 + 2) = some (I ns[i].hi) := by
 have hl := e.2.1
 rw [dM] at hl
 obtain ⟨b, o, ha, hc⟩ := SlC.get e (by omega)
 have key : ∀ (ns : List Nd) (i : Nat) (hi : i < ns.length), (aX ns)[i * 3]? = some (I ns[i].v) /\ (aX ns)[i * 3 + 1]? = some (I ns[i].lo) /\ (aX ns)[i * 3 + 2]? = some (I ns[i].hi) := by
  intro ns
  induction ns with
  | nil => intro i hi; simp at hi
  | cons n ns ih =>
   intro i hi
   cases i with
   | zero => simp [aX]
   | succ i =>
    have := ih i (by simpa using hi)
    have hx : aX (n :: ns) = I n.v :: I n.lo :: I n.hi :: aX ns := rfl
    rw [hx, show (i + 1) * 3 = i * 3 + 3 by omega]
    simpa using this
 obtain ⟨k1, k2, k3⟩ := key ns i hi
 exact ⟨b, o, ha, hc _ _ k1, by rw [Nat.add_assoc]; exact hc _ _ k2, by rw [Nat.add_assoc]; exact hc _ _ k3⟩
theorem Py {h : Hp} {s : Sl} {ns : List Nd} (e : SlC h s 3 (aX ns)) : s.n = ns.length := by
 have hl := e.2.1
 rw [dM] at hl; omega
theorem AV {h : Hp} {s t : Sl} {xs ys : List Nd} {R : Value -> Hp -> Prop} (hs : SlC h s 3 (aX xs)) (ht : SlC h t 3 (aX ys))
  (k : R (.bool (decide (xs = ys))) h) : ld #[s.v, t.v] h R := by
 apply xK
 refine uf_ ?_
 have ls := Py hs
 have lt := Py ht
 have hb := hs.1
 by_cases hl : xs.length = ys.length
 ·refine ak (by simp [ls, lt, hl]) ?_
  refine aq xs.length (fun i vs h' => vs = [s.v, t.v, I i] /\ h' = h /\ xs.take i = ys.take i) ⟨rfl, rfl, by simp⟩ ?_
  rintro i _ _ next hi ⟨rfl, rfl, hp⟩ hn
  refine ⟨_, _, _, rfl, ?_⟩
  by_cases hlt : i < xs.length
  ·obtain ⟨b, o, ha, c1, c2, c3⟩ := Qj hs hlt
   have hi' : i < ys.length := by omega
   obtain ⟨b', o', ha', d1, d2, d3⟩ := Qj ht hi'
   refine aH (by simp [ls, hlt]) ?_
   simp only [vm, ls, lt, ha, ha', c1, c2, c3, d1, d2, d3, az (n := i) (by omega)]
   refine ⟨by omega, by omega, Ck ⟨_, rfl, ad (fun he => ?_) (fun he => ?_)⟩⟩
   ·rwa [decide_eq_false (fun e => by subst e; simp at he)] at k
   ·refine hn hlt _ _ ⟨rfl, rfl, uq hlt hi' hp ?_⟩
    have he' : ((xs[i].v : Int) = ys[i].v /\ (xs[i].lo : Int) = ys[i].lo /\ (xs[i].hi : Int) = ys[i].hi) := by simpa using he
    have : ∀ a b : Nd, (a.v : Int) = b.v /\ (a.lo : Int) = b.lo /\ (a.hi : Int) = b.hi -> a = b := by
     intro ⟨a, b, c⟩ ⟨a', b', c'⟩ hh; simp only [Nd.mk.injEq]; simp only at hh; omega
    exact this _ _ he'
  ·have : i = xs.length := by omega
   subst this
   refine ak (by simp [ls]) ?_
   rw [List.take_length, hl, List.take_length] at hp
   rwa [decide_eq_true hp] at k
 ·refine aH (by simp [ls, lt]; omega) ?_
  rwa [decide_eq_false (fun e => hl (by rw [e]))] at k
theorem cH {h : Hp} {s t : Sl} {xs ys : List Nd} {v r v' r' : Int} {R : Value -> Hp -> Prop} (hs : SlC h s 3 (aX xs)) (ht : SlC h t 3 (aX ys))
  (k : R (.bool (decide (v = v' /\ xs = ys /\ r = r'))) h) : bQ #[.agg #[I v, s.v, I r], .agg #[I v', t.v, I r']] h R := by
 refine ACalls.drop (GT ?_)
 refine uf_ ?_
 intro b1 hb1
 simp only [vm, mm]
 rintro b2 ⟨n21, hb2⟩
 have n12 := n21.symm
 have l0 := dt [I v', t.v, I r'] 3 hb2 (dr [I v, s.v, I r] 3 hb1)
 simp only [vm, mm, n12, n21, ne_eq, not_false_eq_true]
 refine ad (fun e => ⟨_, l0, ?_⟩) (fun e => ?_)
 ·have : ¬ v = v' := by simpa using e
  simpa [this] using k
 have e1 : v = v' := by simpa using e
 refine AV (hs.mono l0) (ht.mono l0) ⟨_, rfl, ad (fun e => ⟨_, l0, ?_⟩) (fun e => ?_)⟩
 ·have : ¬ xs = ys := by simpa using e
  simpa [this] using k
 have e2 : xs = ys := by simpa using e
 simp only [vm, mm, n12, n21, ne_eq, not_false_eq_true]
 refine ad (fun e => ⟨_, l0, ?_⟩) (fun e => ⟨_, l0, ?_⟩)
 ·have : ¬ r = r' := by simpa using e
  simpa [this] using k
 have e3 : r = r' := by simpa using e
 simpa [e1, e2, e3] using k
theorem Mk {cs : List Value} {i : Nat} {k : Int} (hl : i * 3 + 3 <= cs.length) (hp : cs.take (i * 3) = bK k (i * 3)) (x y z : Value)
  (hx : x = I (k + (i * 3 : Nat))) (hy : y = I (k + (i * 3 + 1 : Nat))) (hz : z = I (k + (i * 3 + 2 : Nat))) :
  (((cs.set (i * 3) x).set (i * 3 + 1) y).set (i * 3 + 2) z).take ((i + 1) * 3) = bK k ((i + 1) * 3) := by
 rw [show (i + 1) * 3 = i * 3 + 2 + 1 by omega, jT _ (by simp; omega), jT _ (by simp; omega), jT _ (by omega), hp]
 subst hx; subst hy; subst hz
 simp only [bK, List.range_succ, List.map_append, List.map_cons, List.map_nil]
theorem yv {h : Hp} {s : Sl} {cs : List Value} {k0 : Int} {R : Value -> Hp -> Prop} (hs : Own h s 3 cs) (h0 : 0 <= k0) (hk : k0 + s.n * 3 <= 9223372036854775807)
  (k : ∀ h', (h.wo s.used).le h' -> Own h' s 3 (bK k0 (s.n * 3)) -> R (I (k0 + s.n * 3)) h') : gE #[s.v, I k0] h R := by
 apply u5
 refine uf_ ?_
 by_cases hn0 : s.n = 0
 ·refine aq 0 (fun i vs h' => vs = [s.v, I k0, I i] /\ h' = h) ⟨rfl, rfl⟩ ?_
  rintro i _ _ next hi ⟨rfl, rfl⟩ hn
  refine ⟨_, _, _, rfl, ak (by simp [hn0]) ?_⟩
  have := k _ (mS _ _) ⟨by simp [hn0, bK], hs.2.1, .inl hn0⟩
  simpa [hn0] using this
 obtain ⟨b, z, ha, hb⟩ := hs.2.2.resolve_left hn0
 refine aq s.n (fun i vs h' => vs = [s.v, I (k0 + (i * 3 : Nat)), I i] /\ ∃ cs', h' = h.set b (some (.inl ⟨cs', z, false⟩)) /\ cs'.length = s.n * 3 /\ cs'.take (i * 3) = bK k0 (i * 3))
  ⟨by simp, cs, ?_, hs.1, by simp [bK]⟩ ?_
 ·funext c
  by_cases hc : c = b
  ·subst hc; rw [Hp.set_eq, hb]
  ·rw [Hp.set_ne _ _ hc]
 rintro i _ _ next hi ⟨rfl, cs', rfl, hcl, hp⟩ hn
 refine ⟨_, _, _, rfl, ?_⟩
 have hrow : ∀ cs', h.set b (some (.inl ⟨cs', z, false⟩)) = h.row b cs' z := fun _ => rfl
 by_cases hlt : i < s.n
 ·refine aH (by simp [hlt]) ?_
  have w1 : W (k0 + (i * 3 : Nat) + 1) = k0 + (i * 3 + 1 : Nat) := by rw [cc (by omega) (by omega)]; omega
  have w2 : W (k0 + (i * 3 + 1 : Nat) + 1) = k0 + (i * 3 + 2 : Nat) := by rw [cc (by omega) (by omega)]; omega
  have w3 : W (k0 + (i * 3 + 2 : Nat) + 1) = k0 + ((i + 1) * 3 : Nat) := by rw [cc (by omega) (by omega)]; omega
  simp only [vm, mm, ha, hrow, w1, w2, w3, az (n := i) (by omega), List.length_set]
  refine ⟨by omega, by omega, by omega, by omega, by omega, by omega, hn hlt _ _ ⟨rfl, _, rfl, by simpa using hcl, Mk (by omega) hp _ _ _ rfl rfl rfl⟩⟩
 ·have : i = s.n := by omega
  subst this
  rw [<- hcl, List.take_length, hcl] at hp
  subst hp
  refine ak (by simp) ?_
  have := k (h.set b (some (.inl ⟨bK k0 (s.n * 3), z, false⟩))) ?_ ⟨by simp [bK], hs.2.1, .inr ⟨b, z, ha, Hp.set_eq ..⟩⟩
  ·simpa using this
  ·refine kl _ (mS _ _) (dJ ?_)
   simp [Sl.used, hn0, Sl.blk, ha]
theorem yl {h : Hp} {s : Sl} {k0 : Int} {R : Value -> Hp -> Prop} (hs : SlC h s 3 (bK k0 (s.n * 3))) (h0 : 0 <= k0) (hk : k0 + s.n * 3 <= 9223372036854775807)
  (k : R (I (k0 + s.n * 3)) h) : gC #[s.v, I k0] h R := by
 apply vb
 refine uf_ ?_
 refine aq s.n (fun i vs h' => vs = [s.v, I (k0 + (i * 3 : Nat)), I i] /\ h' = h) ⟨by simp, rfl⟩ ?_
 rintro i _ _ next hi ⟨rfl, rfl⟩ hn
 refine ⟨_, _, _, rfl, ?_⟩
 by_cases hlt : i < s.n
 ·obtain ⟨b, o, ha, hc⟩ := hs.get (by omega)
  have c1 := hc (i * 3) (I (k0 + (i * 3 : Nat))) (by rw [bK, List.getElem?_map, List.getElem?_range (by omega)]; rfl)
  have c2 := hc (i * 3 + 1) (I (k0 + (i * 3 + 1 : Nat))) (by rw [bK, List.getElem?_map, List.getElem?_range (by omega)]; rfl)
  have c3 := hc (i * 3 + 2) (I (k0 + (i * 3 + 2 : Nat))) (by rw [bK, List.getElem?_map, List.getElem?_range (by omega)]; rfl)
  rw [<- Nat.add_assoc] at c2 c3
  have w1 : W (k0 + (i * 3 : Nat) + 1) = k0 + (i * 3 + 1 : Nat) := by rw [cc (by omega) (by omega)]; omega
  have w2 : W (k0 + (i * 3 + 1 : Nat) + 1) = k0 + (i * 3 + 2 : Nat) := by rw [cc (by omega) (by omega)]; omega
  have w3 : W (k0 + (i * 3 + 2 : Nat) + 1) = k0 + ((i + 1) * 3 : Nat) := by rw [cc (by omega) (by omega)]; omega
  refine aH (by simp [hlt]) ?_
  simp only [vm, ha, c1, c2, c3, w1, w2, w3, az (n := i) (by omega)]
  refine ⟨by omega, ak (by simp) ⟨by omega, ak (by simp) ⟨by omega, ak (by simp) (hn hlt _ _ ⟨rfl, rfl⟩)⟩⟩⟩
 ·have : i = s.n := by omega
  subst this
  refine ak (by simp) ?_
  simpa using k
theorem gi {h : Hp} {s : Sl} {cs : List Value} {v r k0 : Int} {R : Value -> Hp -> Prop} (hs : Own h s 3 cs) (h0 : 0 <= k0) (hk : k0 + s.n * 3 <= 9223372036854775807)
  (k : ∀ h', (h.wo s.used).le h' -> Own h' s 3 (bK k0 (s.n * 3)) -> R (I (k0 + s.n * 3)) h') : dU #[.agg #[I v, s.v, I r], I k0] h R := by
 apply Ct
 refine uf_ ?_
 intro b hb
 have l0 := dr [I v, s.v, I r] 3 hb
 simp only [vm, mm]
 refine yv (hs.mono l0) h0 hk fun h1 l1 ho => ⟨_, rfl, k _ (Hp.le_trans (nk (Hp.le_trans (mS _ _) l0) fun c hc => dJ hc) l1) ho⟩
theorem cW {h : Hp} {s : Sl} {v r k0 : Int} {R : Value -> Hp -> Prop} (hs : SlC h s 3 (bK k0 (s.n * 3))) (h0 : 0 <= k0) (hk : k0 + s.n * 3 <= 9223372036854775807)
  (k : R (I (k0 + s.n * 3)) h) : cj #[.agg #[I v, s.v, I r], I k0] h R := by
 refine ACalls.drop (B9 ?_)
 refine uf_ ?_
 intro b hb
 have l0 := dr [I v, s.v, I r] 3 hb
 simp only [vm, mm]
 exact yl (hs.mono l0) h0 hk ⟨_, rfl, ak (by simp; omega) ⟨_, l0, k⟩⟩
def qF (h : Hp) (s : Sl) (xs : List Int) : Prop := Buf h s 1 (xs.map I)
theorem qF.len {h : Hp} {s : Sl} {xs : List Int} (e : qF h s xs) : s.n = xs.length := by have := e.1; simp at this; omega
theorem qF.ints {h : Hp} {s : Sl} {xs : List Int} (e : qF h s xs) (hn : xs.length <= 1048576) : IntS h s xs := Buf.slc e (by rw [e.len]; omega)
theorem qF.mono {h h' : Hp} {s : Sl} {xs : List Int} (l : h.le h') (e : qF h s xs) : qF h' s xs := Buf.mono l e
theorem H0 {h : Hp} {s : Sl} {xs : List Int} {x : Int} {b : Nat} {K : Option Addr -> Nat -> Nat -> Hp -> Prop} (hb : qF h s xs) (hl : xs.length <= 1048576) (hc : Hp.cell h b 0 = some (I x))
  (k : ∀ (s' : Sl) (h' : Hp), qF h' s' (xs ++ [x]) -> (h.offS s).le (h'.offS s') -> K s'.a s'.n s'.c h') : dW h s.a s.n s.c (some ⟨b, 0, none⟩) 1 1 8 K := by
 refine dg hb (by omega) (by rw [hb.len]; omega) (by rw [hb.len]; omega) ⟨b, 0, rfl, fun i v hi => ?_⟩ (news := [I x]) rfl rfl ?_
 ·cases i with
  | zero => simp at hi; subst hi; exact hc
  | succ i => simp at hi
 ·intro s' h' hn hbuf hle _
  exact k s' h' (by unfold qF; rw [List.map_append]; exact hbuf) hle
structure eX (h h' : Hp) (t : Sl) (set : List Int) : Prop where
 buf : qF h' t set
 le : h.le (h'.offS t)
theorem eX.keep {h h' : Hp} {t : Sl} {set : List Int} (e : eX h h' t set) : h.le h' := Hp.le_trans e.le (aO _ _)
theorem eX.app {h h' : Hp} {t : Sl} {set : List Int} {x : Int} {b : Nat} {K : Option Addr -> Nat -> Nat -> Hp -> Prop} (e : eX h h' t set) (hl : set.length <= 1048576) (hb : h' b = none)
  (k : ∀ (t' : Sl) (h'' : Hp), eX h h'' t' (set ++ [x]) -> K t'.a t'.n t'.c h'') : dW (h'.row b [I x] 1) t.a t.n t.c (some ⟨b, 0, none⟩) 1 1 8 K := by
 have l := dr [I x] 1 hb
 refine H0 (e.buf.mono l) hl (mP _ _ _ _ _) fun t' h'' hb' hl' => k t' h'' ⟨hb', Hp.le_trans (Hp.le_trans e.le (bJ t l)) hl'⟩
theorem eX.own {h h' : Hp} {t : Sl} {set : List Int} (e : eX h h' t set) (hl : set.length <= 1048576) : Own (h'.sub h) t 1 (set.map I) := by
 have hn := e.buf.len
 refine ⟨e.buf.1, by omega, ?_⟩
 rcases e.buf.2.2 with ⟨_, h0, _⟩ | ⟨b, ha, hb⟩
 ·exact .inl h0
 ·refine .inr ⟨b, t.c * 1, ha, ?_⟩
  rw [jB]
  ·exact hb
  ·refine aw e.le ?_
   simp [Hp.offS, ha, Hp.off, Hp.set]
theorem eQ.all {v : Int} {l : List Int} (e : eQ v l = true) : ∀ x ∈ l, x ≠ 0 /\ -v <= x /\ x <= v := fun x hx => CQ.iff.1 (eQ.lit e hx)
def w9 (set : List Int) : List (Value × Value) := set.map fun x => (I x, .bool true)
theorem M5 (set : List Int) (n : Int) : ∃ res, eD (Instr.sameNow (.int .i64) (I n)) (w9 set) 0 = some res /\ Option.getD (Option.map (fun p => p.2) res) (.bool false) = .bool (set.contains n) /\
  rO (w9 set) (I n) (.bool true) res = w9 (if set.contains n then set else set ++ [n]) := by
 unfold w9
 rcases mK (Instr.sameNow (.int .i64) (I n)) (fun x : Int => I x) (fun _ => .bool true) (fun x => n == x) set 0 (fun x _ => HX _ _ _) with ⟨hno, hm⟩ | ⟨j, hj, hyes, _, hm⟩
 ·have hc : set.contains n = false := by
   rw [Bool.eq_false_iff]; intro h
   have := hno n (by simpa using h)
   simp at this
  exact ⟨_, hm, by rw [hc]; rfl, by rw [hc]; simp [rO]⟩
 ·have he : n = set[j] := by simpa using hyes
  have hc : set.contains n = true := by
   rw [he]; simp
  refine ⟨_, hm, by rw [hc]; rfl, ?_⟩
  rw [hc, if_pos rfl]
  simp only [rO, Nat.zero_add]
  apply List.ext_getElem
  ·simp
  ·intro i h1 h2
   rw [List.getElem_set]
   split
   ·rename_i hij; subst hij; simp [he]
   ·rfl
structure SV (h h' : Hp) (rm : Nat) (set : List Int) : Prop where
 map : h' rm = some (.inr (w9 set))
 le : h.le h'
 new : h rm = none
theorem SV.put {h h' : Hp} {rm : Nat} {set set' : List Int} (e : SV h h' rm set) : SV h (h'.set rm (some (.inr (w9 set')))) rm set' :=
 ⟨Hp.set_eq .., kl _ e.le e.new, e.new⟩
structure di (h h' : Hp) (t : Sl) (xss : List (List Int)) : Prop where
 buf : ∃ ts : List Sl, Buf h' t 1 (ts.map Sl.v) /\ ts.length = xss.length /\ ∀ (i : Nat) (h1 : i < ts.length) (h2 : i < xss.length), IntS h ts[i] xss[i]
 le : h.le (h'.offS t)
theorem di.keep {h h' : Hp} {t : Sl} {xss : List (List Int)} (e : di h h' t xss) : h.le h' := Hp.le_trans e.le (aO _ _)
theorem di.ints {h h' : Hp} {t : Sl} {xss : List (List Int)} (e : di h h' t xss) (hl : xss.length <= 1048576) : IntSS h' t xss := by
 obtain ⟨ts, hb, h1, h2⟩ := e.buf
 have hn : t.n = xss.length := by have := hb.1; simp at this; omega
 exact ⟨ts, h1, hb.slc (by omega), fun i a b => (h2 i a b).mono e.keep⟩
theorem di.app {h h' : Hp} {t u : Sl} {xss : List (List Int)} {x : List Int} {b : Nat} {K : Option Addr -> Nat -> Nat -> Hp -> Prop} (e : di h h' t xss) (hl : xss.length <= 1048576) (hu : IntS h u x) (hb : h' b = none)
  (k : ∀ (t' : Sl) (h'' : Hp), di h h'' t' (xss ++ [x]) -> K t'.a t'.n t'.c h'') : dW (h'.row b [u.v] 1) t.a t.n t.c (some ⟨b, 0, none⟩) 1 1 24 K := by
 have l := dr [u.v] 1 hb
 obtain ⟨ts, hbuf, h1, h2⟩ := e.buf
 have hn : t.n = xss.length := by have := hbuf.1; simp at this; omega
 refine dg (hbuf.mono l) (by omega) (by omega) (by omega) ⟨b, 0, rfl, fun i v hi => ?_⟩ (news := [u.v]) rfl rfl ?_
 ·cases i with
  | zero => simp at hi; subst hi; exact mP _ _ _ _ _
  | succ i => simp at hi
 ·intro t' h'' hn' hb' hle _
  refine k t' h'' ⟨⟨ts ++ [u], by rw [List.map_append]; exact hb', by simp [h1], ?_⟩, Hp.le_trans (Hp.le_trans e.le (bJ t l)) hle⟩
  intro i a c
  by_cases hi : i < ts.length
  ·rw [List.getElem_append_left hi, List.getElem_append_left (by omega)]; exact h2 i hi (by omega)
  ·have : i = ts.length := by simp at a; omega
   subst this
   simp only [List.getElem_append_right (Nat.le_refl _), Nat.sub_self, List.getElem_cons_zero]
   simp only [h1, List.getElem_append_right (Nat.le_refl _), Nat.sub_self, List.getElem_cons_zero]
   exact hu
def rv (S : List Int) (l : List Int) : Prop :=
 (∃ x ∈ l, x ∈ S) \/ ∃ x ∈ l, ∃ y ∈ l, x ≠ y /\ (x ∉ S /\ -x ∉ S) /\ (y ∉ S /\ -y ∉ S)
def Ko (S : List Int) : Prop := ∀ x ∈ S, -x ∉ S
def WfL (v : Int) (l : List Int) : Prop := ∀ x ∈ l, x ≠ 0 /\ -v <= x /\ x <= v
def WfC (v : Int) (c : List (List Int)) : Prop := ∀ l ∈ c, WfL v l
theorem zV (set : List Int) : ∀ (l : List Int) (left : Int), (∀ x ∈ l, x ≠ 0) -> (left ≠ 0 -> left ∉ set /\ -left ∉ set) ->
  (fh set l left = (0, false) /\ ((∃ x ∈ l, x ∈ set) \/ ∃ x ∈ l, ∃ y ∈ left :: l, y ≠ 0 /\ x ≠ y /\ (x ∉ set /\ -x ∉ set) /\ (y ∉ set /\ -y ∉ set))) \/
  ((fh set l left).2 = ((fh set l left).1 == 0) /\ (left ≠ 0 -> (fh set l left).1 = left) /\ ∀ x ∈ l, x = (fh set l left).1 \/ -x ∈ set) := by
 intro l
 induction l with
 | nil => intro left _ _; exact .inr ⟨rfl, fun _ => rfl, by simp⟩
 | cons x r ih =>
  intro left hx ho
  have hr := fun y hy => hx y (List.mem_cons_of_mem _ hy)
  have hx0 := hx x (by simp)
  simp only [fh]
  by_cases h1 : set.contains x = true
  ·rw [if_pos h1]; exact .inl ⟨rfl, .inl ⟨x, by simp, by simpa using h1⟩⟩
  rw [if_neg h1]
  by_cases h2 : set.contains (-x) = true
  ·rw [if_pos h2]
   rcases ih left hr ho with ⟨e, h⟩ | ⟨e, h, h'⟩
   ·refine .inl ⟨e, ?_⟩
    rcases h with ⟨z, hz, hs⟩ | ⟨z, hz, y, hy, h⟩
    ·exact .inl ⟨z, by simp [hz], hs⟩
    ·refine .inr ⟨z, by simp [hz], y, ?_, h⟩
     rcases List.mem_cons.1 hy with rfl | hy
     ·simp
     ·simp [hy]
   ·refine .inr ⟨e, h, ?_⟩
    intro z hz
    rcases List.mem_cons.1 hz with rfl | hz
    ·exact .inr (by simpa using h2)
    ·exact h' z hz
  rw [if_neg h2]
  have hxo : x ∉ set /\ -x ∉ set := ⟨by simpa using h1, by simpa using h2⟩
  by_cases h3 : (left != 0 && left != x) = true
  ·rw [if_pos h3]
   simp at h3
   exact .inl ⟨rfl, .inr ⟨x, by simp, left, by simp, h3.1, fun e => h3.2 e.symm, hxo, ho h3.1⟩⟩
  rw [if_neg h3]
  have hl : left ≠ 0 -> left = x := by simpa using h3
  rcases ih x hr (fun _ => hxo) with ⟨e, h⟩ | ⟨e, h, h'⟩
  ·refine .inl ⟨e, ?_⟩
   rcases h with ⟨z, hz, hs⟩ | ⟨z, hz, y, hy, h⟩
   ·exact .inl ⟨z, by simp [hz], hs⟩
   ·exact .inr ⟨z, by simp [hz], y, List.mem_cons_of_mem _ hy, h⟩
  ·refine .inr ⟨e, fun h0 => ?_, ?_⟩
   ·rw [h hx0, hl h0]
   ·intro z hz
    rcases List.mem_cons.1 hz with rfl | hz
    ·exact .inl (h hx0).symm
    ·exact h' z hz
theorem MY {set S l : List Int} (hs : set ⊆ S) (hc : Ko S) (hl : ∀ x ∈ l, x ≠ 0) (st : rv S l) :
  (fh set l 0).2 = false /\ ((fh set l 0).1 ≠ 0 -> (fh set l 0).1 ∈ S) := by
 rcases zV set l 0 hl (fun h => absurd rfl h) with ⟨e, _⟩ | ⟨e, _, h⟩
 ·rw [e]; exact ⟨rfl, fun h => absurd rfl h⟩
 ·obtain ⟨x, hx, hn, hS⟩ : ∃ x ∈ l, x = (fh set l 0).1 /\ x ∈ S := by
   rcases st with ⟨x, hx, hS⟩ | ⟨x, hx, y, hy, hne, hxo, hyo⟩
   ·rcases h x hx with h1 | h1
    ·exact ⟨x, hx, h1, hS⟩
    ·exact absurd (hs h1) (hc x hS)
   ·rcases h x hx with h1 | h1
    ·rcases h y hy with h2 | h2
     ·exact absurd (h1.trans h2.symm) hne
     ·exact absurd (hs h2) hyo.2
    ·exact absurd (hs h1) hxo.2
  rw [e, <- hn]
  exact ⟨by simpa using hl x hx, fun _ => hS⟩
theorem F6 {set l : List Int} (hl : ∀ x ∈ l, x ≠ 0) (h1 : (fh set l 0).2 = false) (h2 : (fh set l 0).1 = 0) : rv set l := by
 rcases zV set l 0 hl (fun h => absurd rfl h) with ⟨e, h⟩ | ⟨e, _, h⟩
 ·refine h.imp id ?_
  rintro ⟨x, hx, y, hy, hy0, h⟩
  rcases List.mem_cons.1 hy with rfl | hy
  ·exact absurd rfl hy0
  ·exact ⟨x, hx, y, hy, h⟩
 ·rw [h1, h2] at e; simp at e
theorem FI {S : List Int} (hc : Ko S) : ∀ (cls : List (List Int)) (set : List Int) (more : Bool), set ⊆ S -> (∀ l ∈ cls, (∀ x ∈ l, x ≠ 0) /\ rv S l) ->
  ∃ set' more', jU cls set more = some (set', more') /\ set' ⊆ S := by
 intro cls
 induction cls with
 | nil => intro set more hs _; exact ⟨set, more, rfl, hs⟩
 | cons l r ih =>
  intro set more hs hl
  have h := MY hs hc (hl l (by simp)).1 (hl l (by simp)).2
  have hr := fun l' h' => hl l' (List.mem_cons_of_mem _ h')
  simp only [jU, h.1, Bool.false_eq_true, if_false]
  split
  ·rename_i hne
   refine ih _ _ ?_ hr
   intro x hx
   rcases List.mem_append.1 hx with hx | hx
   ·exact hs hx
   ·simp only [List.mem_singleton] at hx; subst hx; exact h.2 (by simpa using hne)
  ·exact ih _ _ hs hr
theorem HV : ∀ (cls : List (List Int)) (set : List Int) (more : Bool) (set' : List Int) (more' : Bool), jU cls set more = some (set', more') -> set ⊆ set' := by
 intro cls
 induction cls with
 | nil => intro set more set' more' h; simp only [jU, Option.some.injEq, Prod.mk.injEq] at h; rw [h.1]; exact fun x hx => hx
 | cons l r ih =>
  intro set more set' more' h
  simp only [jU] at h
  split at h
  ·cases h
  ·split at h
   ·exact fun x hx => ih _ _ _ _ h (List.mem_append_left _ hx)
   ·exact ih _ _ _ _ h
theorem yw : ∀ (cls : List (List Int)) (set : List Int) (more : Bool) (set' : List Int), (∀ l ∈ cls, ∀ x ∈ l, x ≠ 0) -> jU cls set more = some (set', false) ->
  more = false /\ set' = set /\ ∀ l ∈ cls, rv set l := by
 intro cls
 induction cls with
 | nil => intro set more set' _ h; simp only [jU, Option.some.injEq, Prod.mk.injEq] at h; exact ⟨h.2, h.1.symm, by simp⟩
 | cons l r ih =>
  intro set more set' hl h
  have hr := fun l' h' => hl l' (List.mem_cons_of_mem _ h')
  simp only [jU] at h
  split at h
  ·cases h
  ·rename_i h1
   split at h
   ·have := (ih _ _ _ hr h).1; cases this
   ·rename_i h2
    obtain ⟨e1, e2, e3⟩ := ih _ _ _ hr h
    refine ⟨e1, e2, ?_⟩
    intro l' h'
    rcases List.mem_cons.1 h' with rfl | h'
    ·exact F6 (hl _ (by simp)) (by simpa using h1) (by simpa using h2)
    ·exact e3 l' h'
theorem rA {cls : List (List Int)} {set : List Int} {v : Int} (hv0 : 0 <= v) (hv : v <= 10) (hc : WfC v cls) (k : ny v set) :
  iR cls set = match jU cls set false with | none => none | some (set', more) => if more then iR cls set' else some set' := by
 rw [iR]
 cases hp : jU cls set false with
 | none => rfl
 | some p =>
  obtain ⟨set', more⟩ := p
  obtain ⟨k', hl, hm⟩ := mJ cls set false k hc _ _ hp
  cases more with
  | false => rfl
  | true =>
   have h1 : set.length < set'.length := by
    rcases hm rfl with h | h
    ·cases h
    ·exact h
   have h2 := k'.len hv hv0
   simp [h1, h2]
theorem H1 {S : List Int} (hS : Ko S) {cls : List (List Int)} {v : Int} (hv0 : 0 <= v) (hv : v <= 10) (hc : WfC v cls) (hst : ∀ l ∈ cls, rv S l) :
  ∀ (n : Nat) (set : List Int), 20 - set.length <= n -> ny v set -> set ⊆ S -> ∃ set', iR cls set = some set' /\ set' ⊆ S := by
 intro n
 induction n with
 | zero =>
  intro set hn k hs
  obtain ⟨set', more', hp, hs'⟩ := FI hS cls set false hs (fun l h => ⟨fun x hx => (hc l h x hx).1, hst l h⟩)
  obtain ⟨k', hl, hm⟩ := mJ cls set false k hc _ _ hp
  have h2 := k'.len hv hv0
  rw [rA hv0 hv hc k, hp]
  cases more' with
  | false => exact ⟨set', rfl, hs'⟩
  | true =>
   rcases hm rfl with h | h
   ·cases h
   ·omega
 | succ n ih =>
  intro set hn k hs
  obtain ⟨set', more', hp, hs'⟩ := FI hS cls set false hs (fun l h => ⟨fun x hx => (hc l h x hx).1, hst l h⟩)
  obtain ⟨k', hl, hm⟩ := mJ cls set false k hc _ _ hp
  rw [rA hv0 hv hc k, hp]
  cases more' with
  | false => exact ⟨set', rfl, hs'⟩
  | true =>
   rcases hm rfl with h | h
   ·cases h
   ·exact ih set' (by omega) k' hs'
theorem CO {cls : List (List Int)} {v : Int} (hv0 : 0 <= v) (hv : v <= 10) (hc : WfC v cls) :
  ∀ (n : Nat) (set set' : List Int), 20 - set.length <= n -> ny v set -> iR cls set = some set' -> set ⊆ set' /\ ny v set' /\ ∀ l ∈ cls, rv set' l := by
 intro n
 induction n with
 | zero =>
  intro set set' hn k h
  rw [rA hv0 hv hc k] at h
  cases hp : jU cls set false with
  | none => rw [hp] at h; cases h
  | some p =>
   obtain ⟨s, more⟩ := p
   rw [hp] at h
   obtain ⟨k', hl, hm⟩ := mJ cls set false k hc _ _ hp
   have h2 := k'.len hv hv0
   cases more with
   | true =>
    rcases hm rfl with h | h
    ·cases h
    ·omega
   | false =>
    simp only [Bool.false_eq_true, if_false, Option.some.injEq] at h
    subst h
    have := yw cls set false s (fun l h x hx => (hc l h x hx).1) hp
    rw [this.2.1]
    exact ⟨fun x hx => hx, k, this.2.2⟩
 | succ n ih =>
  intro set set' hn k h
  rw [rA hv0 hv hc k] at h
  cases hp : jU cls set false with
  | none => rw [hp] at h; cases h
  | some p =>
   obtain ⟨s, more⟩ := p
   rw [hp] at h
   obtain ⟨k', hl, hm⟩ := mJ cls set false k hc _ _ hp
   cases more with
   | true =>
    rcases hm rfl with h' | h'
    ·cases h'
    ·simp only [if_true] at h
     obtain ⟨a, b, c⟩ := ih s set' (by omega) k' h
     exact ⟨fun x hx => a (HV _ _ _ _ _ hp hx), b, c⟩
   | false =>
    simp only [Bool.false_eq_true, if_false, Option.some.injEq] at h
    subst h
    have := yw cls set false s (fun l h x hx => (hc l h x hx).1) hp
    rw [this.2.1]
    exact ⟨fun x hx => hx, k, this.2.2⟩
theorem J5 {S : List Int} (hS : Ko S) : ∀ (g set : List Int), g ⊆ S -> set ⊆ S -> ∃ set', pv g set = some set' /\ set' ⊆ S := by
 intro g
 induction g with
 | nil => intro set _ hs; exact ⟨set, rfl, hs⟩
 | cons x r ih =>
  intro set hg hs
  have hx : x ∈ S := hg (by simp)
  have hr : r ⊆ S := fun y hy => hg (List.mem_cons_of_mem _ hy)
  have hn : ¬ set.contains (-x) = true := fun h => hS x hx (hs (by simpa using h))
  simp only [pv, if_neg hn]
  refine ih _ hr ?_
  split
  ·exact hs
  ·intro y hy
   rcases List.mem_append.1 hy with hy | hy
   ·exact hs hy
   ·simp only [List.mem_singleton] at hy; subst hy; exact hx
theorem J6 : ∀ (g set set' : List Int), pv g set = some set' -> set ⊆ set' /\ g ⊆ set' := by
 intro g
 induction g with
 | nil => intro set set' h; simp only [pv, Option.some.injEq] at h; subst h; exact ⟨fun x hx => hx, by simp⟩
 | cons x r ih =>
  intro set set' h
  simp only [pv] at h
  split at h
  ·cases h
  ·obtain ⟨h1, h2⟩ := ih _ _ h
   split at h1
   ·rename_i hx
    refine ⟨h1, ?_⟩
    intro y hy
    rcases List.mem_cons.1 hy with rfl | hy
    ·exact h1 (by simpa using hx)
    ·exact h2 hy
   ·refine ⟨fun y hy => h1 (List.mem_append_left _ hy), ?_⟩
    intro y hy
    rcases List.mem_cons.1 hy with rfl | hy
    ·exact h1 (by simp)
    ·exact h2 hy
section
variable {cls : List (List Int)} {given : List Int} {v : Int}
theorem Fc (hv0 : 0 <= v) (hv : v <= 10) (hc : WfC v cls) (hg : WfL v given) {S : List Int} (hS : Ko S) (hgS : given ⊆ S) (hst : ∀ l ∈ cls, rv S l) :
  ∃ set, hE cls given = some set /\ set ⊆ S := by
 obtain ⟨s, h1, h2⟩ := J5 hS given [] hgS (by simp)
 obtain ⟨s', h3, h4⟩ := H1 hS hv0 hv hc hst _ s (Nat.le_refl _) (xB given [] (Fo v) hg s h1) h2
 exact ⟨s', by rw [hE, h1]; exact h3, h4⟩
theorem rN (hv0 : 0 <= v) (hv : v <= 10) (hc : WfC v cls) (hg : WfL v given) {set : List Int} (h : hE cls given = some set) :
  Ko set /\ given ⊆ set /\ (∀ l ∈ cls, rv set l) /\ ny v set := by
 rw [hE] at h
 cases h1 : pv given [] with
 | none => rw [h1] at h; cases h
 | some s =>
  rw [h1] at h
  have k := xB given [] (Fo v) hg s h1
  obtain ⟨a, b, c⟩ := CO hv0 hv hc _ s set (Nat.le_refl _) k h
  exact ⟨b.cons, fun x hx => a ((J6 _ _ _ h1).2 hx), c, b⟩
theorem v8 (hv0 : 0 <= v) (hv : v <= 10) {cls' : List (List Int)} {given' : List Int} (hc : WfC v cls') (hg : WfL v given') (h1 : cls ⊆ cls') (h2 : given ⊆ given')
  (h : hE cls given = none) : hE cls' given' = none := by
 cases h' : hE cls' given' with
 | none => rfl
 | some set =>
  obtain ⟨a, b, c, _⟩ := rN hv0 hv hc hg h'
  obtain ⟨s, hs, _⟩ := Fc hv0 hv (fun l hl => hc l (h1 hl)) (fun x hx => hg x (h2 hx)) a (fun x hx => b (h2 hx)) (fun l hl => c l (h1 hl))
  rw [hs] at h; cases h
end
def fO (cls : List (List Int)) (p : List (List Int)) : Prop := ∀ (i : Nat) (h : i < p.length), hE (cls ++ p.take i) (p[i].map (- ·)) = none
theorem Bs {v : Int} {l : List Int} (h : WfL v l) : WfL v (l.map (- ·)) := by
 intro x hx
 obtain ⟨y, hy, rfl⟩ := List.mem_map.1 hx
 have := h y hy
 omega
theorem rK {v : Int} {a b : List (List Int)} (ha : WfC v a) (hb : WfC v b) : WfC v (a ++ b) := by
 intro l hl
 rcases List.mem_append.1 hl with h | h
 ·exact ha l h
 ·exact hb l h
theorem Ix {v : Int} {a : List (List Int)} (ha : WfC v a) (n : Nat) : WfC v (a.take n) := fun l hl => ha l (List.mem_of_mem_take hl)
theorem fO.mono {v : Int} (hv0 : 0 <= v) (hv : v <= 10) {cls cls' p : List (List Int)} (hc : WfC v cls') (hp : WfC v p) (hs : cls ⊆ cls') (h : fO cls p) : fO cls' p := by
 intro i hi
 refine v8 hv0 hv (rK hc (Ix hp i)) (Bs (hp _ (List.getElem_mem hi))) ?_ (fun x hx => hx) (h i hi)
 intro l hl
 rcases List.mem_append.1 hl with h | h
 ·exact List.mem_append_left _ (hs h)
 ·exact List.mem_append_right _ h
theorem fO.snoc {cls p : List (List Int)} {l : List Int} (h : fO cls p) (hl : hE (cls ++ p) (l.map (- ·)) = none) : fO cls (p ++ [l]) := by
 intro i hi
 by_cases hlt : i < p.length
 ·rw [List.getElem_append_left hlt, List.take_append_of_le_length (by omega)]
  exact h i hlt
 ·have : i = p.length := by simp at hi; omega
  subst this
  simp only [List.getElem_append_right (Nat.le_refl _), Nat.sub_self, List.getElem_cons_zero]
  rw [List.take_left' rfl]; exact hl
theorem fO.pre {cls p q : List (List Int)} (h : fO cls p) (hq : q <+: p) : fO cls q := by
 obtain ⟨r, rfl⟩ := hq
 intro i hi
 have := h i (by simp; omega)
 rwa [List.getElem_append_left hi, List.take_append_of_le_length (by omega)] at this
def rR (B : List Int) : Prop := ∀ (i : Nat) (h : i < B.length), B[i] = (i : Int) + 1 \/ B[i] = -((i : Int) + 1)
theorem rR.snoc {B : List Int} (h : rR B) {x : Int} (hx : x = (B.length : Int) + 1 \/ x = -((B.length : Int) + 1)) : rR (B ++ [x]) := by
 intro i hi
 by_cases hlt : i < B.length
 ·rw [List.getElem_append_left hlt]; exact h i hlt
 ·have : i = B.length := by simp at hi; omega
  subst this
  simp only [List.getElem_append_right (Nat.le_refl _), Nat.sub_self, List.getElem_cons_zero]
  exact hx
def cA : Nat -> (Nat -> Bool) -> Nat
 | 0, _ => 0
 | n + 1, f => cA n f + (if f n then 2 ^ n else 0)
theorem nV (n : Nat) (f : Nat -> Bool) : cA n f < 2 ^ n := by
 induction n with
 | zero => simp [cA]
 | succ n ih => simp only [cA, Nat.pow_succ]; split <;> omega
theorem oG (n : Nat) (f : Nat -> Bool) : ∀ i, i < n -> (cA n f).testBit i = f i := by
 induction n with
 | zero => intro i h; omega
 | succ n ih =>
  intro i hi
  have hl := nV n f
  simp only [cA]
  by_cases h : i = n
  ·subst h
   cases hf : f i with
   | true => rw [if_pos rfl, Nat.add_comm, Nat.testBit_two_pow_add_eq, Nat.testBit_lt_two_pow hl]; rfl
   | false => simp [Nat.testBit_lt_two_pow hl]
  ·cases hf : f n with
   | true => rw [if_pos rfl, Nat.add_comm, Nat.testBit_two_pow_add_gt (by omega)]; exact ih i (by omega)
   | false => simp only [Bool.false_eq_true, if_false, Nat.add_zero]; exact ih i (by omega)
structure MI (h : Hp) (K : Nat) (vars : Nat) (tb s : Sl) (ns : List Nd) : Prop where
 row : h K = some (.inl ⟨[I vars, tb.v, s.v], 3, false⟩)
 buf : Buf h s 3 (aX ns)
 own : ∀ a, s.a = some a -> a.block ≠ K
theorem MI.mono {h h' : Hp} {K vars : Nat} {tb s : Sl} {ns : List Nd} (l : h.le h') (e : MI h K vars tb s ns) : MI h' K vars tb s ns := ⟨l _ _ e.row, e.buf.mono l, e.own⟩
theorem MI.blkB {h : Hp} {K vars : Nat} {tb s : Sl} {ns : List Nd} (e : MI h K vars tb s ns) : ∀ b ∈ [K] ++ s.blk, ∃ x, h b = some x := by
 intro b hb
 simp only [List.cons_append, List.nil_append, List.mem_cons] at hb
 rcases hb with rfl | hb
 ·exact ⟨_, e.row⟩
 ·revert b hb
  refine rV.2 fun a ha => ?_
  rcases e.buf.2.2 with ⟨h0, _⟩ | ⟨c, hc, hcb⟩
  ·rw [h0] at ha; cases ha
  ·rw [hc] at ha; cases ha; exact ⟨_, hcb⟩
theorem MI.len {h : Hp} {K vars : Nat} {tb s : Sl} {ns : List Nd} (e : MI h K vars tb s ns) : s.n = ns.length := by
 have := e.buf.1; rw [dM] at this; omega
def cy (h : Hp) (t : Sl) (n : Nat) (T : Nat -> Bool) : Prop := np h t ((List.range n).map T)
theorem cy.mono {h h' : Hp} {t : Sl} {n : Nat} {T : Nat -> Bool} (l : h.le h') (e : cy h t n T) : cy h' t n T := np.mono l e
theorem nZ {h : Hp} {c : Bool} {R : Value -> Hp -> Prop} (k : R (I (if c then 1 else 0)) h) : gm #[.bool c] h R := by
 apply xq
 refine uf_ ?_
 cases c <;> exact k
theorem M1 {K vars : Nat} (hvars : vars <= 13) {tb : Sl} {T : Nat -> Bool} : ∀ (n v fixed : Nat) (h : Hp) (s : Sl) (ns : List Nd) (g : Hp) (R : Value -> Hp -> Prop),
  MI h K vars tb s ns -> g.le h -> g K = none -> (∀ a, s.a = some a -> g a.block = none) -> cy g tb (2 ^ vars) T -> v + n = vars -> fixed < 2 ^ v -> ns.length + 2 ^ n <= 1048576 ->
  (∀ s' h', MI h' K vars tb s' (mkD n (fun i => T (fixed + i * 2 ^ v)) v ns).2 -> g.le h' -> (∀ a, s'.a = some a -> g a.block = none) -> R (I (mkD n (fun i => T (fixed + i * 2 ^ v)) v ns).1) h') ->
  fo #[.pointer (some ⟨K, 0, none⟩), I v, I fixed] h R := by
 intro n
 induction n with
 | zero =>
  intro v fixed h s ns g R inv hg gK gs ht hv hfix hlen k
  apply nj
  refine uf_ ?_
  have hvv : v = vars := by omega
  subst hvv
  obtain ⟨b, o, ha, hc⟩ := (ht.mono hg).at (i := fixed) (by simp; exact hfix)
  have hl := ht.len
  simp only [List.length_map, List.length_range] at hl
  simp only [vm, af inv.row, mm]
  refine aH (by simp) ?_
  simp only [vm, mm, ha, hc, hl]
  have hfi : ((fixed : Nat) : Int) < ((2 ^ v : Nat) : Int) := by exact_mod_cast hfix
  refine ⟨hfi, nZ ⟨_, rfl, ?_⟩⟩
  have := k s h inv hg gs
  simp only [mkD, Nat.zero_mul, Nat.add_zero] at this
  have e0 : (((List.range (2 ^ v)).map T)[fixed]'(by simp; exact hfix)) = T fixed := by simp
  rw [e0]
  cases hT : T fixed <;> simpa [hT] using this
 | succ n ih =>
  intro v fixed h s ns g R inv hg gK gs ht hv hfix hlen k
  apply nj
  refine uf_ ?_
  have hp : 2 ^ (n + 1) = 2 * 2 ^ n := by rw [Nat.pow_succ]; omega
  have hpv : 2 ^ (v + 1) = 2 * 2 ^ v := by rw [Nat.pow_succ]; omega
  have hp1 : 0 < 2 ^ n := Nat.pow_pos (by omega)
  have hv13 : 2 ^ v <= 8192 := by
   have := Nat.pow_le_pow_right (n := 2) (by omega) (show v <= 13 by omega)
   simpa using this
  simp only [vm, af inv.row, mm]
  refine ak (by simp; omega) ?_
  rw [az (by omega)]
  have elo : (fun i => T (fixed + 2 * i * 2 ^ v)) = fun i => T (fixed + i * 2 ^ (v + 1)) := by funext i; rw [hpv]; congr 2; rw [Nat.mul_comm 2 i, Nat.mul_assoc]
  have ehi : (fun i => T (fixed + (2 * i + 1) * 2 ^ v)) = fun i => T ((fixed + 2 ^ v) + i * 2 ^ (v + 1)) := by
   funext i; rw [hpv]; congr 1; rw [Nat.add_mul, Nat.one_mul, Nat.mul_comm 2 i, Nat.mul_assoc]; omega
  have hmk : mkD (n + 1) (fun i => T (fixed + i * 2 ^ v)) v ns =
    (let r1 := mkD n (fun i => T (fixed + i * 2 ^ (v + 1))) (v + 1) ns
     let r2 := mkD n (fun i => T ((fixed + 2 ^ v) + i * 2 ^ (v + 1))) (v + 1) r1.2
     if r1.1 = r2.1 then r2 else gz ⟨v, r1.1, r2.1⟩ r2.2) := by
   rw [<- elo, <- ehi]; rfl
  have len1 := rC n (fun i => T (fixed + i * 2 ^ (v + 1))) (v + 1) ns
  refine ih (v + 1) fixed h s ns g _ inv hg gK gs ht (by omega) (by omega) (by omega) ?_
  intro s3 h3 inv3 lg3 gs3
  refine ⟨_, rfl, ?_⟩
  rw [dl (by omega), if_neg (by omega), cu (by omega)]
  have w1 : W ((fixed : Int) + ((2 ^ v : Nat) : Int)) = ((fixed + 2 ^ v : Nat) : Int) := by rw [cc (by omega) (by omega)]; omega
  rw [w1]
  have len2 := rC n (fun i => T ((fixed + 2 ^ v) + i * 2 ^ (v + 1))) (v + 1) (mkD n (fun i => T (fixed + i * 2 ^ (v + 1))) (v + 1) ns).2
  refine ih (v + 1) (fixed + 2 ^ v) h3 s3 _ g _ inv3 lg3 gK gs3 ht (by omega) (by omega) (by omega) ?_
  intro s4 h4 inv4 lg4 gs4
  refine ⟨_, rfl, ?_⟩
  simp only at hmk
  generalize mkD n (fun i => T (fixed + i * 2 ^ (v + 1))) (v + 1) ns = r1 at *
  generalize mkD n (fun i => T ((fixed + 2 ^ v) + i * 2 ^ (v + 1))) (v + 1) r1.2 = r2 at *
  refine ad (fun e => ?_) (fun e => ?_)
  ·have e' : r1.1 = r2.1 := by simp at e; omega
   rw [if_pos e'] at hmk
   rw [hmk] at k
   rw [e']
   exact k s4 h4 inv4 lg4 gs4
  have e' : ¬ r1.1 = r2.1 := by simp at e; omega
  rw [if_neg e'] at hmk
  rw [hmk] at k
  have hnlen : r2.2.length <= 1048576 := by omega
  intro b5 hb5
  have nK := fresh_ne hb5 inv4.row
  have l5 := dr [I v, I r1.1, I r2.1] 3 hb5
  have hlen4 := inv4.len
  have hsl : SlC h4 s4 3 (aX r2.2) := inv4.buf.slc (by omega)
  refine ⟨by omega, ?_⟩
  refine aq r2.2.length (fun i vs h' => vs = [.pointer (some ⟨K, 0, none⟩), .pointer (some ⟨b5, 0, none⟩), I i] /\ h' = h4.row b5 [I v, I r1.1, I r2.1] 3 /\ ∀ j (hj : j < r2.2.length), j < i -> r2.2[j] ≠ ⟨v, r1.1, r2.1⟩) ⟨rfl, rfl, fun j _ h => by omega⟩ ?_
  rintro i _ _ next hi ⟨rfl, rfl, hp⟩ hn
  refine ⟨_, _, _, _, rfl, ?_⟩
  simp only [vm, mm, nK, ne_eq, not_false_eq_true, af inv4.row]
  by_cases hlt : i < r2.2.length
  ·obtain ⟨c, o, ha, c0, c1, c2⟩ := Qj (hsl.mono l5) hlt
   refine aH (by simp [hlen4, hlt]) ?_
   simp only [vm, mm, nK, ne_eq, not_false_eq_true, af inv4.row, hlen4, ha, c0, c1, c2]
   refine ⟨by omega, ad (fun e => ?_) (fun e => ?_)⟩
   ·have he : r2.2[i] = ⟨v, r1.1, r2.1⟩ := by
     have : r2.2[i].v = v /\ r2.2[i].lo = r1.1 /\ r2.2[i].hi = r2.1 := by simp at e; omega
     rcases hh : r2.2[i] with ⟨a, b, c⟩
     rw [hh] at this
     obtain ⟨rfl, rfl, rfl⟩ := this; rfl
    have hput : gz ⟨v, r1.1, r2.1⟩ r2.2 = (i + 2, r2.2) := by
     have : r2.2.idxOf? ⟨v, r1.1, r2.1⟩ = some i := by
      simp only [List.idxOf?, List.findIdx?_eq_some_iff_getElem]
      refine ⟨hlt, by simp [he], fun j hj => ?_⟩
      have := hp j (by omega) hj
      simpa using this
     simp [gz, this]
    rw [hput] at k
    have := k s4 _ (inv4.mono l5) (Hp.le_trans lg4 l5) gs4
    rw [cc (by omega) (by omega)]
    exact this
   ·rw [az (by omega)]
    refine hn hlt _ _ ⟨rfl, rfl, fun j hj hji => ?_⟩
    by_cases hjx : j = i
    ·subst hjx
     intro he
     rw [he] at e
     simp at e
    ·exact hp j hj (by omega)
  ·have : i = r2.2.length := by omega
   subst this
   have hput : gz ⟨v, r1.1, r2.1⟩ r2.2 = (r2.2.length + 2, r2.2 ++ [⟨v, r1.1, r2.1⟩]) := by
    have : r2.2.idxOf? ⟨v, r1.1, r2.1⟩ = none := by
     simp only [List.idxOf?, List.findIdx?_eq_none_iff]
     intro x hx
     obtain ⟨j, hj, rfl⟩ := List.getElem_of_mem hx
     have := hp j hj hj
     simpa using this
    simp [gz, this]
   rw [hput] at k
   refine ak (by simp [hlen4]) ?_
   rintro b6 ⟨n65, hb6⟩
   have nK6 := fresh_ne hb6 inv4.row
   have l6 := dt [I v, I r1.1, I r2.1] 3 (show (h4.row b5 [I v, I r1.1, I r2.1] 3) b6 = none by rw [th]; exact ⟨n65, hb6⟩) (Hp.le_refl _)
   have hH : h4.le ((h4.row b5 [I v, I r1.1, I r2.1] 3).row b6 [I v, I r1.1, I r2.1] 3) := Hp.le_trans l5 l6
   refine ⟨by rw [bC _ _ nK6, bC _ _ nK], ?_⟩
   refine dg ((inv4.buf.mono l5).mono l6) (by omega) (by omega) (by omega) ⟨b6, 0, rfl, ax (bg ..)⟩ (by simp) rfl ?_
   intro s7 h7 hn7 hb7 hl7 _
   obtain ⟨f7K, o7K⟩ := iG hl7 (hH _ _ inv4.row) inv4.own
   simp only [vm, mm, f7K]
   refine ⟨by omega, ?_⟩
   have e7 : W ((s7.n : Int) + 1) = ((r2.2.length + 2 : Nat) : Int) := by rw [hn7, hlen4, cc (by omega) (by omega)]; omega
   rw [e7]
   refine k s7 _ ⟨bg .., ?_, o7K⟩ ?_ ?_
   ·rw [tG]
    refine ⟨hb7.1, hb7.2.1, hb7.2.2.imp id ?_⟩
    rintro ⟨c, hc, hcb⟩
    exact ⟨c, hc, by rw [bC _ _ (o7K _ hc)]; exact hcb⟩
   ·intro c x hcx
    have hcB : c ≠ K := fun h => by rw [h, gK] at hcx; cases hcx
    rw [bC _ _ hcB]
    exact (iG hl7 (hH _ _ (lg4 _ _ hcx)) (fun a ha hac => by rw [<- hac, gs4 a ha] at hcx; cases hcx)).1
   ·intro a ha
    cases hg7 : g a.block with
    | none => rfl
    | some x =>
     exact absurd rfl ((iG hl7 (hH _ _ (lg4 _ _ hg7)) (fun a' ha' hac => by rw [<- hac, gs4 a' ha'] at hg7; cases hg7)).2 a ha)
theorem nW {h : Hp} {t : Sl} {n : Nat} {T : Nat -> Bool} {R : Value -> Hp -> Prop} (hn : n <= 13) (ht : cy h t (2 ^ n) T)
  (k : ∀ s h', h.le h' -> Own (h'.sub h) s 3 (aX (da n T).ns) -> R (.tuple #[.agg #[I (da n T).v, Sl.v s, I (da n T).r], .bool (da n T).ok]) h') : gh #[I n, t.v] h R := by
 apply IU
 refine uf_ ?_
 intro b4 hb4
 simp only [vm, mm]
 rintro b7 ⟨n74, hb7⟩
 have n47 := n74.symm
 have l4 := dr [I 0, .slice none 0 0, I 0] 3 hb4
 have hg7 : (h.row b4 [I 0, .slice none 0 0, I 0] 3) b7 = none := by rw [th]; exact ⟨n74, hb7⟩
 have l7 := dr [I n, t.v, .slice none 0 0] 3 hg7
 have h2 : 2 ^ n <= 8192 := by
  have := Nat.pow_le_pow_right (n := 2) (by omega) hn
  simpa using this
 have hml := rC n T 0 []
 simp only [List.length_nil] at hml
 have hT : (fun i => T (0 + i * 2 ^ 0)) = T := by funext i; congr 1; omega
 refine M1 (K := b7) (vars := n) (T := T) hn n 0 0 _ ⟨none, 0, 0⟩ [] (h.row b4 [I 0, .slice none 0 0, I 0] 3) _ ⟨bg .., en _ _, fun a ha => by cases ha⟩ l7 hg7 (fun a ha => by cases ha) (ht.mono l4) (by omega) (by omega) (by simp; omega) ?_
 intro s' h' inv lg gs
 rw [hT] at inv ⊢
 have f4 := lg _ _ (bg ..)
 have hsn := inv.len
 refine ⟨_, rfl, ?_⟩
 simp only [vm, mm, af inv.row, f4, hsn]
 have hto : da n T = if 600 < (mkD n T 0 []).2.length then gO else ⟨n, (mkD n T 0 []).2, (mkD n T 0 []).1, true⟩ := by
  unfold da qW
  rw [if_pos (by omega), Int.toNat_natCast]
  split
  ·rename_i h; split at h
   ·rename_i h'; rw [if_pos h']
   ·cases h
  ·rename_i r h; split at h
   ·cases h
   ·rename_i h'; cases h; rw [if_neg h']
 rw [hto] at k
 refine ad (fun e => ?_) (fun e => ?_)
 ·have e' : 600 < (mkD n T 0 []).2.length := by simp at e; omega
  rw [if_pos e'] at k
  exact ⟨by omega, k ⟨none, 0, 0⟩ _ (dt _ _ hb4 (Hp.le_trans l4 lg)) (fL _ _)⟩
 ·have e' : ¬ 600 < (mkD n T 0 []).2.length := by simp at e; omega
  rw [if_neg e'] at k
  refine ⟨by omega, k s' _ (dt _ _ hb4 (Hp.le_trans l4 lg)) (Buf.own ⟨inv.buf.1, inv.buf.2.1, inv.buf.2.2.imp id ?_⟩ (by omega))⟩
  rintro ⟨c, hc, hcb⟩
  have hgc := gs _ hc
  rw [th] at hgc
  exact ⟨c, hc, by rw [jB hgc.2, bC _ _ hgc.1]; exact hcb⟩
structure ek (g h : Hp) (bw : Nat) (v : Int) (t : Sl) (xss : List (List Int)) : Prop where
 buf : ∃ ts : List Sl, Buf h t 1 (ts.map Sl.v) /\ ts.length = xss.length /\ ∀ (i : Nat) (h1 : i < ts.length) (h2 : i < xss.length), IntS g ts[i] xss[i]
 le : g.le (h.offS t)
 row : h bw = some (.inl ⟨[I v, t.v], 2, false⟩)
 new : g bw = none
 own : ∀ a, t.a = some a -> a.block ≠ bw
theorem cv {h : Hp} {t : Sl} {c : Nat} {x : Blk} (e : (h.offS t) c = some x) : h c = some x /\ ∀ a, t.a = some a -> a.block ≠ c := by
 refine ⟨aO _ _ _ _ e, fun a ha hac => ?_⟩
 subst hac
 simp [Hp.offS, ha, Hp.off, Hp.set] at e
theorem ek.keep {g h : Hp} {bw : Nat} {v : Int} {t : Sl} {xss : List (List Int)} (e : ek g h bw v t xss) : g.le h := Hp.le_trans e.le (aO _ _)
theorem ek.len {g h : Hp} {bw : Nat} {v : Int} {t : Sl} {xss : List (List Int)} (e : ek g h bw v t xss) : t.n = xss.length := by
 obtain ⟨ts, hb, h1, _⟩ := e.buf
 have := hb.1; simp at this; omega
theorem ek.blk {g h : Hp} {bw : Nat} {v : Int} {t : Sl} {xss : List (List Int)} (e : ek g h bw v t xss) : ∀ a, t.a = some a -> ∃ ts : List Sl, ∃ z, h a.block = some (.inl ⟨ts.map Sl.v, z, false⟩) := by
 intro a ha
 obtain ⟨ts, hb, _, _⟩ := e.buf
 rcases hb.2.2 with ⟨h0, _⟩ | ⟨b, hb1, hb2⟩
 ·rw [h0] at ha; cases ha
 ·rw [hb1] at ha; cases ha; exact ⟨ts, _, hb2⟩
theorem ek.to {g h g' h' : Hp} {bw : Nat} {v v' : Int} {t : Sl} {xss : List (List Int)} (e : ek g h bw v t xss) (l : g.le g') (l' : g'.le (h'.offS t)) (hr : h' bw = some (.inl ⟨[I v', t.v], 2, false⟩))
  (hbuf : ∀ a, t.a = some a -> h' a.block = h a.block) (hn : g' bw = none) : ek g' h' bw v' t xss := by
 obtain ⟨ts, hb, h1, h2⟩ := e.buf
 refine ⟨⟨ts, ⟨hb.1, hb.2.1, hb.2.2.imp id ?_⟩, h1, fun i a b => (h2 i a b).mono l⟩, l', hr, hn, e.own⟩
 rintro ⟨b, hb1, hb2⟩
 exact ⟨b, hb1, (hbuf _ hb1).trans hb2⟩
theorem ek.lit {g h : Hp} {bw b n : Nat} {v : Int} {t : Sl} {xss : List (List Int)} {cs : List Value} (e : ek g h bw v t xss) (hb : h b = none) : ek (g.row b cs n) (h.row b cs n) bw v t xss := by
 have gb : g b = none := aw e.keep hb
 have nb := fresh_ne hb e.row
 have nt : ∀ a, t.a = some a -> a.block ≠ b := fun a ha => by
  obtain ⟨ts, z, hx⟩ := e.blk a ha
  exact fresh_ne hb hx
 refine e.to (dr _ _ gb) ?_ (by rw [bC _ _ nb]; exact e.row) (fun a ha => bC _ _ (nt a ha)) (by rw [bC _ _ nb]; exact e.new)
 intro c x hc
 by_cases h' : c = b
 ·subst h'
  rw [eL nt, bg]; rw [bg] at hc; exact hc
 ·rw [bC _ _ h'] at hc
  obtain ⟨h1, h2⟩ := cv (e.le _ _ hc)
  rw [eL h2, bC _ _ h']; exact h1
theorem ek.app {g h : Hp} {bw b : Nat} {v : Int} {t u : Sl} {xss : List (List Int)} {x : List Int} {K : Option Addr -> Nat -> Nat -> Hp -> Prop} (e : ek g h bw v t xss) (hl : xss.length <= 1048576) (hu : IntS g u x) (hb : h b = none)
  (k : ∀ (t' : Sl) (h' : Hp), h' bw = some (.inl ⟨[I v, t.v], 2, false⟩) -> (h.offS t).le (h'.offS t') -> ek g (h'.row bw [I v, t'.v] 2) bw v t' (xss ++ [x]) -> K t'.a t'.n t'.c h') :
  dW (h.row b [u.v] 1) t.a t.n t.c (some ⟨b, 0, none⟩) 1 1 24 K := by
 have l := dr [u.v] 1 hb
 have hn := e.len
 obtain ⟨ts, hbuf, h1, h2⟩ := e.buf
 refine dg (hbuf.mono l) (by omega) (by omega) (by omega) ⟨b, 0, rfl, fun i v hi => ?_⟩ (news := [u.v]) rfl rfl ?_
 ·cases i with
  | zero => simp at hi; subst hi; exact mP _ _ _ _ _
  | succ i => simp at hi
 intro t' h' hn' hb' hle _
 have hle' : (h.offS t).le (h'.offS t') := Hp.le_trans (bJ t l) hle
 obtain ⟨f, o⟩ := iG hle' e.row e.own
 refine k t' h' f hle' ⟨⟨ts ++ [u], ?_, by simp [h1], ?_⟩, ?_, bg .., e.new, o⟩
 ·rw [List.map_append]
  refine ⟨hb'.1, hb'.2.1, hb'.2.2.imp id ?_⟩
  rintro ⟨c, hc, hcb⟩
  exact ⟨c, hc, by rw [bC _ _ (o _ hc)]; exact hcb⟩
 ·intro i a c
  by_cases hi : i < ts.length
  ·rw [List.getElem_append_left hi, List.getElem_append_left (by omega)]; exact h2 i hi (by omega)
  ·have : i = ts.length := by simp at a; omega
   subst this
   simp only [List.getElem_append_right (Nat.le_refl _), Nat.sub_self, List.getElem_cons_zero]
   simp only [h1, List.getElem_append_right (Nat.le_refl _), Nat.sub_self, List.getElem_cons_zero]
   exact hu
 ·intro c x hc
  obtain ⟨h3, h4⟩ := cv (hle' _ _ (e.le _ _ hc))
  have hcb : c ≠ bw := fun hh => by rw [hh, e.new] at hc; cases hc
  rw [eL h4, bC _ _ hcb]; exact h3
structure Rd (h : Hp) (B : Nat) (s : Sl) (bs : List Nat) (p : Nat) : Prop where
 row : h B = some (.inl ⟨[s.v, I p], 2, false⟩)
 byt : ByteS (h.off B) s bs
theorem Rd.next {h : Hp} {B : Nat} {s : Sl} {bs : List Nat} {p : Nat} (e : Rd h B s bs p) (q : Nat) : Rd (h.row B [s.v, I q] 2) B s bs q := ⟨bg .., by rw [xW]; exact e.byt⟩
theorem Rd.to {h h' : Hp} {B : Nat} {s : Sl} {bs : List Nat} {p : Nat} (e : Rd h B s bs p) (l : h.le h') : Rd h' B s bs p := ⟨l _ _ e.row, e.byt.mono (CB _ l)⟩
theorem eX.appK {h h' : Hp} {t : Sl} {set : List Int} {x : Int} {b : Nat} {K : Option Addr -> Nat -> Nat -> Hp -> Prop} (e : eX h h' t set) (hl : set.length <= 1048576) (hb : h' b = none)
  (k : ∀ (t' : Sl) (h'' : Hp), (h'.offS t).le (h''.offS t') -> eX h h'' t' (set ++ [x]) -> K t'.a t'.n t'.c h'') : dW (h'.row b [I x] 1) t.a t.n t.c (some ⟨b, 0, none⟩) 1 1 8 K := by
 have l := dr [I x] 1 hb
 exact H0 (e.buf.mono l) hl (mP _ _ _ _ _) fun t' h'' hb' hl' => k t' h'' (Hp.le_trans (bJ t l) hl') ⟨hb', Hp.le_trans (Hp.le_trans e.le (bJ t l)) hl'⟩
theorem eX.neB {g h : Hp} {o s : Sl} {xs : List Int} (e : eX g h o xs) {B p n : Nat} (hB : h B = some (.inl ⟨[s.v, I p], n, false⟩)) : ∀ a, o.a = some a -> a.block ≠ B := by
 intro a ha
 rcases e.buf.2.2 with ⟨h0, _⟩ | ⟨b, hb1, hb2⟩
 ·rw [h0] at ha; cases ha
 ·rw [hb1] at ha; cases ha
  refine du hb2 hB ?_
  intro h
  simp only [Sum.inl.injEq, Row.mk.injEq] at h
  rcases xs with _ | ⟨x, r⟩
  ·simp at h
  ·simp [Sl.v] at h
theorem ek.neB {g h : Hp} {bw : Nat} {v : Int} {t s : Sl} {xss : List (List Int)} (e : ek g h bw v t xss) {B p n : Nat} (hB : h B = some (.inl ⟨[s.v, I p], n, false⟩)) : ∀ a, t.a = some a -> a.block ≠ B := by
 intro a ha
 obtain ⟨ts, z, hx⟩ := e.blk a ha
 refine du hx hB ?_
 intro h
 simp only [Sum.inl.injEq, Row.mk.injEq] at h
 rcases ts with _ | ⟨t1, _ | ⟨t2, r⟩⟩
 ·simp at h
 ·simp at h
 ·simp [Sl.v] at h
theorem ek.ne3 {g h : Hp} {bw : Nat} {v : Int} {t : Sl} {xss : List (List Int)} (e : ek g h bw v t xss) {B n : Nat} {x : Int} {y : List Value} (hB : h B = some (.inl ⟨I x :: y, n, false⟩)) : ∀ a, t.a = some a -> a.block ≠ B := by
 intro a ha
 obtain ⟨ts, z, hx⟩ := e.blk a ha
 refine du hx hB ?_
 intro h
 simp only [Sum.inl.injEq, Row.mk.injEq] at h
 rcases ts with _ | ⟨t1, r⟩
 ·simp at h
 ·simp [Sl.v] at h
theorem mh {h : Hp} {t : Sl} {c : Nat} {x : Blk} (e : h c = some x) (d : ∀ a, t.a = some a -> a.block ≠ c) : (h.offS t) c = some x := by rw [eL d]; exact e
structure CS (h0 : Hp) (B b3 b9 : Nat) (s : Sl) (c : Nat) (h : Hp) (v : Int) (t : Sl) (cls : List (List Int)) : Prop where
 rd : ∃ q, q <= c /\ h B = some (.inl ⟨[s.v, I (q : Nat)], 2, false⟩)
 r3 : h b3 = some (.inl ⟨[I 0, .slice none 0 0], 2, false⟩)
 n39 : b3 ≠ b9
 fr : (h0.off B).le (h.offS t)
 fr9 : h0 b9 = none
 fr3 : h0 b3 = none
 gr : ∃ g : Hp, (∀ c x, g c = some x -> h0 c = none /\ c ≠ b3) /\ ek g h b9 v t cls
section
variable {h0 h : Hp} {B b3 b9 c p0 : Nat} {s t : Sl} {v : Int} {cls : List (List Int)} {bs : List Nat}
theorem CS.row (e : CS h0 B b3 b9 s c h v t cls) : h b9 = some (.inl ⟨[I v, t.v], 2, false⟩) := by obtain ⟨g, _, hg⟩ := e.gr; exact hg.row
theorem CS.frame (e : CS h0 B b3 b9 s c h v t cls) : (h0.off B).le h := Hp.le_trans e.fr (aO _ _)
theorem CS.nB9 (e : CS h0 B b3 b9 s c h v t cls) : b9 ≠ B := by
 obtain ⟨q, _, hq⟩ := e.rd
 exact du e.row hq (by intro h; simp [Sl.v] at h)
theorem CS.nB3 (e : CS h0 B b3 b9 s c h v t cls) : b3 ≠ B := by
 obtain ⟨q, _, hq⟩ := e.rd
 exact du e.r3 hq (by intro h; simp [Sl.v] at h)
theorem CS.app (e : CS h0 B b3 b9 s c h v t cls) (hB : ∃ x, h0 B = some x) {h2 : Hp} {o : Sl} {xs : List Int} {q2 c2 b : Nat} {K : Option Addr -> Nat -> Nat -> Hp -> Prop} (hl : cls.length <= 1048576) (hx : xs.length <= 1048576)
  (hgr : eX (h.off B) h2 o xs) (hr2 : h2 B = some (.inl ⟨[s.v, I (q2 : Nat)], 2, false⟩)) (hq2 : q2 <= c2) (hb : h2 b = none)
  (k : ∀ (t' : Sl) (h3 : Hp), h3 b9 = some (.inl ⟨[I v, t.v], 2, false⟩) -> CS h0 B b3 b9 s c2 (h3.row b9 [I v, t'.v] 2) v t' (cls ++ [xs]) -> K t'.a t'.n t'.c h3) :
  dW (h2.row b [o.v] 1) t.a t.n t.c (some ⟨b, 0, none⟩) 1 1 24 K := by
 obtain ⟨g, hg, gr⟩ := e.gr
 obtain ⟨q, hq, hr⟩ := e.rd
 have base : ∀ c x, h c = some x -> c ≠ B -> h2 c = some x /\ ∀ a, o.a = some a -> a.block ≠ c := by
  intro c x hc hcB
  exact cv (hgr.le c x (by rw [Hp.off, Hp.set_ne _ _ hcB]; exact hc))
 have r9 := base _ _ gr.row e.nB9
 have r3 := base _ _ e.r3 e.nB3
 have tB := gr.neB hr
 have oB := hgr.neB hr2
 have t3 := gr.ne3 e.r3
 have tblk : ∀ a, t.a = some a -> h2 a.block = h a.block /\ ∀ a', o.a = some a' -> a'.block ≠ a.block := by
  intro a ha
  obtain ⟨ts, z, hx⟩ := gr.blk a ha
  obtain ⟨h1, h2⟩ := base _ _ hx (tB a ha)
  exact ⟨h1.trans hx.symm, h2⟩
 have hg' : ∀ c x, ((h2.sub h0).wo ([b9, b3] ++ t.blk)) c = some x -> h2 c = some x /\ h0 c = none /\ c ≠ b3 /\ c ≠ b9 /\ ∀ a, t.a = some a -> a.block ≠ c := by
  intro c x hc
  have hm : c ∉ [b9, b3] ++ t.blk := fun hm => by rw [dJ hm] at hc; cases hc
  rw [rh hm] at hc
  have h1 : h0 c = none := jV (by rw [hc]; simp)
  rw [jB h1] at hc
  simp only [List.cons_append, List.nil_append, List.mem_cons, not_or] at hm
  exact ⟨hc, h1, hm.2.1, hm.1, fun a ha hac => hm.2.2 (by unfold Sl.blk; rw [ha]; simp [hac])⟩
 have hgi : ∀ c x, h2 c = some x -> h0 c = none -> c ≠ b3 -> c ≠ b9 -> (∀ a, t.a = some a -> a.block ≠ c) -> ((h2.sub h0).wo ([b9, b3] ++ t.blk)) c = some x := by
  intro c x h1 h2 h3 h4 h5
  rw [rh, jB h2]
  ·exact h1
  ·simp only [List.cons_append, List.nil_append, List.mem_cons, not_or]
   refine ⟨h4, h3, fun hm => ?_⟩
   unfold Sl.blk at hm
   split at hm
   ·simp at hm
   ·rename_i a ha; simp at hm; exact h5 a ha hm.symm
 have gr' : ek ((h2.sub h0).wo ([b9, b3] ++ t.blk)) h2 b9 v t cls := by
  refine gr.to ?_ ?_ r9.1 (fun a ha => (tblk a ha).1) (dJ (by simp))
  ·intro c x hc
   obtain ⟨g1, g2⟩ := cv (gr.le _ _ hc)
   have hn := hg _ _ hc
   have hcB : c ≠ B := fun hh => by obtain ⟨y, hy⟩ := hB; rw [hh, hy] at hn; cases hn.1
   exact hgi c x (base c x g1 hcB).1 hn.1 hn.2 (fun hh => by rw [hh, gr.new] at hc; cases hc) g2
  ·intro c x hc
   obtain ⟨g1, g2, g3, g4, g5⟩ := hg' c x hc
   exact mh g1 g5
 have hu : IntS ((h2.sub h0).wo ([b9, b3] ++ t.blk)) o xs := by
  refine qF.ints ⟨hgr.buf.1, hgr.buf.2.1, hgr.buf.2.2.imp id ?_⟩ hx
  rintro ⟨d, hd, hdb⟩
  refine ⟨d, hd, hgi _ _ hdb ?_ ?_ ?_ ?_⟩
  ·cases hx : h0 d with
   | none => rfl
   | some x =>
    have hdB : d ≠ B := oB _ hd
    have := e.frame d x (by rw [Hp.off, Hp.set_ne _ _ hdB]; exact hx)
    exact absurd rfl ((base d x this hdB).2 _ hd)
  ·exact r3.2 _ hd
  ·exact r9.2 _ hd
  ·intro a ha hab
   exact (tblk a ha).2 _ hd hab.symm
 refine gr'.app hl hu hb fun t' h3 f9 hk hgd => k t' h3 f9 ?_
 have kp : ∀ c x, h2 c = some x -> (∀ a, t.a = some a -> a.block ≠ c) -> h3 c = some x /\ ∀ a, t'.a = some a -> a.block ≠ c := by
  intro c x h1 h2
  exact cv (hk _ _ (mh h1 h2))
 have n9 : ∀ a, t.a = some a -> a.block ≠ b9 := gr.own
 refine ⟨⟨q2, hq2, by rw [bC _ _ e.nB9.symm]; exact (kp _ _ hr2 tB).1⟩, by rw [bC _ _ e.n39]; exact (kp _ _ r3.1 t3).1, e.n39, ?_, e.fr9, e.fr3, _, fun c x hc => ⟨(hg' c x hc).2.1, (hg' c x hc).2.2.1⟩, hgd⟩
 intro c x hc
 have hcB : c ≠ B := fun hh => by rw [hh, qk] at hc; cases hc
 have hc9 : c ≠ b9 := fun hh => by rw [hh, Hp.off, Hp.set_ne _ _ e.nB9, e.fr9] at hc; cases hc
 obtain ⟨g1, g2⟩ := cv (e.fr _ _ hc)
 obtain ⟨g3, g4⟩ := kp _ _ (base c x g1 hcB).1 g2
 rw [eL g4, bC _ _ hc9]; exact g3
theorem CS.lit (e : CS h0 B b3 b9 s c h v t cls) {b n : Nat} {cs : List Value} (hb : h b = none) : CS h0 B b3 b9 s c (h.row b cs n) v t cls := by
 obtain ⟨g, hg, gr⟩ := e.gr
 obtain ⟨q, hq, hr⟩ := e.rd
 have tb : ∀ {c x}, (h.offS t) c = some x -> ((h.row b cs n).offS t) c = some x := by
  intro c x hc
  obtain ⟨h1, h2⟩ := cv hc
  rw [eL h2, bC _ _ (fresh_ne hb h1)]; exact h1
 exact ⟨⟨q, hq, by rw [bC _ _ (fresh_ne hb hr)]; exact hr⟩, by rw [bC _ _ (fresh_ne hb e.r3)]; exact e.r3, e.n39, fun c x hc => tb (e.fr _ _ hc), e.fr9, e.fr3, g, hg,
  gr.to (Hp.le_refl _) (fun c x hc => tb (gr.le _ _ hc)) (by rw [bC _ _ (fresh_ne hb gr.row)]; exact gr.row) (fun a ha => by
   obtain ⟨ts, z, hx⟩ := gr.blk a ha
   exact bC _ _ (fresh_ne hb hx)) gr.new⟩
end
theorem di.up {h h' h'' : Hp} {t : Sl} {xss : List (List Int)} (e : di h h' t xss) (l : h'.le h'') : di h h'' t xss := by
 obtain ⟨ts, h1, h2, h3⟩ := e.buf
 exact ⟨⟨ts, h1.mono l, h2, h3⟩, Hp.le_trans e.le (bJ t l)⟩
def jC (v : Int) (cls p : List (List Int)) : Bool := dB v cls && (decide (p.length <= 300) && p.all (eQ v))
theorem jC.iff {v : Int} {cls p : List (List Int)} : jC v cls p = true ↔ dB v cls = true /\ p.length <= 300 /\ ∀ l ∈ p, eQ v l = true := by
 simp [jC, List.all_eq_true]
theorem di.len {g h : Hp} {o : Sl} {out : List (List Int)} (e : di g h o out) : o.n = out.length := by
 obtain ⟨ts, hb, h1, _⟩ := e.buf
 have := hb.1; simp at this; omega
theorem di.base {g g2 h : Hp} {o : Sl} {out : List (List Int)} (e : di g h o out) (l : g.le g2) (l2 : g2.le (h.offS o)) : di g2 h o out := by
 obtain ⟨ts, h1, h2, h3⟩ := e.buf
 exact ⟨⟨ts, h1, h2, fun i a b => (h3 i a b).mono l⟩, l2⟩
theorem di.blk {g h : Hp} {o : Sl} {out : List (List Int)} (e : di g h o out) : ∀ a, o.a = some a -> ∃ x, h a.block = some x := by
 intro a ha
 obtain ⟨ts, hb, _, _⟩ := e.buf
 rcases hb.2.2 with ⟨h0, _⟩ | ⟨b, hb1, hb2⟩
 ·rw [h0] at ha; cases ha
 ·rw [hb1] at ha; cases ha; exact ⟨_, hb2⟩
theorem eX.apart {h2 h3 : Hp} {u o : Sl} {xs : List Int} (hg : eX h2 h3 u xs) (ho : ∀ a, o.a = some a -> ∃ x, h2 a.block = some x) : ∀ a a', u.a = some a -> o.a = some a' -> a.block ≠ a'.block := by
 intro a a' ha ha'
 obtain ⟨x, hx⟩ := ho a' ha'
 exact (cv (hg.le _ _ hx)).2 a ha
theorem eX.offS {h2 h3 : Hp} {u o : Sl} {xs : List Int} (hg : eX h2 h3 u xs) (ho : ∀ a, o.a = some a -> ∃ x, h2 a.block = some x) : qF (h3.offS o) u xs := by
 refine ⟨hg.buf.1, hg.buf.2.1, hg.buf.2.2.imp id ?_⟩
 rintro ⟨b, hb1, hb2⟩
 exact ⟨b, hb1, mh hb2 fun a ha => (hg.apart ho _ a hb1 ha).symm⟩
theorem eX.beside {h0 h' h'' : Hp} {a b b' : Sl} {xs : List Int} (e : eX h0 h' a xs) (l0 : h0.le (h'.offS b)) (hk : (h'.offS b).le (h''.offS b')) (nab : ∀ x y, a.a = some x -> b.a = some y -> y.block ≠ x.block) :
  eX h0 h'' a xs /\ ∀ x y, a.a = some x -> b'.a = some y -> y.block ≠ x.block := by
 constructor
 ·refine ⟨⟨e.buf.1, e.buf.2.1, e.buf.2.2.imp id ?_⟩, ?_⟩
  ·rintro ⟨c, hc, hcb⟩
   exact ⟨c, hc, (cv (hk _ _ (mh hcb fun y hy => nab _ y hc hy))).1⟩
  ·intro c x hc
   obtain ⟨g1, g2⟩ := cv (e.le _ _ hc)
   obtain ⟨g3, g4⟩ := cv (l0 _ _ hc)
   exact mh (cv (hk _ _ (mh g1 g4))).1 g2
 ·intro x y hx hy
  rcases e.buf.2.2 with ⟨h0, _⟩ | ⟨c, hc, hcb⟩
  ·rw [h0] at hx; cases hx
  ·rw [hc] at hx; cases hx
   exact (cv (hk _ _ (mh hcb fun y hy => nab _ y hc hy))).2 y hy
theorem di.appK {g h : Hp} {t u : Sl} {xss : List (List Int)} {x : List Int} {b : Nat} {K : Option Addr -> Nat -> Nat -> Hp -> Prop} (e : di g h t xss) (hl : xss.length <= 1048576) (hu : IntS g u x) (hb : h b = none)
  (k : ∀ (t' : Sl) (h'' : Hp), (h.offS t).le (h''.offS t') -> di g h'' t' (xss ++ [x]) -> K t'.a t'.n t'.c h'') : dW (h.row b [u.v] 1) t.a t.n t.c (some ⟨b, 0, none⟩) 1 1 24 K := by
 have l := dr [u.v] 1 hb
 have hn := e.len
 obtain ⟨ts, hbuf, h1, h2⟩ := e.buf
 refine dg (hbuf.mono l) (by omega) (by omega) (by omega) ⟨b, 0, rfl, fun i v hi => ?_⟩ (news := [u.v]) rfl rfl ?_
 ·cases i with
  | zero => simp at hi; subst hi; exact mP _ _ _ _ _
  | succ i => simp at hi
 ·intro t' h'' hn' hb' hle _
  have hle' : (h.offS t).le (h''.offS t') := Hp.le_trans (bJ t l) hle
  refine k t' h'' hle' ⟨⟨ts ++ [u], by rw [List.map_append]; exact hb', by simp [h1], ?_⟩, Hp.le_trans e.le hle'⟩
  intro i a c
  by_cases hi : i < ts.length
  ·rw [List.getElem_append_left hi, List.getElem_append_left (by omega)]; exact h2 i hi (by omega)
  ·have : i = ts.length := by simp at a; omega
   subst this
   simp only [List.getElem_append_right (Nat.le_refl _), Nat.sub_self, List.getElem_cons_zero]
   simp only [h1, List.getElem_append_right (Nat.le_refl _), Nat.sub_self, List.getElem_cons_zero]
   exact hu
theorem di.neB {g h : Hp} {t s : Sl} {xss : List (List Int)} (e : di g h t xss) {B p n : Nat} (hB : h B = some (.inl ⟨[s.v, I p], n, false⟩)) : ∀ a, t.a = some a -> a.block ≠ B := by
 intro a ha
 obtain ⟨ts, hb, _, _⟩ := e.buf
 rcases hb.2.2 with ⟨h0, _⟩ | ⟨c, hc, hcb⟩
 ·rw [h0] at ha; cases ha
 ·rw [hc] at ha; cases ha
  refine du hcb hB ?_
  intro h
  simp only [Sum.inl.injEq, Row.mk.injEq] at h
  rcases ts with _ | ⟨t1, _ | ⟨t2, r⟩⟩
  ·simp at h
  ·simp at h
  ·simp [Sl.v] at h
structure PS (h : Hp) (B : Nat) (s : Sl) (c : Nat) (g h' : Hp) (t : Sl) (res : List (List Int)) : Prop where
 rd : ∃ q, q <= c /\ h' B = some (.inl ⟨[s.v, I (q : Nat)], 2, false⟩)
 gr : di g h' t res
 new : ∀ c x, g c = some x -> h c = none
 fr : (h.off B).le (h'.offS t)
section
variable {h g h' : Hp} {B c : Nat} {s t : Sl} {res : List (List Int)} {bs : List Nat}
theorem PS.frame (e : PS h B s c g h' t res) : (h.off B).le h' := Hp.le_trans e.fr (aO _ _)
theorem PS.lit (e : PS h B s c g h' t res) (hB : ∃ x, h B = some x) {b n : Nat} {cs : List Value} (hb : h' b = none) : PS h B s c (g.row b cs n) (h'.row b cs n) t res := by
 obtain ⟨q, hq, hr⟩ := e.rd
 have nB := fresh_ne hb hr
 have hb0 : h b = none := by
  cases hx : h b with
  | none => rfl
  | some x =>
   have := e.frame b x (by rw [Hp.off, Hp.set_ne _ _ nB.symm]; exact hx)
   rw [hb] at this; cases this
 have tb : ∀ a, t.a = some a -> a.block ≠ b := fun a ha => by
  obtain ⟨x, hx⟩ := e.gr.blk a ha
  exact fresh_ne hb hx
 have key : ∀ c x, c ≠ b -> (h'.offS t) c = some x -> ((h'.row b cs n).offS t) c = some x := by
  intro c x hcB hc
  obtain ⟨h1, h2⟩ := cv hc
  rw [eL h2, bC _ _ hcB]; exact h1
 have gb : g b = none := aw e.gr.keep hb
 refine ⟨⟨q, hq, by rw [bC _ _ nB]; exact hr⟩, (e.gr.up (dr cs n hb)).base (dr _ _ gb) ?_, ?_, fun c x hc => key c x (fun hh => by rw [hh, Hp.off, Hp.set_ne _ _ nB.symm, hb0] at hc; cases hc) (e.fr _ _ hc)⟩
 ·intro c x hc
  by_cases hcb : c = b
  ·subst hcb
   rw [bg] at hc
   rw [eL tb, bg]; exact hc
  ·rw [bC _ _ hcb] at hc
   exact key c x hcb (e.gr.le _ _ hc)
 ·intro c x hc
  by_cases hcb : c = b
  ·subst hcb; exact hb0
  ·rw [bC _ _ hcb] at hc; exact e.new _ _ hc
theorem PS.app {u : Sl} {x : List Int} {b : Nat} {K : Option Addr -> Nat -> Nat -> Hp -> Prop} (e : PS h B s c g h' t res) (hl : res.length <= 1048576) (hu : IntS g u x) (hb : h' b = none)
  (k : ∀ (t' : Sl) (h'' : Hp), PS h B s c g h'' t' (res ++ [x]) -> K t'.a t'.n t'.c h'') : dW (h'.row b [u.v] 1) t.a t.n t.c (some ⟨b, 0, none⟩) 1 1 24 K := by
 obtain ⟨q, hq, hr⟩ := e.rd
 exact e.gr.appK hl hu hb fun t' h'' hk gr => k t' h'' ⟨⟨q, hq, (cv (hk _ _ (mh hr (e.gr.neB hr)))).1⟩, gr, e.new, Hp.le_trans e.fr hk⟩
theorem PS.put {u : Sl} {x : List Int} {i : Nat} (e : PS h B s c g h' t res) (hi : i < res.length) (hu : IntS g u x) : ∃ b cs z, t.a = some ⟨b, 0, none⟩ /\ h' b = some (.inl ⟨cs, z, false⟩) /\ cs.length = res.length /\
  PS h B s c g (h'.row b (cs.set i u.v) z) t (res.set i x) := by
 obtain ⟨q, hq, hr⟩ := e.rd
 have hn := e.gr.len
 have tB := e.gr.neB hr
 obtain ⟨ts, hb, h1, h2⟩ := e.gr.buf
 rcases hb.2.2 with ⟨_, h0, _⟩ | ⟨b, hb1, hb2⟩
 ·omega
 refine ⟨b, _, _, hb1, hb2, by simp [h1], ⟨q, hq, by rw [bC _ _ (tB _ hb1).symm]; exact hr⟩, ⟨⟨ts.set i u, ⟨by simp; have := hb.1; simp at this; omega, hb.2.1, .inr ⟨b, hb1, ?_⟩⟩, by simp [h1], ?_⟩, ?_⟩, e.new, ?_⟩
 ·rw [bg, List.map_set]
 ·intro j a b
  rw [List.getElem_set, List.getElem_set]
  split
  ·exact hu
  ·exact h2 j (by simpa using a) (by simpa using b)
 ·intro c x hc
  obtain ⟨g1, g2⟩ := cv (e.gr.le _ _ hc)
  rw [eL g2, bC _ _ (fun hh => g2 _ hb1 hh.symm)]; exact g1
 ·intro c x hc
  obtain ⟨g1, g2⟩ := cv (e.fr _ _ hc)
  rw [eL g2, bC _ _ (fun hh => g2 _ hb1 hh.symm)]; exact g1
end
def gG (w : Nat) (n : Int) : Nat := (n % ((2 ^ w : Nat) : Int)).toNat
def sgn (w a : Nat) : Int := if 2 ^ (w - 1) <= a then (a : Int) - ((2 ^ w : Nat) : Int) else a
theorem aU (w : Nat) : 0 < 2 ^ w := Nat.pow_pos (by omega)
theorem gJ (w : Nat) (n : Int) : gG w n < 2 ^ w := by
 unfold gG
 have h := Int.emod_lt_of_pos n (b := ((2 ^ w : Nat) : Int)) (Int.ofNat_lt.2 (aU w))
 have h0 := Int.emod_nonneg n (b := ((2 ^ w : Nat) : Int)) (by have := aU w; omega)
 omega
theorem ma (w a : Nat) : gG w (a : Int) = a % 2 ^ w := by
 unfold gG
 rw [<- Int.natCast_emod, Int.toNat_natCast]
theorem Ca (w : Nat) (n : Int) : ((gG w n : Nat) : Int) = n % ((2 ^ w : Nat) : Int) := by
 unfold gG
 have h0 := Int.emod_nonneg n (b := ((2 ^ w : Nat) : Int)) (by have := aU w; omega)
 omega
theorem mE {w : Nat} (h : 1 <= w) : 2 ^ w = 2 * 2 ^ (w - 1) := by
 obtain ⟨n, rfl⟩ : ∃ n, w = n + 1 := ⟨w - 1, by omega⟩
 rw [Nat.pow_succ, Nat.add_sub_cancel]; omega
theorem Fy {w a : Nat} (h : 1 <= w) (ha : a < 2 ^ w) : -((2 ^ (w - 1) : Nat) : Int) <= sgn w a /\ sgn w a < ((2 ^ (w - 1) : Nat) : Int) := by
 have := mE h
 unfold sgn; split <;> omega
theorem PF {w : Nat} (h : 1 <= w) (n : Int) : sgn w (gG w n) = n ↔ -((2 ^ (w - 1) : Nat) : Int) <= n /\ n < ((2 ^ (w - 1) : Nat) : Int) := by
 have hp := mE h
 have hl := gJ w n
 have hb := Fy h hl
 constructor
 ·intro e; rw [e] at hb; exact hb
 ·rintro ⟨h1, h2⟩
  have hc := Ca w n
  have h3 : n % ((2 ^ w : Nat) : Int) = if n < 0 then n + ((2 ^ w : Nat) : Int) else n := by
   split
   ·rw [<- Int.add_emod_right, Int.emod_eq_of_lt (by omega) (by omega)]
   ·rw [Int.emod_eq_of_lt (by omega) (by omega)]
  rw [h3] at hc
  unfold sgn
  split at hc <;> split <;> omega
theorem gX {w x : Nat} {f : Nat -> Bool} (hx : x < 2 ^ w) (h : ∀ i, i < w -> x.testBit i = f i) : cA w f = x := by
 apply Nat.eq_of_testBit_eq
 intro i
 by_cases hi : i < w
 ·rw [oG _ _ _ hi, h i hi]
 ·rw [Nat.testBit_lt_two_pow (Nat.lt_of_lt_of_le (nV w f) (Nat.pow_le_pow_right (by omega) (by omega))),
   Nat.testBit_lt_two_pow (Nat.lt_of_lt_of_le hx (Nat.pow_le_pow_right (by omega) (by omega)))]
theorem po {w : Nat} {f g : Nat -> Bool} (h : ∀ i, i < w -> f i = g i) : cA w f = cA w g := gX (nV _ _) fun i hi => by rw [oG _ _ _ hi, h i hi]
theorem KK {w p : Nat} {f : Nat -> Bool} (hp : p < w) (hf : f p = false) : cA w f + 2 ^ p = cA w (fun i => f i || decide (i = p)) := by
 induction w with
 | zero => omega
 | succ w ih =>
  simp only [cA]
  by_cases h : p = w
  ·subst h
   have : cA p (fun i => f i || decide (i = p)) = cA p f := po fun i hi => by simp; omega
   rw [this]; simp [hf]
  ·have := ih (by omega)
   have e : (f w || decide (w = p)) = f w := by simp; omega
   simp only [e]
   omega
def hD : Nat -> Nat -> Nat
 | 0, _ => 0
 | w + 1, a => hD w a + (if a.testBit w then 1 else 0)
theorem Hn (w a : Nat) : hD w a <= w := by
 induction w with
 | zero => simp [hD]
 | succ w ih => simp only [hD]; split <;> omega
theorem Kh {w a : Nat} (ha : a < 2 ^ w) : hD w a = w ↔ a = 2 ^ w - 1 := by
 have key : ∀ w, hD w a = w ↔ ∀ i, i < w -> a.testBit i = true := by
  intro w
  induction w with
  | zero => simp [hD]
  | succ w ih =>
   have := Hn w a
   simp only [hD]
   constructor
   ·intro h i hi
    by_cases hw : a.testBit w = true
    ·rw [if_pos hw] at h
     by_cases hiw : i = w
     ·subst hiw; exact hw
     ·exact ih.1 (by omega) i (by omega)
    ·rw [if_neg hw] at h; omega
   ·intro h
    rw [if_pos (h w (by omega)), ih.2 fun i hi => h i (by omega)]
 rw [key]
 constructor
 ·intro h
  apply Nat.eq_of_testBit_eq
  intro i
  rw [Nat.testBit_two_pow_sub_one]
  by_cases hi : i < w
  ·rw [h i hi]; simp [hi]
  ·rw [Nat.testBit_lt_two_pow (Nat.lt_of_lt_of_le ha (Nat.pow_le_pow_right (by omega) (by omega)))]; simp [hi]
 ·rintro rfl i hi
  rw [Nat.testBit_two_pow_sub_one]; simpa using hi
theorem Dk {w a b : Nat} (ha : a < 2 ^ w) : cA w (fun i => a.testBit i && b.testBit i) = a &&& b :=
 gX (Nat.lt_of_le_of_lt Nat.and_le_left ha) fun i _ => by rw [Nat.testBit_and]
theorem LJ {w a b : Nat} (ha : a < 2 ^ w) (hb : b < 2 ^ w) : cA w (fun i => a.testBit i || b.testBit i) = a ||| b :=
 gX (Nat.or_lt_two_pow ha hb) fun i _ => by rw [Nat.testBit_or]
theorem OW {w a b : Nat} (ha : a < 2 ^ w) (hb : b < 2 ^ w) : cA w (fun i => a.testBit i ^^ b.testBit i) = a ^^^ b :=
 gX (Nat.xor_lt_two_pow ha hb) fun i _ => by rw [Nat.testBit_xor]
def R7 (w a b : Nat) : Nat := a * 2 ^ min b w % 2 ^ w
def Ry (w a b : Nat) : Nat := a / 2 ^ min b w
def RW (w a b : Nat) : Nat := gG w (sgn w a / ((2 ^ min b w : Nat) : Int))
theorem PP {w a b : Nat} : cA w (fun i => decide (b <= i) && a.testBit (i - b)) = R7 w a b := by
 unfold R7
 refine gX (Nat.mod_lt _ (aU w)) fun i hi => ?_
 rw [Nat.testBit_mod_two_pow, Nat.mul_comm, Nat.testBit_two_pow_mul]
 have : decide (i < w) = true := by simpa using hi
 rw [this, Bool.true_and]
 by_cases h : b <= i
 ·rw [Nat.min_eq_left (by omega)]
 ·have h1 : decide (b <= i) = false := by simpa using h
  have h2 : decide (min b w <= i) = false := by simp; omega
  simp [h1, h2]
theorem Om {w a b : Nat} (ha : a < 2 ^ w) : cA w (fun i => decide (i + b < w) && a.testBit (i + b)) = Ry w a b := by
 unfold Ry
 refine gX (Nat.lt_of_le_of_lt (Nat.div_le_self _ _) ha) fun i hi => ?_
 rw [Nat.testBit_div_two_pow]
 by_cases h : i + b < w
 ·rw [Nat.min_eq_left (by omega)]; simp [h]
 ·have h1 : decide (i + b < w) = false := by simpa using h
  rw [h1, Bool.false_and]
  refine Nat.testBit_lt_two_pow (Nat.lt_of_lt_of_le ha (Nat.pow_le_pow_right (by omega) ?_))
  omega
theorem Qf {w a b : Nat} (hw : 1 <= w) (hw16 : w <= 16) (ha : a < 2 ^ w) : cA w (fun i => if i + b < w then a.testBit (i + b) else a.testBit (w - 1)) = RW w a b := by
 have hp := mE hw
 have top : a.testBit (w - 1) = decide (2 ^ (w - 1) <= a) := by
  rw [Nat.testBit_eq_decide_div_mod_eq]
  by_cases h : 2 ^ (w - 1) <= a
  ·have : a / 2 ^ (w - 1) = 1 := by
    rw [Nat.div_eq_iff (aU _)]; omega
   simp [this, h]
  ·have : a / 2 ^ (w - 1) = 0 := Nat.div_eq_of_lt (by omega)
   simp [this, h]
 have hb : min b w <= w := Nat.min_le_right _ _
 have small : ∀ i, i < w -> i + b < w -> min b w = b := fun i _ h => Nat.min_eq_left (by omega)
 unfold RW
 refine gX (gJ _ _) fun i hi => ?_
 by_cases hs : 2 ^ (w - 1) <= a
 ·-- with the sign
  have e1 : sgn w a = (a : Int) - ((2 ^ w : Nat) : Int) := by unfold sgn; rw [if_pos hs]
  have e2 : gG w (sgn w a / ((2 ^ min b w : Nat) : Int)) = ((a + 2 ^ w * (2 ^ 16 - 1)) / 2 ^ min b w) % 2 ^ w := by
   have h1 : sgn w a = ((a + 2 ^ w * (2 ^ 16 - 1) : Nat) : Int) - ((2 ^ min b w : Nat) : Int) * ((2 ^ (w + 16 - min b w) : Nat) : Int) := by
    have h2 : 2 ^ min b w * 2 ^ (w + 16 - min b w) = 2 ^ w * 2 ^ 16 := by rw [<- Nat.pow_add, <- Nat.pow_add]; congr 1; omega
    rw [e1, <- Int.natCast_mul, h2]
    have : 2 ^ w * (2 ^ 16 - 1) + 2 ^ w = 2 ^ w * 2 ^ 16 := by rw [<- Nat.mul_succ]
    omega
   have hpos : ((2 ^ min b w : Nat) : Int) ≠ 0 := by have := aU (min b w); omega
   have h3 : sgn w a / ((2 ^ min b w : Nat) : Int) = (((a + 2 ^ w * (2 ^ 16 - 1)) / 2 ^ min b w : Nat) : Int) - ((2 ^ w : Nat) : Int) * ((2 ^ (16 - min b w) : Nat) : Int) := by
    rw [h1, Int.sub_eq_add_neg, <- Int.mul_neg, Int.add_mul_ediv_left _ _ hpos, <- Int.natCast_ediv]
    have : 2 ^ (w + 16 - min b w) = 2 ^ w * 2 ^ (16 - min b w) := by rw [<- Nat.pow_add]; congr 1; omega
    rw [this, Int.natCast_mul]; omega
   rw [h3]
   unfold gG
   rw [Int.sub_mul_emod_self_left, <- Int.natCast_emod, Int.toNat_natCast]
  rw [e2, Nat.testBit_mod_two_pow, Nat.testBit_div_two_pow, Nat.add_comm a, Nat.testBit_two_pow_mul_add _ ha]
  have hd : decide (i < w) = true := by simpa using hi
  rw [hd, Bool.true_and]
  by_cases h : i + b < w
  ·have hm := small i hi h
   rw [if_pos h, hm, if_pos (by omega)]
  ·have hm : ¬ i + min b w < w := by omega
   rw [if_neg h, if_neg hm, Nat.testBit_two_pow_sub_one, top]
   simp only [hs, decide_true, decide_eq_true_eq]
   omega
 ·have e1 : sgn w a = a := by unfold sgn; rw [if_neg hs]
  rw [e1, <- Int.natCast_ediv, ma, Nat.testBit_mod_two_pow, Nat.testBit_div_two_pow]
  have hd : decide (i < w) = true := by simpa using hi
  rw [hd, Bool.true_and]
  by_cases h : i + b < w
  ·rw [if_pos h, small i hi h]
  ·rw [if_neg h, top]
   have hm : ¬ i + min b w < w := by omega
   have : decide (2 ^ (w - 1) <= a) = false := by simpa using hs
   rw [this]
   exact Nat.testBit_lt_two_pow (Nat.lt_of_lt_of_le ha (Nat.pow_le_pow_right (by omega) (by omega)))
def Df (w a k : Nat) : Nat := ((a * 2 ^ k) ||| (a / 2 ^ (w - k))) % 2 ^ w
theorem R2 {w a k i : Nat} (ha : a < 2 ^ w) (hk : k < w) (hi : i < w) : (Df w a k).testBit i = a.testBit ((i + (w - k)) % w) := by
 unfold Df
 rw [Nat.testBit_mod_two_pow, Nat.testBit_or, Nat.mul_comm, Nat.testBit_two_pow_mul, Nat.testBit_div_two_pow]
 have hd : decide (i < w) = true := by simpa using hi
 rw [hd, Bool.true_and]
 by_cases h : k <= i
 ·have e : (i + (w - k)) % w = i - k := by
   have : i + (w - k) = (i - k) + w := by omega
   rw [this, Nat.add_mod_right, Nat.mod_eq_of_lt (by omega)]
  have z : a.testBit (i + (w - k)) = false := Nat.testBit_lt_two_pow (Nat.lt_of_lt_of_le ha (Nat.pow_le_pow_right (by omega) (by omega)))
  rw [e, z]; simp [h]
 ·have e : (i + (w - k)) % w = i + (w - k) := Nat.mod_eq_of_lt (by omega)
  rw [e]
  have : decide (k <= i) = false := by simpa using h
  rw [this]; simp
theorem Pe {w a k : Nat} (ha : a < 2 ^ w) (hk : k < w) : cA w (fun j => a.testBit ((j + (w - k)) % w)) = Df w a k :=
 gX (Nat.mod_lt _ (aU w)) fun i hi => R2 ha hk hi
theorem Nm {w a k i : Nat} (hk : k < w) (hi : i < w) :
  cA w (fun j => decide ((j + (w - k)) % w < i) && a.testBit ((j + (w - k)) % w)) + (if a.testBit i then 2 ^ ((i + k) % w) else 0) =
   cA w (fun j => decide ((j + (w - k)) % w < i + 1) && a.testBit ((j + (w - k)) % w)) := by
 have hpw : (i + k) % w < w := Nat.mod_lt _ (by omega)
 have back : ((i + k) % w + (w - k)) % w = i := by
  rw [Nat.mod_add_mod]
  have : i + k + (w - k) = i + w := by omega
  rw [this, Nat.add_mod_right, Nat.mod_eq_of_lt hi]
 have inj : ∀ j, j < w -> ((j + (w - k)) % w = i ↔ j = (i + k) % w) := by
  intro j hj
  constructor
  ·intro h
   have : (j + (w - k) + k) % w = (i + k) % w := by rw [<- h, Nat.mod_add_mod]
   rw [<- this]
   have : j + (w - k) + k = j + w := by omega
   rw [this, Nat.add_mod_right, Nat.mod_eq_of_lt hj]
  ·rintro rfl; exact back
 cases hb : a.testBit i with
 | false =>
  simp only [Bool.false_eq_true, if_false, Nat.add_zero]
  refine po fun j hj => ?_
  by_cases h : (j + (w - k)) % w = i
  ·rw [h, hb]; simp
  ·have : decide ((j + (w - k)) % w < i + 1) = decide ((j + (w - k)) % w < i) := by
    rw [decide_eq_decide]; omega
   rw [this]
 | true =>
  simp only [if_true]
  rw [KK hpw (by rw [back]; simp)]
  refine po fun j hj => ?_
  by_cases h : j = (i + k) % w
  ·have h2 := (inj j hj).2 h
   rw [h2, hb]; simp [h]
  ·have h2 : ¬ (j + (w - k)) % w = i := fun e => h ((inj j hj).1 e)
   have : decide ((j + (w - k)) % w < i + 1) = decide ((j + (w - k)) % w < i) := by
    rw [decide_eq_decide]; omega
   rw [this]; simp [h]
def tz (kind : Int) (w a : Nat) : Nat × Nat :=
 if kind = 1 then (2 ^ w - 1 - a, w) else if kind = 2 then (gG w (-(a : Int)), w) else if kind = 3 then (if a = 0 then 0 else 1, 1) else
 if kind = 4 then (if a = 2 ^ w - 1 then 1 else 0, 1) else (hD w a % 2, 1)
def Fw (w a b : Nat) : Nat := if sgn w b = 0 then (if sgn w a < 0 then 1 else 2 ^ w - 1) else gG w (Int.tdiv (sgn w a) (sgn w b))
def Fh (w a b : Nat) : Nat := if sgn w b = 0 then a else gG w (Int.tmod (sgn w a) (sgn w b))
def z9 (kind : Int) (w a b : Nat) : Bool :=
 if kind = 21 then decide (a = b) else if kind = 22 then decide (a < b) else if kind = 23 then decide (sgn w a < sgn w b) else
 if kind = 24 then decide (a <= b) else if kind = 25 then decide (sgn w a <= sgn w b) else if kind = 26 then decide (2 ^ w <= a + b) else
 if kind = 27 then !decide (-((2 ^ (w - 1) : Nat) : Int) <= sgn w a + sgn w b /\ sgn w a + sgn w b < ((2 ^ (w - 1) : Nat) : Int)) else decide (2 ^ w <= a * b)
def Di (kind : Int) (w a b : Nat) : Nat :=
 if kind = 6 then a &&& b else if kind = 7 then a ||| b else if kind = 8 then a ^^^ b else if kind = 9 then gG w ((a : Int) + b) else
 if kind = 10 then gG w ((a : Int) - b) else if kind = 11 then gG w ((a : Int) * b) else if kind = 12 then (if b = 0 then 2 ^ w - 1 else a / b) else
 if kind = 13 then (if b = 0 then a else a % b) else if kind = 14 then Fw w a b else if kind = 15 then Fh w a b else
 if kind = 16 then R7 w a b else if kind = 17 then Ry w a b else if kind = 18 then RW w a b else if kind = 19 then Df w a (b % w) else Df w a ((w - b % w) % w)
def om (kind : Int) (w a b : Nat) : Nat × Nat := if kind <= 20 then (Di kind w a b, w) else (if z9 kind w a b then 1 else 0, 1)
theorem RZ {kind : Int} {w a : Nat} (hw : 1 <= w) (ha : a < 2 ^ w) : (tz kind w a).1 < 2 ^ (tz kind w a).2 := by
 have := aU w
 unfold tz
 split
 ·simp only; omega
 ·split
  ·exact gJ _ _
  ·split
   ·simp only; split <;> omega
   ·split
    ·simp only; split <;> omega
    ·simp only; omega
theorem Ls (w a k : Nat) : Df w a k < 2 ^ w := Nat.mod_lt _ (aU w)
theorem hZ {c : Prop} [Decidable c] {x y n : Nat} (hx : x < n) (hy : y < n) : (if c then x else y) < n := by
 by_cases h : c
 ·rw [if_pos h]; exact hx
 ·rw [if_neg h]; exact hy
theorem PV {kind : Int} {w a b : Nat} (hw : 1 <= w) (ha : a < 2 ^ w) (hb : b < 2 ^ w) : Di kind w a b < 2 ^ w := by
 have hp := aU w
 have hp1 : 1 < 2 ^ w := by
  have := mE hw; have := aU (w - 1); omega
 unfold Di
 refine hZ (Nat.lt_of_le_of_lt Nat.and_le_left ha) (hZ (Nat.or_lt_two_pow ha hb) (hZ (Nat.xor_lt_two_pow ha hb) (hZ (gJ _ _) (hZ (gJ _ _) (hZ (gJ _ _)
  (hZ (hZ (by omega) (Nat.lt_of_le_of_lt (Nat.div_le_self _ _) ha)) (hZ (hZ ha (Nat.lt_of_le_of_lt (Nat.mod_le _ _) ha)) (hZ ?_ (hZ ?_ (hZ (Nat.mod_lt _ hp)
  (hZ (Nat.lt_of_le_of_lt (Nat.div_le_self _ _) ha) (hZ (gJ _ _) (hZ (Ls _ _ _) (Ls _ _ _))))))))))))))
 ·unfold Fw
  exact hZ (hZ hp1 (by omega)) (gJ _ _)
 ·unfold Fh
  exact hZ ha (gJ _ _)
theorem RA {kind : Int} {w a b : Nat} (hw : 1 <= w) (ha : a < 2 ^ w) (hb : b < 2 ^ w) : (om kind w a b).1 < 2 ^ (om kind w a b).2 := by
 unfold om
 split
 ·exact PV hw ha hb
 ·simp only; split <;> omega
theorem Uk {w a b : Nat} (hw : 1 <= w) : (sgn w (gG w (sgn w a + sgn w b)) ≠ sgn w a + sgn w b) ↔ ¬ (-((2 ^ (w - 1) : Nat) : Int) <= sgn w a + sgn w b /\ sgn w a + sgn w b < ((2 ^ (w - 1) : Nat) : Int)) := by
 rw [ne_eq, PF hw]
structure SortP where
 idx : Int
 wid : Int
 deriving DecidableEq
structure NodeP where
 kind : Int
 a : Int
 b : Int
 c : Int
 n : Int
 m : Int
 sort : SortP
 name : ByteArray
structure BindP where
 state : Int
 node : Int
 deriving DecidableEq
structure aj where
 nodes : List NodeP
 inits : List BindP
 nexts : List BindP
 bads : List Int
 holds : List Int
def bV (s : SortP) : Bool := decide ((0 <= s.idx /\ s.idx <= 2) /\ (1 <= s.wid /\ s.wid <= 16))
def cw (s : SortP) : Nat := if bV s then 2 ^ s.idx.toNat else 0
def dP (s : SortP) : Nat := cw s * s.wid.toNat
def cE (w : Int) : SortP := ⟨0, w⟩
def ah (kind : Int) : Int :=
 if (1 <= kind /\ kind <= 5) \/ (30 <= kind /\ kind <= 32) then 1 else if (6 <= kind /\ kind <= 29) \/ kind = 37 then 2 else if kind = 33 \/ kind = 38 then 3 else
 if 34 <= kind /\ kind <= 36 then 0 else -1
def fv (c : UInt8) : Bool := decide (97 <= c.toNat /\ c.toNat <= 122)
def kC (c : UInt8) : Bool := decide (48 <= c.toNat /\ c.toNat <= 57)
def fM (s : ByteArray) : Bool := decide (1 <= s.size /\ s.size <= 8) && (match s.data.toList with | [] => false | c :: r => fv c && r.all fun c => fv c || kC c)
def fg (kind : Int) : Bool := decide (kind = 35 \/ kind = 36)
def nv (k : Int) (len : Nat) (i : Int) (p : Int) : Bool := if i < k then decide (0 <= p /\ p <= (len : Int) - 1) else decide (p = 0)
def eM (len : Nat) (n : NodeP) : Bool :=
 decide (0 <= ah n.kind) && (nv (ah n.kind) len 0 n.a && nv (ah n.kind) len 1 n.b && nv (ah n.kind) len 2 n.c) &&
 (if fg n.kind then fM n.name else decide (n.name.size = 0)) && (decide (n.kind = 30) || decide (n.m = 0)) &&
 (decide (n.kind = 30 \/ n.kind = 31 \/ n.kind = 32 \/ n.kind = 34) || decide (n.n = 0))
def gp (w v : Int) : Bool := decide ((1 <= w /\ w <= 16) /\ 0 <= v /\ v <= ((2 ^ w.toNat : Nat) : Int) - 1)
def cU (n : NodeP) (a b c : SortP) : Option SortP :=
 if n.kind = 33 then (if a = cE 1 /\ b = c then some b else none) else
 if n.kind = 37 then (if 0 < a.idx /\ b = cE a.idx then some (cE a.wid) else none) else
 if n.kind = 38 then (if 0 < a.idx /\ b = cE a.idx /\ c = cE a.wid then some a else none) else
 if n.kind = 21 then (if a = b then some (cE 1) else none) else
 if 0 < a.idx \/ (ah n.kind = 2 /\ 0 < b.idx) then none else
 if n.kind = 29 then (if a.wid + b.wid <= 16 then some (cE (a.wid + b.wid)) else none) else
 if n.kind = 30 then (if (0 <= n.n /\ n.n <= a.wid - 1) /\ 0 <= n.m /\ n.m <= n.n then some (cE (n.n - n.m + 1)) else none) else
 if n.kind = 31 \/ n.kind = 32 then (if 0 <= n.n /\ n.n <= 16 - a.wid then some (cE (a.wid + n.n)) else none) else
 if n.kind <= 5 then some (cE (if n.kind <= 2 then a.wid else 1)) else
 if a = b then some (cE (if n.kind <= 20 then a.wid else 1)) else none
def au (l : List NodeP) (p : Int) : SortP := match l[p.toNat]? with | some n => n.sort | none => ⟨0, 0⟩
def cP (l : List NodeP) (n : NodeP) : Option SortP :=
 if l.length <= 60 /\ eM l.length n = true then
  (if ah n.kind = 0 then (if (if n.kind = 34 then decide (n.sort.idx = 0) && gp n.sort.wid n.n else bV n.sort) then some n.sort else none) else
   if bV (au l n.a) && ((decide (ah n.kind < 2) || bV (au l n.b)) && (decide (ah n.kind < 3) || bV (au l n.c))) then
    cU n (au l n.a) (au l n.b) (au l n.c) else none)
 else none
def bZ (l : List NodeP) : Bool := (List.range l.length).all fun i => match l[i]? with | some n => decide (cP (l.take i) n = some n.sort) | none => true
def jl {α : Type} [DecidableEq α] (l : List α) : Bool := (List.range l.length).any fun i => match l[i]? with | some x => (l.take i).any fun y => decide (y = x) | none => false
def km (l : List NodeP) : Bool := (List.range l.length).any fun i => match l[i]? with | some n => decide (n.name.size ≠ 0) && (l.take i).any fun y => decide (y.name = n.name) | none => false
def qB (m : aj) : Bool := km m.nodes || (jl (m.inits.map (·.state)) || jl (m.nexts.map (·.state)))
def dn (l : List NodeP) : Nat -> List Bool
 | 0 => []
 | i + 1 => dn l i ++ [match l[i]? with
   | some n => fg n.kind || ((decide (0 < ah n.kind) && (dn l i).getD n.a.toNat false) || ((decide (1 < ah n.kind) && (dn l i).getD n.b.toNat false) || (decide (2 < ah n.kind) && (dn l i).getD n.c.toNat false)))
   | none => false]
def cL (l : List NodeP) (p : Int) : Bool := decide (0 <= p /\ p <= (l.length : Int) - 1)
def jj (l : List NodeP) (p : Int) : Int := match l[p.toNat]? with | some n => n.kind | none => 0
def gn (l : List NodeP) (b : BindP) : Bool :=
 (cL l b.state && cL l b.node && decide (jj l b.state = 36)) && ((decide (au l b.state = au l b.node) || decide (au l b.node = cE (au l b.state).wid)) && !(dn l l.length).getD b.node.toNat false)
def eC (l : List NodeP) (b : BindP) : Bool := (cL l b.state && cL l b.node && decide (jj l b.state = 36)) && decide (au l b.state = au l b.node)
def dF (l : List NodeP) (p : Int) : Bool := cL l p && decide (au l p = cE 1)
def av (l : List NodeP) (kind : Int) : Nat := ((l.filter fun n => decide (n.kind = kind)).map fun n => dP n.sort).sum
def aM (l : List NodeP) (kind : Int) : List Nat := (List.range l.length).filter fun i => match l[i]? with | some n => decide (n.kind = kind) | none => false
def aR (m : aj) : Int :=
 if 60 < m.nodes.length \/ 60 < m.inits.length \/ 60 < m.nexts.length \/ 4 < m.bads.length \/ 4 < m.holds.length then 1 else
 if bZ m.nodes = false then 2 else if qB m = true then 3 else
 if (m.inits.all (gn m.nodes) && m.nexts.all (eC m.nodes)) = false then 4 else
 if (m.bads.all (dF m.nodes) && m.holds.all (dF m.nodes)) = false then 5 else
 if 8 < av m.nodes 36 \/ 5 < av m.nodes 35 then 6 else 0
def cC (v : List (List Nat)) (p : Int) : Nat := (v.getD p.toNat []).getD 0 0
def JE (a lo n : Nat) : Nat := a / 2 ^ lo % 2 ^ n
def BV (w a more : Nat) (signed : Bool) : Nat := if signed then gG (w + more) (sgn w a) else a
def fI (l : List NodeP) (n : NodeP) (v : List (List Nat)) : List Nat :=
 if n.kind = 34 then [n.n.toNat] else
 if n.kind = 33 then (if cC v n.a = 1 then v.getD n.b.toNat [] else v.getD n.c.toNat []) else
 if n.kind = 21 then [if v.getD n.a.toNat [] = v.getD n.b.toNat [] then 1 else 0] else
 if n.kind = 37 then [(v.getD n.a.toNat []).getD (cC v n.b) 0] else
 if n.kind = 38 then (v.getD n.a.toNat []).set (cC v n.b) (cC v n.c) else
 if n.kind = 29 then [cC v n.a * 2 ^ (au l n.b).wid.toNat + cC v n.b] else
 if n.kind = 30 then [JE (cC v n.a) n.m.toNat (n.n - n.m + 1).toNat] else
 if n.kind = 31 \/ n.kind = 32 then [BV (au l n.a).wid.toNat (cC v n.a) n.n.toNat (decide (n.kind = 32))] else
 if ah n.kind = 1 then [(tz n.kind (au l n.a).wid.toNat (cC v n.a)).1] else [(om n.kind (au l n.a).wid.toNat (cC v n.a) (cC v n.b)).1]
def fH (l : List NodeP) (s inp : List (List Nat)) : Nat -> List (List Nat)
 | 0 => []
 | i + 1 => fH l s inp i ++ [match l[i]? with
   | some n => if n.kind = 36 then s.getD (aM (l.take i) 36).length [] else if n.kind = 35 then inp.getD (aM (l.take i) 35).length [] else fI l n (fH l s inp i)
   | none => []]
def px (n : NodeP) : List Nat := ([n.a.toNat, n.b.toNat, n.c.toNat]).take (ah n.kind).toNat
theorem rW (k : Int) : ah k = 0 \/ ah k = 1 \/ ah k = 2 \/ ah k = 3 \/ ah k = -1 := by
 unfold ah
 by_cases h1 : (1 <= k /\ k <= 5) \/ (30 <= k /\ k <= 32)
 ·rw [if_pos h1]; simp
 rw [if_neg h1]
 by_cases h2 : (6 <= k /\ k <= 29) \/ k = 37
 ·rw [if_pos h2]; simp
 rw [if_neg h2]
 by_cases h3 : k = 33 \/ k = 38
 ·rw [if_pos h3]; simp
 rw [if_neg h3]
 by_cases h4 : 34 <= k /\ k <= 36
 ·rw [if_pos h4]; simp
 rw [if_neg h4]; simp
def HI (l : List NodeP) : Prop := ∀ (i : Nat) (n : NodeP), l[i]? = some n -> 0 <= ah n.kind /\ ∀ p ∈ px n, p < i
def nL (l : List NodeP) (j : Nat) : Bool := match l[j]? with | some n => fg n.kind | none => false
def pA (l : List NodeP) (j : Nat) : Bool := (dn l l.length).getD j false
theorem fU (l : List NodeP) : ∀ i, (dn l i).length = i := by
 intro i
 induction i with
 | zero => rfl
 | succ i ih => simp only [dn, List.length_append, ih, List.length_cons, List.length_nil]
theorem Mj (l : List NodeP) : ∀ d i j, j < i -> (dn l (i + d)).getD j false = (dn l i).getD j false := by
 intro d
 induction d with
 | zero => intro i j _; rfl
 | succ d ih =>
  intro i j hj
  rw [<- Nat.add_assoc]
  simp only [dn]
  have hl := fU l (i + d)
  rw [List.getD, List.getElem?_append_left (by omega)]
  exact ih i j hj
theorem oZ {l : List NodeP} {i j : Nat} (hj : j < i) (hi : i <= l.length) : (dn l i).getD j false = pA l j := by
 have := Mj l (l.length - i) i j hj
 rw [show i + (l.length - i) = l.length by omega] at this
 exact this.symm
theorem PI {l : List NodeP} (ha : HI l) {i : Nat} {n : NodeP} (hn : l[i]? = some n) : pA l i = true ↔ fg n.kind = true \/ ∃ p ∈ px n, pA l p = true := by
 have hi : i < l.length := (List.getElem?_eq_some_iff.1 hn).1
 obtain ⟨hk, hp⟩ := ha i n hn
 have e : pA l i = (fg n.kind || ((decide (0 < ah n.kind) && (dn l i).getD n.a.toNat false) || ((decide (1 < ah n.kind) && (dn l i).getD n.b.toNat false) || (decide (2 < ah n.kind) && (dn l i).getD n.c.toNat false)))) := by
  rw [<- oZ (Nat.lt_succ_self i) hi]
  simp only [dn]
  have hl := fU l i
  rw [List.getD, List.getElem?_append_right (by omega), hl, Nat.sub_self]
  simp only [hn, List.getElem?_cons_zero, Option.getD_some]
 rw [e]
 unfold px at hp ⊢
 rcases rW n.kind with h | h | h | h | h
 ·simp [h]
 ·rw [h] at hp ⊢
  have h1 := hp n.a.toNat (by simp)
  rw [oZ h1 (by omega)]
  simp
 ·rw [h] at hp ⊢
  have h1 := hp n.a.toNat (by simp)
  have h2 := hp n.b.toNat (by simp)
  rw [oZ h1 (by omega), oZ h2 (by omega)]
  simp
 ·rw [h] at hp ⊢
  have h1 := hp n.a.toNat (by simp)
  have h2 := hp n.b.toNat (by simp)
  have h3 := hp n.c.toNat (by simp)
  rw [oZ h1 (by omega), oZ h2 (by omega), oZ h3 (by omega)]
  simp
 ·omega
def rf (l : List NodeP) : Nat -> (Nat -> Bool) -> Nat -> Bool
 | 0, S => S
 | i + 1, S => rf l i (if S i then fun j => S j || (match l[i]? with | some n => (px n).contains j | none => false) else S)
theorem Nu {l : List NodeP} (ha : HI l) : ∀ (i : Nat) (S : Nat -> Bool), i <= l.length ->
  ((∃ j, rf l i S j = true /\ nL l j = true) ↔ (∃ j, i <= j /\ S j = true /\ nL l j = true) \/ ∃ j, j < i /\ S j = true /\ pA l j = true) := by
 intro i
 induction i with
 | zero => intro S _; simp [rf]
 | succ i ih =>
  intro S hi
  simp only [rf]
  rw [ih _ (by omega)]
  obtain ⟨n, hn⟩ : ∃ n, l[i]? = some n := ⟨l[i], List.getElem?_eq_getElem (by omega)⟩
  have hm := PI ha hn
  have hp := (ha i n hn).2
  have hnm : nL l i = fg n.kind := by unfold nL; rw [hn]
  by_cases hS : S i = true
  ·simp only [hS, if_true, hn]
   constructor
   ·rintro (⟨j, h1, h2, h3⟩ | ⟨j, h1, h2, h3⟩)
    ·by_cases hji : j = i
     ·subst hji
      exact .inr ⟨j, by omega, hS, hm.2 (.inl (hnm ▸ h3))⟩
     ·rcases Bool.or_eq_true_iff.1 h2 with h2 | h2
      ·exact .inl ⟨j, by omega, h2, h3⟩
      ·have := hp j (by simpa using h2); omega
    ·rcases Bool.or_eq_true_iff.1 h2 with h2 | h2
     ·exact .inr ⟨j, by omega, h2, h3⟩
     ·exact .inr ⟨i, by omega, hS, hm.2 (.inr ⟨j, by simpa using h2, h3⟩)⟩
   ·rintro (⟨j, h1, h2, h3⟩ | ⟨j, h1, h2, h3⟩)
    ·exact .inl ⟨j, by omega, by simp [h2], h3⟩
    ·by_cases hji : j = i
     ·subst hji
      rcases hm.1 h3 with h4 | ⟨p, hp1, hp2⟩
      ·exact .inl ⟨j, Nat.le_refl _, by simp [hS], hnm ▸ h4⟩
      ·exact .inr ⟨p, hp p hp1, by simp [hp1], hp2⟩
     ·exact .inr ⟨j, by omega, by simp [h2], h3⟩
  ·simp only [hS, if_false]
   constructor
   ·rintro (⟨j, h1, h2, h3⟩ | ⟨j, h1, h2, h3⟩)
    ·by_cases hji : j = i
     ·subst hji; exact absurd h2 hS
     ·exact .inl ⟨j, by omega, h2, h3⟩
    ·exact .inr ⟨j, by omega, h2, h3⟩
   ·rintro (⟨j, h1, h2, h3⟩ | ⟨j, h1, h2, h3⟩)
    ·exact .inl ⟨j, by omega, h2, h3⟩
    ·by_cases hji : j = i
     ·subst hji; exact absurd h2 hS
     ·exact .inr ⟨j, by omega, h2, h3⟩
theorem Rj {l : List NodeP} (ha : HI l) {i : Nat} (hi : i < l.length) : (∃ j, rf l (i + 1) (fun j => decide (j = i)) j = true /\ nL l j = true) ↔ pA l i = true := by
 rw [Nu ha _ _ (by omega)]
 constructor
 ·rintro (⟨j, h1, h2, h3⟩ | ⟨j, h1, h2, h3⟩)
  ·simp at h2; omega
  ·simp at h2; subst h2; exact h3
 ·intro h; exact .inr ⟨i, by omega, by simp, h⟩
theorem RK {l : List NodeP} (ha : HI l) (k : Nat) : ∀ (i : Nat) (S : Nat -> Bool), i <= k + 1 -> i <= l.length -> (∀ j, S j = true -> j <= k) -> ∀ j, rf l i S j = true -> j <= k := by
 intro i
 induction i with
 | zero => intro S _ _ hS j hj; exact hS j hj
 | succ i ih =>
  intro S hk hi hS j hj
  simp only [rf] at hj
  refine ih _ (by omega) (by omega) ?_ j hj
  intro j' hj'
  split at hj'
  ·rcases Bool.or_eq_true_iff.1 hj' with h | h
   ·exact hS j' h
   ·obtain ⟨n, hn⟩ : ∃ n, l[i]? = some n := ⟨l[i], List.getElem?_eq_getElem (by omega)⟩
    rw [hn] at h
    have := (ha i n hn).2 j' (by simpa using h)
    omega
  ·exact hS j' hj'
def kS (w : Nat) : Nat -> Nat -> List Nat
 | 0, _ => []
 | c + 1, code => kS w c code ++ [code / 2 ^ (w * c) % 2 ^ w]
def bX (l : List NodeP) (p : Nat) : Nat := (au l p).wid.toNat
def aD (l : List NodeP) (p : Nat) : Nat := cw (au l p)
def ce (l : List NodeP) (ps : List Nat) : Nat := (ps.map fun p => bX l p * aD l p).sum
def lI (l : List NodeP) (ps : List Nat) (code : Nat) : List (List Nat) :=
 (List.range ps.length).map fun i => kS (bX l (ps.getD i 0)) (aD l (ps.getD i 0)) (code / 2 ^ ce l (ps.take i))
theorem pz (w c code : Nat) : (kS w c code).length = c := by
 induction c with
 | zero => rfl
 | succ c ih => simp only [kS, List.length_append, ih, List.length_cons, List.length_nil]
theorem Lq {w c code x : Nat} (h : x ∈ kS w c code) : x < 2 ^ w := by
 induction c with
 | zero => cases h
 | succ c ih =>
  simp only [kS, List.mem_append, List.mem_singleton] at h
  rcases h with h | h
  ·exact ih h
  ·subst h; exact Nat.mod_lt _ (aU w)
theorem jn (l : List NodeP) (ps : List Nat) (code : Nat) : (lI l ps code).length = ps.length := by simp [lI]
theorem Le {α : Type} {l : List α} {i : Nat} {x : α} (h : l[i]? = some x) : i < l.length := by
 rcases Nat.lt_or_ge i l.length with h' | h'
 ·exact h'
 ·rw [List.getElem?_eq_none h'] at h; cases h
theorem CL {l : List NodeP} {ps : List Nat} {code i p : Nat} (h : ps[i]? = some p) : (lI l ps code).getD i [] = kS (bX l p) (aD l p) (code / 2 ^ ce l (ps.take i)) := by
 have hlt := Le h
 have hp : ps.getD i 0 = p := by rw [List.getD_eq_getElem?_getD, h]; rfl
 unfold lI
 rw [List.getD_eq_getElem?_getD, List.getElem?_map, List.getElem?_range hlt]
 simp only [Option.map_some, Option.getD_some, hp]
theorem kj {l : List NodeP} {ps : List Nat} {i p : Nat} (h : ps[i]? = some p) : ce l (ps.take (i + 1)) = ce l (ps.take i) + bX l p * aD l p := by
 have hlt := Le h
 rw [List.getElem?_eq_getElem hlt] at h
 unfold ce
 rw [List.take_succ_eq_append_getElem hlt, Option.some.inj h, List.map_append, List.sum_append]; simp
theorem Bn (l : List NodeP) (ps : List Nat) (i : Nat) : ce l (ps.take i) <= ce l ps := by
 conv => rhs; rw [<- List.take_append_drop i ps]
 unfold ce
 rw [List.map_append, List.sum_append]; omega
def eY (w : Nat) : List Nat -> Nat
 | [] => 0
 | x :: xs => x + 2 ^ w * eY w xs
theorem xU {w : Nat} : ∀ {xs : List Nat}, (∀ x ∈ xs, x < 2 ^ w) -> eY w xs < 2 ^ (w * xs.length) := by
 intro xs
 induction xs with
 | nil => intro _; simp [eY]
 | cons x xs ih =>
  intro h
  have h1 := ih fun y hy => h y (by simp [hy])
  have h2 := h x (by simp)
  simp only [eY, List.length_cons]
  rw [Nat.mul_add, Nat.mul_one, Nat.pow_add, Nat.mul_comm (2 ^ (w * xs.length))]
  have h3 := Nat.mul_le_mul_left (2 ^ w) (Nat.succ_le_of_lt h1)
  rw [Nat.succ_eq_add_one, Nat.mul_add, Nat.mul_one] at h3
  omega
theorem B5 (w : Nat) (xs : List Nat) (x : Nat) : eY w (xs ++ [x]) = eY w xs + 2 ^ (w * xs.length) * x := by
 induction xs with
 | nil => simp [eY]
 | cons y ys ih =>
  simp only [List.cons_append, eY, ih, List.length_cons]
  rw [Nat.mul_add, <- Nat.add_assoc]
  congr 1
  rw [Nat.mul_add w, Nat.mul_one, Nat.add_comm (w * ys.length), Nat.pow_add, Nat.mul_assoc]
theorem HA (w : Nat) (code k : Nat) : ∀ c, c <= k -> kS w c (code % 2 ^ (w * k)) = kS w c code := by
 intro c
 induction c with
 | zero => intro _; rfl
 | succ c ih =>
  intro h
  simp only [kS, ih (by omega)]
  congr 2
  have hk : w * k = w * c + (w + w * (k - c - 1)) := by
   have : k = c + (1 + (k - c - 1)) := by omega
   conv => lhs; rw [this]
   simp only [Nat.mul_add, Nat.mul_one]
  rw [hk, Nat.pow_add, Nat.mod_mul_right_div_self, Nat.pow_add, Nat.mod_mul_right_mod]
theorem Fz (w c code : Nat) : eY w (kS w c code) = code % 2 ^ (w * c) := by
 induction c with
 | zero => simp [kS, eY, Nat.mod_one]
 | succ c ih =>
  rw [kS, B5, ih, pz, Nat.mul_add, Nat.mul_one, Nat.pow_add, Nat.mod_mul]
theorem L8 {w : Nat} : ∀ {xs : List Nat} {k : Nat}, (∀ x ∈ xs, x < 2 ^ w) -> k < xs.length -> eY w xs / 2 ^ (w * k) % 2 ^ w = xs.getD k 0 := by
 intro xs
 induction xs with
 | nil => intro k _ h; simp at h
 | cons x xs ih =>
  intro k h hk
  have hx := h x (by simp)
  have hp := aU w
  cases k with
  | zero =>
   simp only [eY, Nat.mul_zero, Nat.pow_zero, Nat.div_one, List.getD_cons_zero]
   rw [Nat.add_mul_mod_self_left, Nat.mod_eq_of_lt hx]
  | succ k =>
   rw [List.getD_cons_succ, <- ih (fun y hy => h y (by simp [hy])) (by simpa using hk)]
   simp only [eY]
   rw [Nat.mul_add, Nat.mul_one, Nat.add_comm (w * k), Nat.pow_add, <- Nat.div_div_eq_div_mul, Nat.add_mul_div_left _ _ hp, Nat.div_eq_of_lt hx, Nat.zero_add]
theorem Fn {w : Nat} {xs : List Nat} (h : ∀ x ∈ xs, x < 2 ^ w) : kS w xs.length (eY w xs) = xs := by
 have key : ∀ c, c <= xs.length -> kS w c (eY w xs) = xs.take c := by
  intro c
  induction c with
  | zero => intro _; rfl
  | succ c ih =>
   intro hc
   rw [kS, ih (by omega), L8 h (by omega), List.take_succ_eq_append_getElem (by omega), List.getD_eq_getElem?_getD, List.getElem?_eq_getElem (by omega)]; rfl
 have := key xs.length (Nat.le_refl _)
 rwa [List.take_length] at this
theorem BF (w n : Nat) : eY w (List.replicate n 0) = 0 := by
 induction n with
 | zero => rfl
 | succ n ih => simp only [List.replicate_succ, eY, ih]; simp
def nbA (l : List NodeP) (p : Nat) : Nat := bX l p * aD l p
def A5 (l : List NodeP) : List Nat -> Nat -> List (List Nat)
 | [], _ => []
 | p :: ps, code => kS (bX l p) (aD l p) code :: A5 l ps (code / 2 ^ nbA l p)
def dR (l : List NodeP) : List Nat -> List (List Nat) -> Nat
 | [], _ => 0
 | p :: ps, vs => eY (bX l p) (vs.headD []) + 2 ^ nbA l p * dR l ps vs.tail
def lp (l : List NodeP) : List Nat -> List (List Nat) -> Prop
 | [], vs => vs = []
 | p :: ps, vs => ∃ v r, vs = v :: r /\ v.length = aD l p /\ (∀ x ∈ v, x < 2 ^ bX l p) /\ lp l ps r
theorem nU (l : List NodeP) (p : Nat) (ps : List Nat) : ce l (p :: ps) = nbA l p + ce l ps := by simp [ce, nbA]
theorem Bg (l : List NodeP) : ∀ (ps : List Nat) (code : Nat), lI l ps code = A5 l ps code := by
 intro ps
 induction ps with
 | nil => intro code; simp [lI, A5]
 | cons p ps ih =>
  intro code
  rw [A5, <- ih]
  unfold lI
  rw [List.length_cons, List.range_succ_eq_map, List.map_cons, List.map_map]
  simp only [List.getD_cons_zero, List.take_zero, ce, List.map_nil, List.sum_nil, Nat.pow_zero, Nat.div_one, List.cons.injEq, true_and]
  apply List.map_congr_left
  intro i _
  simp only [Function.comp, List.getD_cons_succ, List.take_succ_cons, List.map_cons, List.sum_cons, nbA]
  rw [Nat.pow_add, Nat.div_div_eq_div_mul]
theorem HR (l : List NodeP) : ∀ (ps : List Nat) (code : Nat), lp l ps (A5 l ps code) := by
 intro ps
 induction ps with
 | nil => intro code; rfl
 | cons p ps ih => exact fun code => ⟨_, _, rfl, pz _ _ _, fun x hx => Lq hx, ih _⟩
theorem Dq {l : List NodeP} : ∀ {ps : List Nat} {vs : List (List Nat)}, lp l ps vs -> dR l ps vs < 2 ^ ce l ps := by
 intro ps
 induction ps with
 | nil => intro vs _; simp [dR, ce]
 | cons p ps ih =>
  rintro _ ⟨v, r, rfl, h1, h2, h3⟩
  have h4 := ih h3
  have h5 := xU h2
  rw [h1] at h5
  have h5' : eY (bX l p) v < 2 ^ nbA l p := h5
  simp only [dR, List.headD_cons, List.tail_cons]
  rw [nU, Nat.pow_add]
  have h6 := Nat.mul_le_mul_left (2 ^ nbA l p) (Nat.succ_le_of_lt h4)
  rw [Nat.succ_eq_add_one, Nat.mul_add, Nat.mul_one] at h6
  omega
theorem y1 {l : List NodeP} : ∀ {ps : List Nat} {vs : List (List Nat)}, lp l ps vs -> A5 l ps (dR l ps vs) = vs := by
 intro ps
 induction ps with
 | nil => rintro vs rfl; rfl
 | cons p ps ih =>
  rintro _ ⟨v, r, rfl, h1, h2, h3⟩
  have h5 := xU h2
  rw [h1] at h5
  have h5' : eY (bX l p) v < 2 ^ nbA l p := h5
  simp only [A5, dR, List.headD_cons, List.tail_cons]
  rw [Nat.add_mul_div_left _ _ (aU _), Nat.div_eq_of_lt h5', Nat.zero_add, ih h3, <- HA _ _ _ _ (Nat.le_refl _)]
  have : (eY (bX l p) v + 2 ^ nbA l p * dR l ps r) % 2 ^ (bX l p * aD l p) = eY (bX l p) v := by
   show _ % 2 ^ nbA l p = _
   rw [Nat.add_mul_mod_self_left, Nat.mod_eq_of_lt h5']
  rw [this, <- h1, Fn h2]
theorem qU {l : List NodeP} : ∀ {ps : List Nat} {vs : List (List Nat)}, lp l ps vs -> vs.length = ps.length := by
 intro ps
 induction ps with
 | nil => rintro vs rfl; rfl
 | cons p ps ih => rintro _ ⟨v, r, rfl, h1, h2, h3⟩; simp [ih h3]
theorem JA {l : List NodeP} : ∀ {ps : List Nat} {vs : List (List Nat)} {p : Nat} {v : List Nat}, vs.length = ps.length ->
  dR l (ps ++ [p]) (vs ++ [v]) = dR l ps vs + 2 ^ ce l ps * eY (bX l p) v := by
 intro ps
 induction ps with
 | nil =>
  intro vs p v h
  obtain rfl : vs = [] := List.eq_nil_of_length_eq_zero (by simpa using h)
  simp [dR, ce]
 | cons q ps ih =>
  intro vs p v h
  obtain ⟨u, r, rfl⟩ : ∃ u r, vs = u :: r := by
   cases vs with
   | nil => simp at h
   | cons u r => exact ⟨u, r, rfl⟩
  simp only [List.cons_append, dR, List.headD_cons, List.tail_cons]
  rw [ih (by simpa using h), nU, Nat.pow_add, Nat.mul_add, Nat.mul_assoc, Nat.add_assoc]
theorem Nf {l : List NodeP} : ∀ {ps : List Nat} {vs : List (List Nat)}, lp l ps vs -> ∀ i, lp l (ps.take i) (vs.take i) := by
 intro ps
 induction ps with
 | nil => rintro vs rfl i; simp [lp]
 | cons p ps ih =>
  rintro _ ⟨v, r, rfl, h1, h2, h3⟩ i
  cases i with
  | zero => rfl
  | succ i => exact ⟨v, r.take i, rfl, h1, h2, ih h3 i⟩
theorem pm {l : List NodeP} : ∀ {ps : List Nat} {vs : List (List Nat)}, lp l ps vs -> ∀ {i p : Nat}, ps[i]? = some p -> (vs.getD i []).length = aD l p /\ ∀ x ∈ vs.getD i [], x < 2 ^ bX l p := by
 intro ps
 induction ps with
 | nil => rintro vs rfl i p h; simp at h
 | cons q ps ih =>
  rintro _ ⟨v, r, rfl, h1, h2, h3⟩ i p h
  cases i with
  | zero => simp at h; subst h; exact ⟨h1, h2⟩
  | succ i => exact ih h3 (by simpa using h)
def cm (binds : List BindP) (p : Nat) : Option Nat := (binds.find? fun b => decide (b.state = (p : Int))).map (·.node.toNat)
def eJ (l : List NodeP) (c : Nat -> Bool) : List Nat -> Nat
 | [] => 0
 | p :: ps => (if c p then 2 ^ nbA l p - 1 else 0) + 2 ^ nbA l p * eJ l c ps
def kw (l : List NodeP) (f : Nat -> Option (List Nat)) (ps : List Nat) : List (List Nat) := ps.map fun p => (f p).getD (List.replicate (aD l p) 0)
theorem KO (n : Nat) : 2 ^ n - 1 < 2 ^ n := by have := aU n; omega
theorem LN (l : List NodeP) (c : Nat -> Bool) (p : Nat) : (if c p then 2 ^ nbA l p - 1 else 0) < 2 ^ nbA l p := by
 have := aU (nbA l p); split <;> omega
theorem ua (l : List NodeP) (c : Nat -> Bool) : ∀ ps, eJ l c ps < 2 ^ ce l ps := by
 intro ps
 induction ps with
 | nil => simp [eJ, ce]
 | cons p ps ih =>
  have h1 := LN l c p
  rw [nU, Nat.pow_add, eJ]
  have h6 := Nat.mul_le_mul_left (2 ^ nbA l p) (Nat.succ_le_of_lt ih)
  rw [Nat.succ_eq_add_one, Nat.mul_add, Nat.mul_one] at h6
  omega
theorem zw {n a b : Nat} (ha : a < 2 ^ n) (j : Nat) : (a + 2 ^ n * b).testBit j = if j < n then a.testBit j else b.testBit (j - n) := by
 rw [Nat.add_comm, Nat.testBit_two_pow_mul_add _ ha]
theorem Mp {n a b c d : Nat} (ha : a < 2 ^ n) (hc : c < 2 ^ n) : (a + 2 ^ n * b) &&& (c + 2 ^ n * d) = (a &&& c) + 2 ^ n * (b &&& d) := by
 apply Nat.eq_of_testBit_eq
 intro j
 rw [Nat.testBit_and, zw ha, zw hc, zw (Nat.lt_of_le_of_lt Nat.and_le_left ha)]
 split <;> rw [Nat.testBit_and]
theorem Me {n a b c d : Nat} (ha : a < 2 ^ n) (hc : c < 2 ^ n) : a + 2 ^ n * b = c + 2 ^ n * d ↔ a = c /\ b = d := by
 constructor
 ·intro h
  have h1 : (a + 2 ^ n * b) % 2 ^ n = (c + 2 ^ n * d) % 2 ^ n := by rw [h]
  have h2 : (a + 2 ^ n * b) / 2 ^ n = (c + 2 ^ n * d) / 2 ^ n := by rw [h]
  rw [Nat.add_mul_mod_self_left, Nat.add_mul_mod_self_left, Nat.mod_eq_of_lt ha, Nat.mod_eq_of_lt hc] at h1
  rw [Nat.add_mul_div_left _ _ (aU n), Nat.add_mul_div_left _ _ (aU n), Nat.div_eq_of_lt ha, Nat.div_eq_of_lt hc] at h2
  exact ⟨h1, by omega⟩
 ·rintro ⟨rfl, rfl⟩; rfl
theorem y2 {l : List NodeP} {f : Nat -> Option (List Nat)} : ∀ {ps : List Nat} (s : Nat), (∀ p ∈ ps, ∀ v, f p = some v -> v.length = aD l p /\ ∀ x ∈ v, x < 2 ^ bX l p) ->
  (s &&& eJ l (fun p => (f p).isSome) ps = dR l ps (kw l f ps) ↔ ∀ (i p : Nat), ps[i]? = some p -> ∀ v, f p = some v -> (A5 l ps s).getD i [] = v) := by
 intro ps
 induction ps with
 | nil => intro s _; simp [eJ, dR]
 | cons p ps ih =>
  intro s hf
  have ih' := ih (s / 2 ^ nbA l p) fun q hq => hf q (by simp [hq])
  have hs : s = s % 2 ^ nbA l p + 2 ^ nbA l p * (s / 2 ^ nbA l p) := (Nat.mod_add_div _ _).symm
  have hm := Nat.mod_lt s (aU (nbA l p))
  have hhead : eY (bX l p) ((f p).getD (List.replicate (aD l p) 0)) < 2 ^ nbA l p := by
   cases h : f p with
   | none => simp only [Option.getD_none, BF]; exact aU _
   | some v =>
    have h2 := hf p (by simp) v h
    have h1 := xU h2.2
    rw [h2.1] at h1; exact h1
  have e1 : s &&& eJ l (fun p => (f p).isSome) (p :: ps) = (s % 2 ^ nbA l p &&& (if (f p).isSome then 2 ^ nbA l p - 1 else 0)) + 2 ^ nbA l p * (s / 2 ^ nbA l p &&& eJ l (fun p => (f p).isSome) ps) := by
   conv => lhs; rw [hs]
   rw [eJ, Mp hm (LN l (fun p => (f p).isSome) p)]
  have e2 : dR l (p :: ps) (kw l f (p :: ps)) = eY (bX l p) ((f p).getD (List.replicate (aD l p) 0)) + 2 ^ nbA l p * dR l ps (kw l f ps) := rfl
  rw [e1, e2, Me (Nat.lt_of_le_of_lt Nat.and_le_left hm) hhead, ih']
  constructor
  ·rintro ⟨h1, h2⟩ i q hq v hv
   cases i with
   | zero =>
    simp at hq; subst hq
    rw [hv] at h1
    simp only [Option.isSome_some, if_true, Option.getD_some, Nat.and_two_pow_sub_one_eq_mod, Nat.mod_mod] at h1
    have h3 := hf p (by simp) v hv
    simp only [A5, List.getD_cons_zero]
    rw [<- HA _ _ _ _ (Nat.le_refl _)]
    show kS _ _ (s % 2 ^ nbA l p) = v
    rw [h1, <- h3.1, Fn h3.2]
   | succ i => exact h2 i q (by simpa using hq) v hv
  ·intro h
   refine ⟨?_, fun i q hq v hv => h (i + 1) q (by simpa using hq) v hv⟩
   cases hv : f p with
   | none => simp [BF]
   | some v =>
    have h1 := h 0 p rfl v hv
    simp only [A5, List.getD_cons_zero] at h1
    simp only [Option.isSome_some, if_true, Option.getD_some, Nat.and_two_pow_sub_one_eq_mod, Nat.mod_mod]
    rw [<- h1, Fz]; rfl
theorem zE {l : List NodeP} {f : Nat -> Option (List Nat)} {ps : List Nat} (h : ∀ p ∈ ps, ∀ v, f p = some v -> v.length = aD l p /\ ∀ x ∈ v, x < 2 ^ bX l p) : lp l ps (kw l f ps) := by
 induction ps with
 | nil => rfl
 | cons p ps ih =>
  refine ⟨_, _, rfl, ?_, ?_, ih fun q hq => h q (by simp [hq])⟩
  ·show ((f p).getD (List.replicate (aD l p) 0)).length = _
   cases hv : f p with
   | none => simp
   | some v => exact (h p (by simp) v hv).1
  ·show ∀ x ∈ (f p).getD (List.replicate (aD l p) 0), _
   cases hv : f p with
   | none =>
    intro x hx
    simp at hx
    rw [hx.2]; exact aU _
   | some v => exact (h p (by simp) v hv).2
theorem IR {l : List NodeP} {f : Nat -> Option (List Nat)} {ps : List Nat} (h : ∀ p ∈ ps, ∀ v, f p = some v -> v.length = aD l p /\ ∀ x ∈ v, x < 2 ^ bX l p) :
  dR l ps (kw l f ps) &&& eJ l (fun p => (f p).isSome) ps = dR l ps (kw l f ps) := by
 rw [y2 _ h, y1 (zE h)]
 intro i p hp v hv
 unfold kw
 rw [List.getD_eq_getElem?_getD, List.getElem?_map, hp]
 simp [hv]
theorem E2 {a b : Nat} (h : ∀ j, (a.testBit j && b.testBit j) = false) : a &&& b = 0 := by
 apply Nat.eq_of_testBit_eq; intro j; rw [Nat.testBit_and, h j, Nat.zero_testBit]
theorem OX (l : List NodeP) (c : Nat -> Bool) : ∀ ps, eJ l c ps + eJ l (fun p => !c p) ps = 2 ^ ce l ps - 1 := by
 intro ps
 induction ps with
 | nil => simp [eJ, ce]
 | cons p ps ih =>
  simp only [eJ]
  rw [nU, Nat.pow_add]
  have h1 := aU (nbA l p)
  have h2 := aU (ce l ps)
  have h3 : 2 ^ nbA l p * eJ l c ps + 2 ^ nbA l p * eJ l (fun p => !c p) ps = 2 ^ nbA l p * 2 ^ ce l ps - 2 ^ nbA l p := by
   rw [<- Nat.mul_add, ih, Nat.mul_sub, Nat.mul_one]
  have h4 := Nat.mul_le_mul_left (2 ^ nbA l p) h2
  by_cases hc : c p = true
  ·simp only [hc, Bool.not_true, if_true, if_false, Bool.false_eq_true]; omega
  ·have hc' : c p = false := by simpa using hc
   simp only [hc', Bool.not_false, if_true, if_false, Bool.false_eq_true]; omega
theorem tH (n a b : Nat) : cA n (fun j => a.testBit j && b.testBit j) + cA n (fun j => a.testBit j && !b.testBit j) = cA n a.testBit := by
 induction n with
 | zero => rfl
 | succ n ih =>
  simp only [cA]
  by_cases h1 : a.testBit n = true <;> by_cases h2 : b.testBit n = true <;> simp [h1, h2] <;> omega
theorem uB {n a : Nat} (h : a < 2 ^ n) : cA n a.testBit = a := gX h fun _ _ => rfl
theorem Rv {n a x y : Nat} (ha : a < 2 ^ n) (hxy : x + y = 2 ^ n - 1) (hx : x < 2 ^ n) : (a &&& x) + (a &&& y) = a /\ ∀ j, j < n -> y.testBit j = !x.testBit j := by
 have hb : ∀ j, j < n -> y.testBit j = !x.testBit j := by
  have h1 := tH n (2 ^ n - 1) x
  rw [uB (KO n), gX hx (fun i hi => by rw [Nat.testBit_two_pow_sub_one]; simp [hi])] at h1
  have h2 : cA n (fun j => (2 ^ n - 1).testBit j && !x.testBit j) = y := by omega
  intro j hj
  rw [<- h2, oG _ _ _ hj, Nat.testBit_two_pow_sub_one]
  simp [hj]
 refine ⟨?_, hb⟩
 have h1 := tH n a x
 rw [uB ha, Dk ha] at h1
 have h2 : cA n (fun j => a.testBit j && !x.testBit j) = a &&& y := by
  rw [<- Dk ha]
  exact po fun j hj => by rw [hb j hj]
 omega
theorem Qd {n x y nx t : Nat} (hxy : x + y = 2 ^ n - 1) (hx : x < 2 ^ n) (ht : t < 2 ^ n) (hnx : nx < 2 ^ n) (hn : nx &&& x = nx) : t &&& x = nx ↔ ∃ f, f &&& y = f /\ nx + f = t := by
 have h1 := Rv ht hxy hx
 constructor
 ·intro h
  exact ⟨t &&& y, by rw [Nat.and_assoc, Nat.and_self], by omega⟩
 ·rintro ⟨f, hf, rfl⟩
  have hfl : f < 2 ^ n := by omega
  have d : ∀ j, (nx.testBit j && f.testBit j) = false := by
   intro j
   by_cases hj : j < n
   ·have e1 : nx.testBit j = (nx.testBit j && x.testBit j) := by rw [<- Nat.testBit_and, hn]
    have e2 : f.testBit j = (f.testBit j && y.testBit j) := by rw [<- Nat.testBit_and, hf]
    rw [e1, e2, h1.2 j hj]
    cases nx.testBit j <;> cases f.testBit j <;> cases x.testBit j <;> rfl
   ·rw [Nat.testBit_lt_two_pow (Nat.lt_of_lt_of_le hnx (Nat.pow_le_pow_right (by omega) (by omega)))]; rfl
  have hor : nx + f = nx ||| f := by
   have hg : ∀ m, cA m nx.testBit + cA m f.testBit = cA m (fun j => nx.testBit j || f.testBit j) := by
    intro m
    induction m with
    | zero => rfl
    | succ m ih =>
     have := d m
     simp only [cA]
     by_cases h1 : nx.testBit m = true <;> by_cases h2 : f.testBit m = true <;> simp [h1, h2] at this ⊢ <;> omega
   have := hg n
   rw [uB hnx, uB hfl, LJ hnx hfl] at this
   exact this
  rw [hor]
  have hfx : f &&& x = 0 := E2 fun j => by
   by_cases hj : j < n
   ·have e2 : f.testBit j = (f.testBit j && y.testBit j) := by rw [<- Nat.testBit_and, hf]
    rw [e2, h1.2 j hj]
    cases f.testBit j <;> cases x.testBit j <;> rfl
   ·rw [Nat.testBit_lt_two_pow (Nat.lt_of_lt_of_le hfl (Nat.pow_le_pow_right (by omega) (by omega)))]; rfl
  rw [Nat.and_or_distrib_right, hn, hfx, Nat.or_zero]
def lq (n : Nat) (p : Nat -> Bool) : Bool := (List.range n).any p
theorem cd {n : Nat} {p : Nat -> Bool} : lq n p = true ↔ ∃ i, i < n /\ p i = true := by
 unfold lq; rw [List.any_eq_true]
 constructor
 ·rintro ⟨i, hi, h⟩; exact ⟨i, List.mem_range.1 hi, h⟩
 ·rintro ⟨i, hi, h⟩; exact ⟨i, List.mem_range.2 hi, h⟩
theorem Fj (n : Nat) (p : Nat -> Bool) : lq (n + 1) p = (lq n p || p n) := by
 unfold lq; rw [List.range_succ, List.any_append]; simp
theorem HM {n : Nat} {p q : Nat -> Bool} (h : ∀ i, i < n -> p i = q i) : lq n p = lq n q := by
 rw [Bool.eq_iff_iff, cd, cd]
 constructor
 ·rintro ⟨i, hi, e⟩; exact ⟨i, hi, by rw [<- h i hi]; exact e⟩
 ·rintro ⟨i, hi, e⟩; exact ⟨i, hi, by rw [h i hi]; exact e⟩
structure ar where
 n : Nat
 k : Nat
 hold : Nat -> Bool
 bad : Nat -> Bool
 next : Nat -> Nat
 fixed : Nat
 bfix : Nat
 bas : Nat
structure ar.Ok (σ : ar) : Prop where
 nle : σ.n <= 8
 kle : σ.k <= 5
 fixed : σ.fixed < 2 ^ σ.n
 bfix : σ.bfix < 2 ^ σ.n
 next : ∀ c, c < 2 ^ (σ.n + σ.k) -> σ.next c < 2 ^ σ.n
 held : ∀ c, c < 2 ^ (σ.n + σ.k) -> σ.next c &&& σ.fixed = σ.next c
 bas : σ.bas < 2 ^ σ.n
 bheld : σ.bas &&& σ.bfix = σ.bas
namespace ar
def begins (σ : ar) (s : Nat) : Bool := decide (s &&& σ.bfix = σ.bas)
def ends (σ : ar) (c : Nat) : Bool := σ.hold c && σ.bad c
def goes (σ : ar) (c t : Nat) : Bool := decide (t &&& σ.fixed = σ.next c)
def at_ (σ : ar) (s i : Nat) : Nat := i * 2 ^ σ.n + s
def some_ (σ : ar) (f : Nat -> Nat -> Bool) (s : Nat) : Bool := lq (2 ^ σ.k) fun i => f s (σ.at_ s i)
def leads (σ : ar) (S : Nat -> Bool) (c : Nat) : Bool := lq (2 ^ σ.n) fun t => S t && σ.goes c t
def fwd (σ : ar) (p S : Nat -> Bool) (t : Nat) : Bool := lq (2 ^ (σ.n + σ.k)) fun c => (S (c % 2 ^ σ.n) && p c) && σ.goes c t
def bwd (σ : ar) (p S : Nat -> Bool) : Nat -> Bool := σ.some_ fun _ c => p c && σ.leads S c
theorem pow_nk (σ : ar) : 2 ^ (σ.n + σ.k) = 2 ^ σ.k * 2 ^ σ.n := by rw [Nat.pow_add, Nat.mul_comm]
theorem at_lt {σ : ar} {s i : Nat} (hs : s < 2 ^ σ.n) (hi : i < 2 ^ σ.k) : σ.at_ s i < 2 ^ (σ.n + σ.k) := by
 rw [pow_nk]; unfold at_
 have := Nat.mul_le_mul_right (2 ^ σ.n) (Nat.succ_le_of_lt hi)
 rw [Nat.succ_mul] at this; omega
theorem at_mod {σ : ar} {s i : Nat} (hs : s < 2 ^ σ.n) : σ.at_ s i % 2 ^ σ.n = s := by
 unfold at_; rw [Nat.mul_comm, Nat.mul_add_mod, Nat.mod_eq_of_lt hs]
theorem at_of {σ : ar} {c : Nat} (hc : c < 2 ^ (σ.n + σ.k)) : c % 2 ^ σ.n < 2 ^ σ.n /\ c / 2 ^ σ.n < 2 ^ σ.k /\ σ.at_ (c % 2 ^ σ.n) (c / 2 ^ σ.n) = c := by
 refine ⟨Nat.mod_lt _ (aU _), ?_, ?_⟩
 ·rw [Nat.div_lt_iff_lt_mul (aU _), <- pow_nk]; exact hc
 ·unfold at_; rw [Nat.mul_comm]; exact Nat.div_add_mod _ _
theorem some_iff {σ : ar} {f : Nat -> Nat -> Bool} {s : Nat} : σ.some_ f s = true ↔ ∃ i, i < 2 ^ σ.k /\ f s (σ.at_ s i) = true := cd
def lay (σ : ar) : Nat -> (Nat -> Bool) × (Nat -> Bool)
 | 0 => (σ.begins, fun _ => false)
 | i + 1 => (fun t => σ.fwd σ.hold (σ.lay i).1 t && !((σ.lay i).2 t || (σ.lay i).1 t), fun t => (σ.lay i).2 t || (σ.lay i).1 t)
def front (σ : ar) (i : Nat) : Nat -> Bool := (σ.lay i).1
def seen (σ : ar) (i : Nat) : Nat -> Bool := (σ.lay i).2
def live (σ : ar) (i : Nat) : Bool := lq (2 ^ σ.n) (σ.front i)
def cntB (n : Nat) (S : Nat -> Bool) : Nat := ((List.range n).filter S).length
theorem cntB_le (n : Nat) (S : Nat -> Bool) : cntB n S <= n := by unfold cntB; have := List.length_filter_le S (List.range n); simpa using this
theorem cntB_succ (n : Nat) (S : Nat -> Bool) : cntB (n + 1) S = cntB n S + if S n then 1 else 0 := by
 unfold cntB; rw [List.range_succ, List.filter_append, List.length_append]
 by_cases h : S n = true <;> simp [h]
theorem cntB_mono {n : Nat} {S T : Nat -> Bool} (h : ∀ i, i < n -> S i = true -> T i = true) : cntB n S <= cntB n T := by
 induction n with
 | zero => simp [cntB]
 | succ n ih =>
  have := ih fun i hi => h i (by omega)
  have h2 := h n (by omega)
  rw [cntB_succ, cntB_succ]
  by_cases hs : S n = true
  ·rw [if_pos hs, if_pos (h2 hs)]; omega
  ·rw [if_neg hs]; omega
theorem cntB_more {n j : Nat} {S T : Nat -> Bool} (h : ∀ i, i < n -> S i = true -> T i = true) (hj : j < n) (h1 : S j = false) (h2 : T j = true) : cntB n S + 1 <= cntB n T := by
 induction n with
 | zero => omega
 | succ n ih =>
  rw [cntB_succ, cntB_succ]
  by_cases e : j = n
  ·subst e
   have := cntB_mono fun i hi => h i (Nat.lt_succ_of_lt hi)
   rw [if_neg (by rw [h1]; decide), if_pos h2]; omega
  ·have := ih (fun i hi => h i (by omega)) (by omega)
   have h3 := h n (by omega)
   by_cases hs : S n = true
   ·rw [if_pos hs, if_pos (h3 hs)]; omega
   ·rw [if_neg hs]; omega
def nLay (σ : ar) : Nat := (List.range (2 ^ σ.n + 1)).findIdx fun i => !σ.live i
def endsAt (σ : ar) : Nat -> Bool := σ.some_ fun _ c => σ.ends c
theorem endsAt_iff {σ : ar} {s : Nat} : σ.endsAt s = true ↔ ∃ x, x < 2 ^ σ.k /\ σ.hold (σ.at_ s x) = true /\ σ.bad (σ.at_ s x) = true := by
 unfold endsAt; rw [some_iff]; simp only [ends, Bool.and_eq_true]
def hits (σ : ar) (i : Nat) : Bool := lq (2 ^ σ.n) fun s => σ.front i s && σ.endsAt s
def depth (σ : ar) : Option Nat := (List.range σ.nLay).find? fun i => σ.hits i
def back (σ : ar) : Nat -> Nat -> Bool
 | 0 => σ.endsAt
 | i + 1 => σ.some_ fun s c => σ.back i s || (σ.hold c && σ.leads (σ.back i) c)
theorem back_mono (σ : ar) (i s : Nat) (h : σ.back i s = true) : σ.back (i + 1) s = true := by
 show σ.some_ _ s = true
 rw [some_iff]
 exact ⟨0, aU _, by rw [h]; rfl⟩
theorem leads_ext {σ : ar} {S T : Nat -> Bool} (h : ∀ t, t < 2 ^ σ.n -> S t = T t) (c : Nat) : σ.leads S c = σ.leads T c := HM fun t ht => by rw [h t ht]
theorem back_stay {σ : ar} {i : Nat} (h : ∀ s, s < 2 ^ σ.n -> σ.back (i + 1) s = σ.back i s) : ∀ d s, s < 2 ^ σ.n -> σ.back (i + d) s = σ.back i s := by
 intro d
 induction d with
 | zero => intro s _; rfl
 | succ d ih =>
  intro s hs
  rw [<- h s hs]
  show σ.some_ (fun s c => σ.back (i + d) s || (σ.hold c && σ.leads (σ.back (i + d)) c)) s = σ.some_ (fun s c => σ.back i s || (σ.hold c && σ.leads (σ.back i) c)) s
  unfold some_
  refine HM fun x _ => ?_
  dsimp only
  rw [ih s hs, leads_ext ih]
theorem cnt_back (σ : ar) : ∀ i, (∀ j, j < i -> ∃ s, s < 2 ^ σ.n /\ σ.back (j + 1) s ≠ σ.back j s) -> i <= cntB (2 ^ σ.n) (σ.back i) := by
 intro i
 induction i with
 | zero => intro _; omega
 | succ i ih =>
  intro h
  have h1 := ih fun j hj => h j (by omega)
  obtain ⟨s, hs, h2⟩ := h i (by omega)
  have h3 : σ.back i s = false := by
   cases e : σ.back i s with
   | false => rfl
   | true => exact absurd ((back_mono σ i s e).trans e.symm) h2
  have h4 : σ.back (i + 1) s = true := by
   cases e : σ.back (i + 1) s with
   | true => rfl
   | false => exact absurd (e.trans h3.symm) h2
  have := cntB_more (n := 2 ^ σ.n) (j := s) (fun j _ hj => back_mono σ i j hj) hs h3 h4
  omega
theorem back_bound {σ : ar} {i : Nat} (h : ∀ j, j < i -> ∃ s, s < 2 ^ σ.n /\ σ.back (j + 1) s ≠ σ.back j s) : i <= 2 ^ σ.n := Nat.le_trans (cnt_back σ i h) (cntB_le _ _)
def backAll (σ : ar) : Nat -> Bool := σ.back (2 ^ σ.n)
theorem backAll_of {σ : ar} {i : Nat} (h1 : ∀ j, j < i -> ∃ s, s < 2 ^ σ.n /\ σ.back (j + 1) s ≠ σ.back j s) (h2 : ∀ s, s < 2 ^ σ.n -> σ.back (i + 1) s = σ.back i s) {s : Nat} (hs : s < 2 ^ σ.n) :
  σ.back i s = σ.backAll s := by
 have hle := back_bound h1
 have := back_stay h2 (2 ^ σ.n - i) s hs
 rw [show i + (2 ^ σ.n - i) = 2 ^ σ.n by omega] at this
 exact this.symm
theorem back_fix (σ : ar) : ∃ i, (∀ j, j < i -> ∃ s, s < 2 ^ σ.n /\ σ.back (j + 1) s ≠ σ.back j s) /\ ∀ s, s < 2 ^ σ.n -> σ.back (i + 1) s = σ.back i s := by
 have key : ∀ m i, (∀ j, j < i -> ∃ s, s < 2 ^ σ.n /\ σ.back (j + 1) s ≠ σ.back j s) -> m = 2 ^ σ.n + 1 - i ->
   ∃ i, (∀ j, j < i -> ∃ s, s < 2 ^ σ.n /\ σ.back (j + 1) s ≠ σ.back j s) /\ ∀ s, s < 2 ^ σ.n -> σ.back (i + 1) s = σ.back i s := by
  intro m
  induction m with
  | zero => intro i h hm; have := back_bound h; omega
  | succ m ih =>
   intro i h hm
   by_cases e : ∃ s, s < 2 ^ σ.n /\ σ.back (i + 1) s ≠ σ.back i s
   ·refine ih (i + 1) (fun j hj => ?_) (by omega)
    by_cases ej : j = i
    ·subst ej; exact e
    ·exact h j (by omega)
   ·refine ⟨i, h, fun s hs => ?_⟩
    by_cases e2 : σ.back (i + 1) s = σ.back i s
    ·exact e2
    ·exact absurd ⟨s, hs, e2⟩ e
 exact key _ 0 (fun j hj => by omega) rfl
theorem back_to_all {σ : ar} {i s : Nat} (hs : s < 2 ^ σ.n) (h : σ.back i s = true) : σ.backAll s = true := by
 obtain ⟨j, h1, h2⟩ := back_fix σ
 rw [<- backAll_of h1 h2 hs]
 rcases Nat.lt_or_ge i j with e | e
 ·have : ∀ d, σ.back (i + d) s = true := by
   intro d
   induction d with
   | zero => exact h
   | succ d ih => exact back_mono σ _ _ ih
  have := this (j - i)
  rwa [show i + (j - i) = j by omega] at this
 ·have := back_stay h2 (i - j) s hs
  rw [show j + (i - j) = i by omega] at this
  rw [<- this]; exact h
theorem back_succ_iff {σ : ar} {i s : Nat} : σ.back (i + 1) s = true ↔ σ.back i s = true \/ ∃ x, x < 2 ^ σ.k /\ σ.hold (σ.at_ s x) = true /\ σ.leads (σ.back i) (σ.at_ s x) = true := by
 show σ.some_ (fun s c => σ.back i s || (σ.hold c && σ.leads (σ.back i) c)) s = true ↔ _
 rw [some_iff]
 simp only [Bool.or_eq_true, Bool.and_eq_true]
 constructor
 ·rintro ⟨x, hx, h | h⟩
  ·exact .inl h
  ·exact .inr ⟨x, hx, h⟩
 ·rintro (h | ⟨x, hx, h⟩)
  ·exact ⟨0, aU _, .inl h⟩
  ·exact ⟨x, hx, .inr h⟩
theorem backAll_eq {σ : ar} {X : Nat -> Bool} (h1 : ∀ s, s < 2 ^ σ.n -> X s = true -> σ.backAll s = true)
  (h2 : ∀ s x, s < 2 ^ σ.n -> x < 2 ^ σ.k -> σ.hold (σ.at_ s x) = true -> (σ.bad (σ.at_ s x) = true \/ σ.leads X (σ.at_ s x) = true) -> X s = true) : ∀ s, s < 2 ^ σ.n -> X s = σ.backAll s := by
 have key : ∀ i s, s < 2 ^ σ.n -> σ.back i s = true -> X s = true := by
  intro i
  induction i with
  | zero =>
   intro s hs h
   obtain ⟨x, hx, h⟩ := endsAt_iff.1 h
   exact h2 s x hs hx h.1 (.inl h.2)
  | succ i ih =>
   intro s hs h
   rcases back_succ_iff.1 h with h | ⟨x, hx, ha, hb⟩
   ·exact ih s hs h
   ·refine h2 s x hs hx ha (.inr ?_)
    obtain ⟨t, ht, hc⟩ := cd.1 hb
    simp only [Bool.and_eq_true] at hc
    refine cd.2 ⟨t, ht, ?_⟩
    rw [ih t ht hc.1, hc.2]; rfl
 intro s hs
 rw [Bool.eq_iff_iff]
 exact ⟨h1 s hs, key _ s hs⟩
theorem backAll_ends {σ : ar} {s x : Nat} (hs : s < 2 ^ σ.n) (hx : x < 2 ^ σ.k) (h1 : σ.hold (σ.at_ s x) = true) (h2 : σ.bad (σ.at_ s x) = true) : σ.backAll s = true :=
 back_to_all (i := 0) hs (endsAt_iff.2 ⟨x, hx, h1, h2⟩)
theorem backAll_step {σ : ar} {s x t : Nat} (hs : s < 2 ^ σ.n) (hx : x < 2 ^ σ.k) (ht : t < 2 ^ σ.n) (h1 : σ.hold (σ.at_ s x) = true) (h2 : σ.goes (σ.at_ s x) t = true) (h3 : σ.backAll t = true) : σ.backAll s = true :=
 back_to_all (i := 2 ^ σ.n + 1) hs (back_succ_iff.2 (.inr ⟨x, hx, h1, cd.2 ⟨t, ht, by rw [show σ.back (2 ^ σ.n) t = true from h3, h2]; rfl⟩⟩))
def clean (σ : ar) (c : Nat) : Bool := σ.hold c && !σ.bad c
def back2 (σ : ar) : Nat -> Nat -> Bool
 | 0 => σ.endsAt
 | i + 1 => σ.bwd σ.clean (σ.back2 i)
def kind (σ : ar) (k : Nat) : Int := if (match σ.depth with | some d => decide (d < k) | none => false) then 1 else if lq (2 ^ σ.n) (σ.back2 k) then 2 else 0
end ar
theorem PU {x : Int} {n : Nat} (hn : n <= 64) : lr x (n : Int) = x / ((2 ^ n : Nat) : Int) := by
 unfold lr
 have h1 : min (Int.toNat (n : Int)) IntKind.i64.bits = n := by simp [IntKind.bits]; omega
 rw [h1, Int.fdiv_eq_ediv_of_nonneg _ (Int.pow_nonneg (by decide))]
 simp
theorem fB {x : Int} {w : Nat} (hw : w <= 62) : kx x (((2 ^ w : Nat) : Int) - 1) = ((gG w x : Nat) : Int) := by
 have h2 := lQ hw
 have hp := aU w
 have hm : (((2 ^ w : Nat) : Int) - 1) = ((2 ^ w - 1 : Nat) : Int) := by omega
 rw [hm]
 show IntKind.i64.wrap _ = _
 have h1 : (BitVec.ofInt IntKind.i64.bits x &&& BitVec.ofInt IntKind.i64.bits ((2 ^ w - 1 : Nat) : Int)).toNat = gG w x := by
  show (BitVec.ofInt 64 x &&& BitVec.ofInt 64 ((2 ^ w - 1 : Nat) : Int)).toNat = gG w x
  rw [BitVec.ofInt_natCast, BitVec.toNat_and, BitVec.toNat_ofNat, BitVec.toNat_ofInt, Nat.mod_eq_of_lt (by omega), Nat.and_two_pow_sub_one_eq_mod]
  have hd : ((2 ^ w : Nat) : Int) ∣ ((2 ^ 64 : Nat) : Int) := Int.natCast_dvd_natCast.2 (Nat.pow_dvd_pow 2 (by omega))
  have h3 := Int.emod_emod_of_dvd x hd
  have h4 := Int.emod_nonneg x (b := ((2 ^ 64 : Nat) : Int)) (by decide)
  unfold gG
  rw [<- h3]
  generalize x % ((2 ^ 64 : Nat) : Int) = y at *
  obtain ⟨z, rfl⟩ : ∃ z : Nat, y = z := ⟨y.toNat, by omega⟩
  rw [<- Int.natCast_emod, Int.toNat_natCast, Int.toNat_natCast]
 rw [h1]
 exact fj (by have := gJ w x; omega)
theorem OB {w : Nat} (hw : w <= 62) : ai (-1) (w : Int) = -((2 ^ w : Nat) : Int) := by
 have h2 := lQ hw
 unfold ai
 have h1 : min (Int.toNat (w : Int)) IntKind.i64.bits = w := by simp [IntKind.bits]; omega
 rw [h1]
 have h3 : (-1 : Int) * 2 ^ w = -((2 ^ w : Nat) : Int) := by simp
 have key : ∀ N : Nat, N <= 4611686018427387904 -> W (-(N : Int)) = -(N : Int) := fun N h => cc (by omega) (by omega)
 rw [h3]; exact key _ h2
theorem vu {w : Nat} (hw : w <= 16) : 2 ^ w <= 65536 := by
 have := Nat.pow_le_pow_right (n := 2) (by omega) hw
 simpa using this
theorem hX {w v : Int} : gp w v = true ↔ (1 <= w /\ w <= 16) /\ 0 <= v /\ v < ((2 ^ w.toNat : Nat) : Int) := by
 unfold gp
 rw [decide_eq_true_eq]
 constructor
 ·rintro ⟨h1, h2, h3⟩; exact ⟨h1, h2, by omega⟩
 ·rintro ⟨h1, h2, h3⟩; exact ⟨h1, h2, by omega⟩
theorem dj {h : Hp} {w : Nat} {R : Value -> Hp -> Prop} (hw : w <= 62) (k : R (I (((2 ^ w : Nat) : Int) - 1)) h) : cg #[I w] h R := by
 apply Hm
 refine uf_ ?_
 have := lQ hw
 have hp := aU w
 rw [if_neg (by omega), cu hw, cc (by omega) (by omega)]
 exact k
theorem yA {h : Hp} {w : Int} {R : Value -> Hp -> Prop} (k : R (.bool (decide (1 <= w /\ w <= 16))) h) : lm #[I w] h R := by
 apply CP
 refine uf_ ?_
 exact fq ⟨_, rfl, k⟩
theorem rH {h : Hp} {w : Int} {R : Value -> Hp -> Prop} (k : R (.bool (decide (1 <= w /\ w <= 16))) h) : i6 #[I w] h R := by
 apply BD
 refine uf_ ?_
 exact fZ ⟨_, rfl, k⟩
theorem BM (w v : Int) : gp w v = (decide (1 <= w /\ w <= 16) && decide (0 <= v /\ v <= ((2 ^ w.toNat : Nat) : Int) - 1)) := by
 unfold gp; rw [Bool.eq_iff_iff]; simp
theorem yR {h : Hp} {w v : Int} {R : Value -> Hp -> Prop} (k : R (.bool (gp w v)) h) : qb #[I w, I v] h R := by
 apply EN
 refine uf_ ?_
 rw [BM] at k
 refine yA ⟨_, rfl, ad (fun e => ?_) (fun e => ?_)⟩
 ·rw [e, Bool.true_and] at k
  have e' : 1 <= w /\ w <= 16 := by simpa using e
  obtain ⟨n, rfl⟩ : ∃ n : Nat, w = n := ⟨w.toNat, by omega⟩
  rw [Int.toNat_natCast] at k
  exact dj (by omega) ⟨_, rfl, fq ⟨_, rfl, k⟩⟩
 ·rw [e, Bool.false_and] at k; exact k
theorem ca {h : Hp} {w v : Int} {R : Value -> Hp -> Prop} (k : R (.bool (gp w v)) h) : cV #[I w, I v] h R := by
 apply E0
 refine uf_ ?_
 rw [BM] at k
 refine rH ⟨_, rfl, ad (fun e => ?_) (fun e => ?_)⟩
 ·rw [e, Bool.true_and] at k
  have e' : 1 <= w /\ w <= 16 := by simpa using e
  obtain ⟨n, rfl⟩ : ∃ n : Nat, w = n := ⟨w.toNat, by omega⟩
  rw [Int.toNat_natCast] at k
  have := lQ (n := n) (by omega)
  have hp := aU n
  rw [dl (by omega), if_neg (by omega), cu (by omega), cc (by omega) (by omega)]
  exact fZ ⟨_, rfl, k⟩
 ·rw [e, Bool.false_and] at k; exact k
def WO (w a : Nat) : Prop := (1 <= w /\ w <= 16) /\ a < 2 ^ w
theorem WO.ok {w a : Nat} (e : WO w a) : gp (w : Int) (a : Int) = true := hX.2 ⟨by have := e.1; omega, by omega, by rw [Int.toNat_natCast]; have := e.2; omega⟩
theorem WO.pow {w a : Nat} (e : WO w a) : 2 ^ w <= 65536 := vu e.1.2
theorem kv {h : Hp} {w a : Nat} {R : Value -> Hp -> Prop} (e : WO w a) (k : R (I (sgn w a)) h) : fz #[I w, I a] h R := by
 apply EG
 refine uf_ ?_
 obtain ⟨⟨h1, h2⟩, ha⟩ := e
 have hp := mE h1
 have h16 := vu h2
 have w1 : W ((w : Int) - 1) = ((w - 1 : Nat) : Int) := by rw [cc (by omega) (by omega)]; omega
 rw [w1, if_neg (by omega), if_neg (by omega), jh (by omega)]
 unfold sgn at k
 by_cases hs : 2 ^ (w - 1) <= a
 ·have e1 : a / 2 ^ (w - 1) = 1 := by rw [Nat.div_eq_iff (aU _)]; omega
  rw [e1, gt (by omega) (by omega), Nat.one_mul, cc (by omega) (by omega)]
  rw [if_pos hs] at k; exact k
 ·have e1 : a / 2 ^ (w - 1) = 0 := Nat.div_eq_of_lt (by omega)
  rw [e1, gt (by omega) (by omega), Nat.zero_mul, cc (by omega) (by omega)]
  rw [if_neg hs] at k
  simpa using k
theorem fX {h : Hp} {w a : Nat} {R : Value -> Hp -> Prop} (e : WO w a) (k : R (I (sgn w a)) h) : dK #[I w, I a] h R := by
 apply xi
 refine uf_ ?_
 obtain ⟨⟨h1, h2⟩, ha⟩ := e
 have hp := mE h1
 have h16 := vu h2
 have w1 : W ((w : Int) - 1) = ((w - 1 : Nat) : Int) := by rw [cc (by omega) (by omega)]; omega
 refine ca ⟨_, rfl, ak (by rw [WO.ok ⟨⟨h1, h2⟩, ha⟩]; rfl) ?_⟩
 rw [w1, dl (by omega), if_neg (by omega), cu (by omega)]
 unfold sgn at k
 refine ad (fun e => ?_) (fun e => ?_)
 ·have hs : 2 ^ (w - 1) <= a := by
   have := of_decide_eq_true e; omega
  rw [if_pos hs] at k
  rw [dl (by omega), if_neg (by omega), cu (by omega), cc (by omega) (by omega)]
  exact k
 ·have hs : ¬ 2 ^ (w - 1) <= a := by
   have := of_decide_eq_false e; omega
  rw [if_neg hs] at k; exact k
theorem JF (w : Nat) (n : Int) : ((gG w n : Nat) : Int) = if Int.tmod n ((2 ^ w : Nat) : Int) < 0 then Int.tmod n ((2 ^ w : Nat) : Int) + ((2 ^ w : Nat) : Int) else Int.tmod n ((2 ^ w : Nat) : Int) := by
 rw [Ca]
 have hp : (0 : Int) < ((2 ^ w : Nat) : Int) := Int.ofNat_lt.2 (aU w)
 have h1 := Int.emod_nonneg n (b := ((2 ^ w : Nat) : Int)) (by omega)
 have h2 := Int.emod_lt_of_pos n hp
 have h3 := Int.tmod_eq_emod (a := n) (b := ((2 ^ w : Nat) : Int))
 have h4 : n % ((2 ^ w : Nat) : Int) = 0 -> ((2 ^ w : Nat) : Int) ∣ n := Int.dvd_of_emod_eq_zero
 rw [h3]
 generalize ((2 ^ w : Nat) : Int) = N at *
 by_cases hn : 0 <= n \/ N ∣ n
 ·rw [if_pos hn]; split <;> omega
 ·have h5 : n % N ≠ 0 := fun e => hn (.inr (h4 e))
  rw [if_neg hn]
  generalize n % N = r at *
  split <;> omega
theorem fA {h : Hp} {w : Nat} {n : Int} {R : Value -> Hp -> Prop} (hw : 1 <= w /\ w <= 16) (k : R (I (gG w n)) h) : dC #[I w, I n] h R := by
 apply AX
 refine uf_ ?_
 have h16 := vu hw.2
 have hp := aU w
 have hlt := gJ w n
 have ht := JF w n
 refine rH ⟨_, rfl, ak (by simp; omega) ?_⟩
 rw [dl (by omega), if_neg (by omega), cu (by omega), if_neg (by omega)]
 refine ad (fun e => ?_) (fun e => ?_)
 ·have e' := of_decide_eq_true e
  rw [if_pos e'] at ht
  rw [if_neg (by omega), cc (by omega) (by omega), <- ht]; exact k
 ·have e' := of_decide_eq_false e
  rw [if_neg e'] at ht
  rw [<- ht]; exact k
theorem Aj {h : Hp} {w a : Nat} {R : Value -> Hp -> Prop} (hw : w <= 16) (k : R (I (hD w a)) h) : my #[I w, I a] h R := by
 apply EH
 refine uf_ ?_
 refine aq w (fun i vs h' => vs = [I w, I a, I (hD i a), I i] /\ h' = h) ⟨rfl, rfl⟩ ?_
 rintro i _ _ next hi ⟨rfl, rfl⟩ hn
 refine ⟨_, _, _, _, rfl, ?_⟩
 by_cases hlt : i < w
 ·refine aH (by simp [hlt]) (ib (by omega) ⟨_, rfl, ?_⟩)
  have hl := Hn i a
  have e : W ((hD i a : Int) + (if a.testBit i then 1 else 0)) = ((hD (i + 1) a : Nat) : Int) := by
   rw [cc (by split <;> omega) (by split <;> omega)]
   simp only [hD]
   split <;> simp
  rw [e, az (by omega)]
  exact hn hlt _ _ ⟨rfl, rfl⟩
 ·have : i = w := by omega
  subst this
  exact ak (by simp) k
theorem IE {a b : Nat} (ha : a < 18446744073709551616) (hb : b < 18446744073709551616) : aL .and .u64 (a : Int) (b : Int) = ((a &&& b : Nat) : Int) := by
 show IntKind.u64.wrap _ = _
 have h1 : (BitVec.ofInt IntKind.u64.bits (a : Int) &&& BitVec.ofInt IntKind.u64.bits (b : Int)).toNat = a &&& b := by
  show (BitVec.ofInt 64 (a : Int) &&& BitVec.ofInt 64 (b : Int)).toNat = a &&& b
  rw [BitVec.ofInt_natCast, BitVec.ofInt_natCast, BitVec.toNat_and, BitVec.toNat_ofNat, BitVec.toNat_ofNat, Nat.mod_eq_of_lt (by omega), Nat.mod_eq_of_lt (by omega)]
 rw [h1, IntKind.wrap_u64]
 have := Nat.and_le_left (n := a) (m := b)
 omega
def Qh (x : Nat) : Nat := (x / 2 &&& 6148914691236517205) + (x &&& 6148914691236517205)
def On (x : Nat) : Nat := (x / 4 &&& 3689348814741910323) + (x &&& 3689348814741910323)
def PY (x : Nat) : Nat := (x / 16 + x) &&& 1085102592571150095
def PO (x : Nat) : Nat := x / 256 + x
def Qg (x : Nat) : Nat := x / 65536 + x
def Qq (x : Nat) : Nat := x / 4294967296 + x
def Ez (x : Nat) : Nat := Qq (Qg (PO (PY (On (Qh x))))) &&& 127
def Km (x : Nat) : Bool := Nat.beq (Ez (2 * x)) (Ez x) && Nat.beq (Ez (2 * x + 1)) (Ez x + 1)
def Hy (hi : Nat) : Nat -> Bool
 | 0 => true
 | n + 1 => Km (hi * 256 + n) && Hy hi n
def Lx : Nat -> Bool
 | 0 => true
 | n + 1 => Hy n 256 && Lx n
theorem RO : Lx 128 = true := by kernel_rfl
theorem O1 {hi : Nat} : ∀ n, Hy hi n = true -> ∀ i, i < n -> Km (hi * 256 + i) = true := by
 intro n
 induction n with
 | zero => intro _ i h; omega
 | succ n ih =>
  intro h i hi
  simp only [Hy, Bool.and_eq_true] at h
  by_cases e : i = n
  ·subst e; exact h.1
  ·exact ih h.2 i (by omega)
theorem Qs : ∀ n, Lx n = true -> ∀ i, i < n -> Hy i 256 = true := by
 intro n
 induction n with
 | zero => intro _ i h; omega
 | succ n ih =>
  intro h i hi
  simp only [Lx, Bool.and_eq_true] at h
  by_cases e : i = n
  ·subst e; exact h.1
  ·exact ih h.2 i (by omega)
theorem OO {x : Nat} (h : x < 32768) : Ez (2 * x) = Ez x /\ Ez (2 * x + 1) = Ez x + 1 := by
 have h1 := Qs 128 RO (x / 256) (by omega)
 have h2 := O1 256 h1 (x % 256) (Nat.mod_lt _ (by omega))
 rw [show x / 256 * 256 + x % 256 = x by omega] at h2
 simp only [Km, Bool.and_eq_true] at h2
 exact ⟨Nat.eq_of_beq_eq_true h2.1, Nat.eq_of_beq_eq_true h2.2⟩
theorem J3 (a : Nat) : ∀ w, hD (w + 1) a = a % 2 + hD w (a / 2) := by
 intro w
 induction w with
 | zero =>
  simp only [hD, Nat.testBit_zero]
  rcases Nat.mod_two_eq_zero_or_one a with h | h <;> simp [h]
 | succ w ih =>
  rw [hD, ih, hD, Nat.testBit_succ]; omega
theorem Sc : ∀ w, w <= 16 -> ∀ x, x < 2 ^ w -> Ez x = hD w x := by
 intro w
 induction w with
 | zero => intro _ x hx; have : x = 0 := by simpa using hx
           subst this; rfl
 | succ w ih =>
  intro hw x hx
  have h16 : 2 ^ w <= 32768 := by
   have := Nat.pow_le_pow_right (n := 2) (by omega) (show w <= 15 by omega)
   simpa using this
  have hp : 2 ^ (w + 1) = 2 * 2 ^ w := by rw [Nat.pow_succ]; omega
  have h1 := ih (by omega) (x / 2) (by omega)
  have h2 := OO (x := x / 2) (by omega)
  rw [J3, <- h1]
  rcases Nat.mod_two_eq_zero_or_one x with h | h
  ·have e : 2 * (x / 2) = x := by omega
   rw [e] at h2; rw [h2.1, h]; omega
  ·have e : 2 * (x / 2) + 1 = x := by omega
   rw [e] at h2; rw [h2.2, h]; omega
theorem FJ {a k : Nat} (hk : k <= 64) : Int.fdiv (a : Int) (2 ^ (min (Int.toNat (k : Int)) (IntKind.bits .u64))) = ((a / 2 ^ k : Nat) : Int) := by
 have h1 : min (Int.toNat (k : Int)) (IntKind.bits .u64) = k := by simp [IntKind.bits]; omega
 rw [h1, Int.fdiv_eq_ediv_of_nonneg _ (Int.pow_nonneg (by decide))]
 simp
def q1 (x : Int) : Int := IntKind.wrap .u64 ((aL .and .u64 (Int.fdiv x (2 ^ (min (Int.toNat 1) (IntKind.bits .u64)))) 6148914691236517205) + (aL .and .u64 x 6148914691236517205))
def q2 (x : Int) : Int := IntKind.wrap .u64 ((aL .and .u64 (Int.fdiv x (2 ^ (min (Int.toNat 2) (IntKind.bits .u64)))) 3689348814741910323) + (aL .and .u64 x 3689348814741910323))
def q3 (x : Int) : Int := aL .and .u64 (IntKind.wrap .u64 ((Int.fdiv x (2 ^ (min (Int.toNat 4) (IntKind.bits .u64)))) + x)) 1085102592571150095
def q4 (x : Int) : Int := IntKind.wrap .u64 (x + Int.fdiv x (2 ^ (min (Int.toNat 8) (IntKind.bits .u64))))
def q5 (x : Int) : Int := IntKind.wrap .u64 (x + Int.fdiv x (2 ^ (min (Int.toNat 16) (IntKind.bits .u64))))
def q6 (x : Int) : Int := IntKind.wrap .u64 (x + Int.fdiv x (2 ^ (min (Int.toNat 32) (IntKind.bits .u64))))
theorem CZ {h : Hp} {a : Nat} {R : Value -> Hp -> Prop} (ha : a < 65536) (k : R (I (hD 16 a)) h) : iP #[.int .u64 a] h R := by
 apply sJ
 refine uf_ ?_
 apply ri
 refine uf_ ?_
 refine ⟨_, rfl, ?_⟩
 have e1 : q1 a = ((Qh a : Nat) : Int) := by
  have l1 := Nat.and_le_left (n := a / 2) (m := 6148914691236517205)
  have l2 := Nat.and_le_left (n := a) (m := 6148914691236517205)
  have := FJ (a := a) (k := 1) (by omega)
  unfold q1 Qh
  rw [show (Int.toNat 1) = Int.toNat ((1 : Nat) : Int) from rfl, this, Nat.pow_one]
  rw [show (6148914691236517205 : Int) = ((6148914691236517205 : Nat) : Int) from rfl, IE (by omega) (by omega), IE (by omega) (by omega), <- Int.natCast_add, dl (by omega)]
 have b1 : Qh a <= 98304 := by
  have l1 := Nat.and_le_left (n := a / 2) (m := 6148914691236517205)
  have l2 := Nat.and_le_left (n := a) (m := 6148914691236517205)
  unfold Qh; omega
 have e2 : ∀ x : Nat, x <= 98304 -> q2 x = ((On x : Nat) : Int) /\ On x <= 196608 := by
  intro x hx
  have l1 := Nat.and_le_left (n := x / 4) (m := 3689348814741910323)
  have l2 := Nat.and_le_left (n := x) (m := 3689348814741910323)
  have := FJ (a := x) (k := 2) (by omega)
  refine ⟨?_, by unfold On; omega⟩
  unfold q2 On
  rw [show (Int.toNat 2) = Int.toNat ((2 : Nat) : Int) from rfl, this, show 2 ^ 2 = 4 from rfl]
  rw [show (3689348814741910323 : Int) = ((3689348814741910323 : Nat) : Int) from rfl, IE (by omega) (by omega), IE (by omega) (by omega), <- Int.natCast_add, dl (by omega)]
 have e3 : ∀ x : Nat, x <= 196608 -> q3 x = ((PY x : Nat) : Int) /\ PY x <= 393216 := by
  intro x hx
  have l1 := Nat.and_le_left (n := x / 16 + x) (m := 1085102592571150095)
  have := FJ (a := x) (k := 4) (by omega)
  refine ⟨?_, by unfold PY; omega⟩
  unfold q3 PY
  rw [show (Int.toNat 4) = Int.toNat ((4 : Nat) : Int) from rfl, this, show 2 ^ 4 = 16 from rfl, <- Int.natCast_add, dl (by omega)]
  rw [show (1085102592571150095 : Int) = ((1085102592571150095 : Nat) : Int) from rfl, IE (by omega) (by omega)]
 have e4 : ∀ x : Nat, x <= 393216 -> q4 x = ((PO x : Nat) : Int) /\ PO x <= 786432 := by
  intro x hx
  have := FJ (a := x) (k := 8) (by omega)
  refine ⟨?_, by unfold PO; omega⟩
  unfold q4 PO
  rw [show (Int.toNat 8) = Int.toNat ((8 : Nat) : Int) from rfl, this, show 2 ^ 8 = 256 from rfl, <- Int.natCast_add, dl (by omega), Nat.add_comm]
 have e5 : ∀ x : Nat, x <= 786432 -> q5 x = ((Qg x : Nat) : Int) /\ Qg x <= 1572864 := by
  intro x hx
  have := FJ (a := x) (k := 16) (by omega)
  refine ⟨?_, by unfold Qg; omega⟩
  unfold q5 Qg
  rw [show (Int.toNat 16) = Int.toNat ((16 : Nat) : Int) from rfl, this, show 2 ^ 16 = 65536 from rfl, <- Int.natCast_add, dl (by omega), Nat.add_comm]
 have e6 : ∀ x : Nat, x <= 1572864 -> q6 x = ((Qq x : Nat) : Int) /\ Qq x <= 3145728 := by
  intro x hx
  have := FJ (a := x) (k := 32) (by omega)
  refine ⟨?_, by unfold Qq; omega⟩
  unfold q6 Qq
  rw [show (Int.toNat 32) = Int.toNat ((32 : Nat) : Int) from rfl, this, show 2 ^ 32 = 4294967296 from rfl, <- Int.natCast_add, dl (by omega), Nat.add_comm]
 have b2 := (e2 _ b1).2
 have b3 := (e3 _ b2).2
 have b4 := (e4 _ b3).2
 have b5 := (e5 _ b4).2
 have b6 := (e6 _ b5).2
 show R (I (kx (W (q6 (q5 (q4 (q3 (q2 (q1 a))))))) 127)) h
 rw [e1, (e2 _ b1).1, (e3 _ b2).1, (e4 _ b3).1, (e5 _ b4).1, (e6 _ b5).1, fj (by omega), show (127 : Int) = ((127 : Nat) : Int) from rfl, pa (by omega) (by omega)]
 have := Sc 16 (by omega) a (by simpa using ha)
 unfold Ez at this
 rw [this]; exact k
theorem Kd {w a : Nat} (ha : a < 2 ^ w) : ∀ d, hD (w + d) a = hD w a := by
 intro d
 induction d with
 | zero => rfl
 | succ d ih =>
  have hz : a.testBit (w + d) = false := Nat.testBit_lt_two_pow (Nat.lt_of_lt_of_le ha (Nat.pow_le_pow_right (by omega) (by omega)))
  rw [<- Nat.add_assoc, hD, ih, hz]
  simp
theorem Ph {h : Hp} {kind : Int} {w a : Nat} {R : Value -> Hp -> Prop} (hk : 1 <= kind /\ kind <= 5) (e : WO w a)
  (k : R (.tuple #[I (tz kind w a).1, I (tz kind w a).2]) h) : wA #[I kind, I w, I a] h R := by
 apply Jo
 refine uf_ ?_
 have h16 := e.pow
 have hp := aU w
 have ha := e.2
 have hw := e.1
 unfold tz at k
 refine ad (fun e1 => ?_) (fun e1 => ad (fun e2 => ?_) (fun e2 => ad (fun e3 => ?_) (fun e3 => ad (fun e4 => ?_) (fun e4 => ?_))))
 ·rw [if_pos (by simpa using e1)] at k
  refine dj (by omega) ⟨_, rfl, ?_⟩
  have : W ((((2 ^ w : Nat) : Int) - 1) - a) = ((2 ^ w - 1 - a : Nat) : Int) := by rw [cc (by omega) (by omega)]; omega
  rw [this]; exact k
 ·rw [if_neg (by simpa using e1), if_pos (by simpa using e2)] at k
  refine dj (by omega) ⟨_, rfl, ?_⟩
  rw [cc (n := 0 - (a : Int)) (by omega) (by omega), fB (by omega), Int.zero_sub]
  exact k
 ·rw [if_neg (by simpa using e1), if_neg (by simpa using e2), if_pos (by simpa using e3)] at k
  refine tq ⟨_, rfl, ?_⟩
  by_cases h0 : a = 0
  ·subst h0; simpa using k
  ·have : ((a : Int) != 0) = true := by simpa using h0
   rw [this]; rw [if_neg h0] at k; simpa using k
 ·rw [if_neg (by simpa using e1), if_neg (by simpa using e2), if_neg (by simpa using e3), if_pos (by simpa using e4)] at k
  refine dj (by omega) ⟨_, rfl, tq ⟨_, rfl, ?_⟩⟩
  by_cases h0 : a = 2 ^ w - 1
  ·have : ((a : Int) == ((2 ^ w : Nat) : Int) - 1) = true := by rw [beq_iff_eq]; omega
   rw [this]; rw [if_pos h0] at k; simpa using k
  ·have : ((a : Int) == ((2 ^ w : Nat) : Int) - 1) = false := by rw [beq_eq_false_iff_ne]; omega
   rw [this]; rw [if_neg h0] at k; simpa using k
 ·rw [if_neg (by simpa using e1), if_neg (by simpa using e2), if_neg (by simpa using e3), if_neg (by simpa using e4)] at k
  rw [dl (by omega)]
  refine CZ (by omega) ⟨_, rfl, ?_⟩
  have := Kd ha (16 - w)
  rw [show w + (16 - w) = 16 by omega] at this
  rw [this, DT]; exact k
theorem xY {h : Hp} {kind : Int} {w a : Nat} {R : Value -> Hp -> Prop} (hk : 1 <= kind /\ kind <= 5) (e : WO w a)
  (k : R (.tuple #[I (tz kind w a).1, I (tz kind w a).2, .bool true]) h) : kZ #[I kind, I w, I a] h R := by
 apply Ch
 refine uf_ ?_
 have h16 := e.pow
 have hp := aU w
 have ha := e.2
 have hw := e.1
 unfold tz at k
 refine ca ⟨_, rfl, ak (by rw [e.ok]; rfl) ?_⟩
 refine ad (fun e1 => ?_) (fun e1 => ad (fun e2 => ?_) (fun e2 => ad (fun e3 => ?_) (fun e3 => ad (fun e4 => ?_) (fun e4 => ?_))))
 ·rw [if_pos (by simpa using e1)] at k
  rw [dl (by omega), if_neg (by omega), cu (by omega), cc (n := ((2 ^ w : Nat) : Int) - 1) (by omega) (by omega)]
  have : W ((((2 ^ w : Nat) : Int) - 1) - a) = ((2 ^ w - 1 - a : Nat) : Int) := by rw [cc (by omega) (by omega)]; omega
  rw [this]; exact k
 ·rw [if_neg (by simpa using e1), if_pos (by simpa using e2)] at k
  rw [cc (n := 0 - (a : Int)) (by omega) (by omega), Int.zero_sub]
  exact fA hw ⟨_, rfl, k⟩
 ·rw [if_neg (by simpa using e1), if_neg (by simpa using e2), if_pos (by simpa using e3)] at k
  refine nZ ⟨_, rfl, ?_⟩
  by_cases h0 : a = 0
  ·subst h0; simpa using k
  ·have : decide ((a : Int) > 0) = true := by simp; omega
   rw [this]; rw [if_neg h0] at k; simpa using k
 ·rw [if_neg (by simpa using e1), if_neg (by simpa using e2), if_neg (by simpa using e3), if_pos (by simpa using e4)] at k
  refine Aj (by omega) ⟨_, rfl, nZ ⟨_, rfl, ?_⟩⟩
  have hf := Kh ha
  by_cases h0 : a = 2 ^ w - 1
  ·have : (((hD w a : Nat) : Int) == (w : Int)) = true := by rw [beq_iff_eq, hf.2 h0]
   rw [this]; rw [if_pos h0] at k; simpa using k
  ·have : (((hD w a : Nat) : Int) == (w : Int)) = false := by rw [beq_eq_false_iff_ne]; intro he; exact h0 (hf.1 (by omega))
   rw [this]; rw [if_neg h0] at k; simpa using k
 ·rw [if_neg (by simpa using e1), if_neg (by simpa using e2), if_neg (by simpa using e3), if_neg (by simpa using e4)] at k
  have : kind = 5 := by
   have h1 : kind ≠ 1 := by simpa using e1
   have h2 : kind ≠ 2 := by simpa using e2
   have h3 : kind ≠ 3 := by simpa using e3
   have h4 : kind ≠ 4 := by simpa using e4
   omega
  refine aH (by simpa using this) (Aj (by omega) ⟨_, rfl, ?_⟩)
  rw [DT]; exact k
theorem eR (a b : Nat) : Int.tmod (a : Int) (b : Int) = ((a % b : Nat) : Int) := (Int.ofNat_tmod a b).symm
theorem DB (a b : Nat) : Int.tdiv (a : Int) (b : Int) = ((a / b : Nat) : Int) := (Int.ofNat_tdiv a b).symm
theorem zQ {a b : Nat} (ha : a < 65536) (hb : b <= 65536) : a * b <= 4294967296 := by
 have := Nat.mul_le_mul (Nat.le_of_lt ha) hb
 omega
theorem Ah {w a : Nat} (e : WO w a) : -65536 <= sgn w a /\ sgn w a <= 65536 := by
 have h := Fy e.1.1 e.2
 have hp := mE e.1.1
 have h16 := e.pow
 omega
theorem aK {a b : Int} (e : (a == b) = false) : ¬ a = b := by simpa using e
theorem bz {a b : Int} (e : (a == b) = true) : a = b := by simpa using e
theorem z7 {h : Hp} {w a p : Nat} {R : Value -> Hp -> Prop} (e : WO w a) (k : R (I (Df w a (p % w))) h) : mr #[I w, I a, I p] h R := by
 apply E3
 refine uf_ ?_
 obtain ⟨⟨h1, h2⟩, ha⟩ := e
 have h16 := vu h2
 have hm : p % w < w := Nat.mod_lt _ (by omega)
 have hpm := vu (w := p % w) (by omega)
 have ht : Int.tmod (p : Int) (w : Int) = ((p % w : Nat) : Int) := eR p w
 have hw : W ((w : Int) - ((p % w : Nat) : Int)) = ((w - p % w : Nat) : Int) := by rw [cc (by omega) (by omega)]; omega
 have hmul := zQ (a := a) (b := 2 ^ (p % w)) (by omega) hpm
 rw [if_neg (by omega), ht, if_neg (by omega), hw, if_neg (by omega)]
 refine dj (by omega) ⟨_, rfl, ?_⟩
 have hd : a / 2 ^ (w - p % w) <= a := Nat.div_le_self _ _
 rw [gt (by omega) (by omega), jh (by omega), ye (by omega) (by omega), fB (by omega), ma]
 exact k
theorem F8 {h : Hp} {kind : Int} {w a b : Nat} {R : Value -> Hp -> Prop} (hk : kind = 14 \/ kind = 15) (ea : WO w a) (eb : WO w b)
  (k : R (I ((if kind = 14 then Fw w a b else Fh w a b : Nat) : Int)) h) : od #[I kind, I w, I a, I b] h R := by
 apply Cy
 refine uf_ ?_
 have h16 := ea.pow
 have hp := aU w
 have sa := Ah ea
 have sb := Ah eb
 have hw := ea.1
 refine kv ea ⟨_, rfl, kv eb ⟨_, rfl, ?_⟩⟩
 unfold Fw Fh at k
 by_cases hy : sgn w b = 0
 ·rw [if_pos hy, if_pos hy] at k
  rw [hy]
  refine ap (fun J => J (decide (kind = 15))) ?_ (fun J hJ => aH rfl (by rw [show (kind == 15) = decide (kind = 15) from rfl]; exact hJ))
  refine ad (fun e => ?_) (fun e => ?_)
  ·have e' : kind = 15 := by simpa using e
   rw [if_neg (by omega)] at k; exact k
  ·have e' : kind = 14 := by have : ¬ kind = 15 := by simpa using e
                             omega
   rw [if_pos e'] at k
   refine ap (fun J => J (decide (sgn w a < 0))) ?_ (fun J hJ => aH rfl hJ)
   refine ad (fun e => ?_) (fun e => aH rfl (dj (by omega) ⟨_, rfl, ?_⟩))
   ·rw [if_pos (by simpa using e)] at k; exact k
   ·rw [if_neg (by simpa using e)] at k
    have : ((2 ^ w - 1 : Nat) : Int) = ((2 ^ w : Nat) : Int) - 1 := by omega
    rw [<- this]; exact k
 ·rw [if_neg hy, if_neg hy] at k
  have hyb : (sgn w b == 0) = false := by simpa using hy
  refine ap (fun J => J false) ?_ (fun J hJ => ak hyb hJ)
  refine ak rfl (ap (fun J => J false) ?_ (fun J hJ => ak hyb hJ))
  refine ak rfl (ak hyb ?_)
  have hdiv : (Int.tdiv (sgn w a) (sgn w b)).natAbs <= 65536 := by
   rw [Int.natAbs_tdiv]
   exact Nat.le_trans (Nat.div_le_self _ _) (by omega)
  refine ad (fun e => ?_) (fun e => ?_)
  ·rw [if_pos (by simpa using e)] at k
   rw [if_neg hy]
   refine dj (by omega) ⟨_, rfl, ?_⟩
   rw [cc (by omega) (by omega), fB (by omega)]; exact k
  ·rw [if_neg (by simpa using e)] at k
   rw [if_neg hy]
   refine dj (by omega) ⟨_, rfl, ?_⟩
   rw [fB (by omega)]; exact k
def zg (kind : Int) (w a b : Nat) : Nat := if kind = 16 then R7 w a b else if kind = 17 then Ry w a b else RW w a b
theorem Gc {h : Hp} {kind : Int} {w a b : Nat} {R : Value -> Hp -> Prop} (ea : WO w a) (hb : b <= 65536)
  (k : R (I (zg kind w a b)) h) : oE #[I kind, I w, I a, I b] h R := by
 apply CT
 refine uf_ ?_
 have h16 := ea.pow
 have ha := ea.2
 have hw := ea.1
 have hmin : (if (w : Int) < (b : Int) then (w : Int) else (b : Int)) = ((min b w : Nat) : Int) := by
  by_cases h : w < b
  ·rw [if_pos (by omega), Nat.min_eq_right (by omega)]
  ·rw [if_neg (by omega), Nat.min_eq_left (by omega)]
 have hm : min b w <= w := Nat.min_le_right _ _
 have hpm := vu (w := min b w) (by omega)
 have hmul := zQ (a := a) (b := 2 ^ min b w) (by omega) hpm
 unfold zg at k
 rw [hmin]
 refine ad (fun e => ?_) (fun e => ad (fun e2 => ?_) (fun e2 => ?_))
 ·rw [if_pos (bz e)] at k
  rw [if_neg (by omega)]
  refine dj (by omega) ⟨_, rfl, ?_⟩
  rw [gt (by omega) (by omega), fB (by omega), ma]; exact k
 ·rw [if_neg (aK e), if_pos (bz e2)] at k
  rw [if_neg (by omega), jh (by omega)]; exact k
 ·rw [if_neg (aK e), if_neg (aK e2)] at k
  refine kv ea ⟨_, rfl, ?_⟩
  rw [if_neg (by omega)]
  refine dj (by omega) ⟨_, rfl, ?_⟩
  rw [PU (by omega), fB (by omega)]; exact k
theorem Ex {h : Hp} {kind : Int} {w a b : Nat} {R : Value -> Hp -> Prop} (hk : 21 <= kind /\ kind <= 28) (ea : WO w a) (eb : WO w b)
  (k : R (.bool (z9 kind w a b)) h) : ni #[I kind, I w, I a, I b] h R := by
 apply AM
 refine uf_ ?_
 have h16 := ea.pow
 have hp := aU w
 have sa := Ah ea
 have sb := Ah eb
 have ha := ea.2
 have hb := eb.2
 have hw := ea.1
 unfold z9 at k
 have dd : ∀ {p q : Prop} [Decidable p] [Decidable q], (p ↔ q) -> decide p = decide q := fun h => by rw [decide_eq_decide]; exact h
 refine kv ea ⟨_, rfl, kv eb ⟨_, rfl, ?_⟩⟩
 refine ad (fun e1 => ?_) (fun e1 => ad (fun e2 => ?_) (fun e2 => ad (fun e3 => ?_) (fun e3 => ad (fun e4 => ?_) (fun e4 => ad (fun e5 => ?_) (fun e5 => ad (fun e6 => ?_) (fun e6 => ad (fun e7 => ?_) (fun e7 => ?_)))))))
 ·rw [if_pos (bz e1)] at k
  have : ((a : Int) == (b : Int)) = decide (a = b) := by rw [Bool.eq_iff_iff]; simp; omega
  rw [this]; exact k
 all_goals rw [if_neg (aK e1)] at k
 ·rw [if_pos (bz e2)] at k
  rw [dd (p := (a : Int) < (b : Int)) (q := a < b) (by omega)]; exact k
 all_goals rw [if_neg (aK e2)] at k
 ·rw [if_pos (bz e3)] at k; exact k
 all_goals rw [if_neg (aK e3)] at k
 ·rw [if_pos (bz e4)] at k
  rw [dd (p := (a : Int) <= (b : Int)) (q := a <= b) (by omega)]; exact k
 all_goals rw [if_neg (aK e4)] at k
 ·rw [if_pos (bz e5)] at k; exact k
 all_goals rw [if_neg (aK e5)] at k
 ·rw [if_pos (bz e6)] at k
  refine dj (by omega) ⟨_, rfl, ?_⟩
  rw [cc (by omega) (by omega), dd (p := (a : Int) + (b : Int) > ((2 ^ w : Nat) : Int) - 1) (q := 2 ^ w <= a + b) (by omega)]; exact k
 all_goals rw [if_neg (aK e6)] at k
 ·rw [if_pos (bz e7)] at k
  have w1 : W ((w : Int) - 1) = ((w - 1 : Nat) : Int) := by rw [cc (by omega) (by omega)]; omega
  have hpp := mE hw.1
  rw [w1, if_neg (by omega), if_neg (by omega), OB (by omega), cu (by omega), cc (n := sgn w a + sgn w b) (by omega) (by omega), cc (n := ((2 ^ (w - 1) : Nat) : Int) - 1) (by omega) (by omega)]
  refine fq ⟨_, rfl, ?_⟩
  rw [dd (p := -((2 ^ (w - 1) : Nat) : Int) <= sgn w a + sgn w b /\ sgn w a + sgn w b <= ((2 ^ (w - 1) : Nat) : Int) - 1) (q := -((2 ^ (w - 1) : Nat) : Int) <= sgn w a + sgn w b /\ sgn w a + sgn w b < ((2 ^ (w - 1) : Nat) : Int)) (by omega)]
  exact k
 ·rw [if_neg (aK e7)] at k
  have hmul := zQ (a := a) (b := b) (by omega) (by omega)
  have hmi : (a : Int) * (b : Int) = ((a * b : Nat) : Int) := (Int.natCast_mul _ _).symm
  refine dj (by omega) ⟨_, rfl, ?_⟩
  rw [hmi]
  generalize a * b = ab at *
  rw [fj (by omega), dd (p := (ab : Int) > ((2 ^ w : Nat) : Int) - 1) (q := 2 ^ w <= ab) (by omega)]; exact k
theorem Qn {h : Hp} {kind : Int} {w a b : Nat} {R : Value -> Hp -> Prop} (hk : 6 <= kind /\ kind <= 28) (ea : WO w a) (eb : WO w b)
  (k : R (.tuple #[I (om kind w a b).1, I (om kind w a b).2]) h) : wF #[I kind, I w, I a, I b] h R := by
 apply Jn
 refine uf_ ?_
 have h16 := ea.pow
 have hp := aU w
 have ha := ea.2
 have hb := eb.2
 have hw := ea.1
 have hand : a &&& b <= a := Nat.and_le_left
 have hmul := zQ (a := a) (b := b) (by omega) (by omega)
 by_cases h20 : kind <= 20
 rotate_left
 ·have t : om kind w a b = (if z9 kind w a b then 1 else 0, 1) := by unfold om; rw [if_neg h20]
  rw [t] at k
  have nb : ∀ n : Int, n <= 20 -> (kind == n) = false := fun n hn => by rw [beq_eq_false_iff_ne]; omega
  refine ak (nb _ (by omega)) (ak (nb _ (by omega)) (ak (nb _ (by omega)) (ak (nb _ (by omega)) (ak (nb _ (by omega)) (ak (nb _ (by omega)) (ak (nb _ (by omega)) (ak (nb _ (by omega)) ?_)))))))
  refine ap (fun J => J false) ?_ (fun J hJ => ak (nb _ (by omega)) (by rw [nb 15 (by omega)]; exact hJ))
  refine ak rfl (ap (fun J => J false) ?_ (fun J hJ => ak (nb _ (by omega)) (ak (nb _ (by omega)) (by rw [nb 18 (by omega)]; exact hJ))))
  refine ak rfl (ak (nb _ (by omega)) (ak (nb _ (by omega)) ?_))
  refine Ex (by omega) ea eb ⟨_, rfl, tq ⟨_, rfl, ?_⟩⟩
  cases hs : z9 kind w a b
  ·rw [hs] at k; simpa using k
  ·rw [hs] at k; simpa using k
 have t : om kind w a b = (Di kind w a b, w) := by unfold om; rw [if_pos h20]
 rw [t] at k
 unfold Di at k
 simp only at k
 refine ad (fun e => ?_) (fun e6 => ?_)
 ·rw [if_pos (bz e)] at k; rw [pa (by omega) (by omega)]; exact k
 rw [if_neg (aK e6)] at k
 refine ad (fun e => ?_) (fun e7 => ?_)
 ·rw [if_pos (bz e)] at k; rw [ye (by omega) (by omega)]; exact k
 rw [if_neg (aK e7)] at k
 refine ad (fun e => ?_) (fun e8 => ?_)
 ·rw [if_pos (bz e)] at k; rw [H6 (by omega) (by omega)]; exact k
 rw [if_neg (aK e8)] at k
 refine ad (fun e => ?_) (fun e9 => ?_)
 ·rw [if_pos (bz e)] at k
  refine dj (by omega) ⟨_, rfl, ?_⟩
  rw [cc (by omega) (by omega), fB (by omega)]; exact k
 rw [if_neg (aK e9)] at k
 refine ad (fun e => ?_) (fun e10 => ?_)
 ·rw [if_pos (bz e)] at k
  refine dj (by omega) ⟨_, rfl, ?_⟩
  rw [cc (by omega) (by omega), fB (by omega)]; exact k
 rw [if_neg (aK e10)] at k
 refine ad (fun e => ?_) (fun e11 => ?_)
 ·rw [if_pos (bz e)] at k
  refine dj (by omega) ⟨_, rfl, ?_⟩
  have hmi : (a : Int) * (b : Int) = ((a * b : Nat) : Int) := (Int.natCast_mul _ _).symm
  rw [hmi] at k ⊢
  generalize a * b = ab at *
  rw [fj (by omega), fB (by omega)]; exact k
 rw [if_neg (aK e11)] at k
 refine ad (fun e => ?_) (fun e12 => ?_)
 ·rw [if_pos (bz e)] at k
  refine dj (by omega) ⟨_, rfl, ad (fun eb0 => ?_) (fun eb0 => ?_)⟩
  ·have hb0 : ¬ b = 0 := by have := of_decide_eq_true eb0; omega
   rw [if_neg hb0] at k
   have hd := Nat.div_le_self a b
   rw [if_neg (by omega), DB, fj (by omega)]; exact k
  ·have hb0 : b = 0 := by have := of_decide_eq_false eb0; omega
   rw [if_pos hb0] at k
   have : ((2 ^ w - 1 : Nat) : Int) = ((2 ^ w : Nat) : Int) - 1 := by omega
   rw [<- this]; exact k
 rw [if_neg (aK e12)] at k
 refine ad (fun e => ?_) (fun e13 => ?_)
 ·rw [if_pos (bz e)] at k
  refine ad (fun eb0 => ?_) (fun eb0 => ?_)
  ·have hb0 : ¬ b = 0 := by have := of_decide_eq_true eb0; omega
   rw [if_neg hb0] at k
   rw [if_neg (by omega), eR]; exact k
  ·have hb0 : b = 0 := by have := of_decide_eq_false eb0; omega
   rw [if_pos hb0] at k; exact k
 rw [if_neg (aK e13)] at k
 refine ap (fun J => J (decide (kind = 14 \/ kind = 15))) ?_ ?_
 rotate_left
 ·intro J hJ
  refine ad (fun e => ?_) (fun e => ?_)
  ·rw [decide_eq_true (.inl (bz e))] at hJ; exact hJ
  ·have : (kind == 15) = decide (kind = 14 \/ kind = 15) := by
    have := aK e
    rw [Bool.eq_iff_iff]; simp [this]
   rw [this]; exact hJ
 refine ad (fun e => ?_) (fun e1415 => ?_)
 ·have e' : kind = 14 \/ kind = 15 := by simpa using e
  refine F8 e' ea eb ⟨_, rfl, ?_⟩
  rcases e' with rfl | rfl
  ·simpa using k
  ·simpa using k
 have n14 : ¬ kind = 14 /\ ¬ kind = 15 := by simpa using e1415
 rw [if_neg n14.1, if_neg n14.2] at k
 refine ap (fun J => J (decide (kind = 16 \/ kind = 17 \/ kind = 18))) ?_ ?_
 rotate_left
 ·intro J hJ
  refine ad (fun e => ?_) (fun e => ad (fun e2 => ?_) (fun e2 => ?_))
  ·rw [decide_eq_true (.inl (bz e))] at hJ; exact hJ
  ·rw [decide_eq_true (.inr (.inl (bz e2)))] at hJ; exact hJ
  ·have : (kind == 18) = decide (kind = 16 \/ kind = 17 \/ kind = 18) := by
    have h1 := aK e
    have h2 := aK e2
    rw [Bool.eq_iff_iff]; simp [h1, h2]
   rw [this]; exact hJ
 refine ad (fun e => ?_) (fun e1618 => ?_)
 ·have e' : kind = 16 \/ kind = 17 \/ kind = 18 := by simpa using e
  refine Gc ea (by omega) ⟨_, rfl, ?_⟩
  unfold zg
  rcases e' with rfl | rfl | rfl
  ·simpa using k
  ·simpa using k
  ·simpa using k
 have n16 : ¬ kind = 16 /\ ¬ kind = 17 /\ ¬ kind = 18 := by simpa using e1618
 rw [if_neg n16.1, if_neg n16.2.1, if_neg n16.2.2] at k
 refine ad (fun e => ?_) (fun e19 => ?_)
 ·rw [if_pos (bz e)] at k
  exact z7 ea ⟨_, rfl, k⟩
 rw [if_neg (aK e19)] at k
 have h20' : kind = 20 := by
  have := aK e6; have := aK e7; have := aK e8; have := aK e9; have := aK e10; have := aK e11; have := aK e12; have := aK e13; have := aK e19
  omega
 refine aH (by simpa using h20') ?_
 have hm : b % w < w := Nat.mod_lt _ (by omega)
 have hw2 : W ((w : Int) - ((b % w : Nat) : Int)) = ((w - b % w : Nat) : Int) := by rw [cc (by omega) (by omega)]; omega
 rw [if_neg (by omega), eR, hw2]
 exact z7 ea ⟨_, rfl, k⟩
end Go.Lead
