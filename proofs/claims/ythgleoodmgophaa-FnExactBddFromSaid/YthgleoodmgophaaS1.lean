/- What the small helpers of the laws compute. -/
import Derived.Test.YthgleoodmgophaaP2
namespace Go.Lead
open Go
set_option linter.unusedSimpArgs false
set_option linter.unusedVariables false

theorem all_false {α : Type} {xs : List α} {p : α → Bool} {i : Nat} (hi : i < xs.length) (hp : p xs[i] = false) : xs.all p = false := by
  rw [List.all_eq_false]; exact ⟨_, List.getElem_mem hi, by simp [hp]⟩
theorem all_step {α : Type} {xs : List α} {p : α → Bool} {i : Nat} (hi : i < xs.length) : (xs.take (i + 1)).all p = ((xs.take i).all p && p xs[i]) := by
  rw [List.take_succ_eq_append_getElem hi, List.all_append]; simp
theorem eqIntS_spec {h : Hp} {s t : Sl} {xs ys : List Int} {R : Value → Hp → Prop} (hs : IntS h s xs) (ht : IntS h t ys)
    (k : R (.bool (decide (xs = ys))) h) : c_laws_eqIntS #[s.v, t.v] h R := by
  apply R_laws_eqIntS
  unfold F_laws_eqIntS
  have ls := hs.len
  have lt := ht.len
  by_cases hl : xs.length = ys.length
  · refine bs_f (by simp [ls, lt, hl]) ?_
    refine loop_up xs.length (fun i vs h' => vs = [s.v, t.v, I i] ∧ h' = h ∧ xs.take i = ys.take i) ⟨rfl, rfl, by simp⟩ ?_
    rintro i _ _ next hi ⟨rfl, rfl, hp⟩ hn
    refine ⟨_, _, _, rfl, ?_⟩
    by_cases hlt : i < xs.length
    · obtain ⟨b, o, ha, hc⟩ := hs.at hlt
      have hi' : i < ys.length := by omega
      obtain ⟨b', o', ha', hc'⟩ := ht.at hi'
      have hb := hs.bound
      refine bs_t (by simp [ls, hlt]) ?_
      simp only [vm, ls, lt, ha, ha', hc, hc', W_succ (n := i) (by omega)]
      refine ⟨by omega, by omega, bsplit_of (fun he => ?_) (fun he => ?_)⟩
      · rwa [decide_eq_false (fun e => by subst e; simp at he)] at k
      · exact hn hlt _ _ ⟨rfl, rfl, take_step hlt hi' hp (by simpa using he)⟩
    · have : i = xs.length := by omega
      subst this
      refine bs_f (by simp [ls]) ?_
      rw [List.take_length, hl, List.take_length] at hp
      rwa [decide_eq_true hp] at k
  · refine bs_t (by simp [ls, lt]; omega) ?_
    rwa [decide_eq_false (fun e => hl (by rw [e]))] at k

theorem toIntS_own {h : Hp} {s : Sl} {xs : List Int} {R : Value → Hp → Prop} (hs : IntS h s xs) (hm : xs.length ≤ 1048576)
    (k : ∀ t h', h.le h' → Own (h'.sub h) t 1 (xs.map I) → R (Sl.v t) h') : c_laws_toIntS #[s.v] h R := by
  apply R_laws_toIntS
  unfold F_laws_toIntS
  have ls := hs.len
  refine ⟨by omega, by omega, by omega, by omega, ?_⟩
  intro b hb
  refine setH_of fun h1 e1 => ?_
  simp only [vm, hs.len, zeroRow_one] at e1 ⊢
  refine loop_up xs.length (fun i vs h' => vs = [s.v, Sl.v ⟨some ⟨b, 0, none⟩, xs.length, xs.length⟩, I i] ∧
    ∃ cs, h' = h.row b cs xs.length ∧ cs.length = xs.length ∧ cs.take i = (xs.take i).map I) ⟨rfl, _, e1, by simp, by simp⟩ ?_
  rintro i _ _ next hi ⟨rfl, cs, rfl, hcl, hp⟩ hn
  refine ⟨_, _, _, rfl, ?_⟩
  by_cases hlt : i < xs.length
  · obtain ⟨b', o', ha, hc⟩ := (hs.mono (le_row cs xs.length hb)).at hlt
    refine bs_t (by simp [ls, hlt]) ?_
    simp only [vm, ls, ha, hc, W_succ (n := i) (by omega)]
    refine ⟨by omega, by omega, cs, xs.length, row_self .., by omega, ?_⟩
    rw [row_row, lset_one]
    refine hn hlt _ _ ⟨rfl, _, rfl, by simpa using hcl, ?_⟩
    rw [take_set _ (by omega), hp, map_take_step hlt]
  · have : i = xs.length := by omega
    subst this
    rw [List.take_length, ← hcl, List.take_length] at hp
    subst hp
    exact bs_f (by simp [ls]) (k _ _ (le_row _ _ hb) ⟨by simp, by show xs.length ≤ _; omega, .inr ⟨b, _, rfl, sub_row _ _ hb⟩⟩)
theorem toIntS_spec {h : Hp} {s : Sl} {xs : List Int} {R : Value → Hp → Prop} (hs : IntS h s xs) (hm : xs.length ≤ 1048576)
    (k : ∀ t h', h.le h' → IntS (h'.sub h) t xs → R (Sl.v t) h') : c_laws_toIntS #[s.v] h R := toIntS_own hs hm fun t h' l o => k t h' l o.slc

/-- A list of lists whose rows are all its own. -/
structure OwnSS (h : Hp) (t : Sl) (ts : List Sl) (xss : List (List Int)) : Prop where
  len : ts.length = xss.length
  outer : SlC (h.wo (ts.flatMap Sl.used)) t 1 (ts.map Sl.v)
  inner : ∀ (i : Nat) (h1 : i < ts.length) (h2 : i < xss.length), Own h ts[i] 1 (xss[i].map I)
theorem OwnSS.mono {h h' : Hp} {t : Sl} {ts : List Sl} {xss : List (List Int)} (l : h.le h') (e : OwnSS h t ts xss) : OwnSS h' t ts xss :=
  ⟨e.len, e.outer.mono (le_wo (Hp.le_trans (wo_le _ _) l) fun b hb => wo_none hb), fun i h1 h2 => (e.inner i h1 h2).mono l⟩
theorem OwnSS.used {h : Hp} {t : Sl} {ts : List Sl} {xss : List (List Int)} (e : OwnSS h t ts xss) : ∀ b ∈ ts.flatMap Sl.used, h b ≠ none := by
  intro b hb
  obtain ⟨u, hu, hbu⟩ := List.mem_flatMap.1 hb
  obtain ⟨i, hi, rfl⟩ := List.getElem_of_mem hu
  exact (e.inner i hi (by rw [← e.len]; exact hi)).used b hbu

theorem l1In_spec {h : Hp} {x a b : Int} {R : Value → Hp → Prop} (k : R (.bool (decide (a ≤ x ∧ x ≤ b))) h) : c_spec_l1In #[I x, I a, I b] h R := by
  apply R_spec_l1In
  unfold F_spec_l1In
  refine bsplit_of (fun e => ?_) (fun e => ?_)
  · simp at e; simpa [e] using k
  · simp at e; rwa [decide_eq_false (by omega)] at k
theorem in_spec {h : Hp} {x a b : Int} {R : Value → Hp → Prop} (k : R (.bool (decide (a ≤ x ∧ x ≤ b))) h) : c_impl_in #[I x, I a, I b] h R := by
  apply R_impl_in
  unfold F_impl_in
  refine bsplit_of (fun e => ?_) (fun e => ?_)
  · simp at e; simpa [e] using k
  · simp at e; rwa [decide_eq_false (by omega)] at k

/-- A literal of so many variables. -/
def LitOk (vars n : Int) : Bool := decide (n ≠ 0 ∧ -vars ≤ n ∧ n ≤ vars)
def ClauseOk (vars : Int) (l : List Int) : Bool := decide (l.length ≤ 10) && l.all (LitOk vars)
def CnfOkB (vars : Int) (c : List (List Int)) : Bool := decide (1 ≤ vars ∧ vars ≤ 10) && (decide (c.length ≤ 60) && c.all (ClauseOk vars))

end Go.Lead
