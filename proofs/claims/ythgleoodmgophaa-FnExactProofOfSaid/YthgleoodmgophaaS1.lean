/- What the small helpers of the laws compute. -/
import Derived.Test.YthgleoodmgophaaP2
namespace Go.Lead
open Go
set_option linter.unusedSimpArgs false
set_option linter.unusedVariables false

theorem all_false {α : Type} {xs : List α} {p : α → Bool} {i : Nat} (hi : i < xs.length) (hp : p xs[i] = false) : xs.all p = false := by
  rw [List.all_eq_false]; exact ⟨_, List.getElem_mem hi, by simp [hp]⟩
theorem all_step {α : Type} {xs : List α} {p : α → Bool} {i : Nat} (hi : i < xs.length) : (xs.take (i + 1)).all p = ((xs.take i).all p && p xs[i]) := by
  rw [List.take_succ_eq_append_getElem hi, List.all_append]; simp
theorem any_true {α : Type} {xs : List α} {p : α → Bool} {i : Nat} (hi : i < xs.length) (hp : p xs[i] = true) : xs.any p = true := by
  rw [List.any_eq_true]; exact ⟨_, List.getElem_mem hi, hp⟩
theorem any_step {α : Type} {xs : List α} {p : α → Bool} {i : Nat} (hi : i < xs.length) : (xs.take (i + 1)).any p = ((xs.take i).any p || p xs[i]) := by
  rw [List.take_succ_eq_append_getElem hi, List.any_append]; simp

theorem eqIntS_spec {h : Hp} {s t : Sl} {xs ys : List Int} {R : Value → Hp → Prop} (hs : IntS h s xs) (ht : IntS h t ys)
    (k : R (.bool (decide (xs = ys))) h) : c_laws_eqIntS #[s.v, t.v] h R := by
  apply R_laws_eqIntS
  unfold F_laws_eqIntS
  have ls := hs.len
  have lt := ht.len
  by_cases hl : xs.length = ys.length
  · refine bs_f (by simp [ls, lt, hl]) ?_
    refine loop_up xs.length (fun i vs h' => vs = [s.v, t.v, I i] ∧ h' = h ∧ xs.take i = ys.take i) ⟨rfl, rfl, by simp⟩ ?_
    rintro i _ _ next hi ⟨rfl, rfl, hp⟩ hn
    refine ⟨_, _, _, rfl, ?_⟩
    by_cases hlt : i < xs.length
    · obtain ⟨b, o, ha, hc⟩ := hs.at hlt
      have hi' : i < ys.length := by omega
      obtain ⟨b', o', ha', hc'⟩ := ht.at hi'
      have hb := hs.bound
      refine bs_t (by simp [ls, hlt]) ?_
      simp only [vm, ls, lt, ha, ha', hc, hc', W_succ (n := i) (by omega)]
      refine ⟨by omega, by omega, bsplit_of (fun he => ?_) (fun he => ?_)⟩
      · rwa [decide_eq_false (fun e => by subst e; simp at he)] at k
      · exact hn hlt _ _ ⟨rfl, rfl, take_step hlt hi' hp (by simpa using he)⟩
    · have : i = xs.length := by omega
      subst this
      refine bs_f (by simp [ls]) ?_
      rw [List.take_length, hl, List.take_length] at hp
      rwa [decide_eq_true hp] at k
  · refine bs_t (by simp [ls, lt]; omega) ?_
    rwa [decide_eq_false (fun e => hl (by rw [e]))] at k

theorem eqIntSS_spec {h : Hp} {s t : Sl} {xs ys : List (List Int)} {R : Value → Hp → Prop} (hs : IntSS h s xs) (ht : IntSS h t ys)
    (k : R (.bool (decide (xs = ys))) h) : c_laws_eqIntSS #[s.v, t.v] h R := by
  apply R_laws_eqIntSS
  unfold F_laws_eqIntSS
  have ls := hs.len
  have lt := ht.len
  by_cases hl : xs.length = ys.length
  · refine bs_f (by simp [ls, lt, hl]) ?_
    refine loop_up xs.length (fun i vs h' => vs = [s.v, t.v, I i] ∧ h' = h ∧ xs.take i = ys.take i) ⟨rfl, rfl, by simp⟩ ?_
    rintro i _ _ next hi ⟨rfl, rfl, hp⟩ hn
    refine ⟨_, _, _, rfl, ?_⟩
    by_cases hlt : i < xs.length
    · obtain ⟨b, o, t1, ha, hc, ht1⟩ := hs.at hlt
      have hi' : i < ys.length := by omega
      obtain ⟨b', o', t2, ha', hc', ht2⟩ := ht.at hi'
      have hb := hs.bound
      refine bs_t (by simp [ls, hlt]) ?_
      simp only [vm, ls, lt, ha, ha', hc, hc', W_succ (n := i) (by omega)]
      refine ⟨by omega, by omega, eqIntS_spec ht1 ht2 ⟨_, rfl, bsplit_of (fun he => ?_) (fun he => ?_)⟩⟩
      · rwa [decide_eq_false (fun e => by subst e; simp at he)] at k
      · exact hn hlt _ _ ⟨rfl, rfl, take_step hlt hi' hp (by simpa using he)⟩
    · have : i = xs.length := by omega
      subst this
      refine bs_f (by simp [ls]) ?_
      rw [List.take_length, hl, List.take_length] at hp
      rwa [decide_eq_true hp] at k
  · refine bs_t (by simp [ls, lt]; omega) ?_
    rwa [decide_eq_false (fun e => hl (by rw [e]))] at k

theorem szIntS_spec {h : Hp} {s : Sl} {xs : List Int} {left : Int} {R : Value → Hp → Prop} (hs : IntS h s xs) (h0 : 0 ≤ left) (h1 : left ≤ 1048576)
    (k : ∀ r : Int, (r < 0 ∨ 0 ≤ r ∧ r + xs.length = left) → R (I r) h) : c_laws_szIntS #[s.v, I left] h R := by
  apply R_laws_szIntS
  unfold F_laws_szIntS
  have hb := hs.bound
  rw [hs.len, W_id (by omega) (by omega)]
  exact bsplit_of (fun e => k _ (by simp)) (fun e => k _ (by simp at e; omega))

def wtSS (xss : List (List Int)) : Nat := (xss.map List.length).sum
theorem wtSS_take (xss : List (List Int)) {i : Nat} (hi : i < xss.length) : wtSS (xss.take (i + 1)) = wtSS (xss.take i) + xss[i].length := by
  rw [List.take_succ_eq_append_getElem hi]; simp only [wtSS, List.map_append, List.sum_append, List.map_cons, List.map_nil, List.sum_cons, List.sum_nil]; omega

theorem wtSS_le (xss : List (List Int)) {i : Nat} : wtSS (xss.take i) ≤ wtSS xss := by
  have : wtSS xss = wtSS (xss.take i) + wtSS (xss.drop i) := by
    conv => lhs; rw [← List.take_append_drop i xss]
    simp only [wtSS, List.map_append, List.sum_append]
  omega

theorem szIntSS_spec {h : Hp} {s : Sl} {xss : List (List Int)} {left : Int} {R : Value → Hp → Prop} (hs : IntSS h s xss) (h0 : 0 ≤ left) (h1 : left ≤ 1048576)
    (k : ∀ r : Int, (r < 0 ∨ 0 ≤ r ∧ r + wtSS xss + xss.length = left) → R (I r) h) : c_laws_szIntSS #[s.v, I left] h R := by
  apply R_laws_szIntSS
  unfold F_laws_szIntSS
  have hb := hs.bound
  rw [hs.len, W_id (by omega) (by omega)]
  refine bsplit_of (fun e => k _ (by simp)) (fun e => ?_)
  simp at e
  refine loop_up xss.length (fun i vs h' => h' = h ∧ ∃ r : Int, vs = [s.v, I r, I i] ∧ 0 ≤ r ∧ r + wtSS (xss.take i) + xss.length = left)
    ⟨rfl, _, rfl, by omega, by simp [wtSS]⟩ ?_
  rintro i _ _ next hi ⟨rfl, r, rfl, hr, hw⟩ hn
  refine ⟨_, _, _, rfl, ?_⟩
  by_cases hlt : i < xss.length
  · obtain ⟨b, o, t1, ha, hc, ht1⟩ := hs.at hlt
    refine bs_t (by simp [hs.len, hlt]) ?_
    simp only [vm, hs.len, ha, hc, W_succ (n := i) (by omega)]
    refine ⟨by omega, szIntS_spec ht1 hr (by omega) fun r' hr' => ⟨_, rfl, bsplit_of (fun e => k _ (by simp)) (fun e => ?_)⟩⟩
    simp at e
    refine hn hlt _ _ ⟨rfl, _, rfl, e, ?_⟩
    have := wtSS_take xss hlt
    omega
  · have : i = xss.length := by omega
    subst this
    rw [List.take_length] at hw
    exact bs_f (by simp [hs.len]) (k _ (by omega))

theorem szCnf_spec {h : Hp} {s : Sl} {xss : List (List Int)} {n left : Int} {R : Value → Hp → Prop} (hs : IntSS h s xss) (h0 : 0 ≤ left) (h1 : left ≤ 1048576)
    (k : ∀ r : Int, (r < 0 ∨ 0 ≤ r ∧ r + wtSS xss + xss.length = left) → R (I r) h) : c_laws_szCnf #[.agg #[I n, s.v], I left] h R := by
  refine ACalls.drop (R_laws_szCnf ?_)
  unfold F_laws_szCnf
  intro b hb
  have hl := le_row [I n, s.v] 2 hb
  refine setH_of fun h' e => ?_
  subst e
  refine ⟨s, by rw [cell_row]; rfl, szIntSS_spec (hs.mono hl) h0 h1 fun r hr => ⟨_, rfl, ?_⟩⟩
  refine bsplit_of (fun e => ⟨h, hl, k _ (by simp)⟩) (fun e => ⟨h, hl, k _ hr⟩)

theorem toIntS_own {h : Hp} {s : Sl} {xs : List Int} {R : Value → Hp → Prop} (hs : IntS h s xs) (hm : xs.length ≤ 1048576)
    (k : ∀ t h', h.le h' → Own (h'.sub h) t 1 (xs.map I) → R (Sl.v t) h') : c_laws_toIntS #[s.v] h R := by
  apply R_laws_toIntS
  unfold F_laws_toIntS
  have ls := hs.len
  refine ⟨by omega, by omega, by omega, by omega, ?_⟩
  intro b hb
  refine setH_of fun h1 e1 => ?_
  simp only [vm, hs.len, zeroRow_one] at e1 ⊢
  refine loop_up xs.length (fun i vs h' => vs = [s.v, Sl.v ⟨some ⟨b, 0, none⟩, xs.length, xs.length⟩, I i] ∧
    ∃ cs, h' = h.row b cs xs.length ∧ cs.length = xs.length ∧ cs.take i = (xs.take i).map I) ⟨rfl, _, e1, by simp, by simp⟩ ?_
  rintro i _ _ next hi ⟨rfl, cs, rfl, hcl, hp⟩ hn
  refine ⟨_, _, _, rfl, ?_⟩
  by_cases hlt : i < xs.length
  · obtain ⟨b', o', ha, hc⟩ := (hs.mono (le_row cs xs.length hb)).at hlt
    refine bs_t (by simp [ls, hlt]) ?_
    simp only [vm, ls, ha, hc, W_succ (n := i) (by omega)]
    refine ⟨by omega, by omega, cs, xs.length, row_self .., by omega, ?_⟩
    rw [row_row, lset_one]
    refine hn hlt _ _ ⟨rfl, _, rfl, by simpa using hcl, ?_⟩
    rw [take_set _ (by omega), hp, map_take_step hlt]
  · have : i = xs.length := by omega
    subst this
    rw [List.take_length, ← hcl, List.take_length] at hp
    subst hp
    exact bs_f (by simp [ls]) (k _ _ (le_row _ _ hb) ⟨by simp, by show xs.length ≤ _; omega, .inr ⟨b, _, rfl, sub_row _ _ hb⟩⟩)
/-- A list of lists whose rows are all its own. -/
structure OwnSS (h : Hp) (t : Sl) (ts : List Sl) (xss : List (List Int)) : Prop where
  len : ts.length = xss.length
  outer : SlC (h.wo (ts.flatMap Sl.used)) t 1 (ts.map Sl.v)
  inner : ∀ (i : Nat) (h1 : i < ts.length) (h2 : i < xss.length), Own h ts[i] 1 (xss[i].map I)
theorem OwnSS.ints {h : Hp} {t : Sl} {ts : List Sl} {xss : List (List Int)} (e : OwnSS h t ts xss) : IntSS h t xss :=
  ⟨ts, e.len, e.outer.mono (wo_le _ _), fun i h1 h2 => (e.inner i h1 h2).slc⟩
theorem OwnSS.mono {h h' : Hp} {t : Sl} {ts : List Sl} {xss : List (List Int)} (l : h.le h') (e : OwnSS h t ts xss) : OwnSS h' t ts xss :=
  ⟨e.len, e.outer.mono (le_wo (Hp.le_trans (wo_le _ _) l) fun b hb => wo_none hb), fun i h1 h2 => (e.inner i h1 h2).mono l⟩
theorem OwnSS.used {h : Hp} {t : Sl} {ts : List Sl} {xss : List (List Int)} (e : OwnSS h t ts xss) : ∀ b ∈ ts.flatMap Sl.used, h b ≠ none := by
  intro b hb
  obtain ⟨u, hu, hbu⟩ := List.mem_flatMap.1 hb
  obtain ⟨i, hi, rfl⟩ := List.getElem_of_mem hu
  exact (e.inner i hi (by rw [← e.len]; exact hi)).used b hbu

theorem toIntSS_own {h : Hp} {s : Sl} {xss : List (List Int)} {R : Value → Hp → Prop} (hs : IntSS h s xss) (hm : wtSS xss + xss.length ≤ 1048576)
    (k : ∀ t ts h', h.le h' → OwnSS (h'.sub h) t ts xss → R (Sl.v t) h') : c_laws_toIntSS #[s.v] h R := by
  apply R_laws_toIntSS
  unfold F_laws_toIntSS
  have ls := hs.len
  refine ⟨by omega, by omega, by omega, by omega, ?_⟩
  intro b hb
  refine setH_of fun h1 e1 => ?_
  simp only [vm, hs.len, zeroRow_one] at e1 ⊢
  refine loop_up xss.length (fun i vs h' => vs = [s.v, Sl.v ⟨some ⟨b, 0, none⟩, xss.length, xss.length⟩, I i] ∧ h.le h' ∧
    ∃ cs, h' b = some (.inl ⟨cs, xss.length, false⟩) ∧ cs.length = xss.length ∧ ∃ ts : List Sl, ts.length = i ∧ cs.take i = ts.map Sl.v ∧
      ∀ (j : Nat) (h1 : j < ts.length) (h2 : j < xss.length), Own ((h'.sub h).off b) ts[j] 1 (xss[j].map I))
    ⟨rfl, e1 ▸ le_row _ _ hb, _, by rw [e1, row_self], by simp, [], rfl, by simp, fun j h1 => by simp at h1⟩ ?_
  rintro i _ h2 next hi ⟨rfl, hle, cs, hcb, hcl, ts, htl, htk, hall⟩ hn
  refine ⟨_, _, _, rfl, ?_⟩
  by_cases hlt : i < xss.length
  · obtain ⟨b', o', t, ha, hc, ht⟩ := (hs.mono hle).at hlt
    have hw := wtSS_take xss hlt
    have hw' : xss[i].length ≤ wtSS xss := by
      have := wtSS_le xss (i := i + 1); omega
    refine bs_t (by simp [ls, hlt]) ?_
    simp only [vm, ls, ha, hc, W_succ (n := i) (by omega)]
    refine ⟨by omega, toIntS_own ht (by omega) fun t' h3 hl3 ht' => ⟨_, rfl, ?_⟩⟩
    refine ⟨by omega, cs, xss.length, hl3 _ _ hcb, by omega, ?_⟩
    rw [lset_one]
    refine hn hlt _ _ ⟨rfl, le_row_of _ _ hb (Hp.le_trans hle hl3), _, row_self .., by simpa using hcl, ts ++ [t'], by simp [htl], ?_, ?_⟩
    · rw [take_set _ (by omega), htk, List.map_append]; rfl
    · intro j j1 j2
      rw [sub_row_off]
      by_cases hj : j < ts.length
      · rw [List.getElem_append_left hj]
        exact (hall j hj j2).mono (sub_le_sub_off hl3)
      · have : j = ts.length := by simp at j1; omega
        subst this
        simp only [List.getElem_append_right (Nat.le_refl _), Nat.sub_self, List.getElem_cons_zero]
        subst htl
        exact ht'.mono (sub_off' hle hcb)
  · have : i = xss.length := by omega
    subst this
    rw [← hcl, List.take_length] at htk
    subst htk
    have hbu : b ∉ ts.flatMap Sl.used := by
      intro hbm
      obtain ⟨u, hu, hbu⟩ := List.mem_flatMap.1 hbm
      obtain ⟨i, hi, rfl⟩ := List.getElem_of_mem hu
      exact (hall i hi (by omega)).used b hbu (off_at _ _)
    exact bs_f (by simp [ls]) (k _ _ _ hle ⟨htl, ⟨by show xss.length ≤ _; omega, by simp [htl], .inr ⟨_, _, rfl, cellsAre_of (by rw [wo_at hbu, sub_at hb]; exact hcb)⟩⟩,
      fun j j1 j2 => (hall j j1 j2).mono (off_le _ _)⟩)
theorem toCnf_own {h : Hp} {s : Sl} {n : Int} {xss : List (List Int)} {R : Value → Hp → Prop} (hs : IntSS h s xss) (hm : wtSS xss + xss.length ≤ 1048576)
    (k : ∀ t ts h', h.le h' → OwnSS (h'.sub h) t ts xss → R (.agg #[I n, Sl.v t]) h') : c_laws_toCnf #[.agg #[I n, s.v]] h R := by
  apply R_laws_toCnf
  unfold F_laws_toCnf
  intro b1 hb1
  simp only [vm, mm]
  rintro b2 ⟨n21, hb2⟩ b3 ⟨n32, n31, hb3⟩
  have n12 := n21.symm
  have n23 := n32.symm
  have n13 := n31.symm
  simp only [vm, mm, n12, n21, n13, n31, n23, n32, ne_eq, not_false_eq_true]
  have l0 := le_row_of [I n, .slice none 0 0] 2 hb3 (le_row_of [I 0, .slice none 0 0] 2 hb2 (le_row [I n, s.v] 2 hb1))
  refine ⟨by omega, toIntSS_own (hs.mono l0) hm fun t ts h4 l4 ht => ⟨_, rfl, ?_⟩⟩
  have f3 := l4 _ _ (row_self ..)
  have f2 := l4 _ _ ((row_ne _ _ n23).trans (row_self ..))
  simp only [vm, mm, f2, f3]
  refine ⟨by omega, by omega, k _ ts _ (le_row_of _ _ hb2 (le_row_of _ _ hb3 (Hp.le_trans l0 l4))) (ht.mono ?_)⟩
  exact keep_row _ _ (sub_none ((row_ne _ _ n23).trans (row_self ..))) (keep_row _ _ (sub_none (row_self ..)) (sub_anti _ l0))

theorem toCnf_spec {h : Hp} {s : Sl} {n : Int} {xss : List (List Int)} {R : Value → Hp → Prop} (hs : IntSS h s xss) (hm : wtSS xss + xss.length ≤ 1048576)
    (k : ∀ t h', h.le h' → IntSS (h'.sub h) t xss → R (.agg #[I n, Sl.v t]) h') : c_laws_toCnf #[.agg #[I n, s.v]] h R := toCnf_own hs hm fun t ts h' l o => k t h' l o.ints

theorem eqCnf_spec {h : Hp} {s t : Sl} {n m : Int} {xs ys : List (List Int)} {R : Value → Hp → Prop} (hs : IntSS h s xs) (ht : IntSS h t ys)
    (k : R (.bool (decide (n = m ∧ xs = ys))) h) : c_laws_eqCnf #[.agg #[I n, s.v], .agg #[I m, t.v]] h R := by
  refine ACalls.drop (R_laws_eqCnf ?_)
  unfold F_laws_eqCnf
  intro b1 hb1
  simp only [vm, mm]
  rintro b2 ⟨n21, hb2⟩
  have n12 := n21.symm
  have l0 := le_row_of [I m, t.v] 2 hb2 (le_row [I n, s.v] 2 hb1)
  simp only [vm, mm, n12, n21, ne_eq, not_false_eq_true]
  refine bsplit_of (fun e => ⟨_, l0, ?_⟩) (fun e => ?_)
  · rwa [decide_eq_false (fun hh => by simp [hh.1] at e)] at k
  · have e' : n = m := by simpa using e
    refine eqIntSS_spec (hs.mono l0) (ht.mono l0) ⟨_, rfl, ?_⟩
    refine bsplit_of (fun e => ⟨_, l0, ?_⟩) (fun e => ⟨_, l0, ?_⟩)
    · rwa [decide_eq_false (fun hh => by simp [hh.2] at e)] at k
    · rwa [decide_eq_true ⟨e', by simpa using e⟩] at k

theorem l1In_spec {h : Hp} {x a b : Int} {R : Value → Hp → Prop} (k : R (.bool (decide (a ≤ x ∧ x ≤ b))) h) : c_spec_l1In #[I x, I a, I b] h R := by
  apply R_spec_l1In
  unfold F_spec_l1In
  refine bsplit_of (fun e => ?_) (fun e => ?_)
  · simp at e; simpa [e] using k
  · simp at e; rwa [decide_eq_false (by omega)] at k
theorem in_spec {h : Hp} {x a b : Int} {R : Value → Hp → Prop} (k : R (.bool (decide (a ≤ x ∧ x ≤ b))) h) : c_impl_in #[I x, I a, I b] h R := by
  apply R_impl_in
  unfold F_impl_in
  refine bsplit_of (fun e => ?_) (fun e => ?_)
  · simp at e; simpa [e] using k
  · simp at e; rwa [decide_eq_false (by omega)] at k

/-- A literal of so many variables. -/
def LitOk (vars n : Int) : Bool := decide (n ≠ 0 ∧ -vars ≤ n ∧ n ≤ vars)
def ClauseOk (vars : Int) (l : List Int) : Bool := decide (l.length ≤ 10) && l.all (LitOk vars)
def CnfOkB (vars : Int) (c : List (List Int)) : Bool := decide (1 ≤ vars ∧ vars ≤ 10) && (decide (c.length ≤ 60) && c.all (ClauseOk vars))

theorem l10Literal_spec {h : Hp} {n v : Int} {R : Value → Hp → Prop} (h0 : 0 ≤ v) (h1 : v ≤ 10) (k : R (.bool (LitOk v n)) h) : c_spec_l10Literal #[I n, I v] h R := by
  apply R_spec_l10Literal
  unfold F_spec_l10Literal
  refine bsplit_of (fun e => ?_) (fun e => ?_)
  · simp at e
    rw [W_id (by omega) (by omega), Int.zero_sub]
    refine l1In_spec ⟨_, rfl, ?_⟩
    simpa [LitOk, e] using k
  · simp at e; subst e; simpa [LitOk] using k

theorem l10Clause_spec {h : Hp} {s : Sl} {xs : List Int} {v : Int} {R : Value → Hp → Prop} (hs : IntS h s xs) (h0 : 0 ≤ v) (h1 : v ≤ 10)
    (k : R (.bool (ClauseOk v xs)) h) : c_spec_l10Clause #[s.v, I v] h R := by
  apply R_spec_l10Clause
  unfold F_spec_l10Clause
  refine bsplit_of (fun e => ?_) (fun e => ?_)
  · simp [hs.len] at e; simpa [ClauseOk, e, show ¬ xs.length ≤ 10 by omega] using k
  · simp [hs.len] at e
    have hx : xs.length ≤ 10 := by omega
    simp only [ClauseOk, hx, decide_true, Bool.true_and] at k
    refine loop_up xs.length (fun i vs h' => vs = [s.v, I v, I i] ∧ h' = h ∧ (xs.take i).all (LitOk v) = true) ⟨rfl, rfl, by simp⟩ ?_
    rintro i _ _ next hi ⟨rfl, rfl, hp⟩ hn
    refine ⟨_, _, _, rfl, ?_⟩
    by_cases hlt : i < xs.length
    · obtain ⟨b, o, ha, hc⟩ := hs.at hlt
      refine bs_t (by simp [hs.len, hlt]) ?_
      simp only [vm, hs.len, ha, hc, W_succ (n := i) (by omega)]
      refine ⟨by omega, l10Literal_spec h0 h1 ⟨_, rfl, bsplit_of (fun he => ?_) (fun he => ?_)⟩⟩
      · rwa [all_false (xs := xs) hlt (by simpa using he)] at k
      · exact hn hlt _ _ ⟨rfl, rfl, by rw [all_step hlt, hp]; simpa using he⟩
    · have : i = xs.length := by omega
      subst this
      rw [List.take_length] at hp
      refine bs_f (by simp [hs.len]) ?_
      rwa [hp] at k

theorem spec_CnfOk_spec {h : Hp} {s : Sl} {xss : List (List Int)} {v : Int} {R : Value → Hp → Prop} (hs : IntSS h s xss)
    (k : R (.bool (CnfOkB v xss)) h) : c_spec_CnfOk #[.agg #[I v, s.v]] h R := by
  refine ACalls.drop (R_spec_CnfOk ?_)
  unfold F_spec_CnfOk
  intro b hb
  have l0 := le_row [I v, s.v] 2 hb
  simp only [vm, mm, joinP]
  refine l1In_spec ⟨_, rfl, ?_⟩
  by_cases hv : 1 ≤ v ∧ v ≤ 10
  rotate_left
  · refine bs_t (by simp; omega) ⟨_, l0, ?_⟩
    simpa [CnfOkB, hv] using k
  refine bs_f (by simp; omega) ?_
  simp only [vm, mm, hs.len]
  by_cases hc : xss.length ≤ 60
  rotate_left
  · refine bs_t (by simp; omega) ⟨_, l0, ?_⟩
    simpa [CnfOkB, hv, hc] using k
  refine bs_f (by simp; omega) ?_
  simp only [CnfOkB, hv, hc, and_self, decide_true, Bool.true_and] at k
  refine loop_up xss.length (fun i vs h' => vs = [.pointer (some ⟨b, 0, none⟩), I i] ∧ h' = h.row b [I v, s.v] 2 ∧ (xss.take i).all (ClauseOk v) = true) ⟨rfl, rfl, by simp⟩ ?_
  rintro i _ _ next hi ⟨rfl, rfl, hp⟩ hn
  refine ⟨_, _, _, rfl, ?_⟩
  simp only [vm, mm, hs.len]
  by_cases hlt : i < xss.length
  · obtain ⟨b', o, t, ha, hc', ht⟩ := (hs.mono l0).at hlt
    refine bs_t (by simp [hlt]) ?_
    simp only [vm, mm, ha, hc', W_succ (n := i) (by omega)]
    refine ⟨by omega, l10Clause_spec ht (by omega) (by omega) ⟨_, rfl, bsplit_of (fun he => ⟨_, l0, ?_⟩) (fun he => ?_)⟩⟩
    · rwa [all_false (xs := xss) hlt (by simpa using he)] at k
    · exact hn hlt _ _ ⟨rfl, rfl, by rw [all_step hlt, hp]; simpa using he⟩
  · have : i = xss.length := by omega
    subst this
    rw [List.take_length] at hp
    refine bs_f (by simp) ⟨_, l0, ?_⟩
    rwa [hp] at k

/-- The first place at which something holds, from a place on. -/
def idxI {α : Type} (p : α → Bool) (xs : List α) : Int := match xs.findIdx? p with | some i => i | none => -1
theorem idxI_none {α : Type} {p : α → Bool} {xs : List α} (e : xs.any p = false) : idxI p xs = -1 := by
  have : xs.findIdx? p = none := by
    rw [List.findIdx?_eq_none_iff]; intro x hx; rw [List.any_eq_false] at e; simpa using e x hx
  simp [idxI, this]
theorem idxI_some {α : Type} {p : α → Bool} {xs : List α} {i : Nat} (hi : i < xs.length) (e : (xs.take i).any p = false) (hp : p xs[i] = true) : idxI p xs = i := by
  have : xs.findIdx? p = some i := by
    rw [List.findIdx?_eq_some_iff_getElem]
    refine ⟨hi, hp, fun j hj => ?_⟩
    rw [List.any_eq_false] at e
    exact e _ (by rw [List.mem_take_iff_getElem]; exact ⟨j, by omega, rfl⟩)
  simp [idxI, this]
theorem idxI_ge {α : Type} (p : α → Bool) (xs : List α) : decide (idxI p xs ≥ 0) = xs.any p := by
  cases h : xs.any p with
  | false => rw [idxI_none h]; rfl
  | true =>
    unfold idxI
    cases h' : xs.findIdx? p with
    | some i => simp
    | none => rw [List.findIdx?_eq_none_iff] at h'; rw [List.any_eq_true] at h; obtain ⟨x, hx, hp⟩ := h; simp [h' x hx] at hp

theorem IndexFunc_int_spec {h : Hp} {s : Sl} {xs : List Int} {f : FuncId} {u w : Array Value} (p : Int → Bool) {R : Value → Hp → Prop} (hs : IntS h s xs)
    (hf : ∀ x ∈ xs, ∀ R : Value → Hp → Prop, R (.bool (p x)) h → ACalls PR f ((u ++ #[I x]) ++ w) h R)
    (k : R (I (idxI p xs)) h) : c_slices_IndexFunc_Sint_int #[s.v, .func (.func f) u w] h R := by
  apply R_slices_IndexFunc_Sint_int
  unfold F_slices_IndexFunc_Sint_int
  have hb := hs.bound
  refine loop_up xs.length (fun i vs h' => vs = [s.v, .func (.func f) u w, I xs.length, I i] ∧ h' = h ∧ (xs.take i).any p = false) ⟨by rw [hs.len]; rfl, rfl, by simp⟩ ?_
  rintro i _ _ next hi ⟨rfl, rfl, hp⟩ hn
  refine ⟨_, _, _, _, _, _, rfl, ?_⟩
  by_cases hlt : i < xs.length
  · obtain ⟨b, o, ha, hc⟩ := hs.at hlt
    refine bs_t (by simp [hlt]) ?_
    simp only [vm, hs.len, ha, hc, W_succ (n := i) (by omega)]
    refine ⟨by omega, hf _ (List.getElem_mem hlt) _ ⟨_, rfl, bsplit_of (fun he => ?_) (fun he => ?_)⟩⟩
    · rwa [idxI_some hlt hp he] at k
    · exact hn hlt _ _ ⟨rfl, rfl, by rw [any_step hlt, hp, he]; rfl⟩
  · have : i = xs.length := by omega
    subst this
    rw [List.take_length] at hp
    refine bs_f (by simp) ?_
    rwa [idxI_none hp] at k

theorem ContainsFunc_int_spec {h : Hp} {s : Sl} {xs : List Int} {f : FuncId} {u w : Array Value} (p : Int → Bool) {R : Value → Hp → Prop} (hs : IntS h s xs)
    (hf : ∀ x ∈ xs, ∀ R : Value → Hp → Prop, R (.bool (p x)) h → ACalls PR f ((u ++ #[I x]) ++ w) h R)
    (k : R (.bool (xs.any p)) h) : c_slices_ContainsFunc_Sint_int #[s.v, .func (.func f) u w] h R := by
  apply R_slices_ContainsFunc_Sint_int
  unfold F_slices_ContainsFunc_Sint_int
  exact IndexFunc_int_spec p hs hf ⟨_, rfl, by rwa [idxI_ge]⟩

theorem IndexFunc_ints_spec {h : Hp} {s : Sl} {xs : List (List Int)} {f : FuncId} {u w : Array Value} (p : List Int → Bool) {R : Value → Hp → Prop} (hs : IntSS h s xs)
    (hf : ∀ x ∈ xs, ∀ t, IntS h t x → ∀ R : Value → Hp → Prop, R (.bool (p x)) h → ACalls PR f ((u ++ #[Sl.v t]) ++ w) h R)
    (k : R (I (idxI p xs)) h) : c_slices_IndexFunc_SSint_Sint #[s.v, .func (.func f) u w] h R := by
  apply R_slices_IndexFunc_SSint_Sint
  unfold F_slices_IndexFunc_SSint_Sint
  have hb := hs.bound
  refine loop_up xs.length (fun i vs h' => vs = [s.v, .func (.func f) u w, I xs.length, I i] ∧ h' = h ∧ (xs.take i).any p = false) ⟨by rw [hs.len]; rfl, rfl, by simp⟩ ?_
  rintro i _ _ next hi ⟨rfl, rfl, hp⟩ hn
  refine ⟨_, _, _, _, _, _, rfl, ?_⟩
  by_cases hlt : i < xs.length
  · obtain ⟨b, o, t, ha, hc, ht⟩ := hs.at hlt
    refine bs_t (by simp [hlt]) ?_
    simp only [vm, hs.len, ha, hc, W_succ (n := i) (by omega)]
    refine ⟨by omega, hf _ (List.getElem_mem hlt) _ ht _ ⟨_, rfl, bsplit_of (fun he => ?_) (fun he => ?_)⟩⟩
    · rwa [idxI_some hlt hp he] at k
    · exact hn hlt _ _ ⟨rfl, rfl, by rw [any_step hlt, hp, he]; rfl⟩
  · have : i = xs.length := by omega
    subst this
    rw [List.take_length] at hp
    refine bs_f (by simp) ?_
    rwa [idxI_none hp] at k

theorem ContainsFunc_ints_spec {h : Hp} {s : Sl} {xs : List (List Int)} {f : FuncId} {u w : Array Value} (p : List Int → Bool) {R : Value → Hp → Prop} (hs : IntSS h s xs)
    (hf : ∀ x ∈ xs, ∀ t, IntS h t x → ∀ R : Value → Hp → Prop, R (.bool (p x)) h → ACalls PR f ((u ++ #[Sl.v t]) ++ w) h R)
    (k : R (.bool (xs.any p)) h) : c_slices_ContainsFunc_SSint_Sint #[s.v, .func (.func f) u w] h R := by
  apply R_slices_ContainsFunc_SSint_Sint
  unfold F_slices_ContainsFunc_SSint_Sint
  exact IndexFunc_ints_spec p hs hf ⟨_, rfl, by rwa [idxI_ge]⟩

theorem clauseOk_spec {h : Hp} {s : Sl} {xs : List Int} {v : Int} {R : Value → Hp → Prop} (hs : IntS h s xs) (h0 : 0 ≤ v) (h1 : v ≤ 10)
    (k : R (.bool (ClauseOk v xs)) h) : c_impl_clauseOk #[I v, s.v] h R := by
  refine ACalls.drop (R_impl_clauseOk ?_)
  unfold F_impl_clauseOk
  intro b hb
  have l0 := le_row [I v] 1 hb
  simp only [vm, mm, hs.len]
  refine bsplit_of (fun e => ?_) (fun e => ⟨_, l0, ?_⟩)
  rotate_left
  · simp at e; simpa [ClauseOk, show ¬ xs.length ≤ 10 by omega] using k
  have e' : xs.length ≤ 10 := by simp at e; omega
  refine ContainsFunc_int_spec (fun n => !LitOk v n) (hs.mono l0) ?_ ⟨_, rfl, _, l0, ?_⟩
  · intro x hx R k
    refine R_impl_clauseOk_d1 (b2 := b) (o3 := 0) ?_
    unfold F_impl_clauseOk_d1
    simp only [vm, mm]
    refine bsplit_of (fun e => ?_) (fun e => ?_)
    · simp at e; subst e; simpa [LitOk] using k
    · simp at e
      rw [W_id (by omega) (by omega), Int.zero_sub]
      refine in_spec ⟨_, rfl, ?_⟩
      simpa [LitOk, e] using k
  · have : (!xs.any fun n => !LitOk v n) = xs.all (LitOk v) := by rw [← List.all_eq_not_any_not]
    rw [this]
    simpa [ClauseOk, e'] using k

theorem impl_CnfOk_spec {h : Hp} {s : Sl} {xss : List (List Int)} {v : Int} {R : Value → Hp → Prop} (hs : IntSS h s xss)
    (k : R (.bool (CnfOkB v xss)) h) : c_impl_CnfOk #[.agg #[I v, s.v]] h R := by
  refine ACalls.drop (R_impl_CnfOk ?_)
  unfold F_impl_CnfOk
  intro b hb
  have l0 := le_row [I v, s.v] 2 hb
  simp only [vm, mm, hs.len]
  refine in_spec ⟨_, rfl, bsplit_of (fun hv => ?_) (fun hv => ⟨_, l0, ?_⟩)⟩
  rotate_left
  · simp at hv; simpa [CnfOkB, show ¬ (1 ≤ v ∧ v ≤ 10) by omega] using k
  have hv' : 1 ≤ v ∧ v ≤ 10 := by simpa using hv
  simp only [vm, mm, hs.len]
  refine bsplit_of (fun e => ?_) (fun e => ⟨_, l0, ?_⟩)
  rotate_left
  · simp at e; simpa [CnfOkB, show ¬ xss.length ≤ 60 by omega] using k
  have e' : xss.length ≤ 60 := by simp at e; omega
  refine ContainsFunc_ints_spec (fun l => !ClauseOk v l) (hs.mono l0) ?_ ⟨_, rfl, _, l0, ?_⟩
  · intro x hx t ht R k
    refine R_impl_CnfOk_d1 (b2 := b) (o3 := 0) ?_
    unfold F_impl_CnfOk_d1
    simp only [vm, mm]
    exact clauseOk_spec ht (by omega) (by omega) ⟨_, rfl, k⟩
  · have : (!xss.any fun n => !ClauseOk v n) = xss.all (ClauseOk v) := by rw [← List.all_eq_not_any_not]
    rw [this]
    simpa [CnfOkB, e', hv'] using k

end Go.Lead
