/- What the small helpers of the laws compute. -/
import Derived.Test.YthgleoodmgophaaP2
namespace Go.Lead
open Go
set_option linter.unusedSimpArgs false
set_option linter.unusedVariables false

theorem all_false {α : Type} {xs : List α} {p : α → Bool} {i : Nat} (hi : i < xs.length) (hp : p xs[i] = false) : xs.all p = false := by
  rw [List.all_eq_false]; exact ⟨_, List.getElem_mem hi, by simp [hp]⟩
theorem all_step {α : Type} {xs : List α} {p : α → Bool} {i : Nat} (hi : i < xs.length) : (xs.take (i + 1)).all p = ((xs.take i).all p && p xs[i]) := by
  rw [List.take_succ_eq_append_getElem hi, List.all_append]; simp
theorem any_true {α : Type} {xs : List α} {p : α → Bool} {i : Nat} (hi : i < xs.length) (hp : p xs[i] = true) : xs.any p = true := by
  rw [List.any_eq_true]; exact ⟨_, List.getElem_mem hi, hp⟩
theorem any_step {α : Type} {xs : List α} {p : α → Bool} {i : Nat} (hi : i < xs.length) : (xs.take (i + 1)).any p = ((xs.take i).any p || p xs[i]) := by
  rw [List.take_succ_eq_append_getElem hi, List.any_append]; simp

/-- A list of lists whose rows are all its own. -/
structure OwnSS (h : Hp) (t : Sl) (ts : List Sl) (xss : List (List Int)) : Prop where
  len : ts.length = xss.length
  outer : SlC (h.wo (ts.flatMap Sl.used)) t 1 (ts.map Sl.v)
  inner : ∀ (i : Nat) (h1 : i < ts.length) (h2 : i < xss.length), Own h ts[i] 1 (xss[i].map I)
theorem OwnSS.ints {h : Hp} {t : Sl} {ts : List Sl} {xss : List (List Int)} (e : OwnSS h t ts xss) : IntSS h t xss :=
  ⟨ts, e.len, e.outer.mono (wo_le _ _), fun i h1 h2 => (e.inner i h1 h2).slc⟩
theorem OwnSS.mono {h h' : Hp} {t : Sl} {ts : List Sl} {xss : List (List Int)} (l : h.le h') (e : OwnSS h t ts xss) : OwnSS h' t ts xss :=
  ⟨e.len, e.outer.mono (le_wo (Hp.le_trans (wo_le _ _) l) fun b hb => wo_none hb), fun i h1 h2 => (e.inner i h1 h2).mono l⟩
theorem OwnSS.used {h : Hp} {t : Sl} {ts : List Sl} {xss : List (List Int)} (e : OwnSS h t ts xss) : ∀ b ∈ ts.flatMap Sl.used, h b ≠ none := by
  intro b hb
  obtain ⟨u, hu, hbu⟩ := List.mem_flatMap.1 hb
  obtain ⟨i, hi, rfl⟩ := List.getElem_of_mem hu
  exact (e.inner i hi (by rw [← e.len]; exact hi)).used b hbu

theorem l1In_spec {h : Hp} {x a b : Int} {R : Value → Hp → Prop} (k : R (.bool (decide (a ≤ x ∧ x ≤ b))) h) : c_spec_l1In #[I x, I a, I b] h R := by
  apply R_spec_l1In
  unfold F_spec_l1In
  refine bsplit_of (fun e => ?_) (fun e => ?_)
  · simp at e; simpa [e] using k
  · simp at e; rwa [decide_eq_false (by omega)] at k
theorem in_spec {h : Hp} {x a b : Int} {R : Value → Hp → Prop} (k : R (.bool (decide (a ≤ x ∧ x ≤ b))) h) : c_impl_in #[I x, I a, I b] h R := by
  apply R_impl_in
  unfold F_impl_in
  refine bsplit_of (fun e => ?_) (fun e => ?_)
  · simp at e; simpa [e] using k
  · simp at e; rwa [decide_eq_false (by omega)] at k

/-- A literal of so many variables. -/
def LitOk (vars n : Int) : Bool := decide (n ≠ 0 ∧ -vars ≤ n ∧ n ≤ vars)
def ClauseOk (vars : Int) (l : List Int) : Bool := decide (l.length ≤ 10) && l.all (LitOk vars)
def CnfOkB (vars : Int) (c : List (List Int)) : Bool := decide (1 ≤ vars ∧ vars ≤ 10) && (decide (c.length ≤ 60) && c.all (ClauseOk vars))

theorem l10Literal_spec {h : Hp} {n v : Int} {R : Value → Hp → Prop} (h0 : 0 ≤ v) (h1 : v ≤ 10) (k : R (.bool (LitOk v n)) h) : c_spec_l10Literal #[I n, I v] h R := by
  apply R_spec_l10Literal
  unfold F_spec_l10Literal
  refine bsplit_of (fun e => ?_) (fun e => ?_)
  · simp at e
    rw [W_id (by omega) (by omega), Int.zero_sub]
    refine l1In_spec ⟨_, rfl, ?_⟩
    simpa [LitOk, e] using k
  · simp at e; subst e; simpa [LitOk] using k

theorem l10Clause_spec {h : Hp} {s : Sl} {xs : List Int} {v : Int} {R : Value → Hp → Prop} (hs : IntS h s xs) (h0 : 0 ≤ v) (h1 : v ≤ 10)
    (k : R (.bool (ClauseOk v xs)) h) : c_spec_l10Clause #[s.v, I v] h R := by
  apply R_spec_l10Clause
  unfold F_spec_l10Clause
  refine bsplit_of (fun e => ?_) (fun e => ?_)
  · simp [hs.len] at e; simpa [ClauseOk, e, show ¬ xs.length ≤ 10 by omega] using k
  · simp [hs.len] at e
    have hx : xs.length ≤ 10 := by omega
    simp only [ClauseOk, hx, decide_true, Bool.true_and] at k
    refine loop_up xs.length (fun i vs h' => vs = [s.v, I v, I i] ∧ h' = h ∧ (xs.take i).all (LitOk v) = true) ⟨rfl, rfl, by simp⟩ ?_
    rintro i _ _ next hi ⟨rfl, rfl, hp⟩ hn
    refine ⟨_, _, _, rfl, ?_⟩
    by_cases hlt : i < xs.length
    · obtain ⟨b, o, ha, hc⟩ := hs.at hlt
      refine bs_t (by simp [hs.len, hlt]) ?_
      simp only [vm, hs.len, ha, hc, W_succ (n := i) (by omega)]
      refine ⟨by omega, l10Literal_spec h0 h1 ⟨_, rfl, bsplit_of (fun he => ?_) (fun he => ?_)⟩⟩
      · rwa [all_false (xs := xs) hlt (by simpa using he)] at k
      · exact hn hlt _ _ ⟨rfl, rfl, by rw [all_step hlt, hp]; simpa using he⟩
    · have : i = xs.length := by omega
      subst this
      rw [List.take_length] at hp
      refine bs_f (by simp [hs.len]) ?_
      rwa [hp] at k

theorem spec_CnfOk_spec {h : Hp} {s : Sl} {xss : List (List Int)} {v : Int} {R : Value → Hp → Prop} (hs : IntSS h s xss)
    (k : R (.bool (CnfOkB v xss)) h) : c_spec_CnfOk #[.agg #[I v, s.v]] h R := by
  refine ACalls.drop (R_spec_CnfOk ?_)
  unfold F_spec_CnfOk
  intro b hb
  have l0 := le_row [I v, s.v] 2 hb
  simp only [vm, mm, joinP]
  refine l1In_spec ⟨_, rfl, ?_⟩
  by_cases hv : 1 ≤ v ∧ v ≤ 10
  rotate_left
  · refine bs_t (by simp; omega) ⟨_, l0, ?_⟩
    simpa [CnfOkB, hv] using k
  refine bs_f (by simp; omega) ?_
  simp only [vm, mm, hs.len]
  by_cases hc : xss.length ≤ 60
  rotate_left
  · refine bs_t (by simp; omega) ⟨_, l0, ?_⟩
    simpa [CnfOkB, hv, hc] using k
  refine bs_f (by simp; omega) ?_
  simp only [CnfOkB, hv, hc, and_self, decide_true, Bool.true_and] at k
  refine loop_up xss.length (fun i vs h' => vs = [.pointer (some ⟨b, 0, none⟩), I i] ∧ h' = h.row b [I v, s.v] 2 ∧ (xss.take i).all (ClauseOk v) = true) ⟨rfl, rfl, by simp⟩ ?_
  rintro i _ _ next hi ⟨rfl, rfl, hp⟩ hn
  refine ⟨_, _, _, rfl, ?_⟩
  simp only [vm, mm, hs.len]
  by_cases hlt : i < xss.length
  · obtain ⟨b', o, t, ha, hc', ht⟩ := (hs.mono l0).at hlt
    refine bs_t (by simp [hlt]) ?_
    simp only [vm, mm, ha, hc', W_succ (n := i) (by omega)]
    refine ⟨by omega, l10Clause_spec ht (by omega) (by omega) ⟨_, rfl, bsplit_of (fun he => ⟨_, l0, ?_⟩) (fun he => ?_)⟩⟩
    · rwa [all_false (xs := xss) hlt (by simpa using he)] at k
    · exact hn hlt _ _ ⟨rfl, rfl, by rw [all_step hlt, hp]; simpa using he⟩
  · have : i = xss.length := by omega
    subst this
    rw [List.take_length] at hp
    refine bs_f (by simp) ⟨_, l0, ?_⟩
    rwa [hp] at k

/-- The first place at which something holds, from a place on. -/
def idxI {α : Type} (p : α → Bool) (xs : List α) : Int := match xs.findIdx? p with | some i => i | none => -1
theorem idxI_none {α : Type} {p : α → Bool} {xs : List α} (e : xs.any p = false) : idxI p xs = -1 := by
  have : xs.findIdx? p = none := by
    rw [List.findIdx?_eq_none_iff]; intro x hx; rw [List.any_eq_false] at e; simpa using e x hx
  simp [idxI, this]
theorem idxI_some {α : Type} {p : α → Bool} {xs : List α} {i : Nat} (hi : i < xs.length) (e : (xs.take i).any p = false) (hp : p xs[i] = true) : idxI p xs = i := by
  have : xs.findIdx? p = some i := by
    rw [List.findIdx?_eq_some_iff_getElem]
    refine ⟨hi, hp, fun j hj => ?_⟩
    rw [List.any_eq_false] at e
    exact e _ (by rw [List.mem_take_iff_getElem]; exact ⟨j, by omega, rfl⟩)
  simp [idxI, this]
theorem idxI_ge {α : Type} (p : α → Bool) (xs : List α) : decide (idxI p xs ≥ 0) = xs.any p := by
  cases h : xs.any p with
  | false => rw [idxI_none h]; rfl
  | true =>
    unfold idxI
    cases h' : xs.findIdx? p with
    | some i => simp
    | none => rw [List.findIdx?_eq_none_iff] at h'; rw [List.any_eq_true] at h; obtain ⟨x, hx, hp⟩ := h; simp [h' x hx] at hp

theorem IndexFunc_int_spec {h : Hp} {s : Sl} {xs : List Int} {f : FuncId} {u w : Array Value} (p : Int → Bool) {R : Value → Hp → Prop} (hs : IntS h s xs)
    (hf : ∀ x ∈ xs, ∀ R : Value → Hp → Prop, R (.bool (p x)) h → ACalls PR f ((u ++ #[I x]) ++ w) h R)
    (k : R (I (idxI p xs)) h) : c_slices_IndexFunc_Sint_int #[s.v, .func (.func f) u w] h R := by
  apply R_slices_IndexFunc_Sint_int
  unfold F_slices_IndexFunc_Sint_int
  have hb := hs.bound
  refine loop_up xs.length (fun i vs h' => vs = [s.v, .func (.func f) u w, I xs.length, I i] ∧ h' = h ∧ (xs.take i).any p = false) ⟨by rw [hs.len]; rfl, rfl, by simp⟩ ?_
  rintro i _ _ next hi ⟨rfl, rfl, hp⟩ hn
  refine ⟨_, _, _, _, _, _, rfl, ?_⟩
  by_cases hlt : i < xs.length
  · obtain ⟨b, o, ha, hc⟩ := hs.at hlt
    refine bs_t (by simp [hlt]) ?_
    simp only [vm, hs.len, ha, hc, W_succ (n := i) (by omega)]
    refine ⟨by omega, hf _ (List.getElem_mem hlt) _ ⟨_, rfl, bsplit_of (fun he => ?_) (fun he => ?_)⟩⟩
    · rwa [idxI_some hlt hp he] at k
    · exact hn hlt _ _ ⟨rfl, rfl, by rw [any_step hlt, hp, he]; rfl⟩
  · have : i = xs.length := by omega
    subst this
    rw [List.take_length] at hp
    refine bs_f (by simp) ?_
    rwa [idxI_none hp] at k

theorem ContainsFunc_int_spec {h : Hp} {s : Sl} {xs : List Int} {f : FuncId} {u w : Array Value} (p : Int → Bool) {R : Value → Hp → Prop} (hs : IntS h s xs)
    (hf : ∀ x ∈ xs, ∀ R : Value → Hp → Prop, R (.bool (p x)) h → ACalls PR f ((u ++ #[I x]) ++ w) h R)
    (k : R (.bool (xs.any p)) h) : c_slices_ContainsFunc_Sint_int #[s.v, .func (.func f) u w] h R := by
  apply R_slices_ContainsFunc_Sint_int
  unfold F_slices_ContainsFunc_Sint_int
  exact IndexFunc_int_spec p hs hf ⟨_, rfl, by rwa [idxI_ge]⟩

theorem IndexFunc_ints_spec {h : Hp} {s : Sl} {xs : List (List Int)} {f : FuncId} {u w : Array Value} (p : List Int → Bool) {R : Value → Hp → Prop} (hs : IntSS h s xs)
    (hf : ∀ x ∈ xs, ∀ t, IntS h t x → ∀ R : Value → Hp → Prop, R (.bool (p x)) h → ACalls PR f ((u ++ #[Sl.v t]) ++ w) h R)
    (k : R (I (idxI p xs)) h) : c_slices_IndexFunc_SSint_Sint #[s.v, .func (.func f) u w] h R := by
  apply R_slices_IndexFunc_SSint_Sint
  unfold F_slices_IndexFunc_SSint_Sint
  have hb := hs.bound
  refine loop_up xs.length (fun i vs h' => vs = [s.v, .func (.func f) u w, I xs.length, I i] ∧ h' = h ∧ (xs.take i).any p = false) ⟨by rw [hs.len]; rfl, rfl, by simp⟩ ?_
  rintro i _ _ next hi ⟨rfl, rfl, hp⟩ hn
  refine ⟨_, _, _, _, _, _, rfl, ?_⟩
  by_cases hlt : i < xs.length
  · obtain ⟨b, o, t, ha, hc, ht⟩ := hs.at hlt
    refine bs_t (by simp [hlt]) ?_
    simp only [vm, hs.len, ha, hc, W_succ (n := i) (by omega)]
    refine ⟨by omega, hf _ (List.getElem_mem hlt) _ ht _ ⟨_, rfl, bsplit_of (fun he => ?_) (fun he => ?_)⟩⟩
    · rwa [idxI_some hlt hp he] at k
    · exact hn hlt _ _ ⟨rfl, rfl, by rw [any_step hlt, hp, he]; rfl⟩
  · have : i = xs.length := by omega
    subst this
    rw [List.take_length] at hp
    refine bs_f (by simp) ?_
    rwa [idxI_none hp] at k

theorem ContainsFunc_ints_spec {h : Hp} {s : Sl} {xs : List (List Int)} {f : FuncId} {u w : Array Value} (p : List Int → Bool) {R : Value → Hp → Prop} (hs : IntSS h s xs)
    (hf : ∀ x ∈ xs, ∀ t, IntS h t x → ∀ R : Value → Hp → Prop, R (.bool (p x)) h → ACalls PR f ((u ++ #[Sl.v t]) ++ w) h R)
    (k : R (.bool (xs.any p)) h) : c_slices_ContainsFunc_SSint_Sint #[s.v, .func (.func f) u w] h R := by
  apply R_slices_ContainsFunc_SSint_Sint
  unfold F_slices_ContainsFunc_SSint_Sint
  exact IndexFunc_ints_spec p hs hf ⟨_, rfl, by rwa [idxI_ge]⟩

theorem clauseOk_spec {h : Hp} {s : Sl} {xs : List Int} {v : Int} {R : Value → Hp → Prop} (hs : IntS h s xs) (h0 : 0 ≤ v) (h1 : v ≤ 10)
    (k : R (.bool (ClauseOk v xs)) h) : c_impl_clauseOk #[I v, s.v] h R := by
  refine ACalls.drop (R_impl_clauseOk ?_)
  unfold F_impl_clauseOk
  intro b hb
  have l0 := le_row [I v] 1 hb
  simp only [vm, mm, hs.len]
  refine bsplit_of (fun e => ?_) (fun e => ⟨_, l0, ?_⟩)
  rotate_left
  · simp at e; simpa [ClauseOk, show ¬ xs.length ≤ 10 by omega] using k
  have e' : xs.length ≤ 10 := by simp at e; omega
  refine ContainsFunc_int_spec (fun n => !LitOk v n) (hs.mono l0) ?_ ⟨_, rfl, _, l0, ?_⟩
  · intro x hx R k
    refine R_impl_clauseOk_d1 (b2 := b) (o3 := 0) ?_
    unfold F_impl_clauseOk_d1
    simp only [vm, mm]
    refine bsplit_of (fun e => ?_) (fun e => ?_)
    · simp at e; subst e; simpa [LitOk] using k
    · simp at e
      rw [W_id (by omega) (by omega), Int.zero_sub]
      refine in_spec ⟨_, rfl, ?_⟩
      simpa [LitOk, e] using k
  · have : (!xs.any fun n => !LitOk v n) = xs.all (LitOk v) := by rw [← List.all_eq_not_any_not]
    rw [this]
    simpa [ClauseOk, e'] using k

theorem impl_CnfOk_spec {h : Hp} {s : Sl} {xss : List (List Int)} {v : Int} {R : Value → Hp → Prop} (hs : IntSS h s xss)
    (k : R (.bool (CnfOkB v xss)) h) : c_impl_CnfOk #[.agg #[I v, s.v]] h R := by
  refine ACalls.drop (R_impl_CnfOk ?_)
  unfold F_impl_CnfOk
  intro b hb
  have l0 := le_row [I v, s.v] 2 hb
  simp only [vm, mm, hs.len]
  refine in_spec ⟨_, rfl, bsplit_of (fun hv => ?_) (fun hv => ⟨_, l0, ?_⟩)⟩
  rotate_left
  · simp at hv; simpa [CnfOkB, show ¬ (1 ≤ v ∧ v ≤ 10) by omega] using k
  have hv' : 1 ≤ v ∧ v ≤ 10 := by simpa using hv
  simp only [vm, mm, hs.len]
  refine bsplit_of (fun e => ?_) (fun e => ⟨_, l0, ?_⟩)
  rotate_left
  · simp at e; simpa [CnfOkB, show ¬ xss.length ≤ 60 by omega] using k
  have e' : xss.length ≤ 60 := by simp at e; omega
  refine ContainsFunc_ints_spec (fun l => !ClauseOk v l) (hs.mono l0) ?_ ⟨_, rfl, _, l0, ?_⟩
  · intro x hx t ht R k
    refine R_impl_CnfOk_d1 (b2 := b) (o3 := 0) ?_
    unfold F_impl_CnfOk_d1
    simp only [vm, mm]
    exact clauseOk_spec ht (by omega) (by omega) ⟨_, rfl, k⟩
  · have : (!xss.any fun n => !ClauseOk v n) = xss.all (ClauseOk v) := by rw [← List.all_eq_not_any_not]
    rw [this]
    simpa [CnfOkB, e', hv'] using k

end Go.Lead
