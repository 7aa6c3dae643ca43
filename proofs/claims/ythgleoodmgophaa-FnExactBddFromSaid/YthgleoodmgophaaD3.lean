/- What both sides' sets of lists compute. -/
import Derived.Test.YthgleoodmgophaaD2
namespace Go.Lead
open Go
set_option linter.unusedSimpArgs false
set_option linter.unusedVariables false

/-- A number below a bound. -/
def codeB (n : Nat) (x : Int) : Bool := decide (0 ≤ x ∧ x ≤ ((2 ^ n : Nat) : Int) - 1)
def fromOk (v : Int) (codes : List Int) : Bool := (decide (0 ≤ v ∧ v ≤ 13) && decide (codes.length ≤ 256)) && codes.all (codeB v.toNat)
def bddFrom (v : Int) (codes : List Int) : Bd := if fromOk v codes then toldP v (fun i => codes.contains (i : Int)) else noBd
theorem bddFrom_len (v : Int) (codes : List Int) : (bddFrom v codes).ns.length ≤ 600 := by
  unfold bddFrom; split
  · exact toldP_len _ _
  · simp [noBd]

theorem below_spec {h : Hp} {s : Sl} {xs : List Int} {n : Nat} {R : Value → Hp → Prop} (hs : IntS h s xs) (hn : n ≤ 62)
    (k : R (.bool (xs.all (codeB n))) h) : c_impl_below #[s.v, I n] h R := by
  apply R_impl_below
  unfold F_impl_below
  have h2 := two_pow_le (n := n) (by omega)
  have h0 : (0 : Int) < ((2 ^ n : Nat) : Int) := Int.ofNat_lt.2 (Nat.pow_pos (by omega))
  have hb := hs.bound
  refine loop_up xs.length (fun i vs h' => vs = [I n, s.v, I xs.length, I i] ∧ h' = h ∧ (xs.take i).all (codeB n) = true) ⟨by rw [hs.len]; rfl, rfl, by simp⟩ ?_
  rintro i _ _ next hi ⟨rfl, rfl, hp⟩ hnx
  refine ⟨_, _, _, _, rfl, ?_⟩
  by_cases hlt : i < xs.length
  · obtain ⟨b, o, ha, hc⟩ := hs.at hlt
    refine bs_t (by simp [hlt]) ?_
    simp only [vm, hs.len, ha, hc, W_succ (n := i) (by omega)]
    refine ⟨by omega, ?_⟩
    rw [if_neg (by omega), shlW_one (by omega), W_id (by omega) (by omega)]
    refine in_spec ⟨_, rfl, bsplit_of (fun he => ?_) (fun he => ?_)⟩
    · rwa [all_false (xs := xs) hlt (by unfold codeB; rw [← Bool.not_eq_true']; exact he)] at k
    · exact hnx hlt _ _ ⟨rfl, rfl, by rw [all_step hlt, hp]; unfold codeB; simpa using he⟩
  · have : i = xs.length := by omega
    subst this
    rw [List.take_length] at hp
    refine bs_f (by simp) ?_
    rwa [hp] at k

theorem take_has {codes : List Int} {i : Nat} (hi : i < codes.length) (j : Nat) : (codes.take (i + 1)).contains (j : Int) = ((codes.take i).contains (j : Int) || decide (codes[i] = (j : Int))) := by
  rw [List.take_succ_eq_append_getElem hi, Bool.eq_iff_iff]
  simp only [List.contains_iff_mem, List.mem_append, List.mem_singleton, Bool.or_eq_true, decide_eq_true_eq]
  constructor
  · rintro (h | h)
    · exact .inl h
    · exact .inr h.symm
  · rintro (h | h)
    · exact .inl h
    · exact .inr h.symm

theorem spec_BddFrom_spec {h : Hp} {s : Sl} {codes : List Int} {v : Int} {R : Value → Hp → Prop} (hs : IntS h s codes)
    (k : ∀ t h', h.le h' → Own (h'.sub h) t 3 (ndCells (bddFrom v codes).ns) → R (.tuple #[.agg #[I (bddFrom v codes).v, Sl.v t, I (bddFrom v codes).r], .bool (bddFrom v codes).ok]) h') : c_spec_BddFrom #[I v, s.v] h R := by
  apply R_spec_BddFrom
  unfold F_spec_BddFrom
  intro b4 hb4
  have l0 := le_row [I 0, .slice none 0 0, I 0] 3 hb4
  have f4 := row_self h b4 [I 0, .slice none 0 0, I 0] 3
  have hsn := hs.len
  simp only [vm, mm]
  have hno : fromOk v codes = false → ∀ h', h.le h' → R (.tuple #[.agg #[I 0, .slice none 0 0, I 0], .bool false]) (h'.row b4 [I 0, .slice none 0 0, I 0] 3) := by
    intro e h' l
    rw [bddFrom, e, if_neg (by simp)] at k
    exact k ⟨none, 0, 0⟩ _ (le_row_of _ _ hb4 l) (own_nil _ _)
  refine joinP_of (fun J => J (!(decide (0 ≤ v ∧ v ≤ 13) && decide (codes.length ≤ 256))) (h.row b4 [I 0, .slice none 0 0, I 0] 3)) ?_ ?_
  rotate_left
  · intro J hJ
    refine l7Vars_spec ⟨_, rfl, bsplit_of (fun e => ?_) (fun e => ?_)⟩
    · have e' : decide (0 ≤ v ∧ v ≤ 13) = false := by rw [← Bool.not_eq_true']; exact e
      rw [e', Bool.false_and] at hJ
      exact hJ
    · have e' : decide (0 ≤ v ∧ v ≤ 13) = true := by simpa using e
      rw [e', Bool.true_and] at hJ
      have : decide ((s.n : Int) > 256) = !decide (codes.length ≤ 256) := by
        rw [Bool.eq_iff_iff]; simp; omega
      rw [this]; exact hJ
  refine bsplit_of (fun e => ?_) (fun e => ?_)
  · have e' : (decide (0 ≤ v ∧ v ≤ 13) && decide (codes.length ≤ 256)) = false := by rw [← Bool.not_eq_true']; exact e
    have := hno (by rw [fromOk, e']; rfl) h (Hp.le_refl _)
    simp only [vm, mm]
    exact ⟨by omega, this⟩
  have e' : (decide (0 ≤ v ∧ v ≤ 13) && decide (codes.length ≤ 256)) = true := by simpa using e
  have hv : 0 ≤ v ∧ v ≤ 13 := by simp at e'; omega
  have hcl : codes.length ≤ 256 := by simp at e'; omega
  rw [bddFrom, fromOk, e', Bool.true_and] at k
  rw [fromOk, e', Bool.true_and] at hno
  obtain ⟨m, rfl⟩ : ∃ m : Nat, v = m := ⟨v.toNat, by omega⟩
  simp only [Int.toNat_natCast] at k hno
  have h2 : 2 ^ m ≤ 8192 := by
    have := Nat.pow_le_pow_right (n := 2) (by omega) (show m ≤ 13 by omega)
    simpa using this
  have hpos : (0 : Int) < ((2 ^ m : Nat) : Int) := Int.ofNat_lt.2 (Nat.pow_pos (by omega))
  rw [Wu_nat (by omega), if_neg (by omega), shlW_one (by omega)]
  simp only [vm, mm, zeroRow_one]
  refine ⟨by omega, by omega, by omega, ?_⟩
  intro b9 hb9'
  have hb9 : (h.row b4 [I 0, .slice none 0 0, I 0] 3) b9 = none := by rw [row_none]; exact hb9'
  generalize hH : h.row b4 [I 0, .slice none 0 0, I 0] 3 = H at *
  have n49 := fresh_ne hb9 f4
  have n94 := n49.symm
  have l9 := fun cs => le_row cs (2 ^ m) hb9
  have hst : (List.replicate (2 ^ m) (Value.bool false)) = bcells (2 ^ m) fun j => (codes.take 0).contains (j : Int) := by
    apply List.ext_getElem
    · simp [bcells]
    · intro i h1 h2; simp [bcells]
  rw [hst]
  refine loop_up codes.length (fun i vs h' => vs = [I m, s.v, .pointer (some ⟨b4, 0, none⟩), Sl.v ⟨some ⟨b9, 0, none⟩, 2 ^ m, 2 ^ m⟩, I i] ∧ h' = H.row b9 (bcells (2 ^ m) fun j => (codes.take i).contains (j : Int)) (2 ^ m) ∧ (codes.take i).all (codeB m) = true)
    ⟨rfl, rfl, by simp⟩ ?_
  rintro i _ _ next hi ⟨rfl, rfl, hp⟩ hn
  refine ⟨_, _, _, _, _, _, rfl, ?_⟩
  by_cases hlt : i < codes.length
  · obtain ⟨b, o, ha, hc⟩ := ((hs.mono l0).mono (l9 (bcells (2 ^ m) fun j => (codes.take i).contains (j : Int)))).at hlt
    refine bs_t (by simp [hsn, hlt]) ?_
    simp only [vm, mm, n49, n94, ne_eq, not_false_eq_true, hsn, ha, hc, W_succ (n := i) (by omega), f4]
    rw [W_id (n := ((2 ^ m : Nat) : Int) - 1) (by omega) (by omega)]
    refine ⟨by omega, l1In_spec ⟨_, rfl, bsplit_of (fun he => ?_) (fun he => ?_)⟩⟩
    · have hf : codes.all (codeB m) = false := all_false hlt (by unfold codeB; rw [← Bool.not_eq_true']; exact he)
      simp only [vm, mm, n49, n94, ne_eq, not_false_eq_true, f4]
      refine ⟨by omega, ?_⟩
      exact hno hf _ (Hp.le_trans l0 (l9 _))
    · have hx : 0 ≤ codes[i] ∧ codes[i] ≤ ((2 ^ m : Nat) : Int) - 1 := by simpa using he
      obtain ⟨c, hcc⟩ : ∃ c : Nat, codes[i] = c := ⟨codes[i].toNat, by omega⟩
      simp only [vm, mm, n49, n94, ne_eq, not_false_eq_true, hc, hcc, bcells_set, bcells_len]
      refine ⟨by omega, by omega, by omega, ?_⟩
      refine hn hlt _ _ ⟨rfl, ?_, by rw [all_step hlt, hp]; unfold codeB; simpa using hx⟩
      congr 1
      apply bcells_ext
      intro j hj
      rw [take_has hlt, hcc]
      by_cases h : j = c
      · subst h; simp
      · simp [h, show ¬ c = j from fun e => h e.symm]
        omega
  · have : i = codes.length := by omega
    subst this
    rw [List.take_length] at hp
    refine bs_f (by simp [hsn]) ?_
    rw [if_pos hp] at k
    rw [List.take_length]
    have hB : BoolT (H.row b9 (bcells (2 ^ m) fun j => codes.contains (j : Int)) (2 ^ m)) ⟨some ⟨b9, 0, none⟩, 2 ^ m, 2 ^ m⟩ (2 ^ m) (fun j => codes.contains (j : Int)) :=
      ⟨by show 2 ^ m ≤ _; omega, by simp, .inr ⟨b9, 0, rfl, cellsAre_of (row_self ..)⟩⟩
    refine l7Of_spec (by omega) hB fun t h3 l3 o3 => ⟨_, _, _, _, rfl, ?_⟩
    have f43 := l3 _ _ ((row_ne _ _ n49).trans f4)
    have l03 := Hp.le_trans l0 (l9 (bcells (2 ^ m) fun j => codes.contains (j : Int)))
    simp only [vm, mm, f43]
    exact ⟨by omega, k t _ (le_row_of _ _ hb4 (Hp.le_trans l03 l3)) (o3.mono (keep_row _ _ (sub_none ((row_ne _ _ n49).trans f4)) (sub_anti _ l03)))⟩

theorem tabCells_set (n c : Nat) (f : Nat → Bool) : (tabCells n f).set c (.int .u8 1) = tabCells n fun j => if j = c then true else f j := by
  apply List.ext_getElem
  · simp [tabCells]
  · intro j h1 h2
    rw [List.getElem_set]
    split
    · rename_i h; subst h; simp [tabCells]
    · rename_i h; simp [tabCells, show ¬ j = c from fun e => h e.symm]
theorem tabCells_ext {n : Nat} {f g : Nat → Bool} (h : ∀ j, j < 2 ^ n → f j = g j) : tabCells n f = tabCells n g := by
  unfold tabCells
  exact List.map_congr_left fun j hj => by rw [h j (by simpa using hj)]

theorem impl_BddFrom_spec {h : Hp} {s : Sl} {codes : List Int} {v : Int} {R : Value → Hp → Prop} (hs : IntS h s codes)
    (k : ∀ t h', h.le h' → Own (h'.sub h) t 3 (ndCells (bddFrom v codes).ns) → R (.tuple #[.agg #[I (bddFrom v codes).v, Sl.v t, I (bddFrom v codes).r], .bool (bddFrom v codes).ok]) h') : c_impl_BddFrom #[I v, s.v] h R := by
  apply R_impl_BddFrom
  unfold F_impl_BddFrom
  intro b4 hb4
  have l0 := le_row [I 0, .slice none 0 0, I 0] 3 hb4
  have f4 := row_self h b4 [I 0, .slice none 0 0, I 0] 3
  have hsn := hs.len
  simp only [vm, mm]
  refine joinP_of (fun J => J (!fromOk v codes) (h.row b4 [I 0, .slice none 0 0, I 0] 3)) ?_ ?_
  rotate_left
  · intro J hJ
    refine isVars_spec ⟨_, rfl, bsplit_of (fun e => ?_) (fun e => ?_)⟩
    · have e' : decide (0 ≤ v ∧ v ≤ 13) = false := by rw [← Bool.not_eq_true']; exact e
      rw [fromOk, e', Bool.false_and, Bool.false_and] at hJ
      exact hJ
    · have e' : decide (0 ≤ v ∧ v ≤ 13) = true := by simpa using e
      rw [fromOk, e', Bool.true_and] at hJ
      have hv : 0 ≤ v ∧ v ≤ 13 := by simpa using e'
      refine bsplit_of (fun e2 => ?_) (fun e2 => ?_)
      · have e2' : decide (codes.length ≤ 256) = false := by simp at e2 ⊢; omega
        rw [e2', Bool.false_and] at hJ; exact hJ
      · have e2' : decide (codes.length ≤ 256) = true := by simp at e2 ⊢; omega
        rw [e2', Bool.true_and] at hJ
        obtain ⟨m, rfl⟩ : ∃ m : Nat, v = m := ⟨v.toNat, by omega⟩
        exact below_spec (hs.mono l0) (by omega) ⟨_, rfl, hJ⟩
  refine bsplit_of (fun e => ?_) (fun e => ?_)
  · have e' : fromOk v codes = false := by simpa using e
    rw [bddFrom, e', if_neg (by simp)] at k
    simp only [vm, mm]
    exact ⟨by omega, k ⟨none, 0, 0⟩ _ (le_row_of _ _ hb4 (Hp.le_refl _)) (own_nil _ _)⟩
  have e' : fromOk v codes = true := by simpa using e
  rw [bddFrom, e', if_pos rfl] at k
  simp only [fromOk, Bool.and_eq_true, decide_eq_true_eq, List.all_eq_true] at e'
  obtain ⟨⟨hv, hcl⟩, hall⟩ := e'
  obtain ⟨m, rfl⟩ : ∃ m : Nat, v = m := ⟨v.toNat, by omega⟩
  simp only [Int.toNat_natCast] at hall
  have h2 : 2 ^ m ≤ 8192 := by
    have := Nat.pow_le_pow_right (n := 2) (by omega) (show m ≤ 13 by omega)
    simpa using this
  have hpos : (0 : Int) < ((2 ^ m : Nat) : Int) := Int.ofNat_lt.2 (Nat.pow_pos (by omega))
  rw [if_neg (by omega), shlW_one (by omega)]
  simp only [vm, mm, zeroRow_one]
  refine ⟨by omega, by omega, by omega, ?_⟩
  intro b9 hb9'
  have hb9 : (h.row b4 [I 0, .slice none 0 0, I 0] 3) b9 = none := by rw [row_none]; exact hb9'
  generalize hH : h.row b4 [I 0, .slice none 0 0, I 0] 3 = H at *
  have n49 := fresh_ne hb9 f4
  have l9 := fun cs => le_row cs (2 ^ m) hb9
  have hst : (List.replicate (2 ^ m) (Value.int .u8 0)) = tabCells m fun j => (codes.take 0).contains (j : Int) := by
    apply List.ext_getElem
    · simp [tabCells]
    · intro i h1 h2; simp [tabCells]
  rw [hst]
  refine loop_up codes.length (fun i vs h' => vs = [.pointer (some ⟨b4, 0, none⟩), Sl.v ⟨some ⟨b9, 0, none⟩, 2 ^ m, 2 ^ m⟩, s.v, I codes.length, I i] ∧ h' = H.row b9 (tabCells m fun j => (codes.take i).contains (j : Int)) (2 ^ m))
    ⟨by rw [hsn]; rfl, rfl⟩ ?_
  rintro i _ _ next hi ⟨rfl, rfl⟩ hn
  refine ⟨_, _, _, _, _, _, rfl, ?_⟩
  by_cases hlt : i < codes.length
  · obtain ⟨b, o, ha, hc⟩ := ((hs.mono l0).mono (l9 (tabCells m fun j => (codes.take i).contains (j : Int)))).at hlt
    have hx : 0 ≤ codes[i] ∧ codes[i] ≤ ((2 ^ m : Nat) : Int) - 1 := by have := hall _ (List.getElem_mem hlt); simpa [codeB] using this
    obtain ⟨c, hcc⟩ : ∃ c : Nat, codes[i] = c := ⟨codes[i].toNat, by omega⟩
    refine bs_t (by simp [hlt]) ?_
    simp only [vm, mm, hsn, ha, hc, W_succ (n := i) (by omega), hcc, tabCells_set, tab_len]
    refine ⟨by omega, by omega, by omega, ?_⟩
    refine hn hlt _ _ ⟨rfl, ?_⟩
    congr 1
    apply tabCells_ext
    intro j hj
    rw [take_has hlt, hcc]
    by_cases h : j = c
    · subst h; simp
    · simp [h, show ¬ c = j from fun e => h e.symm]
      omega
  · have : i = codes.length := by omega
    subst this
    refine bs_f (by simp) ?_
    rw [List.take_length]
    have hB : TabS (H.row b9 (tabCells m fun j => codes.contains (j : Int)) (2 ^ m)) ⟨some ⟨b9, 0, none⟩, 2 ^ m, 2 ^ m⟩ m (fun j => codes.contains (j : Int)) :=
      ⟨by show 2 ^ m ≤ _; omega, by simp [tab_len], .inr ⟨b9, 0, rfl, cellsAre_of (row_self ..)⟩⟩
    have l03 := Hp.le_trans l0 (l9 (tabCells m fun j => codes.contains (j : Int)))
    have f43 : (H.row b9 (tabCells m fun j => codes.contains (j : Int)) (2 ^ m)) b4 = _ := (row_ne _ _ n49).trans f4
    refine diagram_spec (by omega) hB (fun hno => ?_) (fun r hr t h3 l3 o3 => ?_)
    · have e : toldP (m : Nat) (fun j => codes.contains (j : Int)) = noBd := by
        unfold toldP; rw [if_pos hv, Int.toNat_natCast, hno]
      rw [e] at k
      refine ⟨_, ⟨none, 0, 0⟩, _, _, rfl, ?_⟩
      simp only [vm, mm, f43]
      exact ⟨by omega, k ⟨none, 0, 0⟩ _ (le_row_of _ _ hb4 l03) (own_nil _ _)⟩
    · have e : toldP (m : Nat) (fun j => codes.contains (j : Int)) = ⟨m, r.2, r.1, true⟩ := by
        unfold toldP; rw [if_pos hv, Int.toNat_natCast, hr]
      rw [e] at k
      refine ⟨_, _, _, _, rfl, ?_⟩
      have f44 := l3 _ _ f43
      simp only [vm, mm, f44]
      exact ⟨by omega, k t _ (le_row_of _ _ hb4 (Hp.le_trans l03 l3)) (o3.mono (keep_row _ _ (sub_none f43) (sub_anti _ l03)))⟩

end Go.Lead
