/- What both sides' looks at numbers by clauses compute. -/
import Derived.Test.YthgleoodmgophaaS1
namespace Go.Lead
open Go
set_option linter.unusedSimpArgs false
set_option linter.unusedVariables false

/-- A slice of truths. -/
def BoolS (h : Hp) (s : Sl) (xs : List Bool) : Prop := SlC h s 1 (xs.map Value.bool)
theorem BoolS.mono {h h' : Hp} {s : Sl} {xs : List Bool} (l : h.le h') (e : BoolS h s xs) : BoolS h' s xs := SlC.mono l e
theorem BoolS.len {h : Hp} {s : Sl} {xs : List Bool} (e : BoolS h s xs) : s.n = xs.length := by have := e.2.1; simp at this; omega
theorem BoolS.bound {h : Hp} {s : Sl} {xs : List Bool} (e : BoolS h s xs) : xs.length ≤ 9223372036854775807 := by rw [← e.len]; exact e.1
theorem BoolS.at {h : Hp} {s : Sl} {xs : List Bool} (e : BoolS h s xs) {i : Nat} (hi : i < xs.length) :
    ∃ b o, s.a = some (Addr.mk b o none) ∧ Hp.cell h b (o + i) = some (.bool xs[i]) := by
  have hl := e.len
  obtain ⟨b, o, ha, hc⟩ := SlC.get e (by omega)
  exact ⟨b, o, ha, hc i _ (by simp [hi])⟩

/-- Whether a literal holds of a number. -/
def LitB (code : Nat) (n : Int) : Bool := if n > 0 then code.testBit (n - 1).toNat else !code.testBit (-n - 1).toNat
/-- Whether all clauses that are wanted hold. -/
def AllW (xss : List (List Int)) (want : List Bool) (code : Nat) : Bool := (xss.zip want).all fun p => !p.2 || p.1.any (LitB code)
def AllB (xss : List (List Int)) (code : Nat) : Bool := xss.all fun l => l.any (LitB code)
theorem allW_true (xss : List (List Int)) (code : Nat) : AllW xss (List.replicate xss.length true) code = AllB xss code := by
  unfold AllW AllB
  induction xss with
  | nil => rfl
  | cons x xs ih => simp only [List.length_cons, List.replicate_succ, List.zip_cons_cons, List.all_cons, ih]; simp

theorem l1Bit_spec {h : Hp} {c n : Nat} {R : Value → Hp → Prop} (hn : n ≤ 64) (k : R (I (if c.testBit n then 1 else 0)) h) : c_spec_l1Bit #[I c, I n] h R := by
  apply R_spec_l1Bit
  unfold F_spec_l1Bit
  rw [Wu_nat (by omega), if_neg (by omega), shrW_nat hn, tmod_two, bit_eq]
  split <;> simp_all

theorem LitOk.iff {v n : Int} : LitOk v n = true ↔ n ≠ 0 ∧ -v ≤ n ∧ n ≤ v := by simp [LitOk]

theorem l10True_spec {h : Hp} {n v : Int} {c : Nat} {R : Value → Hp → Prop} (hv : v ≤ 10) (hn : LitOk v n = true) (k : R (.bool (LitB c n)) h) :
    c_spec_l10True #[I n, I c] h R := by
  apply R_spec_l10True
  unfold F_spec_l10True
  rw [LitOk.iff] at hn
  refine bsplit_of (fun e => ?_) (fun e => ?_)
  · simp at e
    obtain ⟨m, hm⟩ : ∃ m : Nat, n - 1 = m := ⟨(n - 1).toNat, by omega⟩
    rw [W_id (by omega) (by omega), hm]
    refine l1Bit_spec (by omega) ⟨_, rfl, ?_⟩
    simp only [LitB, hm, if_pos e, Int.toNat_natCast] at k
    cases h' : c.testBit m <;> simpa [h'] using k
  · simp at e
    obtain ⟨m, hm⟩ : ∃ m : Nat, -n - 1 = m := ⟨(-n - 1).toNat, by omega⟩
    rw [W_id (n := 0 - n) (by omega) (by omega), Int.zero_sub, W_id (by omega) (by omega), hm]
    refine l1Bit_spec (by omega) ⟨_, rfl, ?_⟩
    simp only [LitB, hm, if_neg (show ¬ n > 0 by omega), Int.toNat_natCast] at k
    cases h' : c.testBit m <;> simpa [h'] using k

theorem literal_spec {h : Hp} {n v : Int} {c : Nat} {R : Value → Hp → Prop} (hv : v ≤ 10) (hc : c < 9223372036854775808) (hn : LitOk v n = true) (k : R (.bool (LitB c n)) h) :
    c_impl_literal #[I n, I c] h R := by
  apply R_impl_literal
  unfold F_impl_literal
  rw [LitOk.iff] at hn
  have hd (m : Nat) : c / 2 ^ m < 9223372036854775808 := Nat.lt_of_le_of_lt (Nat.div_le_self _ _) hc
  refine bsplit_of (fun e => ?_) (fun e => ?_)
  · simp at e
    obtain ⟨m, hm⟩ : ∃ m : Nat, -n - 1 = m := ⟨(-n - 1).toNat, by omega⟩
    rw [W_id (n := 0 - n) (by omega) (by omega), Int.zero_sub, W_id (by omega) (by omega), hm, if_neg (by omega), shrW_nat (by omega), andW_one (hd m), bit_eq]
    simp only [LitB, hm, if_neg (show ¬ n > 0 by omega), Int.toNat_natCast] at k
    cases h' : c.testBit m <;> simpa [h'] using k
  · simp at e
    obtain ⟨m, hm⟩ : ∃ m : Nat, n - 1 = m := ⟨(n - 1).toNat, by omega⟩
    rw [W_id (by omega) (by omega), hm, if_neg (by omega), shrW_nat (by omega), andW_one (hd m), bit_eq]
    simp only [LitB, hm, if_pos (show n > 0 by omega), Int.toNat_natCast] at k
    cases h' : c.testBit m <;> simpa [h'] using k

theorem ClauseOk.lit {v : Int} {l : List Int} (e : ClauseOk v l = true) {n : Int} (hn : n ∈ l) : LitOk v n = true := by
  simp only [ClauseOk, Bool.and_eq_true, List.all_eq_true] at e; exact e.2 n hn
theorem ClauseOk.len {v : Int} {l : List Int} (e : ClauseOk v l = true) : l.length ≤ 10 := by
  simp only [ClauseOk, Bool.and_eq_true, decide_eq_true_eq] at e; exact e.1
theorem CnfOkB.iff {v : Int} {c : List (List Int)} : CnfOkB v c = true ↔ (1 ≤ v ∧ v ≤ 10) ∧ c.length ≤ 60 ∧ ∀ l ∈ c, ClauseOk v l = true := by
  simp [CnfOkB, List.all_eq_true]

theorem l10Any_spec {h : Hp} {s : Sl} {xs : List Int} {v : Int} {c : Nat} {R : Value → Hp → Prop} (hs : IntS h s xs) (hv : v ≤ 10) (hx : ClauseOk v xs = true)
    (k : R (.bool (xs.any (LitB c))) h) : c_spec_l10Any #[s.v, I c] h R := by
  apply R_spec_l10Any
  unfold F_spec_l10Any
  have hb := hs.bound
  refine loop_up xs.length (fun i vs h' => vs = [s.v, I c, I i] ∧ h' = h ∧ (xs.take i).any (LitB c) = false) ⟨rfl, rfl, by simp⟩ ?_
  rintro i _ _ next hi ⟨rfl, rfl, hp⟩ hn
  refine ⟨_, _, _, rfl, ?_⟩
  by_cases hlt : i < xs.length
  · obtain ⟨b, o, ha, hc⟩ := hs.at hlt
    refine bs_t (by simp [hs.len, hlt]) ?_
    simp only [vm, hs.len, ha, hc, W_succ (n := i) (by omega)]
    refine ⟨by omega, l10True_spec hv (ClauseOk.lit hx (List.getElem_mem hlt)) ⟨_, rfl, bsplit_of (fun he => ?_) (fun he => ?_)⟩⟩
    · rwa [any_true (xs := xs) hlt he] at k
    · exact hn hlt _ _ ⟨rfl, rfl, by rw [any_step hlt, hp, he]; rfl⟩
  · have : i = xs.length := by omega
    subst this
    rw [List.take_length] at hp
    refine bs_f (by simp [hs.len]) ?_
    rwa [hp] at k

theorem l10All_spec {h : Hp} {s w : Sl} {xss : List (List Int)} {want : List Bool} {n v : Int} {c : Nat} {R : Value → Hp → Prop} (hs : IntSS h s xss) (hw : BoolS h w want)
    (hl : want.length = xss.length) (hv : v ≤ 10) (hx : ∀ l ∈ xss, ClauseOk v l = true) (k : R (.bool (AllW xss want c)) h) : c_spec_l10All #[.agg #[I n, s.v], w.v, I c] h R := by
  refine ACalls.drop (R_spec_l10All ?_)
  unfold F_spec_l10All
  intro b hb
  have l0 := le_row [I n, s.v] 2 hb
  have hz : (xss.zip want).length = xss.length := by simp [hl]
  simp only [vm, mm, joinP]
  refine loop_up xss.length (fun i vs h' => vs = [w.v, I c, .pointer (some ⟨b, 0, none⟩), I i] ∧ h' = h.row b [I n, s.v] 2 ∧ ((xss.zip want).take i).all (fun p => !p.2 || p.1.any (LitB c)) = true) ⟨rfl, rfl, by simp⟩ ?_
  rintro i _ _ next hi ⟨rfl, rfl, hp⟩ hn
  refine ⟨_, _, _, _, _, rfl, ?_⟩
  simp only [vm, mm, hs.len]
  have hb' := hs.bound
  by_cases hlt : i < xss.length
  · obtain ⟨b', o, t, ha, hc', ht⟩ := (hs.mono l0).at hlt
    obtain ⟨b2, o2, ha2, hc2⟩ := (hw.mono l0).at (i := i) (by omega)
    have hiz : i < (xss.zip want).length := by omega
    have hg : (xss.zip want)[i] = (xss[i], want[i]'(by omega)) := by simp
    refine bs_t (by simp [hlt]) ?_
    simp only [vm, mm, ha, hc', ha2, hc2, hw.len, W_succ (n := i) (by omega)]
    refine ⟨by omega, bsplit_of (fun he => ?_) (fun he => ?_)⟩
    · refine ⟨by omega, l10Any_spec ht hv (hx _ (List.getElem_mem hlt)) ⟨_, rfl, bsplit_of (fun he2 => ⟨_, l0, ?_⟩) (fun he2 => ?_)⟩⟩
      · rw [AllW, all_false hiz] at k
        · exact k
        · rw [hg]; simp only [he]; simpa using he2
      · refine hn hlt _ _ ⟨rfl, rfl, ?_⟩
        rw [all_step hiz, hp, hg]; simp only [he]; simpa using he2
    · refine hn hlt _ _ ⟨rfl, rfl, ?_⟩
      rw [all_step hiz, hp, hg]; simp [he]
  · have : i = xss.length := by omega
    subst this
    rw [← hz, List.take_length] at hp
    refine bs_f (by simp) ⟨_, l0, ?_⟩
    rwa [AllW, hp] at k

theorem l10Every_own {h : Hp} {s : Sl} {xss : List (List Int)} {n : Int} {R : Value → Hp → Prop} (hs : IntSS h s xss) (hx : xss.length ≤ 1048576)
    (k : ∀ t h', h.le h' → Own (h'.sub h) t 1 ((List.replicate xss.length true).map Value.bool) → R (Sl.v t) h') : c_spec_l10Every #[.agg #[I n, s.v]] h R := by
  refine ACalls.drop (R_spec_l10Every ?_)
  unfold F_spec_l10Every
  intro b hb
  have l0 := le_row [I n, s.v] 2 hb
  simp only [vm, mm, hs.len, zeroRow_one]
  refine ⟨by omega, by omega, by omega, ?_⟩
  rintro b2 ⟨n21, hb2⟩
  refine loop_up xss.length (fun i vs h' => vs = [Sl.v ⟨some ⟨b2, 0, none⟩, xss.length, xss.length⟩, I i] ∧
    ∃ cs, h' = (h.row b [I n, s.v] 2).row b2 cs xss.length ∧ cs.length = xss.length ∧ cs.take i = List.replicate i (.bool true)) ⟨rfl, _, rfl, by simp, by simp⟩ ?_
  rintro i _ _ next hi ⟨rfl, cs, rfl, hcl, hp⟩ hn
  refine ⟨_, _, rfl, ?_⟩
  by_cases hlt : i < xss.length
  · refine bs_t (by simp [hlt]) ?_
    simp only [vm, mm, W_succ (n := i) (by omega)]
    refine ⟨by omega, by omega, hn hlt _ _ ⟨rfl, _, rfl, by simpa using hcl, ?_⟩⟩
    rw [take_set _ (by omega), hp, List.replicate_succ']
  · have : i = xss.length := by omega
    subst this
    rw [← hcl, List.take_length, hcl] at hp
    subst hp
    refine bs_f (by simp) ⟨_, Hp.le_refl _, k _ _ (le_row_of _ _ hb2 l0) ⟨by simp, by show xss.length ≤ _; omega, .inr ⟨b2, xss.length, rfl, ?_⟩⟩⟩
    rw [List.map_replicate]
    exact sub_row _ _ hb2
theorem l10Every_spec {h : Hp} {s : Sl} {xss : List (List Int)} {n : Int} {R : Value → Hp → Prop} (hs : IntSS h s xss) (hx : xss.length ≤ 1048576)
    (k : ∀ t h', h.le h' → BoolS (h'.sub h) t (List.replicate xss.length true) → R (Sl.v t) h') : c_spec_l10Every #[.agg #[I n, s.v]] h R := l10Every_own hs hx fun t h' l o => k t h' l o.slc

/-- The first number for which something holds, below a bound. -/
def leastI (p : Nat → Bool) (n : Nat) : Int := idxI p (List.range n)
theorem leastI_none {p : Nat → Bool} {n : Nat} (e : (List.range n).any p = false) : leastI p n = -1 := idxI_none e
theorem leastI_some {p : Nat → Bool} {n i : Nat} (hi : i < n) (e : (List.range i).any p = false) (hp : p i = true) : leastI p n = i :=
  idxI_some (by simpa using hi) (by rw [List.take_range, Nat.min_eq_left (by omega)]; exact e) (by simpa using hp)
theorem range_any_step {p : Nat → Bool} {i : Nat} (e : (List.range i).any p = false) (hp : p i = false) : (List.range (i + 1)).any p = false := by
  rw [List.range_succ, List.any_append, e]; simp [hp]
theorem leastI_lt (p : Nat → Bool) (n : Nat) : leastI p n < n ∧ -1 ≤ leastI p n := by
  unfold leastI idxI
  split
  · rename_i i h
    have := (List.findIdx?_eq_some_iff_getElem.1 h).1
    simp at this; omega
  · omega

theorem l10Least_spec {h : Hp} {s w : Sl} {xss : List (List Int)} {want : List Bool} {v : Nat} {R : Value → Hp → Prop} (hs : IntSS h s xss) (hw : BoolS h w want)
    (hl : want.length = xss.length) (hv : v ≤ 10) (hx : ∀ l ∈ xss, ClauseOk v l = true) (k : R (I (leastI (AllW xss want) (2 ^ v))) h) : c_spec_l10Least #[.agg #[I v, s.v], w.v] h R := by
  refine ACalls.drop (R_spec_l10Least ?_)
  unfold F_spec_l10Least
  intro b hb
  have l0 := le_row [I v, s.v] 2 hb
  have h2 := two_pow_le (n := v) (by omega)
  simp only [vm, mm, joinP]
  refine loop_up (2 ^ v) (fun i vs h' => vs = [w.v, .pointer (some ⟨b, 0, none⟩), I i] ∧ h' = h.row b [I v, s.v] 2 ∧ (List.range i).any (AllW xss want) = false) ⟨rfl, rfl, by simp⟩ ?_
  rintro i _ _ next hi ⟨rfl, rfl, hp⟩ hn
  refine ⟨_, _, _, _, rfl, ?_⟩
  simp only [vm, mm]
  rw [Wu_nat (by omega), if_neg (by omega), shlW_one (by omega)]
  by_cases hlt : i < 2 ^ v
  · refine bs_t (by simpa using by exact_mod_cast hlt) ?_
    refine l10All_spec (hs.mono l0) (hw.mono l0) hl (by omega) hx ⟨_, rfl, bsplit_of (fun he => ⟨_, l0, ?_⟩) (fun he => ?_)⟩
    · rwa [leastI_some hlt hp he] at k
    · rw [W_succ (by omega)]
      exact hn hlt _ _ ⟨rfl, rfl, range_any_step hp he⟩
  · have : i = 2 ^ v := by omega
    subst this
    refine bs_f (by simp) ⟨_, l0, ?_⟩
    rwa [leastI_none hp] at k

theorem clausesHold_spec {h : Hp} {s : Sl} {xss : List (List Int)} {v : Int} {c : Nat} {R : Value → Hp → Prop} (hs : IntSS h s xss) (hv : v ≤ 10) (hc : c < 9223372036854775808)
    (hx : ∀ l ∈ xss, ClauseOk v l = true) (k : R (.bool (AllB xss c)) h) : c_impl_clausesHold #[s.v, I c] h R := by
  refine ACalls.drop (R_impl_clausesHold ?_)
  unfold F_impl_clausesHold
  intro b hb
  have l0 := le_row [I c] 1 hb
  simp only [vm, mm]
  refine ContainsFunc_ints_spec (fun l => !l.any (LitB c)) (hs.mono l0) ?_ ⟨_, rfl, _, l0, ?_⟩
  · intro x hxm t ht R k
    refine R_impl_clausesHold_d1 (b2 := b) (o3 := 0) ?_
    unfold F_impl_clausesHold_d1
    refine ContainsFunc_int_spec (LitB c) ht ?_ ⟨_, rfl, k⟩
    intro y hy R k
    refine R_impl_clausesHold_d1_d1 (b2 := b) (o3 := 0) ?_
    unfold F_impl_clausesHold_d1_d1
    simp only [vm, mm]
    exact literal_spec hv hc (ClauseOk.lit (hx _ hxm) hy) ⟨_, rfl, k⟩
  · have : (!xss.any fun l => !l.any (LitB c)) = AllB xss c := by rw [AllB, List.all_eq_not_any_not]
    rwa [this]

end Go.Lead
