/- What the program's units compute. -/
import Derived.Test.YthgleoodmgophaaU3
namespace Go.Lead
open Go
set_option linter.unusedSimpArgs false
set_option linter.unusedVariables false

/-- A map's entries that say yes to each of some numbers. -/
def setEs (set : List Int) : List (Value × Value) := set.map fun x => (I x, .bool true)
theorem mlook_set (set : List Int) (n : Int) : ∃ res, mlook (Instr.sameNow (.int .i64) (I n)) (setEs set) 0 = some res ∧ Option.getD (Option.map (fun p => p.2) res) (.bool false) = .bool (set.contains n) ∧
    mput (setEs set) (I n) (.bool true) res = setEs (if set.contains n then set else set ++ [n]) := by
  unfold setEs
  rcases mlook_cases (Instr.sameNow (.int .i64) (I n)) (fun x : Int => I x) (fun _ => .bool true) (fun x => n == x) set 0 (fun x _ => sameNow_int _ _ _) with ⟨hno, hm⟩ | ⟨j, hj, hyes, _, hm⟩
  · have hc : set.contains n = false := by
      rw [Bool.eq_false_iff]; intro h
      have := hno n (by simpa using h)
      simp at this
    exact ⟨_, hm, by rw [hc]; rfl, by rw [hc]; simp [mput]⟩
  · have he : n = set[j] := by simpa using hyes
    have hc : set.contains n = true := by
      rw [he]; simp
    refine ⟨_, hm, by rw [hc]; rfl, ?_⟩
    rw [hc, if_pos rfl]
    simp only [mput, Nat.zero_add]
    apply List.ext_getElem
    · simp
    · intro i h1 h2
      rw [List.getElem_set]
      split
      · rename_i hij; subst hij; simp [he]
      · rfl

/-- What is known, in a map of one's own. -/
structure MapG (h h' : Hp) (rm : Nat) (set : List Int) : Prop where
  map : h' rm = some (.inr (setEs set))
  le : h.le h'
  new : h rm = none
theorem MapG.put {h h' : Hp} {rm : Nat} {set set' : List Int} (e : MapG h h' rm set) : MapG h (h'.set rm (some (.inr (setEs set')))) rm set' :=
  ⟨Hp.set_eq .., le_set_of _ e.le e.new, e.new⟩

theorem impl_units_spec {h : Hp} {s g : Sl} {cls : List (List Int)} {given : List Int} {v w : Int} {R : Value → Hp → Prop} (hs : IntSS h s cls) (hg : IntS h g given) (hv0 : 0 ≤ v) (hv : v ≤ 10)
    (hc : ∀ l ∈ cls, ∀ x ∈ l, x ≠ 0 ∧ -v ≤ x ∧ x ≤ v) (hgl : ∀ x ∈ given, x ≠ 0 ∧ -v ≤ x ∧ x ≤ v)
    (k0 : unitsP cls given = none → ∀ h', h.le h' → R (.tuple #[.map none, .bool true]) h')
    (k1 : ∀ set, unitsP cls given = some set → Known v set → ∀ rm h', MapG h h' rm set → R (.tuple #[.map (some rm), .bool false]) h') : c_impl_units #[I w, s.v, g.v] h R := by
  apply R_impl_units
  unfold F_impl_units
  have hgb := hg.bound
  have hsb := hs.bound
  intro rm hrm
  refine setH_of fun h1 e1 => ?_
  have g1 : MapG h h1 rm [] := by rw [e1]; exact ⟨Hp.set_eq .., Hp.le_set _ hrm, hrm⟩
  refine loop_up given.length (fun i vs h' => ∃ set, vs = [s.v, .map (some rm), g.v, I given.length, I i] ∧ MapG h h' rm set ∧ Known v set ∧ givenP (given.drop i) set = givenP given [])
    ⟨[], by rw [hg.len]; rfl, g1, known_nil v, rfl⟩ ?_
  clear g1 e1 h1
  rintro i _ h1 next hi ⟨set, rfl, hgr, hkn, hp⟩ hn
  refine ⟨_, _, _, _, _, rfl, ?_⟩
  by_cases hlt : i < given.length
  · obtain ⟨b, o, ha, hcc⟩ := (hg.mono hgr.le).at hlt
    have hgi := hgl _ (List.getElem_mem hlt)
    rw [drop_step hlt] at hp
    simp only [givenP] at hp
    refine bs_t (by simp [hlt]) ?_
    simp only [vm, hg.len, ha, hcc, W_succ (n := i) (by omega)]
    rw [W_id (n := 0 - given[i]) (by omega) (by omega), Int.zero_sub]
    obtain ⟨res, hm, hget, _⟩ := mlook_set set (-given[i])
    refine ⟨by omega, rm, _, res, rfl, hgr.map, hm, _, hget, bsplit_of (fun he => ?_) (fun he => ?_)⟩
    · rw [if_pos he] at hp
      exact k0 (by rw [unitsP, ← hp]; rfl) _ hgr.le
    rw [if_neg (by rw [he]; simp)] at hp
    obtain ⟨res2, hm2, _, hput⟩ := mlook_set set given[i]
    refine ⟨rm, _, res2, rfl, hgr.map, hm2, ?_⟩
    rw [hput]
    refine hn hlt _ _ ⟨_, rfl, hgr.put, ?_, hp⟩
    split
    · exact hkn
    · rename_i he2
      exact hkn.add hgi (by simpa using he2) (by simpa using he)
  have : i = given.length := by omega
  subst this
  rw [List.drop_length] at hp
  have hT : unitsP cls given = roundsP cls set := by rw [unitsP, ← hp]; rfl
  refine bs_f (by simp) ?_
  refine loop_down (22 - set.length) (fun m vs h' => ∃ set, MapG h h' rm set ∧ Known v set ∧
      ((vs = [s.v, .map (some rm), .bool true] ∧ unitsP cls given = roundsP cls set ∧ m = 22 - set.length) ∨ (vs = [s.v, .map (some rm), .bool false] ∧ unitsP cls given = some set ∧ m = 0)))
    ⟨set, hgr, hkn, .inl ⟨rfl, hT, rfl⟩⟩ ?_
  clear hn next hp hT hgr hkn set h1 hi hlt
  rintro m _ h2 next ⟨set, hgr, hkn, ⟨rfl, hT, rfl⟩ | ⟨rfl, hT, rfl⟩⟩ hn
  rotate_left
  · exact ⟨_, _, _, rfl, bs_f rfl (k1 _ hT hkn _ _ hgr)⟩
  refine ⟨_, _, _, rfl, bs_t rfl ?_⟩
  have hsl := hkn.len hv hv0
  refine loop_up cls.length (fun i vs h' => ∃ set' more', vs = [s.v, .map (some rm), .bool more', s.v, I cls.length, I i] ∧ MapG h h' rm set' ∧ Known v set' ∧ passP (cls.drop i) set' more' = passP cls set false)
    ⟨set, false, by rw [hs.len]; rfl, hgr, hkn, rfl⟩ ?_
  rintro i _ h3 next3 hi ⟨set', more', rfl, hgr', hkn', hp⟩ hn3
  refine ⟨_, _, _, _, _, _, rfl, ?_⟩
  have hsl' := hkn'.len hv hv0
  by_cases hlt : i < cls.length
  · obtain ⟨b, o, tc, ha, hcc, htc⟩ := (hs.mono hgr'.le).at hlt
    have hli := hc _ (List.getElem_mem hlt)
    have hlb := htc.bound
    have h0 : (0 : Int) ∉ set' := fun h => (hkn'.lit 0 h).1 rfl
    have hlo := left_open set' hkn'.cons cls[i] 0 (fun x hx => (hli x hx).1) (by simpa using h0)
    have hnew := leftP_new hkn'.cons h0 (l := cls[i]) (fun x hx => (hli x hx).1)
    rw [drop_step hlt] at hp
    simp only [passP] at hp
    refine bs_t (by simp [hlt]) ?_
    simp only [vm, hs.len, ha, hcc]
    refine ⟨by omega, ?_⟩
    refine loop_up cls[i].length (fun j vs h' => h' = h3 ∧ ∃ o m, vs = [s.v, .map (some rm), .bool more', I o, .bool m, s.v, I cls.length, I i, tc.v, I cls[i].length, I j] ∧
      openP set' (cls[i].drop j) o m = openP set' cls[i] 0 false) ⟨rfl, 0, false, by rw [htc.len]; rfl, rfl⟩ ?_
    rintro j _ _ next4 hj ⟨rfl, o', m', rfl, hq⟩ hn4
    refine ⟨_, _, _, _, _, _, _, _, _, _, _, rfl, ?_⟩
    by_cases hjl : j < cls[i].length
    · obtain ⟨b2, o2, ha2, hc2⟩ := htc.at hjl
      have hji := hli _ (List.getElem_mem hjl)
      rw [drop_step hjl] at hq
      simp only [openP] at hq
      refine bs_t (by simp [hjl]) ?_
      obtain ⟨res, hm, hget, _⟩ := mlook_set set' (-cls[i][j])
      refine joinP_of (fun J => J (if (set'.contains (-cls[i][j]) || cls[i][j] == o') then o' else cls[i][j]) (if (set'.contains (-cls[i][j]) || cls[i][j] == o') then m' else (m' || o' != 0))) ?_ ?_
      · rw [W_succ (n := j) (by omega)]
        refine hn4 hjl _ _ ⟨rfl, _, _, rfl, ?_⟩
        split
        · rename_i hh; rw [if_pos hh] at hq; exact hq
        · rename_i hh; rw [if_neg hh] at hq; exact hq
      · intro J hJ
        simp only [vm, htc.len, ha2, hc2]
        rw [W_id (n := 0 - cls[i][j]) (by omega) (by omega), Int.zero_sub]
        refine ⟨by omega, rm, _, res, rfl, hgr'.map, hm, _, hget, bsplit_of (fun he => ?_) (fun he => bsplit_of (fun he2 => ?_) (fun he2 => bsplit_of (fun he3 => ?_) (fun he3 => ?_)))⟩
        · simp only [he, Bool.true_or, if_true] at hJ; exact hJ
        · simp only [he, he2, Bool.false_or, if_true] at hJ; exact hJ
        · simp only [he, he2, he3, Bool.or_self, Bool.false_eq_true, if_false, Bool.true_or] at hJ; exact hJ
        · simp only [he, he2, he3, Bool.or_self, Bool.false_eq_true, if_false, Bool.false_or] at hJ; exact hJ
    have : j = cls[i].length := by omega
    subst this
    rw [List.drop_length] at hq
    simp only [openP] at hq
    rw [← hq] at hlo
    simp only at hlo
    refine bs_f (by simp) (bsplit_of (fun he => ?_) (fun he => ?_))
    · have he' : o' = 0 := by simpa using he
      rw [if_pos he'] at hlo
      rw [hlo] at hp
      exact k0 (by rw [hT]; exact roundsP_none hp.symm) _ hgr'.le
    have he' : ¬ o' = 0 := by simpa using he
    rw [if_neg he'] at hlo
    obtain ⟨res, hm, hget, hput⟩ := mlook_set set' o'
    rw [W_succ (n := i) (by omega)]
    refine joinP_of (fun J => J (!(m' || set'.contains o'))) ?_ ?_
    · refine bsplit_of (fun h => ?_) (fun h => ?_)
      · have h' : (m' || set'.contains o') = false := by rw [← Bool.not_eq_true']; exact h
        rw [if_neg (by rw [h']; simp)] at hlo
        rw [hlo] at hp hnew
        have h9 : set'.contains o' = false := by cases m' <;> simp_all
        have hb9 : (o' != 0) = true := by simpa using he'
        simp only [Bool.false_eq_true, if_false, hb9, if_true] at hp
        refine ⟨rm, _, res, rfl, hgr'.map, hm, ?_⟩
        rw [hput, h9]
        have hn9 := hnew he'
        simp only [vm, mm]
        exact hn3 hlt _ _ ⟨_, _, rfl, hgr'.put, by simpa using hkn'.add (hli _ hn9.1) hn9.2.1 hn9.2.2, by simpa using hp⟩
      · have h' : (m' || set'.contains o') = true := by rw [← Bool.not_eq_false']; exact h
        rw [if_pos h'] at hlo
        rw [hlo] at hp
        exact hn3 hlt _ _ ⟨_, _, rfl, hgr', hkn', by simpa using hp⟩
    · intro J hJ
      refine bsplit_of (fun h => ?_) (fun h => ?_)
      · have h' : m' = false := by simpa using h
        rw [h', Bool.false_or] at hJ
        exact ⟨rm, _, res, rfl, hgr'.map, hm, _, hget, hJ⟩
      · have h' : m' = true := by simpa using h
        rw [h', Bool.true_or] at hJ
        exact hJ
  have : i = cls.length := by omega
  subst this
  rw [List.drop_length] at hp
  simp only [passP] at hp
  refine bs_f (by simp) ?_
  have hpk := passP_known cls set false hkn hc _ _ hp.symm
  cases more' with
  | false => exact hn 0 (by omega) _ _ ⟨set', hgr', hkn', .inr ⟨rfl, by rw [hT]; exact roundsP_done hp.symm, rfl⟩⟩
  | true =>
    have hlen : set.length < set'.length := by
      rcases hpk.2.2 rfl with h | h
      · cases h
      · exact h
    exact hn (22 - set'.length) (by omega) _ _ ⟨set', hgr', hkn', .inl ⟨rfl, by rw [hT]; exact roundsP_more hp.symm ⟨hlen, hsl'⟩, rfl⟩⟩

end Go.Lead
