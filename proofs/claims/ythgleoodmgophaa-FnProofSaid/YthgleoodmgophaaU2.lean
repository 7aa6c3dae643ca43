/- What the reference's units compute. -/
import Derived.Test.YthgleoodmgophaaU1
namespace Go.Lead
open Go
set_option linter.unusedSimpArgs false
set_option linter.unusedVariables false

theorem roundsP_none {cls : List (List Int)} {set : List Int} (e : passP cls set false = none) : roundsP cls set = none := by rw [roundsP, e]
theorem roundsP_done {cls : List (List Int)} {set set' : List Int} (e : passP cls set false = some (set', false)) : roundsP cls set = some set' := by rw [roundsP, e]; rfl
theorem roundsP_more {cls : List (List Int)} {set set' : List Int} (e : passP cls set false = some (set', true)) (h : set.length < set'.length ∧ set'.length ≤ 20) :
    roundsP cls set = roundsP cls set' := by rw [roundsP, e]; simp [h]

/-- A list that grows, apart from a heap that is kept. -/
structure Grown (h h' : Hp) (t : Sl) (set : List Int) : Prop where
  buf : IBuf h' t set
  le : h.le (h'.offS t)
theorem Grown.keep {h h' : Hp} {t : Sl} {set : List Int} (e : Grown h h' t set) : h.le h' := Hp.le_trans e.le (offS_le _ _)
theorem Grown.app {h h' : Hp} {t : Sl} {set : List Int} {x : Int} {b : Nat} {K : Option Addr → Nat → Nat → Hp → Prop} (e : Grown h h' t set) (hl : set.length ≤ 1048576) (hb : h' b = none)
    (k : ∀ (t' : Sl) (h'' : Hp), Grown h h'' t' (set ++ [x]) → K t'.a t'.n t'.c h'') : aApp (h'.row b [I x] 1) t.a t.n t.c (some ⟨b, 0, none⟩) 1 1 8 K := by
  have l := le_row [I x] 1 hb
  refine aApp_int (e.buf.mono l) hl (cell_row _ _ _ _ _) fun t' h'' hb' hl' => k t' h'' ⟨hb', Hp.le_trans (Hp.le_trans e.le (offS_mono t l)) hl'⟩

theorem spec_l10Units_spec {h : Hp} {s g : Sl} {cls : List (List Int)} {given : List Int} {v : Int} {R : Value → Hp → Prop} (hs : IntSS h s cls) (hg : IntS h g given) (hv0 : 0 ≤ v) (hv : v ≤ 10)
    (hc : ∀ l ∈ cls, ∀ x ∈ l, x ≠ 0 ∧ -v ≤ x ∧ x ≤ v) (hgl : ∀ x ∈ given, x ≠ 0 ∧ -v ≤ x ∧ x ≤ v)
    (k0 : unitsP cls given = none → ∀ h', h.le h' → R (.tuple #[.slice none 0 0, .bool true]) h')
    (k1 : ∀ set, unitsP cls given = some set → Known v set → ∀ t h', Grown h h' t set → R (.tuple #[Sl.v t, .bool false]) h') : c_spec_l10Units #[s.v, g.v] h R := by
  apply R_spec_l10Units
  unfold F_spec_l10Units
  have hgb := hg.bound
  have hsb := hs.bound
  refine loop_up given.length (fun i vs h' => ∃ t set, vs = [s.v, g.v, Sl.v t, I i] ∧ Grown h h' t set ∧ Known v set ∧ givenP (given.drop i) set = givenP given [])
    ⟨⟨none, 0, 0⟩, [], rfl, ⟨buf_nil _ _, Hp.le_refl _⟩, known_nil v, rfl⟩ ?_
  rintro i _ h1 next hi ⟨t, set, rfl, hgr, hkn, hp⟩ hn
  refine ⟨_, _, _, _, rfl, ?_⟩
  have hsl := hkn.len hv hv0
  by_cases hlt : i < given.length
  · obtain ⟨b, o, ha, hcc⟩ := (hg.mono hgr.keep).at hlt
    have hgi := hgl _ (List.getElem_mem hlt)
    rw [drop_step hlt] at hp
    simp only [givenP] at hp
    refine bs_t (by simp [hg.len, hlt]) ?_
    simp only [vm, hg.len, ha, hcc, W_succ (n := i) (by omega)]
    rw [W_id (n := 0 - given[i]) (by omega) (by omega), Int.zero_sub]
    refine ⟨by omega, l10Has_spec (hgr.buf.ints (by omega)) ⟨_, rfl, bsplit_of (fun he => ?_) (fun he => ?_)⟩⟩
    · rw [if_pos he] at hp
      exact k0 (by rw [unitsP, ← hp]; rfl) _ hgr.keep
    rw [if_neg (by rw [he]; simp)] at hp
    simp only [vm, hcc]
    refine ⟨by omega, l10Has_spec (hgr.buf.ints (by omega)) ⟨_, rfl, bsplit_of (fun he2 => ?_) (fun he2 => ?_)⟩⟩
    · have he2' : set.contains given[i] = false := by simpa using he2
      rw [he2'] at hp
      simp only [vm, mm, hcc]
      refine ⟨by omega, fun b2 hb2 => hgr.app (by omega) hb2 fun t' h2 hgr' => ?_⟩
      exact hn hlt _ _ ⟨t', _, rfl, hgr', hkn.add hgi (by simpa using he2') (by simpa using he), by simpa using hp⟩
    · have he2' : set.contains given[i] = true := by simpa using he2
      rw [if_pos he2'] at hp
      exact hn hlt _ _ ⟨t, _, rfl, hgr, hkn, hp⟩
  have : i = given.length := by omega
  subst this
  rw [List.drop_length] at hp
  have hT : unitsP cls given = roundsP cls set := by rw [unitsP, ← hp]; rfl
  refine bs_f (by simp [hg.len]) ?_
  refine loop_down (22 - set.length) (fun m vs h' => ∃ t set, Grown h h' t set ∧ Known v set ∧
      ((vs = [s.v, Sl.v t, .bool true] ∧ unitsP cls given = roundsP cls set ∧ m = 22 - set.length) ∨ (vs = [s.v, Sl.v t, .bool false] ∧ unitsP cls given = some set ∧ m = 0)))
    ⟨t, set, hgr, hkn, .inl ⟨rfl, hT, rfl⟩⟩ ?_
  clear hn next hp hT hgr hkn hsl
  rintro m _ h2 next ⟨t, set, hgr, hkn, ⟨rfl, hT, rfl⟩ | ⟨rfl, hT, rfl⟩⟩ hn
  rotate_left
  · exact ⟨_, _, _, rfl, bs_f rfl (k1 _ hT hkn _ _ hgr)⟩
  refine ⟨_, _, _, rfl, bs_t rfl ?_⟩
  have hsl := hkn.len hv hv0
  refine loop_up cls.length (fun i vs h' => ∃ t' set' more', vs = [s.v, Sl.v t', .bool more', I i] ∧ Grown h h' t' set' ∧ Known v set' ∧ passP (cls.drop i) set' more' = passP cls set false)
    ⟨t, set, false, rfl, hgr, hkn, rfl⟩ ?_
  rintro i _ h3 next3 hi ⟨t', set', more', rfl, hgr', hkn', hp⟩ hn3
  refine ⟨_, _, _, _, rfl, ?_⟩
  have hsl' := hkn'.len hv hv0
  by_cases hlt : i < cls.length
  · obtain ⟨b, o, tc, ha, hcc, htc⟩ := (hs.mono hgr'.keep).at hlt
    have hli := hc _ (List.getElem_mem hlt)
    rw [drop_step hlt] at hp
    simp only [passP] at hp
    refine bs_t (by simp [hs.len, hlt]) ?_
    simp only [vm, hs.len, ha, hcc, W_succ (n := i) (by omega)]
    refine ⟨by omega, l10Left_spec htc (hgr'.buf.ints (by omega)) (fun x hx => by have := hli x hx; omega) ⟨_, _, rfl, bsplit_of (fun he => ?_) (fun he => bsplit_of (fun he2 => ?_) (fun he2 => ?_))⟩⟩
    · rw [if_pos he] at hp
      exact k0 (by rw [hT]; exact roundsP_none hp.symm) _ hgr'.keep
    · rw [if_neg (by rw [he]; simp), if_pos he2] at hp
      have h0 : (0 : Int) ∉ set' := fun h => (hkn'.lit 0 h).1 rfl
      have hnew := leftP_new hkn'.cons h0 (fun x hx => (hli x hx).1) (by simpa using he2)
      simp only [vm, mm]
      refine fun b2 hb2 => hgr'.app (by omega) hb2 fun t'' h4 hgr'' => ?_
      exact hn3 hlt _ _ ⟨t'', _, _, rfl, hgr'', hkn'.add (hli _ hnew.1) hnew.2.1 hnew.2.2, hp⟩
    · rw [if_neg (by rw [he]; simp), if_neg (by rw [he2]; simp)] at hp
      exact hn3 hlt _ _ ⟨t', _, _, rfl, hgr', hkn', hp⟩
  have : i = cls.length := by omega
  subst this
  rw [List.drop_length] at hp
  simp only [passP] at hp
  refine bs_f (by simp [hs.len]) ?_
  have hpk := passP_known cls set false hkn hc _ _ hp.symm
  cases more' with
  | false => exact hn 0 (by omega) _ _ ⟨t', set', hgr', hkn', .inr ⟨rfl, by rw [hT]; exact roundsP_done hp.symm, rfl⟩⟩
  | true =>
    have hlen : set.length < set'.length := by
      rcases hpk.2.2 rfl with h | h
      · cases h
      · exact h
    exact hn (22 - set'.length) (by omega) _ _ ⟨t', set', hgr', hkn', .inl ⟨rfl, by rw [hT]; exact roundsP_more hp.symm ⟨hlen, hsl'⟩, rfl⟩⟩

end Go.Lead
