/- What the reference's SatCore computes. -/
import Derived.Test.YthgleoodmgophaaC2
namespace Go.Lead
open Go
set_option linter.unusedSimpArgs false
set_option linter.unusedVariables false

theorem allW_bool {v : Nat} {xss : List (List Int)} {g : Nat → Bool} {ks : List Nat} (hk : ∀ j, j < xss.length → (g j = true ↔ j ∈ ks)) (hb : ∀ j ∈ ks, j < xss.length) :
    AllW xss ((List.range xss.length).map g) = AllB (sel xss ks) := funext fun c =>
  allW_sel (by simp) (fun j h => by simp at h; simp [hk j h]) hb c

theorem spec_SatCore_spec {h : Hp} {s : Sl} {xss : List (List Int)} {v : Int} {R : Value → Hp → Prop} (hs : IntSS h s xss)
    (k : ∀ t h', h.le h' → Own (h'.sub h) t 1 ((satCore v xss).1.map I) → R (.tuple #[Sl.v t, .bool (satCore v xss).2]) h') : c_spec_SatCore #[.agg #[I v, s.v]] h R := by
  apply R_spec_SatCore
  unfold F_spec_SatCore
  intro b hb
  have l0 := le_row [I v, s.v] 2 hb
  simp only [vm, mm]
  refine spec_CnfOk_spec (hs.mono l0) ⟨_, rfl, bsplit_of (fun hc => ?_) (fun hc => ?_)⟩
  · have hc' : CnfOkB v xss = false := by simpa using hc
    rw [satCore, hc'] at k
    exact k ⟨none, 0, 0⟩ _ l0 (own_nil _ _)
  have hc' : CnfOkB v xss = true := by simpa using hc
  obtain ⟨hv, hx, hcl⟩ := CnfOkB.iff.1 hc'
  obtain ⟨m, rfl⟩ : ∃ m : Nat, v = m := ⟨v.toNat, by omega⟩
  rw [satCore, hc', Bool.true_and] at k
  simp only [Int.toNat_natCast] at k
  simp only [vm, mm]
  refine l10Every_own (hs.mono l0) (by omega) fun t h1 l1 ot => ⟨_, rfl, ?_⟩
  have f1 := l1 _ _ (row_self ..)
  have htn : t.n = xss.length := by have := ot.1; simp at this; omega
  simp only [vm, mm, cell_of f1]
  have he : AllW xss (List.replicate xss.length true) = AllB xss := funext fun c => allW_true xss c
  refine l10Least_spec (hs.mono (Hp.le_trans l0 l1)) (ot.mono (sub_le _ _)).slc (by simp) (by omega) hcl ⟨_, rfl, ?_⟩
  rw [he]
  have hlt := leastI_lt (AllB xss) (2 ^ m)
  refine bsplit_of (fun e => ?_) (fun e => ?_)
  · simp only [ge_iff_le, decide_eq_true_eq] at e
    rw [decide_eq_false (by omega)] at k
    exact k ⟨none, 0, 0⟩ _ (Hp.le_trans l0 l1) (own_nil _ _)
  simp only [ge_iff_le, decide_eq_false_iff_not] at e
  rw [decide_eq_true (by omega), if_pos rfl] at k
  by_cases hn0 : xss.length = 0
  · refine loop_up 0 (fun i vs h' => vs = [.pointer (some ⟨b, 0, none⟩), t.v, .slice none 0 0, I i] ∧ h' = h1) ⟨rfl, rfl⟩ ?_
    rintro i _ _ next hi ⟨rfl, rfl⟩ hn
    refine ⟨_, _, _, ⟨none, 0, 0⟩, _, rfl, bs_f (by simp [htn, hn0]) ?_⟩
    have hk0 : keptP (badSel m xss) xss.length xss.length = [] := List.eq_nil_of_length_eq_zero (by have := keptP_len (badSel m xss) xss.length xss.length; omega)
    rw [hk0] at k
    exact k ⟨none, 0, 0⟩ _ (Hp.le_trans l0 l1) (own_nil _ _)
  obtain ⟨bw, z, ha, hbw⟩ := ot.2.2.resolve_left (by omega)
  have hbwn : (h.row b [I (m : Nat), s.v] 2) bw = none := sub_some_none (by rw [hbw]; simp)
  rw [sub_at hbwn] at hbw
  have hcells : ((List.replicate xss.length true).map Value.bool) = bcells xss.length (fun j => (keptP (badSel m xss) xss.length 0).contains j || decide (0 ≤ j)) := by
    apply List.ext_getElem
    · simp [bcells]
    · intro i h1 h2; simp [bcells]
  have hrow : (h1.off bw).row bw (bcells xss.length (fun j => (keptP (badSel m xss) xss.length 0).contains j || decide (0 ≤ j))) z = h1 := by
    funext c
    by_cases hc : c = bw
    · subst hc; rw [row_self, hbw, hcells]
    · rw [row_ne _ _ hc, Hp.off, Hp.set_ne _ _ hc]
  have l0b : h.le (h1.off bw) := Hp.le_trans l0 (le_off hbwn l1)
  have f1b : (h1.off bw) b = some (.inl ⟨[I (m : Nat), s.v], 2, false⟩) := le_off hbwn l1 _ _ (row_self ..)
  generalize hH : h1.off bw = H at *
  refine loop_up xss.length (fun i vs h' => ∃ o, vs = [.pointer (some ⟨b, 0, none⟩), t.v, Sl.v o, I i] ∧
    Grown (H.row bw (bcells xss.length (fun j => (keptP (badSel m xss) xss.length i).contains j || decide (i ≤ j))) z) h' o ((keptP (badSel m xss) xss.length i).map (fun (k : Nat) => (k : Int)))) ⟨⟨none, 0, 0⟩, rfl, ?_⟩ ?_
  · rw [hrow]; exact Grown.start _
  rintro i _ h2 next hi ⟨o, rfl, hgo⟩ hn
  refine ⟨_, _, _, _, _, rfl, ?_⟩
  have hbw0 : H bw = none := by rw [← hH]; exact off_at _ _
  have hkl := keptP_len (badSel m xss) xss.length i
  have hklt := keptP_lt (badSel m xss) xss.length i
  by_cases hlt2 : i < xss.length
  · have g2 := hgo.keep _ _ (row_self ..)
    refine bs_t (by simp [htn, hlt2]) ?_
    simp only [vm, mm, htn, ha, g2, bcells_set, bcells_len]
    have hgo1 := hgo.upd (bcells xss.length fun j => (keptP (badSel m xss) xss.length i ++ (List.range xss.length).drop (i + 1)).contains j)
    have hbc : (bcells xss.length fun j => if j = i then false else (keptP (badSel m xss) xss.length i).contains j || decide (i ≤ j)) =
        bcells xss.length fun j => (keptP (badSel m xss) xss.length i ++ (List.range xss.length).drop (i + 1)).contains j := by
      apply bcells_ext
      intro j hj
      rw [Bool.eq_iff_iff]
      by_cases hji : j = i
      · subst hji
        simp only [if_true, Bool.false_eq_true, false_iff, List.contains_iff_mem, List.mem_append, mem_range_drop]
        rintro (h | h)
        · have := hklt _ h; omega
        · omega
      · simp only [if_neg hji, Bool.or_eq_true, decide_eq_true_eq, List.contains_iff_mem, List.mem_append, mem_range_drop]
        constructor
        · rintro (h | h)
          · exact .inl h
          · exact .inr ⟨by omega, hj⟩
        · rintro (h | h)
          · exact .inl h
          · exact .inr (by omega)
    rw [hbc]
    have nbw : b ≠ bw := fun e => by rw [e, hbw0] at f1b; cases f1b
    have f2 : h2 b = some (.inl ⟨[I (m : Nat), s.v], 2, false⟩) := hgo.keep _ _ (by rw [row_ne _ _ nbw]; exact f1b)
    refine ⟨by omega, by omega, ?_⟩
    simp only [vm, mm, nbw, ne_eq, not_false_eq_true, cell_of f2]
    have hsH : IntSS (h2.row bw (bcells xss.length fun j => (keptP (badSel m xss) xss.length i ++ (List.range xss.length).drop (i + 1)).contains j) z) s xss :=
      (hs.mono l0b).mono (Hp.le_trans (le_row _ _ hbw0) hgo1.keep)
    have hB : BoolS (h2.row bw (bcells xss.length fun j => (keptP (badSel m xss) xss.length i ++ (List.range xss.length).drop (i + 1)).contains j) z) t
        ((List.range xss.length).map fun j => (keptP (badSel m xss) xss.length i ++ (List.range xss.length).drop (i + 1)).contains j) :=
      ⟨by omega, by simp [htn], .inr ⟨bw, 0, ha, cellsAre_of (row_self ..)⟩⟩
    refine l10Least_spec hsH hB (by simp) (by omega) hcl ⟨_, rfl, ?_⟩
    rw [allW_bool (v := m) (ks := keptP (badSel m xss) xss.length i ++ (List.range xss.length).drop (i + 1)) (fun j hj => by simp) (fun j hj => by
      rcases List.mem_append.1 hj with h | h
      · have := hklt _ h; omega
      · exact (mem_range_drop.1 h).2)]
    rw [W_succ (n := i) (by omega)]
    have hbad : badSel m xss (keptP (badSel m xss) xss.length i ++ (List.range xss.length).drop (i + 1)) =
        decide (leastI (AllB (sel xss (keptP (badSel m xss) xss.length i ++ (List.range xss.length).drop (i + 1)))) (2 ^ m) < 0) := rfl
    refine bsplit_of (fun e2 => ?_) (fun e2 => ?_)
    · have hk1 : keptP (badSel m xss) xss.length (i + 1) = keptP (badSel m xss) xss.length i ++ [i] := by
        simp only [ge_iff_le, decide_eq_true_eq] at e2
        have : badSel m xss (keptP (badSel m xss) xss.length i ++ (List.range xss.length).drop (i + 1)) = false := by rw [hbad]; simp; omega
        simp only [keptP, this]; simp
      simp only [vm, mm, bcells_set, bcells_len]
      refine ⟨by omega, by omega, ?_⟩
      rintro b5 ⟨n5, _, hb5⟩
      have hgo2 := hgo.upd (bcells xss.length fun j => (keptP (badSel m xss) xss.length (i + 1)).contains j || decide (i + 1 ≤ j))
      have hbc2 : (bcells xss.length fun j => if j = i then true else (keptP (badSel m xss) xss.length i ++ (List.range xss.length).drop (i + 1)).contains j) =
          bcells xss.length fun j => (keptP (badSel m xss) xss.length (i + 1)).contains j || decide (i + 1 ≤ j) := by
        apply bcells_ext
        intro j hj
        rw [Bool.eq_iff_iff, hk1]
        by_cases hji : j = i
        · subst hji; simp
        · rw [if_neg hji]
          simp only [Bool.or_eq_true, decide_eq_true_eq, List.contains_iff_mem, List.mem_append, mem_range_drop, List.mem_singleton, hji, or_false]
          constructor
          · rintro (h | h)
            · exact .inl h
            · exact .inr h.1
          · rintro (h | h)
            · exact .inl h
            · exact .inr ⟨h, hj⟩
      rw [hbc2]
      have hb5' : (h2.row bw (bcells xss.length fun j => (keptP (badSel m xss) xss.length (i + 1)).contains j || decide (i + 1 ≤ j)) z) b5 = none := by rw [row_none]; exact ⟨n5, hb5⟩
      refine hgo2.app (by simp; omega) hb5' fun o' h3 hg3 => hn hlt2 _ _ ⟨o', rfl, ?_⟩
      rw [hk1, List.map_append]
      rw [hk1] at hg3
      exact hg3
    · have hk1 : keptP (badSel m xss) xss.length (i + 1) = keptP (badSel m xss) xss.length i := by
        simp only [ge_iff_le, decide_eq_false_iff_not] at e2
        have : badSel m xss (keptP (badSel m xss) xss.length i ++ (List.range xss.length).drop (i + 1)) = true := by rw [hbad]; simp; omega
        simp only [keptP, this]; simp
      refine hn hlt2 _ _ ⟨o, rfl, ?_⟩
      rw [hk1]
      have hbc3 : (bcells xss.length fun j => (keptP (badSel m xss) xss.length i ++ (List.range xss.length).drop (i + 1)).contains j) =
          bcells xss.length fun j => (keptP (badSel m xss) xss.length i).contains j || decide (i + 1 ≤ j) := by
        apply bcells_ext
        intro j hj
        rw [Bool.eq_iff_iff]
        simp only [Bool.or_eq_true, decide_eq_true_eq, List.contains_iff_mem, List.mem_append, mem_range_drop]
        constructor
        · rintro (h | h)
          · exact .inl h
          · exact .inr h.1
        · rintro (h | h)
          · exact .inl h
          · exact .inr ⟨h, hj⟩
      rw [← hbc3]
      exact hgo1
  · have : i = xss.length := by omega
    subst this
    refine bs_f (by simp [htn]) (k o _ (Hp.le_trans l0b (Hp.le_trans (le_row _ _ hbw0) hgo.keep)) ((hgo.own (by simp; omega)).mono (sub_anti _ (Hp.le_trans l0b (le_row _ _ hbw0)))))

end Go.Lead
